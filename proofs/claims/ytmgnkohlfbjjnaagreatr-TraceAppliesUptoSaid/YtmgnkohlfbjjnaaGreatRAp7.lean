/- Ground for this claim: The call of TraceApplies returns true. Condition: the arguments are of bulk at most 1048576. -/
import Derived.Test.YtmgnkohlfbjjnaaGreatRProg
import Derived.KernelRfl
import Derived.Test.YtmgnkohlfbjjnaaGreatRAp6
set_option linter.unusedVariables false
set_option linter.unusedSimpArgs false
section
namespace Go.Proofs
open Go.Fw Go.Fx
set_option maxRecDepth 10000
set_option maxHeartbeats 4000000 in
theorem eC {x0:List UInt8} {x1:List UInt8} {s1:SV} {s3:SV} {out:Bool} {w0:World} {Bf:World → Prop} {Lr:List Res} (hP:Sh.aV x0 x1 = some out) (hM:MemL w0 (Lr)) (hsub:∀ w,MemL w Lr → Bf w) (f2:LIn Bf s1 x0) (f4:LIn Bf s3 x1):Calls Tryz.prog 43 #[(s1).v,(s3).v] w0 (Ret fun v w'=>v = .bool out ∧ MemL w' (Lr)):=by
 unfold Sh.aV at hP
 refine aR (vs:=[(s1).v,(s3).v]) Tryz.func43 rfl Tryz.ntmps43 rfl fun a hF=>?_
 refine aG ?_
 refine aD ?_
 refine aA hF (aH hF rfl rfl) rfl rfl rfl fun a hF=>?_
 refine aJ (aB ?_)
 refine aG ?_
 refine aD ?_
 refine aA hF (aF hF rfl rfl) rfl rfl rfl fun a hF=>?_
 refine aA hF (iD (f2 _ (hsub _ (dropM hM 0))) qU23 qU5 qU9 hF rfl rfl) rfl rfl rfl fun a hF=>?_
 refine aA hF (aF hF rfl rfl) rfl rfl rfl fun a hF=>?_
 refine aA hF (iD (f4 _ (hsub _ (dropM hM 0))) qU23 qU5 qU9 hF rfl rfl) rfl rfl rfl fun a hF=>?_
 refine aA hF (tZ (i:=x0) (j:=x1) hF rfl rfl rfl) rfl rfl rfl fun a hF=>?_
 refine aA hF (aH hF rfl rfl) rfl rfl rfl fun a hF=>?_
 refine aJ (aB ?_)
 refine c_ret ?_
 have hP:=oI hP
 subst hP
 refine bH Tryz.results43 hF rfl ?_
 exact ⟨rfl,hM⟩
set_option maxHeartbeats 4000000 in
theorem jT {x0:List Int} {x1:List Int} {s1:SV} {s3:SV} {out:Bool} {w0:World} {Bf:World → Prop} {Lr:List Res} (hP:Sh.gN x0 x1 = some out) (hM:MemL w0 (Lr)) (hsub:∀ w,MemL w Lr → Bf w) (f2:LIn Bf s1 x0) (f4:LIn Bf s3 x1):Calls Tryz.prog 89 #[(s1).v,(s3).v] w0 (Ret fun v w'=>v = .bool out ∧ MemL w' (Lr)):=by
 unfold Sh.gN at hP
 refine aR (vs:=[(s1).v,(s3).v]) Tryz.func89 rfl Tryz.ntmps89 rfl fun a hF=>?_
 refine aG ?_
 refine aD ?_
 refine aA hF (aH hF rfl rfl) rfl rfl rfl fun a hF=>?_
 refine aJ (aB ?_)
 refine aG ?_
 refine aG ?_
 refine aD ?_
 refine aA hF (aF hF rfl rfl) rfl rfl rfl fun a hF=>?_
 refine aA hF (bM (f2 _ (hsub _ (dropM hM 0))) qU52 hF rfl rfl) rfl rfl rfl fun a hF=>?_
 refine aA hF (aF hF rfl rfl) rfl rfl rfl fun a hF=>?_
 refine aA hF (bM (f4 _ (hsub _ (dropM hM 0))) qU52 hF rfl rfl) rfl rfl rfl fun a hF=>?_
 refine aA hF (dC hF rfl rfl rfl) rfl rfl rfl fun a hF=>?_
 refine aJ (aB ?_)
 refine aV hF (c:=.tmp 10) rfl (fun c0=>?_) (fun c0=>?_)
 ·have hP:=Fx.cT c0 hP
  refine aG ?_
  refine aD ?_
  refine aA hF (aH hF rfl rfl) rfl rfl rfl fun a hF=>?_
  refine aJ (aB ?_)
  refine c_ret ?_
  have hP:=oI hP
  subst hP
  refine bH Tryz.results89 hF rfl ?_
  exact ⟨rfl,hM⟩
 have hP:=Fx.cF c0 hP
 refine aW (aB ?_)
 refine aG ?_
 refine aU hF hM hP (fun F x a w=>match x with | _=>Fr 26 [(4,.bool false)] a ∧ MemL w (Lr)) (fun d0 hP c9 hF hM=>?_) ?_
 ·refine aG ?_
  refine aD ?_
  refine aA hF (aH hF rfl rfl) rfl rfl rfl fun a hF=>?_
  refine aJ (aB ?_)
  refine aT ?_
  refine bU hF hM hP (fun F x a w=>match x with | c3=>Fr 26 [(5,.int .i64 c3),(0,(s1).v),(1,(s3).v),(4,.bool false)] a ∧ MemL w (Lr)) (fun hF hM=>⟨hF.to ⟨rfl,rfl,rfl,rfl,trivial⟩,hM⟩) ?_
  rintro c3 a w d1 hP c4 ⟨hF,hM⟩
  replace hP:Sh.dK x0 x1 c3 = _:=hP
  unfold Sh.dK at hP
  refine aG ?_
  refine aG ?_
  refine aD ?_
  refine aA hF (aF hF rfl rfl) rfl rfl rfl fun a hF=>?_
  refine aA hF (aF hF rfl rfl) rfl rfl rfl fun a hF=>?_
  refine aA hF (bM (f2 _ (hsub _ (dropM hM 0))) qU52 hF rfl rfl) rfl rfl rfl fun a hF=>?_
  refine aA hF (cI hF rfl rfl rfl) rfl rfl rfl fun a hF=>?_
  refine aJ (aB ?_)
  refine aV hF (c:=.tmp 14) rfl (fun c1=>?_) (fun c1=>?_)
  ·have hP:=Fx.cT c1 hP
   refine aW (aB ?_)
   refine aG ?_
   refine aT ?_
   refine aG ?_
   refine bL mixed (by kernel_rfl) hM [] 0 rfl fun hch=>?_
   refine aK hF hch 0 rfl (by kernel_rfl) rfl rfl rfl (fun w hM=>(aF hF rfl rfl)) fun a hF=>?_
   refine aK hF hch 1 rfl (by kernel_rfl) rfl rfl rfl (fun w hM=>(aF hF rfl rfl)) fun a hF=>?_
   obtain ⟨d2,c5,hP⟩:=bind_some hP
   have c7:=aM c5
   refine aK hF hch 2 rfl (by kernel_rfl) rfl rfl rfl (fun w hM=>(aS (sz:=1) (f2 _ (hsub _ (dropM hM 0))) qU52 in3 rfl hF rfl rfl rfl (bG c5))) fun a hF=>?_
   refine aK hF hch 3 rfl (by kernel_rfl) rfl rfl rfl (fun w hM=>(aI qA3 hF rfl rfl ((((f2 _ (hsub _ (dropM hM 0))).elemS c7.2)).get 0 rfl))) fun a hF=>?_
   refine aK hF hch 4 rfl (by kernel_rfl) rfl rfl rfl (fun w hM=>(aF hF rfl rfl)) fun a hF=>?_
   refine aK hF hch 5 rfl (by kernel_rfl) rfl rfl rfl (fun w hM=>(aF hF rfl rfl)) fun a hF=>?_
   obtain ⟨d3,c6,hP⟩:=bind_some hP
   have c8:=aM c6
   refine aK hF hch 6 rfl (by kernel_rfl) rfl rfl rfl (fun w hM=>(aS (sz:=1) (f4 _ (hsub _ (dropM hM 0))) qU52 in3 rfl hF rfl rfl rfl (bG c6))) fun a hF=>?_
   refine aK hF hch 7 rfl (by kernel_rfl) rfl rfl rfl (fun w hM=>(aI qA3 hF rfl rfl ((((f4 _ (hsub _ (dropM hM 0))).elemS c8.2)).get 0 rfl))) fun a hF=>?_
   refine aK hF hch 8 rfl (by kernel_rfl) rfl rfl rfl (fun w hM=>(dC hF rfl rfl rfl)) fun a hF=>?_
   refine bW hch (by kernel_rfl) fun w hM=>?_
   refine aB ?_
   refine aV hF (c:=.tmp 25) rfl (fun c2=>?_) (fun c2=>?_)
   ·have hP:=Fx.cT c2 hP
    refine aG ?_
    refine aD ?_
    refine aA hF (aH hF rfl rfl) rfl rfl rfl fun a hF=>?_
    refine aJ (aB ?_)
    refine c_ret ?_
    have hP:=oI hP
    subst hP
    have hP:=c4 _ rfl
    subst hP
    have hP:=dB c9
    subst hP
    refine bH Tryz.results89 hF rfl ?_
    exact ⟨rfl,hM⟩
   have hP:=Fx.cF c2 hP
   refine aW (bK (aB ?_))
   refine aD ?_
   refine aA hF (aF hF rfl rfl) rfl rfl rfl fun a hF=>?_
   refine aA hF (bX hF rfl rfl rfl) rfl rfl rfl fun a hF=>?_
   refine aA hF (aH hF rfl rfl) rfl rfl rfl fun a hF=>?_
   refine aJ (aB ?_)
   have hP:=oI hP
   subst hP
   exact ⟨(IntKind.i64.wrap (c3 + 1)),rfl,hF.to ⟨rfl,rfl,rfl,rfl,trivial⟩,hM⟩
  have hP:=Fx.cF c1 hP
  refine bY (bD (bD (cJ ?_)))
  refine aB ?_
  have hP:=oI hP
  subst hP
  have hP:=c4 _ rfl
  subst hP
  exact ⟨(),rfl,hF.to ⟨rfl,trivial⟩,hM⟩
 rintro ⟨⟩ a w hP ⟨hF,hM⟩
 replace hP:Sh.mO = _:=hP
 unfold Sh.mO at hP
 refine aB ?_
 refine aG ?_
 refine aD ?_
 refine aA hF (aH hF rfl rfl) rfl rfl rfl fun a hF=>?_
 refine aJ (aB ?_)
 refine c_ret ?_
 have hP:=oI hP
 subst hP
 refine bH Tryz.results89 hF rfl ?_
 exact ⟨rfl,hM⟩
set_option maxHeartbeats 4000000 in
theorem eB {x0:List UInt8} {s1:SV} {out:List UInt8} {w0:World} {Bf:World → Prop} {Lr:List Res} (hP:Sh.bA x0 = some out) (hM:MemL w0 (Lr)) (hsub:∀ w,MemL w Lr → Bf w) (f2:LIn Bf s1 x0):Calls Tryz.prog 50 #[(s1).v] w0 (Ret fun v w'=>∃ (s6:SV),v = (s6).v ∧ MemL w' (rowL 0 s6 5 out :: Lr)):=by
 unfold Sh.bA at hP
 refine aR (vs:=[(s1).v]) Tryz.func50 rfl Tryz.ntmps50 rfl fun a hF=>?_
 refine aG ?_
 refine aD ?_
 refine aA hF (aH hF rfl rfl) rfl rfl rfl fun a hF=>?_
 refine aJ (aB ?_)
 refine aG ?_
 refine aD ?_
 refine aA hF (aF hF rfl rfl) rfl rfl rfl fun a hF=>?_
 have hM:=hM.rowNil (X:=UInt8) 0 5
 obtain ⟨x10,hx10,hP⟩:=bind_some hP
 refine aO hF rfl rfl rfl (cY (X:=UInt8) hx10 qU23 in5 rfl rfl rfl rfl hF rfl rfl rfl (hM.own (X:=UInt8) (i:=0) rfl) (f2 _ (hsub _ (dropM hM 1))) fun s8 w hUs8=>?_)
 have hM:=hM.chg hUs8 (i:=0) rfl
 replace hM:MemL _ (rowL 0 s8 5 x10 :: Lr):=hM
 intro a hF
 refine aA hF (aH hF rfl rfl) rfl rfl rfl fun a hF=>?_
 refine aJ (aB ?_)
 refine c_ret ?_
 have hP:=oI hP
 subst hP
 refine bH Tryz.results50 hF rfl ?_
 exact ⟨s8,rfl,hM⟩
set_option maxHeartbeats 4000000 in
theorem fI {x0:List Int} {s1:SV} {out:List Int} {w0:World} {Bf:World → Prop} {Lr:List Res} (hP:Sh.fG x0 = some out) (hM:MemL w0 (Lr)) (hsub:∀ w,MemL w Lr → Bf w) (f2:LIn Bf s1 x0):Calls Tryz.prog 81 #[(s1).v] w0 (Ret fun v w'=>∃ (s6:SV),v = (s6).v ∧ MemL w' (rowL 0 s6 3 out :: Lr)):=by
 unfold Sh.fG at hP
 refine aR (vs:=[(s1).v]) Tryz.func81 rfl Tryz.ntmps81 rfl fun a hF=>?_
 refine aG ?_
 refine aD ?_
 refine aA hF (aH hF rfl rfl) rfl rfl rfl fun a hF=>?_
 refine aJ (aB ?_)
 refine aG ?_
 refine aD ?_
 refine aA hF (aF hF rfl rfl) rfl rfl rfl fun a hF=>?_
 have hM:=hM.rowNil (X:=Int) 0 3
 obtain ⟨x10,hx10,hP⟩:=bind_some hP
 refine aO hF rfl rfl rfl (cY (X:=Int) hx10 qU52 in3 rfl rfl rfl rfl hF rfl rfl rfl (hM.own (X:=Int) (i:=0) rfl) (f2 _ (hsub _ (dropM hM 1))) fun s8 w hUs8=>?_)
 have hM:=hM.chg hUs8 (i:=0) rfl
 replace hM:MemL _ (rowL 0 s8 3 x10 :: Lr):=hM
 intro a hF
 refine aA hF (aH hF rfl rfl) rfl rfl rfl fun a hF=>?_
 refine aJ (aB ?_)
 refine c_ret ?_
 have hP:=oI hP
 subst hP
 refine bH Tryz.results81 hF rfl ?_
 exact ⟨s8,rfl,hM⟩
set_option maxHeartbeats 4000000 in
theorem jU {x0:List (List UInt8)} {x1:List (List UInt8)} {s1:SV} {hs2:List SV} {s5:SV} {hs6:List SV} {out:Bool} {w0:World} {Bf:World → Prop} {Lr:List Res} (hP:Sh.gO x0 x1 = some out) (hM:MemL w0 (Lr)) (hsub:∀ w,MemL w Lr → Bf w) (f3:LIn Bf s1 hs2) (q4:Each (LIn (X:=UInt8) Bf) hs2 x0) (f7:LIn Bf s5 hs6) (q8:Each (LIn (X:=UInt8) Bf) hs6 x1):Calls Tryz.prog 64 #[(s1).v,(s5).v] w0 (Ret fun v w'=>v = .bool out ∧ MemL w' (Lr)):=by
 unfold Sh.gO at hP
 refine aR (vs:=[(s1).v,(s5).v]) Tryz.func64 rfl Tryz.ntmps64 rfl fun a hF=>?_
 refine aG ?_
 refine aD ?_
 refine aA hF (aH hF rfl rfl) rfl rfl rfl fun a hF=>?_
 refine aJ (aB ?_)
 refine aG ?_
 refine aG ?_
 refine aD ?_
 refine aA hF (aF hF rfl rfl) rfl rfl rfl fun a hF=>?_
 refine aA hF (cQ (f3 _ (hsub _ (dropM hM 0))) q4.len qU28 hF rfl rfl) rfl rfl rfl fun a hF=>?_
 refine aA hF (aF hF rfl rfl) rfl rfl rfl fun a hF=>?_
 refine aA hF (cQ (f7 _ (hsub _ (dropM hM 0))) q8.len qU28 hF rfl rfl) rfl rfl rfl fun a hF=>?_
 refine aA hF (dC hF rfl rfl rfl) rfl rfl rfl fun a hF=>?_
 refine aJ (aB ?_)
 refine aV hF (c:=.tmp 10) rfl (fun c0=>?_) (fun c0=>?_)
 ·have hP:=Fx.cT c0 hP
  refine aG ?_
  refine aD ?_
  refine aA hF (aH hF rfl rfl) rfl rfl rfl fun a hF=>?_
  refine aJ (aB ?_)
  refine c_ret ?_
  have hP:=oI hP
  subst hP
  refine bH Tryz.results64 hF rfl ?_
  exact ⟨rfl,hM⟩
 have hP:=Fx.cF c0 hP
 refine aW (aB ?_)
 refine aG ?_
 refine aU hF hM hP (fun F x a w=>match x with | _=>Fr 27 [(4,.bool false)] a ∧ MemL w (Lr)) (fun d9 hP d5 hF hM=>?_) ?_
 ·refine aG ?_
  refine aD ?_
  refine aA hF (aH hF rfl rfl) rfl rfl rfl fun a hF=>?_
  refine aJ (aB ?_)
  refine aT ?_
  refine bU hF hM hP (fun F x a w=>match x with | c3=>Fr 27 [(5,.int .i64 c3),(0,(s1).v),(1,(s5).v),(4,.bool false)] a ∧ MemL w (Lr)) (fun hF hM=>⟨hF.to ⟨rfl,rfl,rfl,rfl,trivial⟩,hM⟩) ?_
  rintro c3 a w g0 hP c4 ⟨hF,hM⟩
  replace hP:Sh.dL x0 x1 c3 = _:=hP
  unfold Sh.dL at hP
  refine aG ?_
  refine aG ?_
  refine aD ?_
  refine aA hF (aF hF rfl rfl) rfl rfl rfl fun a hF=>?_
  refine aA hF (aF hF rfl rfl) rfl rfl rfl fun a hF=>?_
  refine aA hF (cQ (f3 _ (hsub _ (dropM hM 0))) q4.len qU28 hF rfl rfl) rfl rfl rfl fun a hF=>?_
  refine aA hF (cI hF rfl rfl rfl) rfl rfl rfl fun a hF=>?_
  refine aJ (aB ?_)
  refine aV hF (c:=.tmp 14) rfl (fun c1=>?_) (fun c1=>?_)
  ·have hP:=Fx.cT c1 hP
   refine aW (aB ?_)
   refine aG ?_
   refine aT ?_
   refine aG ?_
   refine bL mixed (by kernel_rfl) hM [] 0 rfl fun hch=>?_
   refine aK hF hch 0 rfl (by kernel_rfl) rfl rfl rfl (fun w hM=>(aF hF rfl rfl)) fun a hF=>?_
   refine aK hF hch 1 rfl (by kernel_rfl) rfl rfl rfl (fun w hM=>(aF hF rfl rfl)) fun a hF=>?_
   obtain ⟨g1,c5,hP⟩:=bind_some hP
   have c7:=aM c5
   obtain ⟨d7,d1,d3⟩:=Each.getr q4 c7.2
   have c9:=Each.bd q4 (bG c5)
   refine aK hF hch 2 rfl (by kernel_rfl) rfl rfl rfl (fun w hM=>(aS (sz:=1) (f3 _ (hsub _ (dropM hM 0))) qU28 in23 rfl hF rfl rfl rfl c9)) fun a hF=>?_
   refine aK hF hch 3 rfl (by kernel_rfl) rfl rfl rfl (fun w hM=>(aI qA23 hF rfl rfl ((((f3 _ (hsub _ (dropM hM 0))).elemS d1)).get 0 rfl))) fun a hF=>?_
   refine aK hF hch 4 rfl (by kernel_rfl) rfl rfl rfl (fun w hM=>(aF hF rfl rfl)) fun a hF=>?_
   refine aK hF hch 5 rfl (by kernel_rfl) rfl rfl rfl (fun w hM=>(aF hF rfl rfl)) fun a hF=>?_
   obtain ⟨g2,c6,hP⟩:=bind_some hP
   have c8:=aM c6
   obtain ⟨d8,d2,d4⟩:=Each.getr q8 c8.2
   have d0:=Each.bd q8 (bG c6)
   refine aK hF hch 6 rfl (by kernel_rfl) rfl rfl rfl (fun w hM=>(aS (sz:=1) (f7 _ (hsub _ (dropM hM 0))) qU28 in23 rfl hF rfl rfl rfl d0)) fun a hF=>?_
   refine aK hF hch 7 rfl (by kernel_rfl) rfl rfl rfl (fun w hM=>(aI qA23 hF rfl rfl ((((f7 _ (hsub _ (dropM hM 0))).elemS d2)).get 0 rfl))) fun a hF=>?_
   refine bC hch 8 (by kernel_rfl) rfl rfl ?_
   refine bV hF 8 rfl rfl rfl rfl rfl fun w hMs hM=>?_
   obtain ⟨g3,d6,hP⟩:=bind_some hP
   refine (aN (xs:=[.tmp 20,.tmp 24]) Tryz.call43 hF rfl rfl (eC d6 hM (Bf:=Bf) (fun w hM=>hsub _ (dropM hM 0)) d3 d4) fun v w hR=>?_)
   obtain ⟨rfl,hM⟩:=hR
   replace hM:MemL _ (Lr):=hM
   have hMs:=selM hM [] 0 rfl
   refine ⟨_,_,hMs,hM,.inl fun _ h=>h,fun a hF=>?_⟩
   refine aK hF hch 9 rfl (by kernel_rfl) rfl rfl rfl (fun w hM=>(dE hF rfl rfl)) fun a hF=>?_
   refine bW hch (by kernel_rfl) fun w hM=>?_
   refine aB ?_
   refine aV hF (c:=.tmp 26) rfl (fun c2=>?_) (fun c2=>?_)
   ·have hP:=Fx.cT c2 hP
    refine aG ?_
    refine aD ?_
    refine aA hF (aH hF rfl rfl) rfl rfl rfl fun a hF=>?_
    refine aJ (aB ?_)
    refine c_ret ?_
    have hP:=oI hP
    subst hP
    have hP:=c4 _ rfl
    subst hP
    have hP:=dB d5
    subst hP
    refine bH Tryz.results64 hF rfl ?_
    exact ⟨rfl,hM⟩
   have hP:=Fx.cF c2 hP
   refine aW (bK (aB ?_))
   refine aD ?_
   refine aA hF (aF hF rfl rfl) rfl rfl rfl fun a hF=>?_
   refine aA hF (bX hF rfl rfl rfl) rfl rfl rfl fun a hF=>?_
   refine aA hF (aH hF rfl rfl) rfl rfl rfl fun a hF=>?_
   refine aJ (aB ?_)
   have hP:=oI hP
   subst hP
   exact ⟨(IntKind.i64.wrap (c3 + 1)),rfl,hF.to ⟨rfl,rfl,rfl,rfl,trivial⟩,hM⟩
  have hP:=Fx.cF c1 hP
  refine bY (bD (bD (cJ ?_)))
  refine aB ?_
  have hP:=oI hP
  subst hP
  have hP:=c4 _ rfl
  subst hP
  exact ⟨(),rfl,hF.to ⟨rfl,trivial⟩,hM⟩
 rintro ⟨⟩ a w hP ⟨hF,hM⟩
 replace hP:Sh.mP = _:=hP
 unfold Sh.mP at hP
 refine aB ?_
 refine aG ?_
 refine aD ?_
 refine aA hF (aH hF rfl rfl) rfl rfl rfl fun a hF=>?_
 refine aJ (aB ?_)
 refine c_ret ?_
 have hP:=oI hP
 subst hP
 refine bH Tryz.results64 hF rfl ?_
 exact ⟨rfl,hM⟩
set_option maxHeartbeats 4000000 in
theorem dR {x0:QState} {x1:QState} {s1:SV} {s3:SV} {hs4:List SV} {s7:SV} {s9:SV} {s11:SV} {hs12:List SV} {s15:SV} {out:Bool} {w0:World} {Bf:World → Prop} {Lr:List Res} (hP:Sh.bV x0 x1 = some out) (hM:MemL w0 (Lr)) (hsub:∀ w,MemL w Lr → Bf w) (f2:LIn Bf s1 x0.ctx) (f5:LIn Bf s3 hs4) (q6:Each (LIn (X:=UInt8) Bf) hs4 x0.tables) (f8:LIn Bf s7 x0.sent) (f10:LIn Bf s9 x1.ctx) (f13:LIn Bf s11 hs12) (q14:Each (LIn (X:=UInt8) Bf) hs12 x1.tables) (f16:LIn Bf s15 x1.sent):Calls Tryz.prog 34 #[.agg (RState.enc (mSt x0 s1 s3 s7)).toArray,.agg (RState.enc (mSt x1 s9 s11 s15)).toArray] w0 (Ret fun v w'=>v = .bool out ∧ MemL w' (Lr)):=by
 unfold Sh.bV at hP
 refine aR (vs:=[.agg (RState.enc (mSt x0 s1 s3 s7)).toArray,.agg (RState.enc (mSt x1 s9 s11 s15)).toArray]) Tryz.func34 rfl Tryz.ntmps34 rfl fun a hF=>?_
 refine aG ?_
 refine aD ?_
 refine aO hF rfl rfl rfl (dA hF rfl rfl rfl fun c0 w c4 c2=>?_)
 have hM:=hM.plus c2
 intro a hF
 refine aO hF rfl rfl rfl (dA hF rfl rfl rfl fun c1 w c5 c3=>?_)
 have hM:=hM.plus c3
 replace hM:MemL _ (pt c1 (RState.enc (mSt x1 s9 s11 s15)) 54 :: pt c0 (RState.enc (mSt x0 s1 s3 s7)) 54 :: Lr):=hM
 intro a hF
 refine aA hF (aH hF rfl rfl) rfl rfl rfl fun a hF=>?_
 refine aJ (aB ?_)
 refine aG ?_
 refine aU hF hM hP (fun F x a w=>match x with | v83=>Fr 59 [(4,.bool v83)] a ∧ MemL w (Lr)) (fun c7 hP c6 hF hM=>?_) ?_
 ·refine aD ?_
  refine aA hF (aC (off':=0) qU54 rfl in47 rfl hF rfl rfl rfl) rfl rfl rfl fun a hF=>?_
  refine aA hF (aQ Tryz.isAgg47 Tryz.sizeOf47 hF rfl rfl (bR _) (hM.cells (i:=1) rfl (RState.c_regs _))) rfl rfl rfl fun a hF=>?_
  refine aA hF (aC (off':=0) qU54 rfl in47 rfl hF rfl rfl rfl) rfl rfl rfl fun a hF=>?_
  refine aA hF (aQ Tryz.isAgg47 Tryz.sizeOf47 hF rfl rfl (bR _) (hM.cells (i:=0) rfl (RState.c_regs _))) rfl rfl rfl fun a hF=>?_
  refine aA hF (jJ Tryz.eqGuardType47 (aDu _ _ _ _ (by decide)) hF rfl rfl rfl) rfl rfl rfl fun a hF=>?_
  refine aA hF (aF hF rfl rfl) rfl rfl rfl fun a hF=>?_
  refine bE 10 hF rfl (fun hb84=>?_) (fun hb84=>?_)
  ·have hP:=Fx.cT hb84 hP
   refine aL hF rfl rfl rfl hb84 (aC (off':=44) qU54 rfl in51 rfl hF rfl rfl rfl) rfl rfl fun a hF=>?_
   refine aL hF rfl rfl rfl hb84 (aQ Tryz.isAgg51 Tryz.sizeOf51 hF rfl rfl (bR _) (hM.cells (i:=1) rfl (RState.c_stack _))) rfl rfl fun a hF=>?_
   refine aL hF rfl rfl rfl hb84 (aC (off':=44) qU54 rfl in51 rfl hF rfl rfl rfl) rfl rfl fun a hF=>?_
   refine aL hF rfl rfl rfl hb84 (aQ Tryz.isAgg51 Tryz.sizeOf51 hF rfl rfl (bR _) (hM.cells (i:=0) rfl (RState.c_stack _))) rfl rfl fun a hF=>?_
   refine aL hF rfl rfl rfl hb84 (jJ Tryz.eqGuardType51 (aDv _ _ _ _ (by decide)) hF rfl rfl rfl) rfl rfl fun a hF=>?_
   refine aA hF (aP hF rfl rfl hb84 rfl) rfl rfl rfl fun a hF=>?_
   refine aA hF (aF hF rfl rfl) rfl rfl rfl fun a hF=>?_
   refine bE 17 hF rfl (fun hb85=>?_) (fun hb85=>?_)
   ·have hP:=Fx.cT hb85 hP
    refine aL hF rfl rfl rfl hb85 (aC (off':=460) qU54 rfl in23 rfl hF rfl rfl rfl) rfl rfl fun a hF=>?_
    refine aL hF rfl rfl rfl hb85 (aI qA23 hF rfl rfl (hM.cell (i:=1) rfl (RState.g_ctx _))) rfl rfl fun a hF=>?_
    refine aL hF rfl rfl rfl hb85 (aC (off':=460) qU54 rfl in23 rfl hF rfl rfl rfl) rfl rfl fun a hF=>?_
    refine aL hF rfl rfl rfl hb85 (aI qA23 hF rfl rfl (hM.cell (i:=0) rfl (RState.g_ctx _))) rfl rfl fun a hF=>?_
    obtain ⟨y87,hy87,hP⟩:=bind_some hP
    refine dV hF rfl rfl rfl hb85 rfl rfl (aN (xs:=[.tmp 19,.tmp 21]) Tryz.call43 hF rfl rfl (eC hy87 hM (Bf:=Bf) (fun w hM=>hsub _ (dropM hM 2)) f2 f10) fun v w hR=>?_)
    obtain ⟨rfl,hM⟩:=hR
    replace hM:MemL _ (pt c1 (RState.enc (mSt x1 s9 s11 s15)) 54 :: pt c0 (RState.enc (mSt x0 s1 s3 s7)) 54 :: Lr):=hM
    intro a hF
    refine aA hF (aP hF rfl rfl hb85 rfl) rfl rfl rfl fun a hF=>?_
    refine aA hF (aF hF rfl rfl) rfl rfl rfl fun a hF=>?_
    refine bE 24 hF rfl (fun hb88=>?_) (fun hb88=>?_)
    ·have hP:=Fx.cT hb88 hP
     refine aL hF rfl rfl rfl hb88 (aC (off':=461) qU54 rfl in28 rfl hF rfl rfl rfl) rfl rfl fun a hF=>?_
     refine aL hF rfl rfl rfl hb88 (aI qA28 hF rfl rfl (hM.cell (i:=1) rfl (RState.g_tables _))) rfl rfl fun a hF=>?_
     refine aL hF rfl rfl rfl hb88 (aC (off':=461) qU54 rfl in28 rfl hF rfl rfl rfl) rfl rfl fun a hF=>?_
     refine aL hF rfl rfl rfl hb88 (aI qA28 hF rfl rfl (hM.cell (i:=0) rfl (RState.g_tables _))) rfl rfl fun a hF=>?_
     obtain ⟨y90,hy90,hP⟩:=bind_some hP
     refine dV hF rfl rfl rfl hb88 rfl rfl (aN (xs:=[.tmp 26,.tmp 28]) Tryz.call64 hF rfl rfl (jU hy90 hM (Bf:=Bf) (fun w hM=>hsub _ (dropM hM 2)) f5 q6 f13 q14) fun v w hR=>?_)
     obtain ⟨rfl,hM⟩:=hR
     replace hM:MemL _ (pt c1 (RState.enc (mSt x1 s9 s11 s15)) 54 :: pt c0 (RState.enc (mSt x0 s1 s3 s7)) 54 :: Lr):=hM
     intro a hF
     refine aA hF (aP hF rfl rfl hb88 rfl) rfl rfl rfl fun a hF=>?_
     refine aA hF (aF hF rfl rfl) rfl rfl rfl fun a hF=>?_
     refine bE 31 hF rfl (fun hb91=>?_) (fun hb91=>?_)
     ·have hP:=Fx.cT hb91 hP
      refine aL hF rfl rfl rfl hb91 (aC (off':=462) qU54 rfl in52 rfl hF rfl rfl rfl) rfl rfl fun a hF=>?_
      refine aL hF rfl rfl rfl hb91 (aI qA52 hF rfl rfl (hM.cell (i:=1) rfl (RState.g_sent _))) rfl rfl fun a hF=>?_
      refine aL hF rfl rfl rfl hb91 (aC (off':=462) qU54 rfl in52 rfl hF rfl rfl rfl) rfl rfl fun a hF=>?_
      refine aL hF rfl rfl rfl hb91 (aI qA52 hF rfl rfl (hM.cell (i:=0) rfl (RState.g_sent _))) rfl rfl fun a hF=>?_
      obtain ⟨y93,hy93,hP⟩:=bind_some hP
      refine dV hF rfl rfl rfl hb91 rfl rfl (aN (xs:=[.tmp 33,.tmp 35]) Tryz.call89 hF rfl rfl (jT hy93 hM (Bf:=Bf) (fun w hM=>hsub _ (dropM hM 2)) f8 f16) fun v w hR=>?_)
      obtain ⟨rfl,hM⟩:=hR
      replace hM:MemL _ (pt c1 (RState.enc (mSt x1 s9 s11 s15)) 54 :: pt c0 (RState.enc (mSt x0 s1 s3 s7)) 54 :: Lr):=hM
      intro a hF
      refine aA hF (aP hF rfl rfl hb91 rfl) rfl rfl rfl fun a hF=>?_
      refine aA hF (aF hF rfl rfl) rfl rfl rfl fun a hF=>?_
      refine bE 38 hF rfl (fun hb94=>?_) (fun hb94=>?_)
      ·have hP:=Fx.cT hb94 hP
       refine aL hF rfl rfl rfl hb94 (aC (off':=463) qU54 rfl in3 rfl hF rfl rfl rfl) rfl rfl fun a hF=>?_
       refine aL hF rfl rfl rfl hb94 (aI qA3 hF rfl rfl (hM.cell (i:=1) rfl (RState.g_at_ _))) rfl rfl fun a hF=>?_
       refine aL hF rfl rfl rfl hb94 (aC (off':=463) qU54 rfl in3 rfl hF rfl rfl rfl) rfl rfl fun a hF=>?_
       refine aL hF rfl rfl rfl hb94 (aI qA3 hF rfl rfl (hM.cell (i:=0) rfl (RState.g_at_ _))) rfl rfl fun a hF=>?_
       refine aL hF rfl rfl rfl hb94 (dF hF rfl rfl rfl) rfl rfl fun a hF=>?_
       refine aA hF (aP hF rfl rfl hb94 rfl) rfl rfl rfl fun a hF=>?_
       refine aA hF (aF hF rfl rfl) rfl rfl rfl fun a hF=>?_
       refine bE 45 hF rfl (fun hb95=>?_) (fun hb95=>?_)
       ·have hP:=Fx.cT hb95 hP
        refine aL hF rfl rfl rfl hb95 (aC (off':=464) qU54 rfl in3 rfl hF rfl rfl rfl) rfl rfl fun a hF=>?_
        refine aL hF rfl rfl rfl hb95 (aI qA3 hF rfl rfl (hM.cell (i:=1) rfl (RState.g_steps _))) rfl rfl fun a hF=>?_
        refine aL hF rfl rfl rfl hb95 (aC (off':=464) qU54 rfl in3 rfl hF rfl rfl rfl) rfl rfl fun a hF=>?_
        refine aL hF rfl rfl rfl hb95 (aI qA3 hF rfl rfl (hM.cell (i:=0) rfl (RState.g_steps _))) rfl rfl fun a hF=>?_
        refine aL hF rfl rfl rfl hb95 (dF hF rfl rfl rfl) rfl rfl fun a hF=>?_
        refine aA hF (aP hF rfl rfl hb95 rfl) rfl rfl rfl fun a hF=>?_
        refine aA hF (aF hF rfl rfl) rfl rfl rfl fun a hF=>?_
        refine bE 52 hF rfl (fun hb96=>?_) (fun hb96=>?_)
        ·have hP:=Fx.cT hb96 hP
         refine aL hF rfl rfl rfl hb96 (aC (off':=465) qU54 rfl in4 rfl hF rfl rfl rfl) rfl rfl fun a hF=>?_
         refine aL hF rfl rfl rfl hb96 (aI qA4 hF rfl rfl (hM.cell (i:=1) rfl (RState.g_done _))) rfl rfl fun a hF=>?_
         refine aL hF rfl rfl rfl hb96 (aC (off':=465) qU54 rfl in4 rfl hF rfl rfl rfl) rfl rfl fun a hF=>?_
         refine aL hF rfl rfl rfl hb96 (aI qA4 hF rfl rfl (hM.cell (i:=0) rfl (RState.g_done _))) rfl rfl fun a hF=>?_
         refine aL hF rfl rfl rfl hb96 (aH7 qU4 hF rfl rfl rfl) rfl rfl fun a hF=>?_
         refine aA hF (aP hF rfl rfl hb96 rfl) rfl rfl rfl fun a hF=>?_
         refine aA hF (aH hF rfl rfl) rfl rfl rfl fun a hF=>?_
         refine aJ (aB ?_)
         have hP:=oI hP
         subst hP
         exact ⟨(decide (x0.done = x1.done)),rfl,hF.to ⟨rfl,trivial⟩,selM hM [] 2 rfl⟩
        have hP:=Fx.cF hb96 hP
        refine aE hF rfl rfl rfl hb96 rfl rfl fun a hF=>?_
        refine aE hF rfl rfl rfl hb96 rfl rfl fun a hF=>?_
        refine aE hF rfl rfl rfl hb96 rfl rfl fun a hF=>?_
        refine aE hF rfl rfl rfl hb96 rfl rfl fun a hF=>?_
        refine aE hF rfl rfl rfl hb96 rfl rfl fun a hF=>?_
        refine aA hF (aX hF rfl rfl hb96 rfl) rfl rfl rfl fun a hF=>?_
        refine aA hF (aH hF rfl rfl) rfl rfl rfl fun a hF=>?_
        refine aJ (aB ?_)
        have hP:=oI hP
        subst hP
        exact ⟨false,rfl,hF.to ⟨rfl,trivial⟩,selM hM [] 2 rfl⟩
       have hP:=Fx.cF hb95 hP
       refine aE hF rfl rfl rfl hb95 rfl rfl fun a hF=>?_
       refine aE hF rfl rfl rfl hb95 rfl rfl fun a hF=>?_
       refine aE hF rfl rfl rfl hb95 rfl rfl fun a hF=>?_
       refine aE hF rfl rfl rfl hb95 rfl rfl fun a hF=>?_
       refine aE hF rfl rfl rfl hb95 rfl rfl fun a hF=>?_
       refine aA hF (aX hF rfl rfl hb95 rfl) rfl rfl rfl fun a hF=>?_
       refine aA hF (aF hF rfl rfl) rfl rfl rfl fun a hF=>?_
       refine aE hF rfl rfl rfl rfl rfl rfl fun a hF=>?_
       refine aE hF rfl rfl rfl rfl rfl rfl fun a hF=>?_
       refine aE hF rfl rfl rfl rfl rfl rfl fun a hF=>?_
       refine aE hF rfl rfl rfl rfl rfl rfl fun a hF=>?_
       refine aE hF rfl rfl rfl rfl rfl rfl fun a hF=>?_
       refine aA hF (aX hF rfl rfl rfl rfl) rfl rfl rfl fun a hF=>?_
       refine aA hF (aH hF rfl rfl) rfl rfl rfl fun a hF=>?_
       refine aJ (aB ?_)
       have hP:=oI hP
       subst hP
       exact ⟨false,rfl,hF.to ⟨rfl,trivial⟩,selM hM [] 2 rfl⟩
      have hP:=Fx.cF hb94 hP
      refine aE hF rfl rfl rfl hb94 rfl rfl fun a hF=>?_
      refine aE hF rfl rfl rfl hb94 rfl rfl fun a hF=>?_
      refine aE hF rfl rfl rfl hb94 rfl rfl fun a hF=>?_
      refine aE hF rfl rfl rfl hb94 rfl rfl fun a hF=>?_
      refine aE hF rfl rfl rfl hb94 rfl rfl fun a hF=>?_
      refine aA hF (aX hF rfl rfl hb94 rfl) rfl rfl rfl fun a hF=>?_
      refine aA hF (aF hF rfl rfl) rfl rfl rfl fun a hF=>?_
      refine aE hF rfl rfl rfl rfl rfl rfl fun a hF=>?_
      refine aE hF rfl rfl rfl rfl rfl rfl fun a hF=>?_
      refine aE hF rfl rfl rfl rfl rfl rfl fun a hF=>?_
      refine aE hF rfl rfl rfl rfl rfl rfl fun a hF=>?_
      refine aE hF rfl rfl rfl rfl rfl rfl fun a hF=>?_
      refine aA hF (aX hF rfl rfl rfl rfl) rfl rfl rfl fun a hF=>?_
      refine aA hF (aF hF rfl rfl) rfl rfl rfl fun a hF=>?_
      refine aE hF rfl rfl rfl rfl rfl rfl fun a hF=>?_
      refine aE hF rfl rfl rfl rfl rfl rfl fun a hF=>?_
      refine aE hF rfl rfl rfl rfl rfl rfl fun a hF=>?_
      refine aE hF rfl rfl rfl rfl rfl rfl fun a hF=>?_
      refine aE hF rfl rfl rfl rfl rfl rfl fun a hF=>?_
      refine aA hF (aX hF rfl rfl rfl rfl) rfl rfl rfl fun a hF=>?_
      refine aA hF (aH hF rfl rfl) rfl rfl rfl fun a hF=>?_
      refine aJ (aB ?_)
      have hP:=oI hP
      subst hP
      exact ⟨false,rfl,hF.to ⟨rfl,trivial⟩,selM hM [] 2 rfl⟩
     have hP:=Fx.cF hb91 hP
     refine aE hF rfl rfl rfl hb91 rfl rfl fun a hF=>?_
     refine aE hF rfl rfl rfl hb91 rfl rfl fun a hF=>?_
     refine aE hF rfl rfl rfl hb91 rfl rfl fun a hF=>?_
     refine aE hF rfl rfl rfl hb91 rfl rfl fun a hF=>?_
     refine aE hF rfl rfl rfl hb91 rfl rfl fun a hF=>?_
     refine aA hF (aX hF rfl rfl hb91 rfl) rfl rfl rfl fun a hF=>?_
     refine aA hF (aF hF rfl rfl) rfl rfl rfl fun a hF=>?_
     refine aE hF rfl rfl rfl rfl rfl rfl fun a hF=>?_
     refine aE hF rfl rfl rfl rfl rfl rfl fun a hF=>?_
     refine aE hF rfl rfl rfl rfl rfl rfl fun a hF=>?_
     refine aE hF rfl rfl rfl rfl rfl rfl fun a hF=>?_
     refine aE hF rfl rfl rfl rfl rfl rfl fun a hF=>?_
     refine aA hF (aX hF rfl rfl rfl rfl) rfl rfl rfl fun a hF=>?_
     refine aA hF (aF hF rfl rfl) rfl rfl rfl fun a hF=>?_
     refine aE hF rfl rfl rfl rfl rfl rfl fun a hF=>?_
     refine aE hF rfl rfl rfl rfl rfl rfl fun a hF=>?_
     refine aE hF rfl rfl rfl rfl rfl rfl fun a hF=>?_
     refine aE hF rfl rfl rfl rfl rfl rfl fun a hF=>?_
     refine aE hF rfl rfl rfl rfl rfl rfl fun a hF=>?_
     refine aA hF (aX hF rfl rfl rfl rfl) rfl rfl rfl fun a hF=>?_
     refine aA hF (aF hF rfl rfl) rfl rfl rfl fun a hF=>?_
     refine aE hF rfl rfl rfl rfl rfl rfl fun a hF=>?_
     refine aE hF rfl rfl rfl rfl rfl rfl fun a hF=>?_
     refine aE hF rfl rfl rfl rfl rfl rfl fun a hF=>?_
     refine aE hF rfl rfl rfl rfl rfl rfl fun a hF=>?_
     refine aE hF rfl rfl rfl rfl rfl rfl fun a hF=>?_
     refine aA hF (aX hF rfl rfl rfl rfl) rfl rfl rfl fun a hF=>?_
     refine aA hF (aH hF rfl rfl) rfl rfl rfl fun a hF=>?_
     refine aJ (aB ?_)
     have hP:=oI hP
     subst hP
     exact ⟨false,rfl,hF.to ⟨rfl,trivial⟩,selM hM [] 2 rfl⟩
    have hP:=Fx.cF hb88 hP
    refine aE hF rfl rfl rfl hb88 rfl rfl fun a hF=>?_
    refine aE hF rfl rfl rfl hb88 rfl rfl fun a hF=>?_
    refine aE hF rfl rfl rfl hb88 rfl rfl fun a hF=>?_
    refine aE hF rfl rfl rfl hb88 rfl rfl fun a hF=>?_
    refine aE hF rfl rfl rfl hb88 rfl rfl fun a hF=>?_
    refine aA hF (aX hF rfl rfl hb88 rfl) rfl rfl rfl fun a hF=>?_
    refine aA hF (aF hF rfl rfl) rfl rfl rfl fun a hF=>?_
    refine aE hF rfl rfl rfl rfl rfl rfl fun a hF=>?_
    refine aE hF rfl rfl rfl rfl rfl rfl fun a hF=>?_
    refine aE hF rfl rfl rfl rfl rfl rfl fun a hF=>?_
    refine aE hF rfl rfl rfl rfl rfl rfl fun a hF=>?_
    refine aE hF rfl rfl rfl rfl rfl rfl fun a hF=>?_
    refine aA hF (aX hF rfl rfl rfl rfl) rfl rfl rfl fun a hF=>?_
    refine aA hF (aF hF rfl rfl) rfl rfl rfl fun a hF=>?_
    refine aE hF rfl rfl rfl rfl rfl rfl fun a hF=>?_
    refine aE hF rfl rfl rfl rfl rfl rfl fun a hF=>?_
    refine aE hF rfl rfl rfl rfl rfl rfl fun a hF=>?_
    refine aE hF rfl rfl rfl rfl rfl rfl fun a hF=>?_
    refine aE hF rfl rfl rfl rfl rfl rfl fun a hF=>?_
    refine aA hF (aX hF rfl rfl rfl rfl) rfl rfl rfl fun a hF=>?_
    refine aA hF (aF hF rfl rfl) rfl rfl rfl fun a hF=>?_
    refine aE hF rfl rfl rfl rfl rfl rfl fun a hF=>?_
    refine aE hF rfl rfl rfl rfl rfl rfl fun a hF=>?_
    refine aE hF rfl rfl rfl rfl rfl rfl fun a hF=>?_
    refine aE hF rfl rfl rfl rfl rfl rfl fun a hF=>?_
    refine aE hF rfl rfl rfl rfl rfl rfl fun a hF=>?_
    refine aA hF (aX hF rfl rfl rfl rfl) rfl rfl rfl fun a hF=>?_
    refine aA hF (aF hF rfl rfl) rfl rfl rfl fun a hF=>?_
    refine aE hF rfl rfl rfl rfl rfl rfl fun a hF=>?_
    refine aE hF rfl rfl rfl rfl rfl rfl fun a hF=>?_
    refine aE hF rfl rfl rfl rfl rfl rfl fun a hF=>?_
    refine aE hF rfl rfl rfl rfl rfl rfl fun a hF=>?_
    refine aE hF rfl rfl rfl rfl rfl rfl fun a hF=>?_
    refine aA hF (aX hF rfl rfl rfl rfl) rfl rfl rfl fun a hF=>?_
    refine aA hF (aH hF rfl rfl) rfl rfl rfl fun a hF=>?_
    refine aJ (aB ?_)
    have hP:=oI hP
    subst hP
    exact ⟨false,rfl,hF.to ⟨rfl,trivial⟩,selM hM [] 2 rfl⟩
   have hP:=Fx.cF hb85 hP
   refine aE hF rfl rfl rfl hb85 rfl rfl fun a hF=>?_
   refine aE hF rfl rfl rfl hb85 rfl rfl fun a hF=>?_
   refine aE hF rfl rfl rfl hb85 rfl rfl fun a hF=>?_
   refine aE hF rfl rfl rfl hb85 rfl rfl fun a hF=>?_
   refine aE hF rfl rfl rfl hb85 rfl rfl fun a hF=>?_
   refine aA hF (aX hF rfl rfl hb85 rfl) rfl rfl rfl fun a hF=>?_
   refine aA hF (aF hF rfl rfl) rfl rfl rfl fun a hF=>?_
   refine aE hF rfl rfl rfl rfl rfl rfl fun a hF=>?_
   refine aE hF rfl rfl rfl rfl rfl rfl fun a hF=>?_
   refine aE hF rfl rfl rfl rfl rfl rfl fun a hF=>?_
   refine aE hF rfl rfl rfl rfl rfl rfl fun a hF=>?_
   refine aE hF rfl rfl rfl rfl rfl rfl fun a hF=>?_
   refine aA hF (aX hF rfl rfl rfl rfl) rfl rfl rfl fun a hF=>?_
   refine aA hF (aF hF rfl rfl) rfl rfl rfl fun a hF=>?_
   refine aE hF rfl rfl rfl rfl rfl rfl fun a hF=>?_
   refine aE hF rfl rfl rfl rfl rfl rfl fun a hF=>?_
   refine aE hF rfl rfl rfl rfl rfl rfl fun a hF=>?_
   refine aE hF rfl rfl rfl rfl rfl rfl fun a hF=>?_
   refine aE hF rfl rfl rfl rfl rfl rfl fun a hF=>?_
   refine aA hF (aX hF rfl rfl rfl rfl) rfl rfl rfl fun a hF=>?_
   refine aA hF (aF hF rfl rfl) rfl rfl rfl fun a hF=>?_
   refine aE hF rfl rfl rfl rfl rfl rfl fun a hF=>?_
   refine aE hF rfl rfl rfl rfl rfl rfl fun a hF=>?_
   refine aE hF rfl rfl rfl rfl rfl rfl fun a hF=>?_
   refine aE hF rfl rfl rfl rfl rfl rfl fun a hF=>?_
   refine aE hF rfl rfl rfl rfl rfl rfl fun a hF=>?_
   refine aA hF (aX hF rfl rfl rfl rfl) rfl rfl rfl fun a hF=>?_
   refine aA hF (aF hF rfl rfl) rfl rfl rfl fun a hF=>?_
   refine aE hF rfl rfl rfl rfl rfl rfl fun a hF=>?_
   refine aE hF rfl rfl rfl rfl rfl rfl fun a hF=>?_
   refine aE hF rfl rfl rfl rfl rfl rfl fun a hF=>?_
   refine aE hF rfl rfl rfl rfl rfl rfl fun a hF=>?_
   refine aE hF rfl rfl rfl rfl rfl rfl fun a hF=>?_
   refine aA hF (aX hF rfl rfl rfl rfl) rfl rfl rfl fun a hF=>?_
   refine aA hF (aF hF rfl rfl) rfl rfl rfl fun a hF=>?_
   refine aE hF rfl rfl rfl rfl rfl rfl fun a hF=>?_
   refine aE hF rfl rfl rfl rfl rfl rfl fun a hF=>?_
   refine aE hF rfl rfl rfl rfl rfl rfl fun a hF=>?_
   refine aE hF rfl rfl rfl rfl rfl rfl fun a hF=>?_
   refine aE hF rfl rfl rfl rfl rfl rfl fun a hF=>?_
   refine aA hF (aX hF rfl rfl rfl rfl) rfl rfl rfl fun a hF=>?_
   refine aA hF (aH hF rfl rfl) rfl rfl rfl fun a hF=>?_
   refine aJ (aB ?_)
   have hP:=oI hP
   subst hP
   exact ⟨false,rfl,hF.to ⟨rfl,trivial⟩,selM hM [] 2 rfl⟩
  have hP:=Fx.cF hb84 hP
  refine aE hF rfl rfl rfl hb84 rfl rfl fun a hF=>?_
  refine aE hF rfl rfl rfl hb84 rfl rfl fun a hF=>?_
  refine aE hF rfl rfl rfl hb84 rfl rfl fun a hF=>?_
  refine aE hF rfl rfl rfl hb84 rfl rfl fun a hF=>?_
  refine aE hF rfl rfl rfl hb84 rfl rfl fun a hF=>?_
  refine aA hF (aX hF rfl rfl hb84 rfl) rfl rfl rfl fun a hF=>?_
  refine aA hF (aF hF rfl rfl) rfl rfl rfl fun a hF=>?_
  refine aE hF rfl rfl rfl rfl rfl rfl fun a hF=>?_
  refine aE hF rfl rfl rfl rfl rfl rfl fun a hF=>?_
  refine aE hF rfl rfl rfl rfl rfl rfl fun a hF=>?_
  refine aE hF rfl rfl rfl rfl rfl rfl fun a hF=>?_
  refine aE hF rfl rfl rfl rfl rfl rfl fun a hF=>?_
  refine aA hF (aX hF rfl rfl rfl rfl) rfl rfl rfl fun a hF=>?_
  refine aA hF (aF hF rfl rfl) rfl rfl rfl fun a hF=>?_
  refine aE hF rfl rfl rfl rfl rfl rfl fun a hF=>?_
  refine aE hF rfl rfl rfl rfl rfl rfl fun a hF=>?_
  refine aE hF rfl rfl rfl rfl rfl rfl fun a hF=>?_
  refine aE hF rfl rfl rfl rfl rfl rfl fun a hF=>?_
  refine aE hF rfl rfl rfl rfl rfl rfl fun a hF=>?_
  refine aA hF (aX hF rfl rfl rfl rfl) rfl rfl rfl fun a hF=>?_
  refine aA hF (aF hF rfl rfl) rfl rfl rfl fun a hF=>?_
  refine aE hF rfl rfl rfl rfl rfl rfl fun a hF=>?_
  refine aE hF rfl rfl rfl rfl rfl rfl fun a hF=>?_
  refine aE hF rfl rfl rfl rfl rfl rfl fun a hF=>?_
  refine aE hF rfl rfl rfl rfl rfl rfl fun a hF=>?_
  refine aE hF rfl rfl rfl rfl rfl rfl fun a hF=>?_
  refine aA hF (aX hF rfl rfl rfl rfl) rfl rfl rfl fun a hF=>?_
  refine aA hF (aF hF rfl rfl) rfl rfl rfl fun a hF=>?_
  refine aE hF rfl rfl rfl rfl rfl rfl fun a hF=>?_
  refine aE hF rfl rfl rfl rfl rfl rfl fun a hF=>?_
  refine aE hF rfl rfl rfl rfl rfl rfl fun a hF=>?_
  refine aE hF rfl rfl rfl rfl rfl rfl fun a hF=>?_
  refine aE hF rfl rfl rfl rfl rfl rfl fun a hF=>?_
  refine aA hF (aX hF rfl rfl rfl rfl) rfl rfl rfl fun a hF=>?_
  refine aA hF (aF hF rfl rfl) rfl rfl rfl fun a hF=>?_
  refine aE hF rfl rfl rfl rfl rfl rfl fun a hF=>?_
  refine aE hF rfl rfl rfl rfl rfl rfl fun a hF=>?_
  refine aE hF rfl rfl rfl rfl rfl rfl fun a hF=>?_
  refine aE hF rfl rfl rfl rfl rfl rfl fun a hF=>?_
  refine aE hF rfl rfl rfl rfl rfl rfl fun a hF=>?_
  refine aA hF (aX hF rfl rfl rfl rfl) rfl rfl rfl fun a hF=>?_
  refine aA hF (aF hF rfl rfl) rfl rfl rfl fun a hF=>?_
  refine aE hF rfl rfl rfl rfl rfl rfl fun a hF=>?_
  refine aE hF rfl rfl rfl rfl rfl rfl fun a hF=>?_
  refine aE hF rfl rfl rfl rfl rfl rfl fun a hF=>?_
  refine aE hF rfl rfl rfl rfl rfl rfl fun a hF=>?_
  refine aE hF rfl rfl rfl rfl rfl rfl fun a hF=>?_
  refine aA hF (aX hF rfl rfl rfl rfl) rfl rfl rfl fun a hF=>?_
  refine aA hF (aH hF rfl rfl) rfl rfl rfl fun a hF=>?_
  refine aJ (aB ?_)
  have hP:=oI hP
  subst hP
  exact ⟨false,rfl,hF.to ⟨rfl,trivial⟩,selM hM [] 2 rfl⟩
 rintro v83 a w hP ⟨hF,hM⟩
 replace hP:Sh.mB v83 = _:=hP
 unfold Sh.mB at hP
 refine aB ?_
 refine c_ret ?_
 have hP:=oI hP
 subst hP
 refine bH Tryz.results34 hF rfl ?_
 exact ⟨rfl,hM⟩
set_option maxHeartbeats 4000000 in
theorem eG {x0:QMark} {x1:QMark} {s1:SV} {s3:SV} {s5:SV} {hs6:List RPiece} {s9:SV} {s11:SV} {s13:SV} {s15:SV} {hs16:List RPiece} {s19:SV} {out:Bool} {w0:World} {Bf:World → Prop} {Lr:List Res} (hP:Sh.cI x0 x1 = some out) (hM:MemL w0 (Lr)) (hsub:∀ w,MemL w Lr → Bf w) (f2:LIn Bf s1 x0.regs) (f4:LIn Bf s3 x0.slots) (f7:LIn Bf s5 hs6) (q8:Each (QPieceIn Bf) hs6 x0.pieces) (f10:LIn Bf s9 x0.sent) (f12:LIn Bf s11 x1.regs) (f14:LIn Bf s13 x1.slots) (f17:LIn Bf s15 hs16) (q18:Each (QPieceIn Bf) hs16 x1.pieces) (f20:LIn Bf s19 x1.sent):Calls Tryz.prog 33 #[.agg (RMark.enc (mMk x0 s1 s3 s5 s9)).toArray,.agg (RMark.enc (mMk x1 s11 s13 s15 s19)).toArray] w0 (Ret fun v w'=>v = .bool out ∧ MemL w' (Lr)):=by
 unfold Sh.cI at hP
 refine aR (vs:=[.agg (RMark.enc (mMk x0 s1 s3 s5 s9)).toArray,.agg (RMark.enc (mMk x1 s11 s13 s15 s19)).toArray]) Tryz.func33 rfl Tryz.ntmps33 rfl fun a hF=>?_
 refine aG ?_
 refine aD ?_
 refine aO hF rfl rfl rfl (dA hF rfl rfl rfl fun c0 w m0 j6=>?_)
 have hM:=hM.plus j6
 intro a hF
 refine aO hF rfl rfl rfl (dA hF rfl rfl rfl fun c1 w m1 j7=>?_)
 have hM:=hM.plus j7
 replace hM:MemL _ (pt c1 (RMark.enc (mMk x1 s11 s13 s15 s19)) 60 :: pt c0 (RMark.enc (mMk x0 s1 s3 s5 s9)) 60 :: Lr):=hM
 intro a hF
 refine aA hF (aH hF rfl rfl) rfl rfl rfl fun a hF=>?_
 refine aJ (aB ?_)
 refine aG ?_
 refine aG ?_
 refine aU hF hM hP (fun F x a w=>match x with | i6=>Fr 145 [(63,.bool i6),(2,.pointer (some ⟨c0,0,none⟩)),(3,.pointer (some ⟨c1,0,none⟩)),(4,.bool false)] a ∧ MemL w (pt c1 (RMark.enc (mMk x1 s11 s13 s15 s19)) 60 :: pt c0 (RMark.enc (mMk x0 s1 s3 s5 s9)) 60 :: Lr)) (fun n3 hP m6 hF hM=>?_) ?_
 ·refine aD ?_
  refine aA hF (aC (off':=0) qU60 rfl in3 rfl hF rfl rfl rfl) rfl rfl rfl fun a hF=>?_
  refine aA hF (aI qA3 hF rfl rfl (hM.cell (i:=1) rfl (RMark.g_at_ _))) rfl rfl rfl fun a hF=>?_
  refine aA hF (aC (off':=0) qU60 rfl in3 rfl hF rfl rfl rfl) rfl rfl rfl fun a hF=>?_
  refine aA hF (aI qA3 hF rfl rfl (hM.cell (i:=0) rfl (RMark.g_at_ _))) rfl rfl rfl fun a hF=>?_
  refine aA hF (dC hF rfl rfl rfl) rfl rfl rfl fun a hF=>?_
  refine aA hF (aF hF rfl rfl) rfl rfl rfl fun a hF=>?_
  refine bE 15 hF rfl (fun c9=>?_) (fun c9=>?_)
  ·have hP:=Fx.cT c9 hP
   refine aE hF rfl rfl rfl c9 rfl rfl fun a hF=>?_
   refine aE hF rfl rfl rfl c9 rfl rfl fun a hF=>?_
   refine aE hF rfl rfl rfl c9 rfl rfl fun a hF=>?_
   refine aE hF rfl rfl rfl c9 rfl rfl fun a hF=>?_
   refine aE hF rfl rfl rfl c9 rfl rfl fun a hF=>?_
   refine aA hF (aP hF rfl rfl c9 rfl) rfl rfl rfl fun a hF=>?_
   refine aA hF (aF hF rfl rfl) rfl rfl rfl fun a hF=>?_
   refine aE hF rfl rfl rfl rfl rfl rfl fun a hF=>?_
   refine aE hF rfl rfl rfl rfl rfl rfl fun a hF=>?_
   refine aE hF rfl rfl rfl rfl rfl rfl fun a hF=>?_
   refine aE hF rfl rfl rfl rfl rfl rfl fun a hF=>?_
   refine aE hF rfl rfl rfl rfl rfl rfl fun a hF=>?_
   refine aA hF (aP hF rfl rfl rfl rfl) rfl rfl rfl fun a hF=>?_
   refine aA hF (aF hF rfl rfl) rfl rfl rfl fun a hF=>?_
   refine aE hF rfl rfl rfl rfl rfl rfl fun a hF=>?_
   refine aE hF rfl rfl rfl rfl rfl rfl fun a hF=>?_
   refine aE hF rfl rfl rfl rfl rfl rfl fun a hF=>?_
   refine aE hF rfl rfl rfl rfl rfl rfl fun a hF=>?_
   refine aE hF rfl rfl rfl rfl rfl rfl fun a hF=>?_
   refine aE hF rfl rfl rfl rfl rfl rfl fun a hF=>?_
   refine aE hF rfl rfl rfl rfl rfl rfl fun a hF=>?_
   refine aA hF (aP hF rfl rfl rfl rfl) rfl rfl rfl fun a hF=>?_
   refine aA hF (aF hF rfl rfl) rfl rfl rfl fun a hF=>?_
   refine aE hF rfl rfl rfl rfl rfl rfl fun a hF=>?_
   refine aE hF rfl rfl rfl rfl rfl rfl fun a hF=>?_
   refine aE hF rfl rfl rfl rfl rfl rfl fun a hF=>?_
   refine aE hF rfl rfl rfl rfl rfl rfl fun a hF=>?_
   refine aE hF rfl rfl rfl rfl rfl rfl fun a hF=>?_
   refine aE hF rfl rfl rfl rfl rfl rfl fun a hF=>?_
   refine aE hF rfl rfl rfl rfl rfl rfl fun a hF=>?_
   refine aA hF (aP hF rfl rfl rfl rfl) rfl rfl rfl fun a hF=>?_
   refine aA hF (aF hF rfl rfl) rfl rfl rfl fun a hF=>?_
   refine aE hF rfl rfl rfl rfl rfl rfl fun a hF=>?_
   refine aE hF rfl rfl rfl rfl rfl rfl fun a hF=>?_
   refine aE hF rfl rfl rfl rfl rfl rfl fun a hF=>?_
   refine aE hF rfl rfl rfl rfl rfl rfl fun a hF=>?_
   refine aE hF rfl rfl rfl rfl rfl rfl fun a hF=>?_
   refine aE hF rfl rfl rfl rfl rfl rfl fun a hF=>?_
   refine aE hF rfl rfl rfl rfl rfl rfl fun a hF=>?_
   refine aA hF (aP hF rfl rfl rfl rfl) rfl rfl rfl fun a hF=>?_
   refine aA hF (aF hF rfl rfl) rfl rfl rfl fun a hF=>?_
   refine aE hF rfl rfl rfl rfl rfl rfl fun a hF=>?_
   refine aE hF rfl rfl rfl rfl rfl rfl fun a hF=>?_
   refine aE hF rfl rfl rfl rfl rfl rfl fun a hF=>?_
   refine aE hF rfl rfl rfl rfl rfl rfl fun a hF=>?_
   refine aE hF rfl rfl rfl rfl rfl rfl fun a hF=>?_
   refine aE hF rfl rfl rfl rfl rfl rfl fun a hF=>?_
   refine aA hF (aP hF rfl rfl rfl rfl) rfl rfl rfl fun a hF=>?_
   refine aJ (aB ?_)
   have hP:=oI hP
   subst hP
   exact ⟨true,rfl,hF.to ⟨rfl,rfl,rfl,rfl,trivial⟩,hM⟩
  have hP:=Fx.cF c9 hP
  refine aL hF rfl rfl rfl c9 (aC (off':=1) qU60 rfl in3 rfl hF rfl rfl rfl) rfl rfl fun a hF=>?_
  refine aL hF rfl rfl rfl c9 (aI qA3 hF rfl rfl (hM.cell (i:=1) rfl (RMark.g_next _))) rfl rfl fun a hF=>?_
  refine aL hF rfl rfl rfl c9 (aC (off':=1) qU60 rfl in3 rfl hF rfl rfl rfl) rfl rfl fun a hF=>?_
  refine aL hF rfl rfl rfl c9 (aI qA3 hF rfl rfl (hM.cell (i:=0) rfl (RMark.g_next _))) rfl rfl fun a hF=>?_
  refine aL hF rfl rfl rfl c9 (dC hF rfl rfl rfl) rfl rfl fun a hF=>?_
  refine aA hF (aX hF rfl rfl c9 rfl) rfl rfl rfl fun a hF=>?_
  refine aA hF (aF hF rfl rfl) rfl rfl rfl fun a hF=>?_
  refine bE 22 hF rfl (fun d0=>?_) (fun d0=>?_)
  ·have hP:=Fx.cT d0 hP
   refine aE hF rfl rfl rfl d0 rfl rfl fun a hF=>?_
   refine aE hF rfl rfl rfl d0 rfl rfl fun a hF=>?_
   refine aE hF rfl rfl rfl d0 rfl rfl fun a hF=>?_
   refine aE hF rfl rfl rfl d0 rfl rfl fun a hF=>?_
   refine aE hF rfl rfl rfl d0 rfl rfl fun a hF=>?_
   refine aA hF (aP hF rfl rfl d0 rfl) rfl rfl rfl fun a hF=>?_
   refine aA hF (aF hF rfl rfl) rfl rfl rfl fun a hF=>?_
   refine aE hF rfl rfl rfl rfl rfl rfl fun a hF=>?_
   refine aE hF rfl rfl rfl rfl rfl rfl fun a hF=>?_
   refine aE hF rfl rfl rfl rfl rfl rfl fun a hF=>?_
   refine aE hF rfl rfl rfl rfl rfl rfl fun a hF=>?_
   refine aE hF rfl rfl rfl rfl rfl rfl fun a hF=>?_
   refine aE hF rfl rfl rfl rfl rfl rfl fun a hF=>?_
   refine aE hF rfl rfl rfl rfl rfl rfl fun a hF=>?_
   refine aA hF (aP hF rfl rfl rfl rfl) rfl rfl rfl fun a hF=>?_
   refine aA hF (aF hF rfl rfl) rfl rfl rfl fun a hF=>?_
   refine aE hF rfl rfl rfl rfl rfl rfl fun a hF=>?_
   refine aE hF rfl rfl rfl rfl rfl rfl fun a hF=>?_
   refine aE hF rfl rfl rfl rfl rfl rfl fun a hF=>?_
   refine aE hF rfl rfl rfl rfl rfl rfl fun a hF=>?_
   refine aE hF rfl rfl rfl rfl rfl rfl fun a hF=>?_
   refine aE hF rfl rfl rfl rfl rfl rfl fun a hF=>?_
   refine aE hF rfl rfl rfl rfl rfl rfl fun a hF=>?_
   refine aA hF (aP hF rfl rfl rfl rfl) rfl rfl rfl fun a hF=>?_
   refine aA hF (aF hF rfl rfl) rfl rfl rfl fun a hF=>?_
   refine aE hF rfl rfl rfl rfl rfl rfl fun a hF=>?_
   refine aE hF rfl rfl rfl rfl rfl rfl fun a hF=>?_
   refine aE hF rfl rfl rfl rfl rfl rfl fun a hF=>?_
   refine aE hF rfl rfl rfl rfl rfl rfl fun a hF=>?_
   refine aE hF rfl rfl rfl rfl rfl rfl fun a hF=>?_
   refine aE hF rfl rfl rfl rfl rfl rfl fun a hF=>?_
   refine aE hF rfl rfl rfl rfl rfl rfl fun a hF=>?_
   refine aA hF (aP hF rfl rfl rfl rfl) rfl rfl rfl fun a hF=>?_
   refine aA hF (aF hF rfl rfl) rfl rfl rfl fun a hF=>?_
   refine aE hF rfl rfl rfl rfl rfl rfl fun a hF=>?_
   refine aE hF rfl rfl rfl rfl rfl rfl fun a hF=>?_
   refine aE hF rfl rfl rfl rfl rfl rfl fun a hF=>?_
   refine aE hF rfl rfl rfl rfl rfl rfl fun a hF=>?_
   refine aE hF rfl rfl rfl rfl rfl rfl fun a hF=>?_
   refine aE hF rfl rfl rfl rfl rfl rfl fun a hF=>?_
   refine aA hF (aP hF rfl rfl rfl rfl) rfl rfl rfl fun a hF=>?_
   refine aJ (aB ?_)
   have hP:=oI hP
   subst hP
   exact ⟨true,rfl,hF.to ⟨rfl,rfl,rfl,rfl,trivial⟩,hM⟩
  have hP:=Fx.cF d0 hP
  refine aL hF rfl rfl rfl d0 (aC (off':=2) qU60 rfl in4 rfl hF rfl rfl rfl) rfl rfl fun a hF=>?_
  refine aL hF rfl rfl rfl d0 (aI qA4 hF rfl rfl (hM.cell (i:=1) rfl (RMark.g_done _))) rfl rfl fun a hF=>?_
  refine aL hF rfl rfl rfl d0 (aC (off':=2) qU60 rfl in4 rfl hF rfl rfl rfl) rfl rfl fun a hF=>?_
  refine aL hF rfl rfl rfl d0 (aI qA4 hF rfl rfl (hM.cell (i:=0) rfl (RMark.g_done _))) rfl rfl fun a hF=>?_
  refine aL hF rfl rfl rfl d0 (aAq qU4 hF rfl rfl rfl) rfl rfl fun a hF=>?_
  refine aA hF (aX hF rfl rfl d0 rfl) rfl rfl rfl fun a hF=>?_
  refine aA hF (aF hF rfl rfl) rfl rfl rfl fun a hF=>?_
  refine bE 29 hF rfl (fun c2=>?_) (fun c2=>?_)
  ·have hP:=Fx.cT c2 hP
   refine aE hF rfl rfl rfl c2 rfl rfl fun a hF=>?_
   refine aE hF rfl rfl rfl c2 rfl rfl fun a hF=>?_
   refine aE hF rfl rfl rfl c2 rfl rfl fun a hF=>?_
   refine aE hF rfl rfl rfl c2 rfl rfl fun a hF=>?_
   refine aE hF rfl rfl rfl c2 rfl rfl fun a hF=>?_
   refine aE hF rfl rfl rfl c2 rfl rfl fun a hF=>?_
   refine aE hF rfl rfl rfl c2 rfl rfl fun a hF=>?_
   refine aA hF (aP hF rfl rfl c2 rfl) rfl rfl rfl fun a hF=>?_
   refine aA hF (aF hF rfl rfl) rfl rfl rfl fun a hF=>?_
   refine aE hF rfl rfl rfl rfl rfl rfl fun a hF=>?_
   refine aE hF rfl rfl rfl rfl rfl rfl fun a hF=>?_
   refine aE hF rfl rfl rfl rfl rfl rfl fun a hF=>?_
   refine aE hF rfl rfl rfl rfl rfl rfl fun a hF=>?_
   refine aE hF rfl rfl rfl rfl rfl rfl fun a hF=>?_
   refine aE hF rfl rfl rfl rfl rfl rfl fun a hF=>?_
   refine aE hF rfl rfl rfl rfl rfl rfl fun a hF=>?_
   refine aA hF (aP hF rfl rfl rfl rfl) rfl rfl rfl fun a hF=>?_
   refine aA hF (aF hF rfl rfl) rfl rfl rfl fun a hF=>?_
   refine aE hF rfl rfl rfl rfl rfl rfl fun a hF=>?_
   refine aE hF rfl rfl rfl rfl rfl rfl fun a hF=>?_
   refine aE hF rfl rfl rfl rfl rfl rfl fun a hF=>?_
   refine aE hF rfl rfl rfl rfl rfl rfl fun a hF=>?_
   refine aE hF rfl rfl rfl rfl rfl rfl fun a hF=>?_
   refine aE hF rfl rfl rfl rfl rfl rfl fun a hF=>?_
   refine aE hF rfl rfl rfl rfl rfl rfl fun a hF=>?_
   refine aA hF (aP hF rfl rfl rfl rfl) rfl rfl rfl fun a hF=>?_
   refine aA hF (aF hF rfl rfl) rfl rfl rfl fun a hF=>?_
   refine aE hF rfl rfl rfl rfl rfl rfl fun a hF=>?_
   refine aE hF rfl rfl rfl rfl rfl rfl fun a hF=>?_
   refine aE hF rfl rfl rfl rfl rfl rfl fun a hF=>?_
   refine aE hF rfl rfl rfl rfl rfl rfl fun a hF=>?_
   refine aE hF rfl rfl rfl rfl rfl rfl fun a hF=>?_
   refine aE hF rfl rfl rfl rfl rfl rfl fun a hF=>?_
   refine aA hF (aP hF rfl rfl rfl rfl) rfl rfl rfl fun a hF=>?_
   refine aJ (aB ?_)
   have hP:=oI hP
   subst hP
   exact ⟨true,rfl,hF.to ⟨rfl,rfl,rfl,rfl,trivial⟩,hM⟩
  have hP:=Fx.cF c2 hP
  refine aL hF rfl rfl rfl c2 (aC (off':=3) qU60 rfl in56 rfl hF rfl rfl rfl) rfl rfl fun a hF=>?_
  refine aL hF rfl rfl rfl c2 (aI qA56 hF rfl rfl (hM.cell (i:=1) rfl (RMark.g_regs _))) rfl rfl fun a hF=>?_
  refine aL hF rfl rfl rfl c2 (bM (f2 _ (hsub _ (dropM hM 2))) qU56 hF rfl rfl) rfl rfl fun a hF=>?_
  refine aL hF rfl rfl rfl c2 (aC (off':=3) qU60 rfl in56 rfl hF rfl rfl rfl) rfl rfl fun a hF=>?_
  refine aL hF rfl rfl rfl c2 (aI qA56 hF rfl rfl (hM.cell (i:=0) rfl (RMark.g_regs _))) rfl rfl fun a hF=>?_
  refine aL hF rfl rfl rfl c2 (bM (f12 _ (hsub _ (dropM hM 2))) qU56 hF rfl rfl) rfl rfl fun a hF=>?_
  refine aL hF rfl rfl rfl c2 (dC hF rfl rfl rfl) rfl rfl fun a hF=>?_
  refine aA hF (aX hF rfl rfl c2 rfl) rfl rfl rfl fun a hF=>?_
  refine aA hF (aF hF rfl rfl) rfl rfl rfl fun a hF=>?_
  refine bE 38 hF rfl (fun c3=>?_) (fun c3=>?_)
  ·have hP:=Fx.cT c3 hP
   refine aE hF rfl rfl rfl c3 rfl rfl fun a hF=>?_
   refine aE hF rfl rfl rfl c3 rfl rfl fun a hF=>?_
   refine aE hF rfl rfl rfl c3 rfl rfl fun a hF=>?_
   refine aE hF rfl rfl rfl c3 rfl rfl fun a hF=>?_
   refine aE hF rfl rfl rfl c3 rfl rfl fun a hF=>?_
   refine aE hF rfl rfl rfl c3 rfl rfl fun a hF=>?_
   refine aE hF rfl rfl rfl c3 rfl rfl fun a hF=>?_
   refine aA hF (aP hF rfl rfl c3 rfl) rfl rfl rfl fun a hF=>?_
   refine aA hF (aF hF rfl rfl) rfl rfl rfl fun a hF=>?_
   refine aE hF rfl rfl rfl rfl rfl rfl fun a hF=>?_
   refine aE hF rfl rfl rfl rfl rfl rfl fun a hF=>?_
   refine aE hF rfl rfl rfl rfl rfl rfl fun a hF=>?_
   refine aE hF rfl rfl rfl rfl rfl rfl fun a hF=>?_
   refine aE hF rfl rfl rfl rfl rfl rfl fun a hF=>?_
   refine aE hF rfl rfl rfl rfl rfl rfl fun a hF=>?_
   refine aE hF rfl rfl rfl rfl rfl rfl fun a hF=>?_
   refine aA hF (aP hF rfl rfl rfl rfl) rfl rfl rfl fun a hF=>?_
   refine aA hF (aF hF rfl rfl) rfl rfl rfl fun a hF=>?_
   refine aE hF rfl rfl rfl rfl rfl rfl fun a hF=>?_
   refine aE hF rfl rfl rfl rfl rfl rfl fun a hF=>?_
   refine aE hF rfl rfl rfl rfl rfl rfl fun a hF=>?_
   refine aE hF rfl rfl rfl rfl rfl rfl fun a hF=>?_
   refine aE hF rfl rfl rfl rfl rfl rfl fun a hF=>?_
   refine aE hF rfl rfl rfl rfl rfl rfl fun a hF=>?_
   refine aA hF (aP hF rfl rfl rfl rfl) rfl rfl rfl fun a hF=>?_
   refine aJ (aB ?_)
   have hP:=oI hP
   subst hP
   exact ⟨true,rfl,hF.to ⟨rfl,rfl,rfl,rfl,trivial⟩,hM⟩
  have hP:=Fx.cF c3 hP
  refine aL hF rfl rfl rfl c3 (aC (off':=4) qU60 rfl in57 rfl hF rfl rfl rfl) rfl rfl fun a hF=>?_
  refine aL hF rfl rfl rfl c3 (aI qA57 hF rfl rfl (hM.cell (i:=1) rfl (RMark.g_slots _))) rfl rfl fun a hF=>?_
  refine aL hF rfl rfl rfl c3 (bM (f4 _ (hsub _ (dropM hM 2))) qU57 hF rfl rfl) rfl rfl fun a hF=>?_
  refine aL hF rfl rfl rfl c3 (aC (off':=4) qU60 rfl in57 rfl hF rfl rfl rfl) rfl rfl fun a hF=>?_
  refine aL hF rfl rfl rfl c3 (aI qA57 hF rfl rfl (hM.cell (i:=0) rfl (RMark.g_slots _))) rfl rfl fun a hF=>?_
  refine aL hF rfl rfl rfl c3 (bM (f14 _ (hsub _ (dropM hM 2))) qU57 hF rfl rfl) rfl rfl fun a hF=>?_
  refine aL hF rfl rfl rfl c3 (dC hF rfl rfl rfl) rfl rfl fun a hF=>?_
  refine aA hF (aX hF rfl rfl c3 rfl) rfl rfl rfl fun a hF=>?_
  refine aA hF (aF hF rfl rfl) rfl rfl rfl fun a hF=>?_
  refine bE 47 hF rfl (fun c4=>?_) (fun c4=>?_)
  ·have hP:=Fx.cT c4 hP
   refine aE hF rfl rfl rfl c4 rfl rfl fun a hF=>?_
   refine aE hF rfl rfl rfl c4 rfl rfl fun a hF=>?_
   refine aE hF rfl rfl rfl c4 rfl rfl fun a hF=>?_
   refine aE hF rfl rfl rfl c4 rfl rfl fun a hF=>?_
   refine aE hF rfl rfl rfl c4 rfl rfl fun a hF=>?_
   refine aE hF rfl rfl rfl c4 rfl rfl fun a hF=>?_
   refine aE hF rfl rfl rfl c4 rfl rfl fun a hF=>?_
   refine aA hF (aP hF rfl rfl c4 rfl) rfl rfl rfl fun a hF=>?_
   refine aA hF (aF hF rfl rfl) rfl rfl rfl fun a hF=>?_
   refine aE hF rfl rfl rfl rfl rfl rfl fun a hF=>?_
   refine aE hF rfl rfl rfl rfl rfl rfl fun a hF=>?_
   refine aE hF rfl rfl rfl rfl rfl rfl fun a hF=>?_
   refine aE hF rfl rfl rfl rfl rfl rfl fun a hF=>?_
   refine aE hF rfl rfl rfl rfl rfl rfl fun a hF=>?_
   refine aE hF rfl rfl rfl rfl rfl rfl fun a hF=>?_
   refine aA hF (aP hF rfl rfl rfl rfl) rfl rfl rfl fun a hF=>?_
   refine aJ (aB ?_)
   have hP:=oI hP
   subst hP
   exact ⟨true,rfl,hF.to ⟨rfl,rfl,rfl,rfl,trivial⟩,hM⟩
  have hP:=Fx.cF c4 hP
  refine aL hF rfl rfl rfl c4 (aC (off':=5) qU60 rfl in58 rfl hF rfl rfl rfl) rfl rfl fun a hF=>?_
  refine aL hF rfl rfl rfl c4 (aI qA58 hF rfl rfl (hM.cell (i:=1) rfl (RMark.g_pieces _))) rfl rfl fun a hF=>?_
  refine aL hF rfl rfl rfl c4 (cQ (f7 _ (hsub _ (dropM hM 2))) q8.len qU58 hF rfl rfl) rfl rfl fun a hF=>?_
  refine aL hF rfl rfl rfl c4 (aC (off':=5) qU60 rfl in58 rfl hF rfl rfl rfl) rfl rfl fun a hF=>?_
  refine aL hF rfl rfl rfl c4 (aI qA58 hF rfl rfl (hM.cell (i:=0) rfl (RMark.g_pieces _))) rfl rfl fun a hF=>?_
  refine aL hF rfl rfl rfl c4 (cQ (f17 _ (hsub _ (dropM hM 2))) q18.len qU58 hF rfl rfl) rfl rfl fun a hF=>?_
  refine aL hF rfl rfl rfl c4 (dC hF rfl rfl rfl) rfl rfl fun a hF=>?_
  refine aA hF (aX hF rfl rfl c4 rfl) rfl rfl rfl fun a hF=>?_
  refine aA hF (aF hF rfl rfl) rfl rfl rfl fun a hF=>?_
  refine bE 56 hF rfl (fun c5=>?_) (fun c5=>?_)
  ·have hP:=Fx.cT c5 hP
   refine aE hF rfl rfl rfl c5 rfl rfl fun a hF=>?_
   refine aE hF rfl rfl rfl c5 rfl rfl fun a hF=>?_
   refine aE hF rfl rfl rfl c5 rfl rfl fun a hF=>?_
   refine aE hF rfl rfl rfl c5 rfl rfl fun a hF=>?_
   refine aE hF rfl rfl rfl c5 rfl rfl fun a hF=>?_
   refine aE hF rfl rfl rfl c5 rfl rfl fun a hF=>?_
   refine aA hF (aP hF rfl rfl c5 rfl) rfl rfl rfl fun a hF=>?_
   refine aJ (aB ?_)
   have hP:=oI hP
   subst hP
   exact ⟨true,rfl,hF.to ⟨rfl,rfl,rfl,rfl,trivial⟩,hM⟩
  have hP:=Fx.cF c5 hP
  refine aL hF rfl rfl rfl c5 (aC (off':=6) qU60 rfl in52 rfl hF rfl rfl rfl) rfl rfl fun a hF=>?_
  refine aL hF rfl rfl rfl c5 (aI qA52 hF rfl rfl (hM.cell (i:=1) rfl (RMark.g_sent _))) rfl rfl fun a hF=>?_
  refine aL hF rfl rfl rfl c5 (aC (off':=6) qU60 rfl in52 rfl hF rfl rfl rfl) rfl rfl fun a hF=>?_
  refine aL hF rfl rfl rfl c5 (aI qA52 hF rfl rfl (hM.cell (i:=0) rfl (RMark.g_sent _))) rfl rfl fun a hF=>?_
  obtain ⟨l8,k8,hP⟩:=bind_some hP
  refine dV hF rfl rfl rfl c5 rfl rfl (aN (xs:=[.tmp 58,.tmp 60]) Tryz.call89 hF rfl rfl (jT k8 hM (Bf:=Bf) (fun w hM=>hsub _ (dropM hM 2)) f10 f20) fun v w hR=>?_)
  obtain ⟨rfl,hM⟩:=hR
  replace hM:MemL _ (pt c1 (RMark.enc (mMk x1 s11 s13 s15 s19)) 60 :: pt c0 (RMark.enc (mMk x0 s1 s3 s5 s9)) 60 :: Lr):=hM
  intro a hF
  refine aL hF rfl rfl rfl c5 (dE hF rfl rfl) rfl rfl fun a hF=>?_
  refine aA hF (aX hF rfl rfl c5 rfl) rfl rfl rfl fun a hF=>?_
  refine aJ (aB ?_)
  have hP:=oI hP
  subst hP
  exact ⟨(!l8),rfl,hF.to ⟨rfl,rfl,rfl,rfl,trivial⟩,hM⟩
 rintro i6 a w hP ⟨hF,hM⟩
 replace hP:Sh.bF x0 x1 i6 = _:=hP
 unfold Sh.bF at hP
 refine aB ?_
 refine aV hF (c:=.tmp 63) rfl (fun g0=>?_) (fun g0=>?_)
 ·have hP:=Fx.cT g0 hP
  refine aG ?_
  refine aD ?_
  refine aA hF (aH hF rfl rfl) rfl rfl rfl fun a hF=>?_
  refine aJ (aB ?_)
  refine c_ret ?_
  have hP:=oI hP
  subst hP
  refine bH qR33 hF rfl ?_
  exact ⟨rfl,selM hM [] 2 rfl⟩
 have hP:=Fx.cF g0 hP
 refine aW (aB ?_)
 refine aG ?_
 refine aU hF hM hP (fun F x a w=>match x with | _=>Fr 145 [(2,.pointer (some ⟨c0,0,none⟩)),(3,.pointer (some ⟨c1,0,none⟩)),(4,.bool false)] a ∧ MemL w (pt c1 (RMark.enc (mMk x1 s11 s13 s15 s19)) 60 :: pt c0 (RMark.enc (mMk x0 s1 s3 s5 s9)) 60 :: Lr)) (fun n4 hP l5 hF hM=>?_) ?_
 ·refine aG ?_
  refine aD ?_
  refine aA hF (aH hF rfl rfl) rfl rfl rfl fun a hF=>?_
  refine aJ (aB ?_)
  refine aT ?_
  refine bU hF hM hP (fun F x a w=>match x with | d8=>Fr 145 [(5,.int .i64 d8),(2,.pointer (some ⟨c0,0,none⟩)),(3,.pointer (some ⟨c1,0,none⟩)),(4,.bool false)] a ∧ MemL w (pt c1 (RMark.enc (mMk x1 s11 s13 s15 s19)) 60 :: pt c0 (RMark.enc (mMk x0 s1 s3 s5 s9)) 60 :: Lr)) (fun hF hM=>⟨hF.to ⟨rfl,rfl,rfl,rfl,trivial⟩,hM⟩) ?_
  rintro d8 a w n8 hP i7 ⟨hF,hM⟩
  replace hP:Sh.dN x0 x1 d8 = _:=hP
  unfold Sh.dN at hP
  refine aG ?_
  refine aG ?_
  refine aD ?_
  refine aA hF (aF hF rfl rfl) rfl rfl rfl fun a hF=>?_
  refine aA hF (aC (off':=3) qU60 rfl in56 rfl hF rfl rfl rfl) rfl rfl rfl fun a hF=>?_
  refine aA hF (aI qA56 hF rfl rfl (hM.cell (i:=1) rfl (RMark.g_regs _))) rfl rfl rfl fun a hF=>?_
  refine aA hF (bM (f2 _ (hsub _ (dropM hM 2))) qU56 hF rfl rfl) rfl rfl rfl fun a hF=>?_
  refine aA hF (cI hF rfl rfl rfl) rfl rfl rfl fun a hF=>?_
  refine aJ (aB ?_)
  refine aV hF (c:=.tmp 68) rfl (fun g1=>?_) (fun g1=>?_)
  ·have hP:=Fx.cT g1 hP
   refine aW (aB ?_)
   refine aG ?_
   refine aT ?_
   refine aG ?_
   refine bL mixed (by kernel_rfl) hM [0,1] 2 rfl fun hch=>?_
   refine aK hF hch 0 rfl (by kernel_rfl) rfl rfl rfl (fun w hM=>(aC (off':=3) qU60 rfl in56 rfl hF rfl rfl rfl)) fun a hF=>?_
   refine aK hF hch 1 rfl (by kernel_rfl) rfl rfl rfl (fun w hM=>(aI qA56 hF rfl rfl (hM.cell (i:=1) rfl (RMark.g_regs _)))) fun a hF=>?_
   refine aK hF hch 2 rfl (by kernel_rfl) rfl rfl rfl (fun w hM=>(aF hF rfl rfl)) fun a hF=>?_
   obtain ⟨m8,i0,hP⟩:=bind_some hP
   have j0:=aM i0
   refine aK hF hch 3 rfl (by kernel_rfl) rfl rfl rfl (fun w hM=>(aS (sz:=9) (f2 _ (hsub _ (dropM hM 2))) qU56 in128 rfl hF rfl rfl rfl (bG i0))) fun a hF=>?_
   refine aK hF hch 4 rfl (by kernel_rfl) rfl rfl rfl (fun w hM=>(aQ qA128 qS128 hF rfl rfl (LTurn.len _) (((f2 _ (hsub _ (dropM hM 2))).elemS j0.2)))) fun a hF=>?_
   refine aK hF hch 5 rfl (by kernel_rfl) rfl rfl rfl (fun w hM=>(aC (off':=3) qU60 rfl in56 rfl hF rfl rfl rfl)) fun a hF=>?_
   refine aK hF hch 6 rfl (by kernel_rfl) rfl rfl rfl (fun w hM=>(aI qA56 hF rfl rfl (hM.cell (i:=0) rfl (RMark.g_regs _)))) fun a hF=>?_
   refine aK hF hch 7 rfl (by kernel_rfl) rfl rfl rfl (fun w hM=>(aF hF rfl rfl)) fun a hF=>?_
   obtain ⟨m9,i1,hP⟩:=bind_some hP
   have j1:=aM i1
   refine aK hF hch 8 rfl (by kernel_rfl) rfl rfl rfl (fun w hM=>(aS (sz:=9) (f12 _ (hsub _ (dropM hM 2))) qU56 in128 rfl hF rfl rfl rfl (bG i1))) fun a hF=>?_
   refine aK hF hch 9 rfl (by kernel_rfl) rfl rfl rfl (fun w hM=>(aQ qA128 qS128 hF rfl rfl (LTurn.len _) (((f12 _ (hsub _ (dropM hM 2))).elemS j1.2)))) fun a hF=>?_
   refine aK hF hch 10 rfl (by kernel_rfl) rfl rfl rfl (fun w hM=>(jK Tryz.eqGuardType128 (aDt _ _ _ _ (by decide)) hF rfl rfl rfl)) fun a hF=>?_
   refine bW hch (by kernel_rfl) fun w hM=>?_
   refine aB ?_
   refine aV hF (c:=.tmp 81) rfl (fun g2=>?_) (fun g2=>?_)
   ·have hP:=Fx.cT g2 hP
    refine aG ?_
    refine aD ?_
    refine aA hF (aH hF rfl rfl) rfl rfl rfl fun a hF=>?_
    refine aJ (aB ?_)
    refine c_ret ?_
    have hP:=oI hP
    subst hP
    have hP:=i7 _ rfl
    subst hP
    have hP:=dB l5
    subst hP
    refine bH qR33 hF rfl ?_
    exact ⟨rfl,selM hM [] 2 rfl⟩
   have hP:=Fx.cF g2 hP
   refine aW (bK (aB ?_))
   refine aD ?_
   refine aA hF (aF hF rfl rfl) rfl rfl rfl fun a hF=>?_
   refine aA hF (bX hF rfl rfl rfl) rfl rfl rfl fun a hF=>?_
   refine aA hF (aH hF rfl rfl) rfl rfl rfl fun a hF=>?_
   refine aJ (aB ?_)
   have hP:=oI hP
   subst hP
   exact ⟨(IntKind.i64.wrap (d8 + 1)),rfl,hF.to ⟨rfl,rfl,rfl,rfl,trivial⟩,hM⟩
  have hP:=Fx.cF g1 hP
  refine bY (bD (bD (cJ ?_)))
  refine aB ?_
  have hP:=oI hP
  subst hP
  have hP:=i7 _ rfl
  subst hP
  exact ⟨(),rfl,hF.to ⟨rfl,rfl,rfl,trivial⟩,hM⟩
 rintro ⟨⟩ a w hP ⟨hF,hM⟩
 replace hP:Sh.hQ x0 x1 = _:=hP
 unfold Sh.hQ at hP
 refine aB ?_
 refine aG ?_
 refine aU hF hM hP (fun F x a w=>match x with | _=>Fr 145 [(2,.pointer (some ⟨c0,0,none⟩)),(3,.pointer (some ⟨c1,0,none⟩)),(4,.bool false)] a ∧ MemL w (pt c1 (RMark.enc (mMk x1 s11 s13 s15 s19)) 60 :: pt c0 (RMark.enc (mMk x0 s1 s3 s5 s9)) 60 :: Lr)) (fun n5 hP l6 hF hM=>?_) ?_
 ·refine aG ?_
  refine aD ?_
  refine aA hF (aH hF rfl rfl) rfl rfl rfl fun a hF=>?_
  refine aJ (aB ?_)
  refine aT ?_
  refine bU hF hM hP (fun F x a w=>match x with | d9=>Fr 145 [(6,.int .i64 d9),(2,.pointer (some ⟨c0,0,none⟩)),(3,.pointer (some ⟨c1,0,none⟩)),(4,.bool false)] a ∧ MemL w (pt c1 (RMark.enc (mMk x1 s11 s13 s15 s19)) 60 :: pt c0 (RMark.enc (mMk x0 s1 s3 s5 s9)) 60 :: Lr)) (fun hF hM=>⟨hF.to ⟨rfl,rfl,rfl,rfl,trivial⟩,hM⟩) ?_
  rintro d9 a w n9 hP i8 ⟨hF,hM⟩
  replace hP:Sh.dO x0 x1 d9 = _:=hP
  unfold Sh.dO at hP
  refine aG ?_
  refine aG ?_
  refine aD ?_
  refine aA hF (aF hF rfl rfl) rfl rfl rfl fun a hF=>?_
  refine aA hF (aC (off':=4) qU60 rfl in57 rfl hF rfl rfl rfl) rfl rfl rfl fun a hF=>?_
  refine aA hF (aI qA57 hF rfl rfl (hM.cell (i:=1) rfl (RMark.g_slots _))) rfl rfl rfl fun a hF=>?_
  refine aA hF (bM (f4 _ (hsub _ (dropM hM 2))) qU57 hF rfl rfl) rfl rfl rfl fun a hF=>?_
  refine aA hF (cI hF rfl rfl rfl) rfl rfl rfl fun a hF=>?_
  refine aJ (aB ?_)
  refine aV hF (c:=.tmp 86) rfl (fun g3=>?_) (fun g3=>?_)
  ·have hP:=Fx.cT g3 hP
   refine aW (aB ?_)
   refine aG ?_
   refine aT ?_
   refine aG ?_
   refine bL mixed (by kernel_rfl) hM [0,1] 2 rfl fun hch=>?_
   refine aK hF hch 0 rfl (by kernel_rfl) rfl rfl rfl (fun w hM=>(aC (off':=4) qU60 rfl in57 rfl hF rfl rfl rfl)) fun a hF=>?_
   refine aK hF hch 1 rfl (by kernel_rfl) rfl rfl rfl (fun w hM=>(aI qA57 hF rfl rfl (hM.cell (i:=1) rfl (RMark.g_slots _)))) fun a hF=>?_
   refine aK hF hch 2 rfl (by kernel_rfl) rfl rfl rfl (fun w hM=>(aF hF rfl rfl)) fun a hF=>?_
   obtain ⟨n0,i2,hP⟩:=bind_some hP
   have j2:=aM i2
   refine aK hF hch 3 rfl (by kernel_rfl) rfl rfl rfl (fun w hM=>(aS (sz:=27) (f4 _ (hsub _ (dropM hM 2))) qU57 in151 rfl hF rfl rfl rfl (bG i2))) fun a hF=>?_
   refine aK hF hch 4 rfl (by kernel_rfl) rfl rfl rfl (fun w hM=>(aQ qA151 qS151 hF rfl rfl (LCell.len _) (((f4 _ (hsub _ (dropM hM 2))).elemS j2.2)))) fun a hF=>?_
   refine aK hF hch 5 rfl (by kernel_rfl) rfl rfl rfl (fun w hM=>(aC (off':=4) qU60 rfl in57 rfl hF rfl rfl rfl)) fun a hF=>?_
   refine aK hF hch 6 rfl (by kernel_rfl) rfl rfl rfl (fun w hM=>(aI qA57 hF rfl rfl (hM.cell (i:=0) rfl (RMark.g_slots _)))) fun a hF=>?_
   refine aK hF hch 7 rfl (by kernel_rfl) rfl rfl rfl (fun w hM=>(aF hF rfl rfl)) fun a hF=>?_
   obtain ⟨n1,i3,hP⟩:=bind_some hP
   have j3:=aM i3
   refine aK hF hch 8 rfl (by kernel_rfl) rfl rfl rfl (fun w hM=>(aS (sz:=27) (f14 _ (hsub _ (dropM hM 2))) qU57 in151 rfl hF rfl rfl rfl (bG i3))) fun a hF=>?_
   refine aK hF hch 9 rfl (by kernel_rfl) rfl rfl rfl (fun w hM=>(aQ qA151 qS151 hF rfl rfl (LCell.len _) (((f14 _ (hsub _ (dropM hM 2))).elemS j3.2)))) fun a hF=>?_
   refine aK hF hch 10 rfl (by kernel_rfl) rfl rfl rfl (fun w hM=>(jK Tryz.eqGuardType151 (aDs _ _ _ _ (by decide)) hF rfl rfl rfl)) fun a hF=>?_
   refine bW hch (by kernel_rfl) fun w hM=>?_
   refine aB ?_
   refine aV hF (c:=.tmp 99) rfl (fun g4=>?_) (fun g4=>?_)
   ·have hP:=Fx.cT g4 hP
    refine aG ?_
    refine aD ?_
    refine aA hF (aH hF rfl rfl) rfl rfl rfl fun a hF=>?_
    refine aJ (aB ?_)
    refine c_ret ?_
    have hP:=oI hP
    subst hP
    have hP:=i8 _ rfl
    subst hP
    have hP:=dB l6
    subst hP
    refine bH qR33 hF rfl ?_
    exact ⟨rfl,selM hM [] 2 rfl⟩
   have hP:=Fx.cF g4 hP
   refine aW (bK (aB ?_))
   refine aD ?_
   refine aA hF (aF hF rfl rfl) rfl rfl rfl fun a hF=>?_
   refine aA hF (bX hF rfl rfl rfl) rfl rfl rfl fun a hF=>?_
   refine aA hF (aH hF rfl rfl) rfl rfl rfl fun a hF=>?_
   refine aJ (aB ?_)
   have hP:=oI hP
   subst hP
   exact ⟨(IntKind.i64.wrap (d9 + 1)),rfl,hF.to ⟨rfl,rfl,rfl,rfl,trivial⟩,hM⟩
  have hP:=Fx.cF g3 hP
  refine bY (bD (bD (cJ ?_)))
  refine aB ?_
  have hP:=oI hP
  subst hP
  have hP:=i8 _ rfl
  subst hP
  exact ⟨(),rfl,hF.to ⟨rfl,rfl,rfl,trivial⟩,hM⟩
 rintro ⟨⟩ a w hP ⟨hF,hM⟩
 replace hP:Sh.hR x0 x1 = _:=hP
 unfold Sh.hR at hP
 refine aB ?_
 refine aG ?_
 refine aU hF hM hP (fun F x a w=>match x with | _=>Fr 145 [(4,.bool false)] a ∧ MemL w (Lr)) (fun n6 hP l7 hF hM=>?_) ?_
 ·refine aG ?_
  refine aD ?_
  refine aA hF (aH hF rfl rfl) rfl rfl rfl fun a hF=>?_
  refine aJ (aB ?_)
  refine aT ?_
  refine bU hF hM hP (fun F x a w=>match x with | d4=>Fr 145 [(7,.int .i64 d4),(2,.pointer (some ⟨c0,0,none⟩)),(3,.pointer (some ⟨c1,0,none⟩)),(4,.bool false)] a ∧ MemL w (pt c1 (RMark.enc (mMk x1 s11 s13 s15 s19)) 60 :: pt c0 (RMark.enc (mMk x0 s1 s3 s5 s9)) 60 :: Lr)) (fun hF hM=>⟨hF.to ⟨rfl,rfl,rfl,rfl,trivial⟩,hM⟩) ?_
  rintro d4 a w p0 hP i9 ⟨hF,hM⟩
  replace hP:Sh.dP x0 x1 d4 = _:=hP
  unfold Sh.dP at hP
  refine aG ?_
  refine aG ?_
  refine aD ?_
  refine aA hF (aF hF rfl rfl) rfl rfl rfl fun a hF=>?_
  refine aA hF (aC (off':=5) qU60 rfl in58 rfl hF rfl rfl rfl) rfl rfl rfl fun a hF=>?_
  refine aA hF (aI qA58 hF rfl rfl (hM.cell (i:=1) rfl (RMark.g_pieces _))) rfl rfl rfl fun a hF=>?_
  refine aA hF (cQ (f7 _ (hsub _ (dropM hM 2))) q8.len qU58 hF rfl rfl) rfl rfl rfl fun a hF=>?_
  refine aA hF (cI hF rfl rfl rfl) rfl rfl rfl fun a hF=>?_
  refine aJ (aB ?_)
  refine aV hF (c:=.tmp 104) rfl (fun g5=>?_) (fun g5=>?_)
  ·have hP:=Fx.cT g5 hP
   refine aW (aB ?_)
   refine aG ?_
   refine aT ?_
   refine aG ?_
   refine aD ?_
   refine aA hF (aC (off':=5) qU60 rfl in58 rfl hF rfl rfl rfl) rfl rfl rfl fun a hF=>?_
   refine aA hF (aI qA58 hF rfl rfl (hM.cell (i:=1) rfl (RMark.g_pieces _))) rfl rfl rfl fun a hF=>?_
   refine aA hF (aF hF rfl rfl) rfl rfl rfl fun a hF=>?_
   obtain ⟨d1,i4,hP⟩:=bind_some hP
   have j4:=aM i4
   obtain ⟨m4,k2,k4⟩:=Each.getr q8 j4.2
   have k0:=Each.bd q8 (bG i4)
   obtain ⟨d6,d7,rfl,l1,l2⟩:=k4
   refine aA hF (aS (sz:=4) (f7 _ (hsub _ (dropM hM 2))) qU58 in156 rfl hF rfl rfl rfl k0) rfl rfl rfl fun a hF=>?_
   refine aA hF (aQ qA156 qS156 hF rfl rfl (RPiece.len _) (((f7 _ (hsub _ (dropM hM 2))).elemS k2))) rfl rfl rfl fun a hF=>?_
   refine aO hF rfl rfl rfl (bO z156 (zs:=RPiece.zero.enc) rfl rfl fun d2 w m2 j8=>?_)
   have hM:=hM.plus j8
   replace hM:MemL _ (pt d2 (RPiece.enc (RPiece.mk 0 0 SV.nil SV.nil)) 156 :: pt c1 (RMark.enc (mMk x1 s11 s13 s15 s19)) 60 :: pt c0 (RMark.enc (mMk x0 s1 s3 s5 s9)) 60 :: Lr):=hM
   intro a hF
   refine bI rfl rfl (aY (vs:=_) qS156 (hM.obj (i:=0) rfl) hF rfl rfl rfl rfl (RPiece.len _) (RPiece.one _) (by first | (rw [RPiece.len,RPiece.len]; decide) | (rw [RPiece.len]; decide)) (bF ((RPiece.len _).trans (RPiece.len _).symm)) fun w k6=>?_)
   have hM:=hM.chg k6 (i:=0) rfl
   replace hM:MemL _ (pt d2 (RPiece.enc (mPc d1 d6 d7)) 156 :: pt c1 (RMark.enc (mMk x1 s11 s13 s15 s19)) 60 :: pt c0 (RMark.enc (mMk x0 s1 s3 s5 s9)) 60 :: Lr):=hM
   refine aJ (aB ?_)
   refine aG ?_
   refine aD ?_
   refine aA hF (aC (off':=5) qU60 rfl in58 rfl hF rfl rfl rfl) rfl rfl rfl fun a hF=>?_
   refine aA hF (aI qA58 hF rfl rfl (hM.cell (i:=1) rfl (RMark.g_pieces _))) rfl rfl rfl fun a hF=>?_
   refine aA hF (aF hF rfl rfl) rfl rfl rfl fun a hF=>?_
   obtain ⟨d5,i5,hP⟩:=bind_some hP
   have j5:=aM i5
   obtain ⟨m5,k3,k5⟩:=Each.getr q18 j5.2
   have k1:=Each.bd q18 (bG i5)
   obtain ⟨g7,g8,rfl,l3,l4⟩:=k5
   refine aA hF (aS (sz:=4) (f17 _ (hsub _ (dropM hM 3))) qU58 in156 rfl hF rfl rfl rfl k1) rfl rfl rfl fun a hF=>?_
   refine aA hF (aQ qA156 qS156 hF rfl rfl (RPiece.len _) (((f17 _ (hsub _ (dropM hM 3))).elemS k3))) rfl rfl rfl fun a hF=>?_
   refine aO hF rfl rfl rfl (bO z156 (zs:=RPiece.zero.enc) rfl rfl fun d3 w m3 j9=>?_)
   have hM:=hM.plus j9
   replace hM:MemL _ (pt d3 (RPiece.enc (RPiece.mk 0 0 SV.nil SV.nil)) 156 :: pt d2 (RPiece.enc (mPc d1 d6 d7)) 156 :: pt c1 (RMark.enc (mMk x1 s11 s13 s15 s19)) 60 :: pt c0 (RMark.enc (mMk x0 s1 s3 s5 s9)) 60 :: Lr):=hM
   intro a hF
   refine bI rfl rfl (aY (vs:=_) qS156 (hM.obj (i:=0) rfl) hF rfl rfl rfl rfl (RPiece.len _) (RPiece.one _) (by first | (rw [RPiece.len,RPiece.len]; decide) | (rw [RPiece.len]; decide)) (bF ((RPiece.len _).trans (RPiece.len _).symm)) fun w k7=>?_)
   have hM:=hM.chg k7 (i:=0) rfl
   replace hM:MemL _ (pt d3 (RPiece.enc (mPc d5 g7 g8)) 156 :: pt d2 (RPiece.enc (mPc d1 d6 d7)) 156 :: pt c1 (RMark.enc (mMk x1 s11 s13 s15 s19)) 60 :: pt c0 (RMark.enc (mMk x0 s1 s3 s5 s9)) 60 :: Lr):=hM
   refine aJ (aB ?_)
   refine aG ?_
   refine aU hF hM hP (fun F x a w=>match x with | g9=>Fr 145 [(144,.bool g9),(2,.pointer (some ⟨c0,0,none⟩)),(3,.pointer (some ⟨c1,0,none⟩)),(4,.bool false),(7,.int .i64 d4)] a ∧ MemL w (pt c1 (RMark.enc (mMk x1 s11 s13 s15 s19)) 60 :: pt c0 (RMark.enc (mMk x0 s1 s3 s5 s9)) 60 :: Lr)) (fun n7 hP m7 hF hM=>?_) ?_
   ·refine aD ?_
    refine aA hF (aC (off':=0) qU156 rfl in3 rfl hF rfl rfl rfl) rfl rfl rfl fun a hF=>?_
    refine aA hF (aI qA3 hF rfl rfl (hM.cell (i:=1) rfl (RPiece.g_table _))) rfl rfl rfl fun a hF=>?_
    refine aA hF (aC (off':=0) qU156 rfl in3 rfl hF rfl rfl rfl) rfl rfl rfl fun a hF=>?_
    refine aA hF (aI qA3 hF rfl rfl (hM.cell (i:=0) rfl (RPiece.g_table _))) rfl rfl rfl fun a hF=>?_
    refine aA hF (dC hF rfl rfl rfl) rfl rfl rfl fun a hF=>?_
    refine aA hF (aF hF rfl rfl) rfl rfl rfl fun a hF=>?_
    refine bE 122 hF rfl (fun c8=>?_) (fun c8=>?_)
    ·have hP:=Fx.cT c8 hP
     refine aE hF rfl rfl rfl c8 rfl rfl fun a hF=>?_
     refine aE hF rfl rfl rfl c8 rfl rfl fun a hF=>?_
     refine aE hF rfl rfl rfl c8 rfl rfl fun a hF=>?_
     refine aE hF rfl rfl rfl c8 rfl rfl fun a hF=>?_
     refine aE hF rfl rfl rfl c8 rfl rfl fun a hF=>?_
     refine aA hF (aP hF rfl rfl c8 rfl) rfl rfl rfl fun a hF=>?_
     refine aA hF (aF hF rfl rfl) rfl rfl rfl fun a hF=>?_
     refine aE hF rfl rfl rfl rfl rfl rfl fun a hF=>?_
     refine aE hF rfl rfl rfl rfl rfl rfl fun a hF=>?_
     refine aE hF rfl rfl rfl rfl rfl rfl fun a hF=>?_
     refine aE hF rfl rfl rfl rfl rfl rfl fun a hF=>?_
     refine aE hF rfl rfl rfl rfl rfl rfl fun a hF=>?_
     refine aE hF rfl rfl rfl rfl rfl rfl fun a hF=>?_
     refine aA hF (aP hF rfl rfl rfl rfl) rfl rfl rfl fun a hF=>?_
     refine aA hF (aF hF rfl rfl) rfl rfl rfl fun a hF=>?_
     refine aE hF rfl rfl rfl rfl rfl rfl fun a hF=>?_
     refine aE hF rfl rfl rfl rfl rfl rfl fun a hF=>?_
     refine aE hF rfl rfl rfl rfl rfl rfl fun a hF=>?_
     refine aE hF rfl rfl rfl rfl rfl rfl fun a hF=>?_
     refine aE hF rfl rfl rfl rfl rfl rfl fun a hF=>?_
     refine aE hF rfl rfl rfl rfl rfl rfl fun a hF=>?_
     refine aA hF (aP hF rfl rfl rfl rfl) rfl rfl rfl fun a hF=>?_
     refine aJ (aB ?_)
     have hP:=oI hP
     subst hP
     exact ⟨true,rfl,hF.to ⟨rfl,rfl,rfl,rfl,rfl,trivial⟩,selM hM [2,3] 4 rfl⟩
    have hP:=Fx.cF c8 hP
    refine aL hF rfl rfl rfl c8 (aC (off':=1) qU156 rfl in3 rfl hF rfl rfl rfl) rfl rfl fun a hF=>?_
    refine aL hF rfl rfl rfl c8 (aI qA3 hF rfl rfl (hM.cell (i:=1) rfl (RPiece.g_from_ _))) rfl rfl fun a hF=>?_
    refine aL hF rfl rfl rfl c8 (aC (off':=1) qU156 rfl in3 rfl hF rfl rfl rfl) rfl rfl fun a hF=>?_
    refine aL hF rfl rfl rfl c8 (aI qA3 hF rfl rfl (hM.cell (i:=0) rfl (RPiece.g_from_ _))) rfl rfl fun a hF=>?_
    refine aL hF rfl rfl rfl c8 (dC hF rfl rfl rfl) rfl rfl fun a hF=>?_
    refine aA hF (aX hF rfl rfl c8 rfl) rfl rfl rfl fun a hF=>?_
    refine aA hF (aF hF rfl rfl) rfl rfl rfl fun a hF=>?_
    refine bE 129 hF rfl (fun c6=>?_) (fun c6=>?_)
    ·have hP:=Fx.cT c6 hP
     refine aE hF rfl rfl rfl c6 rfl rfl fun a hF=>?_
     refine aE hF rfl rfl rfl c6 rfl rfl fun a hF=>?_
     refine aE hF rfl rfl rfl c6 rfl rfl fun a hF=>?_
     refine aE hF rfl rfl rfl c6 rfl rfl fun a hF=>?_
     refine aE hF rfl rfl rfl c6 rfl rfl fun a hF=>?_
     refine aE hF rfl rfl rfl c6 rfl rfl fun a hF=>?_
     refine aA hF (aP hF rfl rfl c6 rfl) rfl rfl rfl fun a hF=>?_
     refine aA hF (aF hF rfl rfl) rfl rfl rfl fun a hF=>?_
     refine aE hF rfl rfl rfl rfl rfl rfl fun a hF=>?_
     refine aE hF rfl rfl rfl rfl rfl rfl fun a hF=>?_
     refine aE hF rfl rfl rfl rfl rfl rfl fun a hF=>?_
     refine aE hF rfl rfl rfl rfl rfl rfl fun a hF=>?_
     refine aE hF rfl rfl rfl rfl rfl rfl fun a hF=>?_
     refine aE hF rfl rfl rfl rfl rfl rfl fun a hF=>?_
     refine aA hF (aP hF rfl rfl rfl rfl) rfl rfl rfl fun a hF=>?_
     refine aJ (aB ?_)
     have hP:=oI hP
     subst hP
     exact ⟨true,rfl,hF.to ⟨rfl,rfl,rfl,rfl,rfl,trivial⟩,selM hM [2,3] 4 rfl⟩
    have hP:=Fx.cF c6 hP
    refine aL hF rfl rfl rfl c6 (aC (off':=2) qU156 rfl in23 rfl hF rfl rfl rfl) rfl rfl fun a hF=>?_
    refine aL hF rfl rfl rfl c6 (aI qA23 hF rfl rfl (hM.cell (i:=1) rfl (RPiece.g_old _))) rfl rfl fun a hF=>?_
    refine aL hF rfl rfl rfl c6 (aC (off':=2) qU156 rfl in23 rfl hF rfl rfl rfl) rfl rfl fun a hF=>?_
    refine aL hF rfl rfl rfl c6 (aI qA23 hF rfl rfl (hM.cell (i:=0) rfl (RPiece.g_old _))) rfl rfl fun a hF=>?_
    obtain ⟨n2,k9,hP⟩:=bind_some hP
    refine dV hF rfl rfl rfl c6 rfl rfl (aN (xs:=[.tmp 131,.tmp 133]) Tryz.call43 hF rfl rfl (eC k9 hM (Bf:=Bf) (fun w hM=>hsub _ (dropM hM 4)) l1 l3) fun v w hR=>?_)
    obtain ⟨rfl,hM⟩:=hR
    replace hM:MemL _ (pt d3 (RPiece.enc (mPc d5 g7 g8)) 156 :: pt d2 (RPiece.enc (mPc d1 d6 d7)) 156 :: pt c1 (RMark.enc (mMk x1 s11 s13 s15 s19)) 60 :: pt c0 (RMark.enc (mMk x0 s1 s3 s5 s9)) 60 :: Lr):=hM
    intro a hF
    refine aL hF rfl rfl rfl c6 (dE hF rfl rfl) rfl rfl fun a hF=>?_
    refine aA hF (aX hF rfl rfl c6 rfl) rfl rfl rfl fun a hF=>?_
    refine aA hF (aF hF rfl rfl) rfl rfl rfl fun a hF=>?_
    refine bE 137 hF rfl (fun c7=>?_) (fun c7=>?_)
    ·have hP:=Fx.cT c7 hP
     refine aE hF rfl rfl rfl c7 rfl rfl fun a hF=>?_
     refine aE hF rfl rfl rfl c7 rfl rfl fun a hF=>?_
     refine aE hF rfl rfl rfl c7 rfl rfl fun a hF=>?_
     refine aE hF rfl rfl rfl c7 rfl rfl fun a hF=>?_
     refine aE hF rfl rfl rfl c7 rfl rfl fun a hF=>?_
     refine aE hF rfl rfl rfl c7 rfl rfl fun a hF=>?_
     refine aA hF (aP hF rfl rfl c7 rfl) rfl rfl rfl fun a hF=>?_
     refine aJ (aB ?_)
     have hP:=oI hP
     subst hP
     exact ⟨true,rfl,hF.to ⟨rfl,rfl,rfl,rfl,rfl,trivial⟩,selM hM [2,3] 4 rfl⟩
    have hP:=Fx.cF c7 hP
    refine aL hF rfl rfl rfl c7 (aC (off':=3) qU156 rfl in23 rfl hF rfl rfl rfl) rfl rfl fun a hF=>?_
    refine aL hF rfl rfl rfl c7 (aI qA23 hF rfl rfl (hM.cell (i:=1) rfl (RPiece.g_new _))) rfl rfl fun a hF=>?_
    refine aL hF rfl rfl rfl c7 (aC (off':=3) qU156 rfl in23 rfl hF rfl rfl rfl) rfl rfl fun a hF=>?_
    refine aL hF rfl rfl rfl c7 (aI qA23 hF rfl rfl (hM.cell (i:=0) rfl (RPiece.g_new _))) rfl rfl fun a hF=>?_
    obtain ⟨l9,l0,hP⟩:=bind_some hP
    refine dV hF rfl rfl rfl c7 rfl rfl (aN (xs:=[.tmp 139,.tmp 141]) Tryz.call43 hF rfl rfl (eC l0 hM (Bf:=Bf) (fun w hM=>hsub _ (dropM hM 4)) l2 l4) fun v w hR=>?_)
    obtain ⟨rfl,hM⟩:=hR
    replace hM:MemL _ (pt d3 (RPiece.enc (mPc d5 g7 g8)) 156 :: pt d2 (RPiece.enc (mPc d1 d6 d7)) 156 :: pt c1 (RMark.enc (mMk x1 s11 s13 s15 s19)) 60 :: pt c0 (RMark.enc (mMk x0 s1 s3 s5 s9)) 60 :: Lr):=hM
    intro a hF
    refine aL hF rfl rfl rfl c7 (dE hF rfl rfl) rfl rfl fun a hF=>?_
    refine aA hF (aX hF rfl rfl c7 rfl) rfl rfl rfl fun a hF=>?_
    refine aJ (aB ?_)
    have hP:=oI hP
    subst hP
    exact ⟨(!l9),rfl,hF.to ⟨rfl,rfl,rfl,rfl,rfl,trivial⟩,selM hM [2,3] 4 rfl⟩
   rintro g9 a w hP ⟨hF,hM⟩
   replace hP:Sh.dM d4 g9 = _:=hP
   unfold Sh.dM at hP
   refine aB ?_
   refine aV hF (c:=.tmp 144) rfl (fun g6=>?_) (fun g6=>?_)
   ·have hP:=Fx.cT g6 hP
    refine aG ?_
    refine aD ?_
    refine aA hF (aH hF rfl rfl) rfl rfl rfl fun a hF=>?_
    refine aJ (aB ?_)
    refine c_ret ?_
    have hP:=oI hP
    subst hP
    have hP:=i9 _ rfl
    subst hP
    have hP:=dB l7
    subst hP
    refine bH qR33 hF rfl ?_
    exact ⟨rfl,selM hM [] 2 rfl⟩
   have hP:=Fx.cF g6 hP
   refine aW (bK (aB ?_))
   refine aD ?_
   refine aA hF (aF hF rfl rfl) rfl rfl rfl fun a hF=>?_
   refine aA hF (bX hF rfl rfl rfl) rfl rfl rfl fun a hF=>?_
   refine aA hF (aH hF rfl rfl) rfl rfl rfl fun a hF=>?_
   refine aJ (aB ?_)
   have hP:=oI hP
   subst hP
   exact ⟨(IntKind.i64.wrap (d4 + 1)),rfl,hF.to ⟨rfl,rfl,rfl,rfl,trivial⟩,hM⟩
  have hP:=Fx.cF g5 hP
  refine bY (bD (bD (cJ ?_)))
  refine aB ?_
  have hP:=oI hP
  subst hP
  have hP:=i9 _ rfl
  subst hP
  exact ⟨(),rfl,hF.to ⟨rfl,trivial⟩,selM hM [] 2 rfl⟩
 rintro ⟨⟩ a w hP ⟨hF,hM⟩
 replace hP:Sh.qF = _:=hP
 unfold Sh.qF at hP
 refine aB ?_
 refine aG ?_
 refine aD ?_
 refine aA hF (aH hF rfl rfl) rfl rfl rfl fun a hF=>?_
 refine aJ (aB ?_)
 refine c_ret ?_
 have hP:=oI hP
 subst hP
 refine bH qR33 hF rfl ?_
 exact ⟨rfl,hM⟩
end Go.Proofs
end
section
namespace Go.Ev
open Go.Fw Go.Proofs
set_option maxRecDepth 1000000
theorem known_ev:okT (acall (tabOf Tryz.prog) 1000 40 [] (.f 22 [] []) [] { h:=.e,nx:=0 }) = true:=by kernel_rfl
end Go.Ev
end
section
namespace Go.Proofs
open Go.Fw Go.Fx
theorem gL {out:Bool} {w0:World} {Lr:List Res} (hP:Sh.dV = some out) (hM:MemL w0 Lr):Calls Tryz.prog 22 #[] w0 (Ret fun v w'=>v = .bool out ∧ MemL w' Lr):=by
  cases hP
  refine Calls.mono (Go.Ev.closed_true (fuel:=1000) (k:=40) (by kernel_rfl) Go.Ev.known_ev w0) fun e w' he=>?_
  cases e <;> first
    | exact ⟨he.1,hM.keep he.2⟩
    | exact he
end Go.Proofs
end
section
namespace Go.Proofs
open Go.Fw Go.Fx
set_option maxRecDepth 10000
set_option maxHeartbeats 4000000 in
theorem iW {x0:List UInt8} {s1:SV} {out:List UInt8} {w0:World} {Bf:World → Prop} {Lr:List Res} (hP:Sh.pD x0 = some out) (hM:MemL w0 (Lr)) (hsub:∀ w,MemL w Lr → Bf w) (f2:LIn Bf s1 x0):Calls Tryz.prog 90 #[(s1).v] w0 (Ret fun v w'=>∃ (s11:SV) (r13:SRes),v = (s11).v ∧ LRm r13.r.holds' s11 out spU8 ∧ MemL w' (r13.r :: Lr)):=by
 unfold Sh.pD at hP
 refine aR (vs:=[(s1).v]) Tryz.func90 rfl Tryz.ntmps90 rfl fun a hF=>?_
 refine aG ?_
 refine aD ?_
 refine aA hF (aH hF rfl rfl) rfl rfl rfl fun a hF=>?_
 refine aJ (aB ?_)
 refine aG ?_
 refine aD ?_
 refine aA hF (aF hF rfl rfl) rfl rfl rfl fun a hF=>?_
 obtain ⟨y16,hy16,hP⟩:=bind_some hP
 refine aO hF rfl rfl rfl (aN (xs:=[.tmp 3]) Tryz.call50 hF rfl rfl (eB hy16 hM (Bf:=Bf) (fun w hM=>hsub _ (dropM hM 0)) f2) fun v w hR=>?_)
 obtain ⟨s17,rfl,hM⟩:=hR
 intro a hF
 refine aO hF rfl rfl rfl (eW (X:=UInt8) (ys:=[161,162]) (m:=2) qU23 in5 rfl rfl rfl rfl (by decide) (by decide) hF rfl rfl (PartsE.cons rfl (PartsE.cons rfl PartsE.nil)) fun c0 w c2 c1=>?_)
 have hM:=hM.plus c1
 replace hM:MemL _ (pt c0 (encs ([161,162]:List UInt8)) 5 :: rowL 0 s17 5 y16 :: Lr):=hM
 intro a hF
 obtain ⟨x20,hx20,hP⟩:=bind_some hP
 refine aO hF rfl rfl rfl (cY (X:=UInt8) hx20 qU23 in5 rfl rfl rfl rfl hF rfl rfl rfl (hM.own (X:=UInt8) (i:=1) rfl) (hM.ptS (X:=UInt8) (i:=0) (n:=2) (c:=2) rfl rfl rfl (Nat.le_refl _)) fun s19 w hUs19=>?_)
 have hM:=hM.chg hUs19 (i:=1) rfl
 have hQs19:=hM.rowS (X:=UInt8) (i:=1) rfl
 replace hM:MemL _ (pt c0 (encs ([161,162]:List UInt8)) 5 :: rowL 0 s19 5 x20 :: Lr):=hM
 intro a hF
 refine aA hF (aF hF rfl rfl) rfl rfl rfl fun a hF=>?_
 refine aA hF (bM (f2 _ (hsub _ (dropM hM 2))) qU23 hF rfl rfl) rfl rfl rfl fun a hF=>?_
 obtain ⟨x21,hx21,hP⟩:=bind_some hP
 have f22:LRm (rowL 0 s19 5 x20).holds' (s19.cut (0:Int).toNat ((x0.length:Int):Int).toNat 1) x21 spU8:=lH hx21 rfl
 refine aA hF (eL hQs19 (lI hx21) qU23 in5 rfl hF rfl rfl (.inl ⟨rfl,rfl⟩) (.inr ⟨_,_,rfl,rfl⟩)) rfl rfl rfl fun a hF=>?_
 refine aA hF (aH hF rfl rfl) rfl rfl rfl fun a hF=>?_
 refine aJ (aB ?_)
 refine c_ret ?_
 replace hM:MemL _ (pt c0 (encs ([161,162]:List UInt8)) 5 :: rowL 0 s19 5 x20 :: Lr):=hM
 obtain ⟨r23,hj24,hM⟩:=oneS (selM hM [1,0] 2 rfl)
 replace hM:MemL _ (r23.r :: pt c0 (encs ([161,162]:List UInt8)) 5 :: Lr):=hM
 have f25:LRm r23.r.holds' (s19.cut (0:Int).toNat ((x0.length:Int):Int).toNat 1) x21 spU8:=LRm.mono f22 hj24
 have hP:=oI hP
 subst hP
 refine bH Tryz.results90 hF rfl ?_
 exact ⟨(s19.cut (0:Int).toNat ((x0.length:Int):Int).toNat 1),r23,rfl,f25,selM hM [0] 2 rfl⟩
set_option maxHeartbeats 4000000 in
theorem dQ {x0:QMark} {s1:SV} {s3:SV} {s5:SV} {hs6:List RPiece} {s9:SV} {out:QMark} {w0:World} {Bf:World → Prop} {Lr:List Res} (hP:Sh.oB x0 = some out) (hM:MemL w0 (Lr)) (hsub:∀ w,MemL w Lr → Bf w) (f2:LIn Bf s1 x0.regs) (f4:LIn Bf s3 x0.slots) (f7:LIn Bf s5 hs6) (q8:Each (QPieceIn Bf) hs6 x0.pieces) (f10:LIn Bf s9 x0.sent):Calls Tryz.prog 59 #[.agg (RMark.enc (mMk x0 s1 s3 s5 s9)).toArray] w0 (Ret fun v w'=>∃ (c60:SV) (c57:SRes) (c61:SV) (c58:SRes) (c62:SV) (c20:List RPiece) (c15:SRes) (c63:SV) (c59:SRes),v = .agg (RMark.enc (mMk out c60 c61 c62 c63)).toArray ∧ LRm c57.r.holds' c60 out.regs spTurn ∧ LRm c58.r.holds' c61 out.slots spCell ∧ LRm c15.r.holds' c62 c20 hspPiece ∧ Each (QPieceRm c15.r.holds') c20 out.pieces ∧ LRm c59.r.holds' c63 out.sent spInt ∧ MemL w' (c57.r :: c58.r :: c15.r :: c59.r :: Lr)):=by
 unfold Sh.oB at hP
 refine aR (vs:=[.agg (RMark.enc (mMk x0 s1 s3 s5 s9)).toArray]) Tryz.func59 rfl Tryz.ntmps59 rfl fun a hF=>?_
 refine aG ?_
 refine aD ?_
 refine aO hF rfl rfl rfl (dA hF rfl rfl rfl fun c0 w c85 c26=>?_)
 have hM:=hM.plus c26
 intro a hF
 refine aO hF rfl rfl rfl (bO z60 (zs:=RMark.zero.enc) rfl rfl fun c1 w c86 c27=>?_)
 have hM:=hM.plus c27
 intro a hF
 refine aJ (aB ?_)
 refine aG ?_
 refine aD ?_
 refine aA hF (aQ qA60 qS60 hF rfl rfl (RMark.len _) (hM.cells (i:=1) rfl (bA (RMark.len _)))) rfl rfl rfl fun a hF=>?_
 refine aO hF rfl rfl rfl (bO z60 (zs:=RMark.zero.enc) rfl rfl fun c2 w c87 c28=>?_)
 have hM:=hM.plus c28
 replace hM:MemL _ (pt c2 (RMark.enc zMk) 60 :: pt c1 (RMark.enc zMk) 60 :: pt c0 (RMark.enc (mMk x0 s1 s3 s5 s9)) 60 :: Lr):=hM
 intro a hF
 refine bI rfl rfl (aY (vs:=_) qS60 (hM.obj (i:=0) rfl) hF rfl rfl rfl rfl (RMark.len _) (RMark.one _) (by first | (rw [RMark.len,RMark.len]; decide) | (rw [RMark.len]; decide)) (bF ((RMark.len _).trans (RMark.len _).symm)) fun w c74=>?_)
 have hM:=hM.chg c74 (i:=0) rfl
 replace hM:MemL _ (pt c2 (RMark.enc (mMk x0 s1 s3 s5 s9)) 60 :: pt c1 (RMark.enc zMk) 60 :: pt c0 (RMark.enc (mMk x0 s1 s3 s5 s9)) 60 :: Lr):=hM
 refine aJ (aB ?_)
 refine aG ?_
 refine aU hF hM hP (fun F x a w=>match x with | c3=>∃ (d7:SV) (d6:SRes) (j0:SV) (d8:SV) (m1:List RPiece) (d9:SV),LRm d6.r.holds' d7 c3.regs spTurn ∧ LIn Bf j0 c3.slots ∧ LIn Bf d8 m1 ∧ Each (QPieceIn Bf) m1 c3.pieces ∧ LIn Bf d9 c3.sent ∧ Fr 82 [(1,.pointer (some ⟨c0,0,none⟩)),(2,.pointer (some ⟨c1,0,none⟩)),(3,.pointer (some ⟨c2,0,none⟩))] a ∧ MemL w (pt c2 (RMark.enc (mMk c3 d7 j0 d8 d9)) 60 :: d6.r :: pt c1 (RMark.enc zMk) 60 :: pt c0 (RMark.enc (mMk x0 s1 s3 s5 s9)) 60 :: Lr)) (fun d10 hP c90 hF hM=>?_) ?_
 ·refine bL mixed (by kernel_rfl) hM [0,1,2] 3 rfl fun hch=>?_
  refine aK hF hch 1 rfl (by kernel_rfl) rfl rfl rfl (fun w hM=>(aC (off':=3) qU60 rfl in56 rfl hF rfl rfl rfl)) fun a hF=>?_
  refine aK hF hch 2 rfl (by kernel_rfl) rfl rfl rfl (fun w hM=>(aI qA56 hF rfl rfl (hM.cell (i:=2) rfl (RMark.g_regs _)))) fun a hF=>?_
  refine aK hF hch 4 rfl (by kernel_rfl) rfl rfl rfl (fun w hM=>(cE z128 qU128 pl128 hF (parts:=[(0,.const (.int .i64 (-7)))]) rfl rfl (cM rfl rfl (by rw [LTurn.len]; decide) (LTurn.s_reg _ _) cX))) fun a hF=>?_
  refine aK hF hch 5 rfl (by kernel_rfl) rfl rfl rfl (fun w hM=>(cE z128 qU128 pl128 hF (parts:=[(0,.const (.int .i64 (-8)))]) rfl rfl (cM rfl rfl (by rw [LTurn.len]; decide) (LTurn.s_reg _ _) cX))) fun a hF=>?_
  refine aK hF hch 8 rfl (by kernel_rfl) rfl rfl rfl (fun w hM=>(aC (off':=3) qU60 rfl in56 rfl hF rfl rfl rfl)) fun a hF=>?_
  refine aK hF hch 9 rfl (by kernel_rfl) rfl rfl rfl (fun w hM=>(aI qA56 hF rfl rfl (hM.cell (i:=2) rfl (RMark.g_regs _)))) fun a hF=>?_
  refine aK hF hch 10 rfl (by kernel_rfl) rfl rfl rfl (fun w hM=>(bM (f2 _ (hsub _ (dropM hM 3))) qU56 hF rfl rfl)) fun a hF=>?_
  refine fP hch 0 6 (by kernel_rfl) rfl rfl ?_ ?_
  ·refine bV hF 0 rfl rfl rfl rfl rfl fun w hMs hM=>?_
   refine (fW (X:=LTurn) 0 (Nat.zero_le _) qU56 in128 rfl fun m3 w n7=>?_)
   have hM:=hM.plus n7
   replace hM:MemL _ (rowL 0 m3 128 [] :: pt c2 (RMark.enc (mMk x0 s1 s3 s5 s9)) 60 :: pt c1 (RMark.enc zMk) 60 :: pt c0 (RMark.enc (mMk x0 s1 s3 s5 s9)) 60 :: Lr):=hM
   have hMs:=selM hM [1,2,3] 4 rfl
   refine ⟨_,_,hMs,hM,.inl fun _ h=>h,fun a hF=>?_⟩
   refine fP hch 3 6 (by kernel_rfl) rfl rfl ?_ ?_
   ·refine bV hF 3 rfl rfl rfl rfl rfl fun w hMs hM=>?_
    obtain ⟨p2,n1,hP⟩:=bind_some hP
    refine (cY (X:=LTurn) n1 qU56 in128 rfl rfl rfl rfl hF rfl rfl rfl (hM.own (X:=LTurn) (i:=0) rfl) (f2 _ (hsub _ (dropM hM 4))) fun p0 w l6=>?_)
    have hM:=hM.chg l6 (i:=0) rfl
    have z2:=hM.rowS (X:=LTurn) (i:=0) rfl
    replace hM:MemL _ (rowL 0 p0 128 p2 :: pt c2 (RMark.enc (mMk x0 s1 s3 s5 s9)) 60 :: pt c1 (RMark.enc zMk) 60 :: pt c0 (RMark.enc (mMk x0 s1 s3 s5 s9)) 60 :: Lr):=hM
    have hMs:=selM hM [1,2,3] 4 rfl
    refine ⟨_,_,hMs,hM,.inl fun _ h=>h,fun a hF=>?_⟩
    refine bC hch 6 (by kernel_rfl) rfl rfl ?_
    refine bV hF 6 rfl rfl rfl rfl rfl fun w hMs hM=>?_
    refine (eW (X:=LTurn) (ys:=[(LTurn.mk (-7) LVal.zero LVal.zero),(LTurn.mk (-8) LVal.zero LVal.zero)]) (m:=2) qU56 in128 rfl rfl rfl rfl (by decide) (by decide) hF rfl rfl (PartsE.cons rfl (PartsE.cons rfl PartsE.nil)) fun c7 w t9 k0=>?_)
    have hM:=hM.plus k0
    replace hM:MemL _ (pt c7 (encs ([(LTurn.mk (-7) LVal.zero LVal.zero),(LTurn.mk (-8) LVal.zero LVal.zero)]:List LTurn)) 128 :: rowL 0 p0 128 p2 :: pt c2 (RMark.enc (mMk x0 s1 s3 s5 s9)) 60 :: pt c1 (RMark.enc zMk) 60 :: pt c0 (RMark.enc (mMk x0 s1 s3 s5 s9)) 60 :: Lr):=hM
    have hMs:=selM hM [0,2,3,4] 5 rfl
    refine ⟨_,_,hMs,hM,.inl fun _ h=>dropM h 1,fun a hF=>?_⟩
    refine bC hch 7 (by kernel_rfl) rfl rfl ?_
    refine bV hF 7 rfl rfl rfl rfl rfl fun w hMs hM=>?_
    obtain ⟨j1,n2,hP⟩:=bind_some hP
    refine (cY (X:=LTurn) n2 qU56 in128 rfl rfl rfl rfl hF rfl rfl rfl (hM.own (X:=LTurn) (i:=1) rfl) (hM.ptS (X:=LTurn) (i:=0) (n:=2) (c:=2) rfl rfl rfl (Nat.le_refl _)) fun d0 w l7=>?_)
    have hM:=hM.chg l7 (i:=1) rfl
    have l4:=hM.rowS (X:=LTurn) (i:=1) rfl
    replace hM:MemL _ (pt c7 (encs ([(LTurn.mk (-7) LVal.zero LVal.zero),(LTurn.mk (-8) LVal.zero LVal.zero)]:List LTurn)) 128 :: rowL 0 d0 128 j1 :: pt c2 (RMark.enc (mMk x0 s1 s3 s5 s9)) 60 :: pt c1 (RMark.enc zMk) 60 :: pt c0 (RMark.enc (mMk x0 s1 s3 s5 s9)) 60 :: Lr):=hM
    have hMs:=selM hM [0,2,3,4] 5 rfl
    refine ⟨_,_,hMs,hM,.inl fun _ h=>h,fun a hF=>?_⟩
    obtain ⟨k4,k6,hP⟩:=bind_some hP
    have t0:LRm (rowL 0 d0 128 j1).holds' (d0.cut (0:Int).toNat ((x0.regs.length:Int):Int).toNat 9) k4 spTurn:=lH k6 rfl
    refine aK hF hch 11 rfl (by kernel_rfl) rfl rfl rfl (fun w hM=>(eL l4 (lI k6) qU56 in128 rfl hF rfl rfl (.inl ⟨rfl,rfl⟩) (.inr ⟨_,_,rfl,rfl⟩))) fun a hF=>?_
    refine aK hF hch 12 rfl (by kernel_rfl) rfl rfl rfl (fun w hM=>(aC (off':=3) qU60 rfl in56 rfl hF rfl rfl rfl)) fun a hF=>?_
    refine bC hch 13 (by kernel_rfl) rfl rfl ?_
    refine cO 13 rfl rfl rfl rfl fun w hMs hM=>?_
    refine (bS qS56 (hM.obj (i:=2) rfl) hF rfl rfl rfl rfl (by rw [RMark.len]; decide) (RMark.s_regs _ _) fun w m6=>?_)
    have hM:=hM.chg m6 (i:=2) rfl
    replace hM:MemL _ (pt c7 (encs ([(LTurn.mk (-7) LVal.zero LVal.zero),(LTurn.mk (-8) LVal.zero LVal.zero)]:List LTurn)) 128 :: rowL 0 d0 128 j1 :: pt c2 (RMark.enc (RMark.mk x0.at_ x0.next x0.done (d0.cut (0:Int).toNat ((x0.regs.length:Int):Int).toNat 9) s3 s5 s9)) 60 :: pt c1 (RMark.enc zMk) 60 :: pt c0 (RMark.enc (mMk x0 s1 s3 s5 s9)) 60 :: Lr):=hM
    have hMs:=selM hM [0,2,3,4] 5 rfl
    refine ⟨_,_,hMs,hM,.inr (by kernel_rfl),?_⟩
    refine bW hch (by kernel_rfl) fun w hM=>?_
    refine aB ?_
    replace hM:MemL _ (pt c7 (encs ([(LTurn.mk (-7) LVal.zero LVal.zero),(LTurn.mk (-8) LVal.zero LVal.zero)]:List LTurn)) 128 :: rowL 0 d0 128 j1 :: pt c2 (RMark.enc (RMark.mk x0.at_ x0.next x0.done (d0.cut (0:Int).toNat ((x0.regs.length:Int):Int).toNat 9) s3 s5 s9)) 60 :: pt c1 (RMark.enc zMk) 60 :: pt c0 (RMark.enc (mMk x0 s1 s3 s5 s9)) 60 :: Lr):=hM
    obtain ⟨k2,m8,hM⟩:=oneS (selM hM [1,0,2,3,4] 5 rfl)
    replace hM:MemL _ (k2.r :: pt c7 (encs ([(LTurn.mk (-7) LVal.zero LVal.zero),(LTurn.mk (-8) LVal.zero LVal.zero)]:List LTurn)) 128 :: pt c2 (RMark.enc (RMark.mk x0.at_ x0.next x0.done (d0.cut (0:Int).toNat ((x0.regs.length:Int):Int).toNat 9) s3 s5 s9)) 60 :: pt c1 (RMark.enc zMk) 60 :: pt c0 (RMark.enc (mMk x0 s1 s3 s5 s9)) 60 :: Lr):=hM
    have t1:LRm k2.r.holds' (d0.cut (0:Int).toNat ((x0.regs.length:Int):Int).toNat 9) k4 spTurn:=LRm.mono t0 m8
    have hP:=oI hP
    subst hP
    exact ⟨(QMark.mk x0.at_ x0.next x0.done k4 x0.slots x0.pieces x0.sent),rfl,(d0.cut (0:Int).toNat ((x0.regs.length:Int):Int).toNat 9),k2,s3,s5,hs6,s9,t1,f4,f7,q8,f10,hF.to ⟨rfl,rfl,rfl,trivial⟩,selM hM [2,0,3,4] 5 rfl⟩
   refine bV hF 6 rfl rfl rfl rfl rfl fun w hMs hM=>?_
   refine (eW (X:=LTurn) (ys:=[(LTurn.mk (-7) LVal.zero LVal.zero),(LTurn.mk (-8) LVal.zero LVal.zero)]) (m:=2) qU56 in128 rfl rfl rfl rfl (by decide) (by decide) hF rfl rfl (PartsE.cons rfl (PartsE.cons rfl PartsE.nil)) fun c7 w t9 k0=>?_)
   have hM:=hM.plus k0
   replace hM:MemL _ (pt c7 (encs ([(LTurn.mk (-7) LVal.zero LVal.zero),(LTurn.mk (-8) LVal.zero LVal.zero)]:List LTurn)) 128 :: rowL 0 m3 128 [] :: pt c2 (RMark.enc (mMk x0 s1 s3 s5 s9)) 60 :: pt c1 (RMark.enc zMk) 60 :: pt c0 (RMark.enc (mMk x0 s1 s3 s5 s9)) 60 :: Lr):=hM
   have hMs:=selM hM [0,2,3,4] 5 rfl
   refine ⟨_,_,hMs,hM,.inl fun _ h=>dropM h 1,fun a hF=>?_⟩
   refine bC hch 3 (by kernel_rfl) rfl rfl ?_
   refine bV hF 3 rfl rfl rfl rfl rfl fun w hMs hM=>?_
   obtain ⟨p2,n1,hP⟩:=bind_some hP
   refine (cY (X:=LTurn) n1 qU56 in128 rfl rfl rfl rfl hF rfl rfl rfl (hM.own (X:=LTurn) (i:=1) rfl) (f2 _ (hsub _ (dropM hM 5))) fun p0 w l6=>?_)
   have hM:=hM.chg l6 (i:=1) rfl
   have z2:=hM.rowS (X:=LTurn) (i:=1) rfl
   replace hM:MemL _ (pt c7 (encs ([(LTurn.mk (-7) LVal.zero LVal.zero),(LTurn.mk (-8) LVal.zero LVal.zero)]:List LTurn)) 128 :: rowL 0 p0 128 p2 :: pt c2 (RMark.enc (mMk x0 s1 s3 s5 s9)) 60 :: pt c1 (RMark.enc zMk) 60 :: pt c0 (RMark.enc (mMk x0 s1 s3 s5 s9)) 60 :: Lr):=hM
   have hMs:=selM hM [0,2,3,4] 5 rfl
   refine ⟨_,_,hMs,hM,.inl fun _ h=>h,fun a hF=>?_⟩
   refine bC hch 7 (by kernel_rfl) rfl rfl ?_
   refine bV hF 7 rfl rfl rfl rfl rfl fun w hMs hM=>?_
   obtain ⟨j1,n2,hP⟩:=bind_some hP
   refine (cY (X:=LTurn) n2 qU56 in128 rfl rfl rfl rfl hF rfl rfl rfl (hM.own (X:=LTurn) (i:=1) rfl) (hM.ptS (X:=LTurn) (i:=0) (n:=2) (c:=2) rfl rfl rfl (Nat.le_refl _)) fun d0 w l7=>?_)
   have hM:=hM.chg l7 (i:=1) rfl
   have l4:=hM.rowS (X:=LTurn) (i:=1) rfl
   replace hM:MemL _ (pt c7 (encs ([(LTurn.mk (-7) LVal.zero LVal.zero),(LTurn.mk (-8) LVal.zero LVal.zero)]:List LTurn)) 128 :: rowL 0 d0 128 j1 :: pt c2 (RMark.enc (mMk x0 s1 s3 s5 s9)) 60 :: pt c1 (RMark.enc zMk) 60 :: pt c0 (RMark.enc (mMk x0 s1 s3 s5 s9)) 60 :: Lr):=hM
   have hMs:=selM hM [0,2,3,4] 5 rfl
   refine ⟨_,_,hMs,hM,.inl fun _ h=>h,fun a hF=>?_⟩
   obtain ⟨k4,k6,hP⟩:=bind_some hP
   have t0:LRm (rowL 0 d0 128 j1).holds' (d0.cut (0:Int).toNat ((x0.regs.length:Int):Int).toNat 9) k4 spTurn:=lH k6 rfl
   refine aK hF hch 11 rfl (by kernel_rfl) rfl rfl rfl (fun w hM=>(eL l4 (lI k6) qU56 in128 rfl hF rfl rfl (.inl ⟨rfl,rfl⟩) (.inr ⟨_,_,rfl,rfl⟩))) fun a hF=>?_
   refine aK hF hch 12 rfl (by kernel_rfl) rfl rfl rfl (fun w hM=>(aC (off':=3) qU60 rfl in56 rfl hF rfl rfl rfl)) fun a hF=>?_
   refine bC hch 13 (by kernel_rfl) rfl rfl ?_
   refine cO 13 rfl rfl rfl rfl fun w hMs hM=>?_
   refine (bS qS56 (hM.obj (i:=2) rfl) hF rfl rfl rfl rfl (by rw [RMark.len]; decide) (RMark.s_regs _ _) fun w m6=>?_)
   have hM:=hM.chg m6 (i:=2) rfl
   replace hM:MemL _ (pt c7 (encs ([(LTurn.mk (-7) LVal.zero LVal.zero),(LTurn.mk (-8) LVal.zero LVal.zero)]:List LTurn)) 128 :: rowL 0 d0 128 j1 :: pt c2 (RMark.enc (RMark.mk x0.at_ x0.next x0.done (d0.cut (0:Int).toNat ((x0.regs.length:Int):Int).toNat 9) s3 s5 s9)) 60 :: pt c1 (RMark.enc zMk) 60 :: pt c0 (RMark.enc (mMk x0 s1 s3 s5 s9)) 60 :: Lr):=hM
   have hMs:=selM hM [0,2,3,4] 5 rfl
   refine ⟨_,_,hMs,hM,.inr (by kernel_rfl),?_⟩
   refine bW hch (by kernel_rfl) fun w hM=>?_
   refine aB ?_
   replace hM:MemL _ (pt c7 (encs ([(LTurn.mk (-7) LVal.zero LVal.zero),(LTurn.mk (-8) LVal.zero LVal.zero)]:List LTurn)) 128 :: rowL 0 d0 128 j1 :: pt c2 (RMark.enc (RMark.mk x0.at_ x0.next x0.done (d0.cut (0:Int).toNat ((x0.regs.length:Int):Int).toNat 9) s3 s5 s9)) 60 :: pt c1 (RMark.enc zMk) 60 :: pt c0 (RMark.enc (mMk x0 s1 s3 s5 s9)) 60 :: Lr):=hM
   obtain ⟨k2,m8,hM⟩:=oneS (selM hM [1,0,2,3,4] 5 rfl)
   replace hM:MemL _ (k2.r :: pt c7 (encs ([(LTurn.mk (-7) LVal.zero LVal.zero),(LTurn.mk (-8) LVal.zero LVal.zero)]:List LTurn)) 128 :: pt c2 (RMark.enc (RMark.mk x0.at_ x0.next x0.done (d0.cut (0:Int).toNat ((x0.regs.length:Int):Int).toNat 9) s3 s5 s9)) 60 :: pt c1 (RMark.enc zMk) 60 :: pt c0 (RMark.enc (mMk x0 s1 s3 s5 s9)) 60 :: Lr):=hM
   have t1:LRm k2.r.holds' (d0.cut (0:Int).toNat ((x0.regs.length:Int):Int).toNat 9) k4 spTurn:=LRm.mono t0 m8
   have hP:=oI hP
   subst hP
   exact ⟨(QMark.mk x0.at_ x0.next x0.done k4 x0.slots x0.pieces x0.sent),rfl,(d0.cut (0:Int).toNat ((x0.regs.length:Int):Int).toNat 9),k2,s3,s5,hs6,s9,t1,f4,f7,q8,f10,hF.to ⟨rfl,rfl,rfl,trivial⟩,selM hM [2,0,3,4] 5 rfl⟩
  refine bV hF 6 rfl rfl rfl rfl rfl fun w hMs hM=>?_
  refine (eW (X:=LTurn) (ys:=[(LTurn.mk (-7) LVal.zero LVal.zero),(LTurn.mk (-8) LVal.zero LVal.zero)]) (m:=2) qU56 in128 rfl rfl rfl rfl (by decide) (by decide) hF rfl rfl (PartsE.cons rfl (PartsE.cons rfl PartsE.nil)) fun c7 w t9 k0=>?_)
  have hM:=hM.plus k0
  replace hM:MemL _ (pt c7 (encs ([(LTurn.mk (-7) LVal.zero LVal.zero),(LTurn.mk (-8) LVal.zero LVal.zero)]:List LTurn)) 128 :: pt c2 (RMark.enc (mMk x0 s1 s3 s5 s9)) 60 :: pt c1 (RMark.enc zMk) 60 :: pt c0 (RMark.enc (mMk x0 s1 s3 s5 s9)) 60 :: Lr):=hM
  have hMs:=selM hM [0,1,2,3] 4 rfl
  refine ⟨_,_,hMs,hM,.inl fun _ h=>dropM h 1,fun a hF=>?_⟩
  refine bC hch 0 (by kernel_rfl) rfl rfl ?_
  refine bV hF 0 rfl rfl rfl rfl rfl fun w hMs hM=>?_
  refine (fW (X:=LTurn) 0 (Nat.zero_le _) qU56 in128 rfl fun m3 w n7=>?_)
  have hM:=hM.plus n7
  replace hM:MemL _ (rowL 0 m3 128 [] :: pt c7 (encs ([(LTurn.mk (-7) LVal.zero LVal.zero),(LTurn.mk (-8) LVal.zero LVal.zero)]:List LTurn)) 128 :: pt c2 (RMark.enc (mMk x0 s1 s3 s5 s9)) 60 :: pt c1 (RMark.enc zMk) 60 :: pt c0 (RMark.enc (mMk x0 s1 s3 s5 s9)) 60 :: Lr):=hM
  have hMs:=selM hM [1,2,3,4] 5 rfl
  refine ⟨_,_,hMs,hM,.inl fun _ h=>h,fun a hF=>?_⟩
  refine bC hch 3 (by kernel_rfl) rfl rfl ?_
  refine bV hF 3 rfl rfl rfl rfl rfl fun w hMs hM=>?_
  obtain ⟨p2,n1,hP⟩:=bind_some hP
  refine (cY (X:=LTurn) n1 qU56 in128 rfl rfl rfl rfl hF rfl rfl rfl (hM.own (X:=LTurn) (i:=0) rfl) (f2 _ (hsub _ (dropM hM 5))) fun p0 w l6=>?_)
  have hM:=hM.chg l6 (i:=0) rfl
  have z2:=hM.rowS (X:=LTurn) (i:=0) rfl
  replace hM:MemL _ (rowL 0 p0 128 p2 :: pt c7 (encs ([(LTurn.mk (-7) LVal.zero LVal.zero),(LTurn.mk (-8) LVal.zero LVal.zero)]:List LTurn)) 128 :: pt c2 (RMark.enc (mMk x0 s1 s3 s5 s9)) 60 :: pt c1 (RMark.enc zMk) 60 :: pt c0 (RMark.enc (mMk x0 s1 s3 s5 s9)) 60 :: Lr):=hM
  have hMs:=selM hM [1,2,3,4] 5 rfl
  refine ⟨_,_,hMs,hM,.inl fun _ h=>h,fun a hF=>?_⟩
  refine bC hch 7 (by kernel_rfl) rfl rfl ?_
  refine bV hF 7 rfl rfl rfl rfl rfl fun w hMs hM=>?_
  obtain ⟨j1,n2,hP⟩:=bind_some hP
  refine (cY (X:=LTurn) n2 qU56 in128 rfl rfl rfl rfl hF rfl rfl rfl (hM.own (X:=LTurn) (i:=0) rfl) (hM.ptS (X:=LTurn) (i:=1) (n:=2) (c:=2) rfl rfl rfl (Nat.le_refl _)) fun d0 w l7=>?_)
  have hM:=hM.chg l7 (i:=0) rfl
  have l4:=hM.rowS (X:=LTurn) (i:=0) rfl
  replace hM:MemL _ (rowL 0 d0 128 j1 :: pt c7 (encs ([(LTurn.mk (-7) LVal.zero LVal.zero),(LTurn.mk (-8) LVal.zero LVal.zero)]:List LTurn)) 128 :: pt c2 (RMark.enc (mMk x0 s1 s3 s5 s9)) 60 :: pt c1 (RMark.enc zMk) 60 :: pt c0 (RMark.enc (mMk x0 s1 s3 s5 s9)) 60 :: Lr):=hM
  have hMs:=selM hM [1,2,3,4] 5 rfl
  refine ⟨_,_,hMs,hM,.inl fun _ h=>h,fun a hF=>?_⟩
  obtain ⟨k4,k6,hP⟩:=bind_some hP
  have t0:LRm (rowL 0 d0 128 j1).holds' (d0.cut (0:Int).toNat ((x0.regs.length:Int):Int).toNat 9) k4 spTurn:=lH k6 rfl
  refine aK hF hch 11 rfl (by kernel_rfl) rfl rfl rfl (fun w hM=>(eL l4 (lI k6) qU56 in128 rfl hF rfl rfl (.inl ⟨rfl,rfl⟩) (.inr ⟨_,_,rfl,rfl⟩))) fun a hF=>?_
  refine aK hF hch 12 rfl (by kernel_rfl) rfl rfl rfl (fun w hM=>(aC (off':=3) qU60 rfl in56 rfl hF rfl rfl rfl)) fun a hF=>?_
  refine bC hch 13 (by kernel_rfl) rfl rfl ?_
  refine cO 13 rfl rfl rfl rfl fun w hMs hM=>?_
  refine (bS qS56 (hM.obj (i:=2) rfl) hF rfl rfl rfl rfl (by rw [RMark.len]; decide) (RMark.s_regs _ _) fun w m6=>?_)
  have hM:=hM.chg m6 (i:=2) rfl
  replace hM:MemL _ (rowL 0 d0 128 j1 :: pt c7 (encs ([(LTurn.mk (-7) LVal.zero LVal.zero),(LTurn.mk (-8) LVal.zero LVal.zero)]:List LTurn)) 128 :: pt c2 (RMark.enc (RMark.mk x0.at_ x0.next x0.done (d0.cut (0:Int).toNat ((x0.regs.length:Int):Int).toNat 9) s3 s5 s9)) 60 :: pt c1 (RMark.enc zMk) 60 :: pt c0 (RMark.enc (mMk x0 s1 s3 s5 s9)) 60 :: Lr):=hM
  have hMs:=selM hM [1,2,3,4] 5 rfl
  refine ⟨_,_,hMs,hM,.inr (by kernel_rfl),?_⟩
  refine bW hch (by kernel_rfl) fun w hM=>?_
  refine aB ?_
  replace hM:MemL _ (rowL 0 d0 128 j1 :: pt c7 (encs ([(LTurn.mk (-7) LVal.zero LVal.zero),(LTurn.mk (-8) LVal.zero LVal.zero)]:List LTurn)) 128 :: pt c2 (RMark.enc (RMark.mk x0.at_ x0.next x0.done (d0.cut (0:Int).toNat ((x0.regs.length:Int):Int).toNat 9) s3 s5 s9)) 60 :: pt c1 (RMark.enc zMk) 60 :: pt c0 (RMark.enc (mMk x0 s1 s3 s5 s9)) 60 :: Lr):=hM
  obtain ⟨k2,m8,hM⟩:=oneS (selM hM [0,1,2,3,4] 5 rfl)
  replace hM:MemL _ (k2.r :: pt c7 (encs ([(LTurn.mk (-7) LVal.zero LVal.zero),(LTurn.mk (-8) LVal.zero LVal.zero)]:List LTurn)) 128 :: pt c2 (RMark.enc (RMark.mk x0.at_ x0.next x0.done (d0.cut (0:Int).toNat ((x0.regs.length:Int):Int).toNat 9) s3 s5 s9)) 60 :: pt c1 (RMark.enc zMk) 60 :: pt c0 (RMark.enc (mMk x0 s1 s3 s5 s9)) 60 :: Lr):=hM
  have t1:LRm k2.r.holds' (d0.cut (0:Int).toNat ((x0.regs.length:Int):Int).toNat 9) k4 spTurn:=LRm.mono t0 m8
  have hP:=oI hP
  subst hP
  exact ⟨(QMark.mk x0.at_ x0.next x0.done k4 x0.slots x0.pieces x0.sent),rfl,(d0.cut (0:Int).toNat ((x0.regs.length:Int):Int).toNat 9),k2,s3,s5,hs6,s9,t1,f4,f7,q8,f10,hF.to ⟨rfl,rfl,rfl,trivial⟩,selM hM [2,0,3,4] 5 rfl⟩
 rintro c3 a w hP ⟨d7,d6,j0,d8,m1,d9,z8,c97,z9,c14,c10,hF,hM⟩
 replace hP:Sh.pQ x0 c3 = _:=hP
 unfold Sh.pQ at hP
 refine aB ?_
 refine aG ?_
 refine aU hF hM hP (fun F x a w=>match x with | c6=>∃ (i2:SV) (i0:SRes) (i3:SV) (i1:SRes) (i4:SV) (n0:List RPiece) (l1:SV),LRm i0.r.holds' i2 c6.regs spTurn ∧ LRm i1.r.holds' i3 c6.slots spCell ∧ LIn Bf i4 n0 ∧ Each (QPieceIn Bf) n0 c6.pieces ∧ LIn Bf l1 c6.sent ∧ Fr 82 [(1,.pointer (some ⟨c0,0,none⟩)),(2,.pointer (some ⟨c1,0,none⟩)),(3,.pointer (some ⟨c2,0,none⟩))] a ∧ MemL w (pt c2 (RMark.enc (mMk c6 i2 i3 i4 l1)) 60 :: i0.r :: i1.r :: pt c1 (RMark.enc zMk) 60 :: pt c0 (RMark.enc (mMk x0 s1 s3 s5 s9)) 60 :: Lr)) (fun d11 hP c91 hF hM=>?_) ?_
 ·refine bL mixed (by kernel_rfl) hM [0,1,2,3] 4 rfl fun hch=>?_
  refine aK hF hch 1 rfl (by kernel_rfl) rfl rfl rfl (fun w hM=>(aC (off':=4) qU60 rfl in57 rfl hF rfl rfl rfl)) fun a hF=>?_
  refine aK hF hch 2 rfl (by kernel_rfl) rfl rfl rfl (fun w hM=>(aI qA57 hF rfl rfl (hM.cell (i:=3) rfl (RMark.g_slots _)))) fun a hF=>?_
  refine aK hF hch 4 rfl (by kernel_rfl) rfl rfl rfl (fun w hM=>(cE z151 qU151 pl151 hF (parts:=[(0,.const (.int .i64 (-7)))]) rfl rfl (cM rfl rfl (by rw [LCell.len]; decide) (LCell.s_slot _ _) cX))) fun a hF=>?_
  refine aK hF hch 5 rfl (by kernel_rfl) rfl rfl rfl (fun w hM=>(cE z151 qU151 pl151 hF (parts:=[(0,.const (.int .i64 (-8)))]) rfl rfl (cM rfl rfl (by rw [LCell.len]; decide) (LCell.s_slot _ _) cX))) fun a hF=>?_
  refine aK hF hch 8 rfl (by kernel_rfl) rfl rfl rfl (fun w hM=>(aC (off':=4) qU60 rfl in57 rfl hF rfl rfl rfl)) fun a hF=>?_
  refine aK hF hch 9 rfl (by kernel_rfl) rfl rfl rfl (fun w hM=>(aI qA57 hF rfl rfl (hM.cell (i:=3) rfl (RMark.g_slots _)))) fun a hF=>?_
  refine aK hF hch 10 rfl (by kernel_rfl) rfl rfl rfl (fun w hM=>(bM (f4 _ (hsub _ (dropM hM 4))) qU57 hF rfl rfl)) fun a hF=>?_
  refine fP hch 0 6 (by kernel_rfl) rfl rfl ?_ ?_
  ·refine bV hF 0 rfl rfl rfl rfl rfl fun w hMs hM=>?_
   refine (fW (X:=LCell) 0 (Nat.zero_le _) qU57 in151 rfl fun l2 w m4=>?_)
   have hM:=hM.plus m4
   replace hM:MemL _ (rowL 0 l2 151 [] :: pt c2 (RMark.enc (mMk c3 d7 j0 d8 d9)) 60 :: d6.r :: pt c1 (RMark.enc zMk) 60 :: pt c0 (RMark.enc (mMk x0 s1 s3 s5 s9)) 60 :: Lr):=hM
   have hMs:=selM hM [1,2,3,4] 5 rfl
   refine ⟨_,_,hMs,hM,.inl fun _ h=>h,fun a hF=>?_⟩
   refine fP hch 3 6 (by kernel_rfl) rfl rfl ?_ ?_
   ·refine bV hF 3 rfl rfl rfl rfl rfl fun w hMs hM=>?_
    obtain ⟨p3,n3,hP⟩:=bind_some hP
    refine (cY (X:=LCell) n3 qU57 in151 rfl rfl rfl rfl hF rfl rfl rfl (hM.own (X:=LCell) (i:=0) rfl) (f4 _ (hsub _ (dropM hM 5))) fun p1 w l8=>?_)
    have hM:=hM.chg l8 (i:=0) rfl
    have z3:=hM.rowS (X:=LCell) (i:=0) rfl
    replace hM:MemL _ (rowL 0 p1 151 p3 :: pt c2 (RMark.enc (mMk c3 d7 j0 d8 d9)) 60 :: d6.r :: pt c1 (RMark.enc zMk) 60 :: pt c0 (RMark.enc (mMk x0 s1 s3 s5 s9)) 60 :: Lr):=hM
    have hMs:=selM hM [1,2,3,4] 5 rfl
    refine ⟨_,_,hMs,hM,.inl fun _ h=>h,fun a hF=>?_⟩
    refine bC hch 6 (by kernel_rfl) rfl rfl ?_
    refine bV hF 6 rfl rfl rfl rfl rfl fun w hMs hM=>?_
    refine (eW (X:=LCell) (ys:=[(LCell.mk (-7) LSlot.zero LSlot.zero),(LCell.mk (-8) LSlot.zero LSlot.zero)]) (m:=2) qU57 in151 rfl rfl rfl rfl (by decide) (by decide) hF rfl rfl (PartsE.cons rfl (PartsE.cons rfl PartsE.nil)) fun c8 w u0 k1=>?_)
    have hM:=hM.plus k1
    replace hM:MemL _ (pt c8 (encs ([(LCell.mk (-7) LSlot.zero LSlot.zero),(LCell.mk (-8) LSlot.zero LSlot.zero)]:List LCell)) 151 :: rowL 0 p1 151 p3 :: pt c2 (RMark.enc (mMk c3 d7 j0 d8 d9)) 60 :: d6.r :: pt c1 (RMark.enc zMk) 60 :: pt c0 (RMark.enc (mMk x0 s1 s3 s5 s9)) 60 :: Lr):=hM
    have hMs:=selM hM [0,2,3,4,5] 6 rfl
    refine ⟨_,_,hMs,hM,.inl fun _ h=>dropM h 1,fun a hF=>?_⟩
    refine bC hch 7 (by kernel_rfl) rfl rfl ?_
    refine bV hF 7 rfl rfl rfl rfl rfl fun w hMs hM=>?_
    obtain ⟨j2,n4,hP⟩:=bind_some hP
    refine (cY (X:=LCell) n4 qU57 in151 rfl rfl rfl rfl hF rfl rfl rfl (hM.own (X:=LCell) (i:=1) rfl) (hM.ptS (X:=LCell) (i:=0) (n:=2) (c:=2) rfl rfl rfl (Nat.le_refl _)) fun d1 w l9=>?_)
    have hM:=hM.chg l9 (i:=1) rfl
    have l5:=hM.rowS (X:=LCell) (i:=1) rfl
    replace hM:MemL _ (pt c8 (encs ([(LCell.mk (-7) LSlot.zero LSlot.zero),(LCell.mk (-8) LSlot.zero LSlot.zero)]:List LCell)) 151 :: rowL 0 d1 151 j2 :: pt c2 (RMark.enc (mMk c3 d7 j0 d8 d9)) 60 :: d6.r :: pt c1 (RMark.enc zMk) 60 :: pt c0 (RMark.enc (mMk x0 s1 s3 s5 s9)) 60 :: Lr):=hM
    have hMs:=selM hM [0,2,3,4,5] 6 rfl
    refine ⟨_,_,hMs,hM,.inl fun _ h=>h,fun a hF=>?_⟩
    obtain ⟨k5,k7,hP⟩:=bind_some hP
    have t2:LRm (rowL 0 d1 151 j2).holds' (d1.cut (0:Int).toNat ((x0.slots.length:Int):Int).toNat 27) k5 spCell:=lH k7 rfl
    refine aK hF hch 11 rfl (by kernel_rfl) rfl rfl rfl (fun w hM=>(eL l5 (lI k7) qU57 in151 rfl hF rfl rfl (.inl ⟨rfl,rfl⟩) (.inr ⟨_,_,rfl,rfl⟩))) fun a hF=>?_
    refine aK hF hch 12 rfl (by kernel_rfl) rfl rfl rfl (fun w hM=>(aC (off':=4) qU60 rfl in57 rfl hF rfl rfl rfl)) fun a hF=>?_
    refine bC hch 13 (by kernel_rfl) rfl rfl ?_
    refine cO 13 rfl rfl rfl rfl fun w hMs hM=>?_
    refine (bS qS57 (hM.obj (i:=2) rfl) hF rfl rfl rfl rfl (by rw [RMark.len]; decide) (RMark.s_slots _ _) fun w m7=>?_)
    have hM:=hM.chg m7 (i:=2) rfl
    replace hM:MemL _ (pt c8 (encs ([(LCell.mk (-7) LSlot.zero LSlot.zero),(LCell.mk (-8) LSlot.zero LSlot.zero)]:List LCell)) 151 :: rowL 0 d1 151 j2 :: pt c2 (RMark.enc (RMark.mk c3.at_ c3.next c3.done d7 (d1.cut (0:Int).toNat ((x0.slots.length:Int):Int).toNat 27) d8 d9)) 60 :: d6.r :: pt c1 (RMark.enc zMk) 60 :: pt c0 (RMark.enc (mMk x0 s1 s3 s5 s9)) 60 :: Lr):=hM
    have hMs:=selM hM [0,2,3,4,5] 6 rfl
    refine ⟨_,_,hMs,hM,.inr (by kernel_rfl),?_⟩
    refine bW hch (by kernel_rfl) fun w hM=>?_
    refine aB ?_
    replace hM:MemL _ (pt c8 (encs ([(LCell.mk (-7) LSlot.zero LSlot.zero),(LCell.mk (-8) LSlot.zero LSlot.zero)]:List LCell)) 151 :: rowL 0 d1 151 j2 :: pt c2 (RMark.enc (RMark.mk c3.at_ c3.next c3.done d7 (d1.cut (0:Int).toNat ((x0.slots.length:Int):Int).toNat 27) d8 d9)) 60 :: d6.r :: pt c1 (RMark.enc zMk) 60 :: pt c0 (RMark.enc (mMk x0 s1 s3 s5 s9)) 60 :: Lr):=hM
    obtain ⟨k3,m9,hM⟩:=oneS (selM hM [1,0,2,3,4,5] 6 rfl)
    replace hM:MemL _ (k3.r :: pt c8 (encs ([(LCell.mk (-7) LSlot.zero LSlot.zero),(LCell.mk (-8) LSlot.zero LSlot.zero)]:List LCell)) 151 :: pt c2 (RMark.enc (RMark.mk c3.at_ c3.next c3.done d7 (d1.cut (0:Int).toNat ((x0.slots.length:Int):Int).toNat 27) d8 d9)) 60 :: d6.r :: pt c1 (RMark.enc zMk) 60 :: pt c0 (RMark.enc (mMk x0 s1 s3 s5 s9)) 60 :: Lr):=hM
    have t3:LRm k3.r.holds' (d1.cut (0:Int).toNat ((x0.slots.length:Int):Int).toNat 27) k5 spCell:=LRm.mono t2 m9
    have hP:=oI hP
    subst hP
    exact ⟨(QMark.mk c3.at_ c3.next c3.done c3.regs k5 c3.pieces c3.sent),rfl,d7,d6,(d1.cut (0:Int).toNat ((x0.slots.length:Int):Int).toNat 27),k3,d8,m1,d9,z8,t3,z9,c14,c10,hF.to ⟨rfl,rfl,rfl,trivial⟩,selM hM [2,3,0,4,5] 6 rfl⟩
   refine bV hF 6 rfl rfl rfl rfl rfl fun w hMs hM=>?_
   refine (eW (X:=LCell) (ys:=[(LCell.mk (-7) LSlot.zero LSlot.zero),(LCell.mk (-8) LSlot.zero LSlot.zero)]) (m:=2) qU57 in151 rfl rfl rfl rfl (by decide) (by decide) hF rfl rfl (PartsE.cons rfl (PartsE.cons rfl PartsE.nil)) fun c8 w u0 k1=>?_)
   have hM:=hM.plus k1
   replace hM:MemL _ (pt c8 (encs ([(LCell.mk (-7) LSlot.zero LSlot.zero),(LCell.mk (-8) LSlot.zero LSlot.zero)]:List LCell)) 151 :: rowL 0 l2 151 [] :: pt c2 (RMark.enc (mMk c3 d7 j0 d8 d9)) 60 :: d6.r :: pt c1 (RMark.enc zMk) 60 :: pt c0 (RMark.enc (mMk x0 s1 s3 s5 s9)) 60 :: Lr):=hM
   have hMs:=selM hM [0,2,3,4,5] 6 rfl
   refine ⟨_,_,hMs,hM,.inl fun _ h=>dropM h 1,fun a hF=>?_⟩
   refine bC hch 3 (by kernel_rfl) rfl rfl ?_
   refine bV hF 3 rfl rfl rfl rfl rfl fun w hMs hM=>?_
   obtain ⟨p3,n3,hP⟩:=bind_some hP
   refine (cY (X:=LCell) n3 qU57 in151 rfl rfl rfl rfl hF rfl rfl rfl (hM.own (X:=LCell) (i:=1) rfl) (f4 _ (hsub _ (dropM hM 6))) fun p1 w l8=>?_)
   have hM:=hM.chg l8 (i:=1) rfl
   have z3:=hM.rowS (X:=LCell) (i:=1) rfl
   replace hM:MemL _ (pt c8 (encs ([(LCell.mk (-7) LSlot.zero LSlot.zero),(LCell.mk (-8) LSlot.zero LSlot.zero)]:List LCell)) 151 :: rowL 0 p1 151 p3 :: pt c2 (RMark.enc (mMk c3 d7 j0 d8 d9)) 60 :: d6.r :: pt c1 (RMark.enc zMk) 60 :: pt c0 (RMark.enc (mMk x0 s1 s3 s5 s9)) 60 :: Lr):=hM
   have hMs:=selM hM [0,2,3,4,5] 6 rfl
   refine ⟨_,_,hMs,hM,.inl fun _ h=>h,fun a hF=>?_⟩
   refine bC hch 7 (by kernel_rfl) rfl rfl ?_
   refine bV hF 7 rfl rfl rfl rfl rfl fun w hMs hM=>?_
   obtain ⟨j2,n4,hP⟩:=bind_some hP
   refine (cY (X:=LCell) n4 qU57 in151 rfl rfl rfl rfl hF rfl rfl rfl (hM.own (X:=LCell) (i:=1) rfl) (hM.ptS (X:=LCell) (i:=0) (n:=2) (c:=2) rfl rfl rfl (Nat.le_refl _)) fun d1 w l9=>?_)
   have hM:=hM.chg l9 (i:=1) rfl
   have l5:=hM.rowS (X:=LCell) (i:=1) rfl
   replace hM:MemL _ (pt c8 (encs ([(LCell.mk (-7) LSlot.zero LSlot.zero),(LCell.mk (-8) LSlot.zero LSlot.zero)]:List LCell)) 151 :: rowL 0 d1 151 j2 :: pt c2 (RMark.enc (mMk c3 d7 j0 d8 d9)) 60 :: d6.r :: pt c1 (RMark.enc zMk) 60 :: pt c0 (RMark.enc (mMk x0 s1 s3 s5 s9)) 60 :: Lr):=hM
   have hMs:=selM hM [0,2,3,4,5] 6 rfl
   refine ⟨_,_,hMs,hM,.inl fun _ h=>h,fun a hF=>?_⟩
   obtain ⟨k5,k7,hP⟩:=bind_some hP
   have t2:LRm (rowL 0 d1 151 j2).holds' (d1.cut (0:Int).toNat ((x0.slots.length:Int):Int).toNat 27) k5 spCell:=lH k7 rfl
   refine aK hF hch 11 rfl (by kernel_rfl) rfl rfl rfl (fun w hM=>(eL l5 (lI k7) qU57 in151 rfl hF rfl rfl (.inl ⟨rfl,rfl⟩) (.inr ⟨_,_,rfl,rfl⟩))) fun a hF=>?_
   refine aK hF hch 12 rfl (by kernel_rfl) rfl rfl rfl (fun w hM=>(aC (off':=4) qU60 rfl in57 rfl hF rfl rfl rfl)) fun a hF=>?_
   refine bC hch 13 (by kernel_rfl) rfl rfl ?_
   refine cO 13 rfl rfl rfl rfl fun w hMs hM=>?_
   refine (bS qS57 (hM.obj (i:=2) rfl) hF rfl rfl rfl rfl (by rw [RMark.len]; decide) (RMark.s_slots _ _) fun w m7=>?_)
   have hM:=hM.chg m7 (i:=2) rfl
   replace hM:MemL _ (pt c8 (encs ([(LCell.mk (-7) LSlot.zero LSlot.zero),(LCell.mk (-8) LSlot.zero LSlot.zero)]:List LCell)) 151 :: rowL 0 d1 151 j2 :: pt c2 (RMark.enc (RMark.mk c3.at_ c3.next c3.done d7 (d1.cut (0:Int).toNat ((x0.slots.length:Int):Int).toNat 27) d8 d9)) 60 :: d6.r :: pt c1 (RMark.enc zMk) 60 :: pt c0 (RMark.enc (mMk x0 s1 s3 s5 s9)) 60 :: Lr):=hM
   have hMs:=selM hM [0,2,3,4,5] 6 rfl
   refine ⟨_,_,hMs,hM,.inr (by kernel_rfl),?_⟩
   refine bW hch (by kernel_rfl) fun w hM=>?_
   refine aB ?_
   replace hM:MemL _ (pt c8 (encs ([(LCell.mk (-7) LSlot.zero LSlot.zero),(LCell.mk (-8) LSlot.zero LSlot.zero)]:List LCell)) 151 :: rowL 0 d1 151 j2 :: pt c2 (RMark.enc (RMark.mk c3.at_ c3.next c3.done d7 (d1.cut (0:Int).toNat ((x0.slots.length:Int):Int).toNat 27) d8 d9)) 60 :: d6.r :: pt c1 (RMark.enc zMk) 60 :: pt c0 (RMark.enc (mMk x0 s1 s3 s5 s9)) 60 :: Lr):=hM
   obtain ⟨k3,m9,hM⟩:=oneS (selM hM [1,0,2,3,4,5] 6 rfl)
   replace hM:MemL _ (k3.r :: pt c8 (encs ([(LCell.mk (-7) LSlot.zero LSlot.zero),(LCell.mk (-8) LSlot.zero LSlot.zero)]:List LCell)) 151 :: pt c2 (RMark.enc (RMark.mk c3.at_ c3.next c3.done d7 (d1.cut (0:Int).toNat ((x0.slots.length:Int):Int).toNat 27) d8 d9)) 60 :: d6.r :: pt c1 (RMark.enc zMk) 60 :: pt c0 (RMark.enc (mMk x0 s1 s3 s5 s9)) 60 :: Lr):=hM
   have t3:LRm k3.r.holds' (d1.cut (0:Int).toNat ((x0.slots.length:Int):Int).toNat 27) k5 spCell:=LRm.mono t2 m9
   have hP:=oI hP
   subst hP
   exact ⟨(QMark.mk c3.at_ c3.next c3.done c3.regs k5 c3.pieces c3.sent),rfl,d7,d6,(d1.cut (0:Int).toNat ((x0.slots.length:Int):Int).toNat 27),k3,d8,m1,d9,z8,t3,z9,c14,c10,hF.to ⟨rfl,rfl,rfl,trivial⟩,selM hM [2,3,0,4,5] 6 rfl⟩
  refine bV hF 6 rfl rfl rfl rfl rfl fun w hMs hM=>?_
  refine (eW (X:=LCell) (ys:=[(LCell.mk (-7) LSlot.zero LSlot.zero),(LCell.mk (-8) LSlot.zero LSlot.zero)]) (m:=2) qU57 in151 rfl rfl rfl rfl (by decide) (by decide) hF rfl rfl (PartsE.cons rfl (PartsE.cons rfl PartsE.nil)) fun c8 w u0 k1=>?_)
  have hM:=hM.plus k1
  replace hM:MemL _ (pt c8 (encs ([(LCell.mk (-7) LSlot.zero LSlot.zero),(LCell.mk (-8) LSlot.zero LSlot.zero)]:List LCell)) 151 :: pt c2 (RMark.enc (mMk c3 d7 j0 d8 d9)) 60 :: d6.r :: pt c1 (RMark.enc zMk) 60 :: pt c0 (RMark.enc (mMk x0 s1 s3 s5 s9)) 60 :: Lr):=hM
  have hMs:=selM hM [0,1,2,3,4] 5 rfl
  refine ⟨_,_,hMs,hM,.inl fun _ h=>dropM h 1,fun a hF=>?_⟩
  refine bC hch 0 (by kernel_rfl) rfl rfl ?_
  refine bV hF 0 rfl rfl rfl rfl rfl fun w hMs hM=>?_
  refine (fW (X:=LCell) 0 (Nat.zero_le _) qU57 in151 rfl fun l2 w m4=>?_)
  have hM:=hM.plus m4
  replace hM:MemL _ (rowL 0 l2 151 [] :: pt c8 (encs ([(LCell.mk (-7) LSlot.zero LSlot.zero),(LCell.mk (-8) LSlot.zero LSlot.zero)]:List LCell)) 151 :: pt c2 (RMark.enc (mMk c3 d7 j0 d8 d9)) 60 :: d6.r :: pt c1 (RMark.enc zMk) 60 :: pt c0 (RMark.enc (mMk x0 s1 s3 s5 s9)) 60 :: Lr):=hM
  have hMs:=selM hM [1,2,3,4,5] 6 rfl
  refine ⟨_,_,hMs,hM,.inl fun _ h=>h,fun a hF=>?_⟩
  refine bC hch 3 (by kernel_rfl) rfl rfl ?_
  refine bV hF 3 rfl rfl rfl rfl rfl fun w hMs hM=>?_
  obtain ⟨p3,n3,hP⟩:=bind_some hP
  refine (cY (X:=LCell) n3 qU57 in151 rfl rfl rfl rfl hF rfl rfl rfl (hM.own (X:=LCell) (i:=0) rfl) (f4 _ (hsub _ (dropM hM 6))) fun p1 w l8=>?_)
  have hM:=hM.chg l8 (i:=0) rfl
  have z3:=hM.rowS (X:=LCell) (i:=0) rfl
  replace hM:MemL _ (rowL 0 p1 151 p3 :: pt c8 (encs ([(LCell.mk (-7) LSlot.zero LSlot.zero),(LCell.mk (-8) LSlot.zero LSlot.zero)]:List LCell)) 151 :: pt c2 (RMark.enc (mMk c3 d7 j0 d8 d9)) 60 :: d6.r :: pt c1 (RMark.enc zMk) 60 :: pt c0 (RMark.enc (mMk x0 s1 s3 s5 s9)) 60 :: Lr):=hM
  have hMs:=selM hM [1,2,3,4,5] 6 rfl
  refine ⟨_,_,hMs,hM,.inl fun _ h=>h,fun a hF=>?_⟩
  refine bC hch 7 (by kernel_rfl) rfl rfl ?_
  refine bV hF 7 rfl rfl rfl rfl rfl fun w hMs hM=>?_
  obtain ⟨j2,n4,hP⟩:=bind_some hP
  refine (cY (X:=LCell) n4 qU57 in151 rfl rfl rfl rfl hF rfl rfl rfl (hM.own (X:=LCell) (i:=0) rfl) (hM.ptS (X:=LCell) (i:=1) (n:=2) (c:=2) rfl rfl rfl (Nat.le_refl _)) fun d1 w l9=>?_)
  have hM:=hM.chg l9 (i:=0) rfl
  have l5:=hM.rowS (X:=LCell) (i:=0) rfl
  replace hM:MemL _ (rowL 0 d1 151 j2 :: pt c8 (encs ([(LCell.mk (-7) LSlot.zero LSlot.zero),(LCell.mk (-8) LSlot.zero LSlot.zero)]:List LCell)) 151 :: pt c2 (RMark.enc (mMk c3 d7 j0 d8 d9)) 60 :: d6.r :: pt c1 (RMark.enc zMk) 60 :: pt c0 (RMark.enc (mMk x0 s1 s3 s5 s9)) 60 :: Lr):=hM
  have hMs:=selM hM [1,2,3,4,5] 6 rfl
  refine ⟨_,_,hMs,hM,.inl fun _ h=>h,fun a hF=>?_⟩
  obtain ⟨k5,k7,hP⟩:=bind_some hP
  have t2:LRm (rowL 0 d1 151 j2).holds' (d1.cut (0:Int).toNat ((x0.slots.length:Int):Int).toNat 27) k5 spCell:=lH k7 rfl
  refine aK hF hch 11 rfl (by kernel_rfl) rfl rfl rfl (fun w hM=>(eL l5 (lI k7) qU57 in151 rfl hF rfl rfl (.inl ⟨rfl,rfl⟩) (.inr ⟨_,_,rfl,rfl⟩))) fun a hF=>?_
  refine aK hF hch 12 rfl (by kernel_rfl) rfl rfl rfl (fun w hM=>(aC (off':=4) qU60 rfl in57 rfl hF rfl rfl rfl)) fun a hF=>?_
  refine bC hch 13 (by kernel_rfl) rfl rfl ?_
  refine cO 13 rfl rfl rfl rfl fun w hMs hM=>?_
  refine (bS qS57 (hM.obj (i:=2) rfl) hF rfl rfl rfl rfl (by rw [RMark.len]; decide) (RMark.s_slots _ _) fun w m7=>?_)
  have hM:=hM.chg m7 (i:=2) rfl
  replace hM:MemL _ (rowL 0 d1 151 j2 :: pt c8 (encs ([(LCell.mk (-7) LSlot.zero LSlot.zero),(LCell.mk (-8) LSlot.zero LSlot.zero)]:List LCell)) 151 :: pt c2 (RMark.enc (RMark.mk c3.at_ c3.next c3.done d7 (d1.cut (0:Int).toNat ((x0.slots.length:Int):Int).toNat 27) d8 d9)) 60 :: d6.r :: pt c1 (RMark.enc zMk) 60 :: pt c0 (RMark.enc (mMk x0 s1 s3 s5 s9)) 60 :: Lr):=hM
  have hMs:=selM hM [1,2,3,4,5] 6 rfl
  refine ⟨_,_,hMs,hM,.inr (by kernel_rfl),?_⟩
  refine bW hch (by kernel_rfl) fun w hM=>?_
  refine aB ?_
  replace hM:MemL _ (rowL 0 d1 151 j2 :: pt c8 (encs ([(LCell.mk (-7) LSlot.zero LSlot.zero),(LCell.mk (-8) LSlot.zero LSlot.zero)]:List LCell)) 151 :: pt c2 (RMark.enc (RMark.mk c3.at_ c3.next c3.done d7 (d1.cut (0:Int).toNat ((x0.slots.length:Int):Int).toNat 27) d8 d9)) 60 :: d6.r :: pt c1 (RMark.enc zMk) 60 :: pt c0 (RMark.enc (mMk x0 s1 s3 s5 s9)) 60 :: Lr):=hM
  obtain ⟨k3,m9,hM⟩:=oneS (selM hM [0,1,2,3,4,5] 6 rfl)
  replace hM:MemL _ (k3.r :: pt c8 (encs ([(LCell.mk (-7) LSlot.zero LSlot.zero),(LCell.mk (-8) LSlot.zero LSlot.zero)]:List LCell)) 151 :: pt c2 (RMark.enc (RMark.mk c3.at_ c3.next c3.done d7 (d1.cut (0:Int).toNat ((x0.slots.length:Int):Int).toNat 27) d8 d9)) 60 :: d6.r :: pt c1 (RMark.enc zMk) 60 :: pt c0 (RMark.enc (mMk x0 s1 s3 s5 s9)) 60 :: Lr):=hM
  have t3:LRm k3.r.holds' (d1.cut (0:Int).toNat ((x0.slots.length:Int):Int).toNat 27) k5 spCell:=LRm.mono t2 m9
  have hP:=oI hP
  subst hP
  exact ⟨(QMark.mk c3.at_ c3.next c3.done c3.regs k5 c3.pieces c3.sent),rfl,d7,d6,(d1.cut (0:Int).toNat ((x0.slots.length:Int):Int).toNat 27),k3,d8,m1,d9,z8,t3,z9,c14,c10,hF.to ⟨rfl,rfl,rfl,trivial⟩,selM hM [2,3,0,4,5] 6 rfl⟩
 rintro c6 a w hP ⟨i2,i0,i3,i1,i4,n0,l1,c36,c37,c38,c56,c98,hF,hM⟩
 replace hP:Sh.pR x0 c6 = _:=hP
 unfold Sh.pR at hP
 refine aB ?_
 refine aG ?_
 refine aU hF hM hP (fun F x a w=>match x with | j4=>∃ (u4:SV) (u1:SRes) (u5:SV) (u2:SRes) (c16:SV) (u9:List RPiece) (u6:SV) (u3:SRes),LRm u1.r.holds' u4 j4.regs spTurn ∧ LRm u2.r.holds' u5 j4.slots spCell ∧ LIn Bf c16 u9 ∧ Each (QPieceIn Bf) u9 j4.pieces ∧ LRm u3.r.holds' u6 j4.sent spInt ∧ Fr 82 [(1,.pointer (some ⟨c0,0,none⟩)),(2,.pointer (some ⟨c1,0,none⟩)),(3,.pointer (some ⟨c2,0,none⟩))] a ∧ MemL w (pt c2 (RMark.enc (mMk j4 u4 u5 c16 u6)) 60 :: u1.r :: u2.r :: u3.r :: pt c1 (RMark.enc zMk) 60 :: pt c0 (RMark.enc (mMk x0 s1 s3 s5 s9)) 60 :: Lr)) (fun d12 hP c92 hF hM=>?_) ?_
 ·refine bL mixed (by kernel_rfl) hM [0,1,2,3,4] 5 rfl fun hch=>?_
  refine aK hF hch 0 rfl (by kernel_rfl) rfl rfl rfl (fun w hM=>(aC (off':=6) qU60 rfl in52 rfl hF rfl rfl rfl)) fun a hF=>?_
  refine aK hF hch 1 rfl (by kernel_rfl) rfl rfl rfl (fun w hM=>(aI qA52 hF rfl rfl (hM.cell (i:=4) rfl (RMark.g_sent _)))) fun a hF=>?_
  refine aK hF hch 5 rfl (by kernel_rfl) rfl rfl rfl (fun w hM=>(aC (off':=6) qU60 rfl in52 rfl hF rfl rfl rfl)) fun a hF=>?_
  refine aK hF hch 6 rfl (by kernel_rfl) rfl rfl rfl (fun w hM=>(aI qA52 hF rfl rfl (hM.cell (i:=4) rfl (RMark.g_sent _)))) fun a hF=>?_
  refine aK hF hch 7 rfl (by kernel_rfl) rfl rfl rfl (fun w hM=>(bM (f10 _ (hsub _ (dropM hM 5))) qU52 hF rfl rfl)) fun a hF=>?_
  refine fP hch 2 3 (by kernel_rfl) rfl rfl ?_ ?_
  ·refine bV hF 2 rfl rfl rfl rfl rfl fun w hMs hM=>?_
   obtain ⟨p9,t8,hP⟩:=bind_some hP
   refine (aN (xs:=[.tmp 34]) Tryz.call81 hF rfl rfl (fI t8 hM (Bf:=Bf) (fun w hM=>hsub _ (dropM hM 5)) f10) fun v w hR=>?_)
   obtain ⟨p6,rfl,hM⟩:=hR
   replace hM:MemL _ (rowL 0 p6 3 p9 :: pt c2 (RMark.enc (mMk c6 i2 i3 i4 l1)) 60 :: i0.r :: i1.r :: pt c1 (RMark.enc zMk) 60 :: pt c0 (RMark.enc (mMk x0 s1 s3 s5 s9)) 60 :: Lr):=hM
   have hMs:=selM hM [1,2,3,4,5] 6 rfl
   refine ⟨_,_,hMs,hM,.inl fun _ h=>h,fun a hF=>?_⟩
   refine bC hch 3 (by kernel_rfl) rfl rfl ?_
   refine bV hF 3 rfl rfl rfl rfl rfl fun w hMs hM=>?_
   refine (eW (X:=Int) (ys:=[(-7),(-8)]) (m:=2) qU52 in3 rfl rfl rfl rfl (by decide) (by decide) hF rfl rfl (PartsE.cons rfl (PartsE.cons rfl PartsE.nil)) fun g1 w c13 m5=>?_)
   have hM:=hM.plus m5
   replace hM:MemL _ (pt g1 (encs ([(-7),(-8)]:List Int)) 3 :: rowL 0 p6 3 p9 :: pt c2 (RMark.enc (mMk c6 i2 i3 i4 l1)) 60 :: i0.r :: i1.r :: pt c1 (RMark.enc zMk) 60 :: pt c0 (RMark.enc (mMk x0 s1 s3 s5 s9)) 60 :: Lr):=hM
   have hMs:=selM hM [0,2,3,4,5,6] 7 rfl
   refine ⟨_,_,hMs,hM,.inl fun _ h=>dropM h 1,fun a hF=>?_⟩
   refine bC hch 4 (by kernel_rfl) rfl rfl ?_
   refine bV hF 4 rfl rfl rfl rfl rfl fun w hMs hM=>?_
   obtain ⟨j8,t7,hP⟩:=bind_some hP
   refine (cY (X:=Int) t7 qU52 in3 rfl rfl rfl rfl hF rfl rfl rfl (hM.own (X:=Int) (i:=1) rfl) (hM.ptS (X:=Int) (i:=0) (n:=2) (c:=2) rfl rfl rfl (Nat.le_refl _)) fun d3 w n9=>?_)
   have hM:=hM.chg n9 (i:=1) rfl
   have n8:=hM.rowS (X:=Int) (i:=1) rfl
   replace hM:MemL _ (pt g1 (encs ([(-7),(-8)]:List Int)) 3 :: rowL 0 d3 3 j8 :: pt c2 (RMark.enc (mMk c6 i2 i3 i4 l1)) 60 :: i0.r :: i1.r :: pt c1 (RMark.enc zMk) 60 :: pt c0 (RMark.enc (mMk x0 s1 s3 s5 s9)) 60 :: Lr):=hM
   have hMs:=selM hM [0,2,3,4,5,6] 7 rfl
   refine ⟨_,_,hMs,hM,.inl fun _ h=>h,fun a hF=>?_⟩
   obtain ⟨l3,m0,hP⟩:=bind_some hP
   have u7:LRm (rowL 0 d3 3 j8).holds' (d3.cut (0:Int).toNat ((x0.sent.length:Int):Int).toNat 1) l3 spInt:=lH m0 rfl
   refine aK hF hch 8 rfl (by kernel_rfl) rfl rfl rfl (fun w hM=>(eL n8 (lI m0) qU52 in3 rfl hF rfl rfl (.inl ⟨rfl,rfl⟩) (.inr ⟨_,_,rfl,rfl⟩))) fun a hF=>?_
   refine aK hF hch 9 rfl (by kernel_rfl) rfl rfl rfl (fun w hM=>(aC (off':=6) qU60 rfl in52 rfl hF rfl rfl rfl)) fun a hF=>?_
   refine bC hch 10 (by kernel_rfl) rfl rfl ?_
   refine cO 10 rfl rfl rfl rfl fun w hMs hM=>?_
   refine (bS qS52 (hM.obj (i:=2) rfl) hF rfl rfl rfl rfl (by rw [RMark.len]; decide) (RMark.s_sent _ _) fun w t4=>?_)
   have hM:=hM.chg t4 (i:=2) rfl
   replace hM:MemL _ (pt g1 (encs ([(-7),(-8)]:List Int)) 3 :: rowL 0 d3 3 j8 :: pt c2 (RMark.enc (RMark.mk c6.at_ c6.next c6.done i2 i3 i4 (d3.cut (0:Int).toNat ((x0.sent.length:Int):Int).toNat 1))) 60 :: i0.r :: i1.r :: pt c1 (RMark.enc zMk) 60 :: pt c0 (RMark.enc (mMk x0 s1 s3 s5 s9)) 60 :: Lr):=hM
   have hMs:=selM hM [0,2,3,4,5,6] 7 rfl
   refine ⟨_,_,hMs,hM,.inr (by kernel_rfl),?_⟩
   refine bW hch (by kernel_rfl) fun w hM=>?_
   refine aB ?_
   replace hM:MemL _ (pt g1 (encs ([(-7),(-8)]:List Int)) 3 :: rowL 0 d3 3 j8 :: pt c2 (RMark.enc (RMark.mk c6.at_ c6.next c6.done i2 i3 i4 (d3.cut (0:Int).toNat ((x0.sent.length:Int):Int).toNat 1))) 60 :: i0.r :: i1.r :: pt c1 (RMark.enc zMk) 60 :: pt c0 (RMark.enc (mMk x0 s1 s3 s5 s9)) 60 :: Lr):=hM
   obtain ⟨k9,t6,hM⟩:=oneS (selM hM [1,0,2,3,4,5,6] 7 rfl)
   replace hM:MemL _ (k9.r :: pt g1 (encs ([(-7),(-8)]:List Int)) 3 :: pt c2 (RMark.enc (RMark.mk c6.at_ c6.next c6.done i2 i3 i4 (d3.cut (0:Int).toNat ((x0.sent.length:Int):Int).toNat 1))) 60 :: i0.r :: i1.r :: pt c1 (RMark.enc zMk) 60 :: pt c0 (RMark.enc (mMk x0 s1 s3 s5 s9)) 60 :: Lr):=hM
   have u8:LRm k9.r.holds' (d3.cut (0:Int).toNat ((x0.sent.length:Int):Int).toNat 1) l3 spInt:=LRm.mono u7 t6
   have hP:=oI hP
   subst hP
   exact ⟨(QMark.mk c6.at_ c6.next c6.done c6.regs c6.slots c6.pieces l3),rfl,i2,i0,i3,i1,i4,n0,(d3.cut (0:Int).toNat ((x0.sent.length:Int):Int).toNat 1),k9,c36,c37,c38,c56,u8,hF.to ⟨rfl,rfl,rfl,trivial⟩,selM hM [2,3,4,0,5,6] 7 rfl⟩
  refine bV hF 3 rfl rfl rfl rfl rfl fun w hMs hM=>?_
  refine (eW (X:=Int) (ys:=[(-7),(-8)]) (m:=2) qU52 in3 rfl rfl rfl rfl (by decide) (by decide) hF rfl rfl (PartsE.cons rfl (PartsE.cons rfl PartsE.nil)) fun g1 w c13 m5=>?_)
  have hM:=hM.plus m5
  replace hM:MemL _ (pt g1 (encs ([(-7),(-8)]:List Int)) 3 :: pt c2 (RMark.enc (mMk c6 i2 i3 i4 l1)) 60 :: i0.r :: i1.r :: pt c1 (RMark.enc zMk) 60 :: pt c0 (RMark.enc (mMk x0 s1 s3 s5 s9)) 60 :: Lr):=hM
  have hMs:=selM hM [0,1,2,3,4,5] 6 rfl
  refine ⟨_,_,hMs,hM,.inl fun _ h=>dropM h 1,fun a hF=>?_⟩
  refine bC hch 2 (by kernel_rfl) rfl rfl ?_
  refine bV hF 2 rfl rfl rfl rfl rfl fun w hMs hM=>?_
  obtain ⟨p9,t8,hP⟩:=bind_some hP
  refine (aN (xs:=[.tmp 34]) Tryz.call81 hF rfl rfl (fI t8 hM (Bf:=Bf) (fun w hM=>hsub _ (dropM hM 6)) f10) fun v w hR=>?_)
  obtain ⟨p6,rfl,hM⟩:=hR
  replace hM:MemL _ (rowL 0 p6 3 p9 :: pt g1 (encs ([(-7),(-8)]:List Int)) 3 :: pt c2 (RMark.enc (mMk c6 i2 i3 i4 l1)) 60 :: i0.r :: i1.r :: pt c1 (RMark.enc zMk) 60 :: pt c0 (RMark.enc (mMk x0 s1 s3 s5 s9)) 60 :: Lr):=hM
  have hMs:=selM hM [1,2,3,4,5,6] 7 rfl
  refine ⟨_,_,hMs,hM,.inl fun _ h=>h,fun a hF=>?_⟩
  refine bC hch 4 (by kernel_rfl) rfl rfl ?_
  refine bV hF 4 rfl rfl rfl rfl rfl fun w hMs hM=>?_
  obtain ⟨j8,t7,hP⟩:=bind_some hP
  refine (cY (X:=Int) t7 qU52 in3 rfl rfl rfl rfl hF rfl rfl rfl (hM.own (X:=Int) (i:=0) rfl) (hM.ptS (X:=Int) (i:=1) (n:=2) (c:=2) rfl rfl rfl (Nat.le_refl _)) fun d3 w n9=>?_)
  have hM:=hM.chg n9 (i:=0) rfl
  have n8:=hM.rowS (X:=Int) (i:=0) rfl
  replace hM:MemL _ (rowL 0 d3 3 j8 :: pt g1 (encs ([(-7),(-8)]:List Int)) 3 :: pt c2 (RMark.enc (mMk c6 i2 i3 i4 l1)) 60 :: i0.r :: i1.r :: pt c1 (RMark.enc zMk) 60 :: pt c0 (RMark.enc (mMk x0 s1 s3 s5 s9)) 60 :: Lr):=hM
  have hMs:=selM hM [1,2,3,4,5,6] 7 rfl
  refine ⟨_,_,hMs,hM,.inl fun _ h=>h,fun a hF=>?_⟩
  obtain ⟨l3,m0,hP⟩:=bind_some hP
  have u7:LRm (rowL 0 d3 3 j8).holds' (d3.cut (0:Int).toNat ((x0.sent.length:Int):Int).toNat 1) l3 spInt:=lH m0 rfl
  refine aK hF hch 8 rfl (by kernel_rfl) rfl rfl rfl (fun w hM=>(eL n8 (lI m0) qU52 in3 rfl hF rfl rfl (.inl ⟨rfl,rfl⟩) (.inr ⟨_,_,rfl,rfl⟩))) fun a hF=>?_
  refine aK hF hch 9 rfl (by kernel_rfl) rfl rfl rfl (fun w hM=>(aC (off':=6) qU60 rfl in52 rfl hF rfl rfl rfl)) fun a hF=>?_
  refine bC hch 10 (by kernel_rfl) rfl rfl ?_
  refine cO 10 rfl rfl rfl rfl fun w hMs hM=>?_
  refine (bS qS52 (hM.obj (i:=2) rfl) hF rfl rfl rfl rfl (by rw [RMark.len]; decide) (RMark.s_sent _ _) fun w t4=>?_)
  have hM:=hM.chg t4 (i:=2) rfl
  replace hM:MemL _ (rowL 0 d3 3 j8 :: pt g1 (encs ([(-7),(-8)]:List Int)) 3 :: pt c2 (RMark.enc (RMark.mk c6.at_ c6.next c6.done i2 i3 i4 (d3.cut (0:Int).toNat ((x0.sent.length:Int):Int).toNat 1))) 60 :: i0.r :: i1.r :: pt c1 (RMark.enc zMk) 60 :: pt c0 (RMark.enc (mMk x0 s1 s3 s5 s9)) 60 :: Lr):=hM
  have hMs:=selM hM [1,2,3,4,5,6] 7 rfl
  refine ⟨_,_,hMs,hM,.inr (by kernel_rfl),?_⟩
  refine bW hch (by kernel_rfl) fun w hM=>?_
  refine aB ?_
  replace hM:MemL _ (rowL 0 d3 3 j8 :: pt g1 (encs ([(-7),(-8)]:List Int)) 3 :: pt c2 (RMark.enc (RMark.mk c6.at_ c6.next c6.done i2 i3 i4 (d3.cut (0:Int).toNat ((x0.sent.length:Int):Int).toNat 1))) 60 :: i0.r :: i1.r :: pt c1 (RMark.enc zMk) 60 :: pt c0 (RMark.enc (mMk x0 s1 s3 s5 s9)) 60 :: Lr):=hM
  obtain ⟨k9,t6,hM⟩:=oneS (selM hM [0,1,2,3,4,5,6] 7 rfl)
  replace hM:MemL _ (k9.r :: pt g1 (encs ([(-7),(-8)]:List Int)) 3 :: pt c2 (RMark.enc (RMark.mk c6.at_ c6.next c6.done i2 i3 i4 (d3.cut (0:Int).toNat ((x0.sent.length:Int):Int).toNat 1))) 60 :: i0.r :: i1.r :: pt c1 (RMark.enc zMk) 60 :: pt c0 (RMark.enc (mMk x0 s1 s3 s5 s9)) 60 :: Lr):=hM
  have u8:LRm k9.r.holds' (d3.cut (0:Int).toNat ((x0.sent.length:Int):Int).toNat 1) l3 spInt:=LRm.mono u7 t6
  have hP:=oI hP
  subst hP
  exact ⟨(QMark.mk c6.at_ c6.next c6.done c6.regs c6.slots c6.pieces l3),rfl,i2,i0,i3,i1,i4,n0,(d3.cut (0:Int).toNat ((x0.sent.length:Int):Int).toNat 1),k9,c36,c37,c38,c56,u8,hF.to ⟨rfl,rfl,rfl,trivial⟩,selM hM [2,3,4,0,5,6] 7 rfl⟩
 rintro j4 a w hP ⟨u4,u1,u5,u2,c16,u9,u6,u3,c80,c81,c99,d15,c82,hF,hM⟩
 replace hP:Sh.pS x0 j4 = _:=hP
 unfold Sh.pS at hP
 refine aB ?_
 refine aG ?_
 refine aD ?_
 refine aA hF (aC (off':=5) qU60 rfl in58 rfl hF rfl rfl rfl) rfl rfl rfl fun a hF=>?_
 refine bI rfl rfl (bS qS58 (hM.obj (i:=0) rfl) hF rfl rfl rfl rfl (by rw [RMark.len]; decide) (RMark.s_pieces _ SV.nil) fun w c39=>?_)
 have hM:=hM.chg c39 (i:=0) rfl
 replace hM:MemL _ (pt c2 (RMark.enc (mMk j4 u4 u5 SV.nil u6)) 60 :: u1.r :: u2.r :: u3.r :: pt c1 (RMark.enc zMk) 60 :: pt c0 (RMark.enc (mMk x0 s1 s3 s5 s9)) 60 :: Lr):=hM
 refine aJ (aB ?_)
 refine aG ?_
 refine aU hF hM hP (fun F x a w=>match x with | c9=>∃ (i6:SV) (j5:SRes) (i7:SV) (j6:SRes) (m2:SV) (g9:List RPiece) (k8:SRes) (i8:SV) (j7:SRes),LRm j5.r.holds' i6 c9.regs spTurn ∧ LRm j6.r.holds' i7 c9.slots spCell ∧ Each (QPieceRm k8.r.holds') g9 c9.pieces ∧ LRm j7.r.holds' i8 c9.sent spInt ∧ Fr 82 [(1,.pointer (some ⟨c0,0,none⟩)),(2,.pointer (some ⟨c1,0,none⟩)),(3,.pointer (some ⟨c2,0,none⟩))] a ∧ MemL w (pt c2 (RMark.enc (mMk c9 i6 i7 m2 i8)) 60 :: j5.r :: j6.r :: rowL 0 m2 156 g9 :: k8.r :: j7.r :: pt c1 (RMark.enc zMk) 60 :: pt c0 (RMark.enc (mMk x0 s1 s3 s5 s9)) 60 :: Lr)) (fun d13 hP c93 hF hM=>?_) ?_
 ·refine aG ?_
  refine aD ?_
  refine aA hF (aH hF rfl rfl) rfl rfl rfl fun a hF=>?_
  refine aJ (aB ?_)
  refine aT ?_
  obtain ⟨c21,hM⟩:=voidS hM
  have c75:Each (QPieceRm c21.r.holds') ([]:List RPiece) ([]:List QPiece):=Each.nil
  have hM:=hM.rowNil (X:=RPiece) 0 156
  refine bU hF hM hP (fun F x a w=>match x with | (c4,p8)=>∃ (g5:SV) (g2:SRes) (g6:SV) (g3:SRes) (g0:SV) (d5:List RPiece) (i5:SRes) (g7:SV) (g4:SRes),LRm g2.r.holds' g5 c4.regs spTurn ∧ LRm g3.r.holds' g6 c4.slots spCell ∧ Each (QPieceRm i5.r.holds') d5 c4.pieces ∧ LRm g4.r.holds' g7 c4.sent spInt ∧ Fr 82 [(4,.int .i64 p8),(1,.pointer (some ⟨c0,0,none⟩)),(2,.pointer (some ⟨c1,0,none⟩)),(3,.pointer (some ⟨c2,0,none⟩))] a ∧ MemL w (pt c2 (RMark.enc (mMk c4 g5 g6 g0 g7)) 60 :: g2.r :: g3.r :: rowL 0 g0 156 d5 :: i5.r :: g4.r :: pt c1 (RMark.enc zMk) 60 :: pt c0 (RMark.enc (mMk x0 s1 s3 s5 s9)) 60 :: Lr)) (fun hF hM=>⟨u4,u1,u5,u2,SV.nil,[],c21,u6,u3,c80,c81,c75,c82,hF.to ⟨rfl,rfl,rfl,rfl,trivial⟩,selM hM [2,3,4,0,1,5,6,7] 8 rfl⟩) ?_
  rintro ⟨c4,p8⟩ a w d14 hP c73 ⟨g5,g2,g6,g3,g0,d5,i5,g7,g4,c17,c18,z1,c19,hF,hM⟩
  replace hP:Sh.gU x0 c4 p8 = _:=hP
  unfold Sh.gU at hP
  refine aG ?_
  refine aG ?_
  refine aD ?_
  refine aA hF (aF hF rfl rfl) rfl rfl rfl fun a hF=>?_
  refine aA hF (aC (off':=5) qU60 rfl in58 rfl hF rfl rfl rfl) rfl rfl rfl fun a hF=>?_
  refine aA hF (aI qA58 hF rfl rfl (hM.cell (i:=7) rfl (RMark.g_pieces _))) rfl rfl rfl fun a hF=>?_
  refine aA hF (cQ (f7 _ (hsub _ (dropM hM 8))) q8.len qU58 hF rfl rfl) rfl rfl rfl fun a hF=>?_
  refine aA hF (cI hF rfl rfl rfl) rfl rfl rfl fun a hF=>?_
  refine aJ (aB ?_)
  refine aV hF (c:=.tmp 48) rfl (fun t5=>?_) (fun t5=>?_)
  ·have hP:=Fx.cT t5 hP
   refine aW (aB ?_)
   refine aG ?_
   refine aT ?_
   refine aG ?_
   refine aD ?_
   refine aA hF (aC (off':=5) qU60 rfl in58 rfl hF rfl rfl rfl) rfl rfl rfl fun a hF=>?_
   refine aA hF (aI qA58 hF rfl rfl (hM.cell (i:=7) rfl (RMark.g_pieces _))) rfl rfl rfl fun a hF=>?_
   refine aA hF (aF hF rfl rfl) rfl rfl rfl fun a hF=>?_
   obtain ⟨c5,z5,hP⟩:=bind_some hP
   have c25:=aM z5
   obtain ⟨c89,c34,c35⟩:=Each.getr q8 c25.2
   have c33:=Each.bd q8 (bG z5)
   obtain ⟨c22,p7,rfl,c67,c68⟩:=c35
   refine aA hF (aS (sz:=4) (f7 _ (hsub _ (dropM hM 8))) qU58 in156 rfl hF rfl rfl rfl c33) rfl rfl rfl fun a hF=>?_
   refine aA hF (aQ qA156 qS156 hF rfl rfl (RPiece.len _) (((f7 _ (hsub _ (dropM hM 8))).elemS c34))) rfl rfl rfl fun a hF=>?_
   refine aO hF rfl rfl rfl (bO z156 (zs:=RPiece.zero.enc) rfl rfl fun g8 w c88 c29=>?_)
   have hM:=hM.plus c29
   replace hM:MemL _ (pt g8 (RPiece.enc (RPiece.mk 0 0 SV.nil SV.nil)) 156 :: pt c2 (RMark.enc (mMk c4 g5 g6 g0 g7)) 60 :: g2.r :: g3.r :: rowL 0 g0 156 d5 :: i5.r :: g4.r :: pt c1 (RMark.enc zMk) 60 :: pt c0 (RMark.enc (mMk x0 s1 s3 s5 s9)) 60 :: Lr):=hM
   intro a hF
   refine bI rfl rfl (aY (vs:=_) qS156 (hM.obj (i:=0) rfl) hF rfl rfl rfl rfl (RPiece.len _) (RPiece.one _) (by first | (rw [RPiece.len,RPiece.len]; decide) | (rw [RPiece.len]; decide)) (bF ((RPiece.len _).trans (RPiece.len _).symm)) fun w c40=>?_)
   have hM:=hM.chg c40 (i:=0) rfl
   replace hM:MemL _ (pt g8 (RPiece.enc (mPc c5 c22 p7)) 156 :: pt c2 (RMark.enc (mMk c4 g5 g6 g0 g7)) 60 :: g2.r :: g3.r :: rowL 0 g0 156 d5 :: i5.r :: g4.r :: pt c1 (RMark.enc zMk) 60 :: pt c0 (RMark.enc (mMk x0 s1 s3 s5 s9)) 60 :: Lr):=hM
   refine aJ (aB ?_)
   refine aG ?_
   refine aD ?_
   refine aA hF (aC (off':=2) qU156 rfl in23 rfl hF rfl rfl rfl) rfl rfl rfl fun a hF=>?_
   refine aA hF (aI qA23 hF rfl rfl (hM.cell (i:=0) rfl (RPiece.g_old _))) rfl rfl rfl fun a hF=>?_
   obtain ⟨c95,c53,hP⟩:=bind_some hP
   refine aO hF rfl rfl rfl (aN (xs:=[.tmp 57]) Tryz.call90 hF rfl rfl (iW c53 hM (Bf:=Bf) (fun w hM=>hsub _ (dropM hM 9)) c67) fun v w hR=>?_)
   obtain ⟨d2,n5,rfl,c69,hM⟩:=hR
   replace hM:MemL _ (n5.r :: pt g8 (RPiece.enc (mPc c5 c22 p7)) 156 :: pt c2 (RMark.enc (mMk c4 g5 g6 g0 g7)) 60 :: g2.r :: g3.r :: rowL 0 g0 156 d5 :: i5.r :: g4.r :: pt c1 (RMark.enc zMk) 60 :: pt c0 (RMark.enc (mMk x0 s1 s3 s5 s9)) 60 :: Lr):=hM
   intro a hF
   refine aA hF (aC (off':=2) qU156 rfl in23 rfl hF rfl rfl rfl) rfl rfl rfl fun a hF=>?_
   refine bI rfl rfl (bS qS23 (hM.obj (i:=1) rfl) hF rfl rfl rfl rfl (by rw [RPiece.len]; decide) (RPiece.s_old _ _) fun w c41=>?_)
   have hM:=hM.chg c41 (i:=1) rfl
   replace hM:MemL _ (n5.r :: pt g8 (RPiece.enc (mPc c5 d2 p7)) 156 :: pt c2 (RMark.enc (mMk c4 g5 g6 g0 g7)) 60 :: g2.r :: g3.r :: rowL 0 g0 156 d5 :: i5.r :: g4.r :: pt c1 (RMark.enc zMk) 60 :: pt c0 (RMark.enc (mMk x0 s1 s3 s5 s9)) 60 :: Lr):=hM
   refine aJ (aB ?_)
   refine aG ?_
   refine aD ?_
   refine aA hF (aC (off':=3) qU156 rfl in23 rfl hF rfl rfl rfl) rfl rfl rfl fun a hF=>?_
   refine aA hF (aI qA23 hF rfl rfl (hM.cell (i:=1) rfl (RPiece.g_new _))) rfl rfl rfl fun a hF=>?_
   obtain ⟨c96,c54,hP⟩:=bind_some hP
   refine aO hF rfl rfl rfl (aN (xs:=[.tmp 61]) Tryz.call90 hF rfl rfl (iW c54 hM (Bf:=Bf) (fun w hM=>hsub _ (dropM hM 10)) c68) fun v w hR=>?_)
   obtain ⟨d4,p4,rfl,c70,hM⟩:=hR
   replace hM:MemL _ (p4.r :: n5.r :: pt g8 (RPiece.enc (mPc c5 d2 p7)) 156 :: pt c2 (RMark.enc (mMk c4 g5 g6 g0 g7)) 60 :: g2.r :: g3.r :: rowL 0 g0 156 d5 :: i5.r :: g4.r :: pt c1 (RMark.enc zMk) 60 :: pt c0 (RMark.enc (mMk x0 s1 s3 s5 s9)) 60 :: Lr):=hM
   intro a hF
   refine aA hF (aC (off':=3) qU156 rfl in23 rfl hF rfl rfl rfl) rfl rfl rfl fun a hF=>?_
   refine bI rfl rfl (bS qS23 (hM.obj (i:=2) rfl) hF rfl rfl rfl rfl (by rw [RPiece.len]; decide) (RPiece.s_new _ _) fun w c42=>?_)
   have hM:=hM.chg c42 (i:=2) rfl
   refine aJ (aB ?_)
   refine aD ?_
   refine aA hF (aC (off':=5) qU60 rfl in58 rfl hF rfl rfl rfl) rfl rfl rfl fun a hF=>?_
   refine aA hF (aI qA58 hF rfl rfl (hM.cell (i:=3) rfl (RMark.g_pieces _))) rfl rfl rfl fun a hF=>?_
   refine aA hF (aQ qA156 qS156 hF rfl rfl (RPiece.len _) (hM.cells (i:=2) rfl (bA (RPiece.len _)))) rfl rfl rfl fun a hF=>?_
   refine aO hF rfl rfl rfl (cL (X:=RPiece) (y:=(mPc c5 d2 d4)) qU58 in156 rfl rfl rfl rfl hF rfl rfl rfl fun j3 w c83 c11=>?_)
   have hM:=hM.plus c11
   replace hM:MemL _ (pt j3 (encs ([(mPc c5 d2 d4)]:List RPiece)) 156 :: p4.r :: n5.r :: pt g8 (RPiece.enc (mPc c5 d2 d4)) 156 :: pt c2 (RMark.enc (mMk c4 g5 g6 g0 g7)) 60 :: g2.r :: g3.r :: rowL 0 g0 156 d5 :: i5.r :: g4.r :: pt c1 (RMark.enc zMk) 60 :: pt c0 (RMark.enc (mMk x0 s1 s3 s5 s9)) 60 :: Lr):=hM
   intro a hF
   obtain ⟨c23,z6,hP⟩:=bind_some hP
   refine aO hF rfl rfl rfl (fG (X:=RPiece) z6 z1.len rfl qU58 in156 rfl rfl rfl rfl hF rfl rfl rfl (hM.own (X:=RPiece) (i:=7) rfl) (hM.ptS (X:=RPiece) (i:=0) (n:=1) (c:=1) rfl rfl rfl (Nat.le_refl _)) fun l0 w c31=>?_)
   have hM:=hM.chg c31 (i:=7) rfl
   replace hM:MemL _ (pt j3 (encs ([(mPc c5 d2 d4)]:List RPiece)) 156 :: p4.r :: n5.r :: pt g8 (RPiece.enc (mPc c5 d2 d4)) 156 :: pt c2 (RMark.enc (mMk c4 g5 g6 g0 g7)) 60 :: g2.r :: g3.r :: rowL 0 l0 156 (d5 ++ [(mPc c5 d2 d4)]) :: i5.r :: g4.r :: pt c1 (RMark.enc zMk) 60 :: pt c0 (RMark.enc (mMk x0 s1 s3 s5 s9)) 60 :: Lr):=hM
   obtain ⟨c79,c47,c48,hM⟩:=joinS (selM hM [8,2,0,1,3,4,5,6,7,9,10,11] 12 rfl)
   replace hM:MemL _ (c79.r :: pt j3 (encs ([(mPc c5 d2 d4)]:List RPiece)) 156 :: p4.r :: pt g8 (RPiece.enc (mPc c5 d2 d4)) 156 :: pt c2 (RMark.enc (mMk c4 g5 g6 g0 g7)) 60 :: g2.r :: g3.r :: rowL 0 l0 156 (d5 ++ [(mPc c5 d2 d4)]) :: g4.r :: pt c1 (RMark.enc zMk) 60 :: pt c0 (RMark.enc (mMk x0 s1 s3 s5 s9)) 60 :: Lr):=hM
   obtain ⟨n6,z4,c49,hM⟩:=joinS (selM hM [0,2,1,3,4,5,6,7,8,9,10] 11 rfl)
   replace hM:MemL _ (n6.r :: pt j3 (encs ([(mPc c5 d2 d4)]:List RPiece)) 156 :: pt g8 (RPiece.enc (mPc c5 d2 d4)) 156 :: pt c2 (RMark.enc (mMk c4 g5 g6 g0 g7)) 60 :: g2.r :: g3.r :: rowL 0 l0 156 (d5 ++ [(mPc c5 d2 d4)]) :: g4.r :: pt c1 (RMark.enc zMk) 60 :: pt c0 (RMark.enc (mMk x0 s1 s3 s5 s9)) 60 :: Lr):=hM
   have c76:Each (QPieceRm n6.r.holds') (d5 ++ [(mPc c5 d2 d4)]) c23:=by rw [(dL z6).2]; exact (z1.mono fun _ _ q=>q.mono (fun w h=>c47 w (z4 w h))).snoc ⟨d2,d4,rfl,(c69.mono (fun w h=>c48 w (z4 w h))),(c70.mono c49)⟩
   replace hM:MemL _ (n6.r :: pt j3 (encs ([(mPc c5 d2 d4)]:List RPiece)) 156 :: pt g8 (RPiece.enc (mPc c5 d2 d4)) 156 :: pt c2 (RMark.enc (mMk c4 g5 g6 g0 g7)) 60 :: g2.r :: g3.r :: rowL 0 l0 156 (d5 ++ [(mPc c5 d2 d4)]) :: g4.r :: pt c1 (RMark.enc zMk) 60 :: pt c0 (RMark.enc (mMk x0 s1 s3 s5 s9)) 60 :: Lr):=hM
   intro a hF
   refine aA hF (aC (off':=5) qU60 rfl in58 rfl hF rfl rfl rfl) rfl rfl rfl fun a hF=>?_
   refine bI rfl rfl (bS qS58 (hM.obj (i:=3) rfl) hF rfl rfl rfl rfl (by rw [RMark.len]; decide) (RMark.s_pieces _ _) fun w c43=>?_)
   have hM:=hM.chg c43 (i:=3) rfl
   replace hM:MemL _ (n6.r :: pt j3 (encs ([(mPc c5 d2 d4)]:List RPiece)) 156 :: pt g8 (RPiece.enc (mPc c5 d2 d4)) 156 :: pt c2 (RMark.enc (mMk c4 g5 g6 l0 g7)) 60 :: g2.r :: g3.r :: rowL 0 l0 156 (d5 ++ [(mPc c5 d2 d4)]) :: g4.r :: pt c1 (RMark.enc zMk) 60 :: pt c0 (RMark.enc (mMk x0 s1 s3 s5 s9)) 60 :: Lr):=hM
   refine aJ (bK (aB ?_))
   refine aD ?_
   refine aA hF (aF hF rfl rfl) rfl rfl rfl fun a hF=>?_
   refine aA hF (bX hF rfl rfl rfl) rfl rfl rfl fun a hF=>?_
   refine aA hF (aH hF rfl rfl) rfl rfl rfl fun a hF=>?_
   refine aJ (aB ?_)
   have hP:=oI hP
   subst hP
   exact ⟨((QMark.mk c4.at_ c4.next c4.done c4.regs c4.slots c23 c4.sent),(IntKind.i64.wrap (p8 + 1))),rfl,g5,g2,g6,g3,l0,(d5 ++ [(mPc c5 d2 d4)]),n6,g7,g4,c17,c18,c76,c19,hF.to ⟨rfl,rfl,rfl,rfl,trivial⟩,selM hM [3,4,5,6,0,7,8,9] 10 rfl⟩
  have hP:=Fx.cF t5 hP
  refine bY (bD (bD (cJ ?_)))
  refine aB ?_
  have hP:=oI hP
  subst hP
  have hP:=c73 _ rfl
  subst hP
  exact ⟨c4,rfl,g5,g2,g6,g3,g0,d5,i5,g7,g4,c17,c18,z1,c19,hF.to ⟨rfl,rfl,rfl,trivial⟩,hM⟩
 rintro c9 a w hP ⟨i6,j5,i7,j6,m2,g9,k8,i8,j7,c64,c65,z0,c66,hF,hM⟩
 replace hP:Sh.pT x0 c9 = _:=hP
 unfold Sh.pT at hP
 refine aB ?_
 refine aG ?_
 refine bL mixed (by kernel_rfl) hM [0,1,2,4,5,6,7] 8 rfl fun hch=>?_
 refine aK hF hch 0 rfl (by kernel_rfl) rfl rfl rfl (fun w hM=>(aC (off':=5) qU60 rfl in58 rfl hF rfl rfl rfl)) fun a hF=>?_
 refine aK hF hch 1 rfl (by kernel_rfl) rfl rfl rfl (fun w hM=>(aI qA58 hF rfl rfl (hM.cell (i:=0) rfl (RMark.g_pieces _)))) fun a hF=>?_
 refine aK hF hch 2 rfl (by kernel_rfl) rfl rfl rfl (fun w hM=>(cE z156 qU156 pl156 hF (parts:=[(1,.const (.int .i64 (-7)))]) rfl rfl (cM rfl rfl (by rw [RPiece.len]; decide) (RPiece.s_from_ _ _) cX))) fun a hF=>?_
 refine aK hF hch 3 rfl (by kernel_rfl) rfl rfl rfl (fun w hM=>(cE z156 qU156 pl156 hF (parts:=[(1,.const (.int .i64 (-8)))]) rfl rfl (cM rfl rfl (by rw [RPiece.len]; decide) (RPiece.s_from_ _ _) cX))) fun a hF=>?_
 refine aK hF hch 6 rfl (by kernel_rfl) rfl rfl rfl (fun w hM=>(aC (off':=5) qU60 rfl in58 rfl hF rfl rfl rfl)) fun a hF=>?_
 refine aK hF hch 7 rfl (by kernel_rfl) rfl rfl rfl (fun w hM=>(aI qA58 hF rfl rfl (hM.cell (i:=6) rfl (RMark.g_pieces _)))) fun a hF=>?_
 refine aK hF hch 8 rfl (by kernel_rfl) rfl rfl rfl (fun w hM=>(cQ (f7 _ (hsub _ (dropM hM 7))) q8.len qU58 hF rfl rfl)) fun a hF=>?_
 refine bC hch 4 (by kernel_rfl) rfl rfl ?_
 refine bV hF 4 rfl rfl rfl rfl rfl fun w hMs hM=>?_
 refine (eW (X:=RPiece) (ys:=[(RPiece.mk 0 (-7) SV.nil SV.nil),(RPiece.mk 0 (-8) SV.nil SV.nil)]) (m:=2) qU58 in156 rfl rfl rfl rfl (by decide) (by decide) hF rfl rfl (PartsE.cons rfl (PartsE.cons rfl PartsE.nil)) fun j9 w c84 c12=>?_)
 have hM:=hM.plus c12
 replace hM:MemL _ (pt j9 (encs ([(RPiece.mk 0 (-7) SV.nil SV.nil),(RPiece.mk 0 (-8) SV.nil SV.nil)]:List RPiece)) 156 :: pt c2 (RMark.enc (mMk c9 i6 i7 m2 i8)) 60 :: j5.r :: j6.r :: rowL 0 m2 156 g9 :: k8.r :: j7.r :: pt c1 (RMark.enc zMk) 60 :: pt c0 (RMark.enc (mMk x0 s1 s3 s5 s9)) 60 :: Lr):=hM
 have hMs:=selM hM [0,1,2,3,5,6,7,8] 9 rfl
 refine ⟨_,_,hMs,hM,.inl fun _ h=>dropM h 1,fun a hF=>?_⟩
 refine bC hch 5 (by kernel_rfl) rfl rfl ?_
 refine bV hF 5 rfl rfl rfl rfl rfl fun w hMs hM=>?_
 obtain ⟨c94,z7,hP⟩:=bind_some hP
 refine (fG (X:=RPiece) z7 z0.len rfl qU58 in156 rfl rfl rfl rfl hF rfl rfl rfl (hM.own (X:=RPiece) (i:=4) rfl) (hM.ptS (X:=RPiece) (i:=0) (n:=2) (c:=2) rfl rfl rfl (Nat.le_refl _)) fun i9 w c32=>?_)
 have hM:=hM.chg c32 (i:=4) rfl
 have c30:=hM.rowS (X:=RPiece) (i:=4) rfl
 replace hM:MemL _ (pt j9 (encs ([(RPiece.mk 0 (-7) SV.nil SV.nil),(RPiece.mk 0 (-8) SV.nil SV.nil)]:List RPiece)) 156 :: pt c2 (RMark.enc (mMk c9 i6 i7 m2 i8)) 60 :: j5.r :: j6.r :: rowL 0 i9 156 (g9 ++ [(RPiece.mk 0 (-7) SV.nil SV.nil),(RPiece.mk 0 (-8) SV.nil SV.nil)]) :: k8.r :: j7.r :: pt c1 (RMark.enc zMk) 60 :: pt c0 (RMark.enc (mMk x0 s1 s3 s5 s9)) 60 :: Lr):=hM
 have hMs:=selM hM [0,1,2,3,5,6,7,8] 9 rfl
 refine ⟨_,_,hMs,hM,.inl fun _ h=>h,fun a hF=>?_⟩
 obtain ⟨c24,c52,hP⟩:=bind_some hP
 obtain ⟨c55,c46,c71⟩:=aBn (X:=RPiece) (s:=i9) (e:=156) (hsp:=hspPiece) (sz:=4) z0.len (dL z7).2 rfl rfl c52 rfl
 have c77:Each (QPieceRm k8.r.holds') g9 c24:=by rw [c55]; exact z0
 refine aK hF hch 9 rfl (by kernel_rfl) rfl rfl rfl (fun w hM=>(eL (X:=RPiece) c30 c46 qU58 in156 rfl hF rfl rfl (.inl ⟨rfl,rfl⟩) (.inr ⟨_,_,rfl,rfl⟩))) fun a hF=>?_
 refine aK hF hch 10 rfl (by kernel_rfl) rfl rfl rfl (fun w hM=>(aC (off':=5) qU60 rfl in58 rfl hF rfl rfl rfl)) fun a hF=>?_
 refine bC hch 11 (by kernel_rfl) rfl rfl ?_
 refine cO 11 rfl rfl rfl rfl fun w hMs hM=>?_
 refine (bS qS58 (hM.obj (i:=1) rfl) hF rfl rfl rfl rfl (by rw [RMark.len]; decide) (RMark.s_pieces _ _) fun w c44=>?_)
 have hM:=hM.chg c44 (i:=1) rfl
 replace hM:MemL _ (pt j9 (encs ([(RPiece.mk 0 (-7) SV.nil SV.nil),(RPiece.mk 0 (-8) SV.nil SV.nil)]:List RPiece)) 156 :: pt c2 (RMark.enc (RMark.mk c9.at_ c9.next c9.done i6 i7 (i9.cut (0:Int).toNat ((x0.pieces.length:Int):Int).toNat 4) i8)) 60 :: j5.r :: j6.r :: rowL 0 i9 156 (g9 ++ [(RPiece.mk 0 (-7) SV.nil SV.nil),(RPiece.mk 0 (-8) SV.nil SV.nil)]) :: k8.r :: j7.r :: pt c1 (RMark.enc zMk) 60 :: pt c0 (RMark.enc (mMk x0 s1 s3 s5 s9)) 60 :: Lr):=hM
 have hMs:=selM hM [0,1,2,3,5,6,7,8] 9 rfl
 refine ⟨_,_,hMs,hM,.inr (by kernel_rfl),?_⟩
 refine bW hch (by kernel_rfl) fun w hM=>?_
 refine aB ?_
 refine aG ?_
 refine aD ?_
 refine aA hF (aQ qA60 qS60 hF rfl rfl (RMark.len _) (hM.cells (i:=1) rfl (bA (RMark.len _)))) rfl rfl rfl fun a hF=>?_
 refine bI rfl rfl (aY (vs:=_) qS60 (hM.obj (i:=7) rfl) hF rfl rfl rfl rfl (RMark.len _) (RMark.one _) (by first | (rw [RMark.len,RMark.len]; decide) | (rw [RMark.len]; decide)) (bF ((RMark.len _).trans (RMark.len _).symm)) fun w c45=>?_)
 have hM:=hM.chg c45 (i:=7) rfl
 refine aJ (aB ?_)
 refine c_ret ?_
 replace hM:MemL _ (pt j9 (encs ([(RPiece.mk 0 (-7) SV.nil SV.nil),(RPiece.mk 0 (-8) SV.nil SV.nil)]:List RPiece)) 156 :: pt c2 (RMark.enc (RMark.mk c9.at_ c9.next c9.done i6 i7 (i9.cut (0:Int).toNat ((x0.pieces.length:Int):Int).toNat 4) i8)) 60 :: j5.r :: j6.r :: rowL 0 i9 156 (g9 ++ [(RPiece.mk 0 (-7) SV.nil SV.nil),(RPiece.mk 0 (-8) SV.nil SV.nil)]) :: k8.r :: j7.r :: pt c1 (RMark.enc (RMark.mk c9.at_ c9.next c9.done i6 i7 (i9.cut (0:Int).toNat ((x0.pieces.length:Int):Int).toNat 4) i8)) 60 :: pt c0 (RMark.enc (mMk x0 s1 s3 s5 s9)) 60 :: Lr):=hM
 obtain ⟨p5,c50,c51,hM⟩:=joinS (selM hM [4,5,0,1,2,3,6,7,8] 9 rfl)
 replace hM:MemL _ (p5.r :: pt j9 (encs ([(RPiece.mk 0 (-7) SV.nil SV.nil),(RPiece.mk 0 (-8) SV.nil SV.nil)]:List RPiece)) 156 :: pt c2 (RMark.enc (RMark.mk c9.at_ c9.next c9.done i6 i7 (i9.cut (0:Int).toNat ((x0.pieces.length:Int):Int).toNat 4) i8)) 60 :: j5.r :: j6.r :: j7.r :: pt c1 (RMark.enc (RMark.mk c9.at_ c9.next c9.done i6 i7 (i9.cut (0:Int).toNat ((x0.pieces.length:Int):Int).toNat 4) i8)) 60 :: pt c0 (RMark.enc (mMk x0 s1 s3 s5 s9)) 60 :: Lr):=hM
 have c72:LRm p5.r.holds' (i9.cut (0:Int).toNat ((x0.pieces.length:Int):Int).toNat 4) g9 hspPiece:=LRm.mono c71 c50
 have c78:Each (QPieceRm p5.r.holds') g9 c24:=c77.mono fun _ _ q=>q.mono c51
 have hP:=oI hP
 subst hP
 refine dO (rs:=[.cell 2 60]) Tryz.results59 hF (cG hF rfl qA60 qS60 (RMark.len _) (hM.cells (i:=6) rfl (bA (RMark.len _))) cP) rfl ?_
 exact ⟨i6,j5,i7,j6,(i9.cut (0:Int).toNat ((x0.pieces.length:Int):Int).toNat 4),g9,p5,i8,j7,rfl,c64,c65,c72,c78,c66,selM hM [3,4,0,5] 8 rfl⟩
set_option maxHeartbeats 4000000 in
theorem jP {x0:List UInt8} {s1:SV} {out:Bool} {w0:World} {Bf:World → Prop} {Lr:List Res} (hP:Sh.rL x0 = some out) (hM:MemL w0 (Lr)) (hsub:∀ w,MemL w Lr → Bf w) (f2:LRm Bf s1 x0 spU8):Calls Tryz.prog 93 #[(s1).v] w0 (Ret fun v w'=>v = .bool out ∧ MemL w' (Lr)):=by
 unfold Sh.rL at hP
 refine aR (vs:=[(s1).v]) Tryz.func93 rfl Tryz.ntmps93 rfl fun a hF=>?_
 refine aG ?_
 refine aD ?_
 refine aA hF (aH hF rfl rfl) rfl rfl rfl fun a hF=>?_
 refine aJ (aB ?_)
 refine aG ?_
 refine aD ?_
 refine aA hF (aF hF rfl rfl) rfl rfl rfl fun a hF=>?_
 refine aA hF (aF hF rfl rfl) rfl rfl rfl fun a hF=>?_
 refine aA hF (bM (LRm.toIn f2 _ (hsub _ (dropM hM 0))) qU23 hF rfl rfl) rfl rfl rfl fun a hF=>?_
 refine aA hF (bX hF rfl rfl rfl) rfl rfl rfl fun a hF=>?_
 obtain ⟨hc14,hP⟩:=cH hP
 refine aA hF (oL (f2 _ (hsub _ (dropM hM 0))) qU23 in5 hF rfl rfl rfl hc14) rfl rfl rfl fun a hF=>?_
 refine aA hF (aH hF rfl rfl) rfl rfl rfl fun a hF=>?_
 refine aJ (aB ?_)
 refine aG ?_
 refine aU hF hM hP (fun F x a w=>match x with | v21=>Fr 24 [(2,.bool v21)] a ∧ MemL w (Lr)) (fun c1 hP c0 hF hM=>?_) ?_
 ·refine aD ?_
  refine aA hF (aF hF rfl rfl) rfl rfl rfl fun a hF=>?_
  refine aA hF (aF hF rfl rfl) rfl rfl rfl fun a hF=>?_
  refine aA hF (bM (LRm.toIn f2 _ (hsub _ (dropM hM 0))) qU23 hF rfl rfl) rfl rfl rfl fun a hF=>?_
  obtain ⟨x22,hx22,hP⟩:=bind_some hP
  have h0x22:=aM hx22
  refine aA hF (aS (sz:=1) ((LRm.full f2) _ (hsub _ (dropM hM 0))) qU23 in5 rfl hF rfl rfl rfl (bG hx22)) rfl rfl rfl fun a hF=>?_
  refine aA hF (aI qA5 hF rfl rfl (((((LRm.full f2) _ (hsub _ (dropM hM 0))).elemS h0x22.2)).get 0 rfl)) rfl rfl rfl fun a hF=>?_
  refine aA hF (dF hF rfl rfl rfl) rfl rfl rfl fun a hF=>?_
  refine aA hF (aF hF rfl rfl) rfl rfl rfl fun a hF=>?_
  refine bE 15 hF rfl (fun hb23=>?_) (fun hb23=>?_)
  ·have hP:=Fx.cT hb23 hP
   refine aL hF rfl rfl rfl hb23 (aF hF rfl rfl) rfl rfl fun a hF=>?_
   refine aL hF rfl rfl rfl hb23 (aF hF rfl rfl) rfl rfl fun a hF=>?_
   refine aL hF rfl rfl rfl hb23 (bM (LRm.toIn f2 _ (hsub _ (dropM hM 0))) qU23 hF rfl rfl) rfl rfl fun a hF=>?_
   refine aL hF rfl rfl rfl hb23 (bX hF rfl rfl rfl) rfl rfl fun a hF=>?_
   obtain ⟨x24,hx24,hP⟩:=bind_some hP
   have h0x24:=aM hx24
   refine aL hF rfl rfl rfl hb23 (aS (sz:=1) ((LRm.full f2) _ (hsub _ (dropM hM 0))) qU23 in5 rfl hF rfl rfl rfl (bG hx24)) rfl rfl fun a hF=>?_
   refine aL hF rfl rfl rfl hb23 (aI qA5 hF rfl rfl (((((LRm.full f2) _ (hsub _ (dropM hM 0))).elemS h0x24.2)).get 0 rfl)) rfl rfl fun a hF=>?_
   refine aL hF rfl rfl rfl hb23 (dF hF rfl rfl rfl) rfl rfl fun a hF=>?_
   refine aA hF (aP hF rfl rfl hb23 rfl) rfl rfl rfl fun a hF=>?_
   refine aA hF (aH hF rfl rfl) rfl rfl rfl fun a hF=>?_
   refine aJ (aB ?_)
   have hP:=oI hP
   subst hP
   exact ⟨(decide ((x24.toNat:Int) = 162)),rfl,hF.to ⟨rfl,trivial⟩,hM⟩
  have hP:=Fx.cF hb23 hP
  refine aE hF rfl rfl rfl hb23 rfl rfl fun a hF=>?_
  refine aE hF rfl rfl rfl hb23 rfl rfl fun a hF=>?_
  refine aE hF rfl rfl rfl hb23 rfl rfl fun a hF=>?_
  refine aE hF rfl rfl rfl hb23 rfl rfl fun a hF=>?_
  refine aE hF rfl rfl rfl hb23 rfl rfl fun a hF=>?_
  refine aE hF rfl rfl rfl hb23 rfl rfl fun a hF=>?_
  refine aE hF rfl rfl rfl hb23 rfl rfl fun a hF=>?_
  refine aA hF (aX hF rfl rfl hb23 rfl) rfl rfl rfl fun a hF=>?_
  refine aA hF (aH hF rfl rfl) rfl rfl rfl fun a hF=>?_
  refine aJ (aB ?_)
  have hP:=oI hP
  subst hP
  exact ⟨false,rfl,hF.to ⟨rfl,trivial⟩,hM⟩
 rintro v21 a w hP ⟨hF,hM⟩
 replace hP:Sh.uF v21 = _:=hP
 unfold Sh.uF at hP
 refine aB ?_
 refine c_ret ?_
 have hP:=oI hP
 subst hP
 refine bH Tryz.results93 hF rfl ?_
 exact ⟨rfl,hM⟩
set_option maxHeartbeats 4000000 in
theorem lD {x0:QMark} {x1:QMark} {s1:SV} {s3:SV} {s5:SV} {hs6:List RPiece} {s9:SV} {s11:SV} {s13:SV} {s15:SV} {hs16:List RPiece} {s19:SV} {out:Bool} {w0:World} {Bf:World → Prop} {Lr:List Res} (hP:Sh.oA x0 x1 = some out) (hM:MemL w0 (Lr)) (hsub:∀ w,MemL w Lr → Bf w) (f2:LRm Bf s1 x0.regs spTurn) (f4:LRm Bf s3 x0.slots spCell) (f7:LRm Bf s5 hs6 hspPiece) (q8:Each (QPieceRm Bf) hs6 x0.pieces) (f10:LRm Bf s9 x0.sent spInt) (f12:LIn Bf s11 x1.regs) (f14:LIn Bf s13 x1.slots) (f17:LIn Bf s15 hs16) (q18:Each (QPieceIn Bf) hs16 x1.pieces) (f20:LIn Bf s19 x1.sent):Calls Tryz.prog 63 #[.agg (RMark.enc (mMk x0 s1 s3 s5 s9)).toArray,.agg (RMark.enc (mMk x1 s11 s13 s15 s19)).toArray] w0 (Ret fun v w'=>v = .bool out ∧ MemL w' (Lr)):=by
 unfold Sh.oA at hP
 refine aR (vs:=[.agg (RMark.enc (mMk x0 s1 s3 s5 s9)).toArray,.agg (RMark.enc (mMk x1 s11 s13 s15 s19)).toArray]) Tryz.func63 rfl Tryz.ntmps63 rfl fun a hF=>?_
 refine aG ?_
 refine aD ?_
 refine aO hF rfl rfl rfl (dA hF rfl rfl rfl fun c8 w l6 i9=>?_)
 have hM:=hM.plus i9
 intro a hF
 refine aO hF rfl rfl rfl (dA hF rfl rfl rfl fun d4 w l7 j0=>?_)
 have hM:=hM.plus j0
 replace hM:MemL _ (pt d4 (RMark.enc (mMk x1 s11 s13 s15 s19)) 60 :: pt c8 (RMark.enc (mMk x0 s1 s3 s5 s9)) 60 :: Lr):=hM
 intro a hF
 refine aA hF (aH hF rfl rfl) rfl rfl rfl fun a hF=>?_
 refine aJ (aB ?_)
 refine aG ?_
 refine aD ?_
 refine aA hF (aC (off':=3) qU60 rfl in56 rfl hF rfl rfl rfl) rfl rfl rfl fun a hF=>?_
 refine aA hF (aI qA56 hF rfl rfl (hM.cell (i:=1) rfl (RMark.g_regs _))) rfl rfl rfl fun a hF=>?_
 refine aA hF (aC (off':=3) qU60 rfl in56 rfl hF rfl rfl rfl) rfl rfl rfl fun a hF=>?_
 refine aA hF (aI qA56 hF rfl rfl (hM.cell (i:=1) rfl (RMark.g_regs _))) rfl rfl rfl fun a hF=>?_
 refine aA hF (bM (LRm.toIn f2 _ (hsub _ (dropM hM 2))) qU56 hF rfl rfl) rfl rfl rfl fun a hF=>?_
 refine aA hF (bX hF rfl rfl rfl) rfl rfl rfl fun a hF=>?_
 obtain ⟨k3,hP⟩:=cH hP
 refine aA hF (oL (f2 _ (hsub _ (dropM hM 2))) qU56 in128 hF rfl rfl rfl k3) rfl rfl rfl fun a hF=>?_
 refine aA hF (aH hF rfl rfl) rfl rfl rfl fun a hF=>?_
 refine aJ (aB ?_)
 refine aG ?_
 refine aD ?_
 refine aA hF (aC (off':=4) qU60 rfl in57 rfl hF rfl rfl rfl) rfl rfl rfl fun a hF=>?_
 refine aA hF (aI qA57 hF rfl rfl (hM.cell (i:=1) rfl (RMark.g_slots _))) rfl rfl rfl fun a hF=>?_
 refine aA hF (aC (off':=4) qU60 rfl in57 rfl hF rfl rfl rfl) rfl rfl rfl fun a hF=>?_
 refine aA hF (aI qA57 hF rfl rfl (hM.cell (i:=1) rfl (RMark.g_slots _))) rfl rfl rfl fun a hF=>?_
 refine aA hF (bM (LRm.toIn f4 _ (hsub _ (dropM hM 2))) qU57 hF rfl rfl) rfl rfl rfl fun a hF=>?_
 refine aA hF (bX hF rfl rfl rfl) rfl rfl rfl fun a hF=>?_
 obtain ⟨k4,hP⟩:=cH hP
 refine aA hF (oL (f4 _ (hsub _ (dropM hM 2))) qU57 in151 hF rfl rfl rfl k4) rfl rfl rfl fun a hF=>?_
 refine aA hF (aH hF rfl rfl) rfl rfl rfl fun a hF=>?_
 refine aJ (aB ?_)
 refine aG ?_
 refine aD ?_
 refine aA hF (aC (off':=6) qU60 rfl in52 rfl hF rfl rfl rfl) rfl rfl rfl fun a hF=>?_
 refine aA hF (aI qA52 hF rfl rfl (hM.cell (i:=1) rfl (RMark.g_sent _))) rfl rfl rfl fun a hF=>?_
 refine aA hF (aC (off':=6) qU60 rfl in52 rfl hF rfl rfl rfl) rfl rfl rfl fun a hF=>?_
 refine aA hF (aI qA52 hF rfl rfl (hM.cell (i:=1) rfl (RMark.g_sent _))) rfl rfl rfl fun a hF=>?_
 refine aA hF (bM (LRm.toIn f10 _ (hsub _ (dropM hM 2))) qU52 hF rfl rfl) rfl rfl rfl fun a hF=>?_
 refine aA hF (bX hF rfl rfl rfl) rfl rfl rfl fun a hF=>?_
 obtain ⟨k5,hP⟩:=cH hP
 refine aA hF (oL (f10 _ (hsub _ (dropM hM 2))) qU52 in3 hF rfl rfl rfl k5) rfl rfl rfl fun a hF=>?_
 refine aA hF (aH hF rfl rfl) rfl rfl rfl fun a hF=>?_
 refine aJ (aB ?_)
 refine aG ?_
 refine aD ?_
 refine aA hF (aC (off':=5) qU60 rfl in58 rfl hF rfl rfl rfl) rfl rfl rfl fun a hF=>?_
 refine aA hF (aI qA58 hF rfl rfl (hM.cell (i:=1) rfl (RMark.g_pieces _))) rfl rfl rfl fun a hF=>?_
 refine aA hF (aC (off':=5) qU60 rfl in58 rfl hF rfl rfl rfl) rfl rfl rfl fun a hF=>?_
 refine aA hF (aI qA58 hF rfl rfl (hM.cell (i:=1) rfl (RMark.g_pieces _))) rfl rfl rfl fun a hF=>?_
 refine aA hF (cQ (LRm.toIn f7 _ (hsub _ (dropM hM 2))) q8.len qU58 hF rfl rfl) rfl rfl rfl fun a hF=>?_
 refine aA hF (bX hF rfl rfl rfl) rfl rfl rfl fun a hF=>?_
 obtain ⟨k6,hP⟩:=cH hP
 refine aA hF (oL (f7 _ (hsub _ (dropM hM 2))) qU58 in156 hF rfl rfl rfl (by rw [q8.len]; exact k6)) rfl rfl rfl fun a hF=>?_
 refine aA hF (aH hF rfl rfl) rfl rfl rfl fun a hF=>?_
 refine aJ (aB ?_)
 refine aG ?_
 refine aG ?_
 refine aU hF hM hP (fun F x a w=>match x with | d5=>Fr 147 [(83,.bool d5),(2,.pointer (some ⟨c8,0,none⟩)),(4,.bool false),(7,((stretch s9)).v),(8,((stretch s5)).v)] a ∧ MemL w (pt c8 (RMark.enc (mMk x0 s1 s3 s5 s9)) 60 :: Lr)) (fun p9 hP m8 hF hM=>?_) ?_
 ·refine aD ?_
  refine aA hF (aQ qA60 qS60 hF rfl rfl (RMark.len _) (hM.cells (i:=1) rfl (bA (RMark.len _)))) rfl rfl rfl fun a hF=>?_
  refine aA hF (aQ qA60 qS60 hF rfl rfl (RMark.len _) (hM.cells (i:=0) rfl (bA (RMark.len _)))) rfl rfl rfl fun a hF=>?_
  obtain ⟨p7,k7,hP⟩:=bind_some hP
  refine aO hF rfl rfl rfl (aN (xs:=[.tmp 38,.tmp 39]) Tryz.call33 hF rfl rfl (eG k7 hM (Bf:=Bf) (fun w hM=>hsub _ (dropM hM 2)) (LRm.toIn f2) (LRm.toIn f4) (LRm.toIn f7) (q8.mono fun _ _ q=>q.toIn) (LRm.toIn f10) f12 f14 f17 q18 f20) fun v w hR=>?_)
  obtain ⟨rfl,hM⟩:=hR
  replace hM:MemL _ (pt d4 (RMark.enc (mMk x1 s11 s13 s15 s19)) 60 :: pt c8 (RMark.enc (mMk x0 s1 s3 s5 s9)) 60 :: Lr):=hM
  intro a hF
  refine aA hF (dE hF rfl rfl) rfl rfl rfl fun a hF=>?_
  refine aA hF (aF hF rfl rfl) rfl rfl rfl fun a hF=>?_
  refine bE 42 hF rfl (fun c3=>?_) (fun c3=>?_)
  ·have hP:=Fx.cT c3 hP
   refine aE hF rfl rfl rfl c3 rfl rfl fun a hF=>?_
   refine aE hF rfl rfl rfl c3 rfl rfl fun a hF=>?_
   refine aE hF rfl rfl rfl c3 rfl rfl fun a hF=>?_
   refine aE hF rfl rfl rfl c3 rfl rfl fun a hF=>?_
   refine aE hF rfl rfl rfl c3 rfl rfl fun a hF=>?_
   refine aE hF rfl rfl rfl c3 rfl rfl fun a hF=>?_
   refine aE hF rfl rfl rfl c3 rfl rfl fun a hF=>?_
   refine aE hF rfl rfl rfl c3 rfl rfl fun a hF=>?_
   refine aA hF (aP hF rfl rfl c3 rfl) rfl rfl rfl fun a hF=>?_
   refine aA hF (aF hF rfl rfl) rfl rfl rfl fun a hF=>?_
   refine aE hF rfl rfl rfl rfl rfl rfl fun a hF=>?_
   refine aE hF rfl rfl rfl rfl rfl rfl fun a hF=>?_
   refine aE hF rfl rfl rfl rfl rfl rfl fun a hF=>?_
   refine aE hF rfl rfl rfl rfl rfl rfl fun a hF=>?_
   refine aE hF rfl rfl rfl rfl rfl rfl fun a hF=>?_
   refine aE hF rfl rfl rfl rfl rfl rfl fun a hF=>?_
   refine aE hF rfl rfl rfl rfl rfl rfl fun a hF=>?_
   refine aE hF rfl rfl rfl rfl rfl rfl fun a hF=>?_
   refine aE hF rfl rfl rfl rfl rfl rfl fun a hF=>?_
   refine aA hF (aP hF rfl rfl rfl rfl) rfl rfl rfl fun a hF=>?_
   refine aA hF (aF hF rfl rfl) rfl rfl rfl fun a hF=>?_
   refine aE hF rfl rfl rfl rfl rfl rfl fun a hF=>?_
   refine aE hF rfl rfl rfl rfl rfl rfl fun a hF=>?_
   refine aE hF rfl rfl rfl rfl rfl rfl fun a hF=>?_
   refine aE hF rfl rfl rfl rfl rfl rfl fun a hF=>?_
   refine aE hF rfl rfl rfl rfl rfl rfl fun a hF=>?_
   refine aE hF rfl rfl rfl rfl rfl rfl fun a hF=>?_
   refine aE hF rfl rfl rfl rfl rfl rfl fun a hF=>?_
   refine aE hF rfl rfl rfl rfl rfl rfl fun a hF=>?_
   refine aA hF (aP hF rfl rfl rfl rfl) rfl rfl rfl fun a hF=>?_
   refine aA hF (aF hF rfl rfl) rfl rfl rfl fun a hF=>?_
   refine aE hF rfl rfl rfl rfl rfl rfl fun a hF=>?_
   refine aE hF rfl rfl rfl rfl rfl rfl fun a hF=>?_
   refine aE hF rfl rfl rfl rfl rfl rfl fun a hF=>?_
   refine aE hF rfl rfl rfl rfl rfl rfl fun a hF=>?_
   refine aE hF rfl rfl rfl rfl rfl rfl fun a hF=>?_
   refine aE hF rfl rfl rfl rfl rfl rfl fun a hF=>?_
   refine aE hF rfl rfl rfl rfl rfl rfl fun a hF=>?_
   refine aE hF rfl rfl rfl rfl rfl rfl fun a hF=>?_
   refine aE hF rfl rfl rfl rfl rfl rfl fun a hF=>?_
   refine aA hF (aP hF rfl rfl rfl rfl) rfl rfl rfl fun a hF=>?_
   refine aJ (aB ?_)
   have hP:=oI hP
   subst hP
   exact ⟨true,rfl,hF.to ⟨rfl,rfl,rfl,rfl,rfl,trivial⟩,selM hM [1] 2 rfl⟩
  have hP:=Fx.cF c3 hP
  refine aL hF rfl rfl rfl c3 (aF hF rfl rfl) rfl rfl fun a hF=>?_
  refine aL hF rfl rfl rfl c3 (aC (off':=3) qU60 rfl in56 rfl hF rfl rfl rfl) rfl rfl fun a hF=>?_
  refine aL hF rfl rfl rfl c3 (aI qA56 hF rfl rfl (hM.cell (i:=1) rfl (RMark.g_regs _))) rfl rfl fun a hF=>?_
  refine aL hF rfl rfl rfl c3 (bM (LRm.toIn f2 _ (hsub _ (dropM hM 2))) qU56 hF rfl rfl) rfl rfl fun a hF=>?_
  obtain ⟨n9,d8,hP⟩:=bind_some hP
  have g9:=aM d8
  refine aL hF rfl rfl rfl c3 (aS (sz:=9) ((LRm.full f2) _ (hsub _ (dropM hM 2))) qU56 in128 rfl hF rfl rfl rfl (bG d8)) rfl rfl fun a hF=>?_
  refine aL hF rfl rfl rfl c3 (aC qU128 rfl in3 rfl hF rfl rfl rfl) rfl rfl fun a hF=>?_
  refine aL hF rfl rfl rfl c3 (aI qA3 hF rfl rfl (((((LRm.full f2) _ (hsub _ (dropM hM 2))).elemS g9.2)).get 0 (LTurn.g_reg _))) rfl rfl fun a hF=>?_
  refine aL hF rfl rfl rfl c3 (dC hF rfl rfl rfl) rfl rfl fun a hF=>?_
  refine aA hF (aX hF rfl rfl c3 rfl) rfl rfl rfl fun a hF=>?_
  refine aA hF (aF hF rfl rfl) rfl rfl rfl fun a hF=>?_
  refine bE 52 hF rfl (fun c0=>?_) (fun c0=>?_)
  ·have hP:=Fx.cT c0 hP
   refine aE hF rfl rfl rfl c0 rfl rfl fun a hF=>?_
   refine aE hF rfl rfl rfl c0 rfl rfl fun a hF=>?_
   refine aE hF rfl rfl rfl c0 rfl rfl fun a hF=>?_
   refine aE hF rfl rfl rfl c0 rfl rfl fun a hF=>?_
   refine aE hF rfl rfl rfl c0 rfl rfl fun a hF=>?_
   refine aE hF rfl rfl rfl c0 rfl rfl fun a hF=>?_
   refine aE hF rfl rfl rfl c0 rfl rfl fun a hF=>?_
   refine aE hF rfl rfl rfl c0 rfl rfl fun a hF=>?_
   refine aE hF rfl rfl rfl c0 rfl rfl fun a hF=>?_
   refine aA hF (aP hF rfl rfl c0 rfl) rfl rfl rfl fun a hF=>?_
   refine aA hF (aF hF rfl rfl) rfl rfl rfl fun a hF=>?_
   refine aE hF rfl rfl rfl rfl rfl rfl fun a hF=>?_
   refine aE hF rfl rfl rfl rfl rfl rfl fun a hF=>?_
   refine aE hF rfl rfl rfl rfl rfl rfl fun a hF=>?_
   refine aE hF rfl rfl rfl rfl rfl rfl fun a hF=>?_
   refine aE hF rfl rfl rfl rfl rfl rfl fun a hF=>?_
   refine aE hF rfl rfl rfl rfl rfl rfl fun a hF=>?_
   refine aE hF rfl rfl rfl rfl rfl rfl fun a hF=>?_
   refine aE hF rfl rfl rfl rfl rfl rfl fun a hF=>?_
   refine aA hF (aP hF rfl rfl rfl rfl) rfl rfl rfl fun a hF=>?_
   refine aA hF (aF hF rfl rfl) rfl rfl rfl fun a hF=>?_
   refine aE hF rfl rfl rfl rfl rfl rfl fun a hF=>?_
   refine aE hF rfl rfl rfl rfl rfl rfl fun a hF=>?_
   refine aE hF rfl rfl rfl rfl rfl rfl fun a hF=>?_
   refine aE hF rfl rfl rfl rfl rfl rfl fun a hF=>?_
   refine aE hF rfl rfl rfl rfl rfl rfl fun a hF=>?_
   refine aE hF rfl rfl rfl rfl rfl rfl fun a hF=>?_
   refine aE hF rfl rfl rfl rfl rfl rfl fun a hF=>?_
   refine aE hF rfl rfl rfl rfl rfl rfl fun a hF=>?_
   refine aE hF rfl rfl rfl rfl rfl rfl fun a hF=>?_
   refine aA hF (aP hF rfl rfl rfl rfl) rfl rfl rfl fun a hF=>?_
   refine aJ (aB ?_)
   have hP:=oI hP
   subst hP
   exact ⟨true,rfl,hF.to ⟨rfl,rfl,rfl,rfl,rfl,trivial⟩,selM hM [1] 2 rfl⟩
  have hP:=Fx.cF c0 hP
  refine aL hF rfl rfl rfl c0 (aF hF rfl rfl) rfl rfl fun a hF=>?_
  refine aL hF rfl rfl rfl c0 (aC (off':=3) qU60 rfl in56 rfl hF rfl rfl rfl) rfl rfl fun a hF=>?_
  refine aL hF rfl rfl rfl c0 (aI qA56 hF rfl rfl (hM.cell (i:=1) rfl (RMark.g_regs _))) rfl rfl fun a hF=>?_
  refine aL hF rfl rfl rfl c0 (bM (LRm.toIn f2 _ (hsub _ (dropM hM 2))) qU56 hF rfl rfl) rfl rfl fun a hF=>?_
  refine aL hF rfl rfl rfl c0 (bX hF rfl rfl rfl) rfl rfl fun a hF=>?_
  obtain ⟨p0,d9,hP⟩:=bind_some hP
  have i0:=aM d9
  refine aL hF rfl rfl rfl c0 (aS (sz:=9) ((LRm.full f2) _ (hsub _ (dropM hM 2))) qU56 in128 rfl hF rfl rfl rfl (bG d9)) rfl rfl fun a hF=>?_
  refine aL hF rfl rfl rfl c0 (aC qU128 rfl in3 rfl hF rfl rfl rfl) rfl rfl fun a hF=>?_
  refine aL hF rfl rfl rfl c0 (aI qA3 hF rfl rfl (((((LRm.full f2) _ (hsub _ (dropM hM 2))).elemS i0.2)).get 0 (LTurn.g_reg _))) rfl rfl fun a hF=>?_
  refine aL hF rfl rfl rfl c0 (dC hF rfl rfl rfl) rfl rfl fun a hF=>?_
  refine aA hF (aX hF rfl rfl c0 rfl) rfl rfl rfl fun a hF=>?_
  refine aA hF (aF hF rfl rfl) rfl rfl rfl fun a hF=>?_
  refine bE 63 hF rfl (fun c4=>?_) (fun c4=>?_)
  ·have hP:=Fx.cT c4 hP
   refine aE hF rfl rfl rfl c4 rfl rfl fun a hF=>?_
   refine aE hF rfl rfl rfl c4 rfl rfl fun a hF=>?_
   refine aE hF rfl rfl rfl c4 rfl rfl fun a hF=>?_
   refine aE hF rfl rfl rfl c4 rfl rfl fun a hF=>?_
   refine aE hF rfl rfl rfl c4 rfl rfl fun a hF=>?_
   refine aE hF rfl rfl rfl c4 rfl rfl fun a hF=>?_
   refine aE hF rfl rfl rfl c4 rfl rfl fun a hF=>?_
   refine aE hF rfl rfl rfl c4 rfl rfl fun a hF=>?_
   refine aA hF (aP hF rfl rfl c4 rfl) rfl rfl rfl fun a hF=>?_
   refine aA hF (aF hF rfl rfl) rfl rfl rfl fun a hF=>?_
   refine aE hF rfl rfl rfl rfl rfl rfl fun a hF=>?_
   refine aE hF rfl rfl rfl rfl rfl rfl fun a hF=>?_
   refine aE hF rfl rfl rfl rfl rfl rfl fun a hF=>?_
   refine aE hF rfl rfl rfl rfl rfl rfl fun a hF=>?_
   refine aE hF rfl rfl rfl rfl rfl rfl fun a hF=>?_
   refine aE hF rfl rfl rfl rfl rfl rfl fun a hF=>?_
   refine aE hF rfl rfl rfl rfl rfl rfl fun a hF=>?_
   refine aE hF rfl rfl rfl rfl rfl rfl fun a hF=>?_
   refine aE hF rfl rfl rfl rfl rfl rfl fun a hF=>?_
   refine aA hF (aP hF rfl rfl rfl rfl) rfl rfl rfl fun a hF=>?_
   refine aJ (aB ?_)
   have hP:=oI hP
   subst hP
   exact ⟨true,rfl,hF.to ⟨rfl,rfl,rfl,rfl,rfl,trivial⟩,selM hM [1] 2 rfl⟩
  have hP:=Fx.cF c4 hP
  refine aL hF rfl rfl rfl c4 (aF hF rfl rfl) rfl rfl fun a hF=>?_
  refine aL hF rfl rfl rfl c4 (aC (off':=4) qU60 rfl in57 rfl hF rfl rfl rfl) rfl rfl fun a hF=>?_
  refine aL hF rfl rfl rfl c4 (aI qA57 hF rfl rfl (hM.cell (i:=1) rfl (RMark.g_slots _))) rfl rfl fun a hF=>?_
  refine aL hF rfl rfl rfl c4 (bM (LRm.toIn f4 _ (hsub _ (dropM hM 2))) qU57 hF rfl rfl) rfl rfl fun a hF=>?_
  obtain ⟨p1,g0,hP⟩:=bind_some hP
  have i1:=aM g0
  refine aL hF rfl rfl rfl c4 (aS (sz:=27) ((LRm.full f4) _ (hsub _ (dropM hM 2))) qU57 in151 rfl hF rfl rfl rfl (bG g0)) rfl rfl fun a hF=>?_
  refine aL hF rfl rfl rfl c4 (aC qU151 rfl in3 rfl hF rfl rfl rfl) rfl rfl fun a hF=>?_
  refine aL hF rfl rfl rfl c4 (aI qA3 hF rfl rfl (((((LRm.full f4) _ (hsub _ (dropM hM 2))).elemS i1.2)).get 0 (LCell.g_slot _))) rfl rfl fun a hF=>?_
  refine aL hF rfl rfl rfl c4 (dC hF rfl rfl rfl) rfl rfl fun a hF=>?_
  refine aA hF (aX hF rfl rfl c4 rfl) rfl rfl rfl fun a hF=>?_
  refine aA hF (aF hF rfl rfl) rfl rfl rfl fun a hF=>?_
  refine bE 73 hF rfl (fun c1=>?_) (fun c1=>?_)
  ·have hP:=Fx.cT c1 hP
   refine aE hF rfl rfl rfl c1 rfl rfl fun a hF=>?_
   refine aE hF rfl rfl rfl c1 rfl rfl fun a hF=>?_
   refine aE hF rfl rfl rfl c1 rfl rfl fun a hF=>?_
   refine aE hF rfl rfl rfl c1 rfl rfl fun a hF=>?_
   refine aE hF rfl rfl rfl c1 rfl rfl fun a hF=>?_
   refine aE hF rfl rfl rfl c1 rfl rfl fun a hF=>?_
   refine aE hF rfl rfl rfl c1 rfl rfl fun a hF=>?_
   refine aE hF rfl rfl rfl c1 rfl rfl fun a hF=>?_
   refine aE hF rfl rfl rfl c1 rfl rfl fun a hF=>?_
   refine aA hF (aP hF rfl rfl c1 rfl) rfl rfl rfl fun a hF=>?_
   refine aJ (aB ?_)
   have hP:=oI hP
   subst hP
   exact ⟨true,rfl,hF.to ⟨rfl,rfl,rfl,rfl,rfl,trivial⟩,selM hM [1] 2 rfl⟩
  have hP:=Fx.cF c1 hP
  refine aL hF rfl rfl rfl c1 (aF hF rfl rfl) rfl rfl fun a hF=>?_
  refine aL hF rfl rfl rfl c1 (aC (off':=4) qU60 rfl in57 rfl hF rfl rfl rfl) rfl rfl fun a hF=>?_
  refine aL hF rfl rfl rfl c1 (aI qA57 hF rfl rfl (hM.cell (i:=1) rfl (RMark.g_slots _))) rfl rfl fun a hF=>?_
  refine aL hF rfl rfl rfl c1 (bM (LRm.toIn f4 _ (hsub _ (dropM hM 2))) qU57 hF rfl rfl) rfl rfl fun a hF=>?_
  refine aL hF rfl rfl rfl c1 (bX hF rfl rfl rfl) rfl rfl fun a hF=>?_
  obtain ⟨l3,g1,hP⟩:=bind_some hP
  have i2:=aM g1
  refine aL hF rfl rfl rfl c1 (aS (sz:=27) ((LRm.full f4) _ (hsub _ (dropM hM 2))) qU57 in151 rfl hF rfl rfl rfl (bG g1)) rfl rfl fun a hF=>?_
  refine aL hF rfl rfl rfl c1 (aC qU151 rfl in3 rfl hF rfl rfl rfl) rfl rfl fun a hF=>?_
  refine aL hF rfl rfl rfl c1 (aI qA3 hF rfl rfl (((((LRm.full f4) _ (hsub _ (dropM hM 2))).elemS i2.2)).get 0 (LCell.g_slot _))) rfl rfl fun a hF=>?_
  refine aL hF rfl rfl rfl c1 (dC hF rfl rfl rfl) rfl rfl fun a hF=>?_
  refine aA hF (aX hF rfl rfl c1 rfl) rfl rfl rfl fun a hF=>?_
  refine aJ (aB ?_)
  have hP:=oI hP
  subst hP
  exact ⟨(!decide (l3.slot = (-8))),rfl,hF.to ⟨rfl,rfl,rfl,rfl,rfl,trivial⟩,selM hM [1] 2 rfl⟩
 rintro d5 a w hP ⟨hF,hM⟩
 replace hP:Sh.nF x0 d5 = _:=hP
 unfold Sh.nF at hP
 refine aB ?_
 refine aV hF (c:=.tmp 83) rfl (fun d0=>?_) (fun d0=>?_)
 ·have hP:=Fx.cT d0 hP
  refine aG ?_
  refine aD ?_
  refine aA hF (aH hF rfl rfl) rfl rfl rfl fun a hF=>?_
  refine aJ (aB ?_)
  refine c_ret ?_
  have hP:=oI hP
  subst hP
  refine bH qR63 hF rfl ?_
  exact ⟨rfl,selM hM [] 1 rfl⟩
 have hP:=Fx.cF d0 hP
 refine aW (aB ?_)
 refine aG ?_
 refine aG ?_
 refine aU hF hM hP (fun F x a w=>match x with | d6=>Fr 147 [(121,.bool d6),(2,.pointer (some ⟨c8,0,none⟩)),(4,.bool false)] a ∧ MemL w (pt c8 (RMark.enc (mMk x0 s1 s3 s5 s9)) 60 :: Lr)) (fun t0 hP m9 hF hM=>?_) ?_
 ·refine aD ?_
  refine aA hF (aF hF rfl rfl) rfl rfl rfl fun a hF=>?_
  refine aA hF (aC (off':=6) qU60 rfl in52 rfl hF rfl rfl rfl) rfl rfl rfl fun a hF=>?_
  refine aA hF (aI qA52 hF rfl rfl (hM.cell (i:=0) rfl (RMark.g_sent _))) rfl rfl rfl fun a hF=>?_
  refine aA hF (bM (LRm.toIn f10 _ (hsub _ (dropM hM 1))) qU52 hF rfl rfl) rfl rfl rfl fun a hF=>?_
  obtain ⟨p2,g2,hP⟩:=bind_some hP
  have i3:=aM g2
  refine aA hF (aS (sz:=1) ((LRm.full f10) _ (hsub _ (dropM hM 1))) qU52 in3 rfl hF rfl rfl rfl (bG g2)) rfl rfl rfl fun a hF=>?_
  refine aA hF (aI qA3 hF rfl rfl (((((LRm.full f10) _ (hsub _ (dropM hM 1))).elemS i3.2)).get 0 rfl)) rfl rfl rfl fun a hF=>?_
  refine aA hF (dC hF rfl rfl rfl) rfl rfl rfl fun a hF=>?_
  refine aA hF (aF hF rfl rfl) rfl rfl rfl fun a hF=>?_
  refine bE 91 hF rfl (fun c5=>?_) (fun c5=>?_)
  ·have hP:=Fx.cT c5 hP
   refine aE hF rfl rfl rfl c5 rfl rfl fun a hF=>?_
   refine aE hF rfl rfl rfl c5 rfl rfl fun a hF=>?_
   refine aE hF rfl rfl rfl c5 rfl rfl fun a hF=>?_
   refine aE hF rfl rfl rfl c5 rfl rfl fun a hF=>?_
   refine aE hF rfl rfl rfl c5 rfl rfl fun a hF=>?_
   refine aE hF rfl rfl rfl c5 rfl rfl fun a hF=>?_
   refine aE hF rfl rfl rfl c5 rfl rfl fun a hF=>?_
   refine aE hF rfl rfl rfl c5 rfl rfl fun a hF=>?_
   refine aA hF (aP hF rfl rfl c5 rfl) rfl rfl rfl fun a hF=>?_
   refine aA hF (aF hF rfl rfl) rfl rfl rfl fun a hF=>?_
   refine aE hF rfl rfl rfl rfl rfl rfl fun a hF=>?_
   refine aE hF rfl rfl rfl rfl rfl rfl fun a hF=>?_
   refine aE hF rfl rfl rfl rfl rfl rfl fun a hF=>?_
   refine aE hF rfl rfl rfl rfl rfl rfl fun a hF=>?_
   refine aE hF rfl rfl rfl rfl rfl rfl fun a hF=>?_
   refine aE hF rfl rfl rfl rfl rfl rfl fun a hF=>?_
   refine aE hF rfl rfl rfl rfl rfl rfl fun a hF=>?_
   refine aE hF rfl rfl rfl rfl rfl rfl fun a hF=>?_
   refine aA hF (aP hF rfl rfl rfl rfl) rfl rfl rfl fun a hF=>?_
   refine aA hF (aF hF rfl rfl) rfl rfl rfl fun a hF=>?_
   refine aE hF rfl rfl rfl rfl rfl rfl fun a hF=>?_
   refine aE hF rfl rfl rfl rfl rfl rfl fun a hF=>?_
   refine aE hF rfl rfl rfl rfl rfl rfl fun a hF=>?_
   refine aE hF rfl rfl rfl rfl rfl rfl fun a hF=>?_
   refine aE hF rfl rfl rfl rfl rfl rfl fun a hF=>?_
   refine aE hF rfl rfl rfl rfl rfl rfl fun a hF=>?_
   refine aE hF rfl rfl rfl rfl rfl rfl fun a hF=>?_
   refine aE hF rfl rfl rfl rfl rfl rfl fun a hF=>?_
   refine aE hF rfl rfl rfl rfl rfl rfl fun a hF=>?_
   refine aA hF (aP hF rfl rfl rfl rfl) rfl rfl rfl fun a hF=>?_
   refine aJ (aB ?_)
   have hP:=oI hP
   subst hP
   exact ⟨true,rfl,hF.to ⟨rfl,rfl,rfl,trivial⟩,hM⟩
  have hP:=Fx.cF c5 hP
  refine aL hF rfl rfl rfl c5 (aF hF rfl rfl) rfl rfl fun a hF=>?_
  refine aL hF rfl rfl rfl c5 (aC (off':=6) qU60 rfl in52 rfl hF rfl rfl rfl) rfl rfl fun a hF=>?_
  refine aL hF rfl rfl rfl c5 (aI qA52 hF rfl rfl (hM.cell (i:=0) rfl (RMark.g_sent _))) rfl rfl fun a hF=>?_
  refine aL hF rfl rfl rfl c5 (bM (LRm.toIn f10 _ (hsub _ (dropM hM 1))) qU52 hF rfl rfl) rfl rfl fun a hF=>?_
  refine aL hF rfl rfl rfl c5 (bX hF rfl rfl rfl) rfl rfl fun a hF=>?_
  obtain ⟨p3,g3,hP⟩:=bind_some hP
  have i4:=aM g3
  refine aL hF rfl rfl rfl c5 (aS (sz:=1) ((LRm.full f10) _ (hsub _ (dropM hM 1))) qU52 in3 rfl hF rfl rfl rfl (bG g3)) rfl rfl fun a hF=>?_
  refine aL hF rfl rfl rfl c5 (aI qA3 hF rfl rfl (((((LRm.full f10) _ (hsub _ (dropM hM 1))).elemS i4.2)).get 0 rfl)) rfl rfl fun a hF=>?_
  refine aL hF rfl rfl rfl c5 (dC hF rfl rfl rfl) rfl rfl fun a hF=>?_
  refine aA hF (aX hF rfl rfl c5 rfl) rfl rfl rfl fun a hF=>?_
  refine aA hF (aF hF rfl rfl) rfl rfl rfl fun a hF=>?_
  refine bE 101 hF rfl (fun c6=>?_) (fun c6=>?_)
  ·have hP:=Fx.cT c6 hP
   refine aE hF rfl rfl rfl c6 rfl rfl fun a hF=>?_
   refine aE hF rfl rfl rfl c6 rfl rfl fun a hF=>?_
   refine aE hF rfl rfl rfl c6 rfl rfl fun a hF=>?_
   refine aE hF rfl rfl rfl c6 rfl rfl fun a hF=>?_
   refine aE hF rfl rfl rfl c6 rfl rfl fun a hF=>?_
   refine aE hF rfl rfl rfl c6 rfl rfl fun a hF=>?_
   refine aE hF rfl rfl rfl c6 rfl rfl fun a hF=>?_
   refine aE hF rfl rfl rfl c6 rfl rfl fun a hF=>?_
   refine aA hF (aP hF rfl rfl c6 rfl) rfl rfl rfl fun a hF=>?_
   refine aA hF (aF hF rfl rfl) rfl rfl rfl fun a hF=>?_
   refine aE hF rfl rfl rfl rfl rfl rfl fun a hF=>?_
   refine aE hF rfl rfl rfl rfl rfl rfl fun a hF=>?_
   refine aE hF rfl rfl rfl rfl rfl rfl fun a hF=>?_
   refine aE hF rfl rfl rfl rfl rfl rfl fun a hF=>?_
   refine aE hF rfl rfl rfl rfl rfl rfl fun a hF=>?_
   refine aE hF rfl rfl rfl rfl rfl rfl fun a hF=>?_
   refine aE hF rfl rfl rfl rfl rfl rfl fun a hF=>?_
   refine aE hF rfl rfl rfl rfl rfl rfl fun a hF=>?_
   refine aE hF rfl rfl rfl rfl rfl rfl fun a hF=>?_
   refine aA hF (aP hF rfl rfl rfl rfl) rfl rfl rfl fun a hF=>?_
   refine aJ (aB ?_)
   have hP:=oI hP
   subst hP
   exact ⟨true,rfl,hF.to ⟨rfl,rfl,rfl,trivial⟩,hM⟩
  have hP:=Fx.cF c6 hP
  refine aL hF rfl rfl rfl c6 (aF hF rfl rfl) rfl rfl fun a hF=>?_
  refine aL hF rfl rfl rfl c6 (aC (off':=5) qU60 rfl in58 rfl hF rfl rfl rfl) rfl rfl fun a hF=>?_
  refine aL hF rfl rfl rfl c6 (aI qA58 hF rfl rfl (hM.cell (i:=0) rfl (RMark.g_pieces _))) rfl rfl fun a hF=>?_
  refine aL hF rfl rfl rfl c6 (cQ (LRm.toIn f7 _ (hsub _ (dropM hM 1))) q8.len qU58 hF rfl rfl) rfl rfl fun a hF=>?_
  obtain ⟨p4,g4,hP⟩:=bind_some hP
  have i5:=aM g4
  obtain ⟨l8,j5,j9⟩:=Each.getr (mN q8) i5.2
  have j1:=Each.bd (mN q8) (bG g4)
  obtain ⟨n1,n2,rfl,m2,m3⟩:=j9
  refine aL hF rfl rfl rfl c6 (aS (sz:=4) ((LRm.full f7) _ (hsub _ (dropM hM 1))) qU58 in156 rfl hF rfl rfl rfl j1) rfl rfl fun a hF=>?_
  refine aL hF rfl rfl rfl c6 (aC qU156 rfl in3 rfl hF rfl rfl rfl) rfl rfl fun a hF=>?_
  refine aL hF rfl rfl rfl c6 (aI qA3 hF rfl rfl (((((LRm.full f7) _ (hsub _ (dropM hM 1))).elemS j5)).get 1 (RPiece.g_from_ _))) rfl rfl fun a hF=>?_
  refine aL hF rfl rfl rfl c6 (dC hF rfl rfl rfl) rfl rfl fun a hF=>?_
  refine aA hF (aX hF rfl rfl c6 rfl) rfl rfl rfl fun a hF=>?_
  refine aA hF (aF hF rfl rfl) rfl rfl rfl fun a hF=>?_
  refine bE 111 hF rfl (fun c2=>?_) (fun c2=>?_)
  ·have hP:=Fx.cT c2 hP
   refine aE hF rfl rfl rfl c2 rfl rfl fun a hF=>?_
   refine aE hF rfl rfl rfl c2 rfl rfl fun a hF=>?_
   refine aE hF rfl rfl rfl c2 rfl rfl fun a hF=>?_
   refine aE hF rfl rfl rfl c2 rfl rfl fun a hF=>?_
   refine aE hF rfl rfl rfl c2 rfl rfl fun a hF=>?_
   refine aE hF rfl rfl rfl c2 rfl rfl fun a hF=>?_
   refine aE hF rfl rfl rfl c2 rfl rfl fun a hF=>?_
   refine aE hF rfl rfl rfl c2 rfl rfl fun a hF=>?_
   refine aE hF rfl rfl rfl c2 rfl rfl fun a hF=>?_
   refine aA hF (aP hF rfl rfl c2 rfl) rfl rfl rfl fun a hF=>?_
   refine aJ (aB ?_)
   have hP:=oI hP
   subst hP
   exact ⟨true,rfl,hF.to ⟨rfl,rfl,rfl,trivial⟩,hM⟩
  have hP:=Fx.cF c2 hP
  refine aL hF rfl rfl rfl c2 (aF hF rfl rfl) rfl rfl fun a hF=>?_
  refine aL hF rfl rfl rfl c2 (aC (off':=5) qU60 rfl in58 rfl hF rfl rfl rfl) rfl rfl fun a hF=>?_
  refine aL hF rfl rfl rfl c2 (aI qA58 hF rfl rfl (hM.cell (i:=0) rfl (RMark.g_pieces _))) rfl rfl fun a hF=>?_
  refine aL hF rfl rfl rfl c2 (cQ (LRm.toIn f7 _ (hsub _ (dropM hM 1))) q8.len qU58 hF rfl rfl) rfl rfl fun a hF=>?_
  refine aL hF rfl rfl rfl c2 (bX hF rfl rfl rfl) rfl rfl fun a hF=>?_
  obtain ⟨l4,g5,hP⟩:=bind_some hP
  have i6:=aM g5
  obtain ⟨l9,j6,k0⟩:=Each.getr (mN q8) i6.2
  have j2:=Each.bd (mN q8) (bG g5)
  obtain ⟨n3,n4,rfl,m4,m5⟩:=k0
  refine aL hF rfl rfl rfl c2 (aS (sz:=4) ((LRm.full f7) _ (hsub _ (dropM hM 1))) qU58 in156 rfl hF rfl rfl rfl j2) rfl rfl fun a hF=>?_
  refine aL hF rfl rfl rfl c2 (aC qU156 rfl in3 rfl hF rfl rfl rfl) rfl rfl fun a hF=>?_
  refine aL hF rfl rfl rfl c2 (aI qA3 hF rfl rfl (((((LRm.full f7) _ (hsub _ (dropM hM 1))).elemS j6)).get 1 (RPiece.g_from_ _))) rfl rfl fun a hF=>?_
  refine aL hF rfl rfl rfl c2 (dC hF rfl rfl rfl) rfl rfl fun a hF=>?_
  refine aA hF (aX hF rfl rfl c2 rfl) rfl rfl rfl fun a hF=>?_
  refine aJ (aB ?_)
  have hP:=oI hP
  subst hP
  exact ⟨(!decide (l4.from_ = (-8))),rfl,hF.to ⟨rfl,rfl,rfl,trivial⟩,hM⟩
 rintro d6 a w hP ⟨hF,hM⟩
 replace hP:Sh.nG x0 d6 = _:=hP
 unfold Sh.nG at hP
 refine aB ?_
 refine aV hF (c:=.tmp 121) rfl (fun d1=>?_) (fun d1=>?_)
 ·have hP:=Fx.cT d1 hP
  refine aG ?_
  refine aD ?_
  refine aA hF (aH hF rfl rfl) rfl rfl rfl fun a hF=>?_
  refine aJ (aB ?_)
  refine c_ret ?_
  have hP:=oI hP
  subst hP
  refine bH qR63 hF rfl ?_
  exact ⟨rfl,selM hM [] 1 rfl⟩
 have hP:=Fx.cF d1 hP
 refine aW (aB ?_)
 refine aG ?_
 refine aU hF hM hP (fun F x a w=>match x with | _=>Fr 147 [(4,.bool false)] a ∧ MemL w (Lr)) (fun t1 hP l2 hF hM=>?_) ?_
 ·refine aG ?_
  refine aD ?_
  refine aA hF (aH hF rfl rfl) rfl rfl rfl fun a hF=>?_
  refine aJ (aB ?_)
  refine aT ?_
  refine bU hF hM hP (fun F x a w=>match x with | c9=>Fr 147 [(9,.int .i64 c9),(2,.pointer (some ⟨c8,0,none⟩)),(4,.bool false)] a ∧ MemL w (pt c8 (RMark.enc (mMk x0 s1 s3 s5 s9)) 60 :: Lr)) (fun hF hM=>⟨hF.to ⟨rfl,rfl,rfl,trivial⟩,hM⟩) ?_
  rintro c9 a w t3 hP g8 ⟨hF,hM⟩
  replace hP:Sh.nH x0 c9 = _:=hP
  unfold Sh.nH at hP
  refine aG ?_
  refine aG ?_
  refine aD ?_
  refine aA hF (aF hF rfl rfl) rfl rfl rfl fun a hF=>?_
  refine aA hF (aC (off':=5) qU60 rfl in58 rfl hF rfl rfl rfl) rfl rfl rfl fun a hF=>?_
  refine aA hF (aI qA58 hF rfl rfl (hM.cell (i:=0) rfl (RMark.g_pieces _))) rfl rfl rfl fun a hF=>?_
  refine aA hF (cQ (LRm.toIn f7 _ (hsub _ (dropM hM 1))) q8.len qU58 hF rfl rfl) rfl rfl rfl fun a hF=>?_
  refine aA hF (cI hF rfl rfl rfl) rfl rfl rfl fun a hF=>?_
  refine aJ (aB ?_)
  refine aV hF (c:=.tmp 126) rfl (fun d2=>?_) (fun d2=>?_)
  ·have hP:=Fx.cT d2 hP
   refine aW (aB ?_)
   refine aG ?_
   refine aT ?_
   refine aG ?_
   refine aU hF hM hP (fun F x a w=>match x with | d7=>Fr 147 [(146,.bool d7),(2,.pointer (some ⟨c8,0,none⟩)),(4,.bool false),(9,.int .i64 c9)] a ∧ MemL w (pt c8 (RMark.enc (mMk x0 s1 s3 s5 s9)) 60 :: Lr)) (fun t2 hP n0 hF hM=>?_) ?_
   ·refine aD ?_
    refine aA hF (aC (off':=5) qU60 rfl in58 rfl hF rfl rfl rfl) rfl rfl rfl fun a hF=>?_
    refine aA hF (aI qA58 hF rfl rfl (hM.cell (i:=0) rfl (RMark.g_pieces _))) rfl rfl rfl fun a hF=>?_
    refine aA hF (aF hF rfl rfl) rfl rfl rfl fun a hF=>?_
    obtain ⟨p5,g6,hP⟩:=bind_some hP
    have i7:=aM g6
    obtain ⟨m0,j7,k1⟩:=Each.getr q8 i7.2
    have j3:=Each.bd q8 (bG g6)
    obtain ⟨n5,n6,rfl,l0,m6⟩:=k1
    refine aA hF (aS (sz:=4) (LRm.toIn f7 _ (hsub _ (dropM hM 1))) qU58 in156 rfl hF rfl rfl rfl j3) rfl rfl rfl fun a hF=>?_
    refine aA hF (aC qU156 rfl in23 rfl hF rfl rfl rfl) rfl rfl rfl fun a hF=>?_
    refine aA hF (aI qA23 hF rfl rfl ((((LRm.toIn f7 _ (hsub _ (dropM hM 1))).elemS j7)).get 2 (RPiece.g_old _))) rfl rfl rfl fun a hF=>?_
    obtain ⟨p8,k8,hP⟩:=bind_some hP
    refine aO hF rfl rfl rfl (aN (xs:=[.tmp 134]) Tryz.call93 hF rfl rfl (jP k8 hM (Bf:=Bf) (fun w hM=>hsub _ (dropM hM 1)) l0) fun v w hR=>?_)
    obtain ⟨rfl,hM⟩:=hR
    replace hM:MemL _ (pt c8 (RMark.enc (mMk x0 s1 s3 s5 s9)) 60 :: Lr):=hM
    intro a hF
    refine aA hF (dE hF rfl rfl) rfl rfl rfl fun a hF=>?_
    refine aA hF (aF hF rfl rfl) rfl rfl rfl fun a hF=>?_
    refine bE 137 hF rfl (fun c7=>?_) (fun c7=>?_)
    ·have hP:=Fx.cT c7 hP
     refine aE hF rfl rfl rfl c7 rfl rfl fun a hF=>?_
     refine aE hF rfl rfl rfl c7 rfl rfl fun a hF=>?_
     refine aE hF rfl rfl rfl c7 rfl rfl fun a hF=>?_
     refine aE hF rfl rfl rfl c7 rfl rfl fun a hF=>?_
     refine aE hF rfl rfl rfl c7 rfl rfl fun a hF=>?_
     refine aE hF rfl rfl rfl c7 rfl rfl fun a hF=>?_
     refine aE hF rfl rfl rfl c7 rfl rfl fun a hF=>?_
     refine aE hF rfl rfl rfl c7 rfl rfl fun a hF=>?_
     refine aA hF (aP hF rfl rfl c7 rfl) rfl rfl rfl fun a hF=>?_
     refine aJ (aB ?_)
     have hP:=oI hP
     subst hP
     exact ⟨true,rfl,hF.to ⟨rfl,rfl,rfl,rfl,trivial⟩,hM⟩
    have hP:=Fx.cF c7 hP
    refine aL hF rfl rfl rfl c7 (aC (off':=5) qU60 rfl in58 rfl hF rfl rfl rfl) rfl rfl fun a hF=>?_
    refine aL hF rfl rfl rfl c7 (aI qA58 hF rfl rfl (hM.cell (i:=0) rfl (RMark.g_pieces _))) rfl rfl fun a hF=>?_
    refine aL hF rfl rfl rfl c7 (aF hF rfl rfl) rfl rfl fun a hF=>?_
    obtain ⟨p6,g7,hP⟩:=bind_some hP
    have i8:=aM g7
    obtain ⟨m1,j8,k2⟩:=Each.getr q8 i8.2
    have j4:=Each.bd q8 (bG g7)
    obtain ⟨n7,n8,rfl,m7,l1⟩:=k2
    refine aL hF rfl rfl rfl c7 (aS (sz:=4) (LRm.toIn f7 _ (hsub _ (dropM hM 1))) qU58 in156 rfl hF rfl rfl rfl j4) rfl rfl fun a hF=>?_
    refine aL hF rfl rfl rfl c7 (aC qU156 rfl in23 rfl hF rfl rfl rfl) rfl rfl fun a hF=>?_
    refine aL hF rfl rfl rfl c7 (aI qA23 hF rfl rfl ((((LRm.toIn f7 _ (hsub _ (dropM hM 1))).elemS j8)).get 3 (RPiece.g_new _))) rfl rfl fun a hF=>?_
    obtain ⟨l5,k9,hP⟩:=bind_some hP
    refine dV hF rfl rfl rfl c7 rfl rfl (aN (xs:=[.tmp 143]) Tryz.call93 hF rfl rfl (jP k9 hM (Bf:=Bf) (fun w hM=>hsub _ (dropM hM 1)) l1) fun v w hR=>?_)
    obtain ⟨rfl,hM⟩:=hR
    replace hM:MemL _ (pt c8 (RMark.enc (mMk x0 s1 s3 s5 s9)) 60 :: Lr):=hM
    intro a hF
    refine aL hF rfl rfl rfl c7 (dE hF rfl rfl) rfl rfl fun a hF=>?_
    refine aA hF (aX hF rfl rfl c7 rfl) rfl rfl rfl fun a hF=>?_
    refine aJ (aB ?_)
    have hP:=oI hP
    subst hP
    exact ⟨(!l5),rfl,hF.to ⟨rfl,rfl,rfl,rfl,trivial⟩,hM⟩
   rintro d7 a w hP ⟨hF,hM⟩
   replace hP:Sh.pP c9 d7 = _:=hP
   unfold Sh.pP at hP
   refine aB ?_
   refine aV hF (c:=.tmp 146) rfl (fun d3=>?_) (fun d3=>?_)
   ·have hP:=Fx.cT d3 hP
    refine aG ?_
    refine aD ?_
    refine aA hF (aH hF rfl rfl) rfl rfl rfl fun a hF=>?_
    refine aJ (aB ?_)
    refine c_ret ?_
    have hP:=oI hP
    subst hP
    have hP:=g8 _ rfl
    subst hP
    have hP:=dB l2
    subst hP
    refine bH qR63 hF rfl ?_
    exact ⟨rfl,selM hM [] 1 rfl⟩
   have hP:=Fx.cF d3 hP
   refine aW (bK (aB ?_))
   refine aD ?_
   refine aA hF (aF hF rfl rfl) rfl rfl rfl fun a hF=>?_
   refine aA hF (bX hF rfl rfl rfl) rfl rfl rfl fun a hF=>?_
   refine aA hF (aH hF rfl rfl) rfl rfl rfl fun a hF=>?_
   refine aJ (aB ?_)
   have hP:=oI hP
   subst hP
   exact ⟨(IntKind.i64.wrap (c9 + 1)),rfl,hF.to ⟨rfl,rfl,rfl,trivial⟩,hM⟩
  have hP:=Fx.cF d2 hP
  refine bY (bD (bD (cJ ?_)))
  refine aB ?_
  have hP:=oI hP
  subst hP
  have hP:=g8 _ rfl
  subst hP
  exact ⟨(),rfl,hF.to ⟨rfl,trivial⟩,selM hM [] 1 rfl⟩
 rintro ⟨⟩ a w hP ⟨hF,hM⟩
 replace hP:Sh.sX = _:=hP
 unfold Sh.sX at hP
 refine aB ?_
 refine aG ?_
 refine aD ?_
 refine aA hF (aH hF rfl rfl) rfl rfl rfl fun a hF=>?_
 refine aJ (aB ?_)
 refine c_ret ?_
 have hP:=oI hP
 subst hP
 refine bH qR63 hF rfl ?_
 exact ⟨rfl,hM⟩
end Go.Proofs
end
section
namespace Go.Proofs
open Go.Fw Go.Fx
set_option maxRecDepth 10000
set_option maxHeartbeats 4000000 in
theorem qC {x0:List (List UInt8)} {s1:SV} {hs2:List SV} {out:List (List UInt8)} {w0:World} {Bf:World → Prop} {Lr:List Res} (hP:Sh.qK x0 = some out) (hM:MemL w0 (Lr)) (hsub:∀ w,MemL w Lr → Bf w) (f3:LIn Bf s1 hs2) (q4:Each (LIn (X:=UInt8) Bf) hs2 x0):Calls Tryz.prog 72 #[(s1).v] w0 (Ret fun v w'=>∃ (g2:SV) (c5:List SV),v = (g2).v ∧ Each (LIn (X:=UInt8) (packR c5 out).holds') c5 out ∧ MemL w' (rowL 0 g2 23 c5 :: (packR c5 out) :: Lr)):=by
 unfold Sh.qK at hP
 refine aR (vs:=[(s1).v]) Tryz.func72 rfl Tryz.ntmps72 rfl fun a hF=>?_
 refine aG ?_
 refine aD ?_
 refine aA hF (aH hF rfl rfl) rfl rfl rfl fun a hF=>?_
 refine aJ (aB ?_)
 refine aG ?_
 refine aD ?_
 refine aA hF (aH hF rfl rfl) rfl rfl rfl fun a hF=>?_
 refine aJ (aB ?_)
 refine aG ?_
 refine aU hF hM hP (fun F x a w=>match x with | c7=>∃ (d0:SV) (c3:List SV),Each (LIn (X:=UInt8) (packR c3 c7).holds') c3 c7 ∧ Fr 20 [(3,(d0).v),(2,(SV.nil).v)] a ∧ MemL w (rowL 0 d0 23 c3 :: (packR c3 c7) :: Lr)) (fun i2 hP i0 hF hM=>?_) ?_
 ·refine aG ?_
  refine aD ?_
  refine aA hF (aH hF rfl rfl) rfl rfl rfl fun a hF=>?_
  refine aJ (aB ?_)
  refine aT ?_
  have g8:Each (LIn (X:=UInt8) (packR [] []).holds') ([]:List SV) ([]:List (List UInt8)):=Each.nil
  have hM:=tQ hM
  have hM:=hM.rowNil (X:=SV) 0 23
  refine bU hF hM hP (fun F x a w=>match x with | (c2,d1)=>∃ (c6:SV) (c0:List SV),Each (LIn (X:=UInt8) (packR c0 c2).holds') c0 c2 ∧ Fr 20 [(3,(c6).v),(4,.int .i64 d1),(0,(s1).v),(2,(SV.nil).v)] a ∧ MemL w (rowL 0 c6 23 c0 :: (packR c0 c2) :: Lr)) (fun hF hM=>⟨SV.nil,[],g8,hF.to ⟨rfl,rfl,rfl,rfl,trivial⟩,hM⟩) ?_
  rintro ⟨c2,d1⟩ a w i3 hP g4 ⟨c6,c0,d4,hF,hM⟩
  replace hP:Sh.kU x0 c2 d1 = _:=hP
  unfold Sh.kU at hP
  refine aG ?_
  refine aG ?_
  refine aD ?_
  refine aA hF (aF hF rfl rfl) rfl rfl rfl fun a hF=>?_
  refine aA hF (aF hF rfl rfl) rfl rfl rfl fun a hF=>?_
  refine aA hF (cQ (f3 _ (hsub _ (dropM hM 2))) q4.len qU28 hF rfl rfl) rfl rfl rfl fun a hF=>?_
  refine aA hF (cI hF rfl rfl rfl) rfl rfl rfl fun a hF=>?_
  refine aJ (aB ?_)
  refine aV hF (c:=.tmp 8) rfl (fun c8=>?_) (fun c8=>?_)
  ·have hP:=Fx.cT c8 hP
   refine aW (aB ?_)
   refine aG ?_
   refine aT ?_
   refine aD ?_
   refine aA hF (aF hF rfl rfl) rfl rfl rfl fun a hF=>?_
   refine aA hF (aF hF rfl rfl) rfl rfl rfl fun a hF=>?_
   refine aA hF (aF hF rfl rfl) rfl rfl rfl fun a hF=>?_
   obtain ⟨i4,d6,hP⟩:=bind_some hP
   have d7:=aM d6
   obtain ⟨i1,g0,g1⟩:=Each.getr q4 d7.2
   have d9:=Each.bd q4 (bG d6)
   refine aA hF (aS (sz:=1) (f3 _ (hsub _ (dropM hM 2))) qU28 in23 rfl hF rfl rfl rfl d9) rfl rfl rfl fun a hF=>?_
   refine aA hF (aI qA23 hF rfl rfl ((((f3 _ (hsub _ (dropM hM 2))).elemS g0)).get 0 rfl)) rfl rfl rfl fun a hF=>?_
   obtain ⟨g3,g5,hP⟩:=bind_some hP
   refine aO hF rfl rfl rfl (aN (xs:=[.tmp 15]) Tryz.call50 hF rfl rfl (eB g5 hM (Bf:=Bf) (fun w hM=>hsub _ (dropM hM 2)) g1) fun v w hR=>?_)
   obtain ⟨c1,rfl,hM⟩:=hR
   intro a hF
   refine aO hF rfl rfl rfl (cL (X:=SV) (y:=c1) qU28 in23 rfl rfl rfl rfl hF rfl rfl rfl fun c4 w g6 d3=>?_)
   have hM:=hM.plus d3
   replace hM:MemL _ (pt c4 (encs ([c1]:List SV)) 23 :: rowL 0 c1 5 g3 :: rowL 0 c6 23 c0 :: (packR c0 c2) :: Lr):=hM
   intro a hF
   obtain ⟨d2,c9,hP⟩:=bind_some hP
   refine aO hF rfl rfl rfl (fG (X:=SV) c9 d4.len rfl qU28 in23 rfl rfl rfl rfl hF rfl rfl rfl (hM.own (X:=SV) (i:=2) rfl) (hM.ptS (X:=SV) (i:=0) (n:=1) (c:=1) rfl rfl rfl (Nat.le_refl _)) fun d5 w d8=>?_)
   have hM:=hM.chg d8 (i:=2) rfl
   replace hM:MemL _ (pt c4 (encs ([c1]:List SV)) 23 :: rowL 0 c1 5 g3 :: rowL 0 d5 23 (c0 ++ [c1]) :: (packR c0 c2) :: Lr):=hM
   have hM:=rA (selM hM [3,1,0,2] 4 rfl) (dL c9).2
   have g9:Each (LIn (X:=UInt8) (packR (c0 ++ [c1]) d2).holds') (c0 ++ [c1]) d2:=lT (by rw [(dL c9).2]; simp [d4.len])
   replace hM:MemL _ ((packR (c0 ++ [c1]) d2) :: pt c4 (encs ([c1]:List SV)) 23 :: rowL 0 d5 23 (c0 ++ [c1]) :: Lr):=hM
   intro a hF
   refine aA hF (aH hF rfl rfl) rfl rfl rfl fun a hF=>?_
   refine aJ (bK (aB ?_))
   refine aD ?_
   refine aA hF (aF hF rfl rfl) rfl rfl rfl fun a hF=>?_
   refine aA hF (bX hF rfl rfl rfl) rfl rfl rfl fun a hF=>?_
   refine aA hF (aH hF rfl rfl) rfl rfl rfl fun a hF=>?_
   refine aJ (aB ?_)
   have hP:=oI hP
   subst hP
   exact ⟨(d2,(IntKind.i64.wrap (d1 + 1))),rfl,d5,(c0 ++ [c1]),g9,hF.to ⟨rfl,rfl,rfl,rfl,trivial⟩,selM hM [2,0] 3 rfl⟩
  have hP:=Fx.cF c8 hP
  refine bY (bD (bD (cJ ?_)))
  refine aB ?_
  have hP:=oI hP
  subst hP
  have hP:=g4 _ rfl
  subst hP
  exact ⟨c2,rfl,c6,c0,d4,hF.to ⟨rfl,rfl,trivial⟩,hM⟩
 rintro c7 a w hP ⟨d0,c3,g7,hF,hM⟩
 replace hP:Sh.sN c7 = _:=hP
 unfold Sh.sN at hP
 refine aB ?_
 refine aG ?_
 refine aD ?_
 refine aA hF (aF hF rfl rfl) rfl rfl rfl fun a hF=>?_
 refine aA hF (aH hF rfl rfl) rfl rfl rfl fun a hF=>?_
 refine aJ (aB ?_)
 refine c_ret ?_
 have hP:=oI hP
 subst hP
 refine bH Tryz.results72 hF rfl ?_
 exact ⟨d0,c3,rfl,g7,hM⟩
set_option maxHeartbeats 4000000 in
theorem eZ {x0:QState} {s1:SV} {s3:SV} {hs4:List SV} {s7:SV} {out:QState} {w0:World} {Bf:World → Prop} {Lr:List Res} (hP:Sh.pB x0 = some out) (hM:MemL w0 (Lr)) (hsub:∀ w,MemL w Lr → Bf w) (f2:LIn Bf s1 x0.ctx) (f5:LIn Bf s3 hs4) (q6:Each (LIn (X:=UInt8) Bf) hs4 x0.tables) (f8:LIn Bf s7 x0.sent):Calls Tryz.prog 30 #[.agg (RState.enc (mSt x0 s1 s3 s7)).toArray] w0 (Ret fun v w'=>∃ (s27:SV) (s29:SV) (hs30:List SV) (s33:SV),v = .agg (RState.enc (mSt out s27 s29 s33)).toArray ∧ Each (LIn (X:=UInt8) (packR hs30 out.tables).holds') hs30 out.tables ∧ MemL w' (rowL 0 s27 5 out.ctx :: rowL 0 s29 23 hs30 :: (packR hs30 out.tables) :: rowL 0 s33 3 out.sent :: Lr)):=by
 unfold Sh.pB at hP
 refine aR (vs:=[.agg (RState.enc (mSt x0 s1 s3 s7)).toArray]) Tryz.func30 rfl Tryz.ntmps30 rfl fun a hF=>?_
 refine aG ?_
 refine aD ?_
 refine aO hF rfl rfl rfl (dA hF rfl rfl rfl fun c0 w c4 c2=>?_)
 have hM:=hM.plus c2
 intro a hF
 refine aO hF rfl rfl rfl (bO z54 (zs:=RState.zero.enc) rfl rfl fun c1 w c5 c3=>?_)
 have hM:=hM.plus c3
 replace hM:MemL _ (pt c1 (RState.enc zSt) 54 :: pt c0 (RState.enc (mSt x0 s1 s3 s7)) 54 :: Lr):=hM
 intro a hF
 refine aJ (aB ?_)
 refine aG ?_
 refine aD ?_
 refine aA hF (aC (off':=460) qU54 rfl in23 rfl hF rfl rfl rfl) rfl rfl rfl fun a hF=>?_
 refine aA hF (aI qA23 hF rfl rfl (hM.cell (i:=1) rfl (RState.g_ctx _))) rfl rfl rfl fun a hF=>?_
 obtain ⟨y36,hy36,hP⟩:=bind_some hP
 refine aO hF rfl rfl rfl (aN (xs:=[.tmp 4]) Tryz.call50 hF rfl rfl (eB hy36 hM (Bf:=Bf) (fun w hM=>hsub _ (dropM hM 2)) f2) fun v w hR=>?_)
 obtain ⟨s37,rfl,hM⟩:=hR
 replace hM:MemL _ (rowL 0 s37 5 y36 :: pt c1 (RState.enc zSt) 54 :: pt c0 (RState.enc (mSt x0 s1 s3 s7)) 54 :: Lr):=hM
 intro a hF
 refine aA hF (aC (off':=460) qU54 rfl in23 rfl hF rfl rfl rfl) rfl rfl rfl fun a hF=>?_
 refine bI rfl rfl (bS qS23 (hM.obj (i:=2) rfl) hF rfl rfl rfl rfl (by rw [RState.len]; decide) (RState.s_ctx _ _) fun w hU39=>?_)
 have hM:=hM.chg hU39 (i:=2) rfl
 replace hM:MemL _ (rowL 0 s37 5 y36 :: pt c1 (RState.enc zSt) 54 :: pt c0 (RState.enc (mSt x0 s37 s3 s7)) 54 :: Lr):=hM
 refine aJ (aB ?_)
 refine aG ?_
 refine aD ?_
 refine aA hF (aC (off':=461) qU54 rfl in28 rfl hF rfl rfl rfl) rfl rfl rfl fun a hF=>?_
 refine aA hF (aI qA28 hF rfl rfl (hM.cell (i:=2) rfl (RState.g_tables _))) rfl rfl rfl fun a hF=>?_
 obtain ⟨y41,hy41,hP⟩:=bind_some hP
 refine aO hF rfl rfl rfl (aN (xs:=[.tmp 8]) Tryz.call72 hF rfl rfl (qC hy41 hM (Bf:=Bf) (fun w hM=>hsub _ (dropM hM 3)) f5 q6) fun v w hR=>?_)
 obtain ⟨s42,hs43,rfl,q45,hM⟩:=hR
 replace hM:MemL _ (rowL 0 s42 23 hs43 :: (packR hs43 y41) :: rowL 0 s37 5 y36 :: pt c1 (RState.enc zSt) 54 :: pt c0 (RState.enc (mSt x0 s37 s3 s7)) 54 :: Lr):=hM
 intro a hF
 refine aA hF (aC (off':=461) qU54 rfl in28 rfl hF rfl rfl rfl) rfl rfl rfl fun a hF=>?_
 refine bI rfl rfl (bS qS28 (hM.obj (i:=4) rfl) hF rfl rfl rfl rfl (by rw [RState.len]; decide) (RState.s_tables _ _) fun w hU46=>?_)
 have hM:=hM.chg hU46 (i:=4) rfl
 replace hM:MemL _ (rowL 0 s42 23 hs43 :: (packR hs43 y41) :: rowL 0 s37 5 y36 :: pt c1 (RState.enc zSt) 54 :: pt c0 (RState.enc (mSt x0 s37 s42 s7)) 54 :: Lr):=hM
 refine aJ (aB ?_)
 refine aG ?_
 refine aD ?_
 refine aA hF (aC (off':=462) qU54 rfl in52 rfl hF rfl rfl rfl) rfl rfl rfl fun a hF=>?_
 refine aA hF (aI qA52 hF rfl rfl (hM.cell (i:=4) rfl (RState.g_sent _))) rfl rfl rfl fun a hF=>?_
 obtain ⟨y48,hy48,hP⟩:=bind_some hP
 refine aO hF rfl rfl rfl (aN (xs:=[.tmp 12]) Tryz.call81 hF rfl rfl (fI hy48 hM (Bf:=Bf) (fun w hM=>hsub _ (dropM hM 5)) f8) fun v w hR=>?_)
 obtain ⟨s49,rfl,hM⟩:=hR
 replace hM:MemL _ (rowL 0 s49 3 y48 :: rowL 0 s42 23 hs43 :: (packR hs43 y41) :: rowL 0 s37 5 y36 :: pt c1 (RState.enc zSt) 54 :: pt c0 (RState.enc (mSt x0 s37 s42 s7)) 54 :: Lr):=hM
 intro a hF
 refine aA hF (aC (off':=462) qU54 rfl in52 rfl hF rfl rfl rfl) rfl rfl rfl fun a hF=>?_
 refine bI rfl rfl (bS qS52 (hM.obj (i:=5) rfl) hF rfl rfl rfl rfl (by rw [RState.len]; decide) (RState.s_sent _ _) fun w hU51=>?_)
 have hM:=hM.chg hU51 (i:=5) rfl
 replace hM:MemL _ (rowL 0 s49 3 y48 :: rowL 0 s42 23 hs43 :: (packR hs43 y41) :: rowL 0 s37 5 y36 :: pt c1 (RState.enc zSt) 54 :: pt c0 (RState.enc (mSt x0 s37 s42 s49)) 54 :: Lr):=hM
 refine aJ (aB ?_)
 refine aG ?_
 refine aD ?_
 refine aA hF (aQ qA54 qS54 hF rfl rfl (RState.len _) (hM.cells (i:=5) rfl (bA (RState.len _)))) rfl rfl rfl fun a hF=>?_
 refine bI rfl rfl (aY (vs:=_) qS54 (hM.obj (i:=4) rfl) hF rfl rfl rfl rfl (RState.len _) (RState.one _) (by first | (rw [RState.len,RState.len]; decide) | (rw [RState.len]; decide)) (bF ((RState.len _).trans (RState.len _).symm)) fun w hU52=>?_)
 have hM:=hM.chg hU52 (i:=4) rfl
 replace hM:MemL _ (rowL 0 s49 3 y48 :: rowL 0 s42 23 hs43 :: (packR hs43 y41) :: rowL 0 s37 5 y36 :: pt c1 (RState.enc (mSt x0 s37 s42 s49)) 54 :: pt c0 (RState.enc (mSt x0 s37 s42 s49)) 54 :: Lr):=hM
 refine aJ (aB ?_)
 refine c_ret ?_
 have hP:=oI hP
 subst hP
 refine dO (rs:=[.cell 2 54]) Tryz.results30 hF (cG hF rfl qA54 qS54 (RState.len _) (hM.cells (i:=4) rfl (bA (RState.len _))) cP) rfl ?_
 exact ⟨s37,s42,hs43,s49,rfl,q45,selM hM [3,1,2,0] 6 rfl⟩
set_option maxHeartbeats 4000000 in
theorem qD {x0:QRecord} {SP:SRes} {s1:SV} {s3:SV} {hs4:List SV} {s7:SV} {hs8:List RMark} {out:Unit} {w0:World} {Lr:List Res} (hP:Sh.nY x0 = some out) (hM:MemL w0 (SP.r :: Lr)) (f2:LIn SP.r.holds' s1 x0.in_.ctx) (f5:LIn SP.r.holds' s3 hs4) (q6:Each (LIn (X:=UInt8) SP.r.holds') hs4 x0.in_.tables) (f9:LIn SP.r.holds' s7 hs8) (q10:Each (QMarkIn SP.r.holds') hs8 x0.marks):Calls Tryz.prog 58 #[.agg (RRecord.enc (mRc x0 s1 s3 s7)).toArray] w0 (Ret fun v w'=>v = .tuple #[] ∧ MemL w' (Lr)):=by
 unfold Sh.nY at hP
 refine aR (vs:=[.agg (RRecord.enc (mRc x0 s1 s3 s7)).toArray]) Tryz.func58 rfl Tryz.ntmps58 rfl fun a hF=>?_
 have h0:=hM.hold 0 _ rfl
 have hM:=aE6 hM
 refine aG ?_
 refine aD ?_
 refine aO hF rfl rfl rfl (dA hF rfl rfl rfl fun c0 w c70 c29=>?_)
 have hM:=hM.plus c29
 replace hM:MemL _ (pt c0 (RRecord.enc (mRc x0 s1 s3 s7)) 36 :: (spR SP w0) :: Lr):=hM
 intro a hF
 refine aJ (aB ?_)
 refine aG ?_
 refine aU hF hM hP (fun F x a w=>match x with | _=>Fr 220 [(1,.pointer (some ⟨c0,0,none⟩))] a ∧ MemL w (pt c0 (RRecord.enc (mRc x0 s1 s3 s7)) 36 :: (spR SP w0) :: Lr)) (fun d68 hP d52 hF hM=>?_) ?_
 ·refine aG ?_
  refine aD ?_
  refine aA hF (aH hF rfl rfl) rfl rfl rfl fun a hF=>?_
  refine aJ (aB ?_)
  refine aT ?_
  refine bU hF hM hP (fun F x a w=>match x with | d7=>Fr 220 [(2,.int .i64 d7),(1,.pointer (some ⟨c0,0,none⟩))] a ∧ MemL w (pt c0 (RRecord.enc (mRc x0 s1 s3 s7)) 36 :: (spR SP w0) :: Lr)) (fun hF hM=>⟨hF.to ⟨rfl,rfl,trivial⟩,hM⟩) ?_
  rintro d7 a w d73 hP c37 ⟨hF,hM⟩
  replace hP:Sh.kW x0 d7 = _:=hP
  unfold Sh.kW at hP
  refine aG ?_
  refine aG ?_
  refine aD ?_
  refine aA hF (aF hF rfl rfl) rfl rfl rfl fun a hF=>?_
  refine aA hF (aC (off':=0) qU36 rfl in30 rfl hF rfl rfl rfl) rfl rfl rfl fun a hF=>?_
  refine aA hF (aC (off':=0) qU30 rfl in23 rfl hF rfl rfl rfl) rfl rfl rfl fun a hF=>?_
  refine aA hF (aI qA23 hF rfl rfl ((hM.cells (i:=0) rfl (RRecord.c_in_ _)).get 0 (RInput.g_ctx _))) rfl rfl rfl fun a hF=>?_
  refine aA hF (bM (f2 _ h0) qU23 hF rfl rfl) rfl rfl rfl fun a hF=>?_
  refine aA hF (cI hF rfl rfl rfl) rfl rfl rfl fun a hF=>?_
  refine aJ (aB ?_)
  refine aV hF (c:=.tmp 18) rfl (fun g4=>?_) (fun g4=>?_)
  ·have hP:=Fx.cT g4 hP
   refine aW (aB ?_)
   refine aG ?_
   refine aT ?_
   refine bL mixed (by kernel_rfl) hM [0,1] 2 rfl fun hch=>?_
   refine aK hF hch 0 rfl (by kernel_rfl) rfl rfl rfl (fun w hM=>(aC (off':=0) qU36 rfl in30 rfl hF rfl rfl rfl)) fun a hF=>?_
   refine aK hF hch 1 rfl (by kernel_rfl) rfl rfl rfl (fun w hM=>(aC (off':=0) qU30 rfl in23 rfl hF rfl rfl rfl)) fun a hF=>?_
   refine aK hF hch 2 rfl (by kernel_rfl) rfl rfl rfl (fun w hM=>(aI qA23 hF rfl rfl ((hM.cells (i:=0) rfl (RRecord.c_in_ _)).get 0 (RInput.g_ctx _)))) fun a hF=>?_
   refine aK hF hch 3 rfl (by kernel_rfl) rfl rfl rfl (fun w hM=>(aF hF rfl rfl)) fun a hF=>?_
   refine aK hF hch 4 rfl (by kernel_rfl) rfl rfl rfl (fun w hM=>(aC (off':=0) qU36 rfl in30 rfl hF rfl rfl rfl)) fun a hF=>?_
   refine aK hF hch 5 rfl (by kernel_rfl) rfl rfl rfl (fun w hM=>(aC (off':=0) qU30 rfl in23 rfl hF rfl rfl rfl)) fun a hF=>?_
   refine aK hF hch 6 rfl (by kernel_rfl) rfl rfl rfl (fun w hM=>(aI qA23 hF rfl rfl ((hM.cells (i:=0) rfl (RRecord.c_in_ _)).get 0 (RInput.g_ctx _)))) fun a hF=>?_
   refine aK hF hch 7 rfl (by kernel_rfl) rfl rfl rfl (fun w hM=>(aF hF rfl rfl)) fun a hF=>?_
   obtain ⟨d12,i6,hP⟩:=bind_some hP
   have l8:=aM i6
   refine aK hF hch 8 rfl (by kernel_rfl) rfl rfl rfl (fun w hM=>(aS (sz:=1) (f2 _ h0) qU23 in5 rfl hF rfl rfl rfl (bG i6))) fun a hF=>?_
   refine bC hch 9 (by kernel_rfl) rfl rfl ?_
   refine bV hF 9 rfl rfl rfl rfl rfl fun w hMs hM=>?_
   obtain ⟨c94,c18,c10⟩:=iY (fun w h=>(((f2 w h).elemS l8.2)).get 0 rfl) h0 (hM.hold 1 _ rfl)
   obtain ⟨d39,rfl⟩:=c10.u8
   refine Yd.val (aI qA5 hF rfl rfl (c18)) ?_
   refine ⟨_,_,hMs,hM,.inl fun _ h=>h,fun a hF=>?_⟩
   refine aK hF hch 10 rfl (by kernel_rfl) rfl rfl rfl (fun w hM=>(aEz hF rfl rfl rfl)) fun a hF=>?_
   obtain ⟨d13,i7,hP⟩:=bind_some hP
   have l9:=aM i7
   refine aK hF hch 11 rfl (by kernel_rfl) rfl rfl rfl (fun w hM=>(aS (sz:=1) (f2 _ h0) qU23 in5 rfl hF rfl rfl rfl (bG i7))) fun a hF=>?_
   refine bC hch 12 (by kernel_rfl) rfl rfl ?_
   refine cO 12 rfl rfl rfl rfl fun w hMs hM=>?_
   refine (iK qS5 hM (i:=1) rfl (fun w h=>(((f2 w h).elemS l9.2)).get 0 rfl) h0 (Like.bytes _ _) hF rfl rfl rfl rfl fun w hM=>?_)
   replace hM:MemL _ (pt c0 (RRecord.enc (mRc x0 s1 s3 s7)) 36 :: (spR SP w0) :: Lr):=hM
   have hMs:=selM hM [0,1] 2 rfl
   refine ⟨_,_,hMs,hM,.inl fun _ h=>h,?_⟩
   refine bW hch (by kernel_rfl) fun w hM=>?_
   refine bK (aB ?_)
   refine aD ?_
   refine aA hF (aF hF rfl rfl) rfl rfl rfl fun a hF=>?_
   refine aA hF (bX hF rfl rfl rfl) rfl rfl rfl fun a hF=>?_
   refine aA hF (aH hF rfl rfl) rfl rfl rfl fun a hF=>?_
   refine aJ (aB ?_)
   have hP:=oI hP
   subst hP
   exact ⟨(IntKind.i64.wrap (d7 + 1)),rfl,hF.to ⟨rfl,rfl,trivial⟩,hM⟩
  have hP:=Fx.cF g4 hP
  refine bY (bD (bD (cJ ?_)))
  refine aB ?_
  have hP:=oI hP
  subst hP
  have hP:=c37 _ rfl
  subst hP
  exact ⟨(),rfl,hF.to ⟨rfl,trivial⟩,hM⟩
 rintro ⟨⟩ a w hP ⟨hF,hM⟩
 replace hP:Sh.sS x0 = _:=hP
 unfold Sh.sS at hP
 refine aB ?_
 refine aG ?_
 refine aU hF hM hP (fun F x a w=>match x with | _=>Fr 220 [(1,.pointer (some ⟨c0,0,none⟩))] a ∧ MemL w (pt c0 (RRecord.enc (mRc x0 s1 s3 s7)) 36 :: (spR SP w0) :: Lr)) (fun d69 hP d53 hF hM=>?_) ?_
 ·refine aG ?_
  refine aD ?_
  refine aA hF (aH hF rfl rfl) rfl rfl rfl fun a hF=>?_
  refine aJ (aB ?_)
  refine aT ?_
  refine bU hF hM hP (fun F x a w=>match x with | d3=>Fr 220 [(3,.int .i64 d3),(1,.pointer (some ⟨c0,0,none⟩))] a ∧ MemL w (pt c0 (RRecord.enc (mRc x0 s1 s3 s7)) 36 :: (spR SP w0) :: Lr)) (fun hF hM=>⟨hF.to ⟨rfl,rfl,trivial⟩,hM⟩) ?_
  rintro d3 a w d74 hP c38 ⟨hF,hM⟩
  replace hP:Sh.kX x0 d3 = _:=hP
  unfold Sh.kX at hP
  refine aG ?_
  refine aG ?_
  refine aD ?_
  refine aA hF (aF hF rfl rfl) rfl rfl rfl fun a hF=>?_
  refine aA hF (aC (off':=0) qU36 rfl in30 rfl hF rfl rfl rfl) rfl rfl rfl fun a hF=>?_
  refine aA hF (aC (off':=1) qU30 rfl in28 rfl hF rfl rfl rfl) rfl rfl rfl fun a hF=>?_
  refine aA hF (aI qA28 hF rfl rfl ((hM.cells (i:=0) rfl (RRecord.c_in_ _)).get 1 (RInput.g_tables _))) rfl rfl rfl fun a hF=>?_
  refine aA hF (cQ (f5 _ h0) q6.len qU28 hF rfl rfl) rfl rfl rfl fun a hF=>?_
  refine aA hF (cI hF rfl rfl rfl) rfl rfl rfl fun a hF=>?_
  refine aJ (aB ?_)
  refine aV hF (c:=.tmp 38) rfl (fun g5=>?_) (fun g5=>?_)
  ·have hP:=Fx.cT g5 hP
   refine aW (aB ?_)
   refine aG ?_
   refine aU hF hM hP (fun F x a w=>match x with | _=>Fr 220 [(1,.pointer (some ⟨c0,0,none⟩)),(3,.int .i64 d3)] a ∧ MemL w (pt c0 (RRecord.enc (mRc x0 s1 s3 s7)) 36 :: (spR SP w0) :: Lr)) (fun d70 hP d54 hF hM=>?_) ?_
   ·refine aT ?_
    refine aG ?_
    refine aD ?_
    refine aA hF (aH hF rfl rfl) rfl rfl rfl fun a hF=>?_
    refine aJ (aB ?_)
    refine aT ?_
    refine bU hF hM hP (fun F x a w=>match x with | d8=>Fr 220 [(4,.int .i64 d8),(1,.pointer (some ⟨c0,0,none⟩)),(3,.int .i64 d3)] a ∧ MemL w (pt c0 (RRecord.enc (mRc x0 s1 s3 s7)) 36 :: (spR SP w0) :: Lr)) (fun hF hM=>⟨hF.to ⟨rfl,rfl,rfl,trivial⟩,hM⟩) ?_
    rintro d8 a w d75 hP c39 ⟨hF,hM⟩
    replace hP:Sh.kY x0 d3 d8 = _:=hP
    unfold Sh.kY at hP
    refine aG ?_
    refine aG ?_
    refine aD ?_
    refine aA hF (aF hF rfl rfl) rfl rfl rfl fun a hF=>?_
    refine aA hF (aC (off':=0) qU36 rfl in30 rfl hF rfl rfl rfl) rfl rfl rfl fun a hF=>?_
    refine aA hF (aC (off':=1) qU30 rfl in28 rfl hF rfl rfl rfl) rfl rfl rfl fun a hF=>?_
    refine aA hF (aI qA28 hF rfl rfl ((hM.cells (i:=0) rfl (RRecord.c_in_ _)).get 1 (RInput.g_tables _))) rfl rfl rfl fun a hF=>?_
    refine aA hF (aF hF rfl rfl) rfl rfl rfl fun a hF=>?_
    obtain ⟨d14,i8,hP⟩:=bind_some hP
    have m0:=aM i8
    obtain ⟨c44,t6,u9⟩:=Each.getr q6 m0.2
    have p4:=Each.bd q6 (bG i8)
    refine aA hF (aS (sz:=1) (f5 _ h0) qU28 in23 rfl hF rfl rfl rfl p4) rfl rfl rfl fun a hF=>?_
    refine aA hF (aI qA23 hF rfl rfl (mV (fun w h=>(((f5 w h).elemS t6)).get 0 rfl) h0 (hM.hold 1 _ rfl))) rfl rfl rfl fun a hF=>?_
    refine aA hF (bM (u9 _ h0) qU23 hF rfl rfl) rfl rfl rfl fun a hF=>?_
    refine aA hF (cI hF rfl rfl rfl) rfl rfl rfl fun a hF=>?_
    refine aJ (aB ?_)
    refine aV hF (c:=.tmp 49) rfl (fun g6=>?_) (fun g6=>?_)
    ·have hP:=Fx.cT g6 hP
     refine aW (aB ?_)
     refine aG ?_
     refine aT ?_
     refine bL mixed (by kernel_rfl) hM [0,1] 2 rfl fun hch=>?_
     refine aK hF hch 0 rfl (by kernel_rfl) rfl rfl rfl (fun w hM=>(aC (off':=0) qU36 rfl in30 rfl hF rfl rfl rfl)) fun a hF=>?_
     refine aK hF hch 1 rfl (by kernel_rfl) rfl rfl rfl (fun w hM=>(aC (off':=1) qU30 rfl in28 rfl hF rfl rfl rfl)) fun a hF=>?_
     refine aK hF hch 2 rfl (by kernel_rfl) rfl rfl rfl (fun w hM=>(aI qA28 hF rfl rfl ((hM.cells (i:=0) rfl (RRecord.c_in_ _)).get 1 (RInput.g_tables _)))) fun a hF=>?_
     refine aK hF hch 3 rfl (by kernel_rfl) rfl rfl rfl (fun w hM=>(aF hF rfl rfl)) fun a hF=>?_
     obtain ⟨d15,i9,hP⟩:=bind_some hP
     have m1:=aM i9
     obtain ⟨c45,t7,i4⟩:=Each.getr q6 m1.2
     have p5:=Each.bd q6 (bG i9)
     refine aK hF hch 4 rfl (by kernel_rfl) rfl rfl rfl (fun w hM=>(aS (sz:=1) (f5 _ h0) qU28 in23 rfl hF rfl rfl rfl p5)) fun a hF=>?_
     refine aK hF hch 5 rfl (by kernel_rfl) rfl rfl rfl (fun w hM=>(aI qA23 hF rfl rfl (mV (fun w h=>(((f5 w h).elemS t7)).get 0 rfl) h0 (hM.hold 1 _ rfl)))) fun a hF=>?_
     refine aK hF hch 6 rfl (by kernel_rfl) rfl rfl rfl (fun w hM=>(aF hF rfl rfl)) fun a hF=>?_
     refine aK hF hch 7 rfl (by kernel_rfl) rfl rfl rfl (fun w hM=>(aC (off':=0) qU36 rfl in30 rfl hF rfl rfl rfl)) fun a hF=>?_
     refine aK hF hch 8 rfl (by kernel_rfl) rfl rfl rfl (fun w hM=>(aC (off':=1) qU30 rfl in28 rfl hF rfl rfl rfl)) fun a hF=>?_
     refine aK hF hch 9 rfl (by kernel_rfl) rfl rfl rfl (fun w hM=>(aI qA28 hF rfl rfl ((hM.cells (i:=0) rfl (RRecord.c_in_ _)).get 1 (RInput.g_tables _)))) fun a hF=>?_
     refine aK hF hch 10 rfl (by kernel_rfl) rfl rfl rfl (fun w hM=>(aF hF rfl rfl)) fun a hF=>?_
     obtain ⟨d16,j0,hP⟩:=bind_some hP
     have m2:=aM j0
     obtain ⟨c46,t8,i5⟩:=Each.getr q6 m2.2
     have p6:=Each.bd q6 (bG j0)
     refine aK hF hch 11 rfl (by kernel_rfl) rfl rfl rfl (fun w hM=>(aS (sz:=1) (f5 _ h0) qU28 in23 rfl hF rfl rfl rfl p6)) fun a hF=>?_
     refine aK hF hch 12 rfl (by kernel_rfl) rfl rfl rfl (fun w hM=>(aI qA23 hF rfl rfl (mV (fun w h=>(((f5 w h).elemS t8)).get 0 rfl) h0 (hM.hold 1 _ rfl)))) fun a hF=>?_
     refine aK hF hch 13 rfl (by kernel_rfl) rfl rfl rfl (fun w hM=>(aF hF rfl rfl)) fun a hF=>?_
     obtain ⟨d17,j1,hP⟩:=bind_some hP
     have m3:=aM j1
     refine aK hF hch 14 rfl (by kernel_rfl) rfl rfl rfl (fun w hM=>(aS (sz:=1) (i5 _ h0) qU23 in5 rfl hF rfl rfl rfl (bG j1))) fun a hF=>?_
     refine bC hch 15 (by kernel_rfl) rfl rfl ?_
     refine bV hF 15 rfl rfl rfl rfl rfl fun w hMs hM=>?_
     obtain ⟨c95,c19,c11⟩:=iY (fun w h=>(((i5 w h).elemS m3.2)).get 0 rfl) h0 (hM.hold 1 _ rfl)
     obtain ⟨d40,rfl⟩:=c11.u8
     refine Yd.val (aI qA5 hF rfl rfl (c19)) ?_
     refine ⟨_,_,hMs,hM,.inl fun _ h=>h,fun a hF=>?_⟩
     refine aK hF hch 16 rfl (by kernel_rfl) rfl rfl rfl (fun w hM=>(aEz hF rfl rfl rfl)) fun a hF=>?_
     obtain ⟨d18,j2,hP⟩:=bind_some hP
     have m4:=aM j2
     refine aK hF hch 17 rfl (by kernel_rfl) rfl rfl rfl (fun w hM=>(aS (sz:=1) (i4 _ h0) qU23 in5 rfl hF rfl rfl rfl (bG j2))) fun a hF=>?_
     refine bC hch 18 (by kernel_rfl) rfl rfl ?_
     refine cO 18 rfl rfl rfl rfl fun w hMs hM=>?_
     refine (iK qS5 hM (i:=1) rfl (fun w h=>(((i4 w h).elemS m4.2)).get 0 rfl) h0 (Like.bytes _ _) hF rfl rfl rfl rfl fun w hM=>?_)
     replace hM:MemL _ (pt c0 (RRecord.enc (mRc x0 s1 s3 s7)) 36 :: (spR SP w0) :: Lr):=hM
     have hMs:=selM hM [0,1] 2 rfl
     refine ⟨_,_,hMs,hM,.inl fun _ h=>h,?_⟩
     refine bW hch (by kernel_rfl) fun w hM=>?_
     refine bK (aB ?_)
     refine aD ?_
     refine aA hF (aF hF rfl rfl) rfl rfl rfl fun a hF=>?_
     refine aA hF (bX hF rfl rfl rfl) rfl rfl rfl fun a hF=>?_
     refine aA hF (aH hF rfl rfl) rfl rfl rfl fun a hF=>?_
     refine aJ (aB ?_)
     have hP:=oI hP
     subst hP
     exact ⟨(IntKind.i64.wrap (d8 + 1)),rfl,hF.to ⟨rfl,rfl,rfl,trivial⟩,hM⟩
    have hP:=Fx.cF g6 hP
    refine bY (bD (bD (cJ ?_)))
    refine bK (aB ?_)
    have hP:=oI hP
    subst hP
    have hP:=c39 _ rfl
    subst hP
    exact ⟨(),rfl,hF.to ⟨rfl,rfl,trivial⟩,hM⟩
   rintro ⟨⟩ a w hP ⟨hF,hM⟩
   replace hP:Sh.sU d3 = _:=hP
   unfold Sh.sU at hP
   refine aB ?_
   refine aD ?_
   refine aA hF (aF hF rfl rfl) rfl rfl rfl fun a hF=>?_
   refine aA hF (bX hF rfl rfl rfl) rfl rfl rfl fun a hF=>?_
   refine aA hF (aH hF rfl rfl) rfl rfl rfl fun a hF=>?_
   refine aJ (aB ?_)
   have hP:=oI hP
   subst hP
   exact ⟨(IntKind.i64.wrap (d3 + 1)),rfl,hF.to ⟨rfl,rfl,trivial⟩,hM⟩
  have hP:=Fx.cF g5 hP
  refine bY (bD (bD (cJ ?_)))
  refine aB ?_
  have hP:=oI hP
  subst hP
  have hP:=c38 _ rfl
  subst hP
  exact ⟨(),rfl,hF.to ⟨rfl,trivial⟩,hM⟩
 rintro ⟨⟩ a w hP ⟨hF,hM⟩
 replace hP:Sh.sT x0 = _:=hP
 unfold Sh.sT at hP
 refine aB ?_
 refine aG ?_
 refine aD ?_
 refine aA hF (aH hF rfl rfl) rfl rfl rfl fun a hF=>?_
 refine aJ (aB ?_)
 refine aT ?_
 refine bU hF hM hP (fun F x a w=>match x with | c3=>Fr 220 [(5,.int .i64 c3),(1,.pointer (some ⟨c0,0,none⟩))] a ∧ MemL w (pt c0 (RRecord.enc (mRc x0 s1 s3 s7)) 36 :: (spR SP w0) :: Lr)) (fun hF hM=>⟨hF.to ⟨rfl,rfl,trivial⟩,hM⟩) ?_
 rintro c3 a w d76 hP c40 ⟨hF,hM⟩
 replace hP:Sh.kZ x0 c3 = _:=hP
 unfold Sh.kZ at hP
 refine aG ?_
 refine aG ?_
 refine aD ?_
 refine aA hF (aF hF rfl rfl) rfl rfl rfl fun a hF=>?_
 refine aA hF (aC (off':=2) qU36 rfl in33 rfl hF rfl rfl rfl) rfl rfl rfl fun a hF=>?_
 refine aA hF (aI qA33 hF rfl rfl (hM.cell (i:=0) rfl (RRecord.g_marks _))) rfl rfl rfl fun a hF=>?_
 refine aA hF (cQ (f9 _ h0) q10.len qU33 hF rfl rfl) rfl rfl rfl fun a hF=>?_
 refine aA hF (cI hF rfl rfl rfl) rfl rfl rfl fun a hF=>?_
 refine aJ (aB ?_)
 refine aV hF (c:=.tmp 74) rfl (fun g7=>?_) (fun g7=>?_)
 ·have hP:=Fx.cT g7 hP
  refine aW (aB ?_)
  refine aG ?_
  refine aU hF hM hP (fun F x a w=>match x with | _=>Fr 220 [(1,.pointer (some ⟨c0,0,none⟩)),(5,.int .i64 c3)] a ∧ MemL w (pt c0 (RRecord.enc (mRc x0 s1 s3 s7)) 36 :: (spR SP w0) :: Lr)) (fun d71 hP d55 hF hM=>?_) ?_
  ·refine aT ?_
   refine aG ?_
   refine aD ?_
   refine aA hF (aC (off':=2) qU36 rfl in33 rfl hF rfl rfl rfl) rfl rfl rfl fun a hF=>?_
   refine aA hF (aI qA33 hF rfl rfl (hM.cell (i:=0) rfl (RRecord.g_marks _))) rfl rfl rfl fun a hF=>?_
   refine aA hF (aF hF rfl rfl) rfl rfl rfl fun a hF=>?_
   obtain ⟨c2,j3,hP⟩:=bind_some hP
   have m5:=aM j3
   obtain ⟨c47,t9,z0⟩:=Each.getr q10 m5.2
   have p7:=Each.bd q10 (bG j3)
   obtain ⟨c4,c5,c6,c41,c7,rfl,d4,d5,d0,d1,d6⟩:=z0
   refine aA hF (aS (sz:=7) (f9 _ h0) qU33 in60 rfl hF rfl rfl rfl p7) rfl rfl rfl fun a hF=>?_
   obtain ⟨c8,c9,c26⟩:=aG4 (fun w h=>((f9 w h).elemS t9)) h0 (hM.hold 1 _ rfl)
   refine aA hF (aQ qA60 qS60 hF rfl rfl (RMark.len _) (c26)) rfl rfl rfl fun a hF=>?_
   refine aO hF rfl rfl rfl (bO z60 (zs:=RMark.zero.enc) rfl rfl fun c1 w c71 c30=>?_)
   have hM:=hM.plus c30
   replace hM:MemL _ (pt c1 (RMark.enc zMk) 60 :: pt c0 (RRecord.enc (mRc x0 s1 s3 s7)) 36 :: (spR SP w0) :: Lr):=hM
   intro a hF
   refine bI rfl rfl (aY (vs:=_) qS60 (hM.obj (i:=0) rfl) hF rfl rfl rfl rfl (RMark.len _) (RMark.one _) (by first | (rw [RMark.len,RMark.len]; decide) | (rw [RMark.len]; decide)) (bF ((RMark.len _).trans (RMark.len _).symm)) fun w z9=>?_)
   have hM:=hM.chg z9 (i:=0) rfl
   replace hM:MemL _ (pt c1 (RMark.enc (RMark.mk c8 c9 c2.done c4 c5 c6 c7)) 60 :: pt c0 (RRecord.enc (mRc x0 s1 s3 s7)) 36 :: (spR SP w0) :: Lr):=hM
   refine aJ (aB ?_)
   refine aG ?_
   refine aU hF hM hP (fun F x a w=>match x with | _=>Fr 220 [(1,.pointer (some ⟨c0,0,none⟩)),(5,.int .i64 c3),(6,.pointer (some ⟨c1,0,none⟩))] a ∧ MemL w (pt c1 (RMark.enc (RMark.mk c8 c9 c2.done c4 c5 c6 c7)) 60 :: pt c0 (RRecord.enc (mRc x0 s1 s3 s7)) 36 :: (spR SP w0) :: Lr)) (fun d72 hP d56 hF hM=>?_) ?_
   ·refine aG ?_
    refine aD ?_
    refine aA hF (aH hF rfl rfl) rfl rfl rfl fun a hF=>?_
    refine aJ (aB ?_)
    refine aT ?_
    refine bU hF hM hP (fun F x a w=>match x with | d9=>Fr 220 [(7,.int .i64 d9),(1,.pointer (some ⟨c0,0,none⟩)),(5,.int .i64 c3),(6,.pointer (some ⟨c1,0,none⟩))] a ∧ MemL w (pt c1 (RMark.enc (RMark.mk c8 c9 c2.done c4 c5 c6 c7)) 60 :: pt c0 (RRecord.enc (mRc x0 s1 s3 s7)) 36 :: (spR SP w0) :: Lr)) (fun hF hM=>⟨hF.to ⟨rfl,rfl,rfl,rfl,trivial⟩,hM⟩) ?_
    rintro d9 a w d62 hP c31 ⟨hF,hM⟩
    replace hP:Sh.iV c2 d9 = _:=hP
    unfold Sh.iV at hP
    refine aG ?_
    refine aG ?_
    refine aD ?_
    refine aA hF (aF hF rfl rfl) rfl rfl rfl fun a hF=>?_
    refine aA hF (aC (off':=3) qU60 rfl in56 rfl hF rfl rfl rfl) rfl rfl rfl fun a hF=>?_
    refine aA hF (aI qA56 hF rfl rfl (hM.cell (i:=0) rfl (RMark.g_regs _))) rfl rfl rfl fun a hF=>?_
    refine aA hF (bM (d4 _ h0) qU56 hF rfl rfl) rfl rfl rfl fun a hF=>?_
    refine aA hF (cI hF rfl rfl rfl) rfl rfl rfl fun a hF=>?_
    refine aJ (aB ?_)
    refine aV hF (c:=.tmp 86) rfl (fun g8=>?_) (fun g8=>?_)
    ·have hP:=Fx.cT g8 hP
     refine aW (aB ?_)
     refine aG ?_
     refine aT ?_
     refine bL mixed (by kernel_rfl) hM [0,1,2] 3 rfl fun hch=>?_
     refine aK hF hch 0 rfl (by kernel_rfl) rfl rfl rfl (fun w hM=>(aC (off':=3) qU60 rfl in56 rfl hF rfl rfl rfl)) fun a hF=>?_
     refine aK hF hch 1 rfl (by kernel_rfl) rfl rfl rfl (fun w hM=>(aI qA56 hF rfl rfl (hM.cell (i:=0) rfl (RMark.g_regs _)))) fun a hF=>?_
     refine aK hF hch 2 rfl (by kernel_rfl) rfl rfl rfl (fun w hM=>(aF hF rfl rfl)) fun a hF=>?_
     refine aK hF hch 3 rfl (by kernel_rfl) rfl rfl rfl (fun w hM=>(aC (off':=3) qU60 rfl in56 rfl hF rfl rfl rfl)) fun a hF=>?_
     refine aK hF hch 4 rfl (by kernel_rfl) rfl rfl rfl (fun w hM=>(aI qA56 hF rfl rfl (hM.cell (i:=0) rfl (RMark.g_regs _)))) fun a hF=>?_
     refine aK hF hch 5 rfl (by kernel_rfl) rfl rfl rfl (fun w hM=>(aF hF rfl rfl)) fun a hF=>?_
     obtain ⟨d19,j4,hP⟩:=bind_some hP
     have m6:=aM j4
     refine aK hF hch 6 rfl (by kernel_rfl) rfl rfl rfl (fun w hM=>(aS (sz:=9) (d4 _ h0) qU56 in128 rfl hF rfl rfl rfl (bG j4))) fun a hF=>?_
     refine aK hF hch 7 rfl (by kernel_rfl) rfl rfl rfl (fun w hM=>(aC qU128 rfl in46 rfl hF rfl rfl rfl)) fun a hF=>?_
     refine aK hF hch 8 rfl (by kernel_rfl) rfl rfl rfl (fun w hM=>(aC Tryz.underlying46 rfl in3 rfl hF rfl rfl (Nat.add_assoc _ _ _))) fun a hF=>?_
     refine bC hch 9 (by kernel_rfl) rfl rfl ?_
     refine bV hF 9 rfl rfl rfl rfl rfl fun w hMs hM=>?_
     obtain ⟨c96,c20,c12⟩:=iY (fun w h=>(((((d4 w h).elemS m6.2)).sub 5 4 (LTurn.c_new _))).get 3 (LVal.g_x _)) h0 (hM.hold 2 _ rfl)
     obtain ⟨d41,rfl⟩:=c12.i64
     refine Yd.val (aI qA3 hF rfl rfl (c20)) ?_
     refine ⟨_,_,hMs,hM,.inl fun _ h=>h,fun a hF=>?_⟩
     refine aK hF hch 10 rfl (by kernel_rfl) rfl rfl rfl (fun w hM=>(bX hF rfl rfl rfl)) fun a hF=>?_
     obtain ⟨d20,j5,hP⟩:=bind_some hP
     have m7:=aM j5
     refine aK hF hch 11 rfl (by kernel_rfl) rfl rfl rfl (fun w hM=>(aS (sz:=9) (d4 _ h0) qU56 in128 rfl hF rfl rfl rfl (bG j5))) fun a hF=>?_
     refine aK hF hch 12 rfl (by kernel_rfl) rfl rfl rfl (fun w hM=>(aC qU128 rfl in46 rfl hF rfl rfl rfl)) fun a hF=>?_
     refine aK hF hch 13 rfl (by kernel_rfl) rfl rfl rfl (fun w hM=>(aC Tryz.underlying46 rfl in3 rfl hF rfl rfl (Nat.add_assoc _ _ _))) fun a hF=>?_
     refine bC hch 14 (by kernel_rfl) rfl rfl ?_
     refine cO 14 rfl rfl rfl rfl fun w hMs hM=>?_
     refine (iK qS3 hM (i:=2) rfl (fun w h=>(((((d4 w h).elemS m7.2)).sub 5 4 (LTurn.c_new _))).get 3 (LVal.g_x _)) h0 (Like.ints _ _) hF rfl rfl rfl rfl fun w hM=>?_)
     replace hM:MemL _ (pt c1 (RMark.enc (RMark.mk c8 c9 c2.done c4 c5 c6 c7)) 60 :: pt c0 (RRecord.enc (mRc x0 s1 s3 s7)) 36 :: (spR SP w0) :: Lr):=hM
     have hMs:=selM hM [0,1,2] 3 rfl
     refine ⟨_,_,hMs,hM,.inl fun _ h=>h,?_⟩
     refine bW hch (by kernel_rfl) fun w hM=>?_
     refine bK (aB ?_)
     refine aD ?_
     refine aA hF (aF hF rfl rfl) rfl rfl rfl fun a hF=>?_
     refine aA hF (bX hF rfl rfl rfl) rfl rfl rfl fun a hF=>?_
     refine aA hF (aH hF rfl rfl) rfl rfl rfl fun a hF=>?_
     refine aJ (aB ?_)
     have hP:=oI hP
     subst hP
     exact ⟨(IntKind.i64.wrap (d9 + 1)),rfl,hF.to ⟨rfl,rfl,rfl,rfl,trivial⟩,hM⟩
    have hP:=Fx.cF g8 hP
    refine bY (bD (bD (cJ ?_)))
    refine aB ?_
    have hP:=oI hP
    subst hP
    have hP:=c31 _ rfl
    subst hP
    exact ⟨(),rfl,hF.to ⟨rfl,rfl,rfl,trivial⟩,hM⟩
   rintro ⟨⟩ a w hP ⟨hF,hM⟩
   replace hP:Sh.sW x0 c3 c2 = _:=hP
   unfold Sh.sW at hP
   refine aB ?_
   refine aG ?_
   refine aU hF hM hP (fun F x a w=>match x with | _=>Fr 220 [(1,.pointer (some ⟨c0,0,none⟩)),(5,.int .i64 c3),(6,.pointer (some ⟨c1,0,none⟩))] a ∧ MemL w (pt c1 (RMark.enc (RMark.mk c8 c9 c2.done c4 c5 c6 c7)) 60 :: pt c0 (RRecord.enc (mRc x0 s1 s3 s7)) 36 :: (spR SP w0) :: Lr)) (fun d57 hP d47 hF hM=>?_) ?_
   ·refine aG ?_
    refine aD ?_
    refine aA hF (aH hF rfl rfl) rfl rfl rfl fun a hF=>?_
    refine aJ (aB ?_)
    refine aT ?_
    refine bU hF hM hP (fun F x a w=>match x with | g0=>Fr 220 [(8,.int .i64 g0),(1,.pointer (some ⟨c0,0,none⟩)),(5,.int .i64 c3),(6,.pointer (some ⟨c1,0,none⟩))] a ∧ MemL w (pt c1 (RMark.enc (RMark.mk c8 c9 c2.done c4 c5 c6 c7)) 60 :: pt c0 (RRecord.enc (mRc x0 s1 s3 s7)) 36 :: (spR SP w0) :: Lr)) (fun hF hM=>⟨hF.to ⟨rfl,rfl,rfl,rfl,trivial⟩,hM⟩) ?_
    rintro g0 a w d63 hP c32 ⟨hF,hM⟩
    replace hP:Sh.iW c2 g0 = _:=hP
    unfold Sh.iW at hP
    refine aG ?_
    refine aG ?_
    refine aD ?_
    refine aA hF (aF hF rfl rfl) rfl rfl rfl fun a hF=>?_
    refine aA hF (aC (off':=4) qU60 rfl in57 rfl hF rfl rfl rfl) rfl rfl rfl fun a hF=>?_
    refine aA hF (aI qA57 hF rfl rfl (hM.cell (i:=0) rfl (RMark.g_slots _))) rfl rfl rfl fun a hF=>?_
    refine aA hF (bM (d5 _ h0) qU57 hF rfl rfl) rfl rfl rfl fun a hF=>?_
    refine aA hF (cI hF rfl rfl rfl) rfl rfl rfl fun a hF=>?_
    refine aJ (aB ?_)
    refine aV hF (c:=.tmp 107) rfl (fun g9=>?_) (fun g9=>?_)
    ·have hP:=Fx.cT g9 hP
     refine aW (aB ?_)
     refine aG ?_
     refine aT ?_
     refine bL mixed (by kernel_rfl) hM [0,1,2] 3 rfl fun hch=>?_
     refine aK hF hch 0 rfl (by kernel_rfl) rfl rfl rfl (fun w hM=>(aC (off':=4) qU60 rfl in57 rfl hF rfl rfl rfl)) fun a hF=>?_
     refine aK hF hch 1 rfl (by kernel_rfl) rfl rfl rfl (fun w hM=>(aI qA57 hF rfl rfl (hM.cell (i:=0) rfl (RMark.g_slots _)))) fun a hF=>?_
     refine aK hF hch 2 rfl (by kernel_rfl) rfl rfl rfl (fun w hM=>(aF hF rfl rfl)) fun a hF=>?_
     refine aK hF hch 3 rfl (by kernel_rfl) rfl rfl rfl (fun w hM=>(aC (off':=4) qU60 rfl in57 rfl hF rfl rfl rfl)) fun a hF=>?_
     refine aK hF hch 4 rfl (by kernel_rfl) rfl rfl rfl (fun w hM=>(aI qA57 hF rfl rfl (hM.cell (i:=0) rfl (RMark.g_slots _)))) fun a hF=>?_
     refine aK hF hch 5 rfl (by kernel_rfl) rfl rfl rfl (fun w hM=>(aF hF rfl rfl)) fun a hF=>?_
     obtain ⟨d21,j6,hP⟩:=bind_some hP
     have m8:=aM j6
     refine aK hF hch 6 rfl (by kernel_rfl) rfl rfl rfl (fun w hM=>(aS (sz:=27) (d5 _ h0) qU57 in151 rfl hF rfl rfl rfl (bG j6))) fun a hF=>?_
     refine aK hF hch 7 rfl (by kernel_rfl) rfl rfl rfl (fun w hM=>(aC qU151 rfl in50 rfl hF rfl rfl rfl)) fun a hF=>?_
     refine aK hF hch 8 rfl (by kernel_rfl) rfl rfl rfl (fun w hM=>(aC Tryz.underlying50 rfl in48 rfl hF rfl rfl (Nat.add_assoc _ _ _))) fun a hF=>?_
     obtain ⟨d22,j7,hP⟩:=bind_some hP
     refine aK hF hch 9 rfl (by kernel_rfl) rfl rfl rfl (fun w hM=>(cW (sz:=1) Tryz.underlying48 in5 rfl hF rfl rfl rfl (dH j7))) fun a hF=>?_
     obtain ⟨d23,j8,hP⟩:=bind_some hP
     have m9:=aM j8
     refine aK hF hch 12 rfl (by kernel_rfl) rfl rfl rfl (fun w hM=>(aS (sz:=27) (d5 _ h0) qU57 in151 rfl hF rfl rfl rfl (bG j8))) fun a hF=>?_
     refine aK hF hch 13 rfl (by kernel_rfl) rfl rfl rfl (fun w hM=>(aC qU151 rfl in50 rfl hF rfl rfl rfl)) fun a hF=>?_
     refine aK hF hch 14 rfl (by kernel_rfl) rfl rfl rfl (fun w hM=>(aC Tryz.underlying50 rfl in48 rfl hF rfl rfl (Nat.add_assoc _ _ _))) fun a hF=>?_
     refine bC hch 10 (by kernel_rfl) rfl rfl ?_
     refine bV hF 10 rfl rfl rfl rfl rfl fun w hMs hM=>?_
     obtain ⟨c97,c21,c13⟩:=iY (fun w h=>(((((((d5 w h).elemS m8.2)).sub 14 13 (LCell.c_new _))).sub 4 8 (LSlot.c_bytes _))).get _ (pY (aM j7).2 rfl)) h0 (hM.hold 2 _ rfl)
     obtain ⟨d42,rfl⟩:=c13.u8
     refine Yd.val (aI qA5 hF rfl rfl (c21)) ?_
     refine ⟨_,_,hMs,hM,.inl fun _ h=>h,fun a hF=>?_⟩
     refine aK hF hch 11 rfl (by kernel_rfl) rfl rfl rfl (fun w hM=>(tX hF rfl rfl rfl)) fun a hF=>?_
     obtain ⟨d24,j9,hP⟩:=bind_some hP
     refine aK hF hch 15 rfl (by kernel_rfl) rfl rfl rfl (fun w hM=>(cW (sz:=1) Tryz.underlying48 in5 rfl hF rfl rfl rfl (dH j9))) fun a hF=>?_
     refine bC hch 16 (by kernel_rfl) rfl rfl ?_
     refine cO 16 rfl rfl rfl rfl fun w hMs hM=>?_
     refine (iK qS5 hM (i:=2) rfl (fun w h=>(((((((d5 w h).elemS m9.2)).sub 14 13 (LCell.c_new _))).sub 4 8 (LSlot.c_bytes _))).get _ (pY (aM j9).2 rfl)) h0 (Like.bytes _ _) hF rfl rfl rfl rfl fun w hM=>?_)
     replace hM:MemL _ (pt c1 (RMark.enc (RMark.mk c8 c9 c2.done c4 c5 c6 c7)) 60 :: pt c0 (RRecord.enc (mRc x0 s1 s3 s7)) 36 :: (spR SP w0) :: Lr):=hM
     have hMs:=selM hM [0,1,2] 3 rfl
     refine ⟨_,_,hMs,hM,.inl fun _ h=>h,?_⟩
     refine bW hch (by kernel_rfl) fun w hM=>?_
     refine bK (aB ?_)
     refine aD ?_
     refine aA hF (aF hF rfl rfl) rfl rfl rfl fun a hF=>?_
     refine aA hF (bX hF rfl rfl rfl) rfl rfl rfl fun a hF=>?_
     refine aA hF (aH hF rfl rfl) rfl rfl rfl fun a hF=>?_
     refine aJ (aB ?_)
     have hP:=oI hP
     subst hP
     exact ⟨(IntKind.i64.wrap (g0 + 1)),rfl,hF.to ⟨rfl,rfl,rfl,rfl,trivial⟩,hM⟩
    have hP:=Fx.cF g9 hP
    refine bY (bD (bD (cJ ?_)))
    refine aB ?_
    have hP:=oI hP
    subst hP
    have hP:=c32 _ rfl
    subst hP
    exact ⟨(),rfl,hF.to ⟨rfl,rfl,rfl,trivial⟩,hM⟩
   rintro ⟨⟩ a w hP ⟨hF,hM⟩
   replace hP:Sh.rM x0 c3 c2 = _:=hP
   unfold Sh.rM at hP
   refine aB ?_
   refine aG ?_
   refine aU hF hM hP (fun F x a w=>match x with | _=>Fr 220 [(1,.pointer (some ⟨c0,0,none⟩)),(5,.int .i64 c3),(6,.pointer (some ⟨c1,0,none⟩))] a ∧ MemL w (pt c1 (RMark.enc (RMark.mk c8 c9 c2.done c4 c5 c6 c7)) 60 :: pt c0 (RRecord.enc (mRc x0 s1 s3 s7)) 36 :: (spR SP w0) :: Lr)) (fun d58 hP d48 hF hM=>?_) ?_
   ·refine aG ?_
    refine aD ?_
    refine aA hF (aH hF rfl rfl) rfl rfl rfl fun a hF=>?_
    refine aJ (aB ?_)
    refine aT ?_
    refine bU hF hM hP (fun F x a w=>match x with | d2=>Fr 220 [(9,.int .i64 d2),(1,.pointer (some ⟨c0,0,none⟩)),(5,.int .i64 c3),(6,.pointer (some ⟨c1,0,none⟩))] a ∧ MemL w (pt c1 (RMark.enc (RMark.mk c8 c9 c2.done c4 c5 c6 c7)) 60 :: pt c0 (RRecord.enc (mRc x0 s1 s3 s7)) 36 :: (spR SP w0) :: Lr)) (fun hF hM=>⟨hF.to ⟨rfl,rfl,rfl,rfl,trivial⟩,hM⟩) ?_
    rintro d2 a w d64 hP c33 ⟨hF,hM⟩
    replace hP:Sh.iX c2 d2 = _:=hP
    unfold Sh.iX at hP
    refine aG ?_
    refine aG ?_
    refine aD ?_
    refine aA hF (aF hF rfl rfl) rfl rfl rfl fun a hF=>?_
    refine aA hF (aC (off':=5) qU60 rfl in58 rfl hF rfl rfl rfl) rfl rfl rfl fun a hF=>?_
    refine aA hF (aI qA58 hF rfl rfl (hM.cell (i:=0) rfl (RMark.g_pieces _))) rfl rfl rfl fun a hF=>?_
    refine aA hF (cQ (d0 _ h0) d1.len qU58 hF rfl rfl) rfl rfl rfl fun a hF=>?_
    refine aA hF (cI hF rfl rfl rfl) rfl rfl rfl fun a hF=>?_
    refine aJ (aB ?_)
    refine aV hF (c:=.tmp 130) rfl (fun i0=>?_) (fun i0=>?_)
    ·have hP:=Fx.cT i0 hP
     refine aW (aB ?_)
     refine aG ?_
     refine aU hF hM hP (fun F x a w=>match x with | _=>Fr 220 [(1,.pointer (some ⟨c0,0,none⟩)),(5,.int .i64 c3),(6,.pointer (some ⟨c1,0,none⟩)),(9,.int .i64 d2)] a ∧ MemL w (pt c1 (RMark.enc (RMark.mk c8 c9 c2.done c4 c5 c6 c7)) 60 :: pt c0 (RRecord.enc (mRc x0 s1 s3 s7)) 36 :: (spR SP w0) :: Lr)) (fun d59 hP d49 hF hM=>?_) ?_
     ·refine aT ?_
      refine aG ?_
      refine aU hF hM hP (fun F x a w=>match x with | _=>Fr 220 [(1,.pointer (some ⟨c0,0,none⟩)),(5,.int .i64 c3),(6,.pointer (some ⟨c1,0,none⟩)),(9,.int .i64 d2)] a ∧ MemL w (pt c1 (RMark.enc (RMark.mk c8 c9 c2.done c4 c5 c6 c7)) 60 :: pt c0 (RRecord.enc (mRc x0 s1 s3 s7)) 36 :: (spR SP w0) :: Lr)) (fun d60 hP d50 hF hM=>?_) ?_
      ·refine aG ?_
       refine aD ?_
       refine aA hF (aH hF rfl rfl) rfl rfl rfl fun a hF=>?_
       refine aJ (aB ?_)
       refine aT ?_
       refine bU hF hM hP (fun F x a w=>match x with | g1=>Fr 220 [(10,.int .i64 g1),(1,.pointer (some ⟨c0,0,none⟩)),(5,.int .i64 c3),(6,.pointer (some ⟨c1,0,none⟩)),(9,.int .i64 d2)] a ∧ MemL w (pt c1 (RMark.enc (RMark.mk c8 c9 c2.done c4 c5 c6 c7)) 60 :: pt c0 (RRecord.enc (mRc x0 s1 s3 s7)) 36 :: (spR SP w0) :: Lr)) (fun hF hM=>⟨hF.to ⟨rfl,rfl,rfl,rfl,rfl,trivial⟩,hM⟩) ?_
       rintro g1 a w d65 hP c34 ⟨hF,hM⟩
       replace hP:Sh.iY c2 d2 g1 = _:=hP
       unfold Sh.iY at hP
       refine aG ?_
       refine aG ?_
       refine aD ?_
       refine aA hF (aF hF rfl rfl) rfl rfl rfl fun a hF=>?_
       refine aA hF (aC (off':=5) qU60 rfl in58 rfl hF rfl rfl rfl) rfl rfl rfl fun a hF=>?_
       refine aA hF (aI qA58 hF rfl rfl (hM.cell (i:=0) rfl (RMark.g_pieces _))) rfl rfl rfl fun a hF=>?_
       refine aA hF (aF hF rfl rfl) rfl rfl rfl fun a hF=>?_
       obtain ⟨d25,k0,hP⟩:=bind_some hP
       have n0:=aM k0
       obtain ⟨c48,u0,z1⟩:=Each.getr d1 n0.2
       have p8:=Each.bd d1 (bG k0)
       obtain ⟨c74,c75,rfl,c56,c27⟩:=z1
       refine aA hF (aS (sz:=4) (d0 _ h0) qU58 in156 rfl hF rfl rfl rfl p8) rfl rfl rfl fun a hF=>?_
       refine aA hF (aC qU156 rfl in23 rfl hF rfl rfl rfl) rfl rfl rfl fun a hF=>?_
       refine aA hF (aI qA23 hF rfl rfl (mV (fun w h=>(((d0 w h).elemS u0)).get 3 (RPiece.g_new _)) h0 (hM.hold 2 _ rfl))) rfl rfl rfl fun a hF=>?_
       refine aA hF (bM (c27 _ h0) qU23 hF rfl rfl) rfl rfl rfl fun a hF=>?_
       refine aA hF (cI hF rfl rfl rfl) rfl rfl rfl fun a hF=>?_
       refine aJ (aB ?_)
       refine aV hF (c:=.tmp 141) rfl (fun i1=>?_) (fun i1=>?_)
       ·have hP:=Fx.cT i1 hP
        refine aW (aB ?_)
        refine aG ?_
        refine aT ?_
        refine bL mixed (by kernel_rfl) hM [0,1,2] 3 rfl fun hch=>?_
        refine aK hF hch 0 rfl (by kernel_rfl) rfl rfl rfl (fun w hM=>(aC (off':=5) qU60 rfl in58 rfl hF rfl rfl rfl)) fun a hF=>?_
        refine aK hF hch 1 rfl (by kernel_rfl) rfl rfl rfl (fun w hM=>(aI qA58 hF rfl rfl (hM.cell (i:=0) rfl (RMark.g_pieces _)))) fun a hF=>?_
        refine aK hF hch 2 rfl (by kernel_rfl) rfl rfl rfl (fun w hM=>(aF hF rfl rfl)) fun a hF=>?_
        obtain ⟨d26,k1,hP⟩:=bind_some hP
        have n1:=aM k1
        obtain ⟨c49,u1,z2⟩:=Each.getr d1 n1.2
        have p9:=Each.bd d1 (bG k1)
        obtain ⟨c76,c77,rfl,c57,l4⟩:=z2
        refine aK hF hch 3 rfl (by kernel_rfl) rfl rfl rfl (fun w hM=>(aS (sz:=4) (d0 _ h0) qU58 in156 rfl hF rfl rfl rfl p9)) fun a hF=>?_
        refine aK hF hch 4 rfl (by kernel_rfl) rfl rfl rfl (fun w hM=>(aC qU156 rfl in23 rfl hF rfl rfl rfl)) fun a hF=>?_
        refine aK hF hch 5 rfl (by kernel_rfl) rfl rfl rfl (fun w hM=>(aI qA23 hF rfl rfl (mV (fun w h=>(((d0 w h).elemS u1)).get 3 (RPiece.g_new _)) h0 (hM.hold 2 _ rfl)))) fun a hF=>?_
        refine aK hF hch 6 rfl (by kernel_rfl) rfl rfl rfl (fun w hM=>(aF hF rfl rfl)) fun a hF=>?_
        refine aK hF hch 7 rfl (by kernel_rfl) rfl rfl rfl (fun w hM=>(aC (off':=5) qU60 rfl in58 rfl hF rfl rfl rfl)) fun a hF=>?_
        refine aK hF hch 8 rfl (by kernel_rfl) rfl rfl rfl (fun w hM=>(aI qA58 hF rfl rfl (hM.cell (i:=0) rfl (RMark.g_pieces _)))) fun a hF=>?_
        refine aK hF hch 9 rfl (by kernel_rfl) rfl rfl rfl (fun w hM=>(aF hF rfl rfl)) fun a hF=>?_
        obtain ⟨d27,k2,hP⟩:=bind_some hP
        have n2:=aM k2
        obtain ⟨c50,u2,z3⟩:=Each.getr d1 n2.2
        have t0:=Each.bd d1 (bG k2)
        obtain ⟨c78,c79,rfl,c58,l5⟩:=z3
        refine aK hF hch 10 rfl (by kernel_rfl) rfl rfl rfl (fun w hM=>(aS (sz:=4) (d0 _ h0) qU58 in156 rfl hF rfl rfl rfl t0)) fun a hF=>?_
        refine aK hF hch 11 rfl (by kernel_rfl) rfl rfl rfl (fun w hM=>(aC qU156 rfl in23 rfl hF rfl rfl rfl)) fun a hF=>?_
        refine aK hF hch 12 rfl (by kernel_rfl) rfl rfl rfl (fun w hM=>(aI qA23 hF rfl rfl (mV (fun w h=>(((d0 w h).elemS u2)).get 3 (RPiece.g_new _)) h0 (hM.hold 2 _ rfl)))) fun a hF=>?_
        refine aK hF hch 13 rfl (by kernel_rfl) rfl rfl rfl (fun w hM=>(aF hF rfl rfl)) fun a hF=>?_
        obtain ⟨d28,k3,hP⟩:=bind_some hP
        have n3:=aM k3
        refine aK hF hch 14 rfl (by kernel_rfl) rfl rfl rfl (fun w hM=>(aS (sz:=1) (l5 _ h0) qU23 in5 rfl hF rfl rfl rfl (bG k3))) fun a hF=>?_
        refine bC hch 15 (by kernel_rfl) rfl rfl ?_
        refine bV hF 15 rfl rfl rfl rfl rfl fun w hMs hM=>?_
        obtain ⟨c98,c22,c14⟩:=iY (fun w h=>(((l5 w h).elemS n3.2)).get 0 rfl) h0 (hM.hold 2 _ rfl)
        obtain ⟨d43,rfl⟩:=c14.u8
        refine Yd.val (aI qA5 hF rfl rfl (c22)) ?_
        refine ⟨_,_,hMs,hM,.inl fun _ h=>h,fun a hF=>?_⟩
        refine aK hF hch 16 rfl (by kernel_rfl) rfl rfl rfl (fun w hM=>(tX hF rfl rfl rfl)) fun a hF=>?_
        obtain ⟨d29,k4,hP⟩:=bind_some hP
        have n4:=aM k4
        refine aK hF hch 17 rfl (by kernel_rfl) rfl rfl rfl (fun w hM=>(aS (sz:=1) (l4 _ h0) qU23 in5 rfl hF rfl rfl rfl (bG k4))) fun a hF=>?_
        refine bC hch 18 (by kernel_rfl) rfl rfl ?_
        refine cO 18 rfl rfl rfl rfl fun w hMs hM=>?_
        refine (iK qS5 hM (i:=2) rfl (fun w h=>(((l4 w h).elemS n4.2)).get 0 rfl) h0 (Like.bytes _ _) hF rfl rfl rfl rfl fun w hM=>?_)
        replace hM:MemL _ (pt c1 (RMark.enc (RMark.mk c8 c9 c2.done c4 c5 c6 c7)) 60 :: pt c0 (RRecord.enc (mRc x0 s1 s3 s7)) 36 :: (spR SP w0) :: Lr):=hM
        have hMs:=selM hM [0,1,2] 3 rfl
        refine ⟨_,_,hMs,hM,.inl fun _ h=>h,?_⟩
        refine bW hch (by kernel_rfl) fun w hM=>?_
        refine bK (aB ?_)
        refine aD ?_
        refine aA hF (aF hF rfl rfl) rfl rfl rfl fun a hF=>?_
        refine aA hF (bX hF rfl rfl rfl) rfl rfl rfl fun a hF=>?_
        refine aA hF (aH hF rfl rfl) rfl rfl rfl fun a hF=>?_
        refine aJ (aB ?_)
        have hP:=oI hP
        subst hP
        exact ⟨(IntKind.i64.wrap (g1 + 1)),rfl,hF.to ⟨rfl,rfl,rfl,rfl,rfl,trivial⟩,hM⟩
       have hP:=Fx.cF i1 hP
       refine bY (bD (bD (cJ ?_)))
       refine aB ?_
       have hP:=oI hP
       subst hP
       have hP:=c34 _ rfl
       subst hP
       exact ⟨(),rfl,hF.to ⟨rfl,rfl,rfl,rfl,trivial⟩,hM⟩
      rintro ⟨⟩ a w hP ⟨hF,hM⟩
      replace hP:Sh.rP c2 d2 = _:=hP
      unfold Sh.rP at hP
      refine aB ?_
      refine aG ?_
      refine aD ?_
      refine aA hF (aH hF rfl rfl) rfl rfl rfl fun a hF=>?_
      refine aJ (aB ?_)
      refine aT ?_
      refine bU hF hM hP (fun F x a w=>match x with | g2=>Fr 220 [(11,.int .i64 g2),(1,.pointer (some ⟨c0,0,none⟩)),(5,.int .i64 c3),(6,.pointer (some ⟨c1,0,none⟩)),(9,.int .i64 d2)] a ∧ MemL w (pt c1 (RMark.enc (RMark.mk c8 c9 c2.done c4 c5 c6 c7)) 60 :: pt c0 (RRecord.enc (mRc x0 s1 s3 s7)) 36 :: (spR SP w0) :: Lr)) (fun hF hM=>⟨hF.to ⟨rfl,rfl,rfl,rfl,rfl,trivial⟩,hM⟩) ?_
      rintro g2 a w d66 hP c35 ⟨hF,hM⟩
      replace hP:Sh.iZ c2 d2 g2 = _:=hP
      unfold Sh.iZ at hP
      refine aG ?_
      refine aG ?_
      refine aD ?_
      refine aA hF (aF hF rfl rfl) rfl rfl rfl fun a hF=>?_
      refine aA hF (aC (off':=5) qU60 rfl in58 rfl hF rfl rfl rfl) rfl rfl rfl fun a hF=>?_
      refine aA hF (aI qA58 hF rfl rfl (hM.cell (i:=0) rfl (RMark.g_pieces _))) rfl rfl rfl fun a hF=>?_
      refine aA hF (aF hF rfl rfl) rfl rfl rfl fun a hF=>?_
      obtain ⟨d30,k5,hP⟩:=bind_some hP
      have n5:=aM k5
      obtain ⟨c51,u3,z4⟩:=Each.getr d1 n5.2
      have t1:=Each.bd d1 (bG k5)
      obtain ⟨c80,c81,rfl,c28,c59⟩:=z4
      refine aA hF (aS (sz:=4) (d0 _ h0) qU58 in156 rfl hF rfl rfl rfl t1) rfl rfl rfl fun a hF=>?_
      refine aA hF (aC qU156 rfl in23 rfl hF rfl rfl rfl) rfl rfl rfl fun a hF=>?_
      refine aA hF (aI qA23 hF rfl rfl (mV (fun w h=>(((d0 w h).elemS u3)).get 2 (RPiece.g_old _)) h0 (hM.hold 2 _ rfl))) rfl rfl rfl fun a hF=>?_
      refine aA hF (bM (c28 _ h0) qU23 hF rfl rfl) rfl rfl rfl fun a hF=>?_
      refine aA hF (cI hF rfl rfl rfl) rfl rfl rfl fun a hF=>?_
      refine aJ (aB ?_)
      refine aV hF (c:=.tmp 170) rfl (fun i2=>?_) (fun i2=>?_)
      ·have hP:=Fx.cT i2 hP
       refine aW (aB ?_)
       refine aG ?_
       refine aT ?_
       refine bL mixed (by kernel_rfl) hM [0,1,2] 3 rfl fun hch=>?_
       refine aK hF hch 0 rfl (by kernel_rfl) rfl rfl rfl (fun w hM=>(aC (off':=5) qU60 rfl in58 rfl hF rfl rfl rfl)) fun a hF=>?_
       refine aK hF hch 1 rfl (by kernel_rfl) rfl rfl rfl (fun w hM=>(aI qA58 hF rfl rfl (hM.cell (i:=0) rfl (RMark.g_pieces _)))) fun a hF=>?_
       refine aK hF hch 2 rfl (by kernel_rfl) rfl rfl rfl (fun w hM=>(aF hF rfl rfl)) fun a hF=>?_
       obtain ⟨d31,k6,hP⟩:=bind_some hP
       have n6:=aM k6
       obtain ⟨c52,u4,z5⟩:=Each.getr d1 n6.2
       have t2:=Each.bd d1 (bG k6)
       obtain ⟨c82,c83,rfl,l6,c60⟩:=z5
       refine aK hF hch 3 rfl (by kernel_rfl) rfl rfl rfl (fun w hM=>(aS (sz:=4) (d0 _ h0) qU58 in156 rfl hF rfl rfl rfl t2)) fun a hF=>?_
       refine aK hF hch 4 rfl (by kernel_rfl) rfl rfl rfl (fun w hM=>(aC qU156 rfl in23 rfl hF rfl rfl rfl)) fun a hF=>?_
       refine aK hF hch 5 rfl (by kernel_rfl) rfl rfl rfl (fun w hM=>(aI qA23 hF rfl rfl (mV (fun w h=>(((d0 w h).elemS u4)).get 2 (RPiece.g_old _)) h0 (hM.hold 2 _ rfl)))) fun a hF=>?_
       refine aK hF hch 6 rfl (by kernel_rfl) rfl rfl rfl (fun w hM=>(aF hF rfl rfl)) fun a hF=>?_
       refine aK hF hch 7 rfl (by kernel_rfl) rfl rfl rfl (fun w hM=>(aC (off':=5) qU60 rfl in58 rfl hF rfl rfl rfl)) fun a hF=>?_
       refine aK hF hch 8 rfl (by kernel_rfl) rfl rfl rfl (fun w hM=>(aI qA58 hF rfl rfl (hM.cell (i:=0) rfl (RMark.g_pieces _)))) fun a hF=>?_
       refine aK hF hch 9 rfl (by kernel_rfl) rfl rfl rfl (fun w hM=>(aF hF rfl rfl)) fun a hF=>?_
       obtain ⟨d32,k7,hP⟩:=bind_some hP
       have n7:=aM k7
       obtain ⟨c53,u5,z6⟩:=Each.getr d1 n7.2
       have t3:=Each.bd d1 (bG k7)
       obtain ⟨c84,c85,rfl,l7,c61⟩:=z6
       refine aK hF hch 10 rfl (by kernel_rfl) rfl rfl rfl (fun w hM=>(aS (sz:=4) (d0 _ h0) qU58 in156 rfl hF rfl rfl rfl t3)) fun a hF=>?_
       refine aK hF hch 11 rfl (by kernel_rfl) rfl rfl rfl (fun w hM=>(aC qU156 rfl in23 rfl hF rfl rfl rfl)) fun a hF=>?_
       refine aK hF hch 12 rfl (by kernel_rfl) rfl rfl rfl (fun w hM=>(aI qA23 hF rfl rfl (mV (fun w h=>(((d0 w h).elemS u5)).get 2 (RPiece.g_old _)) h0 (hM.hold 2 _ rfl)))) fun a hF=>?_
       refine aK hF hch 13 rfl (by kernel_rfl) rfl rfl rfl (fun w hM=>(aF hF rfl rfl)) fun a hF=>?_
       obtain ⟨d33,k8,hP⟩:=bind_some hP
       have n8:=aM k8
       refine aK hF hch 14 rfl (by kernel_rfl) rfl rfl rfl (fun w hM=>(aS (sz:=1) (l7 _ h0) qU23 in5 rfl hF rfl rfl rfl (bG k8))) fun a hF=>?_
       refine bC hch 15 (by kernel_rfl) rfl rfl ?_
       refine bV hF 15 rfl rfl rfl rfl rfl fun w hMs hM=>?_
       obtain ⟨c99,c23,c15⟩:=iY (fun w h=>(((l7 w h).elemS n8.2)).get 0 rfl) h0 (hM.hold 2 _ rfl)
       obtain ⟨d44,rfl⟩:=c15.u8
       refine Yd.val (aI qA5 hF rfl rfl (c23)) ?_
       refine ⟨_,_,hMs,hM,.inl fun _ h=>h,fun a hF=>?_⟩
       refine aK hF hch 16 rfl (by kernel_rfl) rfl rfl rfl (fun w hM=>(tX hF rfl rfl rfl)) fun a hF=>?_
       obtain ⟨d34,k9,hP⟩:=bind_some hP
       have n9:=aM k9
       refine aK hF hch 17 rfl (by kernel_rfl) rfl rfl rfl (fun w hM=>(aS (sz:=1) (l6 _ h0) qU23 in5 rfl hF rfl rfl rfl (bG k9))) fun a hF=>?_
       refine bC hch 18 (by kernel_rfl) rfl rfl ?_
       refine cO 18 rfl rfl rfl rfl fun w hMs hM=>?_
       refine (iK qS5 hM (i:=2) rfl (fun w h=>(((l6 w h).elemS n9.2)).get 0 rfl) h0 (Like.bytes _ _) hF rfl rfl rfl rfl fun w hM=>?_)
       replace hM:MemL _ (pt c1 (RMark.enc (RMark.mk c8 c9 c2.done c4 c5 c6 c7)) 60 :: pt c0 (RRecord.enc (mRc x0 s1 s3 s7)) 36 :: (spR SP w0) :: Lr):=hM
       have hMs:=selM hM [0,1,2] 3 rfl
       refine ⟨_,_,hMs,hM,.inl fun _ h=>h,?_⟩
       refine bW hch (by kernel_rfl) fun w hM=>?_
       refine bK (aB ?_)
       refine aD ?_
       refine aA hF (aF hF rfl rfl) rfl rfl rfl fun a hF=>?_
       refine aA hF (bX hF rfl rfl rfl) rfl rfl rfl fun a hF=>?_
       refine aA hF (aH hF rfl rfl) rfl rfl rfl fun a hF=>?_
       refine aJ (aB ?_)
       have hP:=oI hP
       subst hP
       exact ⟨(IntKind.i64.wrap (g2 + 1)),rfl,hF.to ⟨rfl,rfl,rfl,rfl,rfl,trivial⟩,hM⟩
      have hP:=Fx.cF i2 hP
      refine bY (bD (bD (cJ ?_)))
      refine bK (aB ?_)
      have hP:=oI hP
      subst hP
      have hP:=c35 _ rfl
      subst hP
      exact ⟨(),rfl,hF.to ⟨rfl,rfl,rfl,rfl,trivial⟩,hM⟩
     rintro ⟨⟩ a w hP ⟨hF,hM⟩
     replace hP:Sh.rO d2 = _:=hP
     unfold Sh.rO at hP
     refine aB ?_
     refine aD ?_
     refine aA hF (aF hF rfl rfl) rfl rfl rfl fun a hF=>?_
     refine aA hF (bX hF rfl rfl rfl) rfl rfl rfl fun a hF=>?_
     refine aA hF (aH hF rfl rfl) rfl rfl rfl fun a hF=>?_
     refine aJ (aB ?_)
     have hP:=oI hP
     subst hP
     exact ⟨(IntKind.i64.wrap (d2 + 1)),rfl,hF.to ⟨rfl,rfl,rfl,rfl,trivial⟩,hM⟩
    have hP:=Fx.cF i0 hP
    refine bY (bD (bD (cJ ?_)))
    refine aB ?_
    have hP:=oI hP
    subst hP
    have hP:=c33 _ rfl
    subst hP
    exact ⟨(),rfl,hF.to ⟨rfl,rfl,rfl,trivial⟩,hM⟩
   rintro ⟨⟩ a w hP ⟨hF,hM⟩
   replace hP:Sh.rN x0 c3 c2 = _:=hP
   unfold Sh.rN at hP
   refine aB ?_
   refine aG ?_
   refine aU hF hM hP (fun F x a w=>match x with | _=>Fr 220 [(1,.pointer (some ⟨c0,0,none⟩)),(5,.int .i64 c3)] a ∧ MemL w (pt c0 (RRecord.enc (mRc x0 s1 s3 s7)) 36 :: (spR SP w0) :: Lr)) (fun d61 hP d51 hF hM=>?_) ?_
   ·refine aG ?_
    refine aD ?_
    refine aA hF (aH hF rfl rfl) rfl rfl rfl fun a hF=>?_
    refine aJ (aB ?_)
    refine aT ?_
    refine bU hF hM hP (fun F x a w=>match x with | g3=>Fr 220 [(12,.int .i64 g3),(1,.pointer (some ⟨c0,0,none⟩)),(5,.int .i64 c3),(6,.pointer (some ⟨c1,0,none⟩))] a ∧ MemL w (pt c1 (RMark.enc (RMark.mk c8 c9 c2.done c4 c5 c6 c7)) 60 :: pt c0 (RRecord.enc (mRc x0 s1 s3 s7)) 36 :: (spR SP w0) :: Lr)) (fun hF hM=>⟨hF.to ⟨rfl,rfl,rfl,rfl,trivial⟩,hM⟩) ?_
    rintro g3 a w d67 hP c36 ⟨hF,hM⟩
    replace hP:Sh.jA c2 g3 = _:=hP
    unfold Sh.jA at hP
    refine aG ?_
    refine aG ?_
    refine aD ?_
    refine aA hF (aF hF rfl rfl) rfl rfl rfl fun a hF=>?_
    refine aA hF (aC (off':=6) qU60 rfl in52 rfl hF rfl rfl rfl) rfl rfl rfl fun a hF=>?_
    refine aA hF (aI qA52 hF rfl rfl (hM.cell (i:=0) rfl (RMark.g_sent _))) rfl rfl rfl fun a hF=>?_
    refine aA hF (bM (d6 _ h0) qU52 hF rfl rfl) rfl rfl rfl fun a hF=>?_
    refine aA hF (cI hF rfl rfl rfl) rfl rfl rfl fun a hF=>?_
    refine aJ (aB ?_)
    refine aV hF (c:=.tmp 195) rfl (fun i3=>?_) (fun i3=>?_)
    ·have hP:=Fx.cT i3 hP
     refine aW (aB ?_)
     refine aG ?_
     refine aT ?_
     refine bL mixed (by kernel_rfl) hM [0,1,2] 3 rfl fun hch=>?_
     refine aK hF hch 0 rfl (by kernel_rfl) rfl rfl rfl (fun w hM=>(aC (off':=6) qU60 rfl in52 rfl hF rfl rfl rfl)) fun a hF=>?_
     refine aK hF hch 1 rfl (by kernel_rfl) rfl rfl rfl (fun w hM=>(aI qA52 hF rfl rfl (hM.cell (i:=0) rfl (RMark.g_sent _)))) fun a hF=>?_
     refine aK hF hch 2 rfl (by kernel_rfl) rfl rfl rfl (fun w hM=>(aF hF rfl rfl)) fun a hF=>?_
     refine aK hF hch 3 rfl (by kernel_rfl) rfl rfl rfl (fun w hM=>(aC (off':=6) qU60 rfl in52 rfl hF rfl rfl rfl)) fun a hF=>?_
     refine aK hF hch 4 rfl (by kernel_rfl) rfl rfl rfl (fun w hM=>(aI qA52 hF rfl rfl (hM.cell (i:=0) rfl (RMark.g_sent _)))) fun a hF=>?_
     refine aK hF hch 5 rfl (by kernel_rfl) rfl rfl rfl (fun w hM=>(aF hF rfl rfl)) fun a hF=>?_
     obtain ⟨d35,l0,hP⟩:=bind_some hP
     have p0:=aM l0
     refine aK hF hch 6 rfl (by kernel_rfl) rfl rfl rfl (fun w hM=>(aS (sz:=1) (d6 _ h0) qU52 in3 rfl hF rfl rfl rfl (bG l0))) fun a hF=>?_
     refine bC hch 7 (by kernel_rfl) rfl rfl ?_
     refine bV hF 7 rfl rfl rfl rfl rfl fun w hMs hM=>?_
     obtain ⟨d10,c24,c16⟩:=iY (fun w h=>(((d6 w h).elemS p0.2)).get 0 rfl) h0 (hM.hold 2 _ rfl)
     obtain ⟨d45,rfl⟩:=c16.i64
     refine Yd.val (aI qA3 hF rfl rfl (c24)) ?_
     refine ⟨_,_,hMs,hM,.inl fun _ h=>h,fun a hF=>?_⟩
     refine aK hF hch 8 rfl (by kernel_rfl) rfl rfl rfl (fun w hM=>(bX hF rfl rfl rfl)) fun a hF=>?_
     obtain ⟨d36,l1,hP⟩:=bind_some hP
     have p1:=aM l1
     refine aK hF hch 9 rfl (by kernel_rfl) rfl rfl rfl (fun w hM=>(aS (sz:=1) (d6 _ h0) qU52 in3 rfl hF rfl rfl rfl (bG l1))) fun a hF=>?_
     refine bC hch 10 (by kernel_rfl) rfl rfl ?_
     refine cO 10 rfl rfl rfl rfl fun w hMs hM=>?_
     refine (iK qS3 hM (i:=2) rfl (fun w h=>(((d6 w h).elemS p1.2)).get 0 rfl) h0 (Like.ints _ _) hF rfl rfl rfl rfl fun w hM=>?_)
     replace hM:MemL _ (pt c1 (RMark.enc (RMark.mk c8 c9 c2.done c4 c5 c6 c7)) 60 :: pt c0 (RRecord.enc (mRc x0 s1 s3 s7)) 36 :: (spR SP w0) :: Lr):=hM
     have hMs:=selM hM [0,1,2] 3 rfl
     refine ⟨_,_,hMs,hM,.inl fun _ h=>h,?_⟩
     refine bW hch (by kernel_rfl) fun w hM=>?_
     refine bK (aB ?_)
     refine aD ?_
     refine aA hF (aF hF rfl rfl) rfl rfl rfl fun a hF=>?_
     refine aA hF (bX hF rfl rfl rfl) rfl rfl rfl fun a hF=>?_
     refine aA hF (aH hF rfl rfl) rfl rfl rfl fun a hF=>?_
     refine aJ (aB ?_)
     have hP:=oI hP
     subst hP
     exact ⟨(IntKind.i64.wrap (g3 + 1)),rfl,hF.to ⟨rfl,rfl,rfl,rfl,trivial⟩,hM⟩
    have hP:=Fx.cF i3 hP
    refine bY (bD (bD (cJ ?_)))
    refine aB ?_
    have hP:=oI hP
    subst hP
    have hP:=c36 _ rfl
    subst hP
    exact ⟨(),rfl,hF.to ⟨rfl,rfl,trivial⟩,selM hM [1,2] 3 rfl⟩
   rintro ⟨⟩ a w hP ⟨hF,hM⟩
   replace hP:Sh.oK x0 c3 = _:=hP
   unfold Sh.oK at hP
   refine aB ?_
   refine bL mixed (by kernel_rfl) hM [0,1] 2 rfl fun hch=>?_
   refine aK hF hch 0 rfl (by kernel_rfl) rfl rfl rfl (fun w hM=>(aC (off':=2) qU36 rfl in33 rfl hF rfl rfl rfl)) fun a hF=>?_
   refine aK hF hch 1 rfl (by kernel_rfl) rfl rfl rfl (fun w hM=>(aI qA33 hF rfl rfl (hM.cell (i:=0) rfl (RRecord.g_marks _)))) fun a hF=>?_
   refine aK hF hch 2 rfl (by kernel_rfl) rfl rfl rfl (fun w hM=>(aF hF rfl rfl)) fun a hF=>?_
   refine aK hF hch 3 rfl (by kernel_rfl) rfl rfl rfl (fun w hM=>(aC (off':=2) qU36 rfl in33 rfl hF rfl rfl rfl)) fun a hF=>?_
   refine aK hF hch 4 rfl (by kernel_rfl) rfl rfl rfl (fun w hM=>(aI qA33 hF rfl rfl (hM.cell (i:=0) rfl (RRecord.g_marks _)))) fun a hF=>?_
   refine aK hF hch 5 rfl (by kernel_rfl) rfl rfl rfl (fun w hM=>(aF hF rfl rfl)) fun a hF=>?_
   obtain ⟨d37,l2,hP⟩:=bind_some hP
   have p2:=aM l2
   obtain ⟨c54,u6,z7⟩:=Each.getr q10 p2.2
   have t4:=Each.bd q10 (bG l2)
   obtain ⟨c86,c87,c88,c42,c89,rfl,c62,c63,c64,c72,c65⟩:=z7
   refine aK hF hch 6 rfl (by kernel_rfl) rfl rfl rfl (fun w hM=>(aS (sz:=7) (f9 _ h0) qU33 in60 rfl hF rfl rfl rfl t4)) fun a hF=>?_
   refine aK hF hch 7 rfl (by kernel_rfl) rfl rfl rfl (fun w hM=>(aC qU60 rfl in3 rfl hF rfl rfl rfl)) fun a hF=>?_
   refine bC hch 8 (by kernel_rfl) rfl rfl ?_
   refine bV hF 8 rfl rfl rfl rfl rfl fun w hMs hM=>?_
   obtain ⟨d11,c25,c17⟩:=iY (fun w h=>(((f9 w h).elemS u6)).get 1 (RMark.g_next _)) h0 (hM.hold 1 _ rfl)
   obtain ⟨d46,rfl⟩:=c17.i64
   refine Yd.val (aI qA3 hF rfl rfl (c25)) ?_
   refine ⟨_,_,hMs,hM,.inl fun _ h=>h,fun a hF=>?_⟩
   refine aK hF hch 9 rfl (by kernel_rfl) rfl rfl rfl (fun w hM=>(bX hF rfl rfl rfl)) fun a hF=>?_
   obtain ⟨d38,l3,hP⟩:=bind_some hP
   have p3:=aM l3
   obtain ⟨c55,u7,z8⟩:=Each.getr q10 p3.2
   have t5:=Each.bd q10 (bG l3)
   obtain ⟨c90,c91,c92,c43,c93,rfl,c66,c67,c68,c73,c69⟩:=z8
   refine aK hF hch 10 rfl (by kernel_rfl) rfl rfl rfl (fun w hM=>(aS (sz:=7) (f9 _ h0) qU33 in60 rfl hF rfl rfl rfl t5)) fun a hF=>?_
   refine aK hF hch 11 rfl (by kernel_rfl) rfl rfl rfl (fun w hM=>(aC qU60 rfl in3 rfl hF rfl rfl rfl)) fun a hF=>?_
   refine bC hch 12 (by kernel_rfl) rfl rfl ?_
   refine cO 12 rfl rfl rfl rfl fun w hMs hM=>?_
   refine (iK qS3 hM (i:=1) rfl (fun w h=>(((f9 w h).elemS u7)).get 1 (RMark.g_next _)) h0 (Like.ints _ _) hF rfl rfl rfl rfl fun w hM=>?_)
   replace hM:MemL _ (pt c0 (RRecord.enc (mRc x0 s1 s3 s7)) 36 :: (spR SP w0) :: Lr):=hM
   have hMs:=selM hM [0,1] 2 rfl
   refine ⟨_,_,hMs,hM,.inl fun _ h=>h,?_⟩
   refine bW hch (by kernel_rfl) fun w hM=>?_
   refine bK (aB ?_)
   have hP:=oI hP
   subst hP
   exact ⟨(),rfl,hF.to ⟨rfl,rfl,trivial⟩,hM⟩
  rintro ⟨⟩ a w hP ⟨hF,hM⟩
  replace hP:Sh.sV c3 = _:=hP
  unfold Sh.sV at hP
  refine aB ?_
  refine aD ?_
  refine aA hF (aF hF rfl rfl) rfl rfl rfl fun a hF=>?_
  refine aA hF (bX hF rfl rfl rfl) rfl rfl rfl fun a hF=>?_
  refine aA hF (aH hF rfl rfl) rfl rfl rfl fun a hF=>?_
  refine aJ (aB ?_)
  have hP:=oI hP
  subst hP
  exact ⟨(IntKind.i64.wrap (c3 + 1)),rfl,hF.to ⟨rfl,rfl,trivial⟩,hM⟩
 have hP:=Fx.cF g7 hP
 refine bY (bD (bD (cJ ?_)))
 have hP:=oI hP
 subst hP
 have hP:=c40 _ rfl
 subst hP
 refine eR Tryz.results58 hF ?_
 exact ⟨rfl,selM hM [] 2 rfl⟩
end Go.Proofs
end
