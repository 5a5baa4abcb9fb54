/- Ground for this claim: The call of TraceBytes returns true, and what is read reads as before. Condition: what is read is of bulk at most 1048576. -/
import Derived.Test.YtmgnkohlfbjjnaaGreatRTb6
section
namespace Go.Proofs
open Go.Fw Go.Fx
set_option maxRecDepth 10000
set_option linter.unusedVariables false
set_option linter.unusedSimpArgs false
set_option maxHeartbeats 4000000 in
theorem cJ {x0:Int} {x1:Int} {x2:Int} {out:Bool} {w0:World} {Lr:List Res} (hP:Sh.bR x0 x1 x2 = some out) (hM:MemL w0 (Lr)):Calls Tryz.prog 159 #[.int .i64 x0,.int .i64 x1,.int .i64 x2] w0 (Ret fun v w'=>v = .bool out ∧ MemL w' (Lr)):=by
 unfold Sh.bR at hP
 refine aM (vs:=[.int .i64 x0,.int .i64 x1,.int .i64 x2]) Tryz.func159 rfl Tryz.ntmps159 rfl fun a hF=>?_
 refine aH ?_
 refine aC ?_
 refine aA hF (aG hF rfl rfl) rfl rfl rfl fun a hF=>?_
 refine aI (aB ?_)
 refine aH ?_
 refine aS hF hM hP (fun F x a w=>match x with | v7=>Fr 15 [(6,.bool v7)] a ∧ MemL w (Lr)) (fun c1 hP c0 hF hM=>?_) ?_
 ·refine aC ?_
  refine aA hF (aF hF rfl rfl) rfl rfl rfl fun a hF=>?_
  refine aA hF (aF hF rfl rfl) rfl rfl rfl fun a hF=>?_
  refine aA hF (jF hF rfl rfl rfl) rfl rfl rfl fun a hF=>?_
  refine aA hF (aF hF rfl rfl) rfl rfl rfl fun a hF=>?_
  refine aZ 10 hF rfl (fun hb8=>?_) (fun hb8=>?_)
  ·have hP:=Fx.cT hb8 hP
   refine aK hF rfl rfl rfl hb8 (aF hF rfl rfl) rfl rfl fun a hF=>?_
   refine aK hF rfl rfl rfl hb8 (aF hF rfl rfl) rfl rfl fun a hF=>?_
   refine aK hF rfl rfl rfl hb8 (mR hF rfl rfl rfl) rfl rfl fun a hF=>?_
   refine aA hF (aP hF rfl rfl hb8 rfl) rfl rfl rfl fun a hF=>?_
   refine aA hF (aG hF rfl rfl) rfl rfl rfl fun a hF=>?_
   refine aI (aB ?_)
   have hP:=Option.some.inj hP
   subst hP
   exact ⟨(decide (x0 ≤ x2)),rfl,hF.to ⟨rfl,trivial⟩,hM⟩
  have hP:=Fx.cF hb8 hP
  refine aE hF rfl rfl rfl hb8 rfl rfl fun a hF=>?_
  refine aE hF rfl rfl rfl hb8 rfl rfl fun a hF=>?_
  refine aE hF rfl rfl rfl hb8 rfl rfl fun a hF=>?_
  refine aA hF (aQ hF rfl rfl hb8 rfl) rfl rfl rfl fun a hF=>?_
  refine aA hF (aG hF rfl rfl) rfl rfl rfl fun a hF=>?_
  refine aI (aB ?_)
  have hP:=Option.some.inj hP
  subst hP
  exact ⟨false,rfl,hF.to ⟨rfl,trivial⟩,hM⟩
 rintro v7 a w hP ⟨hF,hM⟩
 replace hP:Sh.kN v7 = _:=hP
 unfold Sh.kN at hP
 refine aB ?_
 refine c_ret ?_
 have hP:=Option.some.inj hP
 subst hP
 refine aY Tryz.results159 hF rfl ?_
 exact ⟨rfl,hM⟩
set_option maxHeartbeats 4000000 in
theorem gV {x0:QInput} {s1:SV} {s3:SV} {hs4:List SV} {out:Bool} {w0:World} {Bf:World → Prop} {Lr:List Res} (hP:Sh.gY x0 = some out) (hM:MemL w0 (Lr)) (hsub:∀ w,MemL w Lr → Bf w) (f2:LIn Bf s1 x0.ctx) (f5:LIn Bf s3 hs4) (q6:Each (LIn (X:=UInt8) Bf) hs4 x0.tables):Calls Tryz.prog 105 #[.agg (RInput.enc (RInput.mk s1 s3)).toArray] w0 (Ret fun v w'=>v = .bool out ∧ MemL w' (Lr)):=by
 unfold Sh.gY at hP
 refine aM (vs:=[.agg (RInput.enc (RInput.mk s1 s3)).toArray]) Tryz.func105 rfl Tryz.ntmps105 rfl fun a hF=>?_
 refine aH ?_
 refine aC ?_
 refine aN hF rfl rfl rfl (dD hF rfl rfl rfl fun c0 w d2 c4=>?_)
 have hM:=hM.plus c4
 replace hM:MemL _ (pt c0 (RInput.enc (RInput.mk s1 s3)) 30 :: Lr):=hM
 intro a hF
 refine aA hF (aG hF rfl rfl) rfl rfl rfl fun a hF=>?_
 refine aI (aB ?_)
 refine aH ?_
 refine aH ?_
 refine aS hF hM hP (fun F x a w=>match x with | v84=>Fr 28 [(13,.bool v84),(1,.pointer (some ⟨c0,0,none⟩)),(2,.bool false)] a ∧ MemL w (pt c0 (RInput.enc (RInput.mk s1 s3)) 30 :: Lr)) (fun d5 hP d3 hF hM=>?_) ?_
 ·refine aC ?_
  refine aA hF (aD (off':=0) Tryz.underlying30 rfl in23 rfl hF rfl rfl rfl) rfl rfl rfl fun a hF=>?_
  refine aA hF (aJ Tryz.isAgg23 hF rfl rfl (hM.cell (i:=0) rfl (RInput.g_ctx _))) rfl rfl rfl fun a hF=>?_
  refine aA hF (bG (f2 _ (hsub _ (dropM hM 1))) Tryz.underlying23 hF rfl rfl) rfl rfl rfl fun a hF=>?_
  refine aA hF (eJ hF rfl rfl rfl) rfl rfl rfl fun a hF=>?_
  refine aA hF (aF hF rfl rfl) rfl rfl rfl fun a hF=>?_
  refine aZ 8 hF rfl (fun hb85=>?_) (fun hb85=>?_)
  ·have hP:=Fx.cT hb85 hP
   refine aE hF rfl rfl rfl hb85 rfl rfl fun a hF=>?_
   refine aE hF rfl rfl rfl hb85 rfl rfl fun a hF=>?_
   refine aE hF rfl rfl rfl hb85 rfl rfl fun a hF=>?_
   refine aE hF rfl rfl rfl hb85 rfl rfl fun a hF=>?_
   refine aA hF (aP hF rfl rfl hb85 rfl) rfl rfl rfl fun a hF=>?_
   refine aI (aB ?_)
   have hP:=Option.some.inj hP
   subst hP
   exact ⟨true,rfl,hF.to ⟨rfl,rfl,rfl,trivial⟩,hM⟩
  have hP:=Fx.cF hb85 hP
  refine aK hF rfl rfl rfl hb85 (aD (off':=1) Tryz.underlying30 rfl in28 rfl hF rfl rfl rfl) rfl rfl fun a hF=>?_
  refine aK hF rfl rfl rfl hb85 (aJ Tryz.isAgg28 hF rfl rfl (hM.cell (i:=0) rfl (RInput.g_tables _))) rfl rfl fun a hF=>?_
  refine aK hF rfl rfl rfl hb85 (cV (f5 _ (hsub _ (dropM hM 1))) q6.len Tryz.underlying28 hF rfl rfl) rfl rfl fun a hF=>?_
  refine aK hF rfl rfl rfl hb85 (eJ hF rfl rfl rfl) rfl rfl fun a hF=>?_
  refine aA hF (aQ hF rfl rfl hb85 rfl) rfl rfl rfl fun a hF=>?_
  refine aI (aB ?_)
  have hP:=Option.some.inj hP
  subst hP
  exact ⟨(decide (8 < (x0.tables.length:Int))),rfl,hF.to ⟨rfl,rfl,rfl,trivial⟩,hM⟩
 rintro v84 a w hP ⟨hF,hM⟩
 replace hP:Sh.fI x0 v84 = _:=hP
 unfold Sh.fI at hP
 refine aB ?_
 refine aR hF (c:=.tmp 13) rfl (fun hb86=>?_) (fun hb86=>?_)
 ·have hP:=Fx.cT hb86 hP
  refine aH ?_
  refine aC ?_
  refine aA hF (aG hF rfl rfl) rfl rfl rfl fun a hF=>?_
  refine aI (aB ?_)
  refine c_ret ?_
  have hP:=Option.some.inj hP
  subst hP
  refine aY Tryz.results105 hF rfl ?_
  exact ⟨rfl,selM hM [] 1 rfl⟩
 have hP:=Fx.cF hb86 hP
 refine aT (aB ?_)
 refine aH ?_
 refine aS hF hM hP (fun F x a w=>match x with | _=>Fr 28 [(2,.bool false)] a ∧ MemL w (Lr)) (fun d6 hP d1 hF hM=>?_) ?_
 ·refine aH ?_
  refine aC ?_
  refine aA hF (aG hF rfl rfl) rfl rfl rfl fun a hF=>?_
  refine aI (aB ?_)
  refine aV ?_
  refine bN hF hM hP (fun F x a w=>match x with | c3=>Fr 28 [(3,.int .i64 c3),(1,.pointer (some ⟨c0,0,none⟩)),(2,.bool false)] a ∧ MemL w (pt c0 (RInput.enc (RInput.mk s1 s3)) 30 :: Lr)) (fun hF hM=>⟨hF.to ⟨rfl,rfl,rfl,trivial⟩,hM⟩) ?_
  rintro c3 a w d7 hP c5 ⟨hF,hM⟩
  replace hP:Sh.dY x0 c3 = _:=hP
  unfold Sh.dY at hP
  refine aH ?_
  refine aH ?_
  refine aC ?_
  refine aA hF (aF hF rfl rfl) rfl rfl rfl fun a hF=>?_
  refine aA hF (aD (off':=1) Tryz.underlying30 rfl in28 rfl hF rfl rfl rfl) rfl rfl rfl fun a hF=>?_
  refine aA hF (aJ Tryz.isAgg28 hF rfl rfl (hM.cell (i:=0) rfl (RInput.g_tables _))) rfl rfl rfl fun a hF=>?_
  refine aA hF (cV (f5 _ (hsub _ (dropM hM 1))) q6.len Tryz.underlying28 hF rfl rfl) rfl rfl rfl fun a hF=>?_
  refine aA hF (cH hF rfl rfl rfl) rfl rfl rfl fun a hF=>?_
  refine aI (aB ?_)
  refine aR hF (c:=.tmp 18) rfl (fun c1=>?_) (fun c1=>?_)
  ·have hP:=Fx.cT c1 hP
   refine aT (aB ?_)
   refine aH ?_
   refine aV ?_
   refine aH ?_
   refine aC ?_
   refine aA hF (aD (off':=1) Tryz.underlying30 rfl in28 rfl hF rfl rfl rfl) rfl rfl rfl fun a hF=>?_
   refine aA hF (aJ Tryz.isAgg28 hF rfl rfl (hM.cell (i:=0) rfl (RInput.g_tables _))) rfl rfl rfl fun a hF=>?_
   refine aA hF (aF hF rfl rfl) rfl rfl rfl fun a hF=>?_
   obtain ⟨d8,c6,hP⟩:=bind_some hP
   have c7:=aW c6
   obtain ⟨d4,c9,d0⟩:=Each.getr q6 c7.2
   have c8:=Each.bd q6 (bK c6)
   refine aA hF (bC (sz:=1) (f5 _ (hsub _ (dropM hM 1))) Tryz.underlying28 in23 rfl hF rfl rfl rfl c8) rfl rfl rfl fun a hF=>?_
   refine aA hF (aJ Tryz.isAgg23 hF rfl rfl ((((f5 _ (hsub _ (dropM hM 1))).elemS c9)).get 0 rfl)) rfl rfl rfl fun a hF=>?_
   refine aA hF (bG (d0 _ (hsub _ (dropM hM 1))) Tryz.underlying23 hF rfl rfl) rfl rfl rfl fun a hF=>?_
   refine aA hF (eJ hF rfl rfl rfl) rfl rfl rfl fun a hF=>?_
   refine aI (aB ?_)
   refine aR hF (c:=.tmp 27) rfl (fun c2=>?_) (fun c2=>?_)
   ·have hP:=Fx.cT c2 hP
    refine aH ?_
    refine aC ?_
    refine aA hF (aG hF rfl rfl) rfl rfl rfl fun a hF=>?_
    refine aI (aB ?_)
    refine c_ret ?_
    have hP:=Option.some.inj hP
    subst hP
    have hP:=c5 _ rfl
    subst hP
    have hP:=cL d1
    subst hP
    refine aY Tryz.results105 hF rfl ?_
    exact ⟨rfl,selM hM [] 1 rfl⟩
   have hP:=Fx.cF c2 hP
   refine aT (bI (aB ?_))
   refine aC ?_
   refine aA hF (aF hF rfl rfl) rfl rfl rfl fun a hF=>?_
   refine aA hF (cA hF rfl rfl rfl) rfl rfl rfl fun a hF=>?_
   refine aA hF (aG hF rfl rfl) rfl rfl rfl fun a hF=>?_
   refine aI (aB ?_)
   have hP:=Option.some.inj hP
   subst hP
   exact ⟨(IntKind.i64.wrap (c3 + 1)),rfl,hF.to ⟨rfl,rfl,rfl,trivial⟩,hM⟩
  have hP:=Fx.cF c1 hP
  refine bW (bD (bD (cG ?_)))
  refine aB ?_
  have hP:=Option.some.inj hP
  subst hP
  have hP:=c5 _ rfl
  subst hP
  exact ⟨(),rfl,hF.to ⟨rfl,trivial⟩,selM hM [] 1 rfl⟩
 rintro ⟨⟩ a w hP ⟨hF,hM⟩
 replace hP:Sh.kC = _:=hP
 unfold Sh.kC at hP
 refine aB ?_
 refine aH ?_
 refine aC ?_
 refine aA hF (aG hF rfl rfl) rfl rfl rfl fun a hF=>?_
 refine aI (aB ?_)
 refine c_ret ?_
 have hP:=Option.some.inj hP
 subst hP
 refine aY Tryz.results105 hF rfl ?_
 exact ⟨rfl,hM⟩
set_option maxHeartbeats 4000000 in
theorem mG {x0:List QPiece} {s1:SV} {hs2:List RPiece} {out:Bool} {w0:World} {Bf:World → Prop} {Lr:List Res} (hP:Sh.kS x0 = some out) (hM:MemL w0 (Lr)) (hsub:∀ w,MemL w Lr → Bf w) (f3:LIn Bf s1 hs2) (q4:Each (QPieceIn Bf) hs2 x0):Calls Tryz.prog 198 #[(s1).v] w0 (Ret fun v w'=>v = .bool out ∧ MemL w' (Lr)):=by
 unfold Sh.kS at hP
 refine aM (vs:=[(s1).v]) Tryz.func198 rfl Tryz.ntmps198 rfl fun a hF=>?_
 refine aH ?_
 refine aC ?_
 refine aA hF (aG hF rfl rfl) rfl rfl rfl fun a hF=>?_
 refine aI (aB ?_)
 refine aH ?_
 refine aS hF hM hP (fun F x a w=>match x with | _=>Fr 99 [(2,.bool false)] a ∧ MemL w (Lr)) (fun l3 hP g9 hF hM=>?_) ?_
 ·refine aH ?_
  refine aC ?_
  refine aA hF (aG hF rfl rfl) rfl rfl rfl fun a hF=>?_
  refine aI (aB ?_)
  refine aV ?_
  refine bN hF hM hP (fun F x a w=>match x with | c8=>Fr 99 [(3,.int .i64 c8),(0,(s1).v),(2,.bool false)] a ∧ MemL w (Lr)) (fun hF hM=>⟨hF.to ⟨rfl,rfl,rfl,trivial⟩,hM⟩) ?_
  rintro c8 a w l8 hP d9 ⟨hF,hM⟩
  replace hP:Sh.eA x0 c8 = _:=hP
  unfold Sh.eA at hP
  refine aH ?_
  refine aH ?_
  refine aC ?_
  refine aA hF (aF hF rfl rfl) rfl rfl rfl fun a hF=>?_
  refine aA hF (aF hF rfl rfl) rfl rfl rfl fun a hF=>?_
  refine aA hF (cV (f3 _ (hsub _ (dropM hM 0))) q4.len Tryz.underlying58 hF rfl rfl) rfl rfl rfl fun a hF=>?_
  refine aA hF (cH hF rfl rfl rfl) rfl rfl rfl fun a hF=>?_
  refine aI (aB ?_)
  refine aR hF (c:=.tmp 10) rfl (fun g2=>?_) (fun g2=>?_)
  ·have hP:=Fx.cT g2 hP
   refine aT (aB ?_)
   refine aH ?_
   refine aS hF hM hP (fun F x a w=>match x with | _=>Fr 99 [(0,(s1).v),(2,.bool false),(3,.int .i64 c8)] a ∧ MemL w (Lr)) (fun l4 hP i0 hF hM=>?_) ?_
   ·refine aV ?_
    refine aH ?_
    refine aC ?_
    refine aA hF (aF hF rfl rfl) rfl rfl rfl fun a hF=>?_
    refine aA hF (aF hF rfl rfl) rfl rfl rfl fun a hF=>?_
    obtain ⟨c4,g5,hP⟩:=bind_some hP
    have i1:=aW g5
    obtain ⟨k4,i9,j1⟩:=Each.getr q4 i1.2
    have i7:=Each.bd q4 (bK g5)
    obtain ⟨c9,d0,rfl,d1,g1⟩:=j1
    refine aA hF (bC (sz:=4) (f3 _ (hsub _ (dropM hM 0))) Tryz.underlying58 in156 rfl hF rfl rfl rfl i7) rfl rfl rfl fun a hF=>?_
    refine aA hF (bB Tryz.isAgg156 Tryz.sizeOf156 hF rfl rfl (RPiece.len _) (((f3 _ (hsub _ (dropM hM 0))).elemS i9))) rfl rfl rfl fun a hF=>?_
    refine aN hF rfl rfl rfl (cB z156 (zs:=RPiece.zero.enc) rfl rfl fun c5 w k2 i5=>?_)
    have hM:=hM.plus i5
    replace hM:MemL _ (pt c5 (RPiece.enc (RPiece.mk 0 0 SV.nil SV.nil)) 156 :: Lr):=hM
    intro a hF
    refine bO rfl rfl (bL (vs:=_) Tryz.sizeOf156 (hM.obj (i:=0) rfl) hF rfl rfl rfl rfl (RPiece.len _) (RPiece.one _) (by first | (rw [RPiece.len,RPiece.len]; decide) | (rw [RPiece.len]; decide)) (bU ((RPiece.len _).trans (RPiece.len _).symm)) fun w j4=>?_)
    have hM:=hM.chg j4 (i:=0) rfl
    replace hM:MemL _ (pt c5 (RPiece.enc (RPiece.mk c4.table c4.from_ c9 d0)) 156 :: Lr):=hM
    refine aI (aB ?_)
    refine aH ?_
    refine aH ?_
    refine aS hF hM hP (fun F x a w=>match x with | g3=>Fr 99 [(50,.bool g3),(0,(s1).v),(2,.bool false),(3,.int .i64 c8),(4,.pointer (some ⟨c5,0,none⟩))] a ∧ MemL w (pt c5 (RPiece.enc (RPiece.mk c4.table c4.from_ c9 d0)) 156 :: Lr)) (fun l5 hP l1 hF hM=>?_) ?_
    ·refine aC ?_
     refine aA hF (aD (off':=0) Tryz.underlying156 rfl in3 rfl hF rfl rfl rfl) rfl rfl rfl fun a hF=>?_
     refine aA hF (aJ Tryz.isAgg3 hF rfl rfl (hM.cell (i:=0) rfl (RPiece.g_table _))) rfl rfl rfl fun a hF=>?_
     obtain ⟨k9,j6,hP⟩:=bind_some hP
     refine aN hF rfl rfl rfl (aO (xs:=[.tmp 18,.const (.int .i64 (-1)),.const (.int .i64 (7))]) Tryz.call159 hF rfl rfl (cJ j6 hM ) fun v w hR=>?_)
     obtain ⟨rfl,hM⟩:=hR
     replace hM:MemL _ (pt c5 (RPiece.enc (RPiece.mk c4.table c4.from_ c9 d0)) 156 :: Lr):=hM
     intro a hF
     refine aA hF (dJ hF rfl rfl) rfl rfl rfl fun a hF=>?_
     refine aA hF (aF hF rfl rfl) rfl rfl rfl fun a hF=>?_
     refine aZ 21 hF rfl (fun c6=>?_) (fun c6=>?_)
     ·have hP:=Fx.cT c6 hP
      refine aE hF rfl rfl rfl c6 rfl rfl fun a hF=>?_
      refine aE hF rfl rfl rfl c6 rfl rfl fun a hF=>?_
      refine aE hF rfl rfl rfl c6 rfl rfl fun a hF=>?_
      refine aE hF rfl rfl rfl c6 rfl rfl fun a hF=>?_
      refine aA hF (aP hF rfl rfl c6 rfl) rfl rfl rfl fun a hF=>?_
      refine aA hF (aF hF rfl rfl) rfl rfl rfl fun a hF=>?_
      refine aE hF rfl rfl rfl rfl rfl rfl fun a hF=>?_
      refine aE hF rfl rfl rfl rfl rfl rfl fun a hF=>?_
      refine aE hF rfl rfl rfl rfl rfl rfl fun a hF=>?_
      refine aE hF rfl rfl rfl rfl rfl rfl fun a hF=>?_
      refine aE hF rfl rfl rfl rfl rfl rfl fun a hF=>?_
      refine aE hF rfl rfl rfl rfl rfl rfl fun a hF=>?_
      refine aE hF rfl rfl rfl rfl rfl rfl fun a hF=>?_
      refine aA hF (aP hF rfl rfl rfl rfl) rfl rfl rfl fun a hF=>?_
      refine aA hF (aF hF rfl rfl) rfl rfl rfl fun a hF=>?_
      refine aE hF rfl rfl rfl rfl rfl rfl fun a hF=>?_
      refine aE hF rfl rfl rfl rfl rfl rfl fun a hF=>?_
      refine aE hF rfl rfl rfl rfl rfl rfl fun a hF=>?_
      refine aE hF rfl rfl rfl rfl rfl rfl fun a hF=>?_
      refine aA hF (aP hF rfl rfl rfl rfl) rfl rfl rfl fun a hF=>?_
      refine aA hF (aF hF rfl rfl) rfl rfl rfl fun a hF=>?_
      refine aE hF rfl rfl rfl rfl rfl rfl fun a hF=>?_
      refine aE hF rfl rfl rfl rfl rfl rfl fun a hF=>?_
      refine aE hF rfl rfl rfl rfl rfl rfl fun a hF=>?_
      refine aE hF rfl rfl rfl rfl rfl rfl fun a hF=>?_
      refine aE hF rfl rfl rfl rfl rfl rfl fun a hF=>?_
      refine aE hF rfl rfl rfl rfl rfl rfl fun a hF=>?_
      refine aE hF rfl rfl rfl rfl rfl rfl fun a hF=>?_
      refine aA hF (aP hF rfl rfl rfl rfl) rfl rfl rfl fun a hF=>?_
      refine aI (aB ?_)
      have hP:=Option.some.inj hP
      subst hP
      exact ⟨true,rfl,hF.to ⟨rfl,rfl,rfl,rfl,rfl,trivial⟩,hM⟩
     have hP:=Fx.cF c6 hP
     refine aK hF rfl rfl rfl c6 (aD (off':=1) Tryz.underlying156 rfl in3 rfl hF rfl rfl rfl) rfl rfl fun a hF=>?_
     refine aK hF rfl rfl rfl c6 (aJ Tryz.isAgg3 hF rfl rfl (hM.cell (i:=0) rfl (RPiece.g_from_ _))) rfl rfl fun a hF=>?_
     obtain ⟨l0,j7,hP⟩:=bind_some hP
     refine dX hF rfl rfl rfl c6 rfl rfl (aO (xs:=[.tmp 23,.const (.int .i64 (0)),.const (.int .i64 (65535))]) Tryz.call159 hF rfl rfl (cJ j7 hM ) fun v w hR=>?_)
     obtain ⟨rfl,hM⟩:=hR
     replace hM:MemL _ (pt c5 (RPiece.enc (RPiece.mk c4.table c4.from_ c9 d0)) 156 :: Lr):=hM
     intro a hF
     refine aK hF rfl rfl rfl c6 (dJ hF rfl rfl) rfl rfl fun a hF=>?_
     refine aA hF (aQ hF rfl rfl c6 rfl) rfl rfl rfl fun a hF=>?_
     refine aA hF (aF hF rfl rfl) rfl rfl rfl fun a hF=>?_
     refine aZ 27 hF rfl (fun c2=>?_) (fun c2=>?_)
     ·have hP:=Fx.cT c2 hP
      refine aE hF rfl rfl rfl c2 rfl rfl fun a hF=>?_
      refine aE hF rfl rfl rfl c2 rfl rfl fun a hF=>?_
      refine aE hF rfl rfl rfl c2 rfl rfl fun a hF=>?_
      refine aE hF rfl rfl rfl c2 rfl rfl fun a hF=>?_
      refine aE hF rfl rfl rfl c2 rfl rfl fun a hF=>?_
      refine aE hF rfl rfl rfl c2 rfl rfl fun a hF=>?_
      refine aE hF rfl rfl rfl c2 rfl rfl fun a hF=>?_
      refine aA hF (aP hF rfl rfl c2 rfl) rfl rfl rfl fun a hF=>?_
      refine aA hF (aF hF rfl rfl) rfl rfl rfl fun a hF=>?_
      refine aE hF rfl rfl rfl rfl rfl rfl fun a hF=>?_
      refine aE hF rfl rfl rfl rfl rfl rfl fun a hF=>?_
      refine aE hF rfl rfl rfl rfl rfl rfl fun a hF=>?_
      refine aE hF rfl rfl rfl rfl rfl rfl fun a hF=>?_
      refine aA hF (aP hF rfl rfl rfl rfl) rfl rfl rfl fun a hF=>?_
      refine aA hF (aF hF rfl rfl) rfl rfl rfl fun a hF=>?_
      refine aE hF rfl rfl rfl rfl rfl rfl fun a hF=>?_
      refine aE hF rfl rfl rfl rfl rfl rfl fun a hF=>?_
      refine aE hF rfl rfl rfl rfl rfl rfl fun a hF=>?_
      refine aE hF rfl rfl rfl rfl rfl rfl fun a hF=>?_
      refine aE hF rfl rfl rfl rfl rfl rfl fun a hF=>?_
      refine aE hF rfl rfl rfl rfl rfl rfl fun a hF=>?_
      refine aE hF rfl rfl rfl rfl rfl rfl fun a hF=>?_
      refine aA hF (aP hF rfl rfl rfl rfl) rfl rfl rfl fun a hF=>?_
      refine aI (aB ?_)
      have hP:=Option.some.inj hP
      subst hP
      exact ⟨true,rfl,hF.to ⟨rfl,rfl,rfl,rfl,rfl,trivial⟩,hM⟩
     have hP:=Fx.cF c2 hP
     refine aK hF rfl rfl rfl c2 (aD (off':=2) Tryz.underlying156 rfl in23 rfl hF rfl rfl rfl) rfl rfl fun a hF=>?_
     refine aK hF rfl rfl rfl c2 (aJ Tryz.isAgg23 hF rfl rfl (hM.cell (i:=0) rfl (RPiece.g_old _))) rfl rfl fun a hF=>?_
     refine aK hF rfl rfl rfl c2 (bG (d1 _ (hsub _ (dropM hM 1))) Tryz.underlying23 hF rfl rfl) rfl rfl fun a hF=>?_
     refine aK hF rfl rfl rfl c2 (aD (off':=3) Tryz.underlying156 rfl in23 rfl hF rfl rfl rfl) rfl rfl fun a hF=>?_
     refine aK hF rfl rfl rfl c2 (aJ Tryz.isAgg23 hF rfl rfl (hM.cell (i:=0) rfl (RPiece.g_new _))) rfl rfl fun a hF=>?_
     refine aK hF rfl rfl rfl c2 (bG (g1 _ (hsub _ (dropM hM 1))) Tryz.underlying23 hF rfl rfl) rfl rfl fun a hF=>?_
     refine aK hF rfl rfl rfl c2 (cW hF rfl rfl rfl) rfl rfl fun a hF=>?_
     refine aA hF (aQ hF rfl rfl c2 rfl) rfl rfl rfl fun a hF=>?_
     refine aA hF (aF hF rfl rfl) rfl rfl rfl fun a hF=>?_
     refine aZ 36 hF rfl (fun c7=>?_) (fun c7=>?_)
     ·have hP:=Fx.cT c7 hP
      refine aE hF rfl rfl rfl c7 rfl rfl fun a hF=>?_
      refine aE hF rfl rfl rfl c7 rfl rfl fun a hF=>?_
      refine aE hF rfl rfl rfl c7 rfl rfl fun a hF=>?_
      refine aE hF rfl rfl rfl c7 rfl rfl fun a hF=>?_
      refine aA hF (aP hF rfl rfl c7 rfl) rfl rfl rfl fun a hF=>?_
      refine aA hF (aF hF rfl rfl) rfl rfl rfl fun a hF=>?_
      refine aE hF rfl rfl rfl rfl rfl rfl fun a hF=>?_
      refine aE hF rfl rfl rfl rfl rfl rfl fun a hF=>?_
      refine aE hF rfl rfl rfl rfl rfl rfl fun a hF=>?_
      refine aE hF rfl rfl rfl rfl rfl rfl fun a hF=>?_
      refine aE hF rfl rfl rfl rfl rfl rfl fun a hF=>?_
      refine aE hF rfl rfl rfl rfl rfl rfl fun a hF=>?_
      refine aE hF rfl rfl rfl rfl rfl rfl fun a hF=>?_
      refine aA hF (aP hF rfl rfl rfl rfl) rfl rfl rfl fun a hF=>?_
      refine aI (aB ?_)
      have hP:=Option.some.inj hP
      subst hP
      exact ⟨true,rfl,hF.to ⟨rfl,rfl,rfl,rfl,rfl,trivial⟩,hM⟩
     have hP:=Fx.cF c7 hP
     refine aK hF rfl rfl rfl c7 (aD (off':=2) Tryz.underlying156 rfl in23 rfl hF rfl rfl rfl) rfl rfl fun a hF=>?_
     refine aK hF rfl rfl rfl c7 (aJ Tryz.isAgg23 hF rfl rfl (hM.cell (i:=0) rfl (RPiece.g_old _))) rfl rfl fun a hF=>?_
     refine aK hF rfl rfl rfl c7 (bG (d1 _ (hsub _ (dropM hM 1))) Tryz.underlying23 hF rfl rfl) rfl rfl fun a hF=>?_
     refine aK hF rfl rfl rfl c7 (cE hF rfl rfl rfl) rfl rfl fun a hF=>?_
     refine aA hF (aQ hF rfl rfl c7 rfl) rfl rfl rfl fun a hF=>?_
     refine aA hF (aF hF rfl rfl) rfl rfl rfl fun a hF=>?_
     refine aZ 42 hF rfl (fun c3=>?_) (fun c3=>?_)
     ·have hP:=Fx.cT c3 hP
      refine aE hF rfl rfl rfl c3 rfl rfl fun a hF=>?_
      refine aE hF rfl rfl rfl c3 rfl rfl fun a hF=>?_
      refine aE hF rfl rfl rfl c3 rfl rfl fun a hF=>?_
      refine aE hF rfl rfl rfl c3 rfl rfl fun a hF=>?_
      refine aE hF rfl rfl rfl c3 rfl rfl fun a hF=>?_
      refine aE hF rfl rfl rfl c3 rfl rfl fun a hF=>?_
      refine aE hF rfl rfl rfl c3 rfl rfl fun a hF=>?_
      refine aA hF (aP hF rfl rfl c3 rfl) rfl rfl rfl fun a hF=>?_
      refine aI (aB ?_)
      have hP:=Option.some.inj hP
      subst hP
      exact ⟨true,rfl,hF.to ⟨rfl,rfl,rfl,rfl,rfl,trivial⟩,hM⟩
     have hP:=Fx.cF c3 hP
     refine aK hF rfl rfl rfl c3 (aD (off':=1) Tryz.underlying156 rfl in3 rfl hF rfl rfl rfl) rfl rfl fun a hF=>?_
     refine aK hF rfl rfl rfl c3 (aJ Tryz.isAgg3 hF rfl rfl (hM.cell (i:=0) rfl (RPiece.g_from_ _))) rfl rfl fun a hF=>?_
     refine aK hF rfl rfl rfl c3 (aD (off':=2) Tryz.underlying156 rfl in23 rfl hF rfl rfl rfl) rfl rfl fun a hF=>?_
     refine aK hF rfl rfl rfl c3 (aJ Tryz.isAgg23 hF rfl rfl (hM.cell (i:=0) rfl (RPiece.g_old _))) rfl rfl fun a hF=>?_
     refine aK hF rfl rfl rfl c3 (bG (d1 _ (hsub _ (dropM hM 1))) Tryz.underlying23 hF rfl rfl) rfl rfl fun a hF=>?_
     refine aK hF rfl rfl rfl c3 (cA hF rfl rfl rfl) rfl rfl fun a hF=>?_
     refine aK hF rfl rfl rfl c3 (eJ hF rfl rfl rfl) rfl rfl fun a hF=>?_
     refine aA hF (aQ hF rfl rfl c3 rfl) rfl rfl rfl fun a hF=>?_
     refine aI (aB ?_)
     have hP:=Option.some.inj hP
     subst hP
     exact ⟨(decide (65535 < (IntKind.i64.wrap (c4.from_ + (c4.old.length:Int))))),rfl,hF.to ⟨rfl,rfl,rfl,rfl,rfl,trivial⟩,hM⟩
    rintro g3 a w hP ⟨hF,hM⟩
    replace hP:Sh.bG x0 c8 c4 g3 = _:=hP
    unfold Sh.bG at hP
    refine aB ?_
    refine aR hF (c:=.tmp 50) rfl (fun d4=>?_) (fun d4=>?_)
    ·have hP:=Fx.cT d4 hP
     refine aH ?_
     refine aC ?_
     refine aA hF (aG hF rfl rfl) rfl rfl rfl fun a hF=>?_
     refine aI (aB ?_)
     refine c_ret ?_
     have hP:=Option.some.inj hP
     subst hP
     have hP:=cL i0
     subst hP
     have hP:=d9 _ rfl
     subst hP
     have hP:=cL g9
     subst hP
     refine aY Tryz.results198 hF rfl ?_
     exact ⟨rfl,selM hM [] 1 rfl⟩
    have hP:=Fx.cF d4 hP
    refine aT (aB ?_)
    refine aH ?_
    refine aS hF hM hP (fun F x a w=>match x with | _=>Fr 99 [(0,(s1).v),(2,.bool false),(3,.int .i64 c8),(4,.pointer (some ⟨c5,0,none⟩))] a ∧ MemL w (pt c5 (RPiece.enc (RPiece.mk c4.table c4.from_ c9 d0)) 156 :: Lr)) (fun l6 hP k1 hF hM=>?_) ?_
    ·refine aH ?_
     refine aC ?_
     refine aA hF (aG hF rfl rfl) rfl rfl rfl fun a hF=>?_
     refine aI (aB ?_)
     refine aV ?_
     refine bN hF hM hP (fun F x a w=>match x with | d2=>Fr 99 [(5,.int .i64 d2),(0,(s1).v),(2,.bool false),(3,.int .i64 c8),(4,.pointer (some ⟨c5,0,none⟩))] a ∧ MemL w (pt c5 (RPiece.enc (RPiece.mk c4.table c4.from_ c9 d0)) 156 :: Lr)) (fun hF hM=>⟨hF.to ⟨rfl,rfl,rfl,rfl,rfl,trivial⟩,hM⟩) ?_
     rintro d2 a w l9 hP j3 ⟨hF,hM⟩
     replace hP:Sh.fH c4 d2 = _:=hP
     unfold Sh.fH at hP
     refine aH ?_
     refine aH ?_
     refine aC ?_
     refine aA hF (aF hF rfl rfl) rfl rfl rfl fun a hF=>?_
     refine aA hF (aD (off':=2) Tryz.underlying156 rfl in23 rfl hF rfl rfl rfl) rfl rfl rfl fun a hF=>?_
     refine aA hF (aJ Tryz.isAgg23 hF rfl rfl (hM.cell (i:=0) rfl (RPiece.g_old _))) rfl rfl rfl fun a hF=>?_
     refine aA hF (bG (d1 _ (hsub _ (dropM hM 1))) Tryz.underlying23 hF rfl rfl) rfl rfl rfl fun a hF=>?_
     refine aA hF (cH hF rfl rfl rfl) rfl rfl rfl fun a hF=>?_
     refine aI (aB ?_)
     refine aR hF (c:=.tmp 55) rfl (fun d5=>?_) (fun d5=>?_)
     ·have hP:=Fx.cT d5 hP
      refine aT (aB ?_)
      refine aH ?_
      refine aV ?_
      refine aH ?_
      refine bQ mixed (by kernel_rfl) hM [0] 1 rfl fun hch=>?_
      refine aL hF hch 0 rfl (by kernel_rfl) rfl rfl rfl (fun w hM=>(aD (off':=2) Tryz.underlying156 rfl in23 rfl hF rfl rfl rfl)) fun a hF=>?_
      refine aL hF hch 1 rfl (by kernel_rfl) rfl rfl rfl (fun w hM=>(aJ Tryz.isAgg23 hF rfl rfl (hM.cell (i:=0) rfl (RPiece.g_old _)))) fun a hF=>?_
      refine aL hF hch 2 rfl (by kernel_rfl) rfl rfl rfl (fun w hM=>(aF hF rfl rfl)) fun a hF=>?_
      obtain ⟨k7,g6,hP⟩:=bind_some hP
      have i2:=aW g6
      refine aL hF hch 3 rfl (by kernel_rfl) rfl rfl rfl (fun w hM=>(bC (sz:=1) (d1 _ (hsub _ (dropM hM 1))) Tryz.underlying23 in5 rfl hF rfl rfl rfl (bK g6))) fun a hF=>?_
      refine aL hF hch 4 rfl (by kernel_rfl) rfl rfl rfl (fun w hM=>(aJ Tryz.isAgg5 hF rfl rfl ((((d1 _ (hsub _ (dropM hM 1))).elemS i2.2)).get 0 rfl))) fun a hF=>?_
      refine aL hF hch 5 rfl (by kernel_rfl) rfl rfl rfl (fun w hM=>(aD (off':=3) Tryz.underlying156 rfl in23 rfl hF rfl rfl rfl)) fun a hF=>?_
      refine aL hF hch 6 rfl (by kernel_rfl) rfl rfl rfl (fun w hM=>(aJ Tryz.isAgg23 hF rfl rfl (hM.cell (i:=0) rfl (RPiece.g_new _)))) fun a hF=>?_
      refine aL hF hch 7 rfl (by kernel_rfl) rfl rfl rfl (fun w hM=>(aF hF rfl rfl)) fun a hF=>?_
      obtain ⟨k8,g7,hP⟩:=bind_some hP
      have i3:=aW g7
      refine aL hF hch 8 rfl (by kernel_rfl) rfl rfl rfl (fun w hM=>(bC (sz:=1) (g1 _ (hsub _ (dropM hM 1))) Tryz.underlying23 in5 rfl hF rfl rfl rfl (bK g7))) fun a hF=>?_
      refine aL hF hch 9 rfl (by kernel_rfl) rfl rfl rfl (fun w hM=>(aJ Tryz.isAgg5 hF rfl rfl ((((g1 _ (hsub _ (dropM hM 1))).elemS i3.2)).get 0 rfl))) fun a hF=>?_
      refine aL hF hch 10 rfl (by kernel_rfl) rfl rfl rfl (fun w hM=>(cE hF rfl rfl rfl)) fun a hF=>?_
      refine cI hch (by kernel_rfl) fun w hM=>?_
      refine aB ?_
      refine aR hF (c:=.tmp 68) rfl (fun d6=>?_) (fun d6=>?_)
      ·have hP:=Fx.cT d6 hP
       refine aH ?_
       refine aC ?_
       refine aA hF (aG hF rfl rfl) rfl rfl rfl fun a hF=>?_
       refine aI (aB ?_)
       refine c_ret ?_
       have hP:=Option.some.inj hP
       subst hP
       have hP:=j3 _ rfl
       subst hP
       have hP:=cL k1
       subst hP
       have hP:=cL i0
       subst hP
       have hP:=d9 _ rfl
       subst hP
       have hP:=cL g9
       subst hP
       refine aY Tryz.results198 hF rfl ?_
       exact ⟨rfl,selM hM [] 1 rfl⟩
      have hP:=Fx.cF d6 hP
      refine aT (bI (aB ?_))
      refine aC ?_
      refine aA hF (aF hF rfl rfl) rfl rfl rfl fun a hF=>?_
      refine aA hF (cA hF rfl rfl rfl) rfl rfl rfl fun a hF=>?_
      refine aA hF (aG hF rfl rfl) rfl rfl rfl fun a hF=>?_
      refine aI (aB ?_)
      have hP:=Option.some.inj hP
      subst hP
      exact ⟨(IntKind.i64.wrap (d2 + 1)),rfl,hF.to ⟨rfl,rfl,rfl,rfl,rfl,trivial⟩,hM⟩
     have hP:=Fx.cF d5 hP
     refine bW (bD (bD (cG ?_)))
     refine aB ?_
     have hP:=Option.some.inj hP
     subst hP
     have hP:=j3 _ rfl
     subst hP
     exact ⟨(),rfl,hF.to ⟨rfl,rfl,rfl,rfl,trivial⟩,hM⟩
    rintro ⟨⟩ a w hP ⟨hF,hM⟩
    replace hP:Sh.iY x0 c8 c4 = _:=hP
    unfold Sh.iY at hP
    refine aB ?_
    refine aH ?_
    refine aH ?_
    refine aC ?_
    refine aA hF (aF hF rfl rfl) rfl rfl rfl fun a hF=>?_
    refine aA hF (cE hF rfl rfl rfl) rfl rfl rfl fun a hF=>?_
    refine aI (aB ?_)
    refine aR hF (c:=.tmp 70) rfl (fun d7=>?_) (fun d7=>?_)
    ·have hP:=Fx.cT d7 hP
     refine bW (bD (cG ?_))
     refine aB ?_
     have hP:=Option.some.inj hP
     subst hP
     exact ⟨(),rfl,hF.to ⟨rfl,rfl,rfl,trivial⟩,selM hM [] 1 rfl⟩
    have hP:=Fx.cF d7 hP
    refine aT (aB ?_)
    refine aH ?_
    refine aC ?_
    refine aA hF (aF hF rfl rfl) rfl rfl rfl fun a hF=>?_
    refine aA hF (aF hF rfl rfl) rfl rfl rfl fun a hF=>?_
    refine aA hF (fH hF rfl rfl rfl) rfl rfl rfl fun a hF=>?_
    obtain ⟨d3,g8,hP⟩:=bind_some hP
    have i4:=aW g8
    obtain ⟨k5,j0,j2⟩:=Each.getr q4 i4.2
    have i8:=Each.bd q4 (bK g8)
    obtain ⟨j9,k0,rfl,j8,k6⟩:=j2
    refine aA hF (bC (sz:=4) (f3 _ (hsub _ (dropM hM 1))) Tryz.underlying58 in156 rfl hF rfl rfl rfl i8) rfl rfl rfl fun a hF=>?_
    refine aA hF (bB Tryz.isAgg156 Tryz.sizeOf156 hF rfl rfl (RPiece.len _) (((f3 _ (hsub _ (dropM hM 1))).elemS j0))) rfl rfl rfl fun a hF=>?_
    refine aN hF rfl rfl rfl (cB z156 (zs:=RPiece.zero.enc) rfl rfl fun g0 w k3 i6=>?_)
    have hM:=hM.plus i6
    replace hM:MemL _ (pt g0 (RPiece.enc (RPiece.mk 0 0 SV.nil SV.nil)) 156 :: pt c5 (RPiece.enc (RPiece.mk c4.table c4.from_ c9 d0)) 156 :: Lr):=hM
    intro a hF
    refine bO rfl rfl (bL (vs:=_) Tryz.sizeOf156 (hM.obj (i:=0) rfl) hF rfl rfl rfl rfl (RPiece.len _) (RPiece.one _) (by first | (rw [RPiece.len,RPiece.len]; decide) | (rw [RPiece.len]; decide)) (bU ((RPiece.len _).trans (RPiece.len _).symm)) fun w j5=>?_)
    have hM:=hM.chg j5 (i:=0) rfl
    replace hM:MemL _ (pt g0 (RPiece.enc (RPiece.mk d3.table d3.from_ j9 k0)) 156 :: pt c5 (RPiece.enc (RPiece.mk c4.table c4.from_ c9 d0)) 156 :: Lr):=hM
    refine aI (aB ?_)
    refine aH ?_
    refine aS hF hM hP (fun F x a w=>match x with | g4=>Fr 99 [(98,.bool g4),(0,(s1).v),(2,.bool false),(3,.int .i64 c8)] a ∧ MemL w (Lr)) (fun l7 hP l2 hF hM=>?_) ?_
    ·refine aC ?_
     refine aA hF (aD (off':=0) Tryz.underlying156 rfl in3 rfl hF rfl rfl rfl) rfl rfl rfl fun a hF=>?_
     refine aA hF (aJ Tryz.isAgg3 hF rfl rfl (hM.cell (i:=1) rfl (RPiece.g_table _))) rfl rfl rfl fun a hF=>?_
     refine aA hF (aD (off':=0) Tryz.underlying156 rfl in3 rfl hF rfl rfl rfl) rfl rfl rfl fun a hF=>?_
     refine aA hF (aJ Tryz.isAgg3 hF rfl rfl (hM.cell (i:=0) rfl (RPiece.g_table _))) rfl rfl rfl fun a hF=>?_
     refine aA hF (cH hF rfl rfl rfl) rfl rfl rfl fun a hF=>?_
     refine aA hF (aF hF rfl rfl) rfl rfl rfl fun a hF=>?_
     refine aZ 81 hF rfl (fun c1=>?_) (fun c1=>?_)
     ·have hP:=Fx.cT c1 hP
      refine aE hF rfl rfl rfl c1 rfl rfl fun a hF=>?_
      refine aE hF rfl rfl rfl c1 rfl rfl fun a hF=>?_
      refine aE hF rfl rfl rfl c1 rfl rfl fun a hF=>?_
      refine aE hF rfl rfl rfl c1 rfl rfl fun a hF=>?_
      refine aE hF rfl rfl rfl c1 rfl rfl fun a hF=>?_
      refine aE hF rfl rfl rfl c1 rfl rfl fun a hF=>?_
      refine eQ hF rfl rfl rfl rfl rfl fun a hF=>?_
      refine eQ hF rfl rfl rfl rfl rfl fun a hF=>?_
      refine eQ hF rfl rfl rfl rfl rfl fun a hF=>?_
      refine eQ hF rfl rfl rfl rfl rfl fun a hF=>?_
      refine eQ hF rfl rfl rfl rfl rfl fun a hF=>?_
      refine eQ hF rfl rfl rfl rfl rfl fun a hF=>?_
      refine eQ hF rfl rfl rfl rfl rfl fun a hF=>?_
      refine eQ hF rfl rfl rfl rfl rfl fun a hF=>?_
      refine eQ hF rfl rfl rfl rfl rfl fun a hF=>?_
      refine aE hF rfl rfl rfl c1 rfl rfl fun a hF=>?_
      refine aA hF (aP hF rfl rfl c1 rfl) rfl rfl rfl fun a hF=>?_
      refine aI (aB ?_)
      have hP:=Option.some.inj hP
      subst hP
      exact ⟨true,rfl,hF.to ⟨rfl,rfl,rfl,rfl,trivial⟩,selM hM [] 2 rfl⟩
     have hP:=Fx.cF c1 hP
     refine aK hF rfl rfl rfl c1 (aD (off':=0) Tryz.underlying156 rfl in3 rfl hF rfl rfl rfl) rfl rfl fun a hF=>?_
     refine aK hF rfl rfl rfl c1 (aJ Tryz.isAgg3 hF rfl rfl (hM.cell (i:=1) rfl (RPiece.g_table _))) rfl rfl fun a hF=>?_
     refine aK hF rfl rfl rfl c1 (aD (off':=0) Tryz.underlying156 rfl in3 rfl hF rfl rfl rfl) rfl rfl fun a hF=>?_
     refine aK hF rfl rfl rfl c1 (aJ Tryz.isAgg3 hF rfl rfl (hM.cell (i:=0) rfl (RPiece.g_table _))) rfl rfl fun a hF=>?_
     refine aK hF rfl rfl rfl c1 (cE hF rfl rfl rfl) rfl rfl fun a hF=>?_
     refine aK hF rfl rfl rfl c1 (aF hF rfl rfl) rfl rfl fun a hF=>?_
     refine aZ 87 hF rfl (fun c0=>?_) (fun c0=>?_)
     ·have hP:=Fx.cT c0 hP
      refine aK hF rfl rfl rfl c0 (aD (off':=1) Tryz.underlying156 rfl in3 rfl hF rfl rfl rfl) rfl rfl fun a hF=>?_
      refine aK hF rfl rfl rfl c0 (aJ Tryz.isAgg3 hF rfl rfl (hM.cell (i:=1) rfl (RPiece.g_from_ _))) rfl rfl fun a hF=>?_
      refine aK hF rfl rfl rfl c0 (aD (off':=1) Tryz.underlying156 rfl in3 rfl hF rfl rfl rfl) rfl rfl fun a hF=>?_
      refine aK hF rfl rfl rfl c0 (aJ Tryz.isAgg3 hF rfl rfl (hM.cell (i:=0) rfl (RPiece.g_from_ _))) rfl rfl fun a hF=>?_
      refine aK hF rfl rfl rfl c0 (aD (off':=2) Tryz.underlying156 rfl in23 rfl hF rfl rfl rfl) rfl rfl fun a hF=>?_
      refine aK hF rfl rfl rfl c0 (aJ Tryz.isAgg23 hF rfl rfl (hM.cell (i:=0) rfl (RPiece.g_old _))) rfl rfl fun a hF=>?_
      refine aK hF rfl rfl rfl c0 (bG (j8 _ (hsub _ (dropM hM 2))) Tryz.underlying23 hF rfl rfl) rfl rfl fun a hF=>?_
      refine aK hF rfl rfl rfl c0 (cA hF rfl rfl rfl) rfl rfl fun a hF=>?_
      refine aK hF rfl rfl rfl c0 (mR hF rfl rfl rfl) rfl rfl fun a hF=>?_
      refine aK hF rfl rfl rfl c1 (aP hF rfl rfl c0 rfl) rfl rfl fun a hF=>?_
      refine aA hF (aQ hF rfl rfl c1 rfl) rfl rfl rfl fun a hF=>?_
      refine aI (aB ?_)
      have hP:=Option.some.inj hP
      subst hP
      exact ⟨(decide (c4.from_ ≤ (IntKind.i64.wrap (d3.from_ + (d3.old.length:Int))))),rfl,hF.to ⟨rfl,rfl,rfl,rfl,trivial⟩,selM hM [] 2 rfl⟩
     have hP:=Fx.cF c0 hP
     refine aE hF rfl rfl rfl c0 rfl rfl fun a hF=>?_
     refine aE hF rfl rfl rfl c0 rfl rfl fun a hF=>?_
     refine aE hF rfl rfl rfl c0 rfl rfl fun a hF=>?_
     refine aE hF rfl rfl rfl c0 rfl rfl fun a hF=>?_
     refine aE hF rfl rfl rfl c0 rfl rfl fun a hF=>?_
     refine aE hF rfl rfl rfl c0 rfl rfl fun a hF=>?_
     refine aE hF rfl rfl rfl c0 rfl rfl fun a hF=>?_
     refine aE hF rfl rfl rfl c0 rfl rfl fun a hF=>?_
     refine aE hF rfl rfl rfl c0 rfl rfl fun a hF=>?_
     refine aK hF rfl rfl rfl c1 (aQ hF rfl rfl c0 rfl) rfl rfl fun a hF=>?_
     refine aA hF (aQ hF rfl rfl c1 rfl) rfl rfl rfl fun a hF=>?_
     refine aI (aB ?_)
     have hP:=Option.some.inj hP
     subst hP
     exact ⟨false,rfl,hF.to ⟨rfl,rfl,rfl,rfl,trivial⟩,selM hM [] 2 rfl⟩
    rintro g4 a w hP ⟨hF,hM⟩
    replace hP:Sh.gF g4 = _:=hP
    unfold Sh.gF at hP
    refine aB ?_
    refine aR hF (c:=.tmp 98) rfl (fun d8=>?_) (fun d8=>?_)
    ·have hP:=Fx.cT d8 hP
     refine aH ?_
     refine aC ?_
     refine aA hF (aG hF rfl rfl) rfl rfl rfl fun a hF=>?_
     refine aI (aB ?_)
     refine c_ret ?_
     have hP:=Option.some.inj hP
     subst hP
     have hP:=cL i0
     subst hP
     have hP:=d9 _ rfl
     subst hP
     have hP:=cL g9
     subst hP
     refine aY Tryz.results198 hF rfl ?_
     exact ⟨rfl,hM⟩
    have hP:=Fx.cF d8 hP
    refine aT (bI (aB ?_))
    have hP:=Option.some.inj hP
    subst hP
    exact ⟨(),rfl,hF.to ⟨rfl,rfl,rfl,trivial⟩,hM⟩
   rintro ⟨⟩ a w hP ⟨hF,hM⟩
   replace hP:Sh.fG c8 = _:=hP
   unfold Sh.fG at hP
   refine aB ?_
   refine aC ?_
   refine aA hF (aF hF rfl rfl) rfl rfl rfl fun a hF=>?_
   refine aA hF (cA hF rfl rfl rfl) rfl rfl rfl fun a hF=>?_
   refine aA hF (aG hF rfl rfl) rfl rfl rfl fun a hF=>?_
   refine aI (aB ?_)
   have hP:=Option.some.inj hP
   subst hP
   exact ⟨(IntKind.i64.wrap (c8 + 1)),rfl,hF.to ⟨rfl,rfl,rfl,trivial⟩,hM⟩
  have hP:=Fx.cF g2 hP
  refine bW (bD (bD (cG ?_)))
  refine aB ?_
  have hP:=Option.some.inj hP
  subst hP
  have hP:=d9 _ rfl
  subst hP
  exact ⟨(),rfl,hF.to ⟨rfl,trivial⟩,hM⟩
 rintro ⟨⟩ a w hP ⟨hF,hM⟩
 replace hP:Sh.mA = _:=hP
 unfold Sh.mA at hP
 refine aB ?_
 refine aH ?_
 refine aC ?_
 refine aA hF (aG hF rfl rfl) rfl rfl rfl fun a hF=>?_
 refine aI (aB ?_)
 refine c_ret ?_
 have hP:=Option.some.inj hP
 subst hP
 refine aY Tryz.results198 hF rfl ?_
 exact ⟨rfl,hM⟩
set_option maxHeartbeats 4000000 in
theorem jG {x0:QMark} {s1:SV} {s3:SV} {s5:SV} {hs6:List RPiece} {s9:SV} {out:Bool} {w0:World} {Bf:World → Prop} {Lr:List Res} (hP:Sh.jD x0 = some out) (hM:MemL w0 (Lr)) (hsub:∀ w,MemL w Lr → Bf w) (f2:LIn Bf s1 x0.regs) (f4:LIn Bf s3 x0.slots) (f7:LIn Bf s5 hs6) (q8:Each (QPieceIn Bf) hs6 x0.pieces) (f10:LIn Bf s9 x0.sent):Calls Tryz.prog 135 #[.agg (RMark.enc (RMark.mk x0.at_ x0.next x0.done s1 s3 s5 s9)).toArray] w0 (Ret fun v w'=>v = .bool out ∧ MemL w' (Lr)):=by
 unfold Sh.jD at hP
 refine aM (vs:=[.agg (RMark.enc (RMark.mk x0.at_ x0.next x0.done s1 s3 s5 s9)).toArray]) Tryz.func135 rfl Tryz.ntmps135 rfl fun a hF=>?_
 refine aH ?_
 refine aC ?_
 refine aN hF rfl rfl rfl (dD hF rfl rfl rfl fun c0 w j7 g6=>?_)
 have hM:=hM.plus g6
 replace hM:MemL _ (pt c0 (RMark.enc (RMark.mk x0.at_ x0.next x0.done s1 s3 s5 s9)) 60 :: Lr):=hM
 intro a hF
 refine aA hF (aG hF rfl rfl) rfl rfl rfl fun a hF=>?_
 refine aI (aB ?_)
 refine aH ?_
 refine aH ?_
 refine aS hF hM hP (fun F x a w=>match x with | g9=>Fr 104 [(22,.bool g9),(1,.pointer (some ⟨c0,0,none⟩)),(2,.bool false)] a ∧ MemL w (pt c0 (RMark.enc (RMark.mk x0.at_ x0.next x0.done s1 s3 s5 s9)) 60 :: Lr)) (fun k6 hP k0 hF hM=>?_) ?_
 ·refine aC ?_
  refine aA hF (aD (off':=0) Tryz.underlying60 rfl in3 rfl hF rfl rfl rfl) rfl rfl rfl fun a hF=>?_
  refine aA hF (aJ Tryz.isAgg3 hF rfl rfl (hM.cell (i:=0) rfl (RMark.g_at_ _))) rfl rfl rfl fun a hF=>?_
  obtain ⟨l3,j3,hP⟩:=bind_some hP
  refine aN hF rfl rfl rfl (aO (xs:=[.tmp 8,.const (.int .i64 (0)),.const (.int .i64 (4095))]) Tryz.call159 hF rfl rfl (cJ j3 hM ) fun v w hR=>?_)
  obtain ⟨rfl,hM⟩:=hR
  replace hM:MemL _ (pt c0 (RMark.enc (RMark.mk x0.at_ x0.next x0.done s1 s3 s5 s9)) 60 :: Lr):=hM
  intro a hF
  refine aA hF (dJ hF rfl rfl) rfl rfl rfl fun a hF=>?_
  refine aA hF (aF hF rfl rfl) rfl rfl rfl fun a hF=>?_
  refine aZ 11 hF rfl (fun c7=>?_) (fun c7=>?_)
  ·have hP:=Fx.cT c7 hP
   refine aE hF rfl rfl rfl c7 rfl rfl fun a hF=>?_
   refine aE hF rfl rfl rfl c7 rfl rfl fun a hF=>?_
   refine aE hF rfl rfl rfl c7 rfl rfl fun a hF=>?_
   refine aE hF rfl rfl rfl c7 rfl rfl fun a hF=>?_
   refine aA hF (aP hF rfl rfl c7 rfl) rfl rfl rfl fun a hF=>?_
   refine aA hF (aF hF rfl rfl) rfl rfl rfl fun a hF=>?_
   refine aE hF rfl rfl rfl rfl rfl rfl fun a hF=>?_
   refine aE hF rfl rfl rfl rfl rfl rfl fun a hF=>?_
   refine aE hF rfl rfl rfl rfl rfl rfl fun a hF=>?_
   refine aE hF rfl rfl rfl rfl rfl rfl fun a hF=>?_
   refine aA hF (aP hF rfl rfl rfl rfl) rfl rfl rfl fun a hF=>?_
   refine aI (aB ?_)
   have hP:=Option.some.inj hP
   subst hP
   exact ⟨true,rfl,hF.to ⟨rfl,rfl,rfl,trivial⟩,hM⟩
  have hP:=Fx.cF c7 hP
  refine aK hF rfl rfl rfl c7 (aD (off':=1) Tryz.underlying60 rfl in3 rfl hF rfl rfl rfl) rfl rfl fun a hF=>?_
  refine aK hF rfl rfl rfl c7 (aJ Tryz.isAgg3 hF rfl rfl (hM.cell (i:=0) rfl (RMark.g_next _))) rfl rfl fun a hF=>?_
  obtain ⟨l4,j4,hP⟩:=bind_some hP
  refine dX hF rfl rfl rfl c7 rfl rfl (aO (xs:=[.tmp 13,.const (.int .i64 (0)),.const (.int .i64 (4095))]) Tryz.call159 hF rfl rfl (cJ j4 hM ) fun v w hR=>?_)
  obtain ⟨rfl,hM⟩:=hR
  replace hM:MemL _ (pt c0 (RMark.enc (RMark.mk x0.at_ x0.next x0.done s1 s3 s5 s9)) 60 :: Lr):=hM
  intro a hF
  refine aK hF rfl rfl rfl c7 (dJ hF rfl rfl) rfl rfl fun a hF=>?_
  refine aA hF (aQ hF rfl rfl c7 rfl) rfl rfl rfl fun a hF=>?_
  refine aA hF (aF hF rfl rfl) rfl rfl rfl fun a hF=>?_
  refine aZ 17 hF rfl (fun c8=>?_) (fun c8=>?_)
  ·have hP:=Fx.cT c8 hP
   refine aE hF rfl rfl rfl c8 rfl rfl fun a hF=>?_
   refine aE hF rfl rfl rfl c8 rfl rfl fun a hF=>?_
   refine aE hF rfl rfl rfl c8 rfl rfl fun a hF=>?_
   refine aE hF rfl rfl rfl c8 rfl rfl fun a hF=>?_
   refine aA hF (aP hF rfl rfl c8 rfl) rfl rfl rfl fun a hF=>?_
   refine aI (aB ?_)
   have hP:=Option.some.inj hP
   subst hP
   exact ⟨true,rfl,hF.to ⟨rfl,rfl,rfl,trivial⟩,hM⟩
  have hP:=Fx.cF c8 hP
  refine aK hF rfl rfl rfl c8 (aD (off':=6) Tryz.underlying60 rfl in52 rfl hF rfl rfl rfl) rfl rfl fun a hF=>?_
  refine aK hF rfl rfl rfl c8 (aJ Tryz.isAgg52 hF rfl rfl (hM.cell (i:=0) rfl (RMark.g_sent _))) rfl rfl fun a hF=>?_
  refine aK hF rfl rfl rfl c8 (bG (f10 _ (hsub _ (dropM hM 1))) Tryz.underlying52 hF rfl rfl) rfl rfl fun a hF=>?_
  refine aK hF rfl rfl rfl c8 (eJ hF rfl rfl rfl) rfl rfl fun a hF=>?_
  refine aA hF (aQ hF rfl rfl c8 rfl) rfl rfl rfl fun a hF=>?_
  refine aI (aB ?_)
  have hP:=Option.some.inj hP
  subst hP
  exact ⟨(decide (1 < (x0.sent.length:Int))),rfl,hF.to ⟨rfl,rfl,rfl,trivial⟩,hM⟩
 rintro g9 a w hP ⟨hF,hM⟩
 replace hP:Sh.jL x0 g9 = _:=hP
 unfold Sh.jL at hP
 refine aB ?_
 refine aR hF (c:=.tmp 22) rfl (fun d7=>?_) (fun d7=>?_)
 ·have hP:=Fx.cT d7 hP
  refine aH ?_
  refine aC ?_
  refine aA hF (aG hF rfl rfl) rfl rfl rfl fun a hF=>?_
  refine aI (aB ?_)
  refine c_ret ?_
  have hP:=Option.some.inj hP
  subst hP
  refine aY Tryz.results135 hF rfl ?_
  exact ⟨rfl,selM hM [] 1 rfl⟩
 have hP:=Fx.cF d7 hP
 refine aT (aB ?_)
 refine aH ?_
 refine aS hF hM hP (fun F x a w=>match x with | _=>Fr 104 [(1,.pointer (some ⟨c0,0,none⟩)),(2,.bool false)] a ∧ MemL w (pt c0 (RMark.enc (RMark.mk x0.at_ x0.next x0.done s1 s3 s5 s9)) 60 :: Lr)) (fun k7 hP j1 hF hM=>?_) ?_
 ·refine aH ?_
  refine aC ?_
  refine aA hF (aG hF rfl rfl) rfl rfl rfl fun a hF=>?_
  refine aI (aB ?_)
  refine aV ?_
  refine bN hF hM hP (fun F x a w=>match x with | c9=>Fr 104 [(3,.int .i64 c9),(1,.pointer (some ⟨c0,0,none⟩)),(2,.bool false)] a ∧ MemL w (pt c0 (RMark.enc (RMark.mk x0.at_ x0.next x0.done s1 s3 s5 s9)) 60 :: Lr)) (fun hF hM=>⟨hF.to ⟨rfl,rfl,rfl,trivial⟩,hM⟩) ?_
  rintro c9 a w l1 hP i0 ⟨hF,hM⟩
  replace hP:Sh.eQ x0 c9 = _:=hP
  unfold Sh.eQ at hP
  refine aH ?_
  refine aH ?_
  refine aC ?_
  refine aA hF (aF hF rfl rfl) rfl rfl rfl fun a hF=>?_
  refine aA hF (aD (off':=3) Tryz.underlying60 rfl in56 rfl hF rfl rfl rfl) rfl rfl rfl fun a hF=>?_
  refine aA hF (aJ Tryz.isAgg56 hF rfl rfl (hM.cell (i:=0) rfl (RMark.g_regs _))) rfl rfl rfl fun a hF=>?_
  refine aA hF (bG (f2 _ (hsub _ (dropM hM 1))) Tryz.underlying56 hF rfl rfl) rfl rfl rfl fun a hF=>?_
  refine aA hF (cH hF rfl rfl rfl) rfl rfl rfl fun a hF=>?_
  refine aI (aB ?_)
  refine aR hF (c:=.tmp 27) rfl (fun d3=>?_) (fun d3=>?_)
  ·have hP:=Fx.cT d3 hP
   refine aT (aB ?_)
   refine aH ?_
   refine aV ?_
   refine aH ?_
   refine aC ?_
   refine aA hF (aD (off':=3) Tryz.underlying60 rfl in56 rfl hF rfl rfl rfl) rfl rfl rfl fun a hF=>?_
   refine aA hF (aJ Tryz.isAgg56 hF rfl rfl (hM.cell (i:=0) rfl (RMark.g_regs _))) rfl rfl rfl fun a hF=>?_
   refine aA hF (aF hF rfl rfl) rfl rfl rfl fun a hF=>?_
   obtain ⟨g0,g2,hP⟩:=bind_some hP
   have i2:=aW g2
   refine aA hF (bC (sz:=9) (f2 _ (hsub _ (dropM hM 1))) Tryz.underlying56 in128 rfl hF rfl rfl rfl (bK g2)) rfl rfl rfl fun a hF=>?_
   refine aA hF (bB Tryz.isAgg128 Tryz.sizeOf128 hF rfl rfl (LTurn.len _) (((f2 _ (hsub _ (dropM hM 1))).elemS i2.2))) rfl rfl rfl fun a hF=>?_
   refine aN hF rfl rfl rfl (cB z128 (zs:=LTurn.zero.enc) rfl rfl fun d1 w j8 g7=>?_)
   have hM:=hM.plus g7
   replace hM:MemL _ (pt d1 (LTurn.enc LTurn.zero) 128 :: pt c0 (RMark.enc (RMark.mk x0.at_ x0.next x0.done s1 s3 s5 s9)) 60 :: Lr):=hM
   intro a hF
   refine bO rfl rfl (bL (vs:=_) Tryz.sizeOf128 (hM.obj (i:=0) rfl) hF rfl rfl rfl rfl (LTurn.len _) (LTurn.one _) (by first | (rw [LTurn.len,LTurn.len]; decide) | (rw [LTurn.len]; decide)) (bU ((LTurn.len _).trans (LTurn.len _).symm)) fun w i6=>?_)
   have hM:=hM.chg i6 (i:=0) rfl
   replace hM:MemL _ (pt d1 (LTurn.enc g0) 128 :: pt c0 (RMark.enc (RMark.mk x0.at_ x0.next x0.done s1 s3 s5 s9)) 60 :: Lr):=hM
   refine aI (aB ?_)
   refine aH ?_
   refine aS hF hM hP (fun F x a w=>match x with | d8=>Fr 104 [(61,.bool d8),(1,.pointer (some ⟨c0,0,none⟩)),(2,.bool false),(3,.int .i64 c9)] a ∧ MemL w (pt c0 (RMark.enc (RMark.mk x0.at_ x0.next x0.done s1 s3 s5 s9)) 60 :: Lr)) (fun k8 hP k1 hF hM=>?_) ?_
   ·refine bQ mixed (by kernel_rfl) hM [0,1] 2 rfl fun hch=>?_
    refine aL hF hch 0 rfl (by kernel_rfl) rfl rfl rfl (fun w hM=>(aD (off':=0) Tryz.underlying128 rfl in3 rfl hF rfl rfl rfl)) fun a hF=>?_
    refine aL hF hch 1 rfl (by kernel_rfl) rfl rfl rfl (fun w hM=>(aJ Tryz.isAgg3 hF rfl rfl (hM.cell (i:=0) rfl (LTurn.g_reg _)))) fun a hF=>?_
    refine bS hch 2 (by kernel_rfl) rfl rfl ?_
    refine cR hF 2 rfl rfl rfl rfl rfl fun w hMs hM=>?_
    obtain ⟨k3,i8,hP⟩:=bind_some hP
    refine (aO (xs:=[.tmp 36,.const (.int .i64 (0)),.const (.int .i64 (10))]) Tryz.call159 hF rfl rfl (cJ i8 hM ) fun v w hR=>?_)
    obtain ⟨rfl,hM⟩:=hR
    replace hM:MemL _ (pt d1 (LTurn.enc g0) 128 :: pt c0 (RMark.enc (RMark.mk x0.at_ x0.next x0.done s1 s3 s5 s9)) 60 :: Lr):=hM
    have hMs:=selM hM [0,1] 2 rfl
    refine ⟨_,_,hMs,hM,.inl fun _ h=>h,fun a hF=>?_⟩
    refine aL hF hch 3 rfl (by kernel_rfl) rfl rfl rfl (fun w hM=>(dJ hF rfl rfl)) fun a hF=>?_
    refine aL hF hch 4 rfl (by kernel_rfl) rfl rfl rfl (fun w hM=>(aF hF rfl rfl)) fun a hF=>?_
    refine aZ 39 hF rfl (fun c3=>?_) (fun c3=>?_)
    ·have hP:=Fx.cT c3 hP
     refine bF hF hch 5 rfl (by kernel_rfl) rfl rfl rfl c3 rfl rfl fun a hF=>?_
     refine bF hF hch 6 rfl (by kernel_rfl) rfl rfl rfl c3 rfl rfl fun a hF=>?_
     refine bF hF hch 7 rfl (by kernel_rfl) rfl rfl rfl c3 rfl rfl fun a hF=>?_
     refine bF hF hch 8 rfl (by kernel_rfl) rfl rfl rfl c3 rfl rfl fun a hF=>?_
     refine bF hF hch 9 rfl (by kernel_rfl) rfl rfl rfl c3 rfl rfl fun a hF=>?_
     refine aL hF hch 10 rfl (by kernel_rfl) rfl rfl rfl (fun w hM=>(aP hF rfl rfl c3 rfl)) fun a hF=>?_
     refine aL hF hch 11 rfl (by kernel_rfl) rfl rfl rfl (fun w hM=>(aF hF rfl rfl)) fun a hF=>?_
     refine bF hF hch 12 rfl (by kernel_rfl) rfl rfl rfl rfl rfl rfl fun a hF=>?_
     refine bF hF hch 13 rfl (by kernel_rfl) rfl rfl rfl rfl rfl rfl fun a hF=>?_
     refine bF hF hch 14 rfl (by kernel_rfl) rfl rfl rfl rfl rfl rfl fun a hF=>?_
     refine cQ hF hch 15 rfl (by kernel_rfl) rfl rfl rfl rfl rfl fun a hF=>?_
     refine cQ hF hch 16 rfl (by kernel_rfl) rfl rfl rfl rfl rfl fun a hF=>?_
     refine cQ hF hch 17 rfl (by kernel_rfl) rfl rfl rfl rfl rfl fun a hF=>?_
     refine cQ hF hch 18 rfl (by kernel_rfl) rfl rfl rfl rfl rfl fun a hF=>?_
     refine cQ hF hch 19 rfl (by kernel_rfl) rfl rfl rfl rfl rfl fun a hF=>?_
     refine cQ hF hch 20 rfl (by kernel_rfl) rfl rfl rfl rfl rfl fun a hF=>?_
     refine cQ hF hch 21 rfl (by kernel_rfl) rfl rfl rfl rfl rfl fun a hF=>?_
     refine cQ hF hch 22 rfl (by kernel_rfl) rfl rfl rfl rfl rfl fun a hF=>?_
     refine cQ hF hch 23 rfl (by kernel_rfl) rfl rfl rfl rfl rfl fun a hF=>?_
     refine cQ hF hch 24 rfl (by kernel_rfl) rfl rfl rfl rfl rfl fun a hF=>?_
     refine bF hF hch 25 rfl (by kernel_rfl) rfl rfl rfl rfl rfl rfl fun a hF=>?_
     refine aL hF hch 26 rfl (by kernel_rfl) rfl rfl rfl (fun w hM=>(aP hF rfl rfl rfl rfl)) fun a hF=>?_
     refine cI hch (by kernel_rfl) fun w hM=>?_
     refine aB ?_
     have hP:=Option.some.inj hP
     subst hP
     exact ⟨true,rfl,hF.to ⟨rfl,rfl,rfl,rfl,trivial⟩,selM hM [1] 2 rfl⟩
    have hP:=Fx.cF c3 hP
    refine bM hF hch 5 rfl (by kernel_rfl) rfl rfl rfl c3 rfl rfl (fun w hM=>(aD (off':=1) Tryz.underlying128 rfl in46 rfl hF rfl rfl rfl)) fun a hF=>?_
    refine bM hF hch 6 rfl (by kernel_rfl) rfl rfl rfl c3 rfl rfl (fun w hM=>(bB Tryz.isAgg46 Tryz.sizeOf46 hF rfl rfl (LVal.len _) (hM.cells (i:=0) rfl (LTurn.c_old _)))) fun a hF=>?_
    refine bM hF hch 7 rfl (by kernel_rfl) rfl rfl rfl c3 rfl rfl (fun w hM=>(aD (off':=5) Tryz.underlying128 rfl in46 rfl hF rfl rfl rfl)) fun a hF=>?_
    refine bM hF hch 8 rfl (by kernel_rfl) rfl rfl rfl c3 rfl rfl (fun w hM=>(bB Tryz.isAgg46 Tryz.sizeOf46 hF rfl rfl (LVal.len _) (hM.cells (i:=0) rfl (LTurn.c_new _)))) fun a hF=>?_
    refine bM hF hch 9 rfl (by kernel_rfl) rfl rfl rfl c3 rfl rfl (fun w hM=>(hZ Tryz.eqGuardType46 (fY _ _ _ _ (by decide)) hF rfl rfl rfl)) fun a hF=>?_
    refine aL hF hch 10 rfl (by kernel_rfl) rfl rfl rfl (fun w hM=>(aQ hF rfl rfl c3 rfl)) fun a hF=>?_
    refine aL hF hch 11 rfl (by kernel_rfl) rfl rfl rfl (fun w hM=>(aF hF rfl rfl)) fun a hF=>?_
    refine aZ 46 hF rfl (fun c4=>?_) (fun c4=>?_)
    ·have hP:=Fx.cT c4 hP
     refine bF hF hch 12 rfl (by kernel_rfl) rfl rfl rfl c4 rfl rfl fun a hF=>?_
     refine bF hF hch 13 rfl (by kernel_rfl) rfl rfl rfl c4 rfl rfl fun a hF=>?_
     refine bF hF hch 14 rfl (by kernel_rfl) rfl rfl rfl c4 rfl rfl fun a hF=>?_
     refine cQ hF hch 15 rfl (by kernel_rfl) rfl rfl rfl rfl rfl fun a hF=>?_
     refine cQ hF hch 16 rfl (by kernel_rfl) rfl rfl rfl rfl rfl fun a hF=>?_
     refine cQ hF hch 17 rfl (by kernel_rfl) rfl rfl rfl rfl rfl fun a hF=>?_
     refine cQ hF hch 18 rfl (by kernel_rfl) rfl rfl rfl rfl rfl fun a hF=>?_
     refine cQ hF hch 19 rfl (by kernel_rfl) rfl rfl rfl rfl rfl fun a hF=>?_
     refine cQ hF hch 20 rfl (by kernel_rfl) rfl rfl rfl rfl rfl fun a hF=>?_
     refine cQ hF hch 21 rfl (by kernel_rfl) rfl rfl rfl rfl rfl fun a hF=>?_
     refine cQ hF hch 22 rfl (by kernel_rfl) rfl rfl rfl rfl rfl fun a hF=>?_
     refine cQ hF hch 23 rfl (by kernel_rfl) rfl rfl rfl rfl rfl fun a hF=>?_
     refine cQ hF hch 24 rfl (by kernel_rfl) rfl rfl rfl rfl rfl fun a hF=>?_
     refine bF hF hch 25 rfl (by kernel_rfl) rfl rfl rfl c4 rfl rfl fun a hF=>?_
     refine aL hF hch 26 rfl (by kernel_rfl) rfl rfl rfl (fun w hM=>(aP hF rfl rfl c4 rfl)) fun a hF=>?_
     refine cI hch (by kernel_rfl) fun w hM=>?_
     refine aB ?_
     have hP:=Option.some.inj hP
     subst hP
     exact ⟨true,rfl,hF.to ⟨rfl,rfl,rfl,rfl,trivial⟩,selM hM [1] 2 rfl⟩
    have hP:=Fx.cF c4 hP
    refine bM hF hch 12 rfl (by kernel_rfl) rfl rfl rfl c4 rfl rfl (fun w hM=>(aF hF rfl rfl)) fun a hF=>?_
    refine bM hF hch 13 rfl (by kernel_rfl) rfl rfl rfl c4 rfl rfl (fun w hM=>(eJ hF rfl rfl rfl)) fun a hF=>?_
    refine bM hF hch 14 rfl (by kernel_rfl) rfl rfl rfl c4 rfl rfl (fun w hM=>(aF hF rfl rfl)) fun a hF=>?_
    refine aZ 49 hF rfl (fun c1=>?_) (fun c1=>?_)
    ·have hP:=Fx.cT c1 hP
     refine bM hF hch 15 rfl (by kernel_rfl) rfl rfl rfl c1 rfl rfl (fun w hM=>(aD (off':=0) Tryz.underlying128 rfl in3 rfl hF rfl rfl rfl)) fun a hF=>?_
     refine bM hF hch 16 rfl (by kernel_rfl) rfl rfl rfl c1 rfl rfl (fun w hM=>(aJ Tryz.isAgg3 hF rfl rfl (hM.cell (i:=0) rfl (LTurn.g_reg _)))) fun a hF=>?_
     refine bM hF hch 17 rfl (by kernel_rfl) rfl rfl rfl c1 rfl rfl (fun w hM=>(aD (off':=3) Tryz.underlying60 rfl in56 rfl hF rfl rfl rfl)) fun a hF=>?_
     refine bM hF hch 18 rfl (by kernel_rfl) rfl rfl rfl c1 rfl rfl (fun w hM=>(aJ Tryz.isAgg56 hF rfl rfl (hM.cell (i:=1) rfl (RMark.g_regs _)))) fun a hF=>?_
     refine bM hF hch 19 rfl (by kernel_rfl) rfl rfl rfl c1 rfl rfl (fun w hM=>(aF hF rfl rfl)) fun a hF=>?_
     refine bM hF hch 20 rfl (by kernel_rfl) rfl rfl rfl c1 rfl rfl (fun w hM=>(fH hF rfl rfl rfl)) fun a hF=>?_
     obtain ⟨j5,g3,hP⟩:=bind_some hP
     have i3:=aW g3
     refine bM hF hch 21 rfl (by kernel_rfl) rfl rfl rfl c1 rfl rfl (fun w hM=>(bC (sz:=9) (f2 _ (hsub _ (dropM hM 2))) Tryz.underlying56 in128 rfl hF rfl rfl rfl (bK g3))) fun a hF=>?_
     refine bM hF hch 22 rfl (by kernel_rfl) rfl rfl rfl c1 rfl rfl (fun w hM=>(aD Tryz.underlying128 rfl in3 rfl hF rfl rfl rfl)) fun a hF=>?_
     refine bM hF hch 23 rfl (by kernel_rfl) rfl rfl rfl c1 rfl rfl (fun w hM=>(aJ Tryz.isAgg3 hF rfl rfl ((((f2 _ (hsub _ (dropM hM 2))).elemS i3.2)).get 0 (LTurn.g_reg _)))) fun a hF=>?_
     refine bM hF hch 24 rfl (by kernel_rfl) rfl rfl rfl c1 rfl rfl (fun w hM=>(mR hF rfl rfl rfl)) fun a hF=>?_
     refine bM hF hch 25 rfl (by kernel_rfl) rfl rfl rfl c4 rfl rfl (fun w hM=>(aP hF rfl rfl c1 rfl)) fun a hF=>?_
     refine aL hF hch 26 rfl (by kernel_rfl) rfl rfl rfl (fun w hM=>(aQ hF rfl rfl c4 rfl)) fun a hF=>?_
     refine cI hch (by kernel_rfl) fun w hM=>?_
     refine aB ?_
     have hP:=Option.some.inj hP
     subst hP
     exact ⟨(decide (g0.reg ≤ j5.reg)),rfl,hF.to ⟨rfl,rfl,rfl,rfl,trivial⟩,selM hM [1] 2 rfl⟩
    have hP:=Fx.cF c1 hP
    refine bF hF hch 15 rfl (by kernel_rfl) rfl rfl rfl c1 rfl rfl fun a hF=>?_
    refine bF hF hch 16 rfl (by kernel_rfl) rfl rfl rfl c1 rfl rfl fun a hF=>?_
    refine bF hF hch 17 rfl (by kernel_rfl) rfl rfl rfl c1 rfl rfl fun a hF=>?_
    refine bF hF hch 18 rfl (by kernel_rfl) rfl rfl rfl c1 rfl rfl fun a hF=>?_
    refine bF hF hch 19 rfl (by kernel_rfl) rfl rfl rfl c1 rfl rfl fun a hF=>?_
    refine bF hF hch 20 rfl (by kernel_rfl) rfl rfl rfl c1 rfl rfl fun a hF=>?_
    refine bF hF hch 21 rfl (by kernel_rfl) rfl rfl rfl c1 rfl rfl fun a hF=>?_
    refine bF hF hch 22 rfl (by kernel_rfl) rfl rfl rfl c1 rfl rfl fun a hF=>?_
    refine bF hF hch 23 rfl (by kernel_rfl) rfl rfl rfl c1 rfl rfl fun a hF=>?_
    refine bF hF hch 24 rfl (by kernel_rfl) rfl rfl rfl c1 rfl rfl fun a hF=>?_
    refine bM hF hch 25 rfl (by kernel_rfl) rfl rfl rfl c4 rfl rfl (fun w hM=>(aQ hF rfl rfl c1 rfl)) fun a hF=>?_
    refine aL hF hch 26 rfl (by kernel_rfl) rfl rfl rfl (fun w hM=>(aQ hF rfl rfl c4 rfl)) fun a hF=>?_
    refine cI hch (by kernel_rfl) fun w hM=>?_
    refine aB ?_
    have hP:=Option.some.inj hP
    subst hP
    exact ⟨false,rfl,hF.to ⟨rfl,rfl,rfl,rfl,trivial⟩,selM hM [1] 2 rfl⟩
   rintro d8 a w hP ⟨hF,hM⟩
   replace hP:Sh.kW c9 d8 = _:=hP
   unfold Sh.kW at hP
   refine aB ?_
   refine aR hF (c:=.tmp 61) rfl (fun d4=>?_) (fun d4=>?_)
   ·have hP:=Fx.cT d4 hP
    refine aH ?_
    refine aC ?_
    refine aA hF (aG hF rfl rfl) rfl rfl rfl fun a hF=>?_
    refine aI (aB ?_)
    refine c_ret ?_
    have hP:=Option.some.inj hP
    subst hP
    have hP:=i0 _ rfl
    subst hP
    have hP:=cL j1
    subst hP
    refine aY Tryz.results135 hF rfl ?_
    exact ⟨rfl,selM hM [] 1 rfl⟩
   have hP:=Fx.cF d4 hP
   refine aT (bI (aB ?_))
   refine aC ?_
   refine aA hF (aF hF rfl rfl) rfl rfl rfl fun a hF=>?_
   refine aA hF (cA hF rfl rfl rfl) rfl rfl rfl fun a hF=>?_
   refine aA hF (aG hF rfl rfl) rfl rfl rfl fun a hF=>?_
   refine aI (aB ?_)
   have hP:=Option.some.inj hP
   subst hP
   exact ⟨(IntKind.i64.wrap (c9 + 1)),rfl,hF.to ⟨rfl,rfl,rfl,trivial⟩,hM⟩
  have hP:=Fx.cF d3 hP
  refine bW (bD (bD (cG ?_)))
  refine aB ?_
  have hP:=Option.some.inj hP
  subst hP
  have hP:=i0 _ rfl
  subst hP
  exact ⟨(),rfl,hF.to ⟨rfl,rfl,trivial⟩,hM⟩
 rintro ⟨⟩ a w hP ⟨hF,hM⟩
 replace hP:Sh.jM x0 = _:=hP
 unfold Sh.jM at hP
 refine aB ?_
 refine aH ?_
 refine aS hF hM hP (fun F x a w=>match x with | _=>Fr 104 [(1,.pointer (some ⟨c0,0,none⟩)),(2,.bool false)] a ∧ MemL w (pt c0 (RMark.enc (RMark.mk x0.at_ x0.next x0.done s1 s3 s5 s9)) 60 :: Lr)) (fun k9 hP j2 hF hM=>?_) ?_
 ·refine aH ?_
  refine aC ?_
  refine aA hF (aG hF rfl rfl) rfl rfl rfl fun a hF=>?_
  refine aI (aB ?_)
  refine aV ?_
  refine bN hF hM hP (fun F x a w=>match x with | d0=>Fr 104 [(5,.int .i64 d0),(1,.pointer (some ⟨c0,0,none⟩)),(2,.bool false)] a ∧ MemL w (pt c0 (RMark.enc (RMark.mk x0.at_ x0.next x0.done s1 s3 s5 s9)) 60 :: Lr)) (fun hF hM=>⟨hF.to ⟨rfl,rfl,rfl,trivial⟩,hM⟩) ?_
  rintro d0 a w l2 hP i1 ⟨hF,hM⟩
  replace hP:Sh.eR x0 d0 = _:=hP
  unfold Sh.eR at hP
  refine aH ?_
  refine aH ?_
  refine aC ?_
  refine aA hF (aF hF rfl rfl) rfl rfl rfl fun a hF=>?_
  refine aA hF (aD (off':=4) Tryz.underlying60 rfl in57 rfl hF rfl rfl rfl) rfl rfl rfl fun a hF=>?_
  refine aA hF (aJ Tryz.isAgg57 hF rfl rfl (hM.cell (i:=0) rfl (RMark.g_slots _))) rfl rfl rfl fun a hF=>?_
  refine aA hF (bG (f4 _ (hsub _ (dropM hM 1))) Tryz.underlying57 hF rfl rfl) rfl rfl rfl fun a hF=>?_
  refine aA hF (cH hF rfl rfl rfl) rfl rfl rfl fun a hF=>?_
  refine aI (aB ?_)
  refine aR hF (c:=.tmp 66) rfl (fun d5=>?_) (fun d5=>?_)
  ·have hP:=Fx.cT d5 hP
   refine aT (aB ?_)
   refine aH ?_
   refine aV ?_
   refine aH ?_
   refine aC ?_
   refine aA hF (aD (off':=4) Tryz.underlying60 rfl in57 rfl hF rfl rfl rfl) rfl rfl rfl fun a hF=>?_
   refine aA hF (aJ Tryz.isAgg57 hF rfl rfl (hM.cell (i:=0) rfl (RMark.g_slots _))) rfl rfl rfl fun a hF=>?_
   refine aA hF (aF hF rfl rfl) rfl rfl rfl fun a hF=>?_
   obtain ⟨g1,g4,hP⟩:=bind_some hP
   have i4:=aW g4
   refine aA hF (bC (sz:=27) (f4 _ (hsub _ (dropM hM 1))) Tryz.underlying57 in151 rfl hF rfl rfl rfl (bK g4)) rfl rfl rfl fun a hF=>?_
   refine aA hF (bB Tryz.isAgg151 Tryz.sizeOf151 hF rfl rfl (LCell.len _) (((f4 _ (hsub _ (dropM hM 1))).elemS i4.2))) rfl rfl rfl fun a hF=>?_
   refine aN hF rfl rfl rfl (cB z151 (zs:=LCell.zero.enc) rfl rfl fun d2 w j9 g8=>?_)
   have hM:=hM.plus g8
   replace hM:MemL _ (pt d2 (LCell.enc LCell.zero) 151 :: pt c0 (RMark.enc (RMark.mk x0.at_ x0.next x0.done s1 s3 s5 s9)) 60 :: Lr):=hM
   intro a hF
   refine bO rfl rfl (bL (vs:=_) Tryz.sizeOf151 (hM.obj (i:=0) rfl) hF rfl rfl rfl rfl (LCell.len _) (LCell.one _) (by first | (rw [LCell.len,LCell.len]; decide) | (rw [LCell.len]; decide)) (bU ((LCell.len _).trans (LCell.len _).symm)) fun w i7=>?_)
   have hM:=hM.chg i7 (i:=0) rfl
   replace hM:MemL _ (pt d2 (LCell.enc g1) 151 :: pt c0 (RMark.enc (RMark.mk x0.at_ x0.next x0.done s1 s3 s5 s9)) 60 :: Lr):=hM
   refine aI (aB ?_)
   refine aH ?_
   refine aS hF hM hP (fun F x a w=>match x with | d9=>Fr 104 [(100,.bool d9),(1,.pointer (some ⟨c0,0,none⟩)),(2,.bool false),(5,.int .i64 d0)] a ∧ MemL w (pt c0 (RMark.enc (RMark.mk x0.at_ x0.next x0.done s1 s3 s5 s9)) 60 :: Lr)) (fun l0 hP k2 hF hM=>?_) ?_
   ·refine bQ mixed (by kernel_rfl) hM [0,1] 2 rfl fun hch=>?_
    refine aL hF hch 0 rfl (by kernel_rfl) rfl rfl rfl (fun w hM=>(aD (off':=0) Tryz.underlying151 rfl in3 rfl hF rfl rfl rfl)) fun a hF=>?_
    refine aL hF hch 1 rfl (by kernel_rfl) rfl rfl rfl (fun w hM=>(aJ Tryz.isAgg3 hF rfl rfl (hM.cell (i:=0) rfl (LCell.g_slot _)))) fun a hF=>?_
    refine bS hch 2 (by kernel_rfl) rfl rfl ?_
    refine cR hF 2 rfl rfl rfl rfl rfl fun w hMs hM=>?_
    obtain ⟨k4,i9,hP⟩:=bind_some hP
    refine (aO (xs:=[.tmp 75,.const (.int .i64 (0)),.const (.int .i64 (31))]) Tryz.call159 hF rfl rfl (cJ i9 hM ) fun v w hR=>?_)
    obtain ⟨rfl,hM⟩:=hR
    replace hM:MemL _ (pt d2 (LCell.enc g1) 151 :: pt c0 (RMark.enc (RMark.mk x0.at_ x0.next x0.done s1 s3 s5 s9)) 60 :: Lr):=hM
    have hMs:=selM hM [0,1] 2 rfl
    refine ⟨_,_,hMs,hM,.inl fun _ h=>h,fun a hF=>?_⟩
    refine aL hF hch 3 rfl (by kernel_rfl) rfl rfl rfl (fun w hM=>(dJ hF rfl rfl)) fun a hF=>?_
    refine aL hF hch 4 rfl (by kernel_rfl) rfl rfl rfl (fun w hM=>(aF hF rfl rfl)) fun a hF=>?_
    refine aZ 78 hF rfl (fun c5=>?_) (fun c5=>?_)
    ·have hP:=Fx.cT c5 hP
     refine bF hF hch 5 rfl (by kernel_rfl) rfl rfl rfl c5 rfl rfl fun a hF=>?_
     refine bF hF hch 6 rfl (by kernel_rfl) rfl rfl rfl c5 rfl rfl fun a hF=>?_
     refine bF hF hch 7 rfl (by kernel_rfl) rfl rfl rfl c5 rfl rfl fun a hF=>?_
     refine bF hF hch 8 rfl (by kernel_rfl) rfl rfl rfl c5 rfl rfl fun a hF=>?_
     refine bF hF hch 9 rfl (by kernel_rfl) rfl rfl rfl c5 rfl rfl fun a hF=>?_
     refine aL hF hch 10 rfl (by kernel_rfl) rfl rfl rfl (fun w hM=>(aP hF rfl rfl c5 rfl)) fun a hF=>?_
     refine aL hF hch 11 rfl (by kernel_rfl) rfl rfl rfl (fun w hM=>(aF hF rfl rfl)) fun a hF=>?_
     refine bF hF hch 12 rfl (by kernel_rfl) rfl rfl rfl rfl rfl rfl fun a hF=>?_
     refine bF hF hch 13 rfl (by kernel_rfl) rfl rfl rfl rfl rfl rfl fun a hF=>?_
     refine bF hF hch 14 rfl (by kernel_rfl) rfl rfl rfl rfl rfl rfl fun a hF=>?_
     refine cQ hF hch 15 rfl (by kernel_rfl) rfl rfl rfl rfl rfl fun a hF=>?_
     refine cQ hF hch 16 rfl (by kernel_rfl) rfl rfl rfl rfl rfl fun a hF=>?_
     refine cQ hF hch 17 rfl (by kernel_rfl) rfl rfl rfl rfl rfl fun a hF=>?_
     refine cQ hF hch 18 rfl (by kernel_rfl) rfl rfl rfl rfl rfl fun a hF=>?_
     refine cQ hF hch 19 rfl (by kernel_rfl) rfl rfl rfl rfl rfl fun a hF=>?_
     refine cQ hF hch 20 rfl (by kernel_rfl) rfl rfl rfl rfl rfl fun a hF=>?_
     refine cQ hF hch 21 rfl (by kernel_rfl) rfl rfl rfl rfl rfl fun a hF=>?_
     refine cQ hF hch 22 rfl (by kernel_rfl) rfl rfl rfl rfl rfl fun a hF=>?_
     refine cQ hF hch 23 rfl (by kernel_rfl) rfl rfl rfl rfl rfl fun a hF=>?_
     refine cQ hF hch 24 rfl (by kernel_rfl) rfl rfl rfl rfl rfl fun a hF=>?_
     refine bF hF hch 25 rfl (by kernel_rfl) rfl rfl rfl rfl rfl rfl fun a hF=>?_
     refine aL hF hch 26 rfl (by kernel_rfl) rfl rfl rfl (fun w hM=>(aP hF rfl rfl rfl rfl)) fun a hF=>?_
     refine cI hch (by kernel_rfl) fun w hM=>?_
     refine aB ?_
     have hP:=Option.some.inj hP
     subst hP
     exact ⟨true,rfl,hF.to ⟨rfl,rfl,rfl,rfl,trivial⟩,selM hM [1] 2 rfl⟩
    have hP:=Fx.cF c5 hP
    refine bM hF hch 5 rfl (by kernel_rfl) rfl rfl rfl c5 rfl rfl (fun w hM=>(aD (off':=1) Tryz.underlying151 rfl in50 rfl hF rfl rfl rfl)) fun a hF=>?_
    refine bM hF hch 6 rfl (by kernel_rfl) rfl rfl rfl c5 rfl rfl (fun w hM=>(bB Tryz.isAgg50 Tryz.sizeOf50 hF rfl rfl (LSlot.len _) (hM.cells (i:=0) rfl (LCell.c_old _)))) fun a hF=>?_
    refine bM hF hch 7 rfl (by kernel_rfl) rfl rfl rfl c5 rfl rfl (fun w hM=>(aD (off':=14) Tryz.underlying151 rfl in50 rfl hF rfl rfl rfl)) fun a hF=>?_
    refine bM hF hch 8 rfl (by kernel_rfl) rfl rfl rfl c5 rfl rfl (fun w hM=>(bB Tryz.isAgg50 Tryz.sizeOf50 hF rfl rfl (LSlot.len _) (hM.cells (i:=0) rfl (LCell.c_new _)))) fun a hF=>?_
    refine bM hF hch 9 rfl (by kernel_rfl) rfl rfl rfl c5 rfl rfl (fun w hM=>(hZ Tryz.eqGuardType50 (gS _ _ _ _ (by decide)) hF rfl rfl rfl)) fun a hF=>?_
    refine aL hF hch 10 rfl (by kernel_rfl) rfl rfl rfl (fun w hM=>(aQ hF rfl rfl c5 rfl)) fun a hF=>?_
    refine aL hF hch 11 rfl (by kernel_rfl) rfl rfl rfl (fun w hM=>(aF hF rfl rfl)) fun a hF=>?_
    refine aZ 85 hF rfl (fun c6=>?_) (fun c6=>?_)
    ·have hP:=Fx.cT c6 hP
     refine bF hF hch 12 rfl (by kernel_rfl) rfl rfl rfl c6 rfl rfl fun a hF=>?_
     refine bF hF hch 13 rfl (by kernel_rfl) rfl rfl rfl c6 rfl rfl fun a hF=>?_
     refine bF hF hch 14 rfl (by kernel_rfl) rfl rfl rfl c6 rfl rfl fun a hF=>?_
     refine cQ hF hch 15 rfl (by kernel_rfl) rfl rfl rfl rfl rfl fun a hF=>?_
     refine cQ hF hch 16 rfl (by kernel_rfl) rfl rfl rfl rfl rfl fun a hF=>?_
     refine cQ hF hch 17 rfl (by kernel_rfl) rfl rfl rfl rfl rfl fun a hF=>?_
     refine cQ hF hch 18 rfl (by kernel_rfl) rfl rfl rfl rfl rfl fun a hF=>?_
     refine cQ hF hch 19 rfl (by kernel_rfl) rfl rfl rfl rfl rfl fun a hF=>?_
     refine cQ hF hch 20 rfl (by kernel_rfl) rfl rfl rfl rfl rfl fun a hF=>?_
     refine cQ hF hch 21 rfl (by kernel_rfl) rfl rfl rfl rfl rfl fun a hF=>?_
     refine cQ hF hch 22 rfl (by kernel_rfl) rfl rfl rfl rfl rfl fun a hF=>?_
     refine cQ hF hch 23 rfl (by kernel_rfl) rfl rfl rfl rfl rfl fun a hF=>?_
     refine cQ hF hch 24 rfl (by kernel_rfl) rfl rfl rfl rfl rfl fun a hF=>?_
     refine bF hF hch 25 rfl (by kernel_rfl) rfl rfl rfl c6 rfl rfl fun a hF=>?_
     refine aL hF hch 26 rfl (by kernel_rfl) rfl rfl rfl (fun w hM=>(aP hF rfl rfl c6 rfl)) fun a hF=>?_
     refine cI hch (by kernel_rfl) fun w hM=>?_
     refine aB ?_
     have hP:=Option.some.inj hP
     subst hP
     exact ⟨true,rfl,hF.to ⟨rfl,rfl,rfl,rfl,trivial⟩,selM hM [1] 2 rfl⟩
    have hP:=Fx.cF c6 hP
    refine bM hF hch 12 rfl (by kernel_rfl) rfl rfl rfl c6 rfl rfl (fun w hM=>(aF hF rfl rfl)) fun a hF=>?_
    refine bM hF hch 13 rfl (by kernel_rfl) rfl rfl rfl c6 rfl rfl (fun w hM=>(eJ hF rfl rfl rfl)) fun a hF=>?_
    refine bM hF hch 14 rfl (by kernel_rfl) rfl rfl rfl c6 rfl rfl (fun w hM=>(aF hF rfl rfl)) fun a hF=>?_
    refine aZ 88 hF rfl (fun c2=>?_) (fun c2=>?_)
    ·have hP:=Fx.cT c2 hP
     refine bM hF hch 15 rfl (by kernel_rfl) rfl rfl rfl c2 rfl rfl (fun w hM=>(aD (off':=0) Tryz.underlying151 rfl in3 rfl hF rfl rfl rfl)) fun a hF=>?_
     refine bM hF hch 16 rfl (by kernel_rfl) rfl rfl rfl c2 rfl rfl (fun w hM=>(aJ Tryz.isAgg3 hF rfl rfl (hM.cell (i:=0) rfl (LCell.g_slot _)))) fun a hF=>?_
     refine bM hF hch 17 rfl (by kernel_rfl) rfl rfl rfl c2 rfl rfl (fun w hM=>(aD (off':=4) Tryz.underlying60 rfl in57 rfl hF rfl rfl rfl)) fun a hF=>?_
     refine bM hF hch 18 rfl (by kernel_rfl) rfl rfl rfl c2 rfl rfl (fun w hM=>(aJ Tryz.isAgg57 hF rfl rfl (hM.cell (i:=1) rfl (RMark.g_slots _)))) fun a hF=>?_
     refine bM hF hch 19 rfl (by kernel_rfl) rfl rfl rfl c2 rfl rfl (fun w hM=>(aF hF rfl rfl)) fun a hF=>?_
     refine bM hF hch 20 rfl (by kernel_rfl) rfl rfl rfl c2 rfl rfl (fun w hM=>(fH hF rfl rfl rfl)) fun a hF=>?_
     obtain ⟨j6,g5,hP⟩:=bind_some hP
     have i5:=aW g5
     refine bM hF hch 21 rfl (by kernel_rfl) rfl rfl rfl c2 rfl rfl (fun w hM=>(bC (sz:=27) (f4 _ (hsub _ (dropM hM 2))) Tryz.underlying57 in151 rfl hF rfl rfl rfl (bK g5))) fun a hF=>?_
     refine bM hF hch 22 rfl (by kernel_rfl) rfl rfl rfl c2 rfl rfl (fun w hM=>(aD Tryz.underlying151 rfl in3 rfl hF rfl rfl rfl)) fun a hF=>?_
     refine bM hF hch 23 rfl (by kernel_rfl) rfl rfl rfl c2 rfl rfl (fun w hM=>(aJ Tryz.isAgg3 hF rfl rfl ((((f4 _ (hsub _ (dropM hM 2))).elemS i5.2)).get 0 (LCell.g_slot _)))) fun a hF=>?_
     refine bM hF hch 24 rfl (by kernel_rfl) rfl rfl rfl c2 rfl rfl (fun w hM=>(mR hF rfl rfl rfl)) fun a hF=>?_
     refine bM hF hch 25 rfl (by kernel_rfl) rfl rfl rfl c6 rfl rfl (fun w hM=>(aP hF rfl rfl c2 rfl)) fun a hF=>?_
     refine aL hF hch 26 rfl (by kernel_rfl) rfl rfl rfl (fun w hM=>(aQ hF rfl rfl c6 rfl)) fun a hF=>?_
     refine cI hch (by kernel_rfl) fun w hM=>?_
     refine aB ?_
     have hP:=Option.some.inj hP
     subst hP
     exact ⟨(decide (g1.slot ≤ j6.slot)),rfl,hF.to ⟨rfl,rfl,rfl,rfl,trivial⟩,selM hM [1] 2 rfl⟩
    have hP:=Fx.cF c2 hP
    refine bF hF hch 15 rfl (by kernel_rfl) rfl rfl rfl c2 rfl rfl fun a hF=>?_
    refine bF hF hch 16 rfl (by kernel_rfl) rfl rfl rfl c2 rfl rfl fun a hF=>?_
    refine bF hF hch 17 rfl (by kernel_rfl) rfl rfl rfl c2 rfl rfl fun a hF=>?_
    refine bF hF hch 18 rfl (by kernel_rfl) rfl rfl rfl c2 rfl rfl fun a hF=>?_
    refine bF hF hch 19 rfl (by kernel_rfl) rfl rfl rfl c2 rfl rfl fun a hF=>?_
    refine bF hF hch 20 rfl (by kernel_rfl) rfl rfl rfl c2 rfl rfl fun a hF=>?_
    refine bF hF hch 21 rfl (by kernel_rfl) rfl rfl rfl c2 rfl rfl fun a hF=>?_
    refine bF hF hch 22 rfl (by kernel_rfl) rfl rfl rfl c2 rfl rfl fun a hF=>?_
    refine bF hF hch 23 rfl (by kernel_rfl) rfl rfl rfl c2 rfl rfl fun a hF=>?_
    refine bF hF hch 24 rfl (by kernel_rfl) rfl rfl rfl c2 rfl rfl fun a hF=>?_
    refine bM hF hch 25 rfl (by kernel_rfl) rfl rfl rfl c6 rfl rfl (fun w hM=>(aQ hF rfl rfl c2 rfl)) fun a hF=>?_
    refine aL hF hch 26 rfl (by kernel_rfl) rfl rfl rfl (fun w hM=>(aQ hF rfl rfl c6 rfl)) fun a hF=>?_
    refine cI hch (by kernel_rfl) fun w hM=>?_
    refine aB ?_
    have hP:=Option.some.inj hP
    subst hP
    exact ⟨false,rfl,hF.to ⟨rfl,rfl,rfl,rfl,trivial⟩,selM hM [1] 2 rfl⟩
   rintro d9 a w hP ⟨hF,hM⟩
   replace hP:Sh.kX d0 d9 = _:=hP
   unfold Sh.kX at hP
   refine aB ?_
   refine aR hF (c:=.tmp 100) rfl (fun d6=>?_) (fun d6=>?_)
   ·have hP:=Fx.cT d6 hP
    refine aH ?_
    refine aC ?_
    refine aA hF (aG hF rfl rfl) rfl rfl rfl fun a hF=>?_
    refine aI (aB ?_)
    refine c_ret ?_
    have hP:=Option.some.inj hP
    subst hP
    have hP:=i1 _ rfl
    subst hP
    have hP:=cL j2
    subst hP
    refine aY Tryz.results135 hF rfl ?_
    exact ⟨rfl,selM hM [] 1 rfl⟩
   have hP:=Fx.cF d6 hP
   refine aT (bI (aB ?_))
   refine aC ?_
   refine aA hF (aF hF rfl rfl) rfl rfl rfl fun a hF=>?_
   refine aA hF (cA hF rfl rfl rfl) rfl rfl rfl fun a hF=>?_
   refine aA hF (aG hF rfl rfl) rfl rfl rfl fun a hF=>?_
   refine aI (aB ?_)
   have hP:=Option.some.inj hP
   subst hP
   exact ⟨(IntKind.i64.wrap (d0 + 1)),rfl,hF.to ⟨rfl,rfl,rfl,trivial⟩,hM⟩
  have hP:=Fx.cF d5 hP
  refine bW (bD (bD (cG ?_)))
  refine aB ?_
  have hP:=Option.some.inj hP
  subst hP
  have hP:=i1 _ rfl
  subst hP
  exact ⟨(),rfl,hF.to ⟨rfl,rfl,trivial⟩,hM⟩
 rintro ⟨⟩ a w hP ⟨hF,hM⟩
 replace hP:Sh.jN x0 = _:=hP
 unfold Sh.jN at hP
 refine aB ?_
 refine aH ?_
 refine aC ?_
 refine aA hF (aD (off':=5) Tryz.underlying60 rfl in58 rfl hF rfl rfl rfl) rfl rfl rfl fun a hF=>?_
 refine aA hF (aJ Tryz.isAgg58 hF rfl rfl (hM.cell (i:=0) rfl (RMark.g_pieces _))) rfl rfl rfl fun a hF=>?_
 obtain ⟨k5,j0,hP⟩:=bind_some hP
 refine aN hF rfl rfl rfl (aO (xs:=[.tmp 102]) Tryz.call198 hF rfl rfl (mG j0 hM (Bf:=Bf) (fun w hM=>hsub _ (dropM hM 1)) f7 q8) fun v w hR=>?_)
 obtain ⟨rfl,hM⟩:=hR
 replace hM:MemL _ (pt c0 (RMark.enc (RMark.mk x0.at_ x0.next x0.done s1 s3 s5 s9)) 60 :: Lr):=hM
 intro a hF
 refine aA hF (aG hF rfl rfl) rfl rfl rfl fun a hF=>?_
 refine aI (aB ?_)
 refine c_ret ?_
 have hP:=Option.some.inj hP
 subst hP
 refine aY Tryz.results135 hF rfl ?_
 exact ⟨rfl,selM hM [] 1 rfl⟩
set_option maxHeartbeats 4000000 in
theorem fJ {x0:LVal} {out:Bool} {w0:World} {Lr:List Res} (hP:Sh.gE x0 = some out) (hM:MemL w0 (Lr)):Calls Tryz.prog 180 #[.agg (LVal.enc x0).toArray] w0 (Ret fun v w'=>v = .bool out ∧ MemL w' (Lr)):=by
 unfold Sh.gE at hP
 refine aM (vs:=[.agg (LVal.enc x0).toArray]) Tryz.func180 rfl Tryz.ntmps180 rfl fun a hF=>?_
 refine aH ?_
 refine aC ?_
 refine aN hF rfl rfl rfl (dD hF rfl rfl rfl fun c1 w c3 c2=>?_)
 have hM:=hM.plus c2
 replace hM:MemL _ (pt c1 (LVal.enc x0) 46 :: Lr):=hM
 intro a hF
 refine aA hF (aG hF rfl rfl) rfl rfl rfl fun a hF=>?_
 refine aI (aB ?_)
 refine aH ?_
 refine aH ?_
 refine aC ?_
 refine aA hF (aD (off':=0) Tryz.underlying46 rfl in3 rfl hF rfl rfl rfl) rfl rfl rfl fun a hF=>?_
 refine aA hF (aJ Tryz.isAgg3 hF rfl rfl (hM.cell (i:=0) rfl (LVal.g_kind _))) rfl rfl rfl fun a hF=>?_
 obtain ⟨y55,hy55,hP⟩:=bind_some hP
 refine aN hF rfl rfl rfl (aO (xs:=[.tmp 4,.const (.int .i64 (0)),.const (.int .i64 (5))]) Tryz.call159 hF rfl rfl (cJ hy55 hM ) fun v w hR=>?_)
 obtain ⟨rfl,hM⟩:=hR
 replace hM:MemL _ (pt c1 (LVal.enc x0) 46 :: Lr):=hM
 intro a hF
 refine aA hF (dJ hF rfl rfl) rfl rfl rfl fun a hF=>?_
 refine aI (aB ?_)
 refine aR hF (c:=.tmp 6) rfl (fun hb56=>?_) (fun hb56=>?_)
 ·have hP:=Fx.cT hb56 hP
  refine aH ?_
  refine aC ?_
  refine aA hF (aG hF rfl rfl) rfl rfl rfl fun a hF=>?_
  refine aI (aB ?_)
  refine c_ret ?_
  have hP:=Option.some.inj hP
  subst hP
  refine aY Tryz.results180 hF rfl ?_
  exact ⟨rfl,selM hM [] 1 rfl⟩
 have hP:=Fx.cF hb56 hP
 refine aT (aB ?_)
 refine aH ?_
 refine aH ?_
 refine aC ?_
 refine aA hF (aD (off':=0) Tryz.underlying46 rfl in3 rfl hF rfl rfl rfl) rfl rfl rfl fun a hF=>?_
 refine aA hF (aJ Tryz.isAgg3 hF rfl rfl (hM.cell (i:=0) rfl (LVal.g_kind _))) rfl rfl rfl fun a hF=>?_
 refine aA hF (cE hF rfl rfl rfl) rfl rfl rfl fun a hF=>?_
 refine aI (aB ?_)
 refine aR hF (c:=.tmp 9) rfl (fun hb74=>?_) (fun hb74=>?_)
 ·have hP:=Fx.cT hb74 hP
  refine aH ?_
  refine aS hF hM hP (fun F x a w=>match x with | v85=>Fr 36 [(2,.bool v85),(1,.pointer (some ⟨c1,0,none⟩))] a ∧ MemL w (pt c1 (LVal.enc x0) 46 :: Lr)) (fun c6 hP c4 hF hM=>?_) ?_
  ·refine aC ?_
   refine aA hF (aD (off':=1) Tryz.underlying46 rfl in3 rfl hF rfl rfl rfl) rfl rfl rfl fun a hF=>?_
   refine aA hF (aJ Tryz.isAgg3 hF rfl rfl (hM.cell (i:=0) rfl (LVal.g_table _))) rfl rfl rfl fun a hF=>?_
   obtain ⟨y87,hy87,hP⟩:=bind_some hP
   refine aN hF rfl rfl rfl (aO (xs:=[.tmp 11,.const (.int .i64 (0)),.const (.int .i64 (7))]) Tryz.call159 hF rfl rfl (cJ hy87 hM ) fun v w hR=>?_)
   obtain ⟨rfl,hM⟩:=hR
   replace hM:MemL _ (pt c1 (LVal.enc x0) 46 :: Lr):=hM
   intro a hF
   refine aA hF (aF hF rfl rfl) rfl rfl rfl fun a hF=>?_
   refine aZ 13 hF rfl (fun hb88=>?_) (fun hb88=>?_)
   ·have hP:=Fx.cT hb88 hP
    refine aK hF rfl rfl rfl hb88 (aD (off':=2) Tryz.underlying46 rfl in3 rfl hF rfl rfl rfl) rfl rfl fun a hF=>?_
    refine aK hF rfl rfl rfl hb88 (aJ Tryz.isAgg3 hF rfl rfl (hM.cell (i:=0) rfl (LVal.g_row _))) rfl rfl fun a hF=>?_
    obtain ⟨y90,hy90,hP⟩:=bind_some hP
    refine dX hF rfl rfl rfl hb88 rfl rfl (aO (xs:=[.tmp 15,.const (.int .i64 (0)),.const (.int .i64 (63))]) Tryz.call159 hF rfl rfl (cJ hy90 hM ) fun v w hR=>?_)
    obtain ⟨rfl,hM⟩:=hR
    replace hM:MemL _ (pt c1 (LVal.enc x0) 46 :: Lr):=hM
    intro a hF
    refine aA hF (aP hF rfl rfl hb88 rfl) rfl rfl rfl fun a hF=>?_
    refine aA hF (aG hF rfl rfl) rfl rfl rfl fun a hF=>?_
    refine aI (aB ?_)
    have hP:=Option.some.inj hP
    subst hP
    exact ⟨y90,rfl,hF.to ⟨rfl,rfl,trivial⟩,hM⟩
   have hP:=Fx.cF hb88 hP
   refine aE hF rfl rfl rfl hb88 rfl rfl fun a hF=>?_
   refine aE hF rfl rfl rfl hb88 rfl rfl fun a hF=>?_
   refine aE hF rfl rfl rfl hb88 rfl rfl fun a hF=>?_
   refine aA hF (aQ hF rfl rfl hb88 rfl) rfl rfl rfl fun a hF=>?_
   refine aA hF (aG hF rfl rfl) rfl rfl rfl fun a hF=>?_
   refine aI (aB ?_)
   have hP:=Option.some.inj hP
   subst hP
   exact ⟨false,rfl,hF.to ⟨rfl,rfl,trivial⟩,hM⟩
  rintro v85 a w hP ⟨hF,hM⟩
  replace hP:Sh.hC v85 = _:=hP
  unfold Sh.hC at hP
  refine aB ?_
  refine c_ret ?_
  have hP:=Option.some.inj hP
  subst hP
  refine aY Tryz.results180 hF rfl ?_
  exact ⟨rfl,selM hM [] 1 rfl⟩
 have hP:=Fx.cF hb74 hP
 refine aT (aB ?_)
 refine aH ?_
 refine aS hF hM hP (fun F x a w=>match x with | v97=>Fr 36 [(2,.bool v97)] a ∧ MemL w (Lr)) (fun c7 hP c5 hF hM=>?_) ?_
 ·refine aC ?_
  refine aA hF (aD (off':=1) Tryz.underlying46 rfl in3 rfl hF rfl rfl rfl) rfl rfl rfl fun a hF=>?_
  refine aA hF (aJ Tryz.isAgg3 hF rfl rfl (hM.cell (i:=0) rfl (LVal.g_table _))) rfl rfl rfl fun a hF=>?_
  refine aA hF (cE hF rfl rfl rfl) rfl rfl rfl fun a hF=>?_
  refine aA hF (aF hF rfl rfl) rfl rfl rfl fun a hF=>?_
  refine aZ 21 hF rfl (fun hb98=>?_) (fun hb98=>?_)
  ·have hP:=Fx.cT hb98 hP
   refine aK hF rfl rfl rfl hb98 (aD (off':=2) Tryz.underlying46 rfl in3 rfl hF rfl rfl rfl) rfl rfl fun a hF=>?_
   refine aK hF rfl rfl rfl hb98 (aJ Tryz.isAgg3 hF rfl rfl (hM.cell (i:=0) rfl (LVal.g_row _))) rfl rfl fun a hF=>?_
   refine aK hF rfl rfl rfl hb98 (cE hF rfl rfl rfl) rfl rfl fun a hF=>?_
   refine aA hF (aP hF rfl rfl hb98 rfl) rfl rfl rfl fun a hF=>?_
   refine aA hF (aF hF rfl rfl) rfl rfl rfl fun a hF=>?_
   refine aZ 26 hF rfl (fun hb99=>?_) (fun hb99=>?_)
   ·have hP:=Fx.cT hb99 hP
    refine aK hF rfl rfl rfl hb99 (aD (off':=0) Tryz.underlying46 rfl in3 rfl hF rfl rfl rfl) rfl rfl fun a hF=>?_
    refine aK hF rfl rfl rfl hb99 (aJ Tryz.isAgg3 hF rfl rfl (hM.cell (i:=0) rfl (LVal.g_kind _))) rfl rfl fun a hF=>?_
    refine aK hF rfl rfl rfl hb99 (cW hF rfl rfl rfl) rfl rfl fun a hF=>?_
    refine aK hF rfl rfl rfl hb99 (aF hF rfl rfl) rfl rfl fun a hF=>?_
    refine aZ 30 hF rfl (fun c0=>?_) (fun c0=>?_)
    ·have hP:=Fx.cT c0 hP
     refine aE hF rfl rfl rfl c0 rfl rfl fun a hF=>?_
     refine aE hF rfl rfl rfl c0 rfl rfl fun a hF=>?_
     refine aE hF rfl rfl rfl c0 rfl rfl fun a hF=>?_
     refine aK hF rfl rfl rfl hb99 (aP hF rfl rfl c0 rfl) rfl rfl fun a hF=>?_
     refine aA hF (aP hF rfl rfl hb99 rfl) rfl rfl rfl fun a hF=>?_
     refine aA hF (aG hF rfl rfl) rfl rfl rfl fun a hF=>?_
     refine aI (aB ?_)
     have hP:=Option.some.inj hP
     subst hP
     exact ⟨true,rfl,hF.to ⟨rfl,trivial⟩,selM hM [] 1 rfl⟩
    have hP:=Fx.cF c0 hP
    refine aK hF rfl rfl rfl c0 (aD (off':=3) Tryz.underlying46 rfl in3 rfl hF rfl rfl rfl) rfl rfl fun a hF=>?_
    refine aK hF rfl rfl rfl c0 (aJ Tryz.isAgg3 hF rfl rfl (hM.cell (i:=0) rfl (LVal.g_x _))) rfl rfl fun a hF=>?_
    refine aK hF rfl rfl rfl c0 (cE hF rfl rfl rfl) rfl rfl fun a hF=>?_
    refine aK hF rfl rfl rfl hb99 (aQ hF rfl rfl c0 rfl) rfl rfl fun a hF=>?_
    refine aA hF (aP hF rfl rfl hb99 rfl) rfl rfl rfl fun a hF=>?_
    refine aA hF (aG hF rfl rfl) rfl rfl rfl fun a hF=>?_
    refine aI (aB ?_)
    have hP:=Option.some.inj hP
    subst hP
    exact ⟨(decide (x0.x = 0)),rfl,hF.to ⟨rfl,trivial⟩,selM hM [] 1 rfl⟩
   have hP:=Fx.cF hb99 hP
   refine aE hF rfl rfl rfl hb99 rfl rfl fun a hF=>?_
   refine aE hF rfl rfl rfl hb99 rfl rfl fun a hF=>?_
   refine aE hF rfl rfl rfl hb99 rfl rfl fun a hF=>?_
   refine aE hF rfl rfl rfl hb99 rfl rfl fun a hF=>?_
   refine eQ hF rfl rfl rfl rfl rfl fun a hF=>?_
   refine eQ hF rfl rfl rfl rfl rfl fun a hF=>?_
   refine eQ hF rfl rfl rfl rfl rfl fun a hF=>?_
   refine aE hF rfl rfl rfl hb99 rfl rfl fun a hF=>?_
   refine aA hF (aQ hF rfl rfl hb99 rfl) rfl rfl rfl fun a hF=>?_
   refine aA hF (aG hF rfl rfl) rfl rfl rfl fun a hF=>?_
   refine aI (aB ?_)
   have hP:=Option.some.inj hP
   subst hP
   exact ⟨false,rfl,hF.to ⟨rfl,trivial⟩,selM hM [] 1 rfl⟩
  have hP:=Fx.cF hb98 hP
  refine aE hF rfl rfl rfl hb98 rfl rfl fun a hF=>?_
  refine aE hF rfl rfl rfl hb98 rfl rfl fun a hF=>?_
  refine aE hF rfl rfl rfl hb98 rfl rfl fun a hF=>?_
  refine aA hF (aQ hF rfl rfl hb98 rfl) rfl rfl rfl fun a hF=>?_
  refine aA hF (aF hF rfl rfl) rfl rfl rfl fun a hF=>?_
  refine aE hF rfl rfl rfl rfl rfl rfl fun a hF=>?_
  refine aE hF rfl rfl rfl rfl rfl rfl fun a hF=>?_
  refine aE hF rfl rfl rfl rfl rfl rfl fun a hF=>?_
  refine aE hF rfl rfl rfl rfl rfl rfl fun a hF=>?_
  refine eQ hF rfl rfl rfl rfl rfl fun a hF=>?_
  refine eQ hF rfl rfl rfl rfl rfl fun a hF=>?_
  refine eQ hF rfl rfl rfl rfl rfl fun a hF=>?_
  refine aE hF rfl rfl rfl rfl rfl rfl fun a hF=>?_
  refine aA hF (aQ hF rfl rfl rfl rfl) rfl rfl rfl fun a hF=>?_
  refine aA hF (aG hF rfl rfl) rfl rfl rfl fun a hF=>?_
  refine aI (aB ?_)
  have hP:=Option.some.inj hP
  subst hP
  exact ⟨false,rfl,hF.to ⟨rfl,trivial⟩,selM hM [] 1 rfl⟩
 rintro v97 a w hP ⟨hF,hM⟩
 replace hP:Sh.eL v97 = _:=hP
 unfold Sh.eL at hP
 refine aB ?_
 refine c_ret ?_
 have hP:=Option.some.inj hP
 subst hP
 refine aY Tryz.results180 hF rfl ?_
 exact ⟨rfl,hM⟩
set_option maxHeartbeats 4000000 in
theorem iL {x0:LSlot} {out:Bool} {w0:World} {Lr:List Res} (hP:Sh.iI x0 = some out) (hM:MemL w0 (Lr)):Calls Tryz.prog 181 #[.agg (LSlot.enc x0).toArray] w0 (Ret fun v w'=>v = .bool out ∧ MemL w' (Lr)):=by
 unfold Sh.iI at hP
 refine aM (vs:=[.agg (LSlot.enc x0).toArray]) Tryz.func181 rfl Tryz.ntmps181 rfl fun a hF=>?_
 refine aH ?_
 refine aC ?_
 refine aN hF rfl rfl rfl (dD hF rfl rfl rfl fun c0 w g1 d2=>?_)
 have hM:=hM.plus d2
 replace hM:MemL _ (pt c0 (LSlot.enc x0) 50 :: Lr):=hM
 intro a hF
 refine aA hF (aG hF rfl rfl) rfl rfl rfl fun a hF=>?_
 refine aI (aB ?_)
 refine aH ?_
 refine aH ?_
 refine aC ?_
 refine aA hF (aD (off':=0) Tryz.underlying50 rfl in46 rfl hF rfl rfl rfl) rfl rfl rfl fun a hF=>?_
 refine aA hF (aD (off':=0) Tryz.underlying46 rfl in3 rfl hF rfl rfl rfl) rfl rfl rfl fun a hF=>?_
 refine aA hF (aJ Tryz.isAgg3 hF rfl rfl ((hM.cells (i:=0) rfl (LSlot.c_ptr _)).get 0 (LVal.g_kind _))) rfl rfl rfl fun a hF=>?_
 refine aA hF (cW hF rfl rfl rfl) rfl rfl rfl fun a hF=>?_
 refine aI (aB ?_)
 refine aR hF (c:=.tmp 7) rfl (fun c7=>?_) (fun c7=>?_)
 ·have hP:=Fx.cT c7 hP
  refine aH ?_
  refine aS hF hM hP (fun F x a w=>match x with | d3=>Fr 55 [(2,.bool d3),(1,.pointer (some ⟨c0,0,none⟩))] a ∧ MemL w (pt c0 (LSlot.enc x0) 50 :: Lr)) (fun g8 hP g5 hF hM=>?_) ?_
  ·refine aC ?_
   refine aA hF (aD (off':=0) Tryz.underlying50 rfl in46 rfl hF rfl rfl rfl) rfl rfl rfl fun a hF=>?_
   refine aA hF (bB Tryz.isAgg46 Tryz.sizeOf46 hF rfl rfl (LVal.len _) (hM.cells (i:=0) rfl (LSlot.c_ptr _))) rfl rfl rfl fun a hF=>?_
   obtain ⟨i3,d9,hP⟩:=bind_some hP
   refine aN hF rfl rfl rfl (aO (xs:=[.tmp 9]) Tryz.call180 hF rfl rfl (fJ d9 hM ) fun v w hR=>?_)
   obtain ⟨rfl,hM⟩:=hR
   replace hM:MemL _ (pt c0 (LSlot.enc x0) 50 :: Lr):=hM
   intro a hF
   refine aA hF (aF hF rfl rfl) rfl rfl rfl fun a hF=>?_
   refine aZ 11 hF rfl (fun c2=>?_) (fun c2=>?_)
   ·have hP:=Fx.cT c2 hP
    refine aK hF rfl rfl rfl c2 (aD (off':=0) Tryz.underlying50 rfl in46 rfl hF rfl rfl rfl) rfl rfl fun a hF=>?_
    refine aK hF rfl rfl rfl c2 (aD (off':=0) Tryz.underlying46 rfl in3 rfl hF rfl rfl rfl) rfl rfl fun a hF=>?_
    refine aK hF rfl rfl rfl c2 (aJ Tryz.isAgg3 hF rfl rfl ((hM.cells (i:=0) rfl (LSlot.c_ptr _)).get 0 (LVal.g_kind _))) rfl rfl fun a hF=>?_
    refine aK hF rfl rfl rfl c2 (cW hF rfl rfl rfl) rfl rfl fun a hF=>?_
    refine aA hF (aP hF rfl rfl c2 rfl) rfl rfl rfl fun a hF=>?_
    refine aA hF (aF hF rfl rfl) rfl rfl rfl fun a hF=>?_
    refine aZ 17 hF rfl (fun c5=>?_) (fun c5=>?_)
    ·have hP:=Fx.cT c5 hP
     refine aK hF rfl rfl rfl c5 (aD (off':=12) Tryz.underlying50 rfl in3 rfl hF rfl rfl rfl) rfl rfl fun a hF=>?_
     refine aK hF rfl rfl rfl c5 (aJ Tryz.isAgg3 hF rfl rfl (hM.cell (i:=0) rfl (LSlot.g_mask _))) rfl rfl fun a hF=>?_
     refine aK hF rfl rfl rfl c5 (cE hF rfl rfl rfl) rfl rfl fun a hF=>?_
     refine aA hF (aP hF rfl rfl c5 rfl) rfl rfl rfl fun a hF=>?_
     refine aA hF (aF hF rfl rfl) rfl rfl rfl fun a hF=>?_
     refine aZ 22 hF rfl (fun c3=>?_) (fun c3=>?_)
     ·have hP:=Fx.cT c3 hP
      refine aK hF rfl rfl rfl c3 (aD (off':=4) Tryz.underlying50 rfl in48 rfl hF rfl rfl rfl) rfl rfl fun a hF=>?_
      refine aK hF rfl rfl rfl c3 (bB Tryz.isAgg48 Tryz.sizeOf48 hF rfl rfl (bA _) (hM.cells (i:=0) rfl (LSlot.c_bytes _))) rfl rfl fun a hF=>?_
      refine aK hF rfl rfl rfl c3 (wA (zs:=(encs (⟨List.replicate 8 0,rfl⟩ : Vec UInt8 8).l)) Tryz.zeroValue48 rfl Tryz.underlying48 in5 rfl) rfl rfl fun a hF=>?_
      refine aK hF rfl rfl rfl c3 (hZ Tryz.eqGuardType48 (sK _ _ _ _ (by decide)) hF rfl rfl rfl) rfl rfl fun a hF=>?_
      refine aA hF (aP hF rfl rfl c3 rfl) rfl rfl rfl fun a hF=>?_
      refine aA hF (aG hF rfl rfl) rfl rfl rfl fun a hF=>?_
      refine aI (aB ?_)
      have hP:=Option.some.inj hP
      subst hP
      exact ⟨(decide (x0.bytes = (⟨List.replicate 8 0,rfl⟩ : Vec UInt8 8))),rfl,hF.to ⟨rfl,rfl,trivial⟩,hM⟩
     have hP:=Fx.cF c3 hP
     refine aE hF rfl rfl rfl c3 rfl rfl fun a hF=>?_
     refine aE hF rfl rfl rfl c3 rfl rfl fun a hF=>?_
     refine aE hF rfl rfl rfl c3 rfl rfl fun a hF=>?_
     refine aE hF rfl rfl rfl c3 rfl rfl fun a hF=>?_
     refine aA hF (aQ hF rfl rfl c3 rfl) rfl rfl rfl fun a hF=>?_
     refine aA hF (aG hF rfl rfl) rfl rfl rfl fun a hF=>?_
     refine aI (aB ?_)
     have hP:=Option.some.inj hP
     subst hP
     exact ⟨false,rfl,hF.to ⟨rfl,rfl,trivial⟩,hM⟩
    have hP:=Fx.cF c5 hP
    refine aE hF rfl rfl rfl c5 rfl rfl fun a hF=>?_
    refine aE hF rfl rfl rfl c5 rfl rfl fun a hF=>?_
    refine aE hF rfl rfl rfl c5 rfl rfl fun a hF=>?_
    refine aA hF (aQ hF rfl rfl c5 rfl) rfl rfl rfl fun a hF=>?_
    refine aA hF (aF hF rfl rfl) rfl rfl rfl fun a hF=>?_
    refine aE hF rfl rfl rfl rfl rfl rfl fun a hF=>?_
    refine aE hF rfl rfl rfl rfl rfl rfl fun a hF=>?_
    refine aE hF rfl rfl rfl rfl rfl rfl fun a hF=>?_
    refine aE hF rfl rfl rfl rfl rfl rfl fun a hF=>?_
    refine aA hF (aQ hF rfl rfl rfl rfl) rfl rfl rfl fun a hF=>?_
    refine aA hF (aG hF rfl rfl) rfl rfl rfl fun a hF=>?_
    refine aI (aB ?_)
    have hP:=Option.some.inj hP
    subst hP
    exact ⟨false,rfl,hF.to ⟨rfl,rfl,trivial⟩,hM⟩
   have hP:=Fx.cF c2 hP
   refine aE hF rfl rfl rfl c2 rfl rfl fun a hF=>?_
   refine aE hF rfl rfl rfl c2 rfl rfl fun a hF=>?_
   refine aE hF rfl rfl rfl c2 rfl rfl fun a hF=>?_
   refine aE hF rfl rfl rfl c2 rfl rfl fun a hF=>?_
   refine aA hF (aQ hF rfl rfl c2 rfl) rfl rfl rfl fun a hF=>?_
   refine aA hF (aF hF rfl rfl) rfl rfl rfl fun a hF=>?_
   refine aE hF rfl rfl rfl rfl rfl rfl fun a hF=>?_
   refine aE hF rfl rfl rfl rfl rfl rfl fun a hF=>?_
   refine aE hF rfl rfl rfl rfl rfl rfl fun a hF=>?_
   refine aA hF (aQ hF rfl rfl rfl rfl) rfl rfl rfl fun a hF=>?_
   refine aA hF (aF hF rfl rfl) rfl rfl rfl fun a hF=>?_
   refine aE hF rfl rfl rfl rfl rfl rfl fun a hF=>?_
   refine aE hF rfl rfl rfl rfl rfl rfl fun a hF=>?_
   refine aE hF rfl rfl rfl rfl rfl rfl fun a hF=>?_
   refine aE hF rfl rfl rfl rfl rfl rfl fun a hF=>?_
   refine aA hF (aQ hF rfl rfl rfl rfl) rfl rfl rfl fun a hF=>?_
   refine aA hF (aG hF rfl rfl) rfl rfl rfl fun a hF=>?_
   refine aI (aB ?_)
   have hP:=Option.some.inj hP
   subst hP
   exact ⟨false,rfl,hF.to ⟨rfl,rfl,trivial⟩,hM⟩
  rintro d3 a w hP ⟨hF,hM⟩
  replace hP:Sh.gO d3 = _:=hP
  unfold Sh.gO at hP
  refine aB ?_
  refine c_ret ?_
  have hP:=Option.some.inj hP
  subst hP
  refine aY Tryz.results181 hF rfl ?_
  exact ⟨rfl,selM hM [] 1 rfl⟩
 have hP:=Fx.cF c7 hP
 refine aT (aB ?_)
 refine aH ?_
 refine aH ?_
 refine aS hF hM hP (fun F x a w=>match x with | d4=>Fr 55 [(37,.bool d4),(1,.pointer (some ⟨c0,0,none⟩)),(2,.bool false)] a ∧ MemL w (pt c0 (LSlot.enc x0) 50 :: Lr)) (fun g9 hP g6 hF hM=>?_) ?_
 ·refine aC ?_
  refine aA hF (aD (off':=0) Tryz.underlying50 rfl in46 rfl hF rfl rfl rfl) rfl rfl rfl fun a hF=>?_
  refine aA hF (bB Tryz.isAgg46 Tryz.sizeOf46 hF rfl rfl (LVal.len _) (hM.cells (i:=0) rfl (LSlot.c_ptr _))) rfl rfl rfl fun a hF=>?_
  refine aA hF (cU z46 Tryz.underlying46 pl46 hF (parts:=[]) rfl rfl dI) rfl rfl rfl fun a hF=>?_
  refine aA hF (kI Tryz.eqGuardType46 (fY _ _ _ _ (by decide)) hF rfl rfl rfl) rfl rfl rfl fun a hF=>?_
  refine aA hF (aF hF rfl rfl) rfl rfl rfl fun a hF=>?_
  refine aZ 32 hF rfl (fun c4=>?_) (fun c4=>?_)
  ·have hP:=Fx.cT c4 hP
   refine aE hF rfl rfl rfl c4 rfl rfl fun a hF=>?_
   refine aE hF rfl rfl rfl c4 rfl rfl fun a hF=>?_
   refine aE hF rfl rfl rfl c4 rfl rfl fun a hF=>?_
   refine aE hF rfl rfl rfl c4 rfl rfl fun a hF=>?_
   refine aA hF (aP hF rfl rfl c4 rfl) rfl rfl rfl fun a hF=>?_
   refine aI (aB ?_)
   have hP:=Option.some.inj hP
   subst hP
   exact ⟨true,rfl,hF.to ⟨rfl,rfl,rfl,trivial⟩,hM⟩
  have hP:=Fx.cF c4 hP
  refine aK hF rfl rfl rfl c4 (aD (off':=12) Tryz.underlying50 rfl in3 rfl hF rfl rfl rfl) rfl rfl fun a hF=>?_
  refine aK hF rfl rfl rfl c4 (aJ Tryz.isAgg3 hF rfl rfl (hM.cell (i:=0) rfl (LSlot.g_mask _))) rfl rfl fun a hF=>?_
  obtain ⟨g3,g0,hP⟩:=bind_some hP
  refine dX hF rfl rfl rfl c4 rfl rfl (aO (xs:=[.tmp 34,.const (.int .i64 (0)),.const (.int .i64 (255))]) Tryz.call159 hF rfl rfl (cJ g0 hM ) fun v w hR=>?_)
  obtain ⟨rfl,hM⟩:=hR
  replace hM:MemL _ (pt c0 (LSlot.enc x0) 50 :: Lr):=hM
  intro a hF
  refine aK hF rfl rfl rfl c4 (dJ hF rfl rfl) rfl rfl fun a hF=>?_
  refine aA hF (aQ hF rfl rfl c4 rfl) rfl rfl rfl fun a hF=>?_
  refine aI (aB ?_)
  have hP:=Option.some.inj hP
  subst hP
  exact ⟨(!g3),rfl,hF.to ⟨rfl,rfl,rfl,trivial⟩,hM⟩
 rintro d4 a w hP ⟨hF,hM⟩
 replace hP:Sh.hT x0 d4 = _:=hP
 unfold Sh.hT at hP
 refine aB ?_
 refine aR hF (c:=.tmp 37) rfl (fun c8=>?_) (fun c8=>?_)
 ·have hP:=Fx.cT c8 hP
  refine aH ?_
  refine aC ?_
  refine aA hF (aG hF rfl rfl) rfl rfl rfl fun a hF=>?_
  refine aI (aB ?_)
  refine c_ret ?_
  have hP:=Option.some.inj hP
  subst hP
  refine aY Tryz.results181 hF rfl ?_
  exact ⟨rfl,selM hM [] 1 rfl⟩
 have hP:=Fx.cF c8 hP
 refine aT (aB ?_)
 refine aH ?_
 refine aS hF hM hP (fun F x a w=>match x with | _=>Fr 55 [(2,.bool false)] a ∧ MemL w (Lr)) (fun i0 hP d7 hF hM=>?_) ?_
 ·refine aH ?_
  refine aC ?_
  refine aA hF (aG hF rfl rfl) rfl rfl rfl fun a hF=>?_
  refine aI (aB ?_)
  refine aV ?_
  refine bN hF hM hP (fun F x a w=>match x with | c6=>Fr 55 [(3,.int .i64 c6),(1,.pointer (some ⟨c0,0,none⟩)),(2,.bool false)] a ∧ MemL w (pt c0 (LSlot.enc x0) 50 :: Lr)) (fun hF hM=>⟨hF.to ⟨rfl,rfl,rfl,trivial⟩,hM⟩) ?_
  rintro c6 a w i2 hP d6 ⟨hF,hM⟩
  replace hP:Sh.fD x0 c6 = _:=hP
  unfold Sh.fD at hP
  refine aH ?_
  refine aH ?_
  refine aC ?_
  refine aA hF (aF hF rfl rfl) rfl rfl rfl fun a hF=>?_
  refine aA hF (cH hF rfl rfl rfl) rfl rfl rfl fun a hF=>?_
  refine aI (aB ?_)
  refine aR hF (c:=.tmp 39) rfl (fun c9=>?_) (fun c9=>?_)
  ·have hP:=Fx.cT c9 hP
   refine aT (aB ?_)
   refine aH ?_
   refine aV ?_
   refine aH ?_
   refine aS hF hM hP (fun F x a w=>match x with | d5=>Fr 55 [(54,.bool d5),(1,.pointer (some ⟨c0,0,none⟩)),(2,.bool false),(3,.int .i64 c6)] a ∧ MemL w (pt c0 (LSlot.enc x0) 50 :: Lr)) (fun i1 hP g7 hF hM=>?_) ?_
   ·refine aC ?_
    refine aA hF (aD (off':=12) Tryz.underlying50 rfl in3 rfl hF rfl rfl rfl) rfl rfl rfl fun a hF=>?_
    refine aA hF (aJ Tryz.isAgg3 hF rfl rfl (hM.cell (i:=0) rfl (LSlot.g_mask _))) rfl rfl rfl fun a hF=>?_
    refine aA hF (aF hF rfl rfl) rfl rfl rfl fun a hF=>?_
    obtain ⟨d8,hP⟩:=gA hP
    refine aA hF (nU hF rfl rfl rfl (of_decide_eq_true d8)) rfl rfl rfl fun a hF=>?_
    refine aA hF (pH hF rfl rfl rfl) rfl rfl rfl fun a hF=>?_
    refine aA hF (cE hF rfl rfl rfl) rfl rfl rfl fun a hF=>?_
    refine aA hF (aF hF rfl rfl) rfl rfl rfl fun a hF=>?_
    refine aZ 48 hF rfl (fun c1=>?_) (fun c1=>?_)
    ·have hP:=Fx.cT c1 hP
     refine aK hF rfl rfl rfl c1 (aF hF rfl rfl) rfl rfl fun a hF=>?_
     refine aK hF rfl rfl rfl c1 (aD (off':=4) Tryz.underlying50 rfl in48 rfl hF rfl rfl rfl) rfl rfl fun a hF=>?_
     obtain ⟨g2,d1,hP⟩:=bind_some hP
     have g4:=aW d1
     refine aK hF rfl rfl rfl c1 (dZ (sz:=1) Tryz.underlying48 in5 rfl hF rfl rfl rfl (eL d1)) rfl rfl fun a hF=>?_
     refine aK hF rfl rfl rfl c1 (aJ Tryz.isAgg5 hF rfl rfl ((hM.cells (i:=0) rfl (LSlot.ci_bytes _ _ _ (aW d1).2)).get 0 rfl)) rfl rfl fun a hF=>?_
     refine aK hF rfl rfl rfl c1 (cW hF rfl rfl rfl) rfl rfl fun a hF=>?_
     refine aA hF (aP hF rfl rfl c1 rfl) rfl rfl rfl fun a hF=>?_
     refine aI (aB ?_)
     have hP:=Option.some.inj hP
     subst hP
     exact ⟨(!decide ((g2.toNat:Int) = 0)),rfl,hF.to ⟨rfl,rfl,rfl,rfl,trivial⟩,hM⟩
    have hP:=Fx.cF c1 hP
    refine aE hF rfl rfl rfl c1 rfl rfl fun a hF=>?_
    refine aE hF rfl rfl rfl c1 rfl rfl fun a hF=>?_
    refine aE hF rfl rfl rfl c1 rfl rfl fun a hF=>?_
    refine aE hF rfl rfl rfl c1 rfl rfl fun a hF=>?_
    refine aE hF rfl rfl rfl c1 rfl rfl fun a hF=>?_
    refine aA hF (aQ hF rfl rfl c1 rfl) rfl rfl rfl fun a hF=>?_
    refine aI (aB ?_)
    have hP:=Option.some.inj hP
    subst hP
    exact ⟨false,rfl,hF.to ⟨rfl,rfl,rfl,rfl,trivial⟩,hM⟩
   rintro d5 a w hP ⟨hF,hM⟩
   replace hP:Sh.gP c6 d5 = _:=hP
   unfold Sh.gP at hP
   refine aB ?_
   refine aR hF (c:=.tmp 54) rfl (fun d0=>?_) (fun d0=>?_)
   ·have hP:=Fx.cT d0 hP
    refine aH ?_
    refine aC ?_
    refine aA hF (aG hF rfl rfl) rfl rfl rfl fun a hF=>?_
    refine aI (aB ?_)
    refine c_ret ?_
    have hP:=Option.some.inj hP
    subst hP
    have hP:=d6 _ rfl
    subst hP
    have hP:=cL d7
    subst hP
    refine aY Tryz.results181 hF rfl ?_
    exact ⟨rfl,selM hM [] 1 rfl⟩
   have hP:=Fx.cF d0 hP
   refine aT (bI (aB ?_))
   refine aC ?_
   refine aA hF (aF hF rfl rfl) rfl rfl rfl fun a hF=>?_
   refine aA hF (cA hF rfl rfl rfl) rfl rfl rfl fun a hF=>?_
   refine aA hF (aG hF rfl rfl) rfl rfl rfl fun a hF=>?_
   refine aI (aB ?_)
   have hP:=Option.some.inj hP
   subst hP
   exact ⟨(IntKind.i64.wrap (c6 + 1)),rfl,hF.to ⟨rfl,rfl,rfl,trivial⟩,hM⟩
  have hP:=Fx.cF c9 hP
  refine bW (bD (bD (cG ?_)))
  refine aB ?_
  have hP:=Option.some.inj hP
  subst hP
  have hP:=d6 _ rfl
  subst hP
  exact ⟨(),rfl,hF.to ⟨rfl,trivial⟩,selM hM [] 1 rfl⟩
 rintro ⟨⟩ a w hP ⟨hF,hM⟩
 replace hP:Sh.jI = _:=hP
 unfold Sh.jI at hP
 refine aB ?_
 refine aH ?_
 refine aC ?_
 refine aA hF (aG hF rfl rfl) rfl rfl rfl fun a hF=>?_
 refine aI (aB ?_)
 refine c_ret ?_
 have hP:=Option.some.inj hP
 subst hP
 refine aY Tryz.results181 hF rfl ?_
 exact ⟨rfl,hM⟩
set_option maxHeartbeats 4000000 in
theorem lA {x0:QMark} {s1:SV} {s3:SV} {s5:SV} {hs6:List RPiece} {s9:SV} {out:Bool} {w0:World} {Bf:World → Prop} {Lr:List Res} (hP:Sh.jO x0 = some out) (hM:MemL w0 (Lr)) (hsub:∀ w,MemL w Lr → Bf w) (f2:LIn Bf s1 x0.regs) (f4:LIn Bf s3 x0.slots) (f7:LIn Bf s5 hs6) (q8:Each (QPieceIn Bf) hs6 x0.pieces) (f10:LIn Bf s9 x0.sent):Calls Tryz.prog 106 #[.agg (RMark.enc (RMark.mk x0.at_ x0.next x0.done s1 s3 s5 s9)).toArray] w0 (Ret fun v w'=>v = .bool out ∧ MemL w' (Lr)):=by
 unfold Sh.jO at hP
 refine aM (vs:=[.agg (RMark.enc (RMark.mk x0.at_ x0.next x0.done s1 s3 s5 s9)).toArray]) Tryz.func106 rfl Tryz.ntmps106 rfl fun a hF=>?_
 refine aH ?_
 refine aC ?_
 refine aN hF rfl rfl rfl (dD hF rfl rfl rfl fun c0 w i2 d5=>?_)
 have hM:=hM.plus d5
 replace hM:MemL _ (pt c0 (RMark.enc (RMark.mk x0.at_ x0.next x0.done s1 s3 s5 s9)) 60 :: Lr):=hM
 intro a hF
 refine aA hF (aG hF rfl rfl) rfl rfl rfl fun a hF=>?_
 refine aI (aB ?_)
 refine aH ?_
 refine aC ?_
 refine aA hF (bB Tryz.isAgg60 Tryz.sizeOf60 hF rfl rfl (RMark.len _) (hM.cells (i:=0) rfl (bV (RMark.len _)))) rfl rfl rfl fun a hF=>?_
 obtain ⟨j9,g8,hP⟩:=bind_some hP
 refine aN hF rfl rfl rfl (aO (xs:=[.tmp 6]) Tryz.call135 hF rfl rfl (jG g8 hM (Bf:=Bf) (fun w hM=>hsub _ (dropM hM 1)) f2 f4 f7 q8 f10) fun v w hR=>?_)
 obtain ⟨rfl,hM⟩:=hR
 replace hM:MemL _ (pt c0 (RMark.enc (RMark.mk x0.at_ x0.next x0.done s1 s3 s5 s9)) 60 :: Lr):=hM
 intro a hF
 refine aA hF (aG hF rfl rfl) rfl rfl rfl fun a hF=>?_
 refine aI (aB ?_)
 refine aH ?_
 refine aS hF hM hP (fun F x a w=>match x with | d6=>Fr 61 [(3,.bool d6),(1,.pointer (some ⟨c0,0,none⟩)),(2,.bool false)] a ∧ MemL w (pt c0 (RMark.enc (RMark.mk x0.at_ x0.next x0.done s1 s3 s5 s9)) 60 :: Lr)) (fun j1 hP i4 hF hM=>?_) ?_
 ·refine aH ?_
  refine aC ?_
  refine aA hF (aG hF rfl rfl) rfl rfl rfl fun a hF=>?_
  refine aI (aB ?_)
  refine aV ?_
  refine bN hF hM hP (fun F x a w=>match x with | (d1,c6)=>Fr 61 [(3,.bool d1),(4,.int .i64 c6),(1,.pointer (some ⟨c0,0,none⟩)),(2,.bool false)] a ∧ MemL w (pt c0 (RMark.enc (RMark.mk x0.at_ x0.next x0.done s1 s3 s5 s9)) 60 :: Lr)) (fun hF hM=>⟨hF.to ⟨rfl,rfl,rfl,rfl,trivial⟩,hM⟩) ?_
  rintro ⟨d1,c6⟩ a w j5 hP g6 ⟨hF,hM⟩
  replace hP:Sh.dD x0 d1 c6 = _:=hP
  unfold Sh.dD at hP
  refine aH ?_
  refine aH ?_
  refine aC ?_
  refine aA hF (aF hF rfl rfl) rfl rfl rfl fun a hF=>?_
  refine aA hF (aD (off':=3) Tryz.underlying60 rfl in56 rfl hF rfl rfl rfl) rfl rfl rfl fun a hF=>?_
  refine aA hF (aJ Tryz.isAgg56 hF rfl rfl (hM.cell (i:=0) rfl (RMark.g_regs _))) rfl rfl rfl fun a hF=>?_
  refine aA hF (bG (f2 _ (hsub _ (dropM hM 1))) Tryz.underlying56 hF rfl rfl) rfl rfl rfl fun a hF=>?_
  refine aA hF (cH hF rfl rfl rfl) rfl rfl rfl fun a hF=>?_
  refine aI (aB ?_)
  refine aR hF (c:=.tmp 12) rfl (fun d0=>?_) (fun d0=>?_)
  ·have hP:=Fx.cT d0 hP
   refine aT (aB ?_)
   refine aH ?_
   refine aS hF hM hP (fun F x a w=>match x with | d2=>Fr 61 [(3,.bool d2),(1,.pointer (some ⟨c0,0,none⟩)),(2,.bool false),(4,.int .i64 c6)] a ∧ MemL w (pt c0 (RMark.enc (RMark.mk x0.at_ x0.next x0.done s1 s3 s5 s9)) 60 :: Lr)) (fun j2 hP i5 hF hM=>?_) ?_
   ·refine aV ?_
    refine aC ?_
    refine aA hF (aF hF rfl rfl) rfl rfl rfl fun a hF=>?_
    refine aA hF (aF hF rfl rfl) rfl rfl rfl fun a hF=>?_
    refine aZ 16 hF rfl (fun c3=>?_) (fun c3=>?_)
    ·have hP:=Fx.cT c3 hP
     refine aK hF rfl rfl rfl c3 (aD (off':=3) Tryz.underlying60 rfl in56 rfl hF rfl rfl rfl) rfl rfl fun a hF=>?_
     refine aK hF rfl rfl rfl c3 (aJ Tryz.isAgg56 hF rfl rfl (hM.cell (i:=0) rfl (RMark.g_regs _))) rfl rfl fun a hF=>?_
     refine aK hF rfl rfl rfl c3 (aF hF rfl rfl) rfl rfl fun a hF=>?_
     obtain ⟨j7,d8,hP⟩:=bind_some hP
     have g2:=aW d8
     refine aK hF rfl rfl rfl c3 (bC (sz:=9) (f2 _ (hsub _ (dropM hM 1))) Tryz.underlying56 in128 rfl hF rfl rfl rfl (bK d8)) rfl rfl fun a hF=>?_
     refine aK hF rfl rfl rfl c3 (aD Tryz.underlying128 rfl in46 rfl hF rfl rfl rfl) rfl rfl fun a hF=>?_
     refine aK hF rfl rfl rfl c3 (bB Tryz.isAgg46 Tryz.sizeOf46 hF rfl rfl (LVal.len _) ((((f2 _ (hsub _ (dropM hM 1))).elemS g2.2)).sub 1 4 (LTurn.c_old _))) rfl rfl fun a hF=>?_
     obtain ⟨k0,g9,hP⟩:=bind_some hP
     refine dX hF rfl rfl rfl c3 rfl rfl (aO (xs:=[.tmp 22]) Tryz.call180 hF rfl rfl (fJ g9 hM ) fun v w hR=>?_)
     obtain ⟨rfl,hM⟩:=hR
     replace hM:MemL _ (pt c0 (RMark.enc (RMark.mk x0.at_ x0.next x0.done s1 s3 s5 s9)) 60 :: Lr):=hM
     intro a hF
     refine aA hF (aP hF rfl rfl c3 rfl) rfl rfl rfl fun a hF=>?_
     refine aA hF (aF hF rfl rfl) rfl rfl rfl fun a hF=>?_
     refine aZ 25 hF rfl (fun c4=>?_) (fun c4=>?_)
     ·have hP:=Fx.cT c4 hP
      refine aK hF rfl rfl rfl c4 (aD (off':=3) Tryz.underlying60 rfl in56 rfl hF rfl rfl rfl) rfl rfl fun a hF=>?_
      refine aK hF rfl rfl rfl c4 (aJ Tryz.isAgg56 hF rfl rfl (hM.cell (i:=0) rfl (RMark.g_regs _))) rfl rfl fun a hF=>?_
      refine aK hF rfl rfl rfl c4 (aF hF rfl rfl) rfl rfl fun a hF=>?_
      obtain ⟨j8,d9,hP⟩:=bind_some hP
      have g3:=aW d9
      refine aK hF rfl rfl rfl c4 (bC (sz:=9) (f2 _ (hsub _ (dropM hM 1))) Tryz.underlying56 in128 rfl hF rfl rfl rfl (bK d9)) rfl rfl fun a hF=>?_
      refine aK hF rfl rfl rfl c4 (aD Tryz.underlying128 rfl in46 rfl hF rfl rfl rfl) rfl rfl fun a hF=>?_
      refine aK hF rfl rfl rfl c4 (bB Tryz.isAgg46 Tryz.sizeOf46 hF rfl rfl (LVal.len _) ((((f2 _ (hsub _ (dropM hM 1))).elemS g3.2)).sub 5 4 (LTurn.c_new _))) rfl rfl fun a hF=>?_
      obtain ⟨i3,i0,hP⟩:=bind_some hP
      refine dX hF rfl rfl rfl c4 rfl rfl (aO (xs:=[.tmp 31]) Tryz.call180 hF rfl rfl (fJ i0 hM ) fun v w hR=>?_)
      obtain ⟨rfl,hM⟩:=hR
      replace hM:MemL _ (pt c0 (RMark.enc (RMark.mk x0.at_ x0.next x0.done s1 s3 s5 s9)) 60 :: Lr):=hM
      intro a hF
      refine aA hF (aP hF rfl rfl c4 rfl) rfl rfl rfl fun a hF=>?_
      refine aA hF (aG hF rfl rfl) rfl rfl rfl fun a hF=>?_
      refine aI (bI (aB ?_))
      have hP:=Option.some.inj hP
      subst hP
      exact ⟨i3,rfl,hF.to ⟨rfl,rfl,rfl,rfl,trivial⟩,hM⟩
     have hP:=Fx.cF c4 hP
     refine aE hF rfl rfl rfl c4 rfl rfl fun a hF=>?_
     refine aE hF rfl rfl rfl c4 rfl rfl fun a hF=>?_
     refine aE hF rfl rfl rfl c4 rfl rfl fun a hF=>?_
     refine aE hF rfl rfl rfl c4 rfl rfl fun a hF=>?_
     refine aE hF rfl rfl rfl c4 rfl rfl fun a hF=>?_
     refine aE hF rfl rfl rfl c4 rfl rfl fun a hF=>?_
     refine aE hF rfl rfl rfl c4 rfl rfl fun a hF=>?_
     refine aA hF (aQ hF rfl rfl c4 rfl) rfl rfl rfl fun a hF=>?_
     refine aA hF (aG hF rfl rfl) rfl rfl rfl fun a hF=>?_
     refine aI (bI (aB ?_))
     have hP:=Option.some.inj hP
     subst hP
     exact ⟨false,rfl,hF.to ⟨rfl,rfl,rfl,rfl,trivial⟩,hM⟩
    have hP:=Fx.cF c3 hP
    refine aE hF rfl rfl rfl c3 rfl rfl fun a hF=>?_
    refine aE hF rfl rfl rfl c3 rfl rfl fun a hF=>?_
    refine aE hF rfl rfl rfl c3 rfl rfl fun a hF=>?_
    refine aE hF rfl rfl rfl c3 rfl rfl fun a hF=>?_
    refine aE hF rfl rfl rfl c3 rfl rfl fun a hF=>?_
    refine aE hF rfl rfl rfl c3 rfl rfl fun a hF=>?_
    refine aE hF rfl rfl rfl c3 rfl rfl fun a hF=>?_
    refine aA hF (aQ hF rfl rfl c3 rfl) rfl rfl rfl fun a hF=>?_
    refine aA hF (aF hF rfl rfl) rfl rfl rfl fun a hF=>?_
    refine aE hF rfl rfl rfl rfl rfl rfl fun a hF=>?_
    refine aE hF rfl rfl rfl rfl rfl rfl fun a hF=>?_
    refine aE hF rfl rfl rfl rfl rfl rfl fun a hF=>?_
    refine aE hF rfl rfl rfl rfl rfl rfl fun a hF=>?_
    refine aE hF rfl rfl rfl rfl rfl rfl fun a hF=>?_
    refine aE hF rfl rfl rfl rfl rfl rfl fun a hF=>?_
    refine aE hF rfl rfl rfl rfl rfl rfl fun a hF=>?_
    refine aA hF (aQ hF rfl rfl rfl rfl) rfl rfl rfl fun a hF=>?_
    refine aA hF (aG hF rfl rfl) rfl rfl rfl fun a hF=>?_
    refine aI (bI (aB ?_))
    have hP:=Option.some.inj hP
    subst hP
    exact ⟨false,rfl,hF.to ⟨rfl,rfl,rfl,rfl,trivial⟩,hM⟩
   rintro d2 a w hP ⟨hF,hM⟩
   replace hP:Sh.lL c6 d2 = _:=hP
   unfold Sh.lL at hP
   refine aB ?_
   refine aC ?_
   refine aA hF (aF hF rfl rfl) rfl rfl rfl fun a hF=>?_
   refine aA hF (cA hF rfl rfl rfl) rfl rfl rfl fun a hF=>?_
   refine aA hF (aG hF rfl rfl) rfl rfl rfl fun a hF=>?_
   refine aI (aB ?_)
   have hP:=Option.some.inj hP
   subst hP
   exact ⟨(d2,(IntKind.i64.wrap (c6 + 1))),rfl,hF.to ⟨rfl,rfl,rfl,rfl,trivial⟩,hM⟩
  have hP:=Fx.cF d0 hP
  refine bW (bD (bD (cG ?_)))
  refine aB ?_
  have hP:=Option.some.inj hP
  subst hP
  have hP:=g6 _ rfl
  subst hP
  exact ⟨d1,rfl,hF.to ⟨rfl,rfl,rfl,trivial⟩,hM⟩
 rintro d6 a w hP ⟨hF,hM⟩
 replace hP:Sh.gN x0 d6 = _:=hP
 unfold Sh.gN at hP
 refine aB ?_
 refine aH ?_
 refine aS hF hM hP (fun F x a w=>match x with | d7=>Fr 61 [(3,.bool d7),(2,.bool false)] a ∧ MemL w (Lr)) (fun j3 hP i6 hF hM=>?_) ?_
 ·refine aH ?_
  refine aC ?_
  refine aA hF (aG hF rfl rfl) rfl rfl rfl fun a hF=>?_
  refine aI (aB ?_)
  refine aV ?_
  refine bN hF hM hP (fun F x a w=>match x with | (c7,c5)=>Fr 61 [(3,.bool c7),(5,.int .i64 c5),(1,.pointer (some ⟨c0,0,none⟩)),(2,.bool false)] a ∧ MemL w (pt c0 (RMark.enc (RMark.mk x0.at_ x0.next x0.done s1 s3 s5 s9)) 60 :: Lr)) (fun hF hM=>⟨hF.to ⟨rfl,rfl,rfl,rfl,trivial⟩,hM⟩) ?_
  rintro ⟨c7,c5⟩ a w j6 hP g7 ⟨hF,hM⟩
  replace hP:Sh.dE x0 c7 c5 = _:=hP
  unfold Sh.dE at hP
  refine aH ?_
  refine aH ?_
  refine aC ?_
  refine aA hF (aF hF rfl rfl) rfl rfl rfl fun a hF=>?_
  refine aA hF (aD (off':=4) Tryz.underlying60 rfl in57 rfl hF rfl rfl rfl) rfl rfl rfl fun a hF=>?_
  refine aA hF (aJ Tryz.isAgg57 hF rfl rfl (hM.cell (i:=0) rfl (RMark.g_slots _))) rfl rfl rfl fun a hF=>?_
  refine aA hF (bG (f4 _ (hsub _ (dropM hM 1))) Tryz.underlying57 hF rfl rfl) rfl rfl rfl fun a hF=>?_
  refine aA hF (cH hF rfl rfl rfl) rfl rfl rfl fun a hF=>?_
  refine aI (aB ?_)
  refine aR hF (c:=.tmp 38) rfl (fun c9=>?_) (fun c9=>?_)
  ·have hP:=Fx.cT c9 hP
   refine aT (aB ?_)
   refine aH ?_
   refine aS hF hM hP (fun F x a w=>match x with | c8=>Fr 61 [(3,.bool c8),(1,.pointer (some ⟨c0,0,none⟩)),(2,.bool false),(5,.int .i64 c5)] a ∧ MemL w (pt c0 (RMark.enc (RMark.mk x0.at_ x0.next x0.done s1 s3 s5 s9)) 60 :: Lr)) (fun j4 hP i7 hF hM=>?_) ?_
   ·refine aV ?_
    refine aC ?_
    refine aA hF (aF hF rfl rfl) rfl rfl rfl fun a hF=>?_
    refine aA hF (aF hF rfl rfl) rfl rfl rfl fun a hF=>?_
    refine aZ 42 hF rfl (fun c1=>?_) (fun c1=>?_)
    ·have hP:=Fx.cT c1 hP
     refine aK hF rfl rfl rfl c1 (aD (off':=4) Tryz.underlying60 rfl in57 rfl hF rfl rfl rfl) rfl rfl fun a hF=>?_
     refine aK hF rfl rfl rfl c1 (aJ Tryz.isAgg57 hF rfl rfl (hM.cell (i:=0) rfl (RMark.g_slots _))) rfl rfl fun a hF=>?_
     refine aK hF rfl rfl rfl c1 (aF hF rfl rfl) rfl rfl fun a hF=>?_
     obtain ⟨i8,d3,hP⟩:=bind_some hP
     have g0:=aW d3
     refine aK hF rfl rfl rfl c1 (bC (sz:=27) (f4 _ (hsub _ (dropM hM 1))) Tryz.underlying57 in151 rfl hF rfl rfl rfl (bK d3)) rfl rfl fun a hF=>?_
     refine aK hF rfl rfl rfl c1 (aD Tryz.underlying151 rfl in50 rfl hF rfl rfl rfl) rfl rfl fun a hF=>?_
     refine aK hF rfl rfl rfl c1 (bB Tryz.isAgg50 Tryz.sizeOf50 hF rfl rfl (LSlot.len _) ((((f4 _ (hsub _ (dropM hM 1))).elemS g0.2)).sub 1 13 (LCell.c_old _))) rfl rfl fun a hF=>?_
     obtain ⟨j0,g4,hP⟩:=bind_some hP
     refine dX hF rfl rfl rfl c1 rfl rfl (aO (xs:=[.tmp 48]) Tryz.call181 hF rfl rfl (iL g4 hM ) fun v w hR=>?_)
     obtain ⟨rfl,hM⟩:=hR
     replace hM:MemL _ (pt c0 (RMark.enc (RMark.mk x0.at_ x0.next x0.done s1 s3 s5 s9)) 60 :: Lr):=hM
     intro a hF
     refine aA hF (aP hF rfl rfl c1 rfl) rfl rfl rfl fun a hF=>?_
     refine aA hF (aF hF rfl rfl) rfl rfl rfl fun a hF=>?_
     refine aZ 51 hF rfl (fun c2=>?_) (fun c2=>?_)
     ·have hP:=Fx.cT c2 hP
      refine aK hF rfl rfl rfl c2 (aD (off':=4) Tryz.underlying60 rfl in57 rfl hF rfl rfl rfl) rfl rfl fun a hF=>?_
      refine aK hF rfl rfl rfl c2 (aJ Tryz.isAgg57 hF rfl rfl (hM.cell (i:=0) rfl (RMark.g_slots _))) rfl rfl fun a hF=>?_
      refine aK hF rfl rfl rfl c2 (aF hF rfl rfl) rfl rfl fun a hF=>?_
      obtain ⟨i9,d4,hP⟩:=bind_some hP
      have g1:=aW d4
      refine aK hF rfl rfl rfl c2 (bC (sz:=27) (f4 _ (hsub _ (dropM hM 1))) Tryz.underlying57 in151 rfl hF rfl rfl rfl (bK d4)) rfl rfl fun a hF=>?_
      refine aK hF rfl rfl rfl c2 (aD Tryz.underlying151 rfl in50 rfl hF rfl rfl rfl) rfl rfl fun a hF=>?_
      refine aK hF rfl rfl rfl c2 (bB Tryz.isAgg50 Tryz.sizeOf50 hF rfl rfl (LSlot.len _) ((((f4 _ (hsub _ (dropM hM 1))).elemS g1.2)).sub 14 13 (LCell.c_new _))) rfl rfl fun a hF=>?_
      obtain ⟨i1,g5,hP⟩:=bind_some hP
      refine dX hF rfl rfl rfl c2 rfl rfl (aO (xs:=[.tmp 57]) Tryz.call181 hF rfl rfl (iL g5 hM ) fun v w hR=>?_)
      obtain ⟨rfl,hM⟩:=hR
      replace hM:MemL _ (pt c0 (RMark.enc (RMark.mk x0.at_ x0.next x0.done s1 s3 s5 s9)) 60 :: Lr):=hM
      intro a hF
      refine aA hF (aP hF rfl rfl c2 rfl) rfl rfl rfl fun a hF=>?_
      refine aA hF (aG hF rfl rfl) rfl rfl rfl fun a hF=>?_
      refine aI (bI (aB ?_))
      have hP:=Option.some.inj hP
      subst hP
      exact ⟨i1,rfl,hF.to ⟨rfl,rfl,rfl,rfl,trivial⟩,hM⟩
     have hP:=Fx.cF c2 hP
     refine aE hF rfl rfl rfl c2 rfl rfl fun a hF=>?_
     refine aE hF rfl rfl rfl c2 rfl rfl fun a hF=>?_
     refine aE hF rfl rfl rfl c2 rfl rfl fun a hF=>?_
     refine aE hF rfl rfl rfl c2 rfl rfl fun a hF=>?_
     refine aE hF rfl rfl rfl c2 rfl rfl fun a hF=>?_
     refine aE hF rfl rfl rfl c2 rfl rfl fun a hF=>?_
     refine aE hF rfl rfl rfl c2 rfl rfl fun a hF=>?_
     refine aA hF (aQ hF rfl rfl c2 rfl) rfl rfl rfl fun a hF=>?_
     refine aA hF (aG hF rfl rfl) rfl rfl rfl fun a hF=>?_
     refine aI (bI (aB ?_))
     have hP:=Option.some.inj hP
     subst hP
     exact ⟨false,rfl,hF.to ⟨rfl,rfl,rfl,rfl,trivial⟩,hM⟩
    have hP:=Fx.cF c1 hP
    refine aE hF rfl rfl rfl c1 rfl rfl fun a hF=>?_
    refine aE hF rfl rfl rfl c1 rfl rfl fun a hF=>?_
    refine aE hF rfl rfl rfl c1 rfl rfl fun a hF=>?_
    refine aE hF rfl rfl rfl c1 rfl rfl fun a hF=>?_
    refine aE hF rfl rfl rfl c1 rfl rfl fun a hF=>?_
    refine aE hF rfl rfl rfl c1 rfl rfl fun a hF=>?_
    refine aE hF rfl rfl rfl c1 rfl rfl fun a hF=>?_
    refine aA hF (aQ hF rfl rfl c1 rfl) rfl rfl rfl fun a hF=>?_
    refine aA hF (aF hF rfl rfl) rfl rfl rfl fun a hF=>?_
    refine aE hF rfl rfl rfl rfl rfl rfl fun a hF=>?_
    refine aE hF rfl rfl rfl rfl rfl rfl fun a hF=>?_
    refine aE hF rfl rfl rfl rfl rfl rfl fun a hF=>?_
    refine aE hF rfl rfl rfl rfl rfl rfl fun a hF=>?_
    refine aE hF rfl rfl rfl rfl rfl rfl fun a hF=>?_
    refine aE hF rfl rfl rfl rfl rfl rfl fun a hF=>?_
    refine aE hF rfl rfl rfl rfl rfl rfl fun a hF=>?_
    refine aA hF (aQ hF rfl rfl rfl rfl) rfl rfl rfl fun a hF=>?_
    refine aA hF (aG hF rfl rfl) rfl rfl rfl fun a hF=>?_
    refine aI (bI (aB ?_))
    have hP:=Option.some.inj hP
    subst hP
    exact ⟨false,rfl,hF.to ⟨rfl,rfl,rfl,rfl,trivial⟩,hM⟩
   rintro c8 a w hP ⟨hF,hM⟩
   replace hP:Sh.lN c5 c8 = _:=hP
   unfold Sh.lN at hP
   refine aB ?_
   refine aC ?_
   refine aA hF (aF hF rfl rfl) rfl rfl rfl fun a hF=>?_
   refine aA hF (cA hF rfl rfl rfl) rfl rfl rfl fun a hF=>?_
   refine aA hF (aG hF rfl rfl) rfl rfl rfl fun a hF=>?_
   refine aI (aB ?_)
   have hP:=Option.some.inj hP
   subst hP
   exact ⟨(c8,(IntKind.i64.wrap (c5 + 1))),rfl,hF.to ⟨rfl,rfl,rfl,rfl,trivial⟩,hM⟩
  have hP:=Fx.cF c9 hP
  refine bW (bD (bD (cG ?_)))
  refine aB ?_
  have hP:=Option.some.inj hP
  subst hP
  have hP:=g7 _ rfl
  subst hP
  exact ⟨c7,rfl,hF.to ⟨rfl,rfl,trivial⟩,selM hM [] 1 rfl⟩
 rintro d7 a w hP ⟨hF,hM⟩
 replace hP:Sh.lM d7 = _:=hP
 unfold Sh.lM at hP
 refine aB ?_
 refine aH ?_
 refine aC ?_
 refine aA hF (aF hF rfl rfl) rfl rfl rfl fun a hF=>?_
 refine aA hF (aG hF rfl rfl) rfl rfl rfl fun a hF=>?_
 refine aI (aB ?_)
 refine c_ret ?_
 have hP:=Option.some.inj hP
 subst hP
 refine aY Tryz.results106 hF rfl ?_
 exact ⟨rfl,hM⟩
set_option maxHeartbeats 4000000 in
theorem iN {x0:Int} {out:Bool} {w0:World} {Lr:List Res} (hP:Sh.gU x0 = some out) (hM:MemL w0 (Lr)):Calls Tryz.prog 107 #[.int .i64 x0] w0 (Ret fun v w'=>v = .bool out ∧ MemL w' (Lr)):=by
 unfold Sh.gU at hP
 refine aM (vs:=[.int .i64 x0]) Tryz.func107 rfl Tryz.ntmps107 rfl fun a hF=>?_
 refine aH ?_
 refine aC ?_
 refine aA hF (aG hF rfl rfl) rfl rfl rfl fun a hF=>?_
 refine aI (aB ?_)
 refine aH ?_
 refine aS hF hM hP (fun F x a w=>match x with | v17=>Fr 9 [(2,.bool v17)] a ∧ MemL w (Lr)) (fun c1 hP c0 hF hM=>?_) ?_
 ·refine aC ?_
  refine aA hF (aF hF rfl rfl) rfl rfl rfl fun a hF=>?_
  refine aA hF (cE hF rfl rfl rfl) rfl rfl rfl fun a hF=>?_
  refine aA hF (aF hF rfl rfl) rfl rfl rfl fun a hF=>?_
  refine aZ 5 hF rfl (fun hb18=>?_) (fun hb18=>?_)
  ·have hP:=Fx.cT hb18 hP
   refine aE hF rfl rfl rfl hb18 rfl rfl fun a hF=>?_
   refine aE hF rfl rfl rfl hb18 rfl rfl fun a hF=>?_
   refine aA hF (aP hF rfl rfl hb18 rfl) rfl rfl rfl fun a hF=>?_
   refine aA hF (aG hF rfl rfl) rfl rfl rfl fun a hF=>?_
   refine aI (aB ?_)
   have hP:=Option.some.inj hP
   subst hP
   exact ⟨true,rfl,hF.to ⟨rfl,trivial⟩,hM⟩
  have hP:=Fx.cF hb18 hP
  refine aK hF rfl rfl rfl hb18 (aF hF rfl rfl) rfl rfl fun a hF=>?_
  obtain ⟨y20,hy20,hP⟩:=bind_some hP
  refine dX hF rfl rfl rfl hb18 rfl rfl (aO (xs:=[.tmp 6,.const (.int .i64 (80)),.const (.int .i64 (89))]) Tryz.call159 hF rfl rfl (cJ hy20 hM ) fun v w hR=>?_)
  obtain ⟨rfl,hM⟩:=hR
  replace hM:MemL _ (Lr):=hM
  intro a hF
  refine aA hF (aQ hF rfl rfl hb18 rfl) rfl rfl rfl fun a hF=>?_
  refine aA hF (aG hF rfl rfl) rfl rfl rfl fun a hF=>?_
  refine aI (aB ?_)
  have hP:=Option.some.inj hP
  subst hP
  exact ⟨y20,rfl,hF.to ⟨rfl,trivial⟩,hM⟩
 rintro v17 a w hP ⟨hF,hM⟩
 replace hP:Sh.fL v17 = _:=hP
 unfold Sh.fL at hP
 refine aB ?_
 refine c_ret ?_
 have hP:=Option.some.inj hP
 subst hP
 refine aY Tryz.results107 hF rfl ?_
 exact ⟨rfl,hM⟩
set_option maxHeartbeats 4000000 in
theorem dQ {x0:List UInt8} {x1:Int} {x2:Int} {s1:SV} {out:List UInt8} {w0:World} {Lr:List Res} (hP:Sh.cW x0 x1 x2 = some out) (hM:MemL w0 (rowL 0 s1 5 x0 :: Lr)):Calls Tryz.prog 108 #[(s1).v,.int .i64 x1,.int .i64 x2] w0 (Ret fun v w'=>∃ (s90:SV),v = (s90).v ∧ MemL w' (rowL 0 s90 5 out :: Lr)):=by
 unfold Sh.cW at hP
 refine aM (vs:=[(s1).v,.int .i64 x1,.int .i64 x2]) Tryz.func108 rfl Tryz.ntmps108 rfl fun a hF=>?_
 refine aH ?_
 refine aC ?_
 refine aA hF (aG hF rfl rfl) rfl rfl rfl fun a hF=>?_
 refine aI (aB ?_)
 refine aH ?_
 refine aS hF hM hP (fun F x a w=>match x with | c8=>∃ (c5:SV),Fr 21 [(0,(c5).v),(6,(SV.nil).v)] a ∧ MemL w (rowL 0 c5 5 c8 :: Lr)) (fun d6 hP d5 hF hM=>?_) ?_
 ·refine aH ?_
  refine aC ?_
  refine aA hF (aG hF rfl rfl) rfl rfl rfl fun a hF=>?_
  refine aI (aB ?_)
  refine aV ?_
  refine bN hF hM hP (fun F x a w=>match x with | (c3,c0,c6)=>∃ (c2:SV),Fr 21 [(0,(c2).v),(1,.int .i64 c0),(7,.int .i64 c6),(2,.int .i64 x2),(6,(SV.nil).v)] a ∧ MemL w (rowL 0 c2 5 c3 :: Lr)) (fun hF hM=>⟨s1,hF.to ⟨rfl,rfl,rfl,rfl,rfl,trivial⟩,hM⟩) ?_
  rintro ⟨c3,c0,c6⟩ a w d7 hP d2 ⟨c2,hF,hM⟩
  replace hP:Sh.iL x2 c3 c0 c6 = _:=hP
  unfold Sh.iL at hP
  refine aH ?_
  refine aH ?_
  refine aC ?_
  refine aA hF (aF hF rfl rfl) rfl rfl rfl fun a hF=>?_
  refine aA hF (aF hF rfl rfl) rfl rfl rfl fun a hF=>?_
  refine aA hF (cH hF rfl rfl rfl) rfl rfl rfl fun a hF=>?_
  refine aI (aB ?_)
  refine aR hF (c:=.tmp 10) rfl (fun c4=>?_) (fun c4=>?_)
  ·have hP:=Fx.cT c4 hP
   refine aT (aB ?_)
   refine aH ?_
   refine aV ?_
   refine aH ?_
   refine aC ?_
   refine aA hF (aF hF rfl rfl) rfl rfl rfl fun a hF=>?_
   refine aA hF (aF hF rfl rfl) rfl rfl rfl fun a hF=>?_
   refine aA hF (eS Tryz.underlying3 Tryz.underlying5 hF rfl rfl) rfl rfl rfl fun a hF=>?_
   refine aN hF rfl rfl rfl (cY (X:=UInt8) (y:=(Fw.byteOf c0)) Tryz.underlying23 in5 rfl rfl rfl rfl hF rfl rfl rfl fun c1 w d4 c7=>?_)
   have hM:=hM.plus c7
   replace hM:MemL _ (pt c1 (encs ([(Fw.byteOf c0)]:List UInt8)) 5 :: rowL 0 c2 5 c3 :: Lr):=hM
   intro a hF
   obtain ⟨d1,d3,hP⟩:=bind_some hP
   refine aN hF rfl rfl rfl (dE (X:=UInt8) d3 Tryz.underlying23 in5 rfl rfl rfl rfl hF rfl rfl rfl (hM.own (X:=UInt8) (i:=1) rfl) (hM.ptS (X:=UInt8) (i:=0) (n:=1) (c:=1) rfl rfl rfl (Nat.le_refl _)) fun d0 w c9=>?_)
   have hM:=hM.chg c9 (i:=1) rfl
   replace hM:MemL _ (pt c1 (encs ([(Fw.byteOf c0)]:List UInt8)) 5 :: rowL 0 d0 5 d1 :: Lr):=hM
   intro a hF
   refine aA hF (aG hF rfl rfl) rfl rfl rfl fun a hF=>?_
   refine aI (aB ?_)
   refine aC ?_
   refine aA hF (aF hF rfl rfl) rfl rfl rfl fun a hF=>?_
   refine aA hF (nU hF rfl rfl rfl (by decide)) rfl rfl rfl fun a hF=>?_
   refine aA hF (aG hF rfl rfl) rfl rfl rfl fun a hF=>?_
   refine aI (bI (aB ?_))
   refine aC ?_
   refine aA hF (aF hF rfl rfl) rfl rfl rfl fun a hF=>?_
   refine aA hF (cA hF rfl rfl rfl) rfl rfl rfl fun a hF=>?_
   refine aA hF (aG hF rfl rfl) rfl rfl rfl fun a hF=>?_
   refine aI (aB ?_)
   have hP:=Option.some.inj hP
   subst hP
   exact ⟨(d1,(shr .i64 c0 (8:Int).toNat),(IntKind.i64.wrap (c6 + 1))),rfl,d0,hF.to ⟨rfl,rfl,rfl,rfl,rfl,trivial⟩,selM hM [1] 2 rfl⟩
  have hP:=Fx.cF c4 hP
  refine bW (bD (bD (cG ?_)))
  refine aB ?_
  have hP:=Option.some.inj hP
  subst hP
  have hP:=d2 _ rfl
  subst hP
  exact ⟨c3,rfl,c2,hF.to ⟨rfl,rfl,trivial⟩,hM⟩
 rintro c8 a w hP ⟨c5,hF,hM⟩
 replace hP:Sh.nZ c8 = _:=hP
 unfold Sh.nZ at hP
 refine aB ?_
 refine aH ?_
 refine aC ?_
 refine aA hF (aF hF rfl rfl) rfl rfl rfl fun a hF=>?_
 refine aA hF (aG hF rfl rfl) rfl rfl rfl fun a hF=>?_
 refine aI (aB ?_)
 refine c_ret ?_
 have hP:=Option.some.inj hP
 subst hP
 refine aY Tryz.results108 hF rfl ?_
 exact ⟨c5,rfl,hM⟩
set_option maxHeartbeats 4000000 in
theorem gI {x0:List UInt8} {x1:LVal} {s1:SV} {out:List UInt8} {w0:World} {Lr:List Res} (hP:Sh.iM x0 x1 = some out) (hM:MemL w0 (rowL 0 s1 5 x0 :: Lr)):Calls Tryz.prog 182 #[(s1).v,.agg (LVal.enc x1).toArray] w0 (Ret fun v w'=>∃ (s35:SV),v = (s35).v ∧ MemL w' (rowL 0 s35 5 out :: Lr)):=by
 unfold Sh.iM at hP
 refine aM (vs:=[(s1).v,.agg (LVal.enc x1).toArray]) Tryz.func182 rfl Tryz.ntmps182 rfl fun a hF=>?_
 refine aH ?_
 refine aC ?_
 refine aN hF rfl rfl rfl (dD hF rfl rfl rfl fun c0 w c7 c4=>?_)
 have hM:=hM.plus c4
 replace hM:MemL _ (pt c0 (LVal.enc x1) 46 :: rowL 0 s1 5 x0 :: Lr):=hM
 intro a hF
 refine aA hF (aG hF rfl rfl) rfl rfl rfl fun a hF=>?_
 refine aI (aB ?_)
 refine aH ?_
 refine aC ?_
 refine aA hF (aF hF rfl rfl) rfl rfl rfl fun a hF=>?_
 refine aA hF (aD (off':=0) Tryz.underlying46 rfl in3 rfl hF rfl rfl rfl) rfl rfl rfl fun a hF=>?_
 refine aA hF (aJ Tryz.isAgg3 hF rfl rfl (hM.cell (i:=0) rfl (LVal.g_kind _))) rfl rfl rfl fun a hF=>?_
 refine aA hF (eS Tryz.underlying3 Tryz.underlying5 hF rfl rfl) rfl rfl rfl fun a hF=>?_
 refine aN hF rfl rfl rfl (cY (X:=UInt8) (y:=(Fw.byteOf x1.kind)) Tryz.underlying23 in5 rfl rfl rfl rfl hF rfl rfl rfl fun c1 w c8 c5=>?_)
 have hM:=hM.plus c5
 replace hM:MemL _ (pt c1 (encs ([(Fw.byteOf x1.kind)]:List UInt8)) 5 :: pt c0 (LVal.enc x1) 46 :: rowL 0 s1 5 x0 :: Lr):=hM
 intro a hF
 obtain ⟨x38,hx38,hP⟩:=bind_some hP
 refine aN hF rfl rfl rfl (dE (X:=UInt8) hx38 Tryz.underlying23 in5 rfl rfl rfl rfl hF rfl rfl rfl (hM.own (X:=UInt8) (i:=2) rfl) (hM.ptS (X:=UInt8) (i:=0) (n:=1) (c:=1) rfl rfl rfl (Nat.le_refl _)) fun s37 w hUs37=>?_)
 have hM:=hM.chg hUs37 (i:=2) rfl
 replace hM:MemL _ (pt c1 (encs ([(Fw.byteOf x1.kind)]:List UInt8)) 5 :: pt c0 (LVal.enc x1) 46 :: rowL 0 s37 5 x38 :: Lr):=hM
 intro a hF
 refine aA hF (aG hF rfl rfl) rfl rfl rfl fun a hF=>?_
 refine aI (aB ?_)
 refine aH ?_
 refine aS hF hM hP (fun F x a w=>match x with | v45=>∃ (s46:SV),Fr 31 [(0,(s46).v),(3,.pointer (some ⟨c0,0,none⟩)),(4,(SV.nil).v)] a ∧ MemL w (rowL 0 s46 5 v45 :: pt c0 (LVal.enc x1) 46 :: Lr)) (fun d1 hP c9 hF hM=>?_) ?_
 ·refine aH ?_
  refine aC ?_
  refine aA hF (aD (off':=0) Tryz.underlying46 rfl in3 rfl hF rfl rfl rfl) rfl rfl rfl fun a hF=>?_
  refine aA hF (aJ Tryz.isAgg3 hF rfl rfl (hM.cell (i:=1) rfl (LVal.g_kind _))) rfl rfl rfl fun a hF=>?_
  refine aA hF (cE hF rfl rfl rfl) rfl rfl rfl fun a hF=>?_
  refine aI (aB ?_)
  refine aR hF (c:=.tmp 13) rfl (fun hb48=>?_) (fun hb48=>?_)
  ·have hP:=Fx.cT hb48 hP
   refine aC ?_
   refine aA hF (aF hF rfl rfl) rfl rfl rfl fun a hF=>?_
   refine aA hF (aD (off':=1) Tryz.underlying46 rfl in3 rfl hF rfl rfl rfl) rfl rfl rfl fun a hF=>?_
   refine aA hF (aJ Tryz.isAgg3 hF rfl rfl (hM.cell (i:=1) rfl (LVal.g_table _))) rfl rfl rfl fun a hF=>?_
   refine aA hF (eS Tryz.underlying3 Tryz.underlying5 hF rfl rfl) rfl rfl rfl fun a hF=>?_
   refine aA hF (aD (off':=2) Tryz.underlying46 rfl in3 rfl hF rfl rfl rfl) rfl rfl rfl fun a hF=>?_
   refine aA hF (aJ Tryz.isAgg3 hF rfl rfl (hM.cell (i:=1) rfl (LVal.g_row _))) rfl rfl rfl fun a hF=>?_
   refine aA hF (eS Tryz.underlying3 Tryz.underlying5 hF rfl rfl) rfl rfl rfl fun a hF=>?_
   refine aN hF rfl rfl rfl (lE (X:=UInt8) (ys:=[(Fw.byteOf x1.table),(Fw.byteOf x1.row)]) (m:=2) Tryz.underlying23 in5 rfl rfl rfl rfl (by decide) (by decide) hF rfl rfl (PartsE.cons rfl (PartsE.cons rfl PartsE.nil)) fun c2 w c6 c3=>?_)
   have hM:=hM.plus c3
   replace hM:MemL _ (pt c2 (encs ([(Fw.byteOf x1.table),(Fw.byteOf x1.row)]:List UInt8)) 5 :: pt c1 (encs ([(Fw.byteOf x1.kind)]:List UInt8)) 5 :: pt c0 (LVal.enc x1) 46 :: rowL 0 s37 5 x38 :: Lr):=hM
   intro a hF
   obtain ⟨x50,hx50,hP⟩:=bind_some hP
   refine aN hF rfl rfl rfl (dE (X:=UInt8) hx50 Tryz.underlying23 in5 rfl rfl rfl rfl hF rfl rfl rfl (hM.own (X:=UInt8) (i:=3) rfl) (hM.ptS (X:=UInt8) (i:=0) (n:=2) (c:=2) rfl rfl rfl (Nat.le_refl _)) fun s49 w hUs49=>?_)
   have hM:=hM.chg hUs49 (i:=3) rfl
   replace hM:MemL _ (pt c2 (encs ([(Fw.byteOf x1.table),(Fw.byteOf x1.row)]:List UInt8)) 5 :: pt c1 (encs ([(Fw.byteOf x1.kind)]:List UInt8)) 5 :: pt c0 (LVal.enc x1) 46 :: rowL 0 s49 5 x50 :: Lr):=hM
   intro a hF
   refine aA hF (aG hF rfl rfl) rfl rfl rfl fun a hF=>?_
   refine aI (aB ?_)
   have hP:=Option.some.inj hP
   subst hP
   exact ⟨x50,rfl,s49,hF.to ⟨rfl,rfl,rfl,trivial⟩,selM hM [3,2] 4 rfl⟩
  have hP:=Fx.cF hb48 hP
  refine aT (aB ?_)
  have hP:=Option.some.inj hP
  subst hP
  exact ⟨x38,rfl,s37,hF.to ⟨rfl,rfl,rfl,trivial⟩,selM hM [2,1] 3 rfl⟩
 rintro v45 a w hP ⟨s46,hF,hM⟩
 replace hP:Sh.hJ x1 v45 = _:=hP
 unfold Sh.hJ at hP
 refine aB ?_
 refine aH ?_
 refine aS hF hM hP (fun F x a w=>match x with | v61=>∃ (s62:SV),Fr 31 [(0,(s62).v),(4,(SV.nil).v)] a ∧ MemL w (rowL 0 s62 5 v61 :: Lr)) (fun d2 hP d0 hF hM=>?_) ?_
 ·refine aH ?_
  refine aC ?_
  refine aA hF (aD (off':=0) Tryz.underlying46 rfl in3 rfl hF rfl rfl rfl) rfl rfl rfl fun a hF=>?_
  refine aA hF (aJ Tryz.isAgg3 hF rfl rfl (hM.cell (i:=1) rfl (LVal.g_kind _))) rfl rfl rfl fun a hF=>?_
  refine aA hF (cW hF rfl rfl rfl) rfl rfl rfl fun a hF=>?_
  refine aI (aB ?_)
  refine aR hF (c:=.tmp 25) rfl (fun hb64=>?_) (fun hb64=>?_)
  ·have hP:=Fx.cT hb64 hP
   refine aC ?_
   refine aA hF (aF hF rfl rfl) rfl rfl rfl fun a hF=>?_
   refine aA hF (aD (off':=3) Tryz.underlying46 rfl in3 rfl hF rfl rfl rfl) rfl rfl rfl fun a hF=>?_
   refine aA hF (aJ Tryz.isAgg3 hF rfl rfl (hM.cell (i:=1) rfl (LVal.g_x _))) rfl rfl rfl fun a hF=>?_
   obtain ⟨y66,hy66,hP⟩:=bind_some hP
   refine aN hF rfl rfl rfl (aO (xs:=[.tmp 26,.tmp 28,.const (.int .i64 (8))]) Tryz.call108 hF rfl rfl (dQ hy66 hM ) fun v w hR=>?_)
   obtain ⟨s67,rfl,hM⟩:=hR
   replace hM:MemL _ (rowL 0 s67 5 y66 :: pt c0 (LVal.enc x1) 46 :: Lr):=hM
   intro a hF
   refine aA hF (aG hF rfl rfl) rfl rfl rfl fun a hF=>?_
   refine aI (aB ?_)
   have hP:=Option.some.inj hP
   subst hP
   exact ⟨y66,rfl,s67,hF.to ⟨rfl,rfl,trivial⟩,selM hM [0] 2 rfl⟩
  have hP:=Fx.cF hb64 hP
  refine aT (aB ?_)
  have hP:=Option.some.inj hP
  subst hP
  exact ⟨v45,rfl,s46,hF.to ⟨rfl,rfl,trivial⟩,selM hM [0] 2 rfl⟩
 rintro v61 a w hP ⟨s62,hF,hM⟩
 replace hP:Sh.hK v61 = _:=hP
 unfold Sh.hK at hP
 refine aB ?_
 refine aH ?_
 refine aC ?_
 refine aA hF (aF hF rfl rfl) rfl rfl rfl fun a hF=>?_
 refine aA hF (aG hF rfl rfl) rfl rfl rfl fun a hF=>?_
 refine aI (aB ?_)
 refine c_ret ?_
 have hP:=Option.some.inj hP
 subst hP
 refine aY Tryz.results182 hF rfl ?_
 exact ⟨s62,rfl,hM⟩
set_option maxHeartbeats 4000000 in
theorem jH {x0:List UInt8} {x1:LSlot} {s1:SV} {out:List UInt8} {w0:World} {Lr:List Res} (hP:Sh.jY x0 x1 = some out) (hM:MemL w0 (rowL 0 s1 5 x0 :: Lr)):Calls Tryz.prog 183 #[(s1).v,.agg (LSlot.enc x1).toArray] w0 (Ret fun v w'=>∃ (g0:SV),v = (g0).v ∧ MemL w' (rowL 0 g0 5 out :: Lr)):=by
 unfold Sh.jY at hP
 refine aM (vs:=[(s1).v,.agg (LSlot.enc x1).toArray]) Tryz.func183 rfl Tryz.ntmps183 rfl fun a hF=>?_
 refine aH ?_
 refine aC ?_
 refine aN hF rfl rfl rfl (dD hF rfl rfl rfl fun c0 w i2 d5=>?_)
 have hM:=hM.plus d5
 replace hM:MemL _ (pt c0 (LSlot.enc x1) 50 :: rowL 0 s1 5 x0 :: Lr):=hM
 intro a hF
 refine aA hF (aG hF rfl rfl) rfl rfl rfl fun a hF=>?_
 refine aI (aB ?_)
 refine aH ?_
 refine aH ?_
 refine aC ?_
 refine aA hF (aD (off':=0) Tryz.underlying50 rfl in46 rfl hF rfl rfl rfl) rfl rfl rfl fun a hF=>?_
 refine aA hF (aD (off':=0) Tryz.underlying46 rfl in3 rfl hF rfl rfl rfl) rfl rfl rfl fun a hF=>?_
 refine aA hF (aJ Tryz.isAgg3 hF rfl rfl ((hM.cells (i:=0) rfl (LSlot.c_ptr _)).get 0 (LVal.g_kind _))) rfl rfl rfl fun a hF=>?_
 refine aA hF (cW hF rfl rfl rfl) rfl rfl rfl fun a hF=>?_
 refine aI (aB ?_)
 refine aR hF (c:=.tmp 9) rfl (fun c6=>?_) (fun c6=>?_)
 ·have hP:=Fx.cT c6 hP
  refine aH ?_
  refine aC ?_
  refine aA hF (aF hF rfl rfl) rfl rfl rfl fun a hF=>?_
  refine aA hF (aD (off':=0) Tryz.underlying50 rfl in46 rfl hF rfl rfl rfl) rfl rfl rfl fun a hF=>?_
  refine aA hF (bB Tryz.isAgg46 Tryz.sizeOf46 hF rfl rfl (LVal.len _) (hM.cells (i:=0) rfl (LSlot.c_ptr _))) rfl rfl rfl fun a hF=>?_
  obtain ⟨i4,g9,hP⟩:=bind_some hP
  refine aN hF rfl rfl rfl (aO (xs:=[.tmp 10,.tmp 12]) Tryz.call182 hF rfl rfl (gI g9 (selM hM [1,0] 2 rfl) ) fun v w hR=>?_)
  obtain ⟨g1,rfl,hM⟩:=hR
  replace hM:MemL _ (rowL 0 g1 5 i4 :: pt c0 (LSlot.enc x1) 50 :: Lr):=hM
  intro a hF
  refine aA hF (aG hF rfl rfl) rfl rfl rfl fun a hF=>?_
  refine aI (aB ?_)
  refine c_ret ?_
  have hP:=Option.some.inj hP
  subst hP
  refine aY Tryz.results183 hF rfl ?_
  exact ⟨g1,rfl,selM hM [0] 2 rfl⟩
 have hP:=Fx.cF c6 hP
 refine aT (aB ?_)
 refine aH ?_
 refine aC ?_
 refine aA hF (aF hF rfl rfl) rfl rfl rfl fun a hF=>?_
 refine aA hF (aD (off':=12) Tryz.underlying50 rfl in3 rfl hF rfl rfl rfl) rfl rfl rfl fun a hF=>?_
 refine aA hF (aJ Tryz.isAgg3 hF rfl rfl (hM.cell (i:=0) rfl (LSlot.g_mask _))) rfl rfl rfl fun a hF=>?_
 refine aA hF (eS Tryz.underlying3 Tryz.underlying5 hF rfl rfl) rfl rfl rfl fun a hF=>?_
 refine aN hF rfl rfl rfl (lE (X:=UInt8) (ys:=[0,(Fw.byteOf x1.mask)]) (m:=2) Tryz.underlying23 in5 rfl rfl rfl rfl (by decide) (by decide) hF rfl rfl (PartsE.cons rfl (PartsE.cons rfl PartsE.nil)) fun c4 w i0 d3=>?_)
 have hM:=hM.plus d3
 replace hM:MemL _ (pt c4 (encs ([0,(Fw.byteOf x1.mask)]:List UInt8)) 5 :: pt c0 (LSlot.enc x1) 50 :: rowL 0 s1 5 x0 :: Lr):=hM
 intro a hF
 obtain ⟨i3,g7,hP⟩:=bind_some hP
 refine aN hF rfl rfl rfl (dE (X:=UInt8) g7 Tryz.underlying23 in5 rfl rfl rfl rfl hF rfl rfl rfl (hM.own (X:=UInt8) (i:=2) rfl) (hM.ptS (X:=UInt8) (i:=0) (n:=2) (c:=2) rfl rfl rfl (Nat.le_refl _)) fun g2 w d8=>?_)
 have hM:=hM.chg d8 (i:=2) rfl
 replace hM:MemL _ (pt c4 (encs ([0,(Fw.byteOf x1.mask)]:List UInt8)) 5 :: pt c0 (LSlot.enc x1) 50 :: rowL 0 g2 5 i3 :: Lr):=hM
 intro a hF
 refine aA hF (aG hF rfl rfl) rfl rfl rfl fun a hF=>?_
 refine aI (aB ?_)
 refine aH ?_
 refine aS hF hM hP (fun F x a w=>match x with | d6=>∃ (d0:SV),Fr 38 [(0,(d0).v),(4,(SV.nil).v)] a ∧ MemL w (rowL 0 d0 5 d6 :: Lr)) (fun i8 hP i6 hF hM=>?_) ?_
 ·refine aH ?_
  refine aC ?_
  refine aA hF (aG hF rfl rfl) rfl rfl rfl fun a hF=>?_
  refine aI (aB ?_)
  refine aV ?_
  refine bN hF hM hP (fun F x a w=>match x with | (c2,c3)=>∃ (c1:SV),Fr 38 [(0,(c1).v),(5,.int .i64 c3),(3,.pointer (some ⟨c0,0,none⟩)),(4,(SV.nil).v)] a ∧ MemL w (rowL 0 c1 5 c2 :: pt c0 (LSlot.enc x1) 50 :: Lr)) (fun hF hM=>⟨g2,hF.to ⟨rfl,rfl,rfl,rfl,trivial⟩,selM hM [2,1] 3 rfl⟩) ?_
  rintro ⟨c2,c3⟩ a w j0 hP g5 ⟨c1,hF,hM⟩
  replace hP:Sh.eW x1 c2 c3 = _:=hP
  unfold Sh.eW at hP
  refine aH ?_
  refine aH ?_
  refine aC ?_
  refine aA hF (aF hF rfl rfl) rfl rfl rfl fun a hF=>?_
  refine aA hF (cH hF rfl rfl rfl) rfl rfl rfl fun a hF=>?_
  refine aI (aB ?_)
  refine aR hF (c:=.tmp 21) rfl (fun c7=>?_) (fun c7=>?_)
  ·have hP:=Fx.cT c7 hP
   refine aT (aB ?_)
   refine aH ?_
   refine aS hF hM hP (fun F x a w=>match x with | d2=>∃ (d1:SV),Fr 38 [(0,(d1).v),(3,.pointer (some ⟨c0,0,none⟩)),(4,(SV.nil).v),(5,.int .i64 c3)] a ∧ MemL w (rowL 0 d1 5 d2 :: pt c0 (LSlot.enc x1) 50 :: Lr)) (fun i9 hP i7 hF hM=>?_) ?_
   ·refine aV ?_
    refine aH ?_
    refine aC ?_
    refine aA hF (aD (off':=12) Tryz.underlying50 rfl in3 rfl hF rfl rfl rfl) rfl rfl rfl fun a hF=>?_
    refine aA hF (aJ Tryz.isAgg3 hF rfl rfl (hM.cell (i:=1) rfl (LSlot.g_mask _))) rfl rfl rfl fun a hF=>?_
    refine aA hF (aF hF rfl rfl) rfl rfl rfl fun a hF=>?_
    obtain ⟨g6,hP⟩:=gA hP
    refine aA hF (nU hF rfl rfl rfl (of_decide_eq_true g6)) rfl rfl rfl fun a hF=>?_
    refine aA hF (pH hF rfl rfl rfl) rfl rfl rfl fun a hF=>?_
    refine aA hF (cE hF rfl rfl rfl) rfl rfl rfl fun a hF=>?_
    refine aI (aB ?_)
    refine aR hF (c:=.tmp 29) rfl (fun c8=>?_) (fun c8=>?_)
    ·have hP:=Fx.cT c8 hP
     refine aC ?_
     refine aA hF (aF hF rfl rfl) rfl rfl rfl fun a hF=>?_
     refine aA hF (aF hF rfl rfl) rfl rfl rfl fun a hF=>?_
     refine aA hF (aD (off':=4) Tryz.underlying50 rfl in48 rfl hF rfl rfl rfl) rfl rfl rfl fun a hF=>?_
     obtain ⟨d7,c9,hP⟩:=bind_some hP
     have i5:=aW c9
     refine aA hF (dZ (sz:=1) Tryz.underlying48 in5 rfl hF rfl rfl rfl (eL c9)) rfl rfl rfl fun a hF=>?_
     refine aA hF (aJ Tryz.isAgg5 hF rfl rfl ((hM.cells (i:=1) rfl (LSlot.ci_bytes _ _ _ (aW c9).2)).get 0 rfl)) rfl rfl rfl fun a hF=>?_
     refine aN hF rfl rfl rfl (cY (X:=UInt8) (y:=d7) Tryz.underlying23 in5 rfl rfl rfl rfl hF rfl rfl rfl fun c5 w i1 d4=>?_)
     have hM:=hM.plus d4
     replace hM:MemL _ (pt c5 (encs ([d7]:List UInt8)) 5 :: rowL 0 c1 5 c2 :: pt c0 (LSlot.enc x1) 50 :: Lr):=hM
     intro a hF
     obtain ⟨g4,g8,hP⟩:=bind_some hP
     refine aN hF rfl rfl rfl (dE (X:=UInt8) g8 Tryz.underlying23 in5 rfl rfl rfl rfl hF rfl rfl rfl (hM.own (X:=UInt8) (i:=1) rfl) (hM.ptS (X:=UInt8) (i:=0) (n:=1) (c:=1) rfl rfl rfl (Nat.le_refl _)) fun g3 w d9=>?_)
     have hM:=hM.chg d9 (i:=1) rfl
     replace hM:MemL _ (pt c5 (encs ([d7]:List UInt8)) 5 :: rowL 0 g3 5 g4 :: pt c0 (LSlot.enc x1) 50 :: Lr):=hM
     intro a hF
     refine aA hF (aG hF rfl rfl) rfl rfl rfl fun a hF=>?_
     refine aI (bI (aB ?_))
     have hP:=Option.some.inj hP
     subst hP
     exact ⟨g4,rfl,g3,hF.to ⟨rfl,rfl,rfl,rfl,trivial⟩,selM hM [1,2] 3 rfl⟩
    have hP:=Fx.cF c8 hP
    refine aT (bI (aB ?_))
    have hP:=Option.some.inj hP
    subst hP
    exact ⟨c2,rfl,c1,hF.to ⟨rfl,rfl,rfl,rfl,trivial⟩,hM⟩
   rintro d2 a w hP ⟨d1,hF,hM⟩
   replace hP:Sh.jP c3 d2 = _:=hP
   unfold Sh.jP at hP
   refine aB ?_
   refine aC ?_
   refine aA hF (aF hF rfl rfl) rfl rfl rfl fun a hF=>?_
   refine aA hF (cA hF rfl rfl rfl) rfl rfl rfl fun a hF=>?_
   refine aA hF (aG hF rfl rfl) rfl rfl rfl fun a hF=>?_
   refine aI (aB ?_)
   have hP:=Option.some.inj hP
   subst hP
   exact ⟨(d2,(IntKind.i64.wrap (c3 + 1))),rfl,d1,hF.to ⟨rfl,rfl,rfl,rfl,trivial⟩,hM⟩
  have hP:=Fx.cF c7 hP
  refine bW (bD (bD (cG ?_)))
  refine aB ?_
  have hP:=Option.some.inj hP
  subst hP
  have hP:=g5 _ rfl
  subst hP
  exact ⟨c2,rfl,c1,hF.to ⟨rfl,rfl,trivial⟩,selM hM [0] 2 rfl⟩
 rintro d6 a w hP ⟨d0,hF,hM⟩
 replace hP:Sh.kY d6 = _:=hP
 unfold Sh.kY at hP
 refine aB ?_
 refine aH ?_
 refine aC ?_
 refine aA hF (aF hF rfl rfl) rfl rfl rfl fun a hF=>?_
 refine aA hF (aG hF rfl rfl) rfl rfl rfl fun a hF=>?_
 refine aI (aB ?_)
 refine c_ret ?_
 have hP:=Option.some.inj hP
 subst hP
 refine aY Tryz.results183 hF rfl ?_
 exact ⟨d0,rfl,hM⟩
set_option maxHeartbeats 4000000 in
theorem nG {x0:List UInt8} {x1:QMark} {s1:SV} {s3:SV} {s5:SV} {s7:SV} {hs8:List RPiece} {s11:SV} {out:List UInt8} {w0:World} {Bf:World → Prop} {Lr:List Res} (hP:Sh.lZ x0 x1 = some out) (hM:MemL w0 (rowL 0 s1 5 x0 :: Lr)) (hsub:∀ w,MemL w Lr → Bf w) (f4:LIn Bf s3 x1.regs) (f6:LIn Bf s5 x1.slots) (f9:LIn Bf s7 hs8) (q10:Each (QPieceIn Bf) hs8 x1.pieces) (f12:LIn Bf s11 x1.sent):Calls Tryz.prog 109 #[(s1).v,.agg (RMark.enc (RMark.mk x1.at_ x1.next x1.done s3 s5 s7 s11)).toArray] w0 (Ret fun v w'=>∃ (k8:SV),v = (k8).v ∧ MemL w' (rowL 0 k8 5 out :: Lr)):=by
 unfold Sh.lZ at hP
 refine aM (vs:=[(s1).v,.agg (RMark.enc (RMark.mk x1.at_ x1.next x1.done s3 s5 s7 s11)).toArray]) Tryz.func109 rfl Tryz.ntmps109 rfl fun a hF=>?_
 refine aH ?_
 refine aC ?_
 refine aN hF rfl rfl rfl (dD hF rfl rfl rfl fun c0 w c22 k5=>?_)
 have hM:=hM.plus k5
 replace hM:MemL _ (pt c0 (RMark.enc (RMark.mk x1.at_ x1.next x1.done s3 s5 s7 s11)) 60 :: rowL 0 s1 5 x0 :: Lr):=hM
 intro a hF
 refine aA hF (aG hF rfl rfl) rfl rfl rfl fun a hF=>?_
 refine aI (aB ?_)
 refine aH ?_
 refine bQ mixed (by kernel_rfl) hM [0] 2 rfl fun hch=>?_
 refine aL hF hch 0 rfl (by kernel_rfl) rfl rfl rfl (fun w hM=>(aF hF rfl rfl)) fun a hF=>?_
 refine aL hF hch 1 rfl (by kernel_rfl) rfl rfl rfl (fun w hM=>(aD (off':=0) Tryz.underlying60 rfl in3 rfl hF rfl rfl rfl)) fun a hF=>?_
 refine aL hF hch 2 rfl (by kernel_rfl) rfl rfl rfl (fun w hM=>(aJ Tryz.isAgg3 hF rfl rfl (hM.cell (i:=0) rfl (RMark.g_at_ _)))) fun a hF=>?_
 refine aL hF hch 4 rfl (by kernel_rfl) rfl rfl rfl (fun w hM=>(aD (off':=1) Tryz.underlying60 rfl in3 rfl hF rfl rfl rfl)) fun a hF=>?_
 refine aL hF hch 5 rfl (by kernel_rfl) rfl rfl rfl (fun w hM=>(aJ Tryz.isAgg3 hF rfl rfl (hM.cell (i:=0) rfl (RMark.g_next _)))) fun a hF=>?_
 refine bS hch 3 (by kernel_rfl) rfl rfl ?_
 refine cR hF 3 rfl rfl rfl rfl rfl fun w hMs hM=>?_
 obtain ⟨c12,p9,hP⟩:=bind_some hP
 refine (aO (xs:=[.tmp 11,.tmp 13,.const (.int .i64 (2))]) Tryz.call108 hF rfl rfl (dQ p9 (selM hM [1,0] 2 rfl) ) fun v w hR=>?_)
 obtain ⟨u6,rfl,hM⟩:=hR
 replace hM:MemL _ (rowL 0 u6 5 c12 :: pt c0 (RMark.enc (RMark.mk x1.at_ x1.next x1.done s3 s5 s7 s11)) 60 :: Lr):=hM
 have hMs:=selM hM [0,1] 2 rfl
 refine ⟨_,_,hMs,hM,.inl fun _ h=>dropM h 1,fun a hF=>?_⟩
 refine bS hch 6 (by kernel_rfl) rfl rfl ?_
 refine cR hF 6 rfl rfl rfl rfl rfl fun w hMs hM=>?_
 obtain ⟨i2,t0,hP⟩:=bind_some hP
 refine (aO (xs:=[.tmp 14,.tmp 16,.const (.int .i64 (2))]) Tryz.call108 hF rfl rfl (dQ t0 hM ) fun v w hR=>?_)
 obtain ⟨g0,rfl,hM⟩:=hR
 replace hM:MemL _ (rowL 0 g0 5 i2 :: pt c0 (RMark.enc (RMark.mk x1.at_ x1.next x1.done s3 s5 s7 s11)) 60 :: Lr):=hM
 have hMs:=hM
 refine ⟨_,_,hMs,hM,.inr (by kernel_rfl),fun a hF=>?_⟩
 refine bS hch 7 (by kernel_rfl) rfl rfl ?_
 refine cR hF 7 rfl rfl rfl rfl rfl fun w hMs hM=>Yd.val (aG hF rfl rfl) ?_
 refine ⟨_,_,hMs,hM,.inl fun _ h=>h,fun a hF=>?_⟩
 refine cI hch (by kernel_rfl) fun w hM=>?_
 refine aB ?_
 refine aH ?_
 refine aC ?_
 refine aA hF (aG hF rfl rfl) rfl rfl rfl fun a hF=>?_
 refine aI (aB ?_)
 refine aH ?_
 refine aS hF hM hP (fun F x a w=>match x with | d0=>Fr 162 [(5,.int .i64 d0),(0,(g0).v),(3,.pointer (some ⟨c0,0,none⟩)),(4,(SV.nil).v)] a ∧ MemL w (pt c0 (RMark.enc (RMark.mk x1.at_ x1.next x1.done s3 s5 s7 s11)) 60 :: rowL 0 g0 5 i2 :: Lr)) (fun c35 hP c25 hF hM=>?_) ?_
 ·refine aH ?_
  refine aC ?_
  refine aA hF (aD (off':=2) Tryz.underlying60 rfl in4 rfl hF rfl rfl rfl) rfl rfl rfl fun a hF=>?_
  refine aA hF (aJ Tryz.isAgg4 hF rfl rfl (hM.cell (i:=1) rfl (RMark.g_done _))) rfl rfl rfl fun a hF=>?_
  refine aI (aB ?_)
  refine aR hF (c:=.tmp 19) rfl (fun i3=>?_) (fun i3=>?_)
  ·have hP:=Fx.cT i3 hP
   refine aC ?_
   refine aA hF (aG hF rfl rfl) rfl rfl rfl fun a hF=>?_
   refine aI (aB ?_)
   have hP:=Option.some.inj hP
   subst hP
   exact ⟨1,rfl,hF.to ⟨rfl,rfl,rfl,rfl,trivial⟩,selM hM [1,0] 2 rfl⟩
  have hP:=Fx.cF i3 hP
  refine aT (aB ?_)
  have hP:=Option.some.inj hP
  subst hP
  exact ⟨0,rfl,hF.to ⟨rfl,rfl,rfl,rfl,trivial⟩,selM hM [1,0] 2 rfl⟩
 rintro d0 a w hP ⟨hF,hM⟩
 replace hP:Sh.iV x1 i2 d0 = _:=hP
 unfold Sh.iV at hP
 refine aB ?_
 refine aH ?_
 refine aC ?_
 refine aA hF (aF hF rfl rfl) rfl rfl rfl fun a hF=>?_
 refine aA hF (aF hF rfl rfl) rfl rfl rfl fun a hF=>?_
 refine aA hF (eS Tryz.underlying3 Tryz.underlying5 hF rfl rfl) rfl rfl rfl fun a hF=>?_
 refine aA hF (aD (off':=3) Tryz.underlying60 rfl in56 rfl hF rfl rfl rfl) rfl rfl rfl fun a hF=>?_
 refine aA hF (aJ Tryz.isAgg56 hF rfl rfl (hM.cell (i:=0) rfl (RMark.g_regs _))) rfl rfl rfl fun a hF=>?_
 refine aA hF (bG (f4 _ (hsub _ (dropM hM 2))) Tryz.underlying56 hF rfl rfl) rfl rfl rfl fun a hF=>?_
 refine aA hF (eS Tryz.underlying3 Tryz.underlying5 hF rfl rfl) rfl rfl rfl fun a hF=>?_
 refine aN hF rfl rfl rfl (lE (X:=UInt8) (ys:=[(Fw.byteOf d0),(Fw.byteOf (x1.regs.length:Int))]) (m:=2) Tryz.underlying23 in5 rfl rfl rfl rfl (by decide) (by decide) hF rfl rfl (PartsE.cons rfl (PartsE.cons rfl PartsE.nil)) fun d8 w c18 j3=>?_)
 have hM:=hM.plus j3
 replace hM:MemL _ (pt d8 (encs ([(Fw.byteOf d0),(Fw.byteOf (x1.regs.length:Int))]:List UInt8)) 5 :: pt c0 (RMark.enc (RMark.mk x1.at_ x1.next x1.done s3 s5 s7 s11)) 60 :: rowL 0 g0 5 i2 :: Lr):=hM
 intro a hF
 obtain ⟨z5,p1,hP⟩:=bind_some hP
 refine aN hF rfl rfl rfl (dE (X:=UInt8) p1 Tryz.underlying23 in5 rfl rfl rfl rfl hF rfl rfl rfl (hM.own (X:=UInt8) (i:=2) rfl) (hM.ptS (X:=UInt8) (i:=0) (n:=2) (c:=2) rfl rfl rfl (Nat.le_refl _)) fun k9 w m9=>?_)
 have hM:=hM.chg m9 (i:=2) rfl
 replace hM:MemL _ (pt d8 (encs ([(Fw.byteOf d0),(Fw.byteOf (x1.regs.length:Int))]:List UInt8)) 5 :: pt c0 (RMark.enc (RMark.mk x1.at_ x1.next x1.done s3 s5 s7 s11)) 60 :: rowL 0 k9 5 z5 :: Lr):=hM
 intro a hF
 refine aA hF (aG hF rfl rfl) rfl rfl rfl fun a hF=>?_
 refine aI (aB ?_)
 refine aH ?_
 refine aS hF hM hP (fun F x a w=>match x with | g5=>∃ (g1:SV),Fr 162 [(0,(g1).v),(3,.pointer (some ⟨c0,0,none⟩)),(4,(SV.nil).v)] a ∧ MemL w (rowL 0 g1 5 g5 :: pt c0 (RMark.enc (RMark.mk x1.at_ x1.next x1.done s3 s5 s7 s11)) 60 :: Lr)) (fun c36 hP c26 hF hM=>?_) ?_
 ·refine aH ?_
  refine aC ?_
  refine aA hF (aG hF rfl rfl) rfl rfl rfl fun a hF=>?_
  refine aI (aB ?_)
  refine aV ?_
  refine bN hF hM hP (fun F x a w=>match x with | (d4,g6)=>∃ (d2:SV),Fr 162 [(0,(d2).v),(6,.int .i64 g6),(3,.pointer (some ⟨c0,0,none⟩)),(4,(SV.nil).v)] a ∧ MemL w (rowL 0 d2 5 d4 :: pt c0 (RMark.enc (RMark.mk x1.at_ x1.next x1.done s3 s5 s7 s11)) 60 :: Lr)) (fun hF hM=>⟨k9,hF.to ⟨rfl,rfl,rfl,rfl,trivial⟩,selM hM [2,1] 3 rfl⟩) ?_
  rintro ⟨d4,g6⟩ a w c40 hP u0 ⟨d2,hF,hM⟩
  replace hP:Sh.hM x1 d4 g6 = _:=hP
  unfold Sh.hM at hP
  refine aH ?_
  refine aH ?_
  refine aC ?_
  refine aA hF (aF hF rfl rfl) rfl rfl rfl fun a hF=>?_
  refine aA hF (aD (off':=3) Tryz.underlying60 rfl in56 rfl hF rfl rfl rfl) rfl rfl rfl fun a hF=>?_
  refine aA hF (aJ Tryz.isAgg56 hF rfl rfl (hM.cell (i:=1) rfl (RMark.g_regs _))) rfl rfl rfl fun a hF=>?_
  refine aA hF (bG (f4 _ (hsub _ (dropM hM 2))) Tryz.underlying56 hF rfl rfl) rfl rfl rfl fun a hF=>?_
  refine aA hF (cH hF rfl rfl rfl) rfl rfl rfl fun a hF=>?_
  refine aI (aB ?_)
  refine aR hF (c:=.tmp 33) rfl (fun i4=>?_) (fun i4=>?_)
  ·have hP:=Fx.cT i4 hP
   refine aT (aB ?_)
   refine aH ?_
   refine aV ?_
   refine aH ?_
   refine aC ?_
   refine aA hF (aF hF rfl rfl) rfl rfl rfl fun a hF=>?_
   refine aA hF (aD (off':=3) Tryz.underlying60 rfl in56 rfl hF rfl rfl rfl) rfl rfl rfl fun a hF=>?_
   refine aA hF (aJ Tryz.isAgg56 hF rfl rfl (hM.cell (i:=1) rfl (RMark.g_regs _))) rfl rfl rfl fun a hF=>?_
   refine aA hF (aF hF rfl rfl) rfl rfl rfl fun a hF=>?_
   obtain ⟨d6,j7,hP⟩:=bind_some hP
   have m1:=aW j7
   refine aA hF (bC (sz:=9) (f4 _ (hsub _ (dropM hM 2))) Tryz.underlying56 in128 rfl hF rfl rfl rfl (bK j7)) rfl rfl rfl fun a hF=>?_
   refine aA hF (aD Tryz.underlying128 rfl in3 rfl hF rfl rfl rfl) rfl rfl rfl fun a hF=>?_
   refine aA hF (aJ Tryz.isAgg3 hF rfl rfl ((((f4 _ (hsub _ (dropM hM 2))).elemS m1.2)).get 0 (LTurn.g_reg _))) rfl rfl rfl fun a hF=>?_
   refine aA hF (eS Tryz.underlying3 Tryz.underlying5 hF rfl rfl) rfl rfl rfl fun a hF=>?_
   refine aN hF rfl rfl rfl (cY (X:=UInt8) (y:=(Fw.byteOf d6.reg)) Tryz.underlying23 in5 rfl rfl rfl rfl hF rfl rfl rfl fun c4 w c19 j4=>?_)
   have hM:=hM.plus j4
   replace hM:MemL _ (pt c4 (encs ([(Fw.byteOf d6.reg)]:List UInt8)) 5 :: rowL 0 d2 5 d4 :: pt c0 (RMark.enc (RMark.mk x1.at_ x1.next x1.done s3 s5 s7 s11)) 60 :: Lr):=hM
   intro a hF
   obtain ⟨z6,p2,hP⟩:=bind_some hP
   refine aN hF rfl rfl rfl (dE (X:=UInt8) p2 Tryz.underlying23 in5 rfl rfl rfl rfl hF rfl rfl rfl (hM.own (X:=UInt8) (i:=1) rfl) (hM.ptS (X:=UInt8) (i:=0) (n:=1) (c:=1) rfl rfl rfl (Nat.le_refl _)) fun u7 w n0=>?_)
   have hM:=hM.chg n0 (i:=1) rfl
   replace hM:MemL _ (pt c4 (encs ([(Fw.byteOf d6.reg)]:List UInt8)) 5 :: rowL 0 u7 5 z6 :: pt c0 (RMark.enc (RMark.mk x1.at_ x1.next x1.done s3 s5 s7 s11)) 60 :: Lr):=hM
   intro a hF
   refine aA hF (aG hF rfl rfl) rfl rfl rfl fun a hF=>?_
   refine aI (aB ?_)
   refine bQ mixed (by kernel_rfl) hM [0,2] 3 rfl fun hch=>?_
   refine aL hF hch 0 rfl (by kernel_rfl) rfl rfl rfl (fun w hM=>(aF hF rfl rfl)) fun a hF=>?_
   refine aL hF hch 1 rfl (by kernel_rfl) rfl rfl rfl (fun w hM=>(aD (off':=3) Tryz.underlying60 rfl in56 rfl hF rfl rfl rfl)) fun a hF=>?_
   refine aL hF hch 2 rfl (by kernel_rfl) rfl rfl rfl (fun w hM=>(aJ Tryz.isAgg56 hF rfl rfl (hM.cell (i:=1) rfl (RMark.g_regs _)))) fun a hF=>?_
   refine aL hF hch 3 rfl (by kernel_rfl) rfl rfl rfl (fun w hM=>(aF hF rfl rfl)) fun a hF=>?_
   obtain ⟨c30,j8,hP⟩:=bind_some hP
   have m2:=aW j8
   refine aL hF hch 4 rfl (by kernel_rfl) rfl rfl rfl (fun w hM=>(bC (sz:=9) (f4 _ (hsub _ (dropM hM 2))) Tryz.underlying56 in128 rfl hF rfl rfl rfl (bK j8))) fun a hF=>?_
   refine aL hF hch 5 rfl (by kernel_rfl) rfl rfl rfl (fun w hM=>(aD Tryz.underlying128 rfl in46 rfl hF rfl rfl rfl)) fun a hF=>?_
   refine aL hF hch 6 rfl (by kernel_rfl) rfl rfl rfl (fun w hM=>(bB Tryz.isAgg46 Tryz.sizeOf46 hF rfl rfl (LVal.len _) ((((f4 _ (hsub _ (dropM hM 2))).elemS m2.2)).sub 1 4 (LTurn.c_old _)))) fun a hF=>?_
   refine aL hF hch 8 rfl (by kernel_rfl) rfl rfl rfl (fun w hM=>(aD (off':=3) Tryz.underlying60 rfl in56 rfl hF rfl rfl rfl)) fun a hF=>?_
   refine aL hF hch 9 rfl (by kernel_rfl) rfl rfl rfl (fun w hM=>(aJ Tryz.isAgg56 hF rfl rfl (hM.cell (i:=1) rfl (RMark.g_regs _)))) fun a hF=>?_
   refine aL hF hch 10 rfl (by kernel_rfl) rfl rfl rfl (fun w hM=>(aF hF rfl rfl)) fun a hF=>?_
   obtain ⟨c31,j9,hP⟩:=bind_some hP
   have m3:=aW j9
   refine aL hF hch 11 rfl (by kernel_rfl) rfl rfl rfl (fun w hM=>(bC (sz:=9) (f4 _ (hsub _ (dropM hM 2))) Tryz.underlying56 in128 rfl hF rfl rfl rfl (bK j9))) fun a hF=>?_
   refine aL hF hch 12 rfl (by kernel_rfl) rfl rfl rfl (fun w hM=>(aD Tryz.underlying128 rfl in46 rfl hF rfl rfl rfl)) fun a hF=>?_
   refine aL hF hch 13 rfl (by kernel_rfl) rfl rfl rfl (fun w hM=>(bB Tryz.isAgg46 Tryz.sizeOf46 hF rfl rfl (LVal.len _) ((((f4 _ (hsub _ (dropM hM 2))).elemS m3.2)).sub 5 4 (LTurn.c_new _)))) fun a hF=>?_
   refine bS hch 7 (by kernel_rfl) rfl rfl ?_
   refine cR hF 7 rfl rfl rfl rfl rfl fun w hMs hM=>?_
   obtain ⟨c13,t1,hP⟩:=bind_some hP
   refine (aO (xs:=[.tmp 46,.tmp 52]) Tryz.call182 hF rfl rfl (gI t1 (selM hM [1,0,2] 3 rfl) ) fun v w hR=>?_)
   obtain ⟨u8,rfl,hM⟩:=hR
   replace hM:MemL _ (rowL 0 u8 5 c13 :: pt c4 (encs ([(Fw.byteOf d6.reg)]:List UInt8)) 5 :: pt c0 (RMark.enc (RMark.mk x1.at_ x1.next x1.done s3 s5 s7 s11)) 60 :: Lr):=hM
   have hMs:=selM hM [0,1,2] 3 rfl
   refine ⟨_,_,hMs,hM,.inl fun _ h=>dropM h 1,fun a hF=>?_⟩
   refine bS hch 14 (by kernel_rfl) rfl rfl ?_
   refine cR hF 14 rfl rfl rfl rfl rfl fun w hMs hM=>?_
   obtain ⟨l8,t2,hP⟩:=bind_some hP
   refine (aO (xs:=[.tmp 53,.tmp 59]) Tryz.call182 hF rfl rfl (gI t2 hM ) fun v w hR=>?_)
   obtain ⟨l0,rfl,hM⟩:=hR
   replace hM:MemL _ (rowL 0 l0 5 l8 :: pt c4 (encs ([(Fw.byteOf d6.reg)]:List UInt8)) 5 :: pt c0 (RMark.enc (RMark.mk x1.at_ x1.next x1.done s3 s5 s7 s11)) 60 :: Lr):=hM
   have hMs:=hM
   refine ⟨_,_,hMs,hM,.inr (by kernel_rfl),fun a hF=>?_⟩
   refine bS hch 15 (by kernel_rfl) rfl rfl ?_
   refine cR hF 15 rfl rfl rfl rfl rfl fun w hMs hM=>Yd.val (aG hF rfl rfl) ?_
   refine ⟨_,_,hMs,hM,.inl fun _ h=>h,fun a hF=>?_⟩
   refine cI hch (by kernel_rfl) fun w hM=>?_
   refine bI (aB ?_)
   refine aC ?_
   refine aA hF (aF hF rfl rfl) rfl rfl rfl fun a hF=>?_
   refine aA hF (cA hF rfl rfl rfl) rfl rfl rfl fun a hF=>?_
   refine aA hF (aG hF rfl rfl) rfl rfl rfl fun a hF=>?_
   refine aI (aB ?_)
   have hP:=Option.some.inj hP
   subst hP
   exact ⟨(l8,(IntKind.i64.wrap (g6 + 1))),rfl,l0,hF.to ⟨rfl,rfl,rfl,rfl,trivial⟩,selM hM [0,2] 3 rfl⟩
  have hP:=Fx.cF i4 hP
  refine bW (bD (bD (cG ?_)))
  refine aB ?_
  have hP:=Option.some.inj hP
  subst hP
  have hP:=u0 _ rfl
  subst hP
  exact ⟨d4,rfl,d2,hF.to ⟨rfl,rfl,rfl,trivial⟩,hM⟩
 rintro g5 a w hP ⟨g1,hF,hM⟩
 replace hP:Sh.lS x1 g5 = _:=hP
 unfold Sh.lS at hP
 refine aB ?_
 refine aH ?_
 refine aC ?_
 refine aA hF (aF hF rfl rfl) rfl rfl rfl fun a hF=>?_
 refine aA hF (aD (off':=4) Tryz.underlying60 rfl in57 rfl hF rfl rfl rfl) rfl rfl rfl fun a hF=>?_
 refine aA hF (aJ Tryz.isAgg57 hF rfl rfl (hM.cell (i:=1) rfl (RMark.g_slots _))) rfl rfl rfl fun a hF=>?_
 refine aA hF (bG (f6 _ (hsub _ (dropM hM 2))) Tryz.underlying57 hF rfl rfl) rfl rfl rfl fun a hF=>?_
 refine aA hF (eS Tryz.underlying3 Tryz.underlying5 hF rfl rfl) rfl rfl rfl fun a hF=>?_
 refine aN hF rfl rfl rfl (cY (X:=UInt8) (y:=(Fw.byteOf (x1.slots.length:Int))) Tryz.underlying23 in5 rfl rfl rfl rfl hF rfl rfl rfl fun d9 w c20 j5=>?_)
 have hM:=hM.plus j5
 replace hM:MemL _ (pt d9 (encs ([(Fw.byteOf (x1.slots.length:Int))]:List UInt8)) 5 :: rowL 0 g1 5 g5 :: pt c0 (RMark.enc (RMark.mk x1.at_ x1.next x1.done s3 s5 s7 s11)) 60 :: Lr):=hM
 intro a hF
 obtain ⟨z7,p3,hP⟩:=bind_some hP
 refine aN hF rfl rfl rfl (dE (X:=UInt8) p3 Tryz.underlying23 in5 rfl rfl rfl rfl hF rfl rfl rfl (hM.own (X:=UInt8) (i:=1) rfl) (hM.ptS (X:=UInt8) (i:=0) (n:=1) (c:=1) rfl rfl rfl (Nat.le_refl _)) fun l1 w n1=>?_)
 have hM:=hM.chg n1 (i:=1) rfl
 replace hM:MemL _ (pt d9 (encs ([(Fw.byteOf (x1.slots.length:Int))]:List UInt8)) 5 :: rowL 0 l1 5 z7 :: pt c0 (RMark.enc (RMark.mk x1.at_ x1.next x1.done s3 s5 s7 s11)) 60 :: Lr):=hM
 intro a hF
 refine aA hF (aG hF rfl rfl) rfl rfl rfl fun a hF=>?_
 refine aI (aB ?_)
 refine aH ?_
 refine aS hF hM hP (fun F x a w=>match x with | j1=>∃ (j0:SV),Fr 162 [(0,(j0).v),(3,.pointer (some ⟨c0,0,none⟩)),(4,(SV.nil).v)] a ∧ MemL w (rowL 0 j0 5 j1 :: pt c0 (RMark.enc (RMark.mk x1.at_ x1.next x1.done s3 s5 s7 s11)) 60 :: Lr)) (fun c37 hP c27 hF hM=>?_) ?_
 ·refine aH ?_
  refine aC ?_
  refine aA hF (aG hF rfl rfl) rfl rfl rfl fun a hF=>?_
  refine aI (aB ?_)
  refine aV ?_
  refine bN hF hM hP (fun F x a w=>match x with | (d5,g7)=>∃ (d3:SV),Fr 162 [(0,(d3).v),(7,.int .i64 g7),(3,.pointer (some ⟨c0,0,none⟩)),(4,(SV.nil).v)] a ∧ MemL w (rowL 0 d3 5 d5 :: pt c0 (RMark.enc (RMark.mk x1.at_ x1.next x1.done s3 s5 s7 s11)) 60 :: Lr)) (fun hF hM=>⟨l1,hF.to ⟨rfl,rfl,rfl,rfl,trivial⟩,selM hM [1,2] 3 rfl⟩) ?_
  rintro ⟨d5,g7⟩ a w c41 hP u1 ⟨d3,hF,hM⟩
  replace hP:Sh.hN x1 d5 g7 = _:=hP
  unfold Sh.hN at hP
  refine aH ?_
  refine aH ?_
  refine aC ?_
  refine aA hF (aF hF rfl rfl) rfl rfl rfl fun a hF=>?_
  refine aA hF (aD (off':=4) Tryz.underlying60 rfl in57 rfl hF rfl rfl rfl) rfl rfl rfl fun a hF=>?_
  refine aA hF (aJ Tryz.isAgg57 hF rfl rfl (hM.cell (i:=1) rfl (RMark.g_slots _))) rfl rfl rfl fun a hF=>?_
  refine aA hF (bG (f6 _ (hsub _ (dropM hM 2))) Tryz.underlying57 hF rfl rfl) rfl rfl rfl fun a hF=>?_
  refine aA hF (cH hF rfl rfl rfl) rfl rfl rfl fun a hF=>?_
  refine aI (aB ?_)
  refine aR hF (c:=.tmp 72) rfl (fun i5=>?_) (fun i5=>?_)
  ·have hP:=Fx.cT i5 hP
   refine aT (aB ?_)
   refine aH ?_
   refine aV ?_
   refine aH ?_
   refine aC ?_
   refine aA hF (aF hF rfl rfl) rfl rfl rfl fun a hF=>?_
   refine aA hF (aD (off':=4) Tryz.underlying60 rfl in57 rfl hF rfl rfl rfl) rfl rfl rfl fun a hF=>?_
   refine aA hF (aJ Tryz.isAgg57 hF rfl rfl (hM.cell (i:=1) rfl (RMark.g_slots _))) rfl rfl rfl fun a hF=>?_
   refine aA hF (aF hF rfl rfl) rfl rfl rfl fun a hF=>?_
   obtain ⟨d7,k0,hP⟩:=bind_some hP
   have m4:=aW k0
   refine aA hF (bC (sz:=27) (f6 _ (hsub _ (dropM hM 2))) Tryz.underlying57 in151 rfl hF rfl rfl rfl (bK k0)) rfl rfl rfl fun a hF=>?_
   refine aA hF (aD Tryz.underlying151 rfl in3 rfl hF rfl rfl rfl) rfl rfl rfl fun a hF=>?_
   refine aA hF (aJ Tryz.isAgg3 hF rfl rfl ((((f6 _ (hsub _ (dropM hM 2))).elemS m4.2)).get 0 (LCell.g_slot _))) rfl rfl rfl fun a hF=>?_
   refine aA hF (eS Tryz.underlying3 Tryz.underlying5 hF rfl rfl) rfl rfl rfl fun a hF=>?_
   refine aN hF rfl rfl rfl (cY (X:=UInt8) (y:=(Fw.byteOf d7.slot)) Tryz.underlying23 in5 rfl rfl rfl rfl hF rfl rfl rfl fun c5 w c21 j6=>?_)
   have hM:=hM.plus j6
   replace hM:MemL _ (pt c5 (encs ([(Fw.byteOf d7.slot)]:List UInt8)) 5 :: rowL 0 d3 5 d5 :: pt c0 (RMark.enc (RMark.mk x1.at_ x1.next x1.done s3 s5 s7 s11)) 60 :: Lr):=hM
   intro a hF
   obtain ⟨z8,p4,hP⟩:=bind_some hP
   refine aN hF rfl rfl rfl (dE (X:=UInt8) p4 Tryz.underlying23 in5 rfl rfl rfl rfl hF rfl rfl rfl (hM.own (X:=UInt8) (i:=1) rfl) (hM.ptS (X:=UInt8) (i:=0) (n:=1) (c:=1) rfl rfl rfl (Nat.le_refl _)) fun u9 w n2=>?_)
   have hM:=hM.chg n2 (i:=1) rfl
   replace hM:MemL _ (pt c5 (encs ([(Fw.byteOf d7.slot)]:List UInt8)) 5 :: rowL 0 u9 5 z8 :: pt c0 (RMark.enc (RMark.mk x1.at_ x1.next x1.done s3 s5 s7 s11)) 60 :: Lr):=hM
   intro a hF
   refine aA hF (aG hF rfl rfl) rfl rfl rfl fun a hF=>?_
   refine aI (aB ?_)
   refine bQ mixed (by kernel_rfl) hM [0,2] 3 rfl fun hch=>?_
   refine aL hF hch 0 rfl (by kernel_rfl) rfl rfl rfl (fun w hM=>(aF hF rfl rfl)) fun a hF=>?_
   refine aL hF hch 1 rfl (by kernel_rfl) rfl rfl rfl (fun w hM=>(aD (off':=4) Tryz.underlying60 rfl in57 rfl hF rfl rfl rfl)) fun a hF=>?_
   refine aL hF hch 2 rfl (by kernel_rfl) rfl rfl rfl (fun w hM=>(aJ Tryz.isAgg57 hF rfl rfl (hM.cell (i:=1) rfl (RMark.g_slots _)))) fun a hF=>?_
   refine aL hF hch 3 rfl (by kernel_rfl) rfl rfl rfl (fun w hM=>(aF hF rfl rfl)) fun a hF=>?_
   obtain ⟨c32,k1,hP⟩:=bind_some hP
   have m5:=aW k1
   refine aL hF hch 4 rfl (by kernel_rfl) rfl rfl rfl (fun w hM=>(bC (sz:=27) (f6 _ (hsub _ (dropM hM 2))) Tryz.underlying57 in151 rfl hF rfl rfl rfl (bK k1))) fun a hF=>?_
   refine aL hF hch 5 rfl (by kernel_rfl) rfl rfl rfl (fun w hM=>(aD Tryz.underlying151 rfl in50 rfl hF rfl rfl rfl)) fun a hF=>?_
   refine aL hF hch 6 rfl (by kernel_rfl) rfl rfl rfl (fun w hM=>(bB Tryz.isAgg50 Tryz.sizeOf50 hF rfl rfl (LSlot.len _) ((((f6 _ (hsub _ (dropM hM 2))).elemS m5.2)).sub 1 13 (LCell.c_old _)))) fun a hF=>?_
   refine aL hF hch 8 rfl (by kernel_rfl) rfl rfl rfl (fun w hM=>(aD (off':=4) Tryz.underlying60 rfl in57 rfl hF rfl rfl rfl)) fun a hF=>?_
   refine aL hF hch 9 rfl (by kernel_rfl) rfl rfl rfl (fun w hM=>(aJ Tryz.isAgg57 hF rfl rfl (hM.cell (i:=1) rfl (RMark.g_slots _)))) fun a hF=>?_
   refine aL hF hch 10 rfl (by kernel_rfl) rfl rfl rfl (fun w hM=>(aF hF rfl rfl)) fun a hF=>?_
   obtain ⟨c33,k2,hP⟩:=bind_some hP
   have m6:=aW k2
   refine aL hF hch 11 rfl (by kernel_rfl) rfl rfl rfl (fun w hM=>(bC (sz:=27) (f6 _ (hsub _ (dropM hM 2))) Tryz.underlying57 in151 rfl hF rfl rfl rfl (bK k2))) fun a hF=>?_
   refine aL hF hch 12 rfl (by kernel_rfl) rfl rfl rfl (fun w hM=>(aD Tryz.underlying151 rfl in50 rfl hF rfl rfl rfl)) fun a hF=>?_
   refine aL hF hch 13 rfl (by kernel_rfl) rfl rfl rfl (fun w hM=>(bB Tryz.isAgg50 Tryz.sizeOf50 hF rfl rfl (LSlot.len _) ((((f6 _ (hsub _ (dropM hM 2))).elemS m6.2)).sub 14 13 (LCell.c_new _)))) fun a hF=>?_
   refine bS hch 7 (by kernel_rfl) rfl rfl ?_
   refine cR hF 7 rfl rfl rfl rfl rfl fun w hMs hM=>?_
   obtain ⟨c14,t3,hP⟩:=bind_some hP
   refine (aO (xs:=[.tmp 85,.tmp 91]) Tryz.call183 hF rfl rfl (jH t3 (selM hM [1,0,2] 3 rfl) ) fun v w hR=>?_)
   obtain ⟨z0,rfl,hM⟩:=hR
   replace hM:MemL _ (rowL 0 z0 5 c14 :: pt c5 (encs ([(Fw.byteOf d7.slot)]:List UInt8)) 5 :: pt c0 (RMark.enc (RMark.mk x1.at_ x1.next x1.done s3 s5 s7 s11)) 60 :: Lr):=hM
   have hMs:=selM hM [0,1,2] 3 rfl
   refine ⟨_,_,hMs,hM,.inl fun _ h=>dropM h 1,fun a hF=>?_⟩
   refine bS hch 14 (by kernel_rfl) rfl rfl ?_
   refine cR hF 14 rfl rfl rfl rfl rfl fun w hMs hM=>?_
   obtain ⟨l9,t4,hP⟩:=bind_some hP
   refine (aO (xs:=[.tmp 92,.tmp 98]) Tryz.call183 hF rfl rfl (jH t4 hM ) fun v w hR=>?_)
   obtain ⟨l2,rfl,hM⟩:=hR
   replace hM:MemL _ (rowL 0 l2 5 l9 :: pt c5 (encs ([(Fw.byteOf d7.slot)]:List UInt8)) 5 :: pt c0 (RMark.enc (RMark.mk x1.at_ x1.next x1.done s3 s5 s7 s11)) 60 :: Lr):=hM
   have hMs:=hM
   refine ⟨_,_,hMs,hM,.inr (by kernel_rfl),fun a hF=>?_⟩
   refine bS hch 15 (by kernel_rfl) rfl rfl ?_
   refine cR hF 15 rfl rfl rfl rfl rfl fun w hMs hM=>Yd.val (aG hF rfl rfl) ?_
   refine ⟨_,_,hMs,hM,.inl fun _ h=>h,fun a hF=>?_⟩
   refine cI hch (by kernel_rfl) fun w hM=>?_
   refine bI (aB ?_)
   refine aC ?_
   refine aA hF (aF hF rfl rfl) rfl rfl rfl fun a hF=>?_
   refine aA hF (cA hF rfl rfl rfl) rfl rfl rfl fun a hF=>?_
   refine aA hF (aG hF rfl rfl) rfl rfl rfl fun a hF=>?_
   refine aI (aB ?_)
   have hP:=Option.some.inj hP
   subst hP
   exact ⟨(l9,(IntKind.i64.wrap (g7 + 1))),rfl,l2,hF.to ⟨rfl,rfl,rfl,rfl,trivial⟩,selM hM [0,2] 3 rfl⟩
  have hP:=Fx.cF i5 hP
  refine bW (bD (bD (cG ?_)))
  refine aB ?_
  have hP:=Option.some.inj hP
  subst hP
  have hP:=u1 _ rfl
  subst hP
  exact ⟨d5,rfl,d3,hF.to ⟨rfl,rfl,rfl,trivial⟩,hM⟩
 rintro j1 a w hP ⟨j0,hF,hM⟩
 replace hP:Sh.lT x1 j1 = _:=hP
 unfold Sh.lT at hP
 refine aB ?_
 refine aH ?_
 refine aC ?_
 refine aA hF (aF hF rfl rfl) rfl rfl rfl fun a hF=>?_
 refine aA hF (aD (off':=5) Tryz.underlying60 rfl in58 rfl hF rfl rfl rfl) rfl rfl rfl fun a hF=>?_
 refine aA hF (aJ Tryz.isAgg58 hF rfl rfl (hM.cell (i:=1) rfl (RMark.g_pieces _))) rfl rfl rfl fun a hF=>?_
 refine aA hF (cV (f9 _ (hsub _ (dropM hM 2))) q10.len Tryz.underlying58 hF rfl rfl) rfl rfl rfl fun a hF=>?_
 obtain ⟨c15,t5,hP⟩:=bind_some hP
 refine aN hF rfl rfl rfl (aO (xs:=[.tmp 100,.tmp 103,.const (.int .i64 (4))]) Tryz.call108 hF rfl rfl (dQ t5 hM ) fun v w hR=>?_)
 obtain ⟨l3,rfl,hM⟩:=hR
 replace hM:MemL _ (rowL 0 l3 5 c15 :: pt c0 (RMark.enc (RMark.mk x1.at_ x1.next x1.done s3 s5 s7 s11)) 60 :: Lr):=hM
 intro a hF
 refine aA hF (aG hF rfl rfl) rfl rfl rfl fun a hF=>?_
 refine aI (aB ?_)
 refine aH ?_
 refine aS hF hM hP (fun F x a w=>match x with | g8=>∃ (g2:SV),Fr 162 [(0,(g2).v),(3,.pointer (some ⟨c0,0,none⟩)),(4,(SV.nil).v)] a ∧ MemL w (rowL 0 g2 5 g8 :: pt c0 (RMark.enc (RMark.mk x1.at_ x1.next x1.done s3 s5 s7 s11)) 60 :: Lr)) (fun c38 hP c28 hF hM=>?_) ?_
 ·refine aH ?_
  refine aC ?_
  refine aA hF (aG hF rfl rfl) rfl rfl rfl fun a hF=>?_
  refine aI (aB ?_)
  refine aV ?_
  refine bN hF hM hP (fun F x a w=>match x with | (c9,g9)=>∃ (c6:SV),Fr 162 [(0,(c6).v),(8,.int .i64 g9),(3,.pointer (some ⟨c0,0,none⟩)),(4,(SV.nil).v)] a ∧ MemL w (rowL 0 c6 5 c9 :: pt c0 (RMark.enc (RMark.mk x1.at_ x1.next x1.done s3 s5 s7 s11)) 60 :: Lr)) (fun hF hM=>⟨l3,hF.to ⟨rfl,rfl,rfl,rfl,trivial⟩,hM⟩) ?_
  rintro ⟨c9,g9⟩ a w c42 hP u2 ⟨c6,hF,hM⟩
  replace hP:Sh.hO x1 c9 g9 = _:=hP
  unfold Sh.hO at hP
  refine aH ?_
  refine aH ?_
  refine aC ?_
  refine aA hF (aF hF rfl rfl) rfl rfl rfl fun a hF=>?_
  refine aA hF (aD (off':=5) Tryz.underlying60 rfl in58 rfl hF rfl rfl rfl) rfl rfl rfl fun a hF=>?_
  refine aA hF (aJ Tryz.isAgg58 hF rfl rfl (hM.cell (i:=1) rfl (RMark.g_pieces _))) rfl rfl rfl fun a hF=>?_
  refine aA hF (cV (f9 _ (hsub _ (dropM hM 2))) q10.len Tryz.underlying58 hF rfl rfl) rfl rfl rfl fun a hF=>?_
  refine aA hF (cH hF rfl rfl rfl) rfl rfl rfl fun a hF=>?_
  refine aI (aB ?_)
  refine aR hF (c:=.tmp 109) rfl (fun i6=>?_) (fun i6=>?_)
  ·have hP:=Fx.cT i6 hP
   refine aT (aB ?_)
   refine aH ?_
   refine aV ?_
   refine aH ?_
   refine aC ?_
   refine aA hF (aD (off':=5) Tryz.underlying60 rfl in58 rfl hF rfl rfl rfl) rfl rfl rfl fun a hF=>?_
   refine aA hF (aJ Tryz.isAgg58 hF rfl rfl (hM.cell (i:=1) rfl (RMark.g_pieces _))) rfl rfl rfl fun a hF=>?_
   refine aA hF (aF hF rfl rfl) rfl rfl rfl fun a hF=>?_
   obtain ⟨c1,k3,hP⟩:=bind_some hP
   have m7:=aW k3
   obtain ⟨c24,n8,n9⟩:=Each.getr q10 m7.2
   have n7:=Each.bd q10 (bK k3)
   obtain ⟨c7,c8,rfl,k7,t9⟩:=n9
   refine aA hF (bC (sz:=4) (f9 _ (hsub _ (dropM hM 2))) Tryz.underlying58 in156 rfl hF rfl rfl rfl n7) rfl rfl rfl fun a hF=>?_
   refine aA hF (bB Tryz.isAgg156 Tryz.sizeOf156 hF rfl rfl (RPiece.len _) (((f9 _ (hsub _ (dropM hM 2))).elemS n8))) rfl rfl rfl fun a hF=>?_
   refine aN hF rfl rfl rfl (cB z156 (zs:=RPiece.zero.enc) rfl rfl fun c2 w c23 k6=>?_)
   have hM:=hM.plus k6
   replace hM:MemL _ (pt c2 (RPiece.enc (RPiece.mk 0 0 SV.nil SV.nil)) 156 :: rowL 0 c6 5 c9 :: pt c0 (RMark.enc (RMark.mk x1.at_ x1.next x1.done s3 s5 s7 s11)) 60 :: Lr):=hM
   intro a hF
   refine bO rfl rfl (bL (vs:=_) Tryz.sizeOf156 (hM.obj (i:=0) rfl) hF rfl rfl rfl rfl (RPiece.len _) (RPiece.one _) (by first | (rw [RPiece.len,RPiece.len]; decide) | (rw [RPiece.len]; decide)) (bU ((RPiece.len _).trans (RPiece.len _).symm)) fun w p0=>?_)
   have hM:=hM.chg p0 (i:=0) rfl
   replace hM:MemL _ (pt c2 (RPiece.enc (RPiece.mk c1.table c1.from_ c7 c8)) 156 :: rowL 0 c6 5 c9 :: pt c0 (RMark.enc (RMark.mk x1.at_ x1.next x1.done s3 s5 s7 s11)) 60 :: Lr):=hM
   refine aI (aB ?_)
   refine aH ?_
   refine aC ?_
   refine aA hF (aF hF rfl rfl) rfl rfl rfl fun a hF=>?_
   refine aA hF (aD (off':=0) Tryz.underlying156 rfl in3 rfl hF rfl rfl rfl) rfl rfl rfl fun a hF=>?_
   refine aA hF (aJ Tryz.isAgg3 hF rfl rfl (hM.cell (i:=0) rfl (RPiece.g_table _))) rfl rfl rfl fun a hF=>?_
   refine aA hF (cA hF rfl rfl rfl) rfl rfl rfl fun a hF=>?_
   refine aA hF (eS Tryz.underlying3 Tryz.underlying5 hF rfl rfl) rfl rfl rfl fun a hF=>?_
   refine aN hF rfl rfl rfl (cY (X:=UInt8) (y:=(Fw.byteOf (IntKind.i64.wrap (c1.table + 1)))) Tryz.underlying23 in5 rfl rfl rfl rfl hF rfl rfl rfl fun c3 w u4 i8=>?_)
   have hM:=hM.plus i8
   replace hM:MemL _ (pt c3 (encs ([(Fw.byteOf (IntKind.i64.wrap (c1.table + 1)))]:List UInt8)) 5 :: pt c2 (RPiece.enc (RPiece.mk c1.table c1.from_ c7 c8)) 156 :: rowL 0 c6 5 c9 :: pt c0 (RMark.enc (RMark.mk x1.at_ x1.next x1.done s3 s5 s7 s11)) 60 :: Lr):=hM
   intro a hF
   obtain ⟨z9,p5,hP⟩:=bind_some hP
   refine aN hF rfl rfl rfl (dE (X:=UInt8) p5 Tryz.underlying23 in5 rfl rfl rfl rfl hF rfl rfl rfl (hM.own (X:=UInt8) (i:=2) rfl) (hM.ptS (X:=UInt8) (i:=0) (n:=1) (c:=1) rfl rfl rfl (Nat.le_refl _)) fun z1 w n3=>?_)
   have hM:=hM.chg n3 (i:=2) rfl
   replace hM:MemL _ (pt c3 (encs ([(Fw.byteOf (IntKind.i64.wrap (c1.table + 1)))]:List UInt8)) 5 :: pt c2 (RPiece.enc (RPiece.mk c1.table c1.from_ c7 c8)) 156 :: rowL 0 z1 5 z9 :: pt c0 (RMark.enc (RMark.mk x1.at_ x1.next x1.done s3 s5 s7 s11)) 60 :: Lr):=hM
   intro a hF
   refine aA hF (aG hF rfl rfl) rfl rfl rfl fun a hF=>?_
   refine aI (aB ?_)
   refine aH ?_
   refine bQ mixed (by kernel_rfl) hM [0,1,3] 4 rfl fun hch=>?_
   refine aL hF hch 0 rfl (by kernel_rfl) rfl rfl rfl (fun w hM=>(aF hF rfl rfl)) fun a hF=>?_
   refine aL hF hch 1 rfl (by kernel_rfl) rfl rfl rfl (fun w hM=>(aD (off':=1) Tryz.underlying156 rfl in3 rfl hF rfl rfl rfl)) fun a hF=>?_
   refine aL hF hch 2 rfl (by kernel_rfl) rfl rfl rfl (fun w hM=>(aJ Tryz.isAgg3 hF rfl rfl (hM.cell (i:=1) rfl (RPiece.g_from_ _)))) fun a hF=>?_
   refine aL hF hch 4 rfl (by kernel_rfl) rfl rfl rfl (fun w hM=>(aD (off':=2) Tryz.underlying156 rfl in23 rfl hF rfl rfl rfl)) fun a hF=>?_
   refine aL hF hch 5 rfl (by kernel_rfl) rfl rfl rfl (fun w hM=>(aJ Tryz.isAgg23 hF rfl rfl (hM.cell (i:=1) rfl (RPiece.g_old _)))) fun a hF=>?_
   refine aL hF hch 6 rfl (by kernel_rfl) rfl rfl rfl (fun w hM=>(bG (k7 _ (hsub _ (dropM hM 3))) Tryz.underlying23 hF rfl rfl)) fun a hF=>?_
   refine bS hch 3 (by kernel_rfl) rfl rfl ?_
   refine cR hF 3 rfl rfl rfl rfl rfl fun w hMs hM=>?_
   obtain ⟨c16,t6,hP⟩:=bind_some hP
   refine (aO (xs:=[.tmp 124,.tmp 126,.const (.int .i64 (2))]) Tryz.call108 hF rfl rfl (dQ t6 (selM hM [2,0,1,3] 4 rfl) ) fun v w hR=>?_)
   obtain ⟨z2,rfl,hM⟩:=hR
   replace hM:MemL _ (rowL 0 z2 5 c16 :: pt c3 (encs ([(Fw.byteOf (IntKind.i64.wrap (c1.table + 1)))]:List UInt8)) 5 :: pt c2 (RPiece.enc (RPiece.mk c1.table c1.from_ c7 c8)) 156 :: pt c0 (RMark.enc (RMark.mk x1.at_ x1.next x1.done s3 s5 s7 s11)) 60 :: Lr):=hM
   have hMs:=selM hM [0,1,2,3] 4 rfl
   refine ⟨_,_,hMs,hM,.inl fun _ h=>dropM h 1,fun a hF=>?_⟩
   refine bS hch 7 (by kernel_rfl) rfl rfl ?_
   refine cR hF 7 rfl rfl rfl rfl rfl fun w hMs hM=>?_
   obtain ⟨c17,t7,hP⟩:=bind_some hP
   refine (aO (xs:=[.tmp 127,.tmp 130,.const (.int .i64 (2))]) Tryz.call108 hF rfl rfl (dQ t7 hM ) fun v w hR=>?_)
   obtain ⟨z3,rfl,hM⟩:=hR
   replace hM:MemL _ (rowL 0 z3 5 c17 :: pt c3 (encs ([(Fw.byteOf (IntKind.i64.wrap (c1.table + 1)))]:List UInt8)) 5 :: pt c2 (RPiece.enc (RPiece.mk c1.table c1.from_ c7 c8)) 156 :: pt c0 (RMark.enc (RMark.mk x1.at_ x1.next x1.done s3 s5 s7 s11)) 60 :: Lr):=hM
   have hMs:=hM
   refine ⟨_,_,hMs,hM,.inr (by kernel_rfl),fun a hF=>?_⟩
   refine bS hch 8 (by kernel_rfl) rfl rfl ?_
   refine cR hF 8 rfl rfl rfl rfl rfl fun w hMs hM=>Yd.val (aG hF rfl rfl) ?_
   refine ⟨_,_,hMs,hM,.inl fun _ h=>h,fun a hF=>?_⟩
   refine cI hch (by kernel_rfl) fun w hM=>?_
   refine aB ?_
   refine aH ?_
   refine aC ?_
   refine aA hF (aF hF rfl rfl) rfl rfl rfl fun a hF=>?_
   refine aA hF (aD (off':=2) Tryz.underlying156 rfl in23 rfl hF rfl rfl rfl) rfl rfl rfl fun a hF=>?_
   refine aA hF (aJ Tryz.isAgg23 hF rfl rfl (hM.cell (i:=2) rfl (RPiece.g_old _))) rfl rfl rfl fun a hF=>?_
   obtain ⟨c10,p6,hP⟩:=bind_some hP
   refine aN hF rfl rfl rfl (dE (X:=UInt8) p6 Tryz.underlying23 in5 rfl rfl rfl rfl hF rfl rfl rfl (hM.own (X:=UInt8) (i:=0) rfl) (k7 _ (hsub _ (dropM hM 4))) fun z4 w n4=>?_)
   have hM:=hM.chg n4 (i:=0) rfl
   replace hM:MemL _ (rowL 0 z4 5 c10 :: pt c3 (encs ([(Fw.byteOf (IntKind.i64.wrap (c1.table + 1)))]:List UInt8)) 5 :: pt c2 (RPiece.enc (RPiece.mk c1.table c1.from_ c7 c8)) 156 :: pt c0 (RMark.enc (RMark.mk x1.at_ x1.next x1.done s3 s5 s7 s11)) 60 :: Lr):=hM
   intro a hF
   refine aA hF (aG hF rfl rfl) rfl rfl rfl fun a hF=>?_
   refine aI (aB ?_)
   refine aC ?_
   refine aA hF (aF hF rfl rfl) rfl rfl rfl fun a hF=>?_
   refine aA hF (aD (off':=3) Tryz.underlying156 rfl in23 rfl hF rfl rfl rfl) rfl rfl rfl fun a hF=>?_
   refine aA hF (aJ Tryz.isAgg23 hF rfl rfl (hM.cell (i:=2) rfl (RPiece.g_new _))) rfl rfl rfl fun a hF=>?_
   obtain ⟨l7,p7,hP⟩:=bind_some hP
   refine aN hF rfl rfl rfl (dE (X:=UInt8) p7 Tryz.underlying23 in5 rfl rfl rfl rfl hF rfl rfl rfl (hM.own (X:=UInt8) (i:=0) rfl) (t9 _ (hsub _ (dropM hM 4))) fun l4 w n5=>?_)
   have hM:=hM.chg n5 (i:=0) rfl
   replace hM:MemL _ (rowL 0 l4 5 l7 :: pt c3 (encs ([(Fw.byteOf (IntKind.i64.wrap (c1.table + 1)))]:List UInt8)) 5 :: pt c2 (RPiece.enc (RPiece.mk c1.table c1.from_ c7 c8)) 156 :: pt c0 (RMark.enc (RMark.mk x1.at_ x1.next x1.done s3 s5 s7 s11)) 60 :: Lr):=hM
   intro a hF
   refine aA hF (aG hF rfl rfl) rfl rfl rfl fun a hF=>?_
   refine aI (bI (aB ?_))
   refine aC ?_
   refine aA hF (aF hF rfl rfl) rfl rfl rfl fun a hF=>?_
   refine aA hF (cA hF rfl rfl rfl) rfl rfl rfl fun a hF=>?_
   refine aA hF (aG hF rfl rfl) rfl rfl rfl fun a hF=>?_
   refine aI (aB ?_)
   have hP:=Option.some.inj hP
   subst hP
   exact ⟨(l7,(IntKind.i64.wrap (g9 + 1))),rfl,l4,hF.to ⟨rfl,rfl,rfl,rfl,trivial⟩,selM hM [0,3] 4 rfl⟩
  have hP:=Fx.cF i6 hP
  refine bW (bD (bD (cG ?_)))
  refine aB ?_
  have hP:=Option.some.inj hP
  subst hP
  have hP:=u2 _ rfl
  subst hP
  exact ⟨c9,rfl,c6,hF.to ⟨rfl,rfl,rfl,trivial⟩,hM⟩
 rintro g8 a w hP ⟨g2,hF,hM⟩
 replace hP:Sh.lU x1 g8 = _:=hP
 unfold Sh.lU at hP
 refine aB ?_
 refine aH ?_
 refine aC ?_
 refine aA hF (aF hF rfl rfl) rfl rfl rfl fun a hF=>?_
 refine aA hF (aD (off':=6) Tryz.underlying60 rfl in52 rfl hF rfl rfl rfl) rfl rfl rfl fun a hF=>?_
 refine aA hF (aJ Tryz.isAgg52 hF rfl rfl (hM.cell (i:=1) rfl (RMark.g_sent _))) rfl rfl rfl fun a hF=>?_
 refine aA hF (bG (f12 _ (hsub _ (dropM hM 2))) Tryz.underlying52 hF rfl rfl) rfl rfl rfl fun a hF=>?_
 refine aA hF (eS Tryz.underlying3 Tryz.underlying5 hF rfl rfl) rfl rfl rfl fun a hF=>?_
 refine aN hF rfl rfl rfl (cY (X:=UInt8) (y:=(Fw.byteOf (x1.sent.length:Int))) Tryz.underlying23 in5 rfl rfl rfl rfl hF rfl rfl rfl fun d1 w u5 i9=>?_)
 have hM:=hM.plus i9
 replace hM:MemL _ (pt d1 (encs ([(Fw.byteOf (x1.sent.length:Int))]:List UInt8)) 5 :: rowL 0 g2 5 g8 :: pt c0 (RMark.enc (RMark.mk x1.at_ x1.next x1.done s3 s5 s7 s11)) 60 :: Lr):=hM
 intro a hF
 obtain ⟨c11,p8,hP⟩:=bind_some hP
 refine aN hF rfl rfl rfl (dE (X:=UInt8) p8 Tryz.underlying23 in5 rfl rfl rfl rfl hF rfl rfl rfl (hM.own (X:=UInt8) (i:=1) rfl) (hM.ptS (X:=UInt8) (i:=0) (n:=1) (c:=1) rfl rfl rfl (Nat.le_refl _)) fun l5 w n6=>?_)
 have hM:=hM.chg n6 (i:=1) rfl
 replace hM:MemL _ (pt d1 (encs ([(Fw.byteOf (x1.sent.length:Int))]:List UInt8)) 5 :: rowL 0 l5 5 c11 :: pt c0 (RMark.enc (RMark.mk x1.at_ x1.next x1.done s3 s5 s7 s11)) 60 :: Lr):=hM
 intro a hF
 refine aA hF (aG hF rfl rfl) rfl rfl rfl fun a hF=>?_
 refine aI (aB ?_)
 refine aH ?_
 refine aS hF hM hP (fun F x a w=>match x with | j2=>∃ (g3:SV),Fr 162 [(0,(g3).v),(4,(SV.nil).v)] a ∧ MemL w (rowL 0 g3 5 j2 :: Lr)) (fun c39 hP c29 hF hM=>?_) ?_
 ·refine aH ?_
  refine aC ?_
  refine aA hF (aG hF rfl rfl) rfl rfl rfl fun a hF=>?_
  refine aI (aB ?_)
  refine aV ?_
  refine bN hF hM hP (fun F x a w=>match x with | (i0,i1)=>∃ (g4:SV),Fr 162 [(0,(g4).v),(10,.int .i64 i1),(3,.pointer (some ⟨c0,0,none⟩)),(4,(SV.nil).v)] a ∧ MemL w (rowL 0 g4 5 i0 :: pt c0 (RMark.enc (RMark.mk x1.at_ x1.next x1.done s3 s5 s7 s11)) 60 :: Lr)) (fun hF hM=>⟨l5,hF.to ⟨rfl,rfl,rfl,rfl,trivial⟩,selM hM [1,2] 3 rfl⟩) ?_
  rintro ⟨i0,i1⟩ a w c43 hP u3 ⟨g4,hF,hM⟩
  replace hP:Sh.hP x1 i0 i1 = _:=hP
  unfold Sh.hP at hP
  refine aH ?_
  refine aH ?_
  refine aC ?_
  refine aA hF (aF hF rfl rfl) rfl rfl rfl fun a hF=>?_
  refine aA hF (aD (off':=6) Tryz.underlying60 rfl in52 rfl hF rfl rfl rfl) rfl rfl rfl fun a hF=>?_
  refine aA hF (aJ Tryz.isAgg52 hF rfl rfl (hM.cell (i:=1) rfl (RMark.g_sent _))) rfl rfl rfl fun a hF=>?_
  refine aA hF (bG (f12 _ (hsub _ (dropM hM 2))) Tryz.underlying52 hF rfl rfl) rfl rfl rfl fun a hF=>?_
  refine aA hF (cH hF rfl rfl rfl) rfl rfl rfl fun a hF=>?_
  refine aI (aB ?_)
  refine aR hF (c:=.tmp 151) rfl (fun i7=>?_) (fun i7=>?_)
  ·have hP:=Fx.cT i7 hP
   refine aT (aB ?_)
   refine aH ?_
   refine aV ?_
   refine aC ?_
   refine aA hF (aF hF rfl rfl) rfl rfl rfl fun a hF=>?_
   refine aA hF (aD (off':=6) Tryz.underlying60 rfl in52 rfl hF rfl rfl rfl) rfl rfl rfl fun a hF=>?_
   refine aA hF (aJ Tryz.isAgg52 hF rfl rfl (hM.cell (i:=1) rfl (RMark.g_sent _))) rfl rfl rfl fun a hF=>?_
   refine aA hF (aF hF rfl rfl) rfl rfl rfl fun a hF=>?_
   obtain ⟨c34,k4,hP⟩:=bind_some hP
   have m8:=aW k4
   refine aA hF (bC (sz:=1) (f12 _ (hsub _ (dropM hM 2))) Tryz.underlying52 in3 rfl hF rfl rfl rfl (bK k4)) rfl rfl rfl fun a hF=>?_
   refine aA hF (aJ Tryz.isAgg3 hF rfl rfl ((((f12 _ (hsub _ (dropM hM 2))).elemS m8.2)).get 0 rfl)) rfl rfl rfl fun a hF=>?_
   obtain ⟨m0,t8,hP⟩:=bind_some hP
   refine aN hF rfl rfl rfl (aO (xs:=[.tmp 154,.tmp 159,.const (.int .i64 (8))]) Tryz.call108 hF rfl rfl (dQ t8 hM ) fun v w hR=>?_)
   obtain ⟨l6,rfl,hM⟩:=hR
   replace hM:MemL _ (rowL 0 l6 5 m0 :: pt c0 (RMark.enc (RMark.mk x1.at_ x1.next x1.done s3 s5 s7 s11)) 60 :: Lr):=hM
   intro a hF
   refine aA hF (aG hF rfl rfl) rfl rfl rfl fun a hF=>?_
   refine aI (bI (aB ?_))
   refine aC ?_
   refine aA hF (aF hF rfl rfl) rfl rfl rfl fun a hF=>?_
   refine aA hF (cA hF rfl rfl rfl) rfl rfl rfl fun a hF=>?_
   refine aA hF (aG hF rfl rfl) rfl rfl rfl fun a hF=>?_
   refine aI (aB ?_)
   have hP:=Option.some.inj hP
   subst hP
   exact ⟨(m0,(IntKind.i64.wrap (i1 + 1))),rfl,l6,hF.to ⟨rfl,rfl,rfl,rfl,trivial⟩,hM⟩
  have hP:=Fx.cF i7 hP
  refine bW (bD (bD (cG ?_)))
  refine aB ?_
  have hP:=Option.some.inj hP
  subst hP
  have hP:=u3 _ rfl
  subst hP
  exact ⟨i0,rfl,g4,hF.to ⟨rfl,rfl,trivial⟩,selM hM [0] 2 rfl⟩
 rintro j2 a w hP ⟨g3,hF,hM⟩
 replace hP:Sh.lV j2 = _:=hP
 unfold Sh.lV at hP
 refine aB ?_
 refine aH ?_
 refine aC ?_
 refine aA hF (aF hF rfl rfl) rfl rfl rfl fun a hF=>?_
 refine aA hF (aG hF rfl rfl) rfl rfl rfl fun a hF=>?_
 refine aI (aB ?_)
 refine c_ret ?_
 have hP:=Option.some.inj hP
 subst hP
 refine aY Tryz.results109 hF rfl ?_
 exact ⟨g3,rfl,hM⟩
set_option maxHeartbeats 4000000 in
theorem mF {x0:QRecord} {s1:SV} {s3:SV} {hs4:List SV} {s7:SV} {hs8:List RMark} {out:(List UInt8 × Int)} {w0:World} {Bf:World → Prop} {Lr:List Res} (hP:Sh.kR x0 = some out) (hM:MemL w0 (Lr)) (hsub:∀ w,MemL w Lr → Bf w) (f2:LIn Bf s1 x0.in_.ctx) (f5:LIn Bf s3 hs4) (q6:Each (LIn (X:=UInt8) Bf) hs4 x0.in_.tables) (f9:LIn Bf s7 hs8) (q10:Each (QMarkIn Bf) hs8 x0.marks):Calls Tryz.prog 42 #[.agg (RRecord.enc (RRecord.mk (RInput.mk s1 s3) s7 x0.end_)).toArray] w0 (Ret fun v w'=>∃ (l9:SV),v = .tuple #[(l9).v,.int .i64 out.2] ∧ MemL w' (rowL 0 l9 5 out.1 :: Lr)):=by
 unfold Sh.kR at hP
 refine aM (vs:=[.agg (RRecord.enc (RRecord.mk (RInput.mk s1 s3) s7 x0.end_)).toArray]) Tryz.func42 rfl Tryz.ntmps42 rfl fun a hF=>?_
 refine aH ?_
 refine aC ?_
 refine aN hF rfl rfl rfl (dD hF rfl rfl rfl fun c0 w p5 j2=>?_)
 have hM:=hM.plus j2
 replace hM:MemL _ (pt c0 (RRecord.enc (RRecord.mk (RInput.mk s1 s3) s7 x0.end_)) 36 :: Lr):=hM
 intro a hF
 refine aA hF (aG hF rfl rfl) rfl rfl rfl fun a hF=>?_
 refine aA hF (aG hF rfl rfl) rfl rfl rfl fun a hF=>?_
 refine aI (aB ?_)
 refine aH ?_
 refine aH ?_
 refine aC ?_
 refine aA hF (aD (off':=0) Tryz.underlying36 rfl in30 rfl hF rfl rfl rfl) rfl rfl rfl fun a hF=>?_
 refine aA hF (bB Tryz.isAgg30 Tryz.sizeOf30 hF rfl rfl (RInput.len _) (hM.cells (i:=0) rfl (RRecord.c_in_ _))) rfl rfl rfl fun a hF=>?_
 obtain ⟨z4,n1,hP⟩:=bind_some hP
 refine aN hF rfl rfl rfl (aO (xs:=[.tmp 9]) Tryz.call105 hF rfl rfl (gV n1 hM (Bf:=Bf) (fun w hM=>hsub _ (dropM hM 1)) f2 f5 q6) fun v w hR=>?_)
 obtain ⟨rfl,hM⟩:=hR
 replace hM:MemL _ (pt c0 (RRecord.enc (RRecord.mk (RInput.mk s1 s3) s7 x0.end_)) 36 :: Lr):=hM
 intro a hF
 refine aA hF (dJ hF rfl rfl) rfl rfl rfl fun a hF=>?_
 refine aI (aB ?_)
 refine aR hF (c:=.tmp 11) rfl (fun d9=>?_) (fun d9=>?_)
 ·have hP:=Fx.cT d9 hP
  refine aH ?_
  refine aC ?_
  refine aA hF (aG hF rfl rfl) rfl rfl rfl fun a hF=>?_
  refine aA hF (aG hF rfl rfl) rfl rfl rfl fun a hF=>?_
  refine aI (aB ?_)
  refine c_ret ?_
  have hM:=hM.rowNil (X:=UInt8) 0 5
  have hP:=Option.some.inj hP
  subst hP
  refine eH (rs:=[.tmp 2,.tmp 3]) Tryz.results42 hF (cX hF rfl (cX hF rfl dC)) rfl ?_
  exact ⟨SV.nil,rfl,selM hM [0] 2 rfl⟩
 have hP:=Fx.cF d9 hP
 refine aT (aB ?_)
 refine aH ?_
 refine aS hF hM hP (fun F x a w=>match x with | _=>Fr 104 [(1,.pointer (some ⟨c0,0,none⟩)),(2,(SV.nil).v),(3,.int .i64 0)] a ∧ MemL w (pt c0 (RRecord.enc (RRecord.mk (RInput.mk s1 s3) s7 x0.end_)) 36 :: Lr)) (fun u8 hP m8 hF hM=>?_) ?_
 ·refine aH ?_
  refine aC ?_
  refine aA hF (aG hF rfl rfl) rfl rfl rfl fun a hF=>?_
  refine aI (aB ?_)
  refine aV ?_
  refine bN hF hM hP (fun F x a w=>match x with | c6=>Fr 104 [(4,.int .i64 c6),(1,.pointer (some ⟨c0,0,none⟩)),(2,(SV.nil).v),(3,.int .i64 0)] a ∧ MemL w (pt c0 (RRecord.enc (RRecord.mk (RInput.mk s1 s3) s7 x0.end_)) 36 :: Lr)) (fun hF hM=>⟨hF.to ⟨rfl,rfl,rfl,rfl,trivial⟩,hM⟩) ?_
  rintro c6 a w z1 hP g9 ⟨hF,hM⟩
  replace hP:Sh.gB x0 c6 = _:=hP
  unfold Sh.gB at hP
  refine aH ?_
  refine aH ?_
  refine aC ?_
  refine aA hF (aF hF rfl rfl) rfl rfl rfl fun a hF=>?_
  refine aA hF (aD (off':=2) Tryz.underlying36 rfl in33 rfl hF rfl rfl rfl) rfl rfl rfl fun a hF=>?_
  refine aA hF (aJ Tryz.isAgg33 hF rfl rfl (hM.cell (i:=0) rfl (RRecord.g_marks _))) rfl rfl rfl fun a hF=>?_
  refine aA hF (cV (f9 _ (hsub _ (dropM hM 1))) q10.len Tryz.underlying33 hF rfl rfl) rfl rfl rfl fun a hF=>?_
  refine aA hF (cH hF rfl rfl rfl) rfl rfl rfl fun a hF=>?_
  refine aI (aB ?_)
  refine aR hF (c:=.tmp 16) rfl (fun d3=>?_) (fun d3=>?_)
  ·have hP:=Fx.cT d3 hP
   refine aT (aB ?_)
   refine aH ?_
   refine aV ?_
   refine aH ?_
   refine aC ?_
   refine aA hF (aD (off':=2) Tryz.underlying36 rfl in33 rfl hF rfl rfl rfl) rfl rfl rfl fun a hF=>?_
   refine aA hF (aJ Tryz.isAgg33 hF rfl rfl (hM.cell (i:=0) rfl (RRecord.g_marks _))) rfl rfl rfl fun a hF=>?_
   refine aA hF (aF hF rfl rfl) rfl rfl rfl fun a hF=>?_
   obtain ⟨u2,g1,hP⟩:=bind_some hP
   have i8:=aW g1
   obtain ⟨p8,k1,k5⟩:=Each.getr q10 i8.2
   have j7:=Each.bd q10 (bK g1)
   obtain ⟨t4,t5,t6,p6,t7,rfl,m0,m1,m2,n2,m3⟩:=k5
   refine aA hF (bC (sz:=7) (f9 _ (hsub _ (dropM hM 1))) Tryz.underlying33 in60 rfl hF rfl rfl rfl j7) rfl rfl rfl fun a hF=>?_
   refine aA hF (bB Tryz.isAgg60 Tryz.sizeOf60 hF rfl rfl (RMark.len _) (((f9 _ (hsub _ (dropM hM 1))).elemS k1))) rfl rfl rfl fun a hF=>?_
   obtain ⟨u6,l3,hP⟩:=bind_some hP
   refine aN hF rfl rfl rfl (aO (xs:=[.tmp 23]) Tryz.call106 hF rfl rfl (lA l3 hM (Bf:=Bf) (fun w hM=>hsub _ (dropM hM 1)) m0 m1 m2 n2 m3) fun v w hR=>?_)
   obtain ⟨rfl,hM⟩:=hR
   replace hM:MemL _ (pt c0 (RRecord.enc (RRecord.mk (RInput.mk s1 s3) s7 x0.end_)) 36 :: Lr):=hM
   intro a hF
   refine aA hF (dJ hF rfl rfl) rfl rfl rfl fun a hF=>?_
   refine aI (aB ?_)
   refine aR hF (c:=.tmp 25) rfl (fun d4=>?_) (fun d4=>?_)
   ·have hP:=Fx.cT d4 hP
    refine aH ?_
    refine aC ?_
    refine aA hF (aG hF rfl rfl) rfl rfl rfl fun a hF=>?_
    refine aA hF (aG hF rfl rfl) rfl rfl rfl fun a hF=>?_
    refine aI (aB ?_)
    refine c_ret ?_
    have hM:=hM.rowNil (X:=UInt8) 0 5
    have hP:=Option.some.inj hP
    subst hP
    have hP:=g9 _ rfl
    subst hP
    have hP:=cL m8
    subst hP
    refine eH (rs:=[.tmp 2,.tmp 3]) Tryz.results42 hF (cX hF rfl (cX hF rfl dC)) rfl ?_
    exact ⟨SV.nil,rfl,selM hM [0] 2 rfl⟩
   have hP:=Fx.cF d4 hP
   refine aT (bI (aB ?_))
   refine aC ?_
   refine aA hF (aF hF rfl rfl) rfl rfl rfl fun a hF=>?_
   refine aA hF (cA hF rfl rfl rfl) rfl rfl rfl fun a hF=>?_
   refine aA hF (aG hF rfl rfl) rfl rfl rfl fun a hF=>?_
   refine aI (aB ?_)
   have hP:=Option.some.inj hP
   subst hP
   exact ⟨(IntKind.i64.wrap (c6 + 1)),rfl,hF.to ⟨rfl,rfl,rfl,rfl,trivial⟩,hM⟩
  have hP:=Fx.cF d3 hP
  refine bW (bD (bD (cG ?_)))
  refine aB ?_
  have hP:=Option.some.inj hP
  subst hP
  have hP:=g9 _ rfl
  subst hP
  exact ⟨(),rfl,hF.to ⟨rfl,rfl,rfl,trivial⟩,hM⟩
 rintro ⟨⟩ a w hP ⟨hF,hM⟩
 replace hP:Sh.hH x0 = _:=hP
 unfold Sh.hH at hP
 refine aB ?_
 refine aH ?_
 refine aH ?_
 refine aC ?_
 refine aA hF (aD (off':=3) Tryz.underlying36 rfl in34 rfl hF rfl rfl rfl) rfl rfl rfl fun a hF=>?_
 refine aA hF (aJ Tryz.isAgg34 hF rfl rfl (hM.cell (i:=0) rfl (RRecord.g_end_ _))) rfl rfl rfl fun a hF=>?_
 obtain ⟨u7,l4,hP⟩:=bind_some hP
 refine aN hF rfl rfl rfl (aO (xs:=[.tmp 27]) Tryz.call107 hF rfl rfl (iN l4 hM ) fun v w hR=>?_)
 obtain ⟨rfl,hM⟩:=hR
 replace hM:MemL _ (pt c0 (RRecord.enc (RRecord.mk (RInput.mk s1 s3) s7 x0.end_)) 36 :: Lr):=hM
 intro a hF
 refine aA hF (dJ hF rfl rfl) rfl rfl rfl fun a hF=>?_
 refine aI (aB ?_)
 refine aR hF (c:=.tmp 29) rfl (fun d5=>?_) (fun d5=>?_)
 ·have hP:=Fx.cT d5 hP
  refine aH ?_
  refine aC ?_
  refine aA hF (aG hF rfl rfl) rfl rfl rfl fun a hF=>?_
  refine aA hF (aG hF rfl rfl) rfl rfl rfl fun a hF=>?_
  refine aI (aB ?_)
  refine c_ret ?_
  have hM:=hM.rowNil (X:=UInt8) 0 5
  have hP:=Option.some.inj hP
  subst hP
  refine eH (rs:=[.tmp 2,.tmp 3]) Tryz.results42 hF (cX hF rfl (cX hF rfl dC)) rfl ?_
  exact ⟨SV.nil,rfl,selM hM [0] 2 rfl⟩
 have hP:=Fx.cF d5 hP
 refine aT (aB ?_)
 refine aH ?_
 refine aC ?_
 refine aN hF rfl rfl rfl (lE (X:=UInt8) (ys:=[84,82,67,49]) (m:=4) Tryz.underlying23 in5 rfl rfl rfl rfl (by decide) (by decide) hF rfl rfl (PartsE.cons rfl (PartsE.cons rfl (PartsE.cons rfl (PartsE.cons rfl PartsE.nil)))) fun g5 w p2 g6=>?_)
 have hM:=hM.plus g6
 replace hM:MemL _ (pt g5 (encs ([84,82,67,49]:List UInt8)) 5 :: pt c0 (RRecord.enc (RRecord.mk (RInput.mk s1 s3) s7 x0.end_)) 36 :: Lr):=hM
 intro a hF
 refine aA hF (aG hF rfl rfl) rfl rfl rfl fun a hF=>?_
 refine aI (aB ?_)
 refine aH ?_
 refine aC ?_
 refine aA hF (aF hF rfl rfl) rfl rfl rfl fun a hF=>?_
 refine aA hF (aD (off':=0) Tryz.underlying36 rfl in30 rfl hF rfl rfl rfl) rfl rfl rfl fun a hF=>?_
 refine aA hF (aD (off':=0) Tryz.underlying30 rfl in23 rfl hF rfl rfl rfl) rfl rfl rfl fun a hF=>?_
 refine aA hF (aJ Tryz.isAgg23 hF rfl rfl ((hM.cells (i:=1) rfl (RRecord.c_in_ _)).get 0 (RInput.g_ctx _))) rfl rfl rfl fun a hF=>?_
 refine aA hF (bG (f2 _ (hsub _ (dropM hM 2))) Tryz.underlying23 hF rfl rfl) rfl rfl rfl fun a hF=>?_
 have hM:=hM.ptRow (lo:=0) (i:=0) (n:=4) (c:=4) rfl rfl (Nat.zero_le _) rfl rfl (by decide)
 obtain ⟨n9,l5,hP⟩:=bind_some hP
 refine aN hF rfl rfl rfl (aO (xs:=[.tmp 31,.tmp 35,.const (.int .i64 (2))]) Tryz.call108 hF rfl rfl (dQ l5 hM ) fun v w hR=>?_)
 obtain ⟨n4,rfl,hM⟩:=hR
 replace hM:MemL _ (rowL 0 n4 5 n9 :: pt c0 (RRecord.enc (RRecord.mk (RInput.mk s1 s3) s7 x0.end_)) 36 :: Lr):=hM
 intro a hF
 refine aA hF (aG hF rfl rfl) rfl rfl rfl fun a hF=>?_
 refine aI (aB ?_)
 refine aH ?_
 refine aC ?_
 refine aA hF (aF hF rfl rfl) rfl rfl rfl fun a hF=>?_
 refine aA hF (aD (off':=0) Tryz.underlying36 rfl in30 rfl hF rfl rfl rfl) rfl rfl rfl fun a hF=>?_
 refine aA hF (aD (off':=0) Tryz.underlying30 rfl in23 rfl hF rfl rfl rfl) rfl rfl rfl fun a hF=>?_
 refine aA hF (aJ Tryz.isAgg23 hF rfl rfl ((hM.cells (i:=1) rfl (RRecord.c_in_ _)).get 0 (RInput.g_ctx _))) rfl rfl rfl fun a hF=>?_
 obtain ⟨i5,k9,hP⟩:=bind_some hP
 refine aN hF rfl rfl rfl (dE (X:=UInt8) k9 Tryz.underlying23 in5 rfl rfl rfl rfl hF rfl rfl rfl (hM.own (X:=UInt8) (i:=0) rfl) (f2 _ (hsub _ (dropM hM 2))) fun i0 w j3=>?_)
 have hM:=hM.chg j3 (i:=0) rfl
 replace hM:MemL _ (rowL 0 i0 5 i5 :: pt c0 (RRecord.enc (RRecord.mk (RInput.mk s1 s3) s7 x0.end_)) 36 :: Lr):=hM
 intro a hF
 refine aA hF (aG hF rfl rfl) rfl rfl rfl fun a hF=>?_
 refine aI (aB ?_)
 refine aH ?_
 refine aC ?_
 refine aA hF (aF hF rfl rfl) rfl rfl rfl fun a hF=>?_
 refine aA hF (aD (off':=0) Tryz.underlying36 rfl in30 rfl hF rfl rfl rfl) rfl rfl rfl fun a hF=>?_
 refine aA hF (aD (off':=1) Tryz.underlying30 rfl in28 rfl hF rfl rfl rfl) rfl rfl rfl fun a hF=>?_
 refine aA hF (aJ Tryz.isAgg28 hF rfl rfl ((hM.cells (i:=1) rfl (RRecord.c_in_ _)).get 1 (RInput.g_tables _))) rfl rfl rfl fun a hF=>?_
 refine aA hF (cV (f5 _ (hsub _ (dropM hM 2))) q6.len Tryz.underlying28 hF rfl rfl) rfl rfl rfl fun a hF=>?_
 refine aA hF (eS Tryz.underlying3 Tryz.underlying5 hF rfl rfl) rfl rfl rfl fun a hF=>?_
 refine aN hF rfl rfl rfl (cY (X:=UInt8) (y:=(Fw.byteOf (x0.in_.tables.length:Int))) Tryz.underlying23 in5 rfl rfl rfl rfl hF rfl rfl rfl fun d2 w p3 g7=>?_)
 have hM:=hM.plus g7
 replace hM:MemL _ (pt d2 (encs ([(Fw.byteOf (x0.in_.tables.length:Int))]:List UInt8)) 5 :: rowL 0 i0 5 i5 :: pt c0 (RRecord.enc (RRecord.mk (RInput.mk s1 s3) s7 x0.end_)) 36 :: Lr):=hM
 intro a hF
 obtain ⟨n7,l0,hP⟩:=bind_some hP
 refine aN hF rfl rfl rfl (dE (X:=UInt8) l0 Tryz.underlying23 in5 rfl rfl rfl rfl hF rfl rfl rfl (hM.own (X:=UInt8) (i:=1) rfl) (hM.ptS (X:=UInt8) (i:=0) (n:=1) (c:=1) rfl rfl rfl (Nat.le_refl _)) fun i1 w j4=>?_)
 have hM:=hM.chg j4 (i:=1) rfl
 replace hM:MemL _ (pt d2 (encs ([(Fw.byteOf (x0.in_.tables.length:Int))]:List UInt8)) 5 :: rowL 0 i1 5 n7 :: pt c0 (RRecord.enc (RRecord.mk (RInput.mk s1 s3) s7 x0.end_)) 36 :: Lr):=hM
 intro a hF
 refine aA hF (aG hF rfl rfl) rfl rfl rfl fun a hF=>?_
 refine aI (aB ?_)
 refine aH ?_
 refine aS hF hM hP (fun F x a w=>match x with | c7=>∃ (c2:SV),Fr 104 [(5,(c2).v),(1,.pointer (some ⟨c0,0,none⟩)),(2,(SV.nil).v),(3,.int .i64 0)] a ∧ MemL w (rowL 0 c2 5 c7 :: pt c0 (RRecord.enc (RRecord.mk (RInput.mk s1 s3) s7 x0.end_)) 36 :: Lr)) (fun u9 hP t2 hF hM=>?_) ?_
 ·refine aH ?_
  refine aC ?_
  refine aA hF (aG hF rfl rfl) rfl rfl rfl fun a hF=>?_
  refine aI (aB ?_)
  refine aV ?_
  refine bN hF hM hP (fun F x a w=>match x with | (c8,c9)=>∃ (c3:SV),Fr 104 [(5,(c3).v),(6,.int .i64 c9),(1,.pointer (some ⟨c0,0,none⟩)),(2,(SV.nil).v),(3,.int .i64 0)] a ∧ MemL w (rowL 0 c3 5 c8 :: pt c0 (RRecord.enc (RRecord.mk (RInput.mk s1 s3) s7 x0.end_)) 36 :: Lr)) (fun hF hM=>⟨i1,hF.to ⟨rfl,rfl,rfl,rfl,rfl,trivial⟩,selM hM [1,2] 3 rfl⟩) ?_
  rintro ⟨c8,c9⟩ a w z2 hP m9 ⟨c3,hF,hM⟩
  replace hP:Sh.fF x0 c8 c9 = _:=hP
  unfold Sh.fF at hP
  refine aH ?_
  refine aH ?_
  refine aC ?_
  refine aA hF (aF hF rfl rfl) rfl rfl rfl fun a hF=>?_
  refine aA hF (aD (off':=0) Tryz.underlying36 rfl in30 rfl hF rfl rfl rfl) rfl rfl rfl fun a hF=>?_
  refine aA hF (aD (off':=1) Tryz.underlying30 rfl in28 rfl hF rfl rfl rfl) rfl rfl rfl fun a hF=>?_
  refine aA hF (aJ Tryz.isAgg28 hF rfl rfl ((hM.cells (i:=1) rfl (RRecord.c_in_ _)).get 1 (RInput.g_tables _))) rfl rfl rfl fun a hF=>?_
  refine aA hF (cV (f5 _ (hsub _ (dropM hM 2))) q6.len Tryz.underlying28 hF rfl rfl) rfl rfl rfl fun a hF=>?_
  refine aA hF (cH hF rfl rfl rfl) rfl rfl rfl fun a hF=>?_
  refine aI (aB ?_)
  refine aR hF (c:=.tmp 55) rfl (fun d6=>?_) (fun d6=>?_)
  ·have hP:=Fx.cT d6 hP
   refine aT (aB ?_)
   refine aH ?_
   refine aV ?_
   refine aH ?_
   refine aC ?_
   refine aA hF (aF hF rfl rfl) rfl rfl rfl fun a hF=>?_
   refine aA hF (aD (off':=0) Tryz.underlying36 rfl in30 rfl hF rfl rfl rfl) rfl rfl rfl fun a hF=>?_
   refine aA hF (aD (off':=1) Tryz.underlying30 rfl in28 rfl hF rfl rfl rfl) rfl rfl rfl fun a hF=>?_
   refine aA hF (aJ Tryz.isAgg28 hF rfl rfl ((hM.cells (i:=1) rfl (RRecord.c_in_ _)).get 1 (RInput.g_tables _))) rfl rfl rfl fun a hF=>?_
   refine aA hF (aF hF rfl rfl) rfl rfl rfl fun a hF=>?_
   obtain ⟨u3,g2,hP⟩:=bind_some hP
   have i9:=aW g2
   obtain ⟨p9,k2,k6⟩:=Each.getr q6 i9.2
   have j8:=Each.bd q6 (bK g2)
   refine aA hF (bC (sz:=1) (f5 _ (hsub _ (dropM hM 2))) Tryz.underlying28 in23 rfl hF rfl rfl rfl j8) rfl rfl rfl fun a hF=>?_
   refine aA hF (aJ Tryz.isAgg23 hF rfl rfl ((((f5 _ (hsub _ (dropM hM 2))).elemS k2)).get 0 rfl)) rfl rfl rfl fun a hF=>?_
   refine aA hF (bG (k6 _ (hsub _ (dropM hM 2))) Tryz.underlying23 hF rfl rfl) rfl rfl rfl fun a hF=>?_
   obtain ⟨p0,l6,hP⟩:=bind_some hP
   refine aN hF rfl rfl rfl (aO (xs:=[.tmp 58,.tmp 65,.const (.int .i64 (2))]) Tryz.call108 hF rfl rfl (dQ l6 hM ) fun v w hR=>?_)
   obtain ⟨n5,rfl,hM⟩:=hR
   replace hM:MemL _ (rowL 0 n5 5 p0 :: pt c0 (RRecord.enc (RRecord.mk (RInput.mk s1 s3) s7 x0.end_)) 36 :: Lr):=hM
   intro a hF
   refine aA hF (aG hF rfl rfl) rfl rfl rfl fun a hF=>?_
   refine aI (aB ?_)
   refine aC ?_
   refine aA hF (aF hF rfl rfl) rfl rfl rfl fun a hF=>?_
   refine aA hF (aD (off':=0) Tryz.underlying36 rfl in30 rfl hF rfl rfl rfl) rfl rfl rfl fun a hF=>?_
   refine aA hF (aD (off':=1) Tryz.underlying30 rfl in28 rfl hF rfl rfl rfl) rfl rfl rfl fun a hF=>?_
   refine aA hF (aJ Tryz.isAgg28 hF rfl rfl ((hM.cells (i:=1) rfl (RRecord.c_in_ _)).get 1 (RInput.g_tables _))) rfl rfl rfl fun a hF=>?_
   refine aA hF (aF hF rfl rfl) rfl rfl rfl fun a hF=>?_
   obtain ⟨u4,g3,hP⟩:=bind_some hP
   have j0:=aW g3
   obtain ⟨t0,k3,k7⟩:=Each.getr q6 j0.2
   have j9:=Each.bd q6 (bK g3)
   refine aA hF (bC (sz:=1) (f5 _ (hsub _ (dropM hM 2))) Tryz.underlying28 in23 rfl hF rfl rfl rfl j9) rfl rfl rfl fun a hF=>?_
   refine aA hF (aJ Tryz.isAgg23 hF rfl rfl ((((f5 _ (hsub _ (dropM hM 2))).elemS k3)).get 0 rfl)) rfl rfl rfl fun a hF=>?_
   obtain ⟨i6,l1,hP⟩:=bind_some hP
   refine aN hF rfl rfl rfl (dE (X:=UInt8) l1 Tryz.underlying23 in5 rfl rfl rfl rfl hF rfl rfl rfl (hM.own (X:=UInt8) (i:=0) rfl) (k7 _ (hsub _ (dropM hM 2))) fun i2 w j5=>?_)
   have hM:=hM.chg j5 (i:=0) rfl
   replace hM:MemL _ (rowL 0 i2 5 i6 :: pt c0 (RRecord.enc (RRecord.mk (RInput.mk s1 s3) s7 x0.end_)) 36 :: Lr):=hM
   intro a hF
   refine aA hF (aG hF rfl rfl) rfl rfl rfl fun a hF=>?_
   refine aI (bI (aB ?_))
   refine aC ?_
   refine aA hF (aF hF rfl rfl) rfl rfl rfl fun a hF=>?_
   refine aA hF (cA hF rfl rfl rfl) rfl rfl rfl fun a hF=>?_
   refine aA hF (aG hF rfl rfl) rfl rfl rfl fun a hF=>?_
   refine aI (aB ?_)
   have hP:=Option.some.inj hP
   subst hP
   exact ⟨(i6,(IntKind.i64.wrap (c9 + 1))),rfl,i2,hF.to ⟨rfl,rfl,rfl,rfl,rfl,trivial⟩,hM⟩
  have hP:=Fx.cF d6 hP
  refine bW (bD (bD (cG ?_)))
  refine aB ?_
  have hP:=Option.some.inj hP
  subst hP
  have hP:=m9 _ rfl
  subst hP
  exact ⟨c8,rfl,c3,hF.to ⟨rfl,rfl,rfl,rfl,trivial⟩,hM⟩
 rintro c7 a w hP ⟨c2,hF,hM⟩
 replace hP:Sh.iX x0 c7 = _:=hP
 unfold Sh.iX at hP
 refine aB ?_
 refine aH ?_
 refine aC ?_
 refine aA hF (aF hF rfl rfl) rfl rfl rfl fun a hF=>?_
 refine aA hF (aD (off':=3) Tryz.underlying36 rfl in34 rfl hF rfl rfl rfl) rfl rfl rfl fun a hF=>?_
 refine aA hF (aJ Tryz.isAgg34 hF rfl rfl (hM.cell (i:=1) rfl (RRecord.g_end_ _))) rfl rfl rfl fun a hF=>?_
 refine aA hF (eS Tryz.underlying34 Tryz.underlying5 hF rfl rfl) rfl rfl rfl fun a hF=>?_
 refine aN hF rfl rfl rfl (cY (X:=UInt8) (y:=(Fw.byteOf x0.end_)) Tryz.underlying23 in5 rfl rfl rfl rfl hF rfl rfl rfl fun c1 w p4 g8=>?_)
 have hM:=hM.plus g8
 replace hM:MemL _ (pt c1 (encs ([(Fw.byteOf x0.end_)]:List UInt8)) 5 :: rowL 0 c2 5 c7 :: pt c0 (RRecord.enc (RRecord.mk (RInput.mk s1 s3) s7 x0.end_)) 36 :: Lr):=hM
 intro a hF
 obtain ⟨n8,l2,hP⟩:=bind_some hP
 refine aN hF rfl rfl rfl (dE (X:=UInt8) l2 Tryz.underlying23 in5 rfl rfl rfl rfl hF rfl rfl rfl (hM.own (X:=UInt8) (i:=1) rfl) (hM.ptS (X:=UInt8) (i:=0) (n:=1) (c:=1) rfl rfl rfl (Nat.le_refl _)) fun n6 w j6=>?_)
 have hM:=hM.chg j6 (i:=1) rfl
 replace hM:MemL _ (pt c1 (encs ([(Fw.byteOf x0.end_)]:List UInt8)) 5 :: rowL 0 n6 5 n8 :: pt c0 (RRecord.enc (RRecord.mk (RInput.mk s1 s3) s7 x0.end_)) 36 :: Lr):=hM
 intro a hF
 refine aA hF (aG hF rfl rfl) rfl rfl rfl fun a hF=>?_
 refine aI (aB ?_)
 refine aH ?_
 refine aC ?_
 refine aA hF (aF hF rfl rfl) rfl rfl rfl fun a hF=>?_
 refine aA hF (aD (off':=2) Tryz.underlying36 rfl in33 rfl hF rfl rfl rfl) rfl rfl rfl fun a hF=>?_
 refine aA hF (aJ Tryz.isAgg33 hF rfl rfl (hM.cell (i:=2) rfl (RRecord.g_marks _))) rfl rfl rfl fun a hF=>?_
 refine aA hF (cV (f9 _ (hsub _ (dropM hM 3))) q10.len Tryz.underlying33 hF rfl rfl) rfl rfl rfl fun a hF=>?_
 obtain ⟨p1,l7,hP⟩:=bind_some hP
 refine aN hF rfl rfl rfl (aO (xs:=[.tmp 81,.tmp 84,.const (.int .i64 (4))]) Tryz.call108 hF rfl rfl (dQ l7 (selM hM [1,0,2] 3 rfl) ) fun v w hR=>?_)
 obtain ⟨i3,rfl,hM⟩:=hR
 replace hM:MemL _ (rowL 0 i3 5 p1 :: pt c1 (encs ([(Fw.byteOf x0.end_)]:List UInt8)) 5 :: pt c0 (RRecord.enc (RRecord.mk (RInput.mk s1 s3) s7 x0.end_)) 36 :: Lr):=hM
 intro a hF
 refine aA hF (aG hF rfl rfl) rfl rfl rfl fun a hF=>?_
 refine aI (aB ?_)
 refine aH ?_
 refine aS hF hM hP (fun F x a w=>match x with | g0=>∃ (c4:SV),Fr 104 [(5,(c4).v),(2,(SV.nil).v),(3,.int .i64 0)] a ∧ MemL w (rowL 0 c4 5 g0 :: Lr)) (fun z0 hP t3 hF hM=>?_) ?_
 ·refine aH ?_
  refine aC ?_
  refine aA hF (aG hF rfl rfl) rfl rfl rfl fun a hF=>?_
  refine aI (aB ?_)
  refine aV ?_
  refine bN hF hM hP (fun F x a w=>match x with | (d0,d1)=>∃ (c5:SV),Fr 104 [(5,(c5).v),(7,.int .i64 d1),(1,.pointer (some ⟨c0,0,none⟩)),(2,(SV.nil).v),(3,.int .i64 0)] a ∧ MemL w (rowL 0 c5 5 d0 :: pt c0 (RRecord.enc (RRecord.mk (RInput.mk s1 s3) s7 x0.end_)) 36 :: Lr)) (fun hF hM=>⟨i3,hF.to ⟨rfl,rfl,rfl,rfl,rfl,trivial⟩,selM hM [0,2] 3 rfl⟩) ?_
  rintro ⟨d0,d1⟩ a w z3 hP n0 ⟨c5,hF,hM⟩
  replace hP:Sh.gC x0 d0 d1 = _:=hP
  unfold Sh.gC at hP
  refine aH ?_
  refine aH ?_
  refine aC ?_
  refine aA hF (aF hF rfl rfl) rfl rfl rfl fun a hF=>?_
  refine aA hF (aD (off':=2) Tryz.underlying36 rfl in33 rfl hF rfl rfl rfl) rfl rfl rfl fun a hF=>?_
  refine aA hF (aJ Tryz.isAgg33 hF rfl rfl (hM.cell (i:=1) rfl (RRecord.g_marks _))) rfl rfl rfl fun a hF=>?_
  refine aA hF (cV (f9 _ (hsub _ (dropM hM 2))) q10.len Tryz.underlying33 hF rfl rfl) rfl rfl rfl fun a hF=>?_
  refine aA hF (cH hF rfl rfl rfl) rfl rfl rfl fun a hF=>?_
  refine aI (aB ?_)
  refine aR hF (c:=.tmp 90) rfl (fun d7=>?_) (fun d7=>?_)
  ·have hP:=Fx.cT d7 hP
   refine aT (aB ?_)
   refine aH ?_
   refine aV ?_
   refine aC ?_
   refine aA hF (aF hF rfl rfl) rfl rfl rfl fun a hF=>?_
   refine aA hF (aD (off':=2) Tryz.underlying36 rfl in33 rfl hF rfl rfl rfl) rfl rfl rfl fun a hF=>?_
   refine aA hF (aJ Tryz.isAgg33 hF rfl rfl (hM.cell (i:=1) rfl (RRecord.g_marks _))) rfl rfl rfl fun a hF=>?_
   refine aA hF (aF hF rfl rfl) rfl rfl rfl fun a hF=>?_
   obtain ⟨u5,g4,hP⟩:=bind_some hP
   have j1:=aW g4
   obtain ⟨t1,k4,k8⟩:=Each.getr q10 j1.2
   have k0:=Each.bd q10 (bK g4)
   obtain ⟨t8,t9,u0,p7,u1,rfl,m4,m5,m6,n3,m7⟩:=k8
   refine aA hF (bC (sz:=7) (f9 _ (hsub _ (dropM hM 2))) Tryz.underlying33 in60 rfl hF rfl rfl rfl k0) rfl rfl rfl fun a hF=>?_
   refine aA hF (bB Tryz.isAgg60 Tryz.sizeOf60 hF rfl rfl (RMark.len _) (((f9 _ (hsub _ (dropM hM 2))).elemS k4))) rfl rfl rfl fun a hF=>?_
   obtain ⟨i7,l8,hP⟩:=bind_some hP
   refine aN hF rfl rfl rfl (aO (xs:=[.tmp 93,.tmp 98]) Tryz.call109 hF rfl rfl (nG l8 hM (Bf:=Bf) (fun w hM=>hsub _ (dropM hM 1)) m4 m5 m6 n3 m7) fun v w hR=>?_)
   obtain ⟨i4,rfl,hM⟩:=hR
   replace hM:MemL _ (rowL 0 i4 5 i7 :: pt c0 (RRecord.enc (RRecord.mk (RInput.mk s1 s3) s7 x0.end_)) 36 :: Lr):=hM
   intro a hF
   refine aA hF (aG hF rfl rfl) rfl rfl rfl fun a hF=>?_
   refine aI (bI (aB ?_))
   refine aC ?_
   refine aA hF (aF hF rfl rfl) rfl rfl rfl fun a hF=>?_
   refine aA hF (cA hF rfl rfl rfl) rfl rfl rfl fun a hF=>?_
   refine aA hF (aG hF rfl rfl) rfl rfl rfl fun a hF=>?_
   refine aI (aB ?_)
   have hP:=Option.some.inj hP
   subst hP
   exact ⟨(i7,(IntKind.i64.wrap (d1 + 1))),rfl,i4,hF.to ⟨rfl,rfl,rfl,rfl,rfl,trivial⟩,hM⟩
  have hP:=Fx.cF d7 hP
  refine bW (bD (bD (cG ?_)))
  refine aB ?_
  have hP:=Option.some.inj hP
  subst hP
  have hP:=n0 _ rfl
  subst hP
  exact ⟨d0,rfl,c5,hF.to ⟨rfl,rfl,rfl,trivial⟩,selM hM [0] 2 rfl⟩
 rintro g0 a w hP ⟨c4,hF,hM⟩
 replace hP:Sh.hI g0 = _:=hP
 unfold Sh.hI at hP
 refine aB ?_
 refine aH ?_
 refine aH ?_
 refine aC ?_
 refine aA hF (aF hF rfl rfl) rfl rfl rfl fun a hF=>?_
 refine aA hF (bG (hM.rowS (X:=UInt8) (i:=0) rfl) Tryz.underlying23 hF rfl rfl) rfl rfl rfl fun a hF=>?_
 refine aA hF (eJ hF rfl rfl rfl) rfl rfl rfl fun a hF=>?_
 refine aI (aB ?_)
 refine aR hF (c:=.tmp 102) rfl (fun d8=>?_) (fun d8=>?_)
 ·have hP:=Fx.cT d8 hP
  refine aH ?_
  refine aC ?_
  refine aA hF (aG hF rfl rfl) rfl rfl rfl fun a hF=>?_
  refine aA hF (aG hF rfl rfl) rfl rfl rfl fun a hF=>?_
  refine aI (aB ?_)
  refine c_ret ?_
  have hM:=hM.rowNil (X:=UInt8) 0 5
  have hP:=Option.some.inj hP
  subst hP
  refine eH (rs:=[.tmp 2,.tmp 3]) Tryz.results42 hF (cX hF rfl (cX hF rfl dC)) rfl ?_
  exact ⟨SV.nil,rfl,selM hM [0] 2 rfl⟩
 have hP:=Fx.cF d8 hP
 refine aT (aB ?_)
 refine aH ?_
 refine aC ?_
 refine aA hF (aF hF rfl rfl) rfl rfl rfl fun a hF=>?_
 refine aA hF (aG hF rfl rfl) rfl rfl rfl fun a hF=>?_
 refine aA hF (aG hF rfl rfl) rfl rfl rfl fun a hF=>?_
 refine aI (aB ?_)
 refine c_ret ?_
 have hP:=Option.some.inj hP
 subst hP
 refine eH (rs:=[.tmp 2,.tmp 3]) Tryz.results42 hF (cX hF rfl (cX hF rfl dC)) rfl ?_
 exact ⟨c4,rfl,hM⟩
end Go.Proofs
end
section
namespace Go.Proofs
open Go.Fw Go.Fx
set_option maxRecDepth 10000
set_option linter.unusedVariables false
set_option linter.unusedSimpArgs false
set_option maxHeartbeats 4000000 in
theorem dL {x0:List UInt8} {x1:List UInt8} {s1:SV} {s3:SV} {out:Bool} {w0:World} {Bf:World → Prop} {Lr:List Res} (hP:Sh.bA x0 x1 = some out) (hM:MemL w0 (Lr)) (hsub:∀ w,MemL w Lr → Bf w) (f2:LIn Bf s1 x0) (f4:LIn Bf s3 x1):Calls Tryz.prog 43 #[(s1).v,(s3).v] w0 (Ret fun v w'=>v = .bool out ∧ MemL w' (Lr)):=by
 unfold Sh.bA at hP
 refine aM (vs:=[(s1).v,(s3).v]) Tryz.func43 rfl Tryz.ntmps43 rfl fun a hF=>?_
 refine aH ?_
 refine aC ?_
 refine aA hF (aG hF rfl rfl) rfl rfl rfl fun a hF=>?_
 refine aI (aB ?_)
 refine aH ?_
 refine aC ?_
 refine aA hF (aF hF rfl rfl) rfl rfl rfl fun a hF=>?_
 refine aA hF (iY (f2 _ (hsub _ (dropM hM 0))) Tryz.underlying23 Tryz.underlying5 Tryz.underlying9 hF rfl rfl) rfl rfl rfl fun a hF=>?_
 refine aA hF (aF hF rfl rfl) rfl rfl rfl fun a hF=>?_
 refine aA hF (iY (f4 _ (hsub _ (dropM hM 0))) Tryz.underlying23 Tryz.underlying5 Tryz.underlying9 hF rfl rfl) rfl rfl rfl fun a hF=>?_
 refine aA hF (sU (i:=x0) (j:=x1) hF rfl rfl rfl) rfl rfl rfl fun a hF=>?_
 refine aA hF (aG hF rfl rfl) rfl rfl rfl fun a hF=>?_
 refine aI (aB ?_)
 refine c_ret ?_
 have hP:=Option.some.inj hP
 subst hP
 refine aY Tryz.results43 hF rfl ?_
 exact ⟨rfl,hM⟩
set_option maxHeartbeats 4000000 in
theorem iF {x0:List Int} {x1:List Int} {s1:SV} {s3:SV} {out:Bool} {w0:World} {Bf:World → Prop} {Lr:List Res} (hP:Sh.fN x0 x1 = some out) (hM:MemL w0 (Lr)) (hsub:∀ w,MemL w Lr → Bf w) (f2:LIn Bf s1 x0) (f4:LIn Bf s3 x1):Calls Tryz.prog 89 #[(s1).v,(s3).v] w0 (Ret fun v w'=>v = .bool out ∧ MemL w' (Lr)):=by
 unfold Sh.fN at hP
 refine aM (vs:=[(s1).v,(s3).v]) Tryz.func89 rfl Tryz.ntmps89 rfl fun a hF=>?_
 refine aH ?_
 refine aC ?_
 refine aA hF (aG hF rfl rfl) rfl rfl rfl fun a hF=>?_
 refine aI (aB ?_)
 refine aH ?_
 refine aH ?_
 refine aC ?_
 refine aA hF (aF hF rfl rfl) rfl rfl rfl fun a hF=>?_
 refine aA hF (bG (f2 _ (hsub _ (dropM hM 0))) Tryz.underlying52 hF rfl rfl) rfl rfl rfl fun a hF=>?_
 refine aA hF (aF hF rfl rfl) rfl rfl rfl fun a hF=>?_
 refine aA hF (bG (f4 _ (hsub _ (dropM hM 0))) Tryz.underlying52 hF rfl rfl) rfl rfl rfl fun a hF=>?_
 refine aA hF (cW hF rfl rfl rfl) rfl rfl rfl fun a hF=>?_
 refine aI (aB ?_)
 refine aR hF (c:=.tmp 10) rfl (fun c0=>?_) (fun c0=>?_)
 ·have hP:=Fx.cT c0 hP
  refine aH ?_
  refine aC ?_
  refine aA hF (aG hF rfl rfl) rfl rfl rfl fun a hF=>?_
  refine aI (aB ?_)
  refine c_ret ?_
  have hP:=Option.some.inj hP
  subst hP
  refine aY Tryz.results89 hF rfl ?_
  exact ⟨rfl,hM⟩
 have hP:=Fx.cF c0 hP
 refine aT (aB ?_)
 refine aH ?_
 refine aS hF hM hP (fun F x a w=>match x with | _=>Fr 26 [(4,.bool false)] a ∧ MemL w (Lr)) (fun d0 hP c9 hF hM=>?_) ?_
 ·refine aH ?_
  refine aC ?_
  refine aA hF (aG hF rfl rfl) rfl rfl rfl fun a hF=>?_
  refine aI (aB ?_)
  refine aV ?_
  refine bN hF hM hP (fun F x a w=>match x with | c3=>Fr 26 [(5,.int .i64 c3),(0,(s1).v),(1,(s3).v),(4,.bool false)] a ∧ MemL w (Lr)) (fun hF hM=>⟨hF.to ⟨rfl,rfl,rfl,rfl,trivial⟩,hM⟩) ?_
  rintro c3 a w d1 hP c4 ⟨hF,hM⟩
  replace hP:Sh.cX x0 x1 c3 = _:=hP
  unfold Sh.cX at hP
  refine aH ?_
  refine aH ?_
  refine aC ?_
  refine aA hF (aF hF rfl rfl) rfl rfl rfl fun a hF=>?_
  refine aA hF (aF hF rfl rfl) rfl rfl rfl fun a hF=>?_
  refine aA hF (bG (f2 _ (hsub _ (dropM hM 0))) Tryz.underlying52 hF rfl rfl) rfl rfl rfl fun a hF=>?_
  refine aA hF (cH hF rfl rfl rfl) rfl rfl rfl fun a hF=>?_
  refine aI (aB ?_)
  refine aR hF (c:=.tmp 14) rfl (fun c1=>?_) (fun c1=>?_)
  ·have hP:=Fx.cT c1 hP
   refine aT (aB ?_)
   refine aH ?_
   refine aV ?_
   refine aH ?_
   refine bQ mixed (by kernel_rfl) hM [] 0 rfl fun hch=>?_
   refine aL hF hch 0 rfl (by kernel_rfl) rfl rfl rfl (fun w hM=>(aF hF rfl rfl)) fun a hF=>?_
   refine aL hF hch 1 rfl (by kernel_rfl) rfl rfl rfl (fun w hM=>(aF hF rfl rfl)) fun a hF=>?_
   obtain ⟨d2,c5,hP⟩:=bind_some hP
   have c7:=aW c5
   refine aL hF hch 2 rfl (by kernel_rfl) rfl rfl rfl (fun w hM=>(bC (sz:=1) (f2 _ (hsub _ (dropM hM 0))) Tryz.underlying52 in3 rfl hF rfl rfl rfl (bK c5))) fun a hF=>?_
   refine aL hF hch 3 rfl (by kernel_rfl) rfl rfl rfl (fun w hM=>(aJ Tryz.isAgg3 hF rfl rfl ((((f2 _ (hsub _ (dropM hM 0))).elemS c7.2)).get 0 rfl))) fun a hF=>?_
   refine aL hF hch 4 rfl (by kernel_rfl) rfl rfl rfl (fun w hM=>(aF hF rfl rfl)) fun a hF=>?_
   refine aL hF hch 5 rfl (by kernel_rfl) rfl rfl rfl (fun w hM=>(aF hF rfl rfl)) fun a hF=>?_
   obtain ⟨d3,c6,hP⟩:=bind_some hP
   have c8:=aW c6
   refine aL hF hch 6 rfl (by kernel_rfl) rfl rfl rfl (fun w hM=>(bC (sz:=1) (f4 _ (hsub _ (dropM hM 0))) Tryz.underlying52 in3 rfl hF rfl rfl rfl (bK c6))) fun a hF=>?_
   refine aL hF hch 7 rfl (by kernel_rfl) rfl rfl rfl (fun w hM=>(aJ Tryz.isAgg3 hF rfl rfl ((((f4 _ (hsub _ (dropM hM 0))).elemS c8.2)).get 0 rfl))) fun a hF=>?_
   refine aL hF hch 8 rfl (by kernel_rfl) rfl rfl rfl (fun w hM=>(cW hF rfl rfl rfl)) fun a hF=>?_
   refine cI hch (by kernel_rfl) fun w hM=>?_
   refine aB ?_
   refine aR hF (c:=.tmp 25) rfl (fun c2=>?_) (fun c2=>?_)
   ·have hP:=Fx.cT c2 hP
    refine aH ?_
    refine aC ?_
    refine aA hF (aG hF rfl rfl) rfl rfl rfl fun a hF=>?_
    refine aI (aB ?_)
    refine c_ret ?_
    have hP:=Option.some.inj hP
    subst hP
    have hP:=c4 _ rfl
    subst hP
    have hP:=cL c9
    subst hP
    refine aY Tryz.results89 hF rfl ?_
    exact ⟨rfl,hM⟩
   have hP:=Fx.cF c2 hP
   refine aT (bI (aB ?_))
   refine aC ?_
   refine aA hF (aF hF rfl rfl) rfl rfl rfl fun a hF=>?_
   refine aA hF (cA hF rfl rfl rfl) rfl rfl rfl fun a hF=>?_
   refine aA hF (aG hF rfl rfl) rfl rfl rfl fun a hF=>?_
   refine aI (aB ?_)
   have hP:=Option.some.inj hP
   subst hP
   exact ⟨(IntKind.i64.wrap (c3 + 1)),rfl,hF.to ⟨rfl,rfl,rfl,rfl,trivial⟩,hM⟩
  have hP:=Fx.cF c1 hP
  refine bW (bD (bD (cG ?_)))
  refine aB ?_
  have hP:=Option.some.inj hP
  subst hP
  have hP:=c4 _ rfl
  subst hP
  exact ⟨(),rfl,hF.to ⟨rfl,trivial⟩,hM⟩
 rintro ⟨⟩ a w hP ⟨hF,hM⟩
 replace hP:Sh.jG = _:=hP
 unfold Sh.jG at hP
 refine aB ?_
 refine aH ?_
 refine aC ?_
 refine aA hF (aG hF rfl rfl) rfl rfl rfl fun a hF=>?_
 refine aI (aB ?_)
 refine c_ret ?_
 have hP:=Option.some.inj hP
 subst hP
 refine aY Tryz.results89 hF rfl ?_
 exact ⟨rfl,hM⟩
set_option maxHeartbeats 4000000 in
theorem dV {x0:List UInt8} {s1:SV} {out:List UInt8} {w0:World} {Bf:World → Prop} {Lr:List Res} (hP:Sh.dL x0 = some out) (hM:MemL w0 (Lr)) (hsub:∀ w,MemL w Lr → Bf w) (f2:LIn Bf s1 x0):Calls Tryz.prog 50 #[(s1).v] w0 (Ret fun v w'=>∃ (s6:SV),v = (s6).v ∧ MemL w' (rowL 0 s6 5 out :: Lr)):=by
 unfold Sh.dL at hP
 refine aM (vs:=[(s1).v]) Tryz.func50 rfl Tryz.ntmps50 rfl fun a hF=>?_
 refine aH ?_
 refine aC ?_
 refine aA hF (aG hF rfl rfl) rfl rfl rfl fun a hF=>?_
 refine aI (aB ?_)
 refine aH ?_
 refine aC ?_
 refine aA hF (aF hF rfl rfl) rfl rfl rfl fun a hF=>?_
 have hM:=hM.rowNil (X:=UInt8) 0 5
 obtain ⟨x10,hx10,hP⟩:=bind_some hP
 refine aN hF rfl rfl rfl (dE (X:=UInt8) hx10 Tryz.underlying23 in5 rfl rfl rfl rfl hF rfl rfl rfl (hM.own (X:=UInt8) (i:=0) rfl) (f2 _ (hsub _ (dropM hM 1))) fun s8 w hUs8=>?_)
 have hM:=hM.chg hUs8 (i:=0) rfl
 replace hM:MemL _ (rowL 0 s8 5 x10 :: Lr):=hM
 intro a hF
 refine aA hF (aG hF rfl rfl) rfl rfl rfl fun a hF=>?_
 refine aI (aB ?_)
 refine c_ret ?_
 have hP:=Option.some.inj hP
 subst hP
 refine aY Tryz.results50 hF rfl ?_
 exact ⟨s8,rfl,hM⟩
set_option maxHeartbeats 4000000 in
theorem iG {x0:List (List UInt8)} {x1:List (List UInt8)} {s1:SV} {hs2:List SV} {s5:SV} {hs6:List SV} {out:Bool} {w0:World} {Bf:World → Prop} {Lr:List Res} (hP:Sh.fO x0 x1 = some out) (hM:MemL w0 (Lr)) (hsub:∀ w,MemL w Lr → Bf w) (f3:LIn Bf s1 hs2) (q4:Each (LIn (X:=UInt8) Bf) hs2 x0) (f7:LIn Bf s5 hs6) (q8:Each (LIn (X:=UInt8) Bf) hs6 x1):Calls Tryz.prog 64 #[(s1).v,(s5).v] w0 (Ret fun v w'=>v = .bool out ∧ MemL w' (Lr)):=by
 unfold Sh.fO at hP
 refine aM (vs:=[(s1).v,(s5).v]) Tryz.func64 rfl Tryz.ntmps64 rfl fun a hF=>?_
 refine aH ?_
 refine aC ?_
 refine aA hF (aG hF rfl rfl) rfl rfl rfl fun a hF=>?_
 refine aI (aB ?_)
 refine aH ?_
 refine aH ?_
 refine aC ?_
 refine aA hF (aF hF rfl rfl) rfl rfl rfl fun a hF=>?_
 refine aA hF (cV (f3 _ (hsub _ (dropM hM 0))) q4.len Tryz.underlying28 hF rfl rfl) rfl rfl rfl fun a hF=>?_
 refine aA hF (aF hF rfl rfl) rfl rfl rfl fun a hF=>?_
 refine aA hF (cV (f7 _ (hsub _ (dropM hM 0))) q8.len Tryz.underlying28 hF rfl rfl) rfl rfl rfl fun a hF=>?_
 refine aA hF (cW hF rfl rfl rfl) rfl rfl rfl fun a hF=>?_
 refine aI (aB ?_)
 refine aR hF (c:=.tmp 10) rfl (fun c0=>?_) (fun c0=>?_)
 ·have hP:=Fx.cT c0 hP
  refine aH ?_
  refine aC ?_
  refine aA hF (aG hF rfl rfl) rfl rfl rfl fun a hF=>?_
  refine aI (aB ?_)
  refine c_ret ?_
  have hP:=Option.some.inj hP
  subst hP
  refine aY Tryz.results64 hF rfl ?_
  exact ⟨rfl,hM⟩
 have hP:=Fx.cF c0 hP
 refine aT (aB ?_)
 refine aH ?_
 refine aS hF hM hP (fun F x a w=>match x with | _=>Fr 27 [(4,.bool false)] a ∧ MemL w (Lr)) (fun d9 hP d5 hF hM=>?_) ?_
 ·refine aH ?_
  refine aC ?_
  refine aA hF (aG hF rfl rfl) rfl rfl rfl fun a hF=>?_
  refine aI (aB ?_)
  refine aV ?_
  refine bN hF hM hP (fun F x a w=>match x with | c3=>Fr 27 [(5,.int .i64 c3),(0,(s1).v),(1,(s5).v),(4,.bool false)] a ∧ MemL w (Lr)) (fun hF hM=>⟨hF.to ⟨rfl,rfl,rfl,rfl,trivial⟩,hM⟩) ?_
  rintro c3 a w g0 hP c4 ⟨hF,hM⟩
  replace hP:Sh.cY x0 x1 c3 = _:=hP
  unfold Sh.cY at hP
  refine aH ?_
  refine aH ?_
  refine aC ?_
  refine aA hF (aF hF rfl rfl) rfl rfl rfl fun a hF=>?_
  refine aA hF (aF hF rfl rfl) rfl rfl rfl fun a hF=>?_
  refine aA hF (cV (f3 _ (hsub _ (dropM hM 0))) q4.len Tryz.underlying28 hF rfl rfl) rfl rfl rfl fun a hF=>?_
  refine aA hF (cH hF rfl rfl rfl) rfl rfl rfl fun a hF=>?_
  refine aI (aB ?_)
  refine aR hF (c:=.tmp 14) rfl (fun c1=>?_) (fun c1=>?_)
  ·have hP:=Fx.cT c1 hP
   refine aT (aB ?_)
   refine aH ?_
   refine aV ?_
   refine aH ?_
   refine bQ mixed (by kernel_rfl) hM [] 0 rfl fun hch=>?_
   refine aL hF hch 0 rfl (by kernel_rfl) rfl rfl rfl (fun w hM=>(aF hF rfl rfl)) fun a hF=>?_
   refine aL hF hch 1 rfl (by kernel_rfl) rfl rfl rfl (fun w hM=>(aF hF rfl rfl)) fun a hF=>?_
   obtain ⟨g1,c5,hP⟩:=bind_some hP
   have c7:=aW c5
   obtain ⟨d7,d1,d3⟩:=Each.getr q4 c7.2
   have c9:=Each.bd q4 (bK c5)
   refine aL hF hch 2 rfl (by kernel_rfl) rfl rfl rfl (fun w hM=>(bC (sz:=1) (f3 _ (hsub _ (dropM hM 0))) Tryz.underlying28 in23 rfl hF rfl rfl rfl c9)) fun a hF=>?_
   refine aL hF hch 3 rfl (by kernel_rfl) rfl rfl rfl (fun w hM=>(aJ Tryz.isAgg23 hF rfl rfl ((((f3 _ (hsub _ (dropM hM 0))).elemS d1)).get 0 rfl))) fun a hF=>?_
   refine aL hF hch 4 rfl (by kernel_rfl) rfl rfl rfl (fun w hM=>(aF hF rfl rfl)) fun a hF=>?_
   refine aL hF hch 5 rfl (by kernel_rfl) rfl rfl rfl (fun w hM=>(aF hF rfl rfl)) fun a hF=>?_
   obtain ⟨g2,c6,hP⟩:=bind_some hP
   have c8:=aW c6
   obtain ⟨d8,d2,d4⟩:=Each.getr q8 c8.2
   have d0:=Each.bd q8 (bK c6)
   refine aL hF hch 6 rfl (by kernel_rfl) rfl rfl rfl (fun w hM=>(bC (sz:=1) (f7 _ (hsub _ (dropM hM 0))) Tryz.underlying28 in23 rfl hF rfl rfl rfl d0)) fun a hF=>?_
   refine aL hF hch 7 rfl (by kernel_rfl) rfl rfl rfl (fun w hM=>(aJ Tryz.isAgg23 hF rfl rfl ((((f7 _ (hsub _ (dropM hM 0))).elemS d2)).get 0 rfl))) fun a hF=>?_
   refine bS hch 8 (by kernel_rfl) rfl rfl ?_
   refine cR hF 8 rfl rfl rfl rfl rfl fun w hMs hM=>?_
   obtain ⟨g3,d6,hP⟩:=bind_some hP
   refine (aO (xs:=[.tmp 20,.tmp 24]) Tryz.call43 hF rfl rfl (dL d6 hM (Bf:=Bf) (fun w hM=>hsub _ (dropM hM 0)) d3 d4) fun v w hR=>?_)
   obtain ⟨rfl,hM⟩:=hR
   replace hM:MemL _ (Lr):=hM
   have hMs:=selM hM [] 0 rfl
   refine ⟨_,_,hMs,hM,.inl fun _ h=>h,fun a hF=>?_⟩
   refine aL hF hch 9 rfl (by kernel_rfl) rfl rfl rfl (fun w hM=>(dJ hF rfl rfl)) fun a hF=>?_
   refine cI hch (by kernel_rfl) fun w hM=>?_
   refine aB ?_
   refine aR hF (c:=.tmp 26) rfl (fun c2=>?_) (fun c2=>?_)
   ·have hP:=Fx.cT c2 hP
    refine aH ?_
    refine aC ?_
    refine aA hF (aG hF rfl rfl) rfl rfl rfl fun a hF=>?_
    refine aI (aB ?_)
    refine c_ret ?_
    have hP:=Option.some.inj hP
    subst hP
    have hP:=c4 _ rfl
    subst hP
    have hP:=cL d5
    subst hP
    refine aY Tryz.results64 hF rfl ?_
    exact ⟨rfl,hM⟩
   have hP:=Fx.cF c2 hP
   refine aT (bI (aB ?_))
   refine aC ?_
   refine aA hF (aF hF rfl rfl) rfl rfl rfl fun a hF=>?_
   refine aA hF (cA hF rfl rfl rfl) rfl rfl rfl fun a hF=>?_
   refine aA hF (aG hF rfl rfl) rfl rfl rfl fun a hF=>?_
   refine aI (aB ?_)
   have hP:=Option.some.inj hP
   subst hP
   exact ⟨(IntKind.i64.wrap (c3 + 1)),rfl,hF.to ⟨rfl,rfl,rfl,rfl,trivial⟩,hM⟩
  have hP:=Fx.cF c1 hP
  refine bW (bD (bD (cG ?_)))
  refine aB ?_
  have hP:=Option.some.inj hP
  subst hP
  have hP:=c4 _ rfl
  subst hP
  exact ⟨(),rfl,hF.to ⟨rfl,trivial⟩,hM⟩
 rintro ⟨⟩ a w hP ⟨hF,hM⟩
 replace hP:Sh.jH = _:=hP
 unfold Sh.jH at hP
 refine aB ?_
 refine aH ?_
 refine aC ?_
 refine aA hF (aG hF rfl rfl) rfl rfl rfl fun a hF=>?_
 refine aI (aB ?_)
 refine c_ret ?_
 have hP:=Option.some.inj hP
 subst hP
 refine aY Tryz.results64 hF rfl ?_
 exact ⟨rfl,hM⟩
set_option maxHeartbeats 4000000 in
theorem kL {x0:QInput} {x1:QInput} {s1:SV} {s3:SV} {hs4:List SV} {s7:SV} {s9:SV} {hs10:List SV} {out:Bool} {w0:World} {Bf:World → Prop} {Lr:List Res} (hP:Sh.fY x0 x1 = some out) (hM:MemL w0 (Lr)) (hsub:∀ w,MemL w Lr → Bf w) (f2:LIn Bf s1 x0.ctx) (f5:LIn Bf s3 hs4) (q6:Each (LIn (X:=UInt8) Bf) hs4 x0.tables) (f8:LIn Bf s7 x1.ctx) (f11:LIn Bf s9 hs10) (q12:Each (LIn (X:=UInt8) Bf) hs10 x1.tables):Calls Tryz.prog 29 #[.agg (RInput.enc (RInput.mk s1 s3)).toArray,.agg (RInput.enc (RInput.mk s7 s9)).toArray] w0 (Ret fun v w'=>v = .bool out ∧ MemL w' (Lr)):=by
 unfold Sh.fY at hP
 refine aM (vs:=[.agg (RInput.enc (RInput.mk s1 s3)).toArray,.agg (RInput.enc (RInput.mk s7 s9)).toArray]) Tryz.func29 rfl Tryz.ntmps29 rfl fun a hF=>?_
 refine aH ?_
 refine aC ?_
 refine aN hF rfl rfl rfl (dD hF rfl rfl rfl fun c0 w c4 c2=>?_)
 have hM:=hM.plus c2
 replace hM:MemL _ (pt c0 (RInput.enc (RInput.mk s1 s3)) 30 :: Lr):=hM
 intro a hF
 refine aN hF rfl rfl rfl (dD hF rfl rfl rfl fun c1 w c5 c3=>?_)
 have hM:=hM.plus c3
 replace hM:MemL _ (pt c1 (RInput.enc (RInput.mk s7 s9)) 30 :: pt c0 (RInput.enc (RInput.mk s1 s3)) 30 :: Lr):=hM
 intro a hF
 refine aA hF (aG hF rfl rfl) rfl rfl rfl fun a hF=>?_
 refine aI (aB ?_)
 refine aH ?_
 refine aS hF hM hP (fun F x a w=>match x with | v39=>Fr 17 [(4,.bool v39)] a ∧ MemL w (Lr)) (fun c7 hP c6 hF hM=>?_) ?_
 ·refine aC ?_
  refine aA hF (aD (off':=0) Tryz.underlying30 rfl in23 rfl hF rfl rfl rfl) rfl rfl rfl fun a hF=>?_
  refine aA hF (aJ Tryz.isAgg23 hF rfl rfl (hM.cell (i:=1) rfl (RInput.g_ctx _))) rfl rfl rfl fun a hF=>?_
  refine aA hF (aD (off':=0) Tryz.underlying30 rfl in23 rfl hF rfl rfl rfl) rfl rfl rfl fun a hF=>?_
  refine aA hF (aJ Tryz.isAgg23 hF rfl rfl (hM.cell (i:=0) rfl (RInput.g_ctx _))) rfl rfl rfl fun a hF=>?_
  obtain ⟨y41,hy41,hP⟩:=bind_some hP
  refine aN hF rfl rfl rfl (aO (xs:=[.tmp 6,.tmp 8]) Tryz.call43 hF rfl rfl (dL hy41 hM (Bf:=Bf) (fun w hM=>hsub _ (dropM hM 2)) f2 f8) fun v w hR=>?_)
  obtain ⟨rfl,hM⟩:=hR
  replace hM:MemL _ (pt c1 (RInput.enc (RInput.mk s7 s9)) 30 :: pt c0 (RInput.enc (RInput.mk s1 s3)) 30 :: Lr):=hM
  intro a hF
  refine aA hF (aF hF rfl rfl) rfl rfl rfl fun a hF=>?_
  refine aZ 10 hF rfl (fun hb42=>?_) (fun hb42=>?_)
  ·have hP:=Fx.cT hb42 hP
   refine aK hF rfl rfl rfl hb42 (aD (off':=1) Tryz.underlying30 rfl in28 rfl hF rfl rfl rfl) rfl rfl fun a hF=>?_
   refine aK hF rfl rfl rfl hb42 (aJ Tryz.isAgg28 hF rfl rfl (hM.cell (i:=1) rfl (RInput.g_tables _))) rfl rfl fun a hF=>?_
   refine aK hF rfl rfl rfl hb42 (aD (off':=1) Tryz.underlying30 rfl in28 rfl hF rfl rfl rfl) rfl rfl fun a hF=>?_
   refine aK hF rfl rfl rfl hb42 (aJ Tryz.isAgg28 hF rfl rfl (hM.cell (i:=0) rfl (RInput.g_tables _))) rfl rfl fun a hF=>?_
   obtain ⟨y44,hy44,hP⟩:=bind_some hP
   refine dX hF rfl rfl rfl hb42 rfl rfl (aO (xs:=[.tmp 12,.tmp 14]) Tryz.call64 hF rfl rfl (iG hy44 hM (Bf:=Bf) (fun w hM=>hsub _ (dropM hM 2)) f5 q6 f11 q12) fun v w hR=>?_)
   obtain ⟨rfl,hM⟩:=hR
   replace hM:MemL _ (pt c1 (RInput.enc (RInput.mk s7 s9)) 30 :: pt c0 (RInput.enc (RInput.mk s1 s3)) 30 :: Lr):=hM
   intro a hF
   refine aA hF (aP hF rfl rfl hb42 rfl) rfl rfl rfl fun a hF=>?_
   refine aA hF (aG hF rfl rfl) rfl rfl rfl fun a hF=>?_
   refine aI (aB ?_)
   have hP:=Option.some.inj hP
   subst hP
   exact ⟨y44,rfl,hF.to ⟨rfl,trivial⟩,selM hM [] 2 rfl⟩
  have hP:=Fx.cF hb42 hP
  refine aE hF rfl rfl rfl hb42 rfl rfl fun a hF=>?_
  refine aE hF rfl rfl rfl hb42 rfl rfl fun a hF=>?_
  refine aE hF rfl rfl rfl hb42 rfl rfl fun a hF=>?_
  refine aE hF rfl rfl rfl hb42 rfl rfl fun a hF=>?_
  refine aE hF rfl rfl rfl hb42 rfl rfl fun a hF=>?_
  refine aA hF (aQ hF rfl rfl hb42 rfl) rfl rfl rfl fun a hF=>?_
  refine aA hF (aG hF rfl rfl) rfl rfl rfl fun a hF=>?_
  refine aI (aB ?_)
  have hP:=Option.some.inj hP
  subst hP
  exact ⟨false,rfl,hF.to ⟨rfl,trivial⟩,selM hM [] 2 rfl⟩
 rintro v39 a w hP ⟨hF,hM⟩
 replace hP:Sh.fM v39 = _:=hP
 unfold Sh.fM at hP
 refine aB ?_
 refine c_ret ?_
 have hP:=Option.some.inj hP
 subst hP
 refine aY Tryz.results29 hF rfl ?_
 exact ⟨rfl,hM⟩
set_option maxHeartbeats 4000000 in
theorem mO {x0:Int} {x1:Int} {out:Int} {w0:World} {Lr:List Res} (hP:Sh.lQ x0 x1 = some out) (hM:MemL w0 (Lr)):Calls Tryz.prog 48 #[.int .i64 x0,.int .i64 x1] w0 (Ret fun v w'=>v = .int .i64 out ∧ MemL w' (Lr)):=by
 unfold Sh.lQ at hP
 refine aM (vs:=[.int .i64 x0,.int .i64 x1]) Tryz.func48 rfl Tryz.ntmps48 rfl fun a hF=>?_
 refine aH ?_
 refine aC ?_
 refine aA hF (aG hF rfl rfl) rfl rfl rfl fun a hF=>?_
 refine aI (aB ?_)
 refine aH ?_
 refine aC ?_
 refine aA hF (aF hF rfl rfl) rfl rfl rfl fun a hF=>?_
 refine aA hF (aF hF rfl rfl) rfl rfl rfl fun a hF=>?_
 obtain ⟨hc3,hP⟩:=gA hP
 refine aA hF (aA5 hF rfl rfl rfl (of_decide_eq_true hc3)) rfl rfl rfl fun a hF=>?_
 refine aA hF (aF hF rfl rfl) rfl rfl rfl fun a hF=>?_
 refine aA hF (cA hF rfl rfl rfl) rfl rfl rfl fun a hF=>?_
 refine aA hF (aF hF rfl rfl) rfl rfl rfl fun a hF=>?_
 obtain ⟨hc4,hP⟩:=gA hP
 refine aA hF (aA5 hF rfl rfl rfl (of_decide_eq_true hc4)) rfl rfl rfl fun a hF=>?_
 refine aA hF (aG hF rfl rfl) rfl rfl rfl fun a hF=>?_
 refine aI (aB ?_)
 refine c_ret ?_
 have hP:=Option.some.inj hP
 subst hP
 refine aY Tryz.results48 hF rfl ?_
 exact ⟨rfl,hM⟩
set_option maxHeartbeats 4000000 in
theorem iH {x0:QMark} {x1:QMark} {s1:SV} {s3:SV} {s5:SV} {hs6:List RPiece} {s9:SV} {s11:SV} {s13:SV} {s15:SV} {hs16:List RPiece} {s19:SV} {out:Bool} {w0:World} {Bf:World → Prop} {Lr:List Res} (hP:Sh.fP x0 x1 = some out) (hM:MemL w0 (Lr)) (hsub:∀ w,MemL w Lr → Bf w) (f2:LIn Bf s1 x0.regs) (f4:LIn Bf s3 x0.slots) (f7:LIn Bf s5 hs6) (q8:Each (QPieceIn Bf) hs6 x0.pieces) (f10:LIn Bf s9 x0.sent) (f12:LIn Bf s11 x1.regs) (f14:LIn Bf s13 x1.slots) (f17:LIn Bf s15 hs16) (q18:Each (QPieceIn Bf) hs16 x1.pieces) (f20:LIn Bf s19 x1.sent):Calls Tryz.prog 33 #[.agg (RMark.enc (RMark.mk x0.at_ x0.next x0.done s1 s3 s5 s9)).toArray,.agg (RMark.enc (RMark.mk x1.at_ x1.next x1.done s11 s13 s15 s19)).toArray] w0 (Ret fun v w'=>v = .bool out ∧ MemL w' (Lr)):=by
 unfold Sh.fP at hP
 refine aM (vs:=[.agg (RMark.enc (RMark.mk x0.at_ x0.next x0.done s1 s3 s5 s9)).toArray,.agg (RMark.enc (RMark.mk x1.at_ x1.next x1.done s11 s13 s15 s19)).toArray]) Tryz.func33 rfl Tryz.ntmps33 rfl fun a hF=>?_
 refine aH ?_
 refine aC ?_
 refine aN hF rfl rfl rfl (dD hF rfl rfl rfl fun c0 w m0 j6=>?_)
 have hM:=hM.plus j6
 replace hM:MemL _ (pt c0 (RMark.enc (RMark.mk x0.at_ x0.next x0.done s1 s3 s5 s9)) 60 :: Lr):=hM
 intro a hF
 refine aN hF rfl rfl rfl (dD hF rfl rfl rfl fun c1 w m1 j7=>?_)
 have hM:=hM.plus j7
 replace hM:MemL _ (pt c1 (RMark.enc (RMark.mk x1.at_ x1.next x1.done s11 s13 s15 s19)) 60 :: pt c0 (RMark.enc (RMark.mk x0.at_ x0.next x0.done s1 s3 s5 s9)) 60 :: Lr):=hM
 intro a hF
 refine aA hF (aG hF rfl rfl) rfl rfl rfl fun a hF=>?_
 refine aI (aB ?_)
 refine aH ?_
 refine aH ?_
 refine aS hF hM hP (fun F x a w=>match x with | i6=>Fr 145 [(63,.bool i6),(2,.pointer (some ⟨c0,0,none⟩)),(3,.pointer (some ⟨c1,0,none⟩)),(4,.bool false)] a ∧ MemL w (pt c1 (RMark.enc (RMark.mk x1.at_ x1.next x1.done s11 s13 s15 s19)) 60 :: pt c0 (RMark.enc (RMark.mk x0.at_ x0.next x0.done s1 s3 s5 s9)) 60 :: Lr)) (fun n3 hP m6 hF hM=>?_) ?_
 ·refine aC ?_
  refine aA hF (aD (off':=0) Tryz.underlying60 rfl in3 rfl hF rfl rfl rfl) rfl rfl rfl fun a hF=>?_
  refine aA hF (aJ Tryz.isAgg3 hF rfl rfl (hM.cell (i:=1) rfl (RMark.g_at_ _))) rfl rfl rfl fun a hF=>?_
  refine aA hF (aD (off':=0) Tryz.underlying60 rfl in3 rfl hF rfl rfl rfl) rfl rfl rfl fun a hF=>?_
  refine aA hF (aJ Tryz.isAgg3 hF rfl rfl (hM.cell (i:=0) rfl (RMark.g_at_ _))) rfl rfl rfl fun a hF=>?_
  refine aA hF (cW hF rfl rfl rfl) rfl rfl rfl fun a hF=>?_
  refine aA hF (aF hF rfl rfl) rfl rfl rfl fun a hF=>?_
  refine aZ 15 hF rfl (fun c9=>?_) (fun c9=>?_)
  ·have hP:=Fx.cT c9 hP
   refine aE hF rfl rfl rfl c9 rfl rfl fun a hF=>?_
   refine aE hF rfl rfl rfl c9 rfl rfl fun a hF=>?_
   refine aE hF rfl rfl rfl c9 rfl rfl fun a hF=>?_
   refine aE hF rfl rfl rfl c9 rfl rfl fun a hF=>?_
   refine aE hF rfl rfl rfl c9 rfl rfl fun a hF=>?_
   refine aA hF (aP hF rfl rfl c9 rfl) rfl rfl rfl fun a hF=>?_
   refine aA hF (aF hF rfl rfl) rfl rfl rfl fun a hF=>?_
   refine aE hF rfl rfl rfl rfl rfl rfl fun a hF=>?_
   refine aE hF rfl rfl rfl rfl rfl rfl fun a hF=>?_
   refine aE hF rfl rfl rfl rfl rfl rfl fun a hF=>?_
   refine aE hF rfl rfl rfl rfl rfl rfl fun a hF=>?_
   refine aE hF rfl rfl rfl rfl rfl rfl fun a hF=>?_
   refine aA hF (aP hF rfl rfl rfl rfl) rfl rfl rfl fun a hF=>?_
   refine aA hF (aF hF rfl rfl) rfl rfl rfl fun a hF=>?_
   refine aE hF rfl rfl rfl rfl rfl rfl fun a hF=>?_
   refine aE hF rfl rfl rfl rfl rfl rfl fun a hF=>?_
   refine aE hF rfl rfl rfl rfl rfl rfl fun a hF=>?_
   refine aE hF rfl rfl rfl rfl rfl rfl fun a hF=>?_
   refine aE hF rfl rfl rfl rfl rfl rfl fun a hF=>?_
   refine aE hF rfl rfl rfl rfl rfl rfl fun a hF=>?_
   refine aE hF rfl rfl rfl rfl rfl rfl fun a hF=>?_
   refine aA hF (aP hF rfl rfl rfl rfl) rfl rfl rfl fun a hF=>?_
   refine aA hF (aF hF rfl rfl) rfl rfl rfl fun a hF=>?_
   refine aE hF rfl rfl rfl rfl rfl rfl fun a hF=>?_
   refine aE hF rfl rfl rfl rfl rfl rfl fun a hF=>?_
   refine aE hF rfl rfl rfl rfl rfl rfl fun a hF=>?_
   refine aE hF rfl rfl rfl rfl rfl rfl fun a hF=>?_
   refine aE hF rfl rfl rfl rfl rfl rfl fun a hF=>?_
   refine aE hF rfl rfl rfl rfl rfl rfl fun a hF=>?_
   refine aE hF rfl rfl rfl rfl rfl rfl fun a hF=>?_
   refine aA hF (aP hF rfl rfl rfl rfl) rfl rfl rfl fun a hF=>?_
   refine aA hF (aF hF rfl rfl) rfl rfl rfl fun a hF=>?_
   refine aE hF rfl rfl rfl rfl rfl rfl fun a hF=>?_
   refine aE hF rfl rfl rfl rfl rfl rfl fun a hF=>?_
   refine aE hF rfl rfl rfl rfl rfl rfl fun a hF=>?_
   refine aE hF rfl rfl rfl rfl rfl rfl fun a hF=>?_
   refine aE hF rfl rfl rfl rfl rfl rfl fun a hF=>?_
   refine aE hF rfl rfl rfl rfl rfl rfl fun a hF=>?_
   refine aE hF rfl rfl rfl rfl rfl rfl fun a hF=>?_
   refine aA hF (aP hF rfl rfl rfl rfl) rfl rfl rfl fun a hF=>?_
   refine aA hF (aF hF rfl rfl) rfl rfl rfl fun a hF=>?_
   refine aE hF rfl rfl rfl rfl rfl rfl fun a hF=>?_
   refine aE hF rfl rfl rfl rfl rfl rfl fun a hF=>?_
   refine aE hF rfl rfl rfl rfl rfl rfl fun a hF=>?_
   refine aE hF rfl rfl rfl rfl rfl rfl fun a hF=>?_
   refine aE hF rfl rfl rfl rfl rfl rfl fun a hF=>?_
   refine aE hF rfl rfl rfl rfl rfl rfl fun a hF=>?_
   refine aA hF (aP hF rfl rfl rfl rfl) rfl rfl rfl fun a hF=>?_
   refine aI (aB ?_)
   have hP:=Option.some.inj hP
   subst hP
   exact ⟨true,rfl,hF.to ⟨rfl,rfl,rfl,rfl,trivial⟩,hM⟩
  have hP:=Fx.cF c9 hP
  refine aK hF rfl rfl rfl c9 (aD (off':=1) Tryz.underlying60 rfl in3 rfl hF rfl rfl rfl) rfl rfl fun a hF=>?_
  refine aK hF rfl rfl rfl c9 (aJ Tryz.isAgg3 hF rfl rfl (hM.cell (i:=1) rfl (RMark.g_next _))) rfl rfl fun a hF=>?_
  refine aK hF rfl rfl rfl c9 (aD (off':=1) Tryz.underlying60 rfl in3 rfl hF rfl rfl rfl) rfl rfl fun a hF=>?_
  refine aK hF rfl rfl rfl c9 (aJ Tryz.isAgg3 hF rfl rfl (hM.cell (i:=0) rfl (RMark.g_next _))) rfl rfl fun a hF=>?_
  refine aK hF rfl rfl rfl c9 (cW hF rfl rfl rfl) rfl rfl fun a hF=>?_
  refine aA hF (aQ hF rfl rfl c9 rfl) rfl rfl rfl fun a hF=>?_
  refine aA hF (aF hF rfl rfl) rfl rfl rfl fun a hF=>?_
  refine aZ 22 hF rfl (fun d0=>?_) (fun d0=>?_)
  ·have hP:=Fx.cT d0 hP
   refine aE hF rfl rfl rfl d0 rfl rfl fun a hF=>?_
   refine aE hF rfl rfl rfl d0 rfl rfl fun a hF=>?_
   refine aE hF rfl rfl rfl d0 rfl rfl fun a hF=>?_
   refine aE hF rfl rfl rfl d0 rfl rfl fun a hF=>?_
   refine aE hF rfl rfl rfl d0 rfl rfl fun a hF=>?_
   refine aA hF (aP hF rfl rfl d0 rfl) rfl rfl rfl fun a hF=>?_
   refine aA hF (aF hF rfl rfl) rfl rfl rfl fun a hF=>?_
   refine aE hF rfl rfl rfl rfl rfl rfl fun a hF=>?_
   refine aE hF rfl rfl rfl rfl rfl rfl fun a hF=>?_
   refine aE hF rfl rfl rfl rfl rfl rfl fun a hF=>?_
   refine aE hF rfl rfl rfl rfl rfl rfl fun a hF=>?_
   refine aE hF rfl rfl rfl rfl rfl rfl fun a hF=>?_
   refine aE hF rfl rfl rfl rfl rfl rfl fun a hF=>?_
   refine aE hF rfl rfl rfl rfl rfl rfl fun a hF=>?_
   refine aA hF (aP hF rfl rfl rfl rfl) rfl rfl rfl fun a hF=>?_
   refine aA hF (aF hF rfl rfl) rfl rfl rfl fun a hF=>?_
   refine aE hF rfl rfl rfl rfl rfl rfl fun a hF=>?_
   refine aE hF rfl rfl rfl rfl rfl rfl fun a hF=>?_
   refine aE hF rfl rfl rfl rfl rfl rfl fun a hF=>?_
   refine aE hF rfl rfl rfl rfl rfl rfl fun a hF=>?_
   refine aE hF rfl rfl rfl rfl rfl rfl fun a hF=>?_
   refine aE hF rfl rfl rfl rfl rfl rfl fun a hF=>?_
   refine aE hF rfl rfl rfl rfl rfl rfl fun a hF=>?_
   refine aA hF (aP hF rfl rfl rfl rfl) rfl rfl rfl fun a hF=>?_
   refine aA hF (aF hF rfl rfl) rfl rfl rfl fun a hF=>?_
   refine aE hF rfl rfl rfl rfl rfl rfl fun a hF=>?_
   refine aE hF rfl rfl rfl rfl rfl rfl fun a hF=>?_
   refine aE hF rfl rfl rfl rfl rfl rfl fun a hF=>?_
   refine aE hF rfl rfl rfl rfl rfl rfl fun a hF=>?_
   refine aE hF rfl rfl rfl rfl rfl rfl fun a hF=>?_
   refine aE hF rfl rfl rfl rfl rfl rfl fun a hF=>?_
   refine aE hF rfl rfl rfl rfl rfl rfl fun a hF=>?_
   refine aA hF (aP hF rfl rfl rfl rfl) rfl rfl rfl fun a hF=>?_
   refine aA hF (aF hF rfl rfl) rfl rfl rfl fun a hF=>?_
   refine aE hF rfl rfl rfl rfl rfl rfl fun a hF=>?_
   refine aE hF rfl rfl rfl rfl rfl rfl fun a hF=>?_
   refine aE hF rfl rfl rfl rfl rfl rfl fun a hF=>?_
   refine aE hF rfl rfl rfl rfl rfl rfl fun a hF=>?_
   refine aE hF rfl rfl rfl rfl rfl rfl fun a hF=>?_
   refine aE hF rfl rfl rfl rfl rfl rfl fun a hF=>?_
   refine aA hF (aP hF rfl rfl rfl rfl) rfl rfl rfl fun a hF=>?_
   refine aI (aB ?_)
   have hP:=Option.some.inj hP
   subst hP
   exact ⟨true,rfl,hF.to ⟨rfl,rfl,rfl,rfl,trivial⟩,hM⟩
  have hP:=Fx.cF d0 hP
  refine aK hF rfl rfl rfl d0 (aD (off':=2) Tryz.underlying60 rfl in4 rfl hF rfl rfl rfl) rfl rfl fun a hF=>?_
  refine aK hF rfl rfl rfl d0 (aJ Tryz.isAgg4 hF rfl rfl (hM.cell (i:=1) rfl (RMark.g_done _))) rfl rfl fun a hF=>?_
  refine aK hF rfl rfl rfl d0 (aD (off':=2) Tryz.underlying60 rfl in4 rfl hF rfl rfl rfl) rfl rfl fun a hF=>?_
  refine aK hF rfl rfl rfl d0 (aJ Tryz.isAgg4 hF rfl rfl (hM.cell (i:=0) rfl (RMark.g_done _))) rfl rfl fun a hF=>?_
  refine aK hF rfl rfl rfl d0 (aBm Tryz.underlying4 hF rfl rfl rfl) rfl rfl fun a hF=>?_
  refine aA hF (aQ hF rfl rfl d0 rfl) rfl rfl rfl fun a hF=>?_
  refine aA hF (aF hF rfl rfl) rfl rfl rfl fun a hF=>?_
  refine aZ 29 hF rfl (fun c2=>?_) (fun c2=>?_)
  ·have hP:=Fx.cT c2 hP
   refine aE hF rfl rfl rfl c2 rfl rfl fun a hF=>?_
   refine aE hF rfl rfl rfl c2 rfl rfl fun a hF=>?_
   refine aE hF rfl rfl rfl c2 rfl rfl fun a hF=>?_
   refine aE hF rfl rfl rfl c2 rfl rfl fun a hF=>?_
   refine aE hF rfl rfl rfl c2 rfl rfl fun a hF=>?_
   refine aE hF rfl rfl rfl c2 rfl rfl fun a hF=>?_
   refine aE hF rfl rfl rfl c2 rfl rfl fun a hF=>?_
   refine aA hF (aP hF rfl rfl c2 rfl) rfl rfl rfl fun a hF=>?_
   refine aA hF (aF hF rfl rfl) rfl rfl rfl fun a hF=>?_
   refine aE hF rfl rfl rfl rfl rfl rfl fun a hF=>?_
   refine aE hF rfl rfl rfl rfl rfl rfl fun a hF=>?_
   refine aE hF rfl rfl rfl rfl rfl rfl fun a hF=>?_
   refine aE hF rfl rfl rfl rfl rfl rfl fun a hF=>?_
   refine aE hF rfl rfl rfl rfl rfl rfl fun a hF=>?_
   refine aE hF rfl rfl rfl rfl rfl rfl fun a hF=>?_
   refine aE hF rfl rfl rfl rfl rfl rfl fun a hF=>?_
   refine aA hF (aP hF rfl rfl rfl rfl) rfl rfl rfl fun a hF=>?_
   refine aA hF (aF hF rfl rfl) rfl rfl rfl fun a hF=>?_
   refine aE hF rfl rfl rfl rfl rfl rfl fun a hF=>?_
   refine aE hF rfl rfl rfl rfl rfl rfl fun a hF=>?_
   refine aE hF rfl rfl rfl rfl rfl rfl fun a hF=>?_
   refine aE hF rfl rfl rfl rfl rfl rfl fun a hF=>?_
   refine aE hF rfl rfl rfl rfl rfl rfl fun a hF=>?_
   refine aE hF rfl rfl rfl rfl rfl rfl fun a hF=>?_
   refine aE hF rfl rfl rfl rfl rfl rfl fun a hF=>?_
   refine aA hF (aP hF rfl rfl rfl rfl) rfl rfl rfl fun a hF=>?_
   refine aA hF (aF hF rfl rfl) rfl rfl rfl fun a hF=>?_
   refine aE hF rfl rfl rfl rfl rfl rfl fun a hF=>?_
   refine aE hF rfl rfl rfl rfl rfl rfl fun a hF=>?_
   refine aE hF rfl rfl rfl rfl rfl rfl fun a hF=>?_
   refine aE hF rfl rfl rfl rfl rfl rfl fun a hF=>?_
   refine aE hF rfl rfl rfl rfl rfl rfl fun a hF=>?_
   refine aE hF rfl rfl rfl rfl rfl rfl fun a hF=>?_
   refine aA hF (aP hF rfl rfl rfl rfl) rfl rfl rfl fun a hF=>?_
   refine aI (aB ?_)
   have hP:=Option.some.inj hP
   subst hP
   exact ⟨true,rfl,hF.to ⟨rfl,rfl,rfl,rfl,trivial⟩,hM⟩
  have hP:=Fx.cF c2 hP
  refine aK hF rfl rfl rfl c2 (aD (off':=3) Tryz.underlying60 rfl in56 rfl hF rfl rfl rfl) rfl rfl fun a hF=>?_
  refine aK hF rfl rfl rfl c2 (aJ Tryz.isAgg56 hF rfl rfl (hM.cell (i:=1) rfl (RMark.g_regs _))) rfl rfl fun a hF=>?_
  refine aK hF rfl rfl rfl c2 (bG (f2 _ (hsub _ (dropM hM 2))) Tryz.underlying56 hF rfl rfl) rfl rfl fun a hF=>?_
  refine aK hF rfl rfl rfl c2 (aD (off':=3) Tryz.underlying60 rfl in56 rfl hF rfl rfl rfl) rfl rfl fun a hF=>?_
  refine aK hF rfl rfl rfl c2 (aJ Tryz.isAgg56 hF rfl rfl (hM.cell (i:=0) rfl (RMark.g_regs _))) rfl rfl fun a hF=>?_
  refine aK hF rfl rfl rfl c2 (bG (f12 _ (hsub _ (dropM hM 2))) Tryz.underlying56 hF rfl rfl) rfl rfl fun a hF=>?_
  refine aK hF rfl rfl rfl c2 (cW hF rfl rfl rfl) rfl rfl fun a hF=>?_
  refine aA hF (aQ hF rfl rfl c2 rfl) rfl rfl rfl fun a hF=>?_
  refine aA hF (aF hF rfl rfl) rfl rfl rfl fun a hF=>?_
  refine aZ 38 hF rfl (fun c3=>?_) (fun c3=>?_)
  ·have hP:=Fx.cT c3 hP
   refine aE hF rfl rfl rfl c3 rfl rfl fun a hF=>?_
   refine aE hF rfl rfl rfl c3 rfl rfl fun a hF=>?_
   refine aE hF rfl rfl rfl c3 rfl rfl fun a hF=>?_
   refine aE hF rfl rfl rfl c3 rfl rfl fun a hF=>?_
   refine aE hF rfl rfl rfl c3 rfl rfl fun a hF=>?_
   refine aE hF rfl rfl rfl c3 rfl rfl fun a hF=>?_
   refine aE hF rfl rfl rfl c3 rfl rfl fun a hF=>?_
   refine aA hF (aP hF rfl rfl c3 rfl) rfl rfl rfl fun a hF=>?_
   refine aA hF (aF hF rfl rfl) rfl rfl rfl fun a hF=>?_
   refine aE hF rfl rfl rfl rfl rfl rfl fun a hF=>?_
   refine aE hF rfl rfl rfl rfl rfl rfl fun a hF=>?_
   refine aE hF rfl rfl rfl rfl rfl rfl fun a hF=>?_
   refine aE hF rfl rfl rfl rfl rfl rfl fun a hF=>?_
   refine aE hF rfl rfl rfl rfl rfl rfl fun a hF=>?_
   refine aE hF rfl rfl rfl rfl rfl rfl fun a hF=>?_
   refine aE hF rfl rfl rfl rfl rfl rfl fun a hF=>?_
   refine aA hF (aP hF rfl rfl rfl rfl) rfl rfl rfl fun a hF=>?_
   refine aA hF (aF hF rfl rfl) rfl rfl rfl fun a hF=>?_
   refine aE hF rfl rfl rfl rfl rfl rfl fun a hF=>?_
   refine aE hF rfl rfl rfl rfl rfl rfl fun a hF=>?_
   refine aE hF rfl rfl rfl rfl rfl rfl fun a hF=>?_
   refine aE hF rfl rfl rfl rfl rfl rfl fun a hF=>?_
   refine aE hF rfl rfl rfl rfl rfl rfl fun a hF=>?_
   refine aE hF rfl rfl rfl rfl rfl rfl fun a hF=>?_
   refine aA hF (aP hF rfl rfl rfl rfl) rfl rfl rfl fun a hF=>?_
   refine aI (aB ?_)
   have hP:=Option.some.inj hP
   subst hP
   exact ⟨true,rfl,hF.to ⟨rfl,rfl,rfl,rfl,trivial⟩,hM⟩
  have hP:=Fx.cF c3 hP
  refine aK hF rfl rfl rfl c3 (aD (off':=4) Tryz.underlying60 rfl in57 rfl hF rfl rfl rfl) rfl rfl fun a hF=>?_
  refine aK hF rfl rfl rfl c3 (aJ Tryz.isAgg57 hF rfl rfl (hM.cell (i:=1) rfl (RMark.g_slots _))) rfl rfl fun a hF=>?_
  refine aK hF rfl rfl rfl c3 (bG (f4 _ (hsub _ (dropM hM 2))) Tryz.underlying57 hF rfl rfl) rfl rfl fun a hF=>?_
  refine aK hF rfl rfl rfl c3 (aD (off':=4) Tryz.underlying60 rfl in57 rfl hF rfl rfl rfl) rfl rfl fun a hF=>?_
  refine aK hF rfl rfl rfl c3 (aJ Tryz.isAgg57 hF rfl rfl (hM.cell (i:=0) rfl (RMark.g_slots _))) rfl rfl fun a hF=>?_
  refine aK hF rfl rfl rfl c3 (bG (f14 _ (hsub _ (dropM hM 2))) Tryz.underlying57 hF rfl rfl) rfl rfl fun a hF=>?_
  refine aK hF rfl rfl rfl c3 (cW hF rfl rfl rfl) rfl rfl fun a hF=>?_
  refine aA hF (aQ hF rfl rfl c3 rfl) rfl rfl rfl fun a hF=>?_
  refine aA hF (aF hF rfl rfl) rfl rfl rfl fun a hF=>?_
  refine aZ 47 hF rfl (fun c4=>?_) (fun c4=>?_)
  ·have hP:=Fx.cT c4 hP
   refine aE hF rfl rfl rfl c4 rfl rfl fun a hF=>?_
   refine aE hF rfl rfl rfl c4 rfl rfl fun a hF=>?_
   refine aE hF rfl rfl rfl c4 rfl rfl fun a hF=>?_
   refine aE hF rfl rfl rfl c4 rfl rfl fun a hF=>?_
   refine aE hF rfl rfl rfl c4 rfl rfl fun a hF=>?_
   refine aE hF rfl rfl rfl c4 rfl rfl fun a hF=>?_
   refine aE hF rfl rfl rfl c4 rfl rfl fun a hF=>?_
   refine aA hF (aP hF rfl rfl c4 rfl) rfl rfl rfl fun a hF=>?_
   refine aA hF (aF hF rfl rfl) rfl rfl rfl fun a hF=>?_
   refine aE hF rfl rfl rfl rfl rfl rfl fun a hF=>?_
   refine aE hF rfl rfl rfl rfl rfl rfl fun a hF=>?_
   refine aE hF rfl rfl rfl rfl rfl rfl fun a hF=>?_
   refine aE hF rfl rfl rfl rfl rfl rfl fun a hF=>?_
   refine aE hF rfl rfl rfl rfl rfl rfl fun a hF=>?_
   refine aE hF rfl rfl rfl rfl rfl rfl fun a hF=>?_
   refine aA hF (aP hF rfl rfl rfl rfl) rfl rfl rfl fun a hF=>?_
   refine aI (aB ?_)
   have hP:=Option.some.inj hP
   subst hP
   exact ⟨true,rfl,hF.to ⟨rfl,rfl,rfl,rfl,trivial⟩,hM⟩
  have hP:=Fx.cF c4 hP
  refine aK hF rfl rfl rfl c4 (aD (off':=5) Tryz.underlying60 rfl in58 rfl hF rfl rfl rfl) rfl rfl fun a hF=>?_
  refine aK hF rfl rfl rfl c4 (aJ Tryz.isAgg58 hF rfl rfl (hM.cell (i:=1) rfl (RMark.g_pieces _))) rfl rfl fun a hF=>?_
  refine aK hF rfl rfl rfl c4 (cV (f7 _ (hsub _ (dropM hM 2))) q8.len Tryz.underlying58 hF rfl rfl) rfl rfl fun a hF=>?_
  refine aK hF rfl rfl rfl c4 (aD (off':=5) Tryz.underlying60 rfl in58 rfl hF rfl rfl rfl) rfl rfl fun a hF=>?_
  refine aK hF rfl rfl rfl c4 (aJ Tryz.isAgg58 hF rfl rfl (hM.cell (i:=0) rfl (RMark.g_pieces _))) rfl rfl fun a hF=>?_
  refine aK hF rfl rfl rfl c4 (cV (f17 _ (hsub _ (dropM hM 2))) q18.len Tryz.underlying58 hF rfl rfl) rfl rfl fun a hF=>?_
  refine aK hF rfl rfl rfl c4 (cW hF rfl rfl rfl) rfl rfl fun a hF=>?_
  refine aA hF (aQ hF rfl rfl c4 rfl) rfl rfl rfl fun a hF=>?_
  refine aA hF (aF hF rfl rfl) rfl rfl rfl fun a hF=>?_
  refine aZ 56 hF rfl (fun c5=>?_) (fun c5=>?_)
  ·have hP:=Fx.cT c5 hP
   refine aE hF rfl rfl rfl c5 rfl rfl fun a hF=>?_
   refine aE hF rfl rfl rfl c5 rfl rfl fun a hF=>?_
   refine aE hF rfl rfl rfl c5 rfl rfl fun a hF=>?_
   refine aE hF rfl rfl rfl c5 rfl rfl fun a hF=>?_
   refine aE hF rfl rfl rfl c5 rfl rfl fun a hF=>?_
   refine aE hF rfl rfl rfl c5 rfl rfl fun a hF=>?_
   refine aA hF (aP hF rfl rfl c5 rfl) rfl rfl rfl fun a hF=>?_
   refine aI (aB ?_)
   have hP:=Option.some.inj hP
   subst hP
   exact ⟨true,rfl,hF.to ⟨rfl,rfl,rfl,rfl,trivial⟩,hM⟩
  have hP:=Fx.cF c5 hP
  refine aK hF rfl rfl rfl c5 (aD (off':=6) Tryz.underlying60 rfl in52 rfl hF rfl rfl rfl) rfl rfl fun a hF=>?_
  refine aK hF rfl rfl rfl c5 (aJ Tryz.isAgg52 hF rfl rfl (hM.cell (i:=1) rfl (RMark.g_sent _))) rfl rfl fun a hF=>?_
  refine aK hF rfl rfl rfl c5 (aD (off':=6) Tryz.underlying60 rfl in52 rfl hF rfl rfl rfl) rfl rfl fun a hF=>?_
  refine aK hF rfl rfl rfl c5 (aJ Tryz.isAgg52 hF rfl rfl (hM.cell (i:=0) rfl (RMark.g_sent _))) rfl rfl fun a hF=>?_
  obtain ⟨l8,k8,hP⟩:=bind_some hP
  refine dX hF rfl rfl rfl c5 rfl rfl (aO (xs:=[.tmp 58,.tmp 60]) Tryz.call89 hF rfl rfl (iF k8 hM (Bf:=Bf) (fun w hM=>hsub _ (dropM hM 2)) f10 f20) fun v w hR=>?_)
  obtain ⟨rfl,hM⟩:=hR
  replace hM:MemL _ (pt c1 (RMark.enc (RMark.mk x1.at_ x1.next x1.done s11 s13 s15 s19)) 60 :: pt c0 (RMark.enc (RMark.mk x0.at_ x0.next x0.done s1 s3 s5 s9)) 60 :: Lr):=hM
  intro a hF
  refine aK hF rfl rfl rfl c5 (dJ hF rfl rfl) rfl rfl fun a hF=>?_
  refine aA hF (aQ hF rfl rfl c5 rfl) rfl rfl rfl fun a hF=>?_
  refine aI (aB ?_)
  have hP:=Option.some.inj hP
  subst hP
  exact ⟨(!l8),rfl,hF.to ⟨rfl,rfl,rfl,rfl,trivial⟩,hM⟩
 rintro i6 a w hP ⟨hF,hM⟩
 replace hP:Sh.bE x0 x1 i6 = _:=hP
 unfold Sh.bE at hP
 refine aB ?_
 refine aR hF (c:=.tmp 63) rfl (fun g0=>?_) (fun g0=>?_)
 ·have hP:=Fx.cT g0 hP
  refine aH ?_
  refine aC ?_
  refine aA hF (aG hF rfl rfl) rfl rfl rfl fun a hF=>?_
  refine aI (aB ?_)
  refine c_ret ?_
  have hP:=Option.some.inj hP
  subst hP
  refine aY Tryz.results33 hF rfl ?_
  exact ⟨rfl,selM hM [] 2 rfl⟩
 have hP:=Fx.cF g0 hP
 refine aT (aB ?_)
 refine aH ?_
 refine aS hF hM hP (fun F x a w=>match x with | _=>Fr 145 [(2,.pointer (some ⟨c0,0,none⟩)),(3,.pointer (some ⟨c1,0,none⟩)),(4,.bool false)] a ∧ MemL w (pt c1 (RMark.enc (RMark.mk x1.at_ x1.next x1.done s11 s13 s15 s19)) 60 :: pt c0 (RMark.enc (RMark.mk x0.at_ x0.next x0.done s1 s3 s5 s9)) 60 :: Lr)) (fun n4 hP l5 hF hM=>?_) ?_
 ·refine aH ?_
  refine aC ?_
  refine aA hF (aG hF rfl rfl) rfl rfl rfl fun a hF=>?_
  refine aI (aB ?_)
  refine aV ?_
  refine bN hF hM hP (fun F x a w=>match x with | d8=>Fr 145 [(5,.int .i64 d8),(2,.pointer (some ⟨c0,0,none⟩)),(3,.pointer (some ⟨c1,0,none⟩)),(4,.bool false)] a ∧ MemL w (pt c1 (RMark.enc (RMark.mk x1.at_ x1.next x1.done s11 s13 s15 s19)) 60 :: pt c0 (RMark.enc (RMark.mk x0.at_ x0.next x0.done s1 s3 s5 s9)) 60 :: Lr)) (fun hF hM=>⟨hF.to ⟨rfl,rfl,rfl,rfl,trivial⟩,hM⟩) ?_
  rintro d8 a w n8 hP i7 ⟨hF,hM⟩
  replace hP:Sh.dA x0 x1 d8 = _:=hP
  unfold Sh.dA at hP
  refine aH ?_
  refine aH ?_
  refine aC ?_
  refine aA hF (aF hF rfl rfl) rfl rfl rfl fun a hF=>?_
  refine aA hF (aD (off':=3) Tryz.underlying60 rfl in56 rfl hF rfl rfl rfl) rfl rfl rfl fun a hF=>?_
  refine aA hF (aJ Tryz.isAgg56 hF rfl rfl (hM.cell (i:=1) rfl (RMark.g_regs _))) rfl rfl rfl fun a hF=>?_
  refine aA hF (bG (f2 _ (hsub _ (dropM hM 2))) Tryz.underlying56 hF rfl rfl) rfl rfl rfl fun a hF=>?_
  refine aA hF (cH hF rfl rfl rfl) rfl rfl rfl fun a hF=>?_
  refine aI (aB ?_)
  refine aR hF (c:=.tmp 68) rfl (fun g1=>?_) (fun g1=>?_)
  ·have hP:=Fx.cT g1 hP
   refine aT (aB ?_)
   refine aH ?_
   refine aV ?_
   refine aH ?_
   refine bQ mixed (by kernel_rfl) hM [0,1] 2 rfl fun hch=>?_
   refine aL hF hch 0 rfl (by kernel_rfl) rfl rfl rfl (fun w hM=>(aD (off':=3) Tryz.underlying60 rfl in56 rfl hF rfl rfl rfl)) fun a hF=>?_
   refine aL hF hch 1 rfl (by kernel_rfl) rfl rfl rfl (fun w hM=>(aJ Tryz.isAgg56 hF rfl rfl (hM.cell (i:=1) rfl (RMark.g_regs _)))) fun a hF=>?_
   refine aL hF hch 2 rfl (by kernel_rfl) rfl rfl rfl (fun w hM=>(aF hF rfl rfl)) fun a hF=>?_
   obtain ⟨m8,i0,hP⟩:=bind_some hP
   have j0:=aW i0
   refine aL hF hch 3 rfl (by kernel_rfl) rfl rfl rfl (fun w hM=>(bC (sz:=9) (f2 _ (hsub _ (dropM hM 2))) Tryz.underlying56 in128 rfl hF rfl rfl rfl (bK i0))) fun a hF=>?_
   refine aL hF hch 4 rfl (by kernel_rfl) rfl rfl rfl (fun w hM=>(bB Tryz.isAgg128 Tryz.sizeOf128 hF rfl rfl (LTurn.len _) (((f2 _ (hsub _ (dropM hM 2))).elemS j0.2)))) fun a hF=>?_
   refine aL hF hch 5 rfl (by kernel_rfl) rfl rfl rfl (fun w hM=>(aD (off':=3) Tryz.underlying60 rfl in56 rfl hF rfl rfl rfl)) fun a hF=>?_
   refine aL hF hch 6 rfl (by kernel_rfl) rfl rfl rfl (fun w hM=>(aJ Tryz.isAgg56 hF rfl rfl (hM.cell (i:=0) rfl (RMark.g_regs _)))) fun a hF=>?_
   refine aL hF hch 7 rfl (by kernel_rfl) rfl rfl rfl (fun w hM=>(aF hF rfl rfl)) fun a hF=>?_
   obtain ⟨m9,i1,hP⟩:=bind_some hP
   have j1:=aW i1
   refine aL hF hch 8 rfl (by kernel_rfl) rfl rfl rfl (fun w hM=>(bC (sz:=9) (f12 _ (hsub _ (dropM hM 2))) Tryz.underlying56 in128 rfl hF rfl rfl rfl (bK i1))) fun a hF=>?_
   refine aL hF hch 9 rfl (by kernel_rfl) rfl rfl rfl (fun w hM=>(bB Tryz.isAgg128 Tryz.sizeOf128 hF rfl rfl (LTurn.len _) (((f12 _ (hsub _ (dropM hM 2))).elemS j1.2)))) fun a hF=>?_
   refine aL hF hch 10 rfl (by kernel_rfl) rfl rfl rfl (fun w hM=>(kI Tryz.eqGuardType128 (xI _ _ _ _ (by decide)) hF rfl rfl rfl)) fun a hF=>?_
   refine cI hch (by kernel_rfl) fun w hM=>?_
   refine aB ?_
   refine aR hF (c:=.tmp 81) rfl (fun g2=>?_) (fun g2=>?_)
   ·have hP:=Fx.cT g2 hP
    refine aH ?_
    refine aC ?_
    refine aA hF (aG hF rfl rfl) rfl rfl rfl fun a hF=>?_
    refine aI (aB ?_)
    refine c_ret ?_
    have hP:=Option.some.inj hP
    subst hP
    have hP:=i7 _ rfl
    subst hP
    have hP:=cL l5
    subst hP
    refine aY Tryz.results33 hF rfl ?_
    exact ⟨rfl,selM hM [] 2 rfl⟩
   have hP:=Fx.cF g2 hP
   refine aT (bI (aB ?_))
   refine aC ?_
   refine aA hF (aF hF rfl rfl) rfl rfl rfl fun a hF=>?_
   refine aA hF (cA hF rfl rfl rfl) rfl rfl rfl fun a hF=>?_
   refine aA hF (aG hF rfl rfl) rfl rfl rfl fun a hF=>?_
   refine aI (aB ?_)
   have hP:=Option.some.inj hP
   subst hP
   exact ⟨(IntKind.i64.wrap (d8 + 1)),rfl,hF.to ⟨rfl,rfl,rfl,rfl,trivial⟩,hM⟩
  have hP:=Fx.cF g1 hP
  refine bW (bD (bD (cG ?_)))
  refine aB ?_
  have hP:=Option.some.inj hP
  subst hP
  have hP:=i7 _ rfl
  subst hP
  exact ⟨(),rfl,hF.to ⟨rfl,rfl,rfl,trivial⟩,hM⟩
 rintro ⟨⟩ a w hP ⟨hF,hM⟩
 replace hP:Sh.gK x0 x1 = _:=hP
 unfold Sh.gK at hP
 refine aB ?_
 refine aH ?_
 refine aS hF hM hP (fun F x a w=>match x with | _=>Fr 145 [(2,.pointer (some ⟨c0,0,none⟩)),(3,.pointer (some ⟨c1,0,none⟩)),(4,.bool false)] a ∧ MemL w (pt c1 (RMark.enc (RMark.mk x1.at_ x1.next x1.done s11 s13 s15 s19)) 60 :: pt c0 (RMark.enc (RMark.mk x0.at_ x0.next x0.done s1 s3 s5 s9)) 60 :: Lr)) (fun n5 hP l6 hF hM=>?_) ?_
 ·refine aH ?_
  refine aC ?_
  refine aA hF (aG hF rfl rfl) rfl rfl rfl fun a hF=>?_
  refine aI (aB ?_)
  refine aV ?_
  refine bN hF hM hP (fun F x a w=>match x with | d9=>Fr 145 [(6,.int .i64 d9),(2,.pointer (some ⟨c0,0,none⟩)),(3,.pointer (some ⟨c1,0,none⟩)),(4,.bool false)] a ∧ MemL w (pt c1 (RMark.enc (RMark.mk x1.at_ x1.next x1.done s11 s13 s15 s19)) 60 :: pt c0 (RMark.enc (RMark.mk x0.at_ x0.next x0.done s1 s3 s5 s9)) 60 :: Lr)) (fun hF hM=>⟨hF.to ⟨rfl,rfl,rfl,rfl,trivial⟩,hM⟩) ?_
  rintro d9 a w n9 hP i8 ⟨hF,hM⟩
  replace hP:Sh.dB x0 x1 d9 = _:=hP
  unfold Sh.dB at hP
  refine aH ?_
  refine aH ?_
  refine aC ?_
  refine aA hF (aF hF rfl rfl) rfl rfl rfl fun a hF=>?_
  refine aA hF (aD (off':=4) Tryz.underlying60 rfl in57 rfl hF rfl rfl rfl) rfl rfl rfl fun a hF=>?_
  refine aA hF (aJ Tryz.isAgg57 hF rfl rfl (hM.cell (i:=1) rfl (RMark.g_slots _))) rfl rfl rfl fun a hF=>?_
  refine aA hF (bG (f4 _ (hsub _ (dropM hM 2))) Tryz.underlying57 hF rfl rfl) rfl rfl rfl fun a hF=>?_
  refine aA hF (cH hF rfl rfl rfl) rfl rfl rfl fun a hF=>?_
  refine aI (aB ?_)
  refine aR hF (c:=.tmp 86) rfl (fun g3=>?_) (fun g3=>?_)
  ·have hP:=Fx.cT g3 hP
   refine aT (aB ?_)
   refine aH ?_
   refine aV ?_
   refine aH ?_
   refine bQ mixed (by kernel_rfl) hM [0,1] 2 rfl fun hch=>?_
   refine aL hF hch 0 rfl (by kernel_rfl) rfl rfl rfl (fun w hM=>(aD (off':=4) Tryz.underlying60 rfl in57 rfl hF rfl rfl rfl)) fun a hF=>?_
   refine aL hF hch 1 rfl (by kernel_rfl) rfl rfl rfl (fun w hM=>(aJ Tryz.isAgg57 hF rfl rfl (hM.cell (i:=1) rfl (RMark.g_slots _)))) fun a hF=>?_
   refine aL hF hch 2 rfl (by kernel_rfl) rfl rfl rfl (fun w hM=>(aF hF rfl rfl)) fun a hF=>?_
   obtain ⟨n0,i2,hP⟩:=bind_some hP
   have j2:=aW i2
   refine aL hF hch 3 rfl (by kernel_rfl) rfl rfl rfl (fun w hM=>(bC (sz:=27) (f4 _ (hsub _ (dropM hM 2))) Tryz.underlying57 in151 rfl hF rfl rfl rfl (bK i2))) fun a hF=>?_
   refine aL hF hch 4 rfl (by kernel_rfl) rfl rfl rfl (fun w hM=>(bB Tryz.isAgg151 Tryz.sizeOf151 hF rfl rfl (LCell.len _) (((f4 _ (hsub _ (dropM hM 2))).elemS j2.2)))) fun a hF=>?_
   refine aL hF hch 5 rfl (by kernel_rfl) rfl rfl rfl (fun w hM=>(aD (off':=4) Tryz.underlying60 rfl in57 rfl hF rfl rfl rfl)) fun a hF=>?_
   refine aL hF hch 6 rfl (by kernel_rfl) rfl rfl rfl (fun w hM=>(aJ Tryz.isAgg57 hF rfl rfl (hM.cell (i:=0) rfl (RMark.g_slots _)))) fun a hF=>?_
   refine aL hF hch 7 rfl (by kernel_rfl) rfl rfl rfl (fun w hM=>(aF hF rfl rfl)) fun a hF=>?_
   obtain ⟨n1,i3,hP⟩:=bind_some hP
   have j3:=aW i3
   refine aL hF hch 8 rfl (by kernel_rfl) rfl rfl rfl (fun w hM=>(bC (sz:=27) (f14 _ (hsub _ (dropM hM 2))) Tryz.underlying57 in151 rfl hF rfl rfl rfl (bK i3))) fun a hF=>?_
   refine aL hF hch 9 rfl (by kernel_rfl) rfl rfl rfl (fun w hM=>(bB Tryz.isAgg151 Tryz.sizeOf151 hF rfl rfl (LCell.len _) (((f14 _ (hsub _ (dropM hM 2))).elemS j3.2)))) fun a hF=>?_
   refine aL hF hch 10 rfl (by kernel_rfl) rfl rfl rfl (fun w hM=>(kI Tryz.eqGuardType151 (xH _ _ _ _ (by decide)) hF rfl rfl rfl)) fun a hF=>?_
   refine cI hch (by kernel_rfl) fun w hM=>?_
   refine aB ?_
   refine aR hF (c:=.tmp 99) rfl (fun g4=>?_) (fun g4=>?_)
   ·have hP:=Fx.cT g4 hP
    refine aH ?_
    refine aC ?_
    refine aA hF (aG hF rfl rfl) rfl rfl rfl fun a hF=>?_
    refine aI (aB ?_)
    refine c_ret ?_
    have hP:=Option.some.inj hP
    subst hP
    have hP:=i8 _ rfl
    subst hP
    have hP:=cL l6
    subst hP
    refine aY Tryz.results33 hF rfl ?_
    exact ⟨rfl,selM hM [] 2 rfl⟩
   have hP:=Fx.cF g4 hP
   refine aT (bI (aB ?_))
   refine aC ?_
   refine aA hF (aF hF rfl rfl) rfl rfl rfl fun a hF=>?_
   refine aA hF (cA hF rfl rfl rfl) rfl rfl rfl fun a hF=>?_
   refine aA hF (aG hF rfl rfl) rfl rfl rfl fun a hF=>?_
   refine aI (aB ?_)
   have hP:=Option.some.inj hP
   subst hP
   exact ⟨(IntKind.i64.wrap (d9 + 1)),rfl,hF.to ⟨rfl,rfl,rfl,rfl,trivial⟩,hM⟩
  have hP:=Fx.cF g3 hP
  refine bW (bD (bD (cG ?_)))
  refine aB ?_
  have hP:=Option.some.inj hP
  subst hP
  have hP:=i8 _ rfl
  subst hP
  exact ⟨(),rfl,hF.to ⟨rfl,rfl,rfl,trivial⟩,hM⟩
 rintro ⟨⟩ a w hP ⟨hF,hM⟩
 replace hP:Sh.gL x0 x1 = _:=hP
 unfold Sh.gL at hP
 refine aB ?_
 refine aH ?_
 refine aS hF hM hP (fun F x a w=>match x with | _=>Fr 145 [(4,.bool false)] a ∧ MemL w (Lr)) (fun n6 hP l7 hF hM=>?_) ?_
 ·refine aH ?_
  refine aC ?_
  refine aA hF (aG hF rfl rfl) rfl rfl rfl fun a hF=>?_
  refine aI (aB ?_)
  refine aV ?_
  refine bN hF hM hP (fun F x a w=>match x with | d4=>Fr 145 [(7,.int .i64 d4),(2,.pointer (some ⟨c0,0,none⟩)),(3,.pointer (some ⟨c1,0,none⟩)),(4,.bool false)] a ∧ MemL w (pt c1 (RMark.enc (RMark.mk x1.at_ x1.next x1.done s11 s13 s15 s19)) 60 :: pt c0 (RMark.enc (RMark.mk x0.at_ x0.next x0.done s1 s3 s5 s9)) 60 :: Lr)) (fun hF hM=>⟨hF.to ⟨rfl,rfl,rfl,rfl,trivial⟩,hM⟩) ?_
  rintro d4 a w p0 hP i9 ⟨hF,hM⟩
  replace hP:Sh.dC x0 x1 d4 = _:=hP
  unfold Sh.dC at hP
  refine aH ?_
  refine aH ?_
  refine aC ?_
  refine aA hF (aF hF rfl rfl) rfl rfl rfl fun a hF=>?_
  refine aA hF (aD (off':=5) Tryz.underlying60 rfl in58 rfl hF rfl rfl rfl) rfl rfl rfl fun a hF=>?_
  refine aA hF (aJ Tryz.isAgg58 hF rfl rfl (hM.cell (i:=1) rfl (RMark.g_pieces _))) rfl rfl rfl fun a hF=>?_
  refine aA hF (cV (f7 _ (hsub _ (dropM hM 2))) q8.len Tryz.underlying58 hF rfl rfl) rfl rfl rfl fun a hF=>?_
  refine aA hF (cH hF rfl rfl rfl) rfl rfl rfl fun a hF=>?_
  refine aI (aB ?_)
  refine aR hF (c:=.tmp 104) rfl (fun g5=>?_) (fun g5=>?_)
  ·have hP:=Fx.cT g5 hP
   refine aT (aB ?_)
   refine aH ?_
   refine aV ?_
   refine aH ?_
   refine aC ?_
   refine aA hF (aD (off':=5) Tryz.underlying60 rfl in58 rfl hF rfl rfl rfl) rfl rfl rfl fun a hF=>?_
   refine aA hF (aJ Tryz.isAgg58 hF rfl rfl (hM.cell (i:=1) rfl (RMark.g_pieces _))) rfl rfl rfl fun a hF=>?_
   refine aA hF (aF hF rfl rfl) rfl rfl rfl fun a hF=>?_
   obtain ⟨d1,i4,hP⟩:=bind_some hP
   have j4:=aW i4
   obtain ⟨m4,k2,k4⟩:=Each.getr q8 j4.2
   have k0:=Each.bd q8 (bK i4)
   obtain ⟨d6,d7,rfl,l1,l2⟩:=k4
   refine aA hF (bC (sz:=4) (f7 _ (hsub _ (dropM hM 2))) Tryz.underlying58 in156 rfl hF rfl rfl rfl k0) rfl rfl rfl fun a hF=>?_
   refine aA hF (bB Tryz.isAgg156 Tryz.sizeOf156 hF rfl rfl (RPiece.len _) (((f7 _ (hsub _ (dropM hM 2))).elemS k2))) rfl rfl rfl fun a hF=>?_
   refine aN hF rfl rfl rfl (cB z156 (zs:=RPiece.zero.enc) rfl rfl fun d2 w m2 j8=>?_)
   have hM:=hM.plus j8
   replace hM:MemL _ (pt d2 (RPiece.enc (RPiece.mk 0 0 SV.nil SV.nil)) 156 :: pt c1 (RMark.enc (RMark.mk x1.at_ x1.next x1.done s11 s13 s15 s19)) 60 :: pt c0 (RMark.enc (RMark.mk x0.at_ x0.next x0.done s1 s3 s5 s9)) 60 :: Lr):=hM
   intro a hF
   refine bO rfl rfl (bL (vs:=_) Tryz.sizeOf156 (hM.obj (i:=0) rfl) hF rfl rfl rfl rfl (RPiece.len _) (RPiece.one _) (by first | (rw [RPiece.len,RPiece.len]; decide) | (rw [RPiece.len]; decide)) (bU ((RPiece.len _).trans (RPiece.len _).symm)) fun w k6=>?_)
   have hM:=hM.chg k6 (i:=0) rfl
   replace hM:MemL _ (pt d2 (RPiece.enc (RPiece.mk d1.table d1.from_ d6 d7)) 156 :: pt c1 (RMark.enc (RMark.mk x1.at_ x1.next x1.done s11 s13 s15 s19)) 60 :: pt c0 (RMark.enc (RMark.mk x0.at_ x0.next x0.done s1 s3 s5 s9)) 60 :: Lr):=hM
   refine aI (aB ?_)
   refine aH ?_
   refine aC ?_
   refine aA hF (aD (off':=5) Tryz.underlying60 rfl in58 rfl hF rfl rfl rfl) rfl rfl rfl fun a hF=>?_
   refine aA hF (aJ Tryz.isAgg58 hF rfl rfl (hM.cell (i:=1) rfl (RMark.g_pieces _))) rfl rfl rfl fun a hF=>?_
   refine aA hF (aF hF rfl rfl) rfl rfl rfl fun a hF=>?_
   obtain ⟨d5,i5,hP⟩:=bind_some hP
   have j5:=aW i5
   obtain ⟨m5,k3,k5⟩:=Each.getr q18 j5.2
   have k1:=Each.bd q18 (bK i5)
   obtain ⟨g7,g8,rfl,l3,l4⟩:=k5
   refine aA hF (bC (sz:=4) (f17 _ (hsub _ (dropM hM 3))) Tryz.underlying58 in156 rfl hF rfl rfl rfl k1) rfl rfl rfl fun a hF=>?_
   refine aA hF (bB Tryz.isAgg156 Tryz.sizeOf156 hF rfl rfl (RPiece.len _) (((f17 _ (hsub _ (dropM hM 3))).elemS k3))) rfl rfl rfl fun a hF=>?_
   refine aN hF rfl rfl rfl (cB z156 (zs:=RPiece.zero.enc) rfl rfl fun d3 w m3 j9=>?_)
   have hM:=hM.plus j9
   replace hM:MemL _ (pt d3 (RPiece.enc (RPiece.mk 0 0 SV.nil SV.nil)) 156 :: pt d2 (RPiece.enc (RPiece.mk d1.table d1.from_ d6 d7)) 156 :: pt c1 (RMark.enc (RMark.mk x1.at_ x1.next x1.done s11 s13 s15 s19)) 60 :: pt c0 (RMark.enc (RMark.mk x0.at_ x0.next x0.done s1 s3 s5 s9)) 60 :: Lr):=hM
   intro a hF
   refine bO rfl rfl (bL (vs:=_) Tryz.sizeOf156 (hM.obj (i:=0) rfl) hF rfl rfl rfl rfl (RPiece.len _) (RPiece.one _) (by first | (rw [RPiece.len,RPiece.len]; decide) | (rw [RPiece.len]; decide)) (bU ((RPiece.len _).trans (RPiece.len _).symm)) fun w k7=>?_)
   have hM:=hM.chg k7 (i:=0) rfl
   replace hM:MemL _ (pt d3 (RPiece.enc (RPiece.mk d5.table d5.from_ g7 g8)) 156 :: pt d2 (RPiece.enc (RPiece.mk d1.table d1.from_ d6 d7)) 156 :: pt c1 (RMark.enc (RMark.mk x1.at_ x1.next x1.done s11 s13 s15 s19)) 60 :: pt c0 (RMark.enc (RMark.mk x0.at_ x0.next x0.done s1 s3 s5 s9)) 60 :: Lr):=hM
   refine aI (aB ?_)
   refine aH ?_
   refine aS hF hM hP (fun F x a w=>match x with | g9=>Fr 145 [(144,.bool g9),(2,.pointer (some ⟨c0,0,none⟩)),(3,.pointer (some ⟨c1,0,none⟩)),(4,.bool false),(7,.int .i64 d4)] a ∧ MemL w (pt c1 (RMark.enc (RMark.mk x1.at_ x1.next x1.done s11 s13 s15 s19)) 60 :: pt c0 (RMark.enc (RMark.mk x0.at_ x0.next x0.done s1 s3 s5 s9)) 60 :: Lr)) (fun n7 hP m7 hF hM=>?_) ?_
   ·refine aC ?_
    refine aA hF (aD (off':=0) Tryz.underlying156 rfl in3 rfl hF rfl rfl rfl) rfl rfl rfl fun a hF=>?_
    refine aA hF (aJ Tryz.isAgg3 hF rfl rfl (hM.cell (i:=1) rfl (RPiece.g_table _))) rfl rfl rfl fun a hF=>?_
    refine aA hF (aD (off':=0) Tryz.underlying156 rfl in3 rfl hF rfl rfl rfl) rfl rfl rfl fun a hF=>?_
    refine aA hF (aJ Tryz.isAgg3 hF rfl rfl (hM.cell (i:=0) rfl (RPiece.g_table _))) rfl rfl rfl fun a hF=>?_
    refine aA hF (cW hF rfl rfl rfl) rfl rfl rfl fun a hF=>?_
    refine aA hF (aF hF rfl rfl) rfl rfl rfl fun a hF=>?_
    refine aZ 122 hF rfl (fun c8=>?_) (fun c8=>?_)
    ·have hP:=Fx.cT c8 hP
     refine aE hF rfl rfl rfl c8 rfl rfl fun a hF=>?_
     refine aE hF rfl rfl rfl c8 rfl rfl fun a hF=>?_
     refine aE hF rfl rfl rfl c8 rfl rfl fun a hF=>?_
     refine aE hF rfl rfl rfl c8 rfl rfl fun a hF=>?_
     refine aE hF rfl rfl rfl c8 rfl rfl fun a hF=>?_
     refine aA hF (aP hF rfl rfl c8 rfl) rfl rfl rfl fun a hF=>?_
     refine aA hF (aF hF rfl rfl) rfl rfl rfl fun a hF=>?_
     refine aE hF rfl rfl rfl rfl rfl rfl fun a hF=>?_
     refine aE hF rfl rfl rfl rfl rfl rfl fun a hF=>?_
     refine aE hF rfl rfl rfl rfl rfl rfl fun a hF=>?_
     refine aE hF rfl rfl rfl rfl rfl rfl fun a hF=>?_
     refine aE hF rfl rfl rfl rfl rfl rfl fun a hF=>?_
     refine aE hF rfl rfl rfl rfl rfl rfl fun a hF=>?_
     refine aA hF (aP hF rfl rfl rfl rfl) rfl rfl rfl fun a hF=>?_
     refine aA hF (aF hF rfl rfl) rfl rfl rfl fun a hF=>?_
     refine aE hF rfl rfl rfl rfl rfl rfl fun a hF=>?_
     refine aE hF rfl rfl rfl rfl rfl rfl fun a hF=>?_
     refine aE hF rfl rfl rfl rfl rfl rfl fun a hF=>?_
     refine aE hF rfl rfl rfl rfl rfl rfl fun a hF=>?_
     refine aE hF rfl rfl rfl rfl rfl rfl fun a hF=>?_
     refine aE hF rfl rfl rfl rfl rfl rfl fun a hF=>?_
     refine aA hF (aP hF rfl rfl rfl rfl) rfl rfl rfl fun a hF=>?_
     refine aI (aB ?_)
     have hP:=Option.some.inj hP
     subst hP
     exact ⟨true,rfl,hF.to ⟨rfl,rfl,rfl,rfl,rfl,trivial⟩,selM hM [2,3] 4 rfl⟩
    have hP:=Fx.cF c8 hP
    refine aK hF rfl rfl rfl c8 (aD (off':=1) Tryz.underlying156 rfl in3 rfl hF rfl rfl rfl) rfl rfl fun a hF=>?_
    refine aK hF rfl rfl rfl c8 (aJ Tryz.isAgg3 hF rfl rfl (hM.cell (i:=1) rfl (RPiece.g_from_ _))) rfl rfl fun a hF=>?_
    refine aK hF rfl rfl rfl c8 (aD (off':=1) Tryz.underlying156 rfl in3 rfl hF rfl rfl rfl) rfl rfl fun a hF=>?_
    refine aK hF rfl rfl rfl c8 (aJ Tryz.isAgg3 hF rfl rfl (hM.cell (i:=0) rfl (RPiece.g_from_ _))) rfl rfl fun a hF=>?_
    refine aK hF rfl rfl rfl c8 (cW hF rfl rfl rfl) rfl rfl fun a hF=>?_
    refine aA hF (aQ hF rfl rfl c8 rfl) rfl rfl rfl fun a hF=>?_
    refine aA hF (aF hF rfl rfl) rfl rfl rfl fun a hF=>?_
    refine aZ 129 hF rfl (fun c6=>?_) (fun c6=>?_)
    ·have hP:=Fx.cT c6 hP
     refine aE hF rfl rfl rfl c6 rfl rfl fun a hF=>?_
     refine aE hF rfl rfl rfl c6 rfl rfl fun a hF=>?_
     refine aE hF rfl rfl rfl c6 rfl rfl fun a hF=>?_
     refine aE hF rfl rfl rfl c6 rfl rfl fun a hF=>?_
     refine aE hF rfl rfl rfl c6 rfl rfl fun a hF=>?_
     refine aE hF rfl rfl rfl c6 rfl rfl fun a hF=>?_
     refine aA hF (aP hF rfl rfl c6 rfl) rfl rfl rfl fun a hF=>?_
     refine aA hF (aF hF rfl rfl) rfl rfl rfl fun a hF=>?_
     refine aE hF rfl rfl rfl rfl rfl rfl fun a hF=>?_
     refine aE hF rfl rfl rfl rfl rfl rfl fun a hF=>?_
     refine aE hF rfl rfl rfl rfl rfl rfl fun a hF=>?_
     refine aE hF rfl rfl rfl rfl rfl rfl fun a hF=>?_
     refine aE hF rfl rfl rfl rfl rfl rfl fun a hF=>?_
     refine aE hF rfl rfl rfl rfl rfl rfl fun a hF=>?_
     refine aA hF (aP hF rfl rfl rfl rfl) rfl rfl rfl fun a hF=>?_
     refine aI (aB ?_)
     have hP:=Option.some.inj hP
     subst hP
     exact ⟨true,rfl,hF.to ⟨rfl,rfl,rfl,rfl,rfl,trivial⟩,selM hM [2,3] 4 rfl⟩
    have hP:=Fx.cF c6 hP
    refine aK hF rfl rfl rfl c6 (aD (off':=2) Tryz.underlying156 rfl in23 rfl hF rfl rfl rfl) rfl rfl fun a hF=>?_
    refine aK hF rfl rfl rfl c6 (aJ Tryz.isAgg23 hF rfl rfl (hM.cell (i:=1) rfl (RPiece.g_old _))) rfl rfl fun a hF=>?_
    refine aK hF rfl rfl rfl c6 (aD (off':=2) Tryz.underlying156 rfl in23 rfl hF rfl rfl rfl) rfl rfl fun a hF=>?_
    refine aK hF rfl rfl rfl c6 (aJ Tryz.isAgg23 hF rfl rfl (hM.cell (i:=0) rfl (RPiece.g_old _))) rfl rfl fun a hF=>?_
    obtain ⟨n2,k9,hP⟩:=bind_some hP
    refine dX hF rfl rfl rfl c6 rfl rfl (aO (xs:=[.tmp 131,.tmp 133]) Tryz.call43 hF rfl rfl (dL k9 hM (Bf:=Bf) (fun w hM=>hsub _ (dropM hM 4)) l1 l3) fun v w hR=>?_)
    obtain ⟨rfl,hM⟩:=hR
    replace hM:MemL _ (pt d3 (RPiece.enc (RPiece.mk d5.table d5.from_ g7 g8)) 156 :: pt d2 (RPiece.enc (RPiece.mk d1.table d1.from_ d6 d7)) 156 :: pt c1 (RMark.enc (RMark.mk x1.at_ x1.next x1.done s11 s13 s15 s19)) 60 :: pt c0 (RMark.enc (RMark.mk x0.at_ x0.next x0.done s1 s3 s5 s9)) 60 :: Lr):=hM
    intro a hF
    refine aK hF rfl rfl rfl c6 (dJ hF rfl rfl) rfl rfl fun a hF=>?_
    refine aA hF (aQ hF rfl rfl c6 rfl) rfl rfl rfl fun a hF=>?_
    refine aA hF (aF hF rfl rfl) rfl rfl rfl fun a hF=>?_
    refine aZ 137 hF rfl (fun c7=>?_) (fun c7=>?_)
    ·have hP:=Fx.cT c7 hP
     refine aE hF rfl rfl rfl c7 rfl rfl fun a hF=>?_
     refine aE hF rfl rfl rfl c7 rfl rfl fun a hF=>?_
     refine aE hF rfl rfl rfl c7 rfl rfl fun a hF=>?_
     refine aE hF rfl rfl rfl c7 rfl rfl fun a hF=>?_
     refine aE hF rfl rfl rfl c7 rfl rfl fun a hF=>?_
     refine aE hF rfl rfl rfl c7 rfl rfl fun a hF=>?_
     refine aA hF (aP hF rfl rfl c7 rfl) rfl rfl rfl fun a hF=>?_
     refine aI (aB ?_)
     have hP:=Option.some.inj hP
     subst hP
     exact ⟨true,rfl,hF.to ⟨rfl,rfl,rfl,rfl,rfl,trivial⟩,selM hM [2,3] 4 rfl⟩
    have hP:=Fx.cF c7 hP
    refine aK hF rfl rfl rfl c7 (aD (off':=3) Tryz.underlying156 rfl in23 rfl hF rfl rfl rfl) rfl rfl fun a hF=>?_
    refine aK hF rfl rfl rfl c7 (aJ Tryz.isAgg23 hF rfl rfl (hM.cell (i:=1) rfl (RPiece.g_new _))) rfl rfl fun a hF=>?_
    refine aK hF rfl rfl rfl c7 (aD (off':=3) Tryz.underlying156 rfl in23 rfl hF rfl rfl rfl) rfl rfl fun a hF=>?_
    refine aK hF rfl rfl rfl c7 (aJ Tryz.isAgg23 hF rfl rfl (hM.cell (i:=0) rfl (RPiece.g_new _))) rfl rfl fun a hF=>?_
    obtain ⟨l9,l0,hP⟩:=bind_some hP
    refine dX hF rfl rfl rfl c7 rfl rfl (aO (xs:=[.tmp 139,.tmp 141]) Tryz.call43 hF rfl rfl (dL l0 hM (Bf:=Bf) (fun w hM=>hsub _ (dropM hM 4)) l2 l4) fun v w hR=>?_)
    obtain ⟨rfl,hM⟩:=hR
    replace hM:MemL _ (pt d3 (RPiece.enc (RPiece.mk d5.table d5.from_ g7 g8)) 156 :: pt d2 (RPiece.enc (RPiece.mk d1.table d1.from_ d6 d7)) 156 :: pt c1 (RMark.enc (RMark.mk x1.at_ x1.next x1.done s11 s13 s15 s19)) 60 :: pt c0 (RMark.enc (RMark.mk x0.at_ x0.next x0.done s1 s3 s5 s9)) 60 :: Lr):=hM
    intro a hF
    refine aK hF rfl rfl rfl c7 (dJ hF rfl rfl) rfl rfl fun a hF=>?_
    refine aA hF (aQ hF rfl rfl c7 rfl) rfl rfl rfl fun a hF=>?_
    refine aI (aB ?_)
    have hP:=Option.some.inj hP
    subst hP
    exact ⟨(!l9),rfl,hF.to ⟨rfl,rfl,rfl,rfl,rfl,trivial⟩,selM hM [2,3] 4 rfl⟩
   rintro g9 a w hP ⟨hF,hM⟩
   replace hP:Sh.cZ d4 g9 = _:=hP
   unfold Sh.cZ at hP
   refine aB ?_
   refine aR hF (c:=.tmp 144) rfl (fun g6=>?_) (fun g6=>?_)
   ·have hP:=Fx.cT g6 hP
    refine aH ?_
    refine aC ?_
    refine aA hF (aG hF rfl rfl) rfl rfl rfl fun a hF=>?_
    refine aI (aB ?_)
    refine c_ret ?_
    have hP:=Option.some.inj hP
    subst hP
    have hP:=i9 _ rfl
    subst hP
    have hP:=cL l7
    subst hP
    refine aY Tryz.results33 hF rfl ?_
    exact ⟨rfl,selM hM [] 2 rfl⟩
   have hP:=Fx.cF g6 hP
   refine aT (bI (aB ?_))
   refine aC ?_
   refine aA hF (aF hF rfl rfl) rfl rfl rfl fun a hF=>?_
   refine aA hF (cA hF rfl rfl rfl) rfl rfl rfl fun a hF=>?_
   refine aA hF (aG hF rfl rfl) rfl rfl rfl fun a hF=>?_
   refine aI (aB ?_)
   have hP:=Option.some.inj hP
   subst hP
   exact ⟨(IntKind.i64.wrap (d4 + 1)),rfl,hF.to ⟨rfl,rfl,rfl,rfl,trivial⟩,hM⟩
  have hP:=Fx.cF g5 hP
  refine bW (bD (bD (cG ?_)))
  refine aB ?_
  have hP:=Option.some.inj hP
  subst hP
  have hP:=i9 _ rfl
  subst hP
  exact ⟨(),rfl,hF.to ⟨rfl,trivial⟩,selM hM [] 2 rfl⟩
 rintro ⟨⟩ a w hP ⟨hF,hM⟩
 replace hP:Sh.lK = _:=hP
 unfold Sh.lK at hP
 refine aB ?_
 refine aH ?_
 refine aC ?_
 refine aA hF (aG hF rfl rfl) rfl rfl rfl fun a hF=>?_
 refine aI (aB ?_)
 refine c_ret ?_
 have hP:=Option.some.inj hP
 subst hP
 refine aY Tryz.results33 hF rfl ?_
 exact ⟨rfl,hM⟩
set_option maxHeartbeats 4000000 in
theorem fE {x0:QRecord} {x1:QRecord} {s1:SV} {s3:SV} {hs4:List SV} {s7:SV} {hs8:List RMark} {s11:SV} {s13:SV} {hs14:List SV} {s17:SV} {hs18:List RMark} {out:Bool} {w0:World} {Bf:World → Prop} {Lr:List Res} (hP:Sh.cQ x0 x1 = some out) (hM:MemL w0 (Lr)) (hsub:∀ w,MemL w Lr → Bf w) (f2:LIn Bf s1 x0.in_.ctx) (f5:LIn Bf s3 hs4) (q6:Each (LIn (X:=UInt8) Bf) hs4 x0.in_.tables) (f9:LIn Bf s7 hs8) (q10:Each (QMarkIn Bf) hs8 x0.marks) (f12:LIn Bf s11 x1.in_.ctx) (f15:LIn Bf s13 hs14) (q16:Each (LIn (X:=UInt8) Bf) hs14 x1.in_.tables) (f19:LIn Bf s17 hs18) (q20:Each (QMarkIn Bf) hs18 x1.marks):Calls Tryz.prog 27 #[.agg (RRecord.enc (RRecord.mk (RInput.mk s1 s3) s7 x0.end_)).toArray,.agg (RRecord.enc (RRecord.mk (RInput.mk s11 s13) s17 x1.end_)).toArray] w0 (Ret fun v w'=>v = .bool out ∧ MemL w' (Lr)):=by
 unfold Sh.cQ at hP
 refine aM (vs:=[.agg (RRecord.enc (RRecord.mk (RInput.mk s1 s3) s7 x0.end_)).toArray,.agg (RRecord.enc (RRecord.mk (RInput.mk s11 s13) s17 x1.end_)).toArray]) Tryz.func27 rfl Tryz.ntmps27 rfl fun a hF=>?_
 refine aH ?_
 refine aC ?_
 refine aN hF rfl rfl rfl (dD hF rfl rfl rfl fun c2 w i6 d4=>?_)
 have hM:=hM.plus d4
 replace hM:MemL _ (pt c2 (RRecord.enc (RRecord.mk (RInput.mk s1 s3) s7 x0.end_)) 36 :: Lr):=hM
 intro a hF
 refine aN hF rfl rfl rfl (dD hF rfl rfl rfl fun c3 w i7 d5=>?_)
 have hM:=hM.plus d5
 replace hM:MemL _ (pt c3 (RRecord.enc (RRecord.mk (RInput.mk s11 s13) s17 x1.end_)) 36 :: pt c2 (RRecord.enc (RRecord.mk (RInput.mk s1 s3) s7 x0.end_)) 36 :: Lr):=hM
 intro a hF
 refine aA hF (aG hF rfl rfl) rfl rfl rfl fun a hF=>?_
 refine aI (aB ?_)
 refine aH ?_
 refine aH ?_
 refine aS hF hM hP (fun F x a w=>match x with | d0=>Fr 47 [(27,.bool d0),(2,.pointer (some ⟨c2,0,none⟩)),(3,.pointer (some ⟨c3,0,none⟩)),(4,.bool false)] a ∧ MemL w (pt c3 (RRecord.enc (RRecord.mk (RInput.mk s11 s13) s17 x1.end_)) 36 :: pt c2 (RRecord.enc (RRecord.mk (RInput.mk s1 s3) s7 x0.end_)) 36 :: Lr)) (fun k4 hP j2 hF hM=>?_) ?_
 ·refine aC ?_
  refine aA hF (aD (off':=3) Tryz.underlying36 rfl in34 rfl hF rfl rfl rfl) rfl rfl rfl fun a hF=>?_
  refine aA hF (aJ Tryz.isAgg34 hF rfl rfl (hM.cell (i:=1) rfl (RRecord.g_end_ _))) rfl rfl rfl fun a hF=>?_
  refine aA hF (aD (off':=3) Tryz.underlying36 rfl in34 rfl hF rfl rfl rfl) rfl rfl rfl fun a hF=>?_
  refine aA hF (aJ Tryz.isAgg34 hF rfl rfl (hM.cell (i:=0) rfl (RRecord.g_end_ _))) rfl rfl rfl fun a hF=>?_
  refine aA hF (cW hF rfl rfl rfl) rfl rfl rfl fun a hF=>?_
  refine aA hF (aF hF rfl rfl) rfl rfl rfl fun a hF=>?_
  refine aZ 11 hF rfl (fun c0=>?_) (fun c0=>?_)
  ·have hP:=Fx.cT c0 hP
   refine aE hF rfl rfl rfl c0 rfl rfl fun a hF=>?_
   refine aE hF rfl rfl rfl c0 rfl rfl fun a hF=>?_
   refine aE hF rfl rfl rfl c0 rfl rfl fun a hF=>?_
   refine aE hF rfl rfl rfl c0 rfl rfl fun a hF=>?_
   refine aE hF rfl rfl rfl c0 rfl rfl fun a hF=>?_
   refine aE hF rfl rfl rfl c0 rfl rfl fun a hF=>?_
   refine aE hF rfl rfl rfl c0 rfl rfl fun a hF=>?_
   refine aA hF (aP hF rfl rfl c0 rfl) rfl rfl rfl fun a hF=>?_
   refine aA hF (aF hF rfl rfl) rfl rfl rfl fun a hF=>?_
   refine aE hF rfl rfl rfl rfl rfl rfl fun a hF=>?_
   refine aE hF rfl rfl rfl rfl rfl rfl fun a hF=>?_
   refine aE hF rfl rfl rfl rfl rfl rfl fun a hF=>?_
   refine aE hF rfl rfl rfl rfl rfl rfl fun a hF=>?_
   refine aE hF rfl rfl rfl rfl rfl rfl fun a hF=>?_
   refine aE hF rfl rfl rfl rfl rfl rfl fun a hF=>?_
   refine aA hF (aP hF rfl rfl rfl rfl) rfl rfl rfl fun a hF=>?_
   refine aI (aB ?_)
   have hP:=Option.some.inj hP
   subst hP
   exact ⟨true,rfl,hF.to ⟨rfl,rfl,rfl,rfl,trivial⟩,hM⟩
  have hP:=Fx.cF c0 hP
  refine aK hF rfl rfl rfl c0 (aD (off':=2) Tryz.underlying36 rfl in33 rfl hF rfl rfl rfl) rfl rfl fun a hF=>?_
  refine aK hF rfl rfl rfl c0 (aJ Tryz.isAgg33 hF rfl rfl (hM.cell (i:=1) rfl (RRecord.g_marks _))) rfl rfl fun a hF=>?_
  refine aK hF rfl rfl rfl c0 (cV (f9 _ (hsub _ (dropM hM 2))) q10.len Tryz.underlying33 hF rfl rfl) rfl rfl fun a hF=>?_
  refine aK hF rfl rfl rfl c0 (aD (off':=2) Tryz.underlying36 rfl in33 rfl hF rfl rfl rfl) rfl rfl fun a hF=>?_
  refine aK hF rfl rfl rfl c0 (aJ Tryz.isAgg33 hF rfl rfl (hM.cell (i:=0) rfl (RRecord.g_marks _))) rfl rfl fun a hF=>?_
  refine aK hF rfl rfl rfl c0 (cV (f19 _ (hsub _ (dropM hM 2))) q20.len Tryz.underlying33 hF rfl rfl) rfl rfl fun a hF=>?_
  refine aK hF rfl rfl rfl c0 (cW hF rfl rfl rfl) rfl rfl fun a hF=>?_
  refine aA hF (aQ hF rfl rfl c0 rfl) rfl rfl rfl fun a hF=>?_
  refine aA hF (aF hF rfl rfl) rfl rfl rfl fun a hF=>?_
  refine aZ 20 hF rfl (fun c1=>?_) (fun c1=>?_)
  ·have hP:=Fx.cT c1 hP
   refine aE hF rfl rfl rfl c1 rfl rfl fun a hF=>?_
   refine aE hF rfl rfl rfl c1 rfl rfl fun a hF=>?_
   refine aE hF rfl rfl rfl c1 rfl rfl fun a hF=>?_
   refine aE hF rfl rfl rfl c1 rfl rfl fun a hF=>?_
   refine aE hF rfl rfl rfl c1 rfl rfl fun a hF=>?_
   refine aE hF rfl rfl rfl c1 rfl rfl fun a hF=>?_
   refine aA hF (aP hF rfl rfl c1 rfl) rfl rfl rfl fun a hF=>?_
   refine aI (aB ?_)
   have hP:=Option.some.inj hP
   subst hP
   exact ⟨true,rfl,hF.to ⟨rfl,rfl,rfl,rfl,trivial⟩,hM⟩
  have hP:=Fx.cF c1 hP
  refine aK hF rfl rfl rfl c1 (aD (off':=0) Tryz.underlying36 rfl in30 rfl hF rfl rfl rfl) rfl rfl fun a hF=>?_
  refine aK hF rfl rfl rfl c1 (bB Tryz.isAgg30 Tryz.sizeOf30 hF rfl rfl (RInput.len _) (hM.cells (i:=1) rfl (RRecord.c_in_ _))) rfl rfl fun a hF=>?_
  refine aK hF rfl rfl rfl c1 (aD (off':=0) Tryz.underlying36 rfl in30 rfl hF rfl rfl rfl) rfl rfl fun a hF=>?_
  refine aK hF rfl rfl rfl c1 (bB Tryz.isAgg30 Tryz.sizeOf30 hF rfl rfl (RInput.len _) (hM.cells (i:=0) rfl (RRecord.c_in_ _))) rfl rfl fun a hF=>?_
  obtain ⟨i5,i2,hP⟩:=bind_some hP
  refine dX hF rfl rfl rfl c1 rfl rfl (aO (xs:=[.tmp 22,.tmp 24]) Tryz.call29 hF rfl rfl (kL i2 hM (Bf:=Bf) (fun w hM=>hsub _ (dropM hM 2)) f2 f5 q6 f12 f15 q16) fun v w hR=>?_)
  obtain ⟨rfl,hM⟩:=hR
  replace hM:MemL _ (pt c3 (RRecord.enc (RRecord.mk (RInput.mk s11 s13) s17 x1.end_)) 36 :: pt c2 (RRecord.enc (RRecord.mk (RInput.mk s1 s3) s7 x0.end_)) 36 :: Lr):=hM
  intro a hF
  refine aK hF rfl rfl rfl c1 (dJ hF rfl rfl) rfl rfl fun a hF=>?_
  refine aA hF (aQ hF rfl rfl c1 rfl) rfl rfl rfl fun a hF=>?_
  refine aI (aB ?_)
  have hP:=Option.some.inj hP
  subst hP
  exact ⟨(!i5),rfl,hF.to ⟨rfl,rfl,rfl,rfl,trivial⟩,hM⟩
 rintro d0 a w hP ⟨hF,hM⟩
 replace hP:Sh.cD x0 x1 d0 = _:=hP
 unfold Sh.cD at hP
 refine aB ?_
 refine aR hF (c:=.tmp 27) rfl (fun c7=>?_) (fun c7=>?_)
 ·have hP:=Fx.cT c7 hP
  refine aH ?_
  refine aC ?_
  refine aA hF (aG hF rfl rfl) rfl rfl rfl fun a hF=>?_
  refine aI (aB ?_)
  refine c_ret ?_
  have hP:=Option.some.inj hP
  subst hP
  refine aY Tryz.results27 hF rfl ?_
  exact ⟨rfl,selM hM [] 2 rfl⟩
 have hP:=Fx.cF c7 hP
 refine aT (aB ?_)
 refine aH ?_
 refine aS hF hM hP (fun F x a w=>match x with | _=>Fr 47 [(4,.bool false)] a ∧ MemL w (Lr)) (fun k5 hP i1 hF hM=>?_) ?_
 ·refine aH ?_
  refine aC ?_
  refine aA hF (aG hF rfl rfl) rfl rfl rfl fun a hF=>?_
  refine aI (aB ?_)
  refine aV ?_
  refine bN hF hM hP (fun F x a w=>match x with | c4=>Fr 47 [(5,.int .i64 c4),(2,.pointer (some ⟨c2,0,none⟩)),(3,.pointer (some ⟨c3,0,none⟩)),(4,.bool false)] a ∧ MemL w (pt c3 (RRecord.enc (RRecord.mk (RInput.mk s11 s13) s17 x1.end_)) 36 :: pt c2 (RRecord.enc (RRecord.mk (RInput.mk s1 s3) s7 x0.end_)) 36 :: Lr)) (fun hF hM=>⟨hF.to ⟨rfl,rfl,rfl,rfl,trivial⟩,hM⟩) ?_
  rintro c4 a w k6 hP d1 ⟨hF,hM⟩
  replace hP:Sh.cE x0 x1 c4 = _:=hP
  unfold Sh.cE at hP
  refine aH ?_
  refine aH ?_
  refine aC ?_
  refine aA hF (aF hF rfl rfl) rfl rfl rfl fun a hF=>?_
  refine aA hF (aD (off':=2) Tryz.underlying36 rfl in33 rfl hF rfl rfl rfl) rfl rfl rfl fun a hF=>?_
  refine aA hF (aJ Tryz.isAgg33 hF rfl rfl (hM.cell (i:=1) rfl (RRecord.g_marks _))) rfl rfl rfl fun a hF=>?_
  refine aA hF (cV (f9 _ (hsub _ (dropM hM 2))) q10.len Tryz.underlying33 hF rfl rfl) rfl rfl rfl fun a hF=>?_
  refine aA hF (cH hF rfl rfl rfl) rfl rfl rfl fun a hF=>?_
  refine aI (aB ?_)
  refine aR hF (c:=.tmp 32) rfl (fun c5=>?_) (fun c5=>?_)
  ·have hP:=Fx.cT c5 hP
   refine aT (aB ?_)
   refine aH ?_
   refine aV ?_
   refine aH ?_
   refine bQ mixed (by kernel_rfl) hM [0,1] 2 rfl fun hch=>?_
   refine aL hF hch 0 rfl (by kernel_rfl) rfl rfl rfl (fun w hM=>(aD (off':=2) Tryz.underlying36 rfl in33 rfl hF rfl rfl rfl)) fun a hF=>?_
   refine aL hF hch 1 rfl (by kernel_rfl) rfl rfl rfl (fun w hM=>(aJ Tryz.isAgg33 hF rfl rfl (hM.cell (i:=1) rfl (RRecord.g_marks _)))) fun a hF=>?_
   refine aL hF hch 2 rfl (by kernel_rfl) rfl rfl rfl (fun w hM=>(aF hF rfl rfl)) fun a hF=>?_
   obtain ⟨k1,c8,hP⟩:=bind_some hP
   have d2:=aW c8
   obtain ⟨j0,d8,g0⟩:=Each.getr q10 d2.2
   have d6:=Each.bd q10 (bK c8)
   obtain ⟨j3,j4,j5,i8,j6,rfl,g3,g4,g5,i3,g6⟩:=g0
   refine aL hF hch 3 rfl (by kernel_rfl) rfl rfl rfl (fun w hM=>(bC (sz:=7) (f9 _ (hsub _ (dropM hM 2))) Tryz.underlying33 in60 rfl hF rfl rfl rfl d6)) fun a hF=>?_
   refine aL hF hch 4 rfl (by kernel_rfl) rfl rfl rfl (fun w hM=>(bB Tryz.isAgg60 Tryz.sizeOf60 hF rfl rfl (RMark.len _) (((f9 _ (hsub _ (dropM hM 2))).elemS d8)))) fun a hF=>?_
   refine aL hF hch 5 rfl (by kernel_rfl) rfl rfl rfl (fun w hM=>(aD (off':=2) Tryz.underlying36 rfl in33 rfl hF rfl rfl rfl)) fun a hF=>?_
   refine aL hF hch 6 rfl (by kernel_rfl) rfl rfl rfl (fun w hM=>(aJ Tryz.isAgg33 hF rfl rfl (hM.cell (i:=0) rfl (RRecord.g_marks _)))) fun a hF=>?_
   refine aL hF hch 7 rfl (by kernel_rfl) rfl rfl rfl (fun w hM=>(aF hF rfl rfl)) fun a hF=>?_
   obtain ⟨k2,c9,hP⟩:=bind_some hP
   have d3:=aW c9
   obtain ⟨j1,d9,g1⟩:=Each.getr q20 d3.2
   have d7:=Each.bd q20 (bK c9)
   obtain ⟨j7,j8,j9,i9,k0,rfl,g7,g8,g9,i4,i0⟩:=g1
   refine aL hF hch 8 rfl (by kernel_rfl) rfl rfl rfl (fun w hM=>(bC (sz:=7) (f19 _ (hsub _ (dropM hM 2))) Tryz.underlying33 in60 rfl hF rfl rfl rfl d7)) fun a hF=>?_
   refine aL hF hch 9 rfl (by kernel_rfl) rfl rfl rfl (fun w hM=>(bB Tryz.isAgg60 Tryz.sizeOf60 hF rfl rfl (RMark.len _) (((f19 _ (hsub _ (dropM hM 2))).elemS d9)))) fun a hF=>?_
   refine bS hch 10 (by kernel_rfl) rfl rfl ?_
   refine cR hF 10 rfl rfl rfl rfl rfl fun w hMs hM=>?_
   obtain ⟨k3,g2,hP⟩:=bind_some hP
   refine (aO (xs:=[.tmp 39,.tmp 44]) Tryz.call33 hF rfl rfl (iH g2 hM (Bf:=Bf) (fun w hM=>hsub _ (dropM hM 2)) g3 g4 g5 i3 g6 g7 g8 g9 i4 i0) fun v w hR=>?_)
   obtain ⟨rfl,hM⟩:=hR
   replace hM:MemL _ (pt c3 (RRecord.enc (RRecord.mk (RInput.mk s11 s13) s17 x1.end_)) 36 :: pt c2 (RRecord.enc (RRecord.mk (RInput.mk s1 s3) s7 x0.end_)) 36 :: Lr):=hM
   have hMs:=selM hM [0,1] 2 rfl
   refine ⟨_,_,hMs,hM,.inl fun _ h=>h,fun a hF=>?_⟩
   refine aL hF hch 11 rfl (by kernel_rfl) rfl rfl rfl (fun w hM=>(dJ hF rfl rfl)) fun a hF=>?_
   refine cI hch (by kernel_rfl) fun w hM=>?_
   refine aB ?_
   refine aR hF (c:=.tmp 46) rfl (fun c6=>?_) (fun c6=>?_)
   ·have hP:=Fx.cT c6 hP
    refine aH ?_
    refine aC ?_
    refine aA hF (aG hF rfl rfl) rfl rfl rfl fun a hF=>?_
    refine aI (aB ?_)
    refine c_ret ?_
    have hP:=Option.some.inj hP
    subst hP
    have hP:=d1 _ rfl
    subst hP
    have hP:=cL i1
    subst hP
    refine aY Tryz.results27 hF rfl ?_
    exact ⟨rfl,selM hM [] 2 rfl⟩
   have hP:=Fx.cF c6 hP
   refine aT (bI (aB ?_))
   refine aC ?_
   refine aA hF (aF hF rfl rfl) rfl rfl rfl fun a hF=>?_
   refine aA hF (cA hF rfl rfl rfl) rfl rfl rfl fun a hF=>?_
   refine aA hF (aG hF rfl rfl) rfl rfl rfl fun a hF=>?_
   refine aI (aB ?_)
   have hP:=Option.some.inj hP
   subst hP
   exact ⟨(IntKind.i64.wrap (c4 + 1)),rfl,hF.to ⟨rfl,rfl,rfl,rfl,trivial⟩,hM⟩
  have hP:=Fx.cF c5 hP
  refine bW (bD (bD (cG ?_)))
  refine aB ?_
  have hP:=Option.some.inj hP
  subst hP
  have hP:=d1 _ rfl
  subst hP
  exact ⟨(),rfl,hF.to ⟨rfl,trivial⟩,selM hM [] 2 rfl⟩
 rintro ⟨⟩ a w hP ⟨hF,hM⟩
 replace hP:Sh.kB = _:=hP
 unfold Sh.kB at hP
 refine aB ?_
 refine aH ?_
 refine aC ?_
 refine aA hF (aG hF rfl rfl) rfl rfl rfl fun a hF=>?_
 refine aI (aB ?_)
 refine c_ret ?_
 have hP:=Option.some.inj hP
 subst hP
 refine aY Tryz.results27 hF rfl ?_
 exact ⟨rfl,hM⟩
end Go.Proofs
end
