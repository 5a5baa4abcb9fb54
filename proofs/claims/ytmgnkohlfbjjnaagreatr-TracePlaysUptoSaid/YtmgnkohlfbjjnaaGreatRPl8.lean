/- Ground for this claim: The call of TracePlays returns true. Condition: the arguments are of bulk at most 1048576. -/
import Derived.Test.YtmgnkohlfbjjnaaGreatRPl7
set_option linter.unusedVariables false
set_option linter.unusedSimpArgs false
section
namespace Go.Proofs
open Go.Fw Go.Fx
set_option maxRecDepth 10000
set_option maxHeartbeats 4000000 in
theorem lM {x0:QState} {x1:QMark} {s1:SV} {s3:SV} {hs4:List SV} {s7:SV} {s9:SV} {s11:SV} {s13:SV} {hs14:List RPiece} {s17:SV} {out:Int} {w0:World} {Bf:World → Prop} {Lr:List Res} (I:Sh.kW x0 x1 = some out) (H:MemL w0 (Lr)) (S:∀ w,MemL w Lr → Bf w) (f2:LIn Bf s1 x0.ctx) (f5:LIn Bf s3 hs4) (q6:Each (LIn (X:=UInt8) Bf) hs4 x0.tables) (f8:LIn Bf s7 x0.sent) (f10:LIn Bf s9 x1.regs) (f12:LIn Bf s11 x1.slots) (f15:LIn Bf s13 hs14) (q16:Each (QPieceIn Bf) hs14 x1.pieces) (f18:LIn Bf s17 x1.sent):Calls Tryz.prog 125 #[.agg (RState.enc (mSt x0 s1 s3 s7)).toArray,.agg (RMark.enc (mMk x1 s9 s11 s13 s17)).toArray] w0 (Ret fun v w'=>v = .int .i64 out ∧ MemL w' (Lr)):=by
 unfold Sh.kW at I
 refine aR (vs:=[.agg (RState.enc (mSt x0 s1 s3 s7)).toArray,.agg (RMark.enc (mMk x1 s9 s11 s13 s17)).toArray]) Tryz.func125 E Tryz.ntmps125 E fun a G=>?_
 refine aG ?_
 refine aD ?_
 refine aN G E E E (dA G E E E fun c0 w c4 c2=>?_)
 have H:=H.plus c2
 intro a G
 refine aN G E E E (dA G E E E fun c1 w c5 c3=>?_)
 have H:=H.plus c3
 replace H:MemL _ (pt c1 (RMark.enc (mMk x1 s9 s11 s13 s17)) 60::pt c0 (RState.enc (mSt x0 s1 s3 s7)) 54::Lr):=H
 intro a G
 refine aA G (aH G E E) E E E fun a G=>?_
 refine aJ (aB ?_)
 refine aG ?_
 refine aU ?_
 refine aG ?_
 refine aD ?_
 refine aA G (aQ qA54 qS54 G E E (RState.len _) (H.cells (i:=1) E (aY (RState.len _)))) E E E fun a G=>?_
 obtain ⟨y38,hy38,I⟩:=bind_some I
 refine aN G E E E (aO (xs:=[.tmp 6]) Tryz.call82 G E E (gF hy38 H (Bf:=Bf) (fun w H=>S _ (dropM H 2)) f2 f5 q6 f8) fun v w hR=>?_)
 obtain ⟨rfl,H⟩:=hR
 replace H:MemL _ (pt c1 (RMark.enc (mMk x1 s9 s11 s13 s17)) 60::pt c0 (RState.enc (mSt x0 s1 s3 s7)) 54::Lr):=H
 intro a G
 refine aA G (dF G E E) E E E fun a G=>?_
 refine aA G (aH G E E) E E E fun a G=>?_
 refine aJ (aB ?_)
 refine aT G (c:=.tmp 5) E (fun hb39=>?_) (fun hb39=>?_)
 ·have I:=Fx.cT hb39 I
  refine aG ?_
  refine aD ?_
  refine aA G (aH G E E) E E E fun a G=>?_
  refine aJ (aB ?_)
  refine c_ret ?_
  have I:=oI I
  subst I
  refine bJ Tryz.results125 G E ?_
  exact ⟨E,selM H [] 2 E⟩
 have I:=Fx.cF hb39 I
 refine aG ?_
 refine aD ?_
 refine aA G (aQ qA60 qS60 G E E (RMark.len _) (H.cells (i:=0) E (aY (RMark.len _)))) E E E fun a G=>?_
 obtain ⟨y41,hy41,I⟩:=bind_some I
 refine aN G E E E (aO (xs:=[.tmp 10]) Tryz.call173 G E E (jF hy41 H (Bf:=Bf) (fun w H=>S _ (dropM H 2)) f10 f12 f15 q16 f18) fun v w hR=>?_)
 obtain ⟨rfl,H⟩:=hR
 replace H:MemL _ (pt c1 (RMark.enc (mMk x1 s9 s11 s13 s17)) 60::pt c0 (RState.enc (mSt x0 s1 s3 s7)) 54::Lr):=H
 intro a G
 refine aA G (dF G E E) E E E fun a G=>?_
 refine aA G (aH G E E) E E E fun a G=>?_
 refine aJ (aB ?_)
 refine aT G (c:=.tmp 9) E (fun hb42=>?_) (fun hb42=>?_)
 ·have I:=Fx.cT hb42 I
  refine aG ?_
  refine aD ?_
  refine aA G (aH G E E) E E E fun a G=>?_
  refine aJ (aB ?_)
  refine c_ret ?_
  have I:=oI I
  subst I
  refine bJ Tryz.results125 G E ?_
  exact ⟨E,selM H [] 2 E⟩
 have I:=Fx.cF hb42 I
 refine aW (bK (aB ?_))
 refine aG ?_
 refine aD ?_
 refine aA G (aH G E E) E E E fun a G=>?_
 refine aJ (aB ?_)
 refine c_ret ?_
 have I:=oI I
 subst I
 refine bJ Tryz.results125 G E ?_
 exact ⟨E,selM H [] 2 E⟩
set_option maxHeartbeats 4000000 in
theorem jE {x0:QState} {x1:QMark} {s1:SV} {s3:SV} {hs4:List SV} {s7:SV} {s9:SV} {s11:SV} {s13:SV} {hs14:List RPiece} {s17:SV} {out:(QState × Int)} {w0:World} {Bf:World → Prop} {Lr:List Res} (I:Sh.cO x0 x1 = some out) (H:MemL w0 (Lr)) (S:∀ w,MemL w Lr → Bf w) (f2:LIn Bf s1 x0.ctx) (f5:LIn Bf s3 hs4) (q6:Each (LIn (X:=UInt8) Bf) hs4 x0.tables) (f8:LIn Bf s7 x0.sent) (f10:LIn Bf s9 x1.regs) (f12:LIn Bf s11 x1.slots) (f15:LIn Bf s13 hs14) (q16:Each (QPieceIn Bf) hs14 x1.pieces) (f18:LIn Bf s17 x1.sent):Calls Tryz.prog 52 #[.agg (RState.enc (mSt x0 s1 s3 s7)).toArray,.agg (RMark.enc (mMk x1 s9 s11 s13 s17)).toArray] w0 (Ret fun v w'=>∃ (s75:SV) (s77:SV) (hs78:List SV) (r80:Res) (s82:SV),v = .tuple #[.agg (RState.enc (mSt out.1 s75 s77 s82)).toArray,.int .i64 out.2] ∧ Each (LIn (X:=UInt8) r80.holds') hs78 out.1.tables ∧ MemL w' (rowL 0 s75 5 out.1.ctx::rowL 0 s77 23 hs78::r80::rowL 0 s82 3 out.1.sent::Lr)):=by
 unfold Sh.cO at I
 refine aR (vs:=[.agg (RState.enc (mSt x0 s1 s3 s7)).toArray,.agg (RMark.enc (mMk x1 s9 s11 s13 s17)).toArray]) Tryz.func52 E Tryz.ntmps52 E fun a G=>?_
 refine aG ?_
 refine aD ?_
 refine aN G E E E (dA G E E E fun c1 w i2 d5=>?_)
 have H:=H.plus d5
 intro a G
 refine aN G E E E (dA G E E E fun c2 w i3 d6=>?_)
 have H:=H.plus d6
 intro a G
 refine aN G E E E (bN z54 (zs:=RState.zero.enc) E E fun c3 w i4 d7=>?_)
 have H:=H.plus d7
 replace H:MemL _ (pt c3 (RState.enc zSt) 54::pt c2 (RMark.enc (mMk x1 s9 s11 s13 s17)) 60::pt c1 (RState.enc (mSt x0 s1 s3 s7)) 54::Lr):=H
 intro a G
 refine aA G (aH G E E) E E E fun a G=>?_
 refine aJ (aB ?_)
 refine aG ?_
 refine aG ?_
 refine aD ?_
 refine aA G (aQ qA54 qS54 G E E (RState.len _) (H.cells (i:=2) E (aY (RState.len _)))) E E E fun a G=>?_
 refine aA G (aQ qA60 qS60 G E E (RMark.len _) (H.cells (i:=1) E (aY (RMark.len _)))) E E E fun a G=>?_
 obtain ⟨y89,hy89,I⟩:=bind_some I
 refine aN G E E E (aO (xs:=[.tmp 7,.tmp 8]) Tryz.call125 G E E (lM hy89 H (Bf:=Bf) (fun w H=>S _ (dropM H 3)) f2 f5 q6 f8 f10 f12 f15 q16 f18) fun v w hR=>?_)
 obtain ⟨rfl,H⟩:=hR
 replace H:MemL _ (pt c3 (RState.enc zSt) 54::pt c2 (RMark.enc (mMk x1 s9 s11 s13 s17)) 60::pt c1 (RState.enc (mSt x0 s1 s3 s7)) 54::Lr):=H
 intro a G
 refine aA G (aH G E E) E E E fun a G=>?_
 refine aJ (aB ?_)
 refine aG ?_
 refine aD ?_
 refine aA G (aF G E E) E E E fun a G=>?_
 refine aA G (dD G E E E) E E E fun a G=>?_
 refine aJ (aB ?_)
 refine aT G (c:=.tmp 11) E (fun hb90=>?_) (fun hb90=>?_)
 ·have I:=Fx.cT hb90 I
  refine aG ?_
  refine aD ?_
  refine aA G (cB z54 qU54 pl54 G (parts:=[]) E E cN) E E E fun a G=>?_
  refine aA G (aF G E E) E E E fun a G=>?_
  refine bD E E (aX (vs:=_) qS54 (H.obj (i:=0) E) G E E E E (RState.len _) (RState.one _) (by first | (rw [RState.len,RState.len]; decide) | (rw [RState.len]; decide)) (bE ((RState.len _).trans (RState.len _).symm)) fun w hU91=>?_)
  have H:=H.chg hU91 (i:=0) rfl
  replace H:MemL _ (pt c3 (RState.enc zSt) 54::pt c2 (RMark.enc (mMk x1 s9 s11 s13 s17)) 60::pt c1 (RState.enc (mSt x0 s1 s3 s7)) 54::Lr):=H
  refine aA G (aH G E E) E E E fun a G=>?_
  refine aJ (aB ?_)
  refine c_ret ?_
  have H:=H.rowNil (X:=UInt8) 0 5
  obtain ⟨r94,H⟩:=voidM H
  have q95:Each (LIn (X:=UInt8) r94.holds') ([]:List SV) ([]:List (List UInt8)):=Each.nil
  have H:=H.rowNil (X:=SV) 0 23
  have H:=H.rowNil (X:=Int) 0 3
  have I:=oI I
  subst I
  refine dJ (rs:=[.cell 4 54,.tmp 5]) Tryz.results52 G (bZ G E qA54 qS54 (RState.len _) (H.cells (i:=4) E (aY (RState.len _))) (cL G E cI)) E ?_
  exact ⟨SV.nil,SV.nil,[],r94,SV.nil,E,q95,selM H [3,1,2,0] 7 E⟩
 have I:=Fx.cF hb90 I
 refine aW (aB ?_)
 refine aG ?_
 refine aG ?_
 refine aV G H I (fun F x a w=>match x with | d3=>Fr 45 [(26,.bool d3),(2,.pointer (some ⟨c1,0,none⟩)),(3,.pointer (some ⟨c2,0,none⟩)),(4,.pointer (some ⟨c3,0,none⟩)),(5,.int .i64 0)] a ∧ MemL w (pt c3 (RState.enc zSt) 54::pt c2 (RMark.enc (mMk x1 s9 s11 s13 s17)) 60::pt c1 (RState.enc (mSt x0 s1 s3 s7)) 54::Lr)) (fun i6 I i5 G H=>?_) ?_
 ·refine aD ?_
  refine aA G (aC (off':=465) qU54 E in4 E G E E E) E E E fun a G=>?_
  refine aA G (aI qA4 G E E (H.cell (i:=2) E (RState.g_done _))) E E E fun a G=>?_
  refine aA G (aF G E E) E E E fun a G=>?_
  refine bG 16 G E (fun c7=>?_) (fun c7=>?_)
  ·have I:=Fx.cT c7 I
   refine aE G E E E c7 E E fun a G=>?_
   refine aE G E E E c7 E E fun a G=>?_
   refine aE G E E E c7 E E fun a G=>?_
   refine aA G (aP G E E c7 E) E E E fun a G=>?_
   refine aA G (aF G E E) E E E fun a G=>?_
   refine aE G E E E E E E fun a G=>?_
   refine aE G E E E E E E fun a G=>?_
   refine aE G E E E E E E fun a G=>?_
   refine aE G E E E E E E fun a G=>?_
   refine aA G (aP G E E E E) E E E fun a G=>?_
   refine aJ (aB ?_)
   have I:=oI I
   subst I
   exact ⟨true,E,G.to ⟨E,E,E,E,E,trivial⟩,H⟩
  have I:=Fx.cF c7 I
  refine aL G E E E c7 (aC (off':=464) qU54 E in3 E G E E E) E E fun a G=>?_
  refine aL G E E E c7 (aI qA3 G E E (H.cell (i:=2) E (RState.g_steps _))) E E fun a G=>?_
  refine aL G E E E c7 (dG G E E E) E E fun a G=>?_
  refine aA G (aZ G E E c7 E) E E E fun a G=>?_
  refine aA G (aF G E E) E E E fun a G=>?_
  refine bG 21 G E (fun c4=>?_) (fun c4=>?_)
  ·have I:=Fx.cT c4 I
   refine aE G E E E c4 E E fun a G=>?_
   refine aE G E E E c4 E E fun a G=>?_
   refine aE G E E E c4 E E fun a G=>?_
   refine aE G E E E c4 E E fun a G=>?_
   refine aA G (aP G E E c4 E) E E E fun a G=>?_
   refine aJ (aB ?_)
   have I:=oI I
   subst I
   exact ⟨true,E,G.to ⟨E,E,E,E,E,trivial⟩,H⟩
  have I:=Fx.cF c4 I
  refine aL G E E E c4 (aQ qA54 qS54 G E E (RState.len _) (H.cells (i:=2) E (aY (RState.len _)))) E E fun a G=>?_
  refine aL G E E E c4 (aQ qA60 qS60 G E E (RMark.len _) (H.cells (i:=1) E (aY (RMark.len _)))) E E fun a G=>?_
  obtain ⟨i1,g7,I⟩:=bind_some I
  refine dV G E E E c4 E E (aO (xs:=[.tmp 22,.tmp 23]) Tryz.call126 G E E (mJ g7 H (Bf:=Bf) (fun w H=>S _ (dropM H 3)) f2 f5 q6 f8 f10 f12 f15 q16 f18) fun v w hR=>?_)
  obtain ⟨rfl,H⟩:=hR
  replace H:MemL _ (pt c3 (RState.enc zSt) 54::pt c2 (RMark.enc (mMk x1 s9 s11 s13 s17)) 60::pt c1 (RState.enc (mSt x0 s1 s3 s7)) 54::Lr):=H
  intro a G
  refine aL G E E E c4 (dF G E E) E E fun a G=>?_
  refine aA G (aZ G E E c4 E) E E E fun a G=>?_
  refine aJ (aB ?_)
  have I:=oI I
  subst I
  exact ⟨(!i1),E,G.to ⟨E,E,E,E,E,trivial⟩,H⟩
 rintro d3 a w I ⟨G,H⟩
 replace I:Sh.qG x0 x1 d3 = _:=I
 unfold Sh.qG at I
 refine aB ?_
 refine aT G (c:=.tmp 26) E (fun d2=>?_) (fun d2=>?_)
 ·have I:=Fx.cT d2 I
  refine aG ?_
  refine aD ?_
  refine aA G (cB z54 qU54 pl54 G (parts:=[]) E E cN) E E E fun a G=>?_
  refine bD E E (aX (vs:=_) qS54 (H.obj (i:=0) E) G E E E E (RState.len _) (RState.one _) (by first | (rw [RState.len,RState.len]; decide) | (rw [RState.len]; decide)) (bE ((RState.len _).trans (RState.len _).symm)) fun w g0=>?_)
  have H:=H.chg g0 (i:=0) rfl
  replace H:MemL _ (pt c3 (RState.enc zSt) 54::pt c2 (RMark.enc (mMk x1 s9 s11 s13 s17)) 60::pt c1 (RState.enc (mSt x0 s1 s3 s7)) 54::Lr):=H
  refine aA G (aH G E E) E E E fun a G=>?_
  refine aJ (aB ?_)
  refine c_ret ?_
  have H:=H.rowNil (X:=UInt8) 0 5
  obtain ⟨d9,H⟩:=voidM H
  have g9:Each (LIn (X:=UInt8) d9.holds') ([]:List SV) ([]:List (List UInt8)):=Each.nil
  have H:=H.rowNil (X:=SV) 0 23
  have H:=H.rowNil (X:=Int) 0 3
  have I:=oI I
  subst I
  refine dJ (rs:=[.cell 4 54,.tmp 5]) Tryz.results52 G (bZ G E qA54 qS54 (RState.len _) (H.cells (i:=4) E (aY (RState.len _))) (cL G E cI)) E ?_
  exact ⟨SV.nil,SV.nil,[],d9,SV.nil,E,g9,selM H [3,1,2,0] 7 E⟩
 have I:=Fx.cF d2 I
 refine aW (aB ?_)
 refine aG ?_
 refine aD ?_
 refine aA G (aQ qA54 qS54 G E E (RState.len _) (H.cells (i:=2) E (aY (RState.len _)))) E E E fun a G=>?_
 refine aA G (aQ qA60 qS60 G E E (RMark.len _) (H.cells (i:=1) E (aY (RMark.len _)))) E E E fun a G=>?_
 obtain ⟨c0,g8,I⟩:=bind_some I
 refine aN G E E E (aO (xs:=[.tmp 28,.tmp 29]) Tryz.call127 G E E (lE g8 H (Bf:=Bf) (fun w H=>S _ (dropM H 3)) f2 f5 q6 f8 f10 f12 f15 q16 f18) fun v w hR=>?_)
 obtain ⟨c5,c6,c8,c9,d0,rfl,i0,H⟩:=hR
 replace H:MemL _ (rowL 0 c5 5 c0.ctx::rowL 0 c6 23 c8::c9::rowL 0 d0 3 c0.sent::pt c3 (RState.enc zSt) 54::pt c2 (RMark.enc (mMk x1 s9 s11 s13 s17)) 60::pt c1 (RState.enc (mSt x0 s1 s3 s7)) 54::Lr):=H
 intro a G
 refine bD E E (aX (vs:=_) qS54 (H.obj (i:=6) E) G E E E E (RState.len _) (RState.one _) (by first | (rw [RState.len,RState.len]; decide) | (rw [RState.len]; decide)) (bE ((RState.len _).trans (RState.len _).symm)) fun w g1=>?_)
 have H:=H.chg g1 (i:=6) rfl
 replace H:MemL _ (rowL 0 c5 5 c0.ctx::rowL 0 c6 23 c8::c9::rowL 0 d0 3 c0.sent::pt c3 (RState.enc zSt) 54::pt c2 (RMark.enc (mMk x1 s9 s11 s13 s17)) 60::pt c1 (RState.enc (mSt c0 c5 c6 d0)) 54::Lr):=H
 refine aJ (aB ?_)
 refine aG ?_
 refine aD ?_
 refine aA G (aC (off':=2) qU60 E in4 E G E E E) E E E fun a G=>?_
 refine aA G (aI qA4 G E E (H.cell (i:=5) E (RMark.g_done _))) E E E fun a G=>?_
 refine aA G (aC (off':=465) qU54 E in4 E G E E E) E E E fun a G=>?_
 refine bD E E (bI Tryz.sizeOf4 (H.obj (i:=6) E) G E E E E (by rw [RState.len]; decide) (RState.s_done _ _) fun w g2=>?_)
 have H:=H.chg g2 (i:=6) rfl
 replace H:MemL _ (rowL 0 c5 5 c0.ctx::rowL 0 c6 23 c8::c9::rowL 0 d0 3 c0.sent::pt c3 (RState.enc zSt) 54::pt c2 (RMark.enc (mMk x1 s9 s11 s13 s17)) 60::pt c1 (RState.enc (RState.mk c0.regs c0.stack c5 c6 d0 c0.at_ c0.steps x1.done)) 54::Lr):=H
 refine aJ (aB ?_)
 refine aG ?_
 refine aD ?_
 refine aA G (aC (off':=464) qU54 E in3 E G E E E) E E E fun a G=>?_
 refine aA G (aI qA3 G E E (H.cell (i:=6) E (RState.g_steps _))) E E E fun a G=>?_
 refine aA G (bW G E E E) E E E fun a G=>?_
 refine aA G (aC (off':=464) qU54 E in3 E G E E E) E E E fun a G=>?_
 refine bD E E (bI qS3 (H.obj (i:=6) E) G E E E E (by rw [RState.len]; decide) (RState.s_steps _ _) fun w g3=>?_)
 have H:=H.chg g3 (i:=6) rfl
 replace H:MemL _ (rowL 0 c5 5 c0.ctx::rowL 0 c6 23 c8::c9::rowL 0 d0 3 c0.sent::pt c3 (RState.enc zSt) 54::pt c2 (RMark.enc (mMk x1 s9 s11 s13 s17)) 60::pt c1 (RState.enc (RState.mk c0.regs c0.stack c5 c6 d0 c0.at_ (IntKind.i64.wrap (c0.steps + 1)) x1.done)) 54::Lr):=H
 refine aJ (aB ?_)
 refine aG ?_
 refine aD ?_
 refine aA G (aC (off':=462) qU54 E in52 E G E E E) E E E fun a G=>?_
 refine aA G (aI qA52 G E E (H.cell (i:=6) E (RState.g_sent _))) E E E fun a G=>?_
 refine aA G (aC (off':=6) qU60 E in52 E G E E E) E E E fun a G=>?_
 refine aA G (aI qA52 G E E (H.cell (i:=5) E (RMark.g_sent _))) E E E fun a G=>?_
 obtain ⟨d4,g6,I⟩:=bind_some I
 refine aN G E E E (dC (X:=Int) g6 qU52 in3 E E E E G E E E (H.own (X:=Int) (i:=3) E) (f18 _ (S _ (dropM H 7))) fun d1 w d8=>?_)
 have H:=H.chg d8 (i:=3) rfl
 replace H:MemL _ (rowL 0 c5 5 c0.ctx::rowL 0 c6 23 c8::c9::rowL 0 d1 3 d4::pt c3 (RState.enc zSt) 54::pt c2 (RMark.enc (mMk x1 s9 s11 s13 s17)) 60::pt c1 (RState.enc (RState.mk c0.regs c0.stack c5 c6 d0 c0.at_ (IntKind.i64.wrap (c0.steps + 1)) x1.done)) 54::Lr):=H
 intro a G
 refine aA G (aC (off':=462) qU54 E in52 E G E E E) E E E fun a G=>?_
 refine bD E E (bI qS52 (H.obj (i:=6) E) G E E E E (by rw [RState.len]; decide) (RState.s_sent _ _) fun w g4=>?_)
 have H:=H.chg g4 (i:=6) rfl
 replace H:MemL _ (rowL 0 c5 5 c0.ctx::rowL 0 c6 23 c8::c9::rowL 0 d1 3 d4::pt c3 (RState.enc zSt) 54::pt c2 (RMark.enc (mMk x1 s9 s11 s13 s17)) 60::pt c1 (RState.enc (RState.mk c0.regs c0.stack c5 c6 d1 c0.at_ (IntKind.i64.wrap (c0.steps + 1)) x1.done)) 54::Lr):=H
 refine aJ (aB ?_)
 refine aG ?_
 refine aD ?_
 refine aA G (aQ qA54 qS54 G E E (RState.len _) (H.cells (i:=6) E (aY (RState.len _)))) E E E fun a G=>?_
 refine bD E E (aX (vs:=_) qS54 (H.obj (i:=4) E) G E E E E (RState.len _) (RState.one _) (by first | (rw [RState.len,RState.len]; decide) | (rw [RState.len]; decide)) (bE ((RState.len _).trans (RState.len _).symm)) fun w g5=>?_)
 have H:=H.chg g5 (i:=4) rfl
 replace H:MemL _ (rowL 0 c5 5 c0.ctx::rowL 0 c6 23 c8::c9::rowL 0 d1 3 d4::pt c3 (RState.enc (RState.mk c0.regs c0.stack c5 c6 d1 c0.at_ (IntKind.i64.wrap (c0.steps + 1)) x1.done)) 54::pt c2 (RMark.enc (mMk x1 s9 s11 s13 s17)) 60::pt c1 (RState.enc (RState.mk c0.regs c0.stack c5 c6 d1 c0.at_ (IntKind.i64.wrap (c0.steps + 1)) x1.done)) 54::Lr):=H
 refine aA G (aH G E E) E E E fun a G=>?_
 refine aJ (aB ?_)
 refine c_ret ?_
 have I:=oI I
 subst I
 refine dJ (rs:=[.cell 4 54,.tmp 5]) Tryz.results52 G (bZ G E qA54 qS54 (RState.len _) (H.cells (i:=4) E (aY (RState.len _))) (cL G E cI)) E ?_
 exact ⟨c5,c6,c8,c9,d1,E,i0,selM H [0,1,2,3] 7 E⟩
set_option maxHeartbeats 4000000 in
theorem lB {x0:QState} {x1:QMark} {x2:Bool} {s1:SV} {s3:SV} {hs4:List SV} {s7:SV} {s9:SV} {s11:SV} {s13:SV} {hs14:List RPiece} {s17:SV} {out:Bool} {w0:World} {Bf:World → Prop} {Lr:List Res} (I:Sh.lI x0 x1 x2 = some out) (H:MemL w0 (Lr)) (S:∀ w,MemL w Lr → Bf w) (f2:LIn Bf s1 x0.ctx) (f5:LIn Bf s3 hs4) (q6:Each (LIn (X:=UInt8) Bf) hs4 x0.tables) (f8:LIn Bf s7 x0.sent) (f10:LIn Bf s9 x1.regs) (f12:LIn Bf s11 x1.slots) (f15:LIn Bf s13 hs14) (q16:Each (QPieceIn Bf) hs14 x1.pieces) (f18:LIn Bf s17 x1.sent):Calls Tryz.prog 136 #[.agg (RState.enc (mSt x0 s1 s3 s7)).toArray,.agg (RMark.enc (mMk x1 s9 s11 s13 s17)).toArray,.bool x2] w0 (Ret fun v w'=>v = .bool out ∧ MemL w' (Lr)):=by
 unfold Sh.lI at I
 refine aR (vs:=[.agg (RState.enc (mSt x0 s1 s3 s7)).toArray,.agg (RMark.enc (mMk x1 s9 s11 s13 s17)).toArray,.bool x2]) Tryz.func136 E Tryz.ntmps136 E fun a G=>?_
 refine aG ?_
 refine aD ?_
 refine aN G E E E (dA G E E E fun c0 w n0 i5=>?_)
 have H:=H.plus i5
 intro a G
 refine aN G E E E (dA G E E E fun c1 w n1 i6=>?_)
 have H:=H.plus i6
 replace H:MemL _ (pt c1 (RMark.enc (mMk x1 s9 s11 s13 s17)) 60::pt c0 (RState.enc (mSt x0 s1 s3 s7)) 54::Lr):=H
 intro a G
 refine aA G (aH G E E) E E E fun a G=>?_
 refine aJ (aB ?_)
 refine aG ?_
 refine aV G H I (fun F x a w=>match x with | _=>Fr 129 [(2,.bool x2),(3,.pointer (some ⟨c0,0,none⟩)),(4,.pointer (some ⟨c1,0,none⟩)),(6,.bool false)] a ∧ MemL w (pt c1 (RMark.enc (mMk x1 s9 s11 s13 s17)) 60::pt c0 (RState.enc (mSt x0 s1 s3 s7)) 54::Lr)) (fun z3 I m6 G H=>?_) ?_
 ·refine aG ?_
  refine aD ?_
  refine aA G (aH G E E) E E E fun a G=>?_
  refine aJ (aB ?_)
  refine aU ?_
  refine bU G H I (fun F x a w=>match x with | c4=>Fr 129 [(7,.int .i64 c4),(2,.bool x2),(3,.pointer (some ⟨c0,0,none⟩)),(4,.pointer (some ⟨c1,0,none⟩)),(6,.bool false)] a ∧ MemL w (pt c1 (RMark.enc (mMk x1 s9 s11 s13 s17)) 60::pt c0 (RState.enc (mSt x0 s1 s3 s7)) 54::Lr)) (fun G H=>⟨G.to ⟨E,E,E,E,E,trivial⟩,H⟩) ?_
  rintro c4 a w z8 I i8 ⟨G,H⟩
  replace I:Sh.jI x0 x1 x2 c4 = _:=I
  unfold Sh.jI at I
  refine aG ?_
  refine aG ?_
  refine aD ?_
  refine aA G (aF G E E) E E E fun a G=>?_
  refine aA G (aC (off':=3) qU60 E in56 E G E E E) E E E fun a G=>?_
  refine aA G (aI qA56 G E E (H.cell (i:=0) E (RMark.g_regs _))) E E E fun a G=>?_
  refine aA G (bQ (f10 _ (S _ (dropM H 2))) qU56 G E E) E E E fun a G=>?_
  refine aA G (cK G E E E) E E E fun a G=>?_
  refine aJ (aB ?_)
  refine aT G (c:=.tmp 17) E (fun c7=>?_) (fun c7=>?_)
  ·have I:=Fx.cT c7 I
   refine aW (aB ?_)
   refine aG ?_
   refine aU ?_
   refine aG ?_
   refine bM mixed (by kernel_rfl) H [0,1] 2 E fun K=>?_
   refine aK G K 0 E (by kernel_rfl) E E E (fun w H=>(aC (off':=3) qU60 E in56 E G E E E)) fun a G=>?_
   refine aK G K 1 E (by kernel_rfl) E E E (fun w H=>(aI qA56 G E E (H.cell (i:=0) E (RMark.g_regs _)))) fun a G=>?_
   refine aK G K 2 E (by kernel_rfl) E E E (fun w H=>(aF G E E)) fun a G=>?_
   obtain ⟨u0,g4,I⟩:=bind_some I
   have j1:=aM g4
   refine aK G K 3 E (by kernel_rfl) E E E (fun w H=>(aS (sz:=9) (f10 _ (S _ (dropM H 2))) qU56 in128 E G E E E (bH g4))) fun a G=>?_
   refine aK G K 4 E (by kernel_rfl) E E E (fun w H=>(aC qU128 E in3 E G E E E)) fun a G=>?_
   refine aK G K 5 E (by kernel_rfl) E E E (fun w H=>(aI qA3 G E E ((((f10 _ (S _ (dropM H 2))).elemS j1.2)).get 0 (LTurn.g_reg _)))) fun a G=>?_
   refine aK G K 6 E (by kernel_rfl) E E E (fun w H=>(aC (off':=0) qU54 E in47 E G E E E)) fun a G=>?_
   obtain ⟨u1,d5,I⟩:=bind_some I
   have n3:=aM d5
   refine aK G K 7 E (by kernel_rfl) E E E (fun w H=>(cP (sz:=4) qU47 in46 E G E E E (cU d5))) fun a G=>?_
   refine aK G K 8 E (by kernel_rfl) E E E (fun w H=>(aQ qA46 qS46 G E E (LVal.len _) (H.cells (i:=1) E (RState.ci_regs _ _ _ (aM d5).2)))) fun a G=>?_
   refine aK G K 9 E (by kernel_rfl) E E E (fun w H=>(aC (off':=3) qU60 E in56 E G E E E)) fun a G=>?_
   refine aK G K 10 E (by kernel_rfl) E E E (fun w H=>(aI qA56 G E E (H.cell (i:=0) E (RMark.g_regs _)))) fun a G=>?_
   refine aK G K 11 E (by kernel_rfl) E E E (fun w H=>(aF G E E)) fun a G=>?_
   obtain ⟨u2,g5,I⟩:=bind_some I
   have j2:=aM g5
   refine aK G K 12 E (by kernel_rfl) E E E (fun w H=>(aS (sz:=9) (f10 _ (S _ (dropM H 2))) qU56 in128 E G E E E (bH g5))) fun a G=>?_
   refine aK G K 13 E (by kernel_rfl) E E E (fun w H=>(aQ qA128 qS128 G E E (LTurn.len _) (((f10 _ (S _ (dropM H 2))).elemS j2.2)))) fun a G=>?_
   refine aK G K 14 E (by kernel_rfl) E E E (fun w H=>(aF G E E)) fun a G=>?_
   refine bF K 15 (by kernel_rfl) E E ?_
   refine bY G 15 E E E E E fun w hMs H=>?_
   obtain ⟨z1,l9,I⟩:=bind_some I
   refine (aO (xs:=[.tmp 33,.tmp 34]) Tryz.call199 G E E (nF l9 H ) fun v w hR=>?_)
   obtain ⟨rfl,H⟩:=hR
   replace H:MemL _ (pt c1 (RMark.enc (mMk x1 s9 s11 s13 s17)) 60::pt c0 (RState.enc (mSt x0 s1 s3 s7)) 54::Lr):=H
   have hMs:=selM H [0,1] 2 rfl
   refine ⟨_,_,hMs,H,.inl fun _ h=>h,fun a G=>?_⟩
   refine aK G K 16 E (by kernel_rfl) E E E (fun w H=>(jQ qG46 (gA _ _ _ _ (by decide)) G E E E)) fun a G=>?_
   refine bV K (by kernel_rfl) fun w H=>?_
   refine aB ?_
   refine aT G (c:=.tmp 36) E (fun c8=>?_) (fun c8=>?_)
   ·have I:=Fx.cT c8 I
    refine aG ?_
    refine aD ?_
    refine aA G (aH G E E) E E E fun a G=>?_
    refine aJ (aB ?_)
    refine c_ret ?_
    have I:=oI I
    subst I
    have I:=i8 _ rfl
    subst I
    have I:=dE m6
    subst I
    refine bJ qR136 G E ?_
    exact ⟨E,selM H [] 2 E⟩
   have I:=Fx.cF c8 I
   refine aW (bK (aB ?_))
   refine aD ?_
   refine aA G (aF G E E) E E E fun a G=>?_
   refine aA G (bW G E E E) E E E fun a G=>?_
   refine aA G (aH G E E) E E E fun a G=>?_
   refine aJ (aB ?_)
   have I:=oI I
   subst I
   exact ⟨(IntKind.i64.wrap (c4 + 1)),E,G.to ⟨E,E,E,E,E,trivial⟩,H⟩
  have I:=Fx.cF c7 I
  refine bX (bC (bC (cO ?_)))
  refine aB ?_
  have I:=oI I
  subst I
  have I:=i8 _ rfl
  subst I
  exact ⟨(),E,G.to ⟨E,E,E,E,trivial⟩,H⟩
 rintro ⟨⟩ a w I ⟨G,H⟩
 replace I:Sh.oY x0 x1 x2 = _:=I
 unfold Sh.oY at I
 refine aB ?_
 refine aG ?_
 refine aV G H I (fun F x a w=>match x with | _=>Fr 129 [(2,.bool x2),(3,.pointer (some ⟨c0,0,none⟩)),(4,.pointer (some ⟨c1,0,none⟩)),(6,.bool false)] a ∧ MemL w (pt c1 (RMark.enc (mMk x1 s9 s11 s13 s17)) 60::pt c0 (RState.enc (mSt x0 s1 s3 s7)) 54::Lr)) (fun z4 I m7 G H=>?_) ?_
 ·refine aG ?_
  refine aD ?_
  refine aA G (aH G E E) E E E fun a G=>?_
  refine aJ (aB ?_)
  refine aU ?_
  refine bU G H I (fun F x a w=>match x with | c5=>Fr 129 [(8,.int .i64 c5),(2,.bool x2),(3,.pointer (some ⟨c0,0,none⟩)),(4,.pointer (some ⟨c1,0,none⟩)),(6,.bool false)] a ∧ MemL w (pt c1 (RMark.enc (mMk x1 s9 s11 s13 s17)) 60::pt c0 (RState.enc (mSt x0 s1 s3 s7)) 54::Lr)) (fun G H=>⟨G.to ⟨E,E,E,E,E,trivial⟩,H⟩) ?_
  rintro c5 a w z9 I i9 ⟨G,H⟩
  replace I:Sh.jJ x0 x1 x2 c5 = _:=I
  unfold Sh.jJ at I
  refine aG ?_
  refine aG ?_
  refine aD ?_
  refine aA G (aF G E E) E E E fun a G=>?_
  refine aA G (aC (off':=4) qU60 E in57 E G E E E) E E E fun a G=>?_
  refine aA G (aI qA57 G E E (H.cell (i:=0) E (RMark.g_slots _))) E E E fun a G=>?_
  refine aA G (bQ (f12 _ (S _ (dropM H 2))) qU57 G E E) E E E fun a G=>?_
  refine aA G (cK G E E E) E E E fun a G=>?_
  refine aJ (aB ?_)
  refine aT G (c:=.tmp 41) E (fun c9=>?_) (fun c9=>?_)
  ·have I:=Fx.cT c9 I
   refine aW (aB ?_)
   refine aG ?_
   refine aU ?_
   refine aG ?_
   refine bM mixed (by kernel_rfl) H [0,1] 2 E fun K=>?_
   refine aK G K 0 E (by kernel_rfl) E E E (fun w H=>(aC (off':=4) qU60 E in57 E G E E E)) fun a G=>?_
   refine aK G K 1 E (by kernel_rfl) E E E (fun w H=>(aI qA57 G E E (H.cell (i:=0) E (RMark.g_slots _)))) fun a G=>?_
   refine aK G K 2 E (by kernel_rfl) E E E (fun w H=>(aF G E E)) fun a G=>?_
   obtain ⟨u3,g6,I⟩:=bind_some I
   have j3:=aM g6
   refine aK G K 3 E (by kernel_rfl) E E E (fun w H=>(aS (sz:=27) (f12 _ (S _ (dropM H 2))) qU57 in151 E G E E E (bH g6))) fun a G=>?_
   refine aK G K 4 E (by kernel_rfl) E E E (fun w H=>(aC qU151 E in3 E G E E E)) fun a G=>?_
   refine aK G K 5 E (by kernel_rfl) E E E (fun w H=>(aI qA3 G E E ((((f12 _ (S _ (dropM H 2))).elemS j3.2)).get 0 (LCell.g_slot _)))) fun a G=>?_
   refine aK G K 6 E (by kernel_rfl) E E E (fun w H=>(aC (off':=44) qU54 E in51 E G E E E)) fun a G=>?_
   obtain ⟨u4,d6,I⟩:=bind_some I
   have n4:=aM d6
   refine aK G K 7 E (by kernel_rfl) E E E (fun w H=>(cP (sz:=13) qU51 in50 E G E E E (cU d6))) fun a G=>?_
   refine aK G K 8 E (by kernel_rfl) E E E (fun w H=>(aQ qA50 qS50 G E E (LSlot.len _) (H.cells (i:=1) E (RState.ci_stack _ _ _ (aM d6).2)))) fun a G=>?_
   refine aK G K 9 E (by kernel_rfl) E E E (fun w H=>(aC (off':=4) qU60 E in57 E G E E E)) fun a G=>?_
   refine aK G K 10 E (by kernel_rfl) E E E (fun w H=>(aI qA57 G E E (H.cell (i:=0) E (RMark.g_slots _)))) fun a G=>?_
   refine aK G K 11 E (by kernel_rfl) E E E (fun w H=>(aF G E E)) fun a G=>?_
   obtain ⟨u5,g7,I⟩:=bind_some I
   have j4:=aM g7
   refine aK G K 12 E (by kernel_rfl) E E E (fun w H=>(aS (sz:=27) (f12 _ (S _ (dropM H 2))) qU57 in151 E G E E E (bH g7))) fun a G=>?_
   refine aK G K 13 E (by kernel_rfl) E E E (fun w H=>(aQ qA151 qS151 G E E (LCell.len _) (((f12 _ (S _ (dropM H 2))).elemS j4.2)))) fun a G=>?_
   refine aK G K 14 E (by kernel_rfl) E E E (fun w H=>(aF G E E)) fun a G=>?_
   refine bF K 15 (by kernel_rfl) E E ?_
   refine bY G 15 E E E E E fun w hMs H=>?_
   obtain ⟨z2,m0,I⟩:=bind_some I
   refine (aO (xs:=[.tmp 57,.tmp 58]) Tryz.call200 G E E (mD m0 H ) fun v w hR=>?_)
   obtain ⟨rfl,H⟩:=hR
   replace H:MemL _ (pt c1 (RMark.enc (mMk x1 s9 s11 s13 s17)) 60::pt c0 (RState.enc (mSt x0 s1 s3 s7)) 54::Lr):=H
   have hMs:=selM H [0,1] 2 rfl
   refine ⟨_,_,hMs,H,.inl fun _ h=>h,fun a G=>?_⟩
   refine aK G K 16 E (by kernel_rfl) E E E (fun w H=>(jQ qG50 (gR _ _ _ _ (by decide)) G E E E)) fun a G=>?_
   refine bV K (by kernel_rfl) fun w H=>?_
   refine aB ?_
   refine aT G (c:=.tmp 60) E (fun d0=>?_) (fun d0=>?_)
   ·have I:=Fx.cT d0 I
    refine aG ?_
    refine aD ?_
    refine aA G (aH G E E) E E E fun a G=>?_
    refine aJ (aB ?_)
    refine c_ret ?_
    have I:=oI I
    subst I
    have I:=i9 _ rfl
    subst I
    have I:=dE m7
    subst I
    refine bJ qR136 G E ?_
    exact ⟨E,selM H [] 2 E⟩
   have I:=Fx.cF d0 I
   refine aW (bK (aB ?_))
   refine aD ?_
   refine aA G (aF G E E) E E E fun a G=>?_
   refine aA G (bW G E E E) E E E fun a G=>?_
   refine aA G (aH G E E) E E E fun a G=>?_
   refine aJ (aB ?_)
   have I:=oI I
   subst I
   exact ⟨(IntKind.i64.wrap (c5 + 1)),E,G.to ⟨E,E,E,E,E,trivial⟩,H⟩
  have I:=Fx.cF c9 I
  refine bX (bC (bC (cO ?_)))
  refine aB ?_
  have I:=oI I
  subst I
  have I:=i9 _ rfl
  subst I
  exact ⟨(),E,G.to ⟨E,E,E,E,trivial⟩,H⟩
 rintro ⟨⟩ a w I ⟨G,H⟩
 replace I:Sh.oZ x0 x1 x2 = _:=I
 unfold Sh.oZ at I
 refine aB ?_
 refine aG ?_
 refine aV G H I (fun F x a w=>match x with | _=>Fr 129 [(6,.bool false)] a ∧ MemL w (Lr)) (fun z5 I i7 G H=>?_) ?_
 ·refine aG ?_
  refine aD ?_
  refine aA G (aH G E E) E E E fun a G=>?_
  refine aJ (aB ?_)
  refine aU ?_
  refine bU G H I (fun F x a w=>match x with | c3=>Fr 129 [(9,.int .i64 c3),(2,.bool x2),(3,.pointer (some ⟨c0,0,none⟩)),(4,.pointer (some ⟨c1,0,none⟩)),(6,.bool false)] a ∧ MemL w (pt c1 (RMark.enc (mMk x1 s9 s11 s13 s17)) 60::pt c0 (RState.enc (mSt x0 s1 s3 s7)) 54::Lr)) (fun G H=>⟨G.to ⟨E,E,E,E,E,trivial⟩,H⟩) ?_
  rintro c3 a w c10 I d9 ⟨G,H⟩
  replace I:Sh.jK x0 x1 x2 c3 = _:=I
  unfold Sh.jK at I
  refine aG ?_
  refine aG ?_
  refine aD ?_
  refine aA G (aF G E E) E E E fun a G=>?_
  refine aA G (aC (off':=5) qU60 E in58 E G E E E) E E E fun a G=>?_
  refine aA G (aI qA58 G E E (H.cell (i:=0) E (RMark.g_pieces _))) E E E fun a G=>?_
  refine aA G (cQ (f15 _ (S _ (dropM H 2))) q16.len qU58 G E E) E E E fun a G=>?_
  refine aA G (cK G E E E) E E E fun a G=>?_
  refine aJ (aB ?_)
  refine aT G (c:=.tmp 65) E (fun d1=>?_) (fun d1=>?_)
  ·have I:=Fx.cT d1 I
   refine aW (aB ?_)
   refine aG ?_
   refine aU ?_
   refine aG ?_
   refine aD ?_
   refine aA G (aC (off':=5) qU60 E in58 E G E E E) E E E fun a G=>?_
   refine aA G (aI qA58 G E E (H.cell (i:=0) E (RMark.g_pieces _))) E E E fun a G=>?_
   refine aA G (aF G E E) E E E fun a G=>?_
   obtain ⟨u6,g8,I⟩:=bind_some I
   have j5:=aM g8
   obtain ⟨n5,k7,l3⟩:=Each.getr q16 j5.2
   have k1:=Each.bd q16 (bH g8)
   obtain ⟨t0,t1,rfl,m3,m4⟩:=l3
   refine aA G (aS (sz:=4) (f15 _ (S _ (dropM H 2))) qU58 in156 E G E E E k1) E E E fun a G=>?_
   refine aA G (aQ qA156 qS156 G E E (RPiece.len _) (((f15 _ (S _ (dropM H 2))).elemS k7))) E E E fun a G=>?_
   refine aA G (aF G E E) E E E fun a G=>?_
   obtain ⟨g3,m1,I⟩:=bind_some I
   refine aN G E E E (aO (xs:=[.tmp 72,.tmp 73]) Tryz.call201 G E E (lK m1 H (Bf:=Bf) (fun w H=>S _ (dropM H 2)) m3 m4) fun v w hR=>?_)
   obtain ⟨m8,rfl,d7,H⟩:=hR
   replace H:MemL _ (pt c1 (RMark.enc (mMk x1 s9 s11 s13 s17)) 60::pt c0 (RState.enc (mSt x0 s1 s3 s7)) 54::Lr):=H
   intro a G
   refine aA G (aH G E E) E E E fun a G=>?_
   refine aJ (aB ?_)
   refine aG ?_
   refine aD ?_
   refine aA G (aC (off':=460) qU54 E in23 E G E E E) E E E fun a G=>?_
   refine aA G (aI qA23 G E E (H.cell (i:=1) E (RState.g_ctx _))) E E E fun a G=>?_
   refine aA G (aH G E E) E E E fun a G=>?_
   refine aJ (aB ?_)
   refine aG ?_
   refine aG ?_
   refine bM mixed (by kernel_rfl) H [0,1] 2 E fun K=>?_
   refine aK G K 0 E (by kernel_rfl) E E E (fun w H=>(aC (off':=5) qU60 E in58 E G E E E)) fun a G=>?_
   refine aK G K 1 E (by kernel_rfl) E E E (fun w H=>(aI qA58 G E E (H.cell (i:=0) E (RMark.g_pieces _)))) fun a G=>?_
   refine aK G K 2 E (by kernel_rfl) E E E (fun w H=>(aF G E E)) fun a G=>?_
   obtain ⟨u7,g9,I⟩:=bind_some I
   have j6:=aM g9
   obtain ⟨n6,k8,l4⟩:=Each.getr q16 j6.2
   have k2:=Each.bd q16 (bH g9)
   obtain ⟨t2,t3,rfl,p0,p1⟩:=l4
   refine aK G K 3 E (by kernel_rfl) E E E (fun w H=>(aS (sz:=4) (f15 _ (S _ (dropM H 2))) qU58 in156 E G E E E k2)) fun a G=>?_
   refine aK G K 4 E (by kernel_rfl) E E E (fun w H=>(aC qU156 E in3 E G E E E)) fun a G=>?_
   refine aK G K 5 E (by kernel_rfl) E E E (fun w H=>(aI qA3 G E E ((((f15 _ (S _ (dropM H 2))).elemS k8)).get 0 (RPiece.g_table _)))) fun a G=>?_
   refine aK G K 6 E (by kernel_rfl) E E E (fun w H=>(aC (off':=461) qU54 E in28 E G E E E)) fun a G=>?_
   refine aK G K 7 E (by kernel_rfl) E E E (fun w H=>(aI qA28 G E E (H.cell (i:=1) E (RState.g_tables _)))) fun a G=>?_
   refine aK G K 8 E (by kernel_rfl) E E E (fun w H=>(cQ (f5 _ (S _ (dropM H 2))) q6.len qU28 G E E)) fun a G=>?_
   refine aK G K 9 E (by kernel_rfl) E E E (fun w H=>(jH G E E E)) fun a G=>?_
   refine bV K (by kernel_rfl) fun w H=>?_
   refine aB ?_
   refine aT G (c:=.tmp 86) E (fun d2=>?_) (fun d2=>?_)
   ·have I:=Fx.cT d2 I
    refine aG ?_
    refine aD ?_
    refine aA G (aH G E E) E E E fun a G=>?_
    refine aJ (aB ?_)
    refine c_ret ?_
    have I:=oI I
    subst I
    have I:=d9 _ rfl
    subst I
    have I:=dE i7
    subst I
    refine bJ qR136 G E ?_
    exact ⟨E,selM H [] 2 E⟩
   have I:=Fx.cF d2 I
   refine aW (aB ?_)
   refine aG ?_
   refine aV G H I (fun F x a w=>match x with | g1=>∃ (g0:SV),LIn Bf g0 g1 ∧ Fr 129 [(11,(g0).v),(10,(m8).v),(2,.bool x2),(3,.pointer (some ⟨c0,0,none⟩)),(4,.pointer (some ⟨c1,0,none⟩)),(6,.bool false),(9,.int .i64 c3)] a ∧ MemL w (pt c1 (RMark.enc (mMk x1 s9 s11 s13 s17)) 60::pt c0 (RState.enc (mSt x0 s1 s3 s7)) 54::Lr)) (fun z6 I p8 G H=>?_) ?_
   ·refine aG ?_
    refine aD ?_
    refine aA G (aC (off':=5) qU60 E in58 E G E E E) E E E fun a G=>?_
    refine aA G (aI qA58 G E E (H.cell (i:=0) E (RMark.g_pieces _))) E E E fun a G=>?_
    refine aA G (aF G E E) E E E fun a G=>?_
    obtain ⟨u8,i0,I⟩:=bind_some I
    have j7:=aM i0
    obtain ⟨n7,k9,l5⟩:=Each.getr q16 j7.2
    have k3:=Each.bd q16 (bH i0)
    obtain ⟨t4,t5,rfl,p2,p3⟩:=l5
    refine aA G (aS (sz:=4) (f15 _ (S _ (dropM H 2))) qU58 in156 E G E E E k3) E E E fun a G=>?_
    refine aA G (aC qU156 E in3 E G E E E) E E E fun a G=>?_
    refine aA G (aI qA3 G E E ((((f15 _ (S _ (dropM H 2))).elemS k9)).get 0 (RPiece.g_table _))) E E E fun a G=>?_
    refine aA G (jH G E E E) E E E fun a G=>?_
    refine aJ (aB ?_)
    refine aT G (c:=.tmp 93) E (fun d3=>?_) (fun d3=>?_)
    ·have I:=Fx.cT d3 I
     refine bM mixed (by kernel_rfl) H [0,1] 2 E fun K=>?_
     refine aK G K 0 E (by kernel_rfl) E E E (fun w H=>(aC (off':=461) qU54 E in28 E G E E E)) fun a G=>?_
     refine aK G K 1 E (by kernel_rfl) E E E (fun w H=>(aI qA28 G E E (H.cell (i:=1) E (RState.g_tables _)))) fun a G=>?_
     refine aK G K 2 E (by kernel_rfl) E E E (fun w H=>(aC (off':=5) qU60 E in58 E G E E E)) fun a G=>?_
     refine aK G K 3 E (by kernel_rfl) E E E (fun w H=>(aI qA58 G E E (H.cell (i:=0) E (RMark.g_pieces _)))) fun a G=>?_
     refine aK G K 4 E (by kernel_rfl) E E E (fun w H=>(aF G E E)) fun a G=>?_
     obtain ⟨u9,i1,I⟩:=bind_some I
     have j8:=aM i1
     obtain ⟨n8,l0,l6⟩:=Each.getr q16 j8.2
     have k4:=Each.bd q16 (bH i1)
     obtain ⟨t6,t7,rfl,p4,p5⟩:=l6
     refine aK G K 5 E (by kernel_rfl) E E E (fun w H=>(aS (sz:=4) (f15 _ (S _ (dropM H 2))) qU58 in156 E G E E E k4)) fun a G=>?_
     refine aK G K 6 E (by kernel_rfl) E E E (fun w H=>(aC qU156 E in3 E G E E E)) fun a G=>?_
     refine aK G K 7 E (by kernel_rfl) E E E (fun w H=>(aI qA3 G E E ((((f15 _ (S _ (dropM H 2))).elemS l0)).get 0 (RPiece.g_table _)))) fun a G=>?_
     obtain ⟨m9,i2,I⟩:=bind_some I
     have j9:=aM i2
     obtain ⟨m2,l1,l7⟩:=Each.getr q6 j9.2
     have k5:=Each.bd q6 (bH i2)
     refine aK G K 8 E (by kernel_rfl) E E E (fun w H=>(aS (sz:=1) (f5 _ (S _ (dropM H 2))) qU28 in23 E G E E E k5)) fun a G=>?_
     refine aK G K 9 E (by kernel_rfl) E E E (fun w H=>(aI qA23 G E E ((((f5 _ (S _ (dropM H 2))).elemS l1)).get 0 E))) fun a G=>?_
     refine aK G K 10 E (by kernel_rfl) E E E (fun w H=>(aH G E E)) fun a G=>?_
     refine bV K (by kernel_rfl) fun w H=>?_
     refine aB ?_
     have I:=oI I
     subst I
     exact ⟨m9,E,m2,l7,G.to ⟨E,E,E,E,E,E,E,trivial⟩,H⟩
    have I:=Fx.cF d3 I
    refine aW (aB ?_)
    have I:=oI I
    subst I
    exact ⟨x0.ctx,E,s1,f2,G.to ⟨E,E,E,E,E,E,E,trivial⟩,H⟩
   rintro g1 a w I ⟨g0,d8,G,H⟩
   replace I:Sh.pA x1 c3 g3 g1 = _:=I
   unfold Sh.pA at I
   refine aB ?_
   refine aG ?_
   refine aD ?_
   refine aA G (aC (off':=5) qU60 E in58 E G E E E) E E E fun a G=>?_
   refine aA G (aI qA58 G E E (H.cell (i:=0) E (RMark.g_pieces _))) E E E fun a G=>?_
   refine aA G (aF G E E) E E E fun a G=>?_
   obtain ⟨z0,i3,I⟩:=bind_some I
   have k0:=aM i3
   obtain ⟨n9,l2,l8⟩:=Each.getr q16 k0.2
   have k6:=Each.bd q16 (bH i3)
   obtain ⟨t8,t9,rfl,p6,p7⟩:=l8
   refine aA G (aS (sz:=4) (f15 _ (S _ (dropM H 2))) qU58 in156 E G E E E k6) E E E fun a G=>?_
   refine aA G (aC qU156 E in3 E G E E E) E E E fun a G=>?_
   refine aA G (aI qA3 G E E ((((f15 _ (S _ (dropM H 2))).elemS l2)).get 1 (RPiece.g_from_ _))) E E E fun a G=>?_
   refine aA G (aH G E E) E E E fun a G=>?_
   refine aJ (aB ?_)
   refine aG ?_
   refine aV G H I (fun F x a w=>match x with | g2=>Fr 129 [(128,.bool g2),(2,.bool x2),(3,.pointer (some ⟨c0,0,none⟩)),(4,.pointer (some ⟨c1,0,none⟩)),(6,.bool false),(9,.int .i64 c3)] a ∧ MemL w (pt c1 (RMark.enc (mMk x1 s9 s11 s13 s17)) 60::pt c0 (RState.enc (mSt x0 s1 s3 s7)) 54::Lr)) (fun z7 I p9 G H=>?_) ?_
   ·refine aD ?_
    refine aA G (aF G E E) E E E fun a G=>?_
    refine aA G (aF G E E) E E E fun a G=>?_
    refine aA G (bQ (d7 _ (S _ (dropM H 2))) qU23 G E E) E E E fun a G=>?_
    refine aA G (bW G E E E) E E E fun a G=>?_
    refine aA G (aF G E E) E E E fun a G=>?_
    refine aA G (bQ (d8 _ (S _ (dropM H 2))) qU23 G E E) E E E fun a G=>?_
    refine aA G (eR G E E E) E E E fun a G=>?_
    refine aA G (aF G E E) E E E fun a G=>?_
    refine bG 117 G E (fun c2=>?_) (fun c2=>?_)
    ·have I:=Fx.cT c2 I
     refine aE G E E E c2 E E fun a G=>?_
     refine aE G E E E c2 E E fun a G=>?_
     refine aE G E E E c2 E E fun a G=>?_
     refine aE G E E E c2 E E fun a G=>?_
     refine aE G E E E c2 E E fun a G=>?_
     refine aE G E E E c2 E E fun a G=>?_
     refine aE G E E E c2 E E fun a G=>?_
     refine aE G E E E c2 E E fun a G=>?_
     refine aE G E E E c2 E E fun a G=>?_
     refine aE G E E E c2 E E fun a G=>?_
     refine aA G (aP G E E c2 E) E E E fun a G=>?_
     refine aJ (aB ?_)
     have I:=oI I
     subst I
     exact ⟨true,E,G.to ⟨E,E,E,E,E,E,trivial⟩,H⟩
    have I:=Fx.cF c2 I
    refine aL G E E E c2 (aF G E E) E E fun a G=>?_
    refine aL G E E E c2 (aF G E E) E E fun a G=>?_
    refine aL G E E E c2 (aF G E E) E E fun a G=>?_
    refine aL G E E E c2 (aF G E E) E E fun a G=>?_
    refine aL G E E E c2 (bQ (d7 _ (S _ (dropM H 2))) qU23 G E E) E E fun a G=>?_
    refine aL G E E E c2 (bW G E E E) E E fun a G=>?_
    obtain ⟨j0,i4,I⟩:=bind_some I
    refine aL G E E E c2 (eL (d8 _ (S _ (dropM H 2))) i4 qU23 in5 E G E E (.inr ⟨_,_,E,E⟩) (.inr ⟨_,_,E,E⟩)) E E fun a G=>?_
    refine aL G E E E c2 (aF G E E) E E fun a G=>?_
    obtain ⟨n2,I,m5⟩:=dH I
    refine dV G E E E c2 E E (aO (xs:=[.tmp 124,.tmp 125]) Tryz.call170 G E E (R:=fun v w=>∃ x,n2 = .inl x ∧ match x with | c6=>v = .bool c6 ∧ MemL w (pt c1 (RMark.enc (mMk x1 s9 s11 s13 s17)) 60::pt c0 (RState.enc (mSt x0 s1 s3 s7)) 54::Lr)) ?_ fun v w hR=>?_)
    ·refine aR Tryz.func170 E Tryz.ntmps170 E fun a G=>?_
     refine aG ?_
     refine aD ?_
     refine aA G (aH G E E) E E E fun a G=>?_
     refine aJ (aB ?_)
     refine aG ?_
     refine aD ?_
     refine aA G (aF G E E) E E E fun a G=>?_
     refine aA G (iG ((LIn.slc d8 i4 E) _ (S _ (dropM H 2))) qU23 qU5 qU9 G E E) E E E fun a G=>?_
     refine aA G (aF G E E) E E E fun a G=>?_
     refine aA G (iG (d7 _ (S _ (dropM H 2))) qU23 qU5 qU9 G E E) E E E fun a G=>?_
     refine aA G (uQ (i:=j0) (j:=g3) G E E E) E E E fun a G=>?_
     refine aA G (aH G E E) E E E fun a G=>?_
     refine aJ (aB ?_)
     refine c_ret ?_
     have I:=oI I
     subst I
     refine bJ Tryz.results170 G E ?_
     exact ⟨(decide (j0 = g3)),E,E,H⟩
    obtain ⟨c6,rfl,rfl,H⟩:=hR
    replace I:Sh.oX c6 = _:=m5
    unfold Sh.oX at I
    intro a G
    refine aL G E E E c2 (dF G E E) E E fun a G=>?_
    refine aA G (aZ G E E c2 E) E E E fun a G=>?_
    refine aJ (aB ?_)
    have I:=oI I
    subst I
    exact ⟨(!c6),E,G.to ⟨E,E,E,E,E,E,trivial⟩,H⟩
   rintro g2 a w I ⟨G,H⟩
   replace I:Sh.pB c3 g2 = _:=I
   unfold Sh.pB at I
   refine aB ?_
   refine aT G (c:=.tmp 128) E (fun d4=>?_) (fun d4=>?_)
   ·have I:=Fx.cT d4 I
    refine aG ?_
    refine aD ?_
    refine aA G (aH G E E) E E E fun a G=>?_
    refine aJ (aB ?_)
    refine c_ret ?_
    have I:=oI I
    subst I
    have I:=d9 _ rfl
    subst I
    have I:=dE i7
    subst I
    refine bJ qR136 G E ?_
    exact ⟨E,selM H [] 2 E⟩
   have I:=Fx.cF d4 I
   refine aW (bK (aB ?_))
   refine aD ?_
   refine aA G (aF G E E) E E E fun a G=>?_
   refine aA G (bW G E E E) E E E fun a G=>?_
   refine aA G (aH G E E) E E E fun a G=>?_
   refine aJ (aB ?_)
   have I:=oI I
   subst I
   exact ⟨(IntKind.i64.wrap (c3 + 1)),E,G.to ⟨E,E,E,E,E,trivial⟩,H⟩
  have I:=Fx.cF d1 I
  refine bX (bC (bC (cO ?_)))
  refine aB ?_
  have I:=oI I
  subst I
  have I:=d9 _ rfl
  subst I
  exact ⟨(),E,G.to ⟨E,trivial⟩,selM H [] 2 E⟩
 rintro ⟨⟩ a w I ⟨G,H⟩
 replace I:Sh.sX = _:=I
 unfold Sh.sX at I
 refine aB ?_
 refine aG ?_
 refine aD ?_
 refine aA G (aH G E E) E E E fun a G=>?_
 refine aJ (aB ?_)
 refine c_ret ?_
 have I:=oI I
 subst I
 refine bJ qR136 G E ?_
 exact ⟨E,H⟩
set_option maxHeartbeats 4000000 in
theorem iZ {x0:QState} {x1:QMark} {s1:SV} {s3:SV} {hs4:List SV} {s7:SV} {s9:SV} {s11:SV} {s13:SV} {hs14:List RPiece} {s17:SV} {out:(QState × Int)} {w0:World} {Bf:World → Prop} {Lr:List Res} (I:Sh.eC x0 x1 = some out) (H:MemL w0 (Lr)) (S:∀ w,MemL w Lr → Bf w) (f2:LIn Bf s1 x0.ctx) (f5:LIn Bf s3 hs4) (q6:Each (LIn (X:=UInt8) Bf) hs4 x0.tables) (f8:LIn Bf s7 x0.sent) (f10:LIn Bf s9 x1.regs) (f12:LIn Bf s11 x1.slots) (f15:LIn Bf s13 hs14) (q16:Each (QPieceIn Bf) hs14 x1.pieces) (f18:LIn Bf s17 x1.sent):Calls Tryz.prog 61 #[.agg (RState.enc (mSt x0 s1 s3 s7)).toArray,.agg (RMark.enc (mMk x1 s9 s11 s13 s17)).toArray] w0 (Ret fun v w'=>∃ (s90:SV) (s92:SV) (hs93:List SV) (r95:Res) (s97:SV),v = .tuple #[.agg (RState.enc (mSt out.1 s90 s92 s97)).toArray,.int .i64 out.2] ∧ Each (LIn (X:=UInt8) r95.holds') hs93 out.1.tables ∧ MemL w' (rowL 0 s90 5 out.1.ctx::rowL 0 s92 23 hs93::r95::rowL 0 s97 3 out.1.sent::Lr)):=by
 unfold Sh.eC at I
 refine aR (vs:=[.agg (RState.enc (mSt x0 s1 s3 s7)).toArray,.agg (RMark.enc (mMk x1 s9 s11 s13 s17)).toArray]) Tryz.func61 E Tryz.ntmps61 E fun a G=>?_
 refine aG ?_
 refine aD ?_
 refine aN G E E E (dA G E E E fun c1 w j6 d9=>?_)
 have H:=H.plus d9
 intro a G
 refine aN G E E E (dA G E E E fun c2 w j7 g0=>?_)
 have H:=H.plus g0
 intro a G
 refine aN G E E E (bN z54 (zs:=RState.zero.enc) E E fun c3 w j8 g1=>?_)
 have H:=H.plus g1
 replace H:MemL _ (pt c3 (RState.enc zSt) 54::pt c2 (RMark.enc (mMk x1 s9 s11 s13 s17)) 60::pt c1 (RState.enc (mSt x0 s1 s3 s7)) 54::Lr):=H
 intro a G
 refine aA G (aH G E E) E E E fun a G=>?_
 refine aJ (aB ?_)
 refine aG ?_
 refine aG ?_
 refine aD ?_
 refine aA G (aQ qA54 qS54 G E E (RState.len _) (H.cells (i:=2) E (aY (RState.len _)))) E E E fun a G=>?_
 obtain ⟨k2,i7,I⟩:=bind_some I
 refine aN G E E E (aO (xs:=[.tmp 7]) Tryz.call87 G E E (eZ i7 H (Bf:=Bf) (fun w H=>S _ (dropM H 3)) f2 f5 q6 f8) fun v w hR=>?_)
 obtain ⟨rfl,H⟩:=hR
 replace H:MemL _ (pt c3 (RState.enc zSt) 54::pt c2 (RMark.enc (mMk x1 s9 s11 s13 s17)) 60::pt c1 (RState.enc (mSt x0 s1 s3 s7)) 54::Lr):=H
 intro a G
 refine aA G (dF G E E) E E E fun a G=>?_
 refine aJ (aB ?_)
 refine aT G (c:=.tmp 9) E (fun d4=>?_) (fun d4=>?_)
 ·have I:=Fx.cT d4 I
  refine aG ?_
  refine aD ?_
  refine aA G (cB z54 qU54 pl54 G (parts:=[]) E E cN) E E E fun a G=>?_
  refine bD E E (aX (vs:=_) qS54 (H.obj (i:=0) E) G E E E E (RState.len _) (RState.one _) (by first | (rw [RState.len,RState.len]; decide) | (rw [RState.len]; decide)) (bE ((RState.len _).trans (RState.len _).symm)) fun w g7=>?_)
  have H:=H.chg g7 (i:=0) rfl
  replace H:MemL _ (pt c3 (RState.enc zSt) 54::pt c2 (RMark.enc (mMk x1 s9 s11 s13 s17)) 60::pt c1 (RState.enc (mSt x0 s1 s3 s7)) 54::Lr):=H
  refine aA G (aH G E E) E E E fun a G=>?_
  refine aJ (aB ?_)
  refine c_ret ?_
  have H:=H.rowNil (X:=UInt8) 0 5
  obtain ⟨g4,H⟩:=voidM H
  have j1:Each (LIn (X:=UInt8) g4.holds') ([]:List SV) ([]:List (List UInt8)):=Each.nil
  have H:=H.rowNil (X:=SV) 0 23
  have H:=H.rowNil (X:=Int) 0 3
  have I:=oI I
  subst I
  refine dJ (rs:=[.cell 4 54,.tmp 5]) qR61 G (bZ G E qA54 qS54 (RState.len _) (H.cells (i:=4) E (aY (RState.len _))) (cL G E cI)) E ?_
  exact ⟨SV.nil,SV.nil,[],g4,SV.nil,E,j1,selM H [3,1,2,0] 7 E⟩
 have I:=Fx.cF d4 I
 refine aW (aB ?_)
 refine aG ?_
 refine aG ?_
 refine aD ?_
 refine aA G (aQ qA60 qS60 G E E (RMark.len _) (H.cells (i:=1) E (aY (RMark.len _)))) E E E fun a G=>?_
 obtain ⟨k3,i8,I⟩:=bind_some I
 refine aN G E E E (aO (xs:=[.tmp 11]) Tryz.call135 G E E (gM i8 H (Bf:=Bf) (fun w H=>S _ (dropM H 3)) f10 f12 f15 q16 f18) fun v w hR=>?_)
 obtain ⟨rfl,H⟩:=hR
 replace H:MemL _ (pt c3 (RState.enc zSt) 54::pt c2 (RMark.enc (mMk x1 s9 s11 s13 s17)) 60::pt c1 (RState.enc (mSt x0 s1 s3 s7)) 54::Lr):=H
 intro a G
 refine aA G (dF G E E) E E E fun a G=>?_
 refine aJ (aB ?_)
 refine aT G (c:=.tmp 13) E (fun d5=>?_) (fun d5=>?_)
 ·have I:=Fx.cT d5 I
  refine aG ?_
  refine aD ?_
  refine aA G (cB z54 qU54 pl54 G (parts:=[]) E E cN) E E E fun a G=>?_
  refine bD E E (aX (vs:=_) qS54 (H.obj (i:=0) E) G E E E E (RState.len _) (RState.one _) (by first | (rw [RState.len,RState.len]; decide) | (rw [RState.len]; decide)) (bE ((RState.len _).trans (RState.len _).symm)) fun w g8=>?_)
  have H:=H.chg g8 (i:=0) rfl
  replace H:MemL _ (pt c3 (RState.enc zSt) 54::pt c2 (RMark.enc (mMk x1 s9 s11 s13 s17)) 60::pt c1 (RState.enc (mSt x0 s1 s3 s7)) 54::Lr):=H
  refine aA G (aH G E E) E E E fun a G=>?_
  refine aJ (aB ?_)
  refine c_ret ?_
  have H:=H.rowNil (X:=UInt8) 0 5
  obtain ⟨g5,H⟩:=voidM H
  have j2:Each (LIn (X:=UInt8) g5.holds') ([]:List SV) ([]:List (List UInt8)):=Each.nil
  have H:=H.rowNil (X:=SV) 0 23
  have H:=H.rowNil (X:=Int) 0 3
  have I:=oI I
  subst I
  refine dJ (rs:=[.cell 4 54,.tmp 5]) qR61 G (bZ G E qA54 qS54 (RState.len _) (H.cells (i:=4) E (aY (RState.len _))) (cL G E cI)) E ?_
  exact ⟨SV.nil,SV.nil,[],g5,SV.nil,E,j2,selM H [3,1,2,0] 7 E⟩
 have I:=Fx.cF d5 I
 refine aW (aB ?_)
 refine aG ?_
 refine aG ?_
 refine aV G H I (fun F x a w=>match x with | d7=>Fr 56 [(34,.bool d7),(2,.pointer (some ⟨c1,0,none⟩)),(3,.pointer (some ⟨c2,0,none⟩)),(4,.pointer (some ⟨c3,0,none⟩)),(5,.int .i64 0)] a ∧ MemL w (pt c3 (RState.enc zSt) 54::pt c2 (RMark.enc (mMk x1 s9 s11 s13 s17)) 60::pt c1 (RState.enc (mSt x0 s1 s3 s7)) 54::Lr)) (fun k1 I k0 G H=>?_) ?_
 ·refine aD ?_
  refine aA G (aC (off':=465) qU54 E in4 E G E E E) E E E fun a G=>?_
  refine aA G (aI qA4 G E E (H.cell (i:=2) E (RState.g_done _))) E E E fun a G=>?_
  refine aA G (aF G E E) E E E fun a G=>?_
  refine bG 17 G E (fun c4=>?_) (fun c4=>?_)
  ·have I:=Fx.cT c4 I
   refine aE G E E E c4 E E fun a G=>?_
   refine aE G E E E c4 E E fun a G=>?_
   refine aE G E E E c4 E E fun a G=>?_
   refine aE G E E E c4 E E fun a G=>?_
   refine aE G E E E c4 E E fun a G=>?_
   refine aA G (aP G E E c4 E) E E E fun a G=>?_
   refine aA G (aF G E E) E E E fun a G=>?_
   refine aE G E E E E E E fun a G=>?_
   refine aE G E E E E E E fun a G=>?_
   refine aE G E E E E E E fun a G=>?_
   refine aA G (aP G E E E E) E E E fun a G=>?_
   refine aA G (aF G E E) E E E fun a G=>?_
   refine aE G E E E E E E fun a G=>?_
   refine aE G E E E E E E fun a G=>?_
   refine aE G E E E E E E fun a G=>?_
   refine aE G E E E E E E fun a G=>?_
   refine aA G (aP G E E E E) E E E fun a G=>?_
   refine aJ (aB ?_)
   have I:=oI I
   subst I
   exact ⟨true,E,G.to ⟨E,E,E,E,E,trivial⟩,H⟩
  have I:=Fx.cF c4 I
  refine aL G E E E c4 (aC (off':=463) qU54 E in3 E G E E E) E E fun a G=>?_
  refine aL G E E E c4 (aI qA3 G E E (H.cell (i:=2) E (RState.g_at_ _))) E E fun a G=>?_
  refine aL G E E E c4 (aC (off':=0) qU60 E in3 E G E E E) E E fun a G=>?_
  refine aL G E E E c4 (aI qA3 G E E (H.cell (i:=1) E (RMark.g_at_ _))) E E fun a G=>?_
  refine aL G E E E c4 (dD G E E E) E E fun a G=>?_
  refine aA G (aZ G E E c4 E) E E E fun a G=>?_
  refine aA G (aF G E E) E E E fun a G=>?_
  refine bG 24 G E (fun c9=>?_) (fun c9=>?_)
  ·have I:=Fx.cT c9 I
   refine aE G E E E c9 E E fun a G=>?_
   refine aE G E E E c9 E E fun a G=>?_
   refine aE G E E E c9 E E fun a G=>?_
   refine aA G (aP G E E c9 E) E E E fun a G=>?_
   refine aA G (aF G E E) E E E fun a G=>?_
   refine aE G E E E E E E fun a G=>?_
   refine aE G E E E E E E fun a G=>?_
   refine aE G E E E E E E fun a G=>?_
   refine aE G E E E E E E fun a G=>?_
   refine aA G (aP G E E E E) E E E fun a G=>?_
   refine aJ (aB ?_)
   have I:=oI I
   subst I
   exact ⟨true,E,G.to ⟨E,E,E,E,E,trivial⟩,H⟩
  have I:=Fx.cF c9 I
  refine aL G E E E c9 (aC (off':=464) qU54 E in3 E G E E E) E E fun a G=>?_
  refine aL G E E E c9 (aI qA3 G E E (H.cell (i:=2) E (RState.g_steps _))) E E fun a G=>?_
  refine aL G E E E c9 (dG G E E E) E E fun a G=>?_
  refine aA G (aZ G E E c9 E) E E E fun a G=>?_
  refine aA G (aF G E E) E E E fun a G=>?_
  refine bG 29 G E (fun c7=>?_) (fun c7=>?_)
  ·have I:=Fx.cT c7 I
   refine aE G E E E c7 E E fun a G=>?_
   refine aE G E E E c7 E E fun a G=>?_
   refine aE G E E E c7 E E fun a G=>?_
   refine aE G E E E c7 E E fun a G=>?_
   refine aA G (aP G E E c7 E) E E E fun a G=>?_
   refine aJ (aB ?_)
   have I:=oI I
   subst I
   exact ⟨true,E,G.to ⟨E,E,E,E,E,trivial⟩,H⟩
  have I:=Fx.cF c7 I
  refine aL G E E E c7 (aQ qA54 qS54 G E E (RState.len _) (H.cells (i:=2) E (aY (RState.len _)))) E E fun a G=>?_
  refine aL G E E E c7 (aQ qA60 qS60 G E E (RMark.len _) (H.cells (i:=1) E (aY (RMark.len _)))) E E fun a G=>?_
  obtain ⟨j5,i9,I⟩:=bind_some I
  refine dV G E E E c7 E E (aO (xs:=[.tmp 30,.tmp 31,.const (.bool true)]) Tryz.call136 G E E (lB i9 H (Bf:=Bf) (fun w H=>S _ (dropM H 3)) f2 f5 q6 f8 f10 f12 f15 q16 f18) fun v w hR=>?_)
  obtain ⟨rfl,H⟩:=hR
  replace H:MemL _ (pt c3 (RState.enc zSt) 54::pt c2 (RMark.enc (mMk x1 s9 s11 s13 s17)) 60::pt c1 (RState.enc (mSt x0 s1 s3 s7)) 54::Lr):=H
  intro a G
  refine aL G E E E c7 (dF G E E) E E fun a G=>?_
  refine aA G (aZ G E E c7 E) E E E fun a G=>?_
  refine aJ (aB ?_)
  have I:=oI I
  subst I
  exact ⟨(!j5),E,G.to ⟨E,E,E,E,E,trivial⟩,H⟩
 rintro d7 a w I ⟨G,H⟩
 replace I:Sh.pT x0 x1 d7 = _:=I
 unfold Sh.pT at I
 refine aB ?_
 refine aT G (c:=.tmp 34) E (fun d6=>?_) (fun d6=>?_)
 ·have I:=Fx.cT d6 I
  refine aG ?_
  refine aD ?_
  refine aA G (cB z54 qU54 pl54 G (parts:=[]) E E cN) E E E fun a G=>?_
  refine bD E E (aX (vs:=_) qS54 (H.obj (i:=0) E) G E E E E (RState.len _) (RState.one _) (by first | (rw [RState.len,RState.len]; decide) | (rw [RState.len]; decide)) (bE ((RState.len _).trans (RState.len _).symm)) fun w g9=>?_)
  have H:=H.chg g9 (i:=0) rfl
  replace H:MemL _ (pt c3 (RState.enc zSt) 54::pt c2 (RMark.enc (mMk x1 s9 s11 s13 s17)) 60::pt c1 (RState.enc (mSt x0 s1 s3 s7)) 54::Lr):=H
  refine aA G (aH G E E) E E E fun a G=>?_
  refine aJ (aB ?_)
  refine c_ret ?_
  have H:=H.rowNil (X:=UInt8) 0 5
  obtain ⟨g6,H⟩:=voidM H
  have j3:Each (LIn (X:=UInt8) g6.holds') ([]:List SV) ([]:List (List UInt8)):=Each.nil
  have H:=H.rowNil (X:=SV) 0 23
  have H:=H.rowNil (X:=Int) 0 3
  have I:=oI I
  subst I
  refine dJ (rs:=[.cell 4 54,.tmp 5]) qR61 G (bZ G E qA54 qS54 (RState.len _) (H.cells (i:=4) E (aY (RState.len _))) (cL G E cI)) E ?_
  exact ⟨SV.nil,SV.nil,[],g6,SV.nil,E,j3,selM H [3,1,2,0] 7 E⟩
 have I:=Fx.cF d6 I
 refine aW (aB ?_)
 refine aG ?_
 refine aD ?_
 refine aA G (aQ qA54 qS54 G E E (RState.len _) (H.cells (i:=2) E (aY (RState.len _)))) E E E fun a G=>?_
 refine aA G (aQ qA60 qS60 G E E (RMark.len _) (H.cells (i:=1) E (aY (RMark.len _)))) E E E fun a G=>?_
 obtain ⟨c0,j0,I⟩:=bind_some I
 refine aN G E E E (aO (xs:=[.tmp 36,.tmp 37,.const (.bool false)]) Tryz.call137 G E E (nE j0 H (Bf:=Bf) (fun w H=>S _ (dropM H 3)) f2 f5 q6 f8 f10 f12 f15 q16 f18) fun v w hR=>?_)
 obtain ⟨c5,c6,d0,d2,d1,rfl,j4,H⟩:=hR
 intro a G
 refine aN G E E E (bN z54 (zs:=RState.zero.enc) E E fun c8 w j9 g2=>?_)
 have H:=H.plus g2
 replace H:MemL _ (pt c8 (RState.enc zSt) 54::rowL 0 c5 5 c0.ctx::rowL 0 c6 23 d0::d2::rowL 0 d1 3 c0.sent::pt c3 (RState.enc zSt) 54::pt c2 (RMark.enc (mMk x1 s9 s11 s13 s17)) 60::pt c1 (RState.enc (mSt x0 s1 s3 s7)) 54::Lr):=H
 intro a G
 refine bD E E (aX (vs:=_) qS54 (H.obj (i:=0) E) G E E E E (RState.len _) (RState.one _) (by first | (rw [RState.len,RState.len]; decide) | (rw [RState.len]; decide)) (bE ((RState.len _).trans (RState.len _).symm)) fun w i0=>?_)
 have H:=H.chg i0 (i:=0) rfl
 replace H:MemL _ (pt c8 (RState.enc (mSt c0 c5 c6 d1)) 54::rowL 0 c5 5 c0.ctx::rowL 0 c6 23 d0::d2::rowL 0 d1 3 c0.sent::pt c3 (RState.enc zSt) 54::pt c2 (RMark.enc (mMk x1 s9 s11 s13 s17)) 60::pt c1 (RState.enc (mSt x0 s1 s3 s7)) 54::Lr):=H
 refine aJ (aB ?_)
 refine aG ?_
 refine aD ?_
 refine aA G (aC (off':=1) qU60 E in3 E G E E E) E E E fun a G=>?_
 refine aA G (aI qA3 G E E (H.cell (i:=6) E (RMark.g_next _))) E E E fun a G=>?_
 refine aA G (aC (off':=463) qU54 E in3 E G E E E) E E E fun a G=>?_
 refine bD E E (bI qS3 (H.obj (i:=0) E) G E E E E (by rw [RState.len]; decide) (RState.s_at_ _ _) fun w i1=>?_)
 have H:=H.chg i1 (i:=0) rfl
 replace H:MemL _ (pt c8 (RState.enc (RState.mk c0.regs c0.stack c5 c6 d1 x1.next c0.steps c0.done)) 54::rowL 0 c5 5 c0.ctx::rowL 0 c6 23 d0::d2::rowL 0 d1 3 c0.sent::pt c3 (RState.enc zSt) 54::pt c2 (RMark.enc (mMk x1 s9 s11 s13 s17)) 60::pt c1 (RState.enc (mSt x0 s1 s3 s7)) 54::Lr):=H
 refine aJ (aB ?_)
 refine aG ?_
 refine aD ?_
 refine aA G (aC (off':=2) qU60 E in4 E G E E E) E E E fun a G=>?_
 refine aA G (aI qA4 G E E (H.cell (i:=6) E (RMark.g_done _))) E E E fun a G=>?_
 refine aA G (aC (off':=465) qU54 E in4 E G E E E) E E E fun a G=>?_
 refine bD E E (bI Tryz.sizeOf4 (H.obj (i:=0) E) G E E E E (by rw [RState.len]; decide) (RState.s_done _ _) fun w i2=>?_)
 have H:=H.chg i2 (i:=0) rfl
 replace H:MemL _ (pt c8 (RState.enc (RState.mk c0.regs c0.stack c5 c6 d1 x1.next c0.steps x1.done)) 54::rowL 0 c5 5 c0.ctx::rowL 0 c6 23 d0::d2::rowL 0 d1 3 c0.sent::pt c3 (RState.enc zSt) 54::pt c2 (RMark.enc (mMk x1 s9 s11 s13 s17)) 60::pt c1 (RState.enc (mSt x0 s1 s3 s7)) 54::Lr):=H
 refine aJ (aB ?_)
 refine aG ?_
 refine aD ?_
 refine aA G (aC (off':=464) qU54 E in3 E G E E E) E E E fun a G=>?_
 refine aA G (aI qA3 G E E (H.cell (i:=7) E (RState.g_steps _))) E E E fun a G=>?_
 refine aA G (bW G E E E) E E E fun a G=>?_
 refine aA G (aC (off':=464) qU54 E in3 E G E E E) E E E fun a G=>?_
 refine bD E E (bI qS3 (H.obj (i:=0) E) G E E E E (by rw [RState.len]; decide) (RState.s_steps _ _) fun w i3=>?_)
 have H:=H.chg i3 (i:=0) rfl
 replace H:MemL _ (pt c8 (RState.enc (RState.mk c0.regs c0.stack c5 c6 d1 x1.next (IntKind.i64.wrap (x0.steps + 1)) x1.done)) 54::rowL 0 c5 5 c0.ctx::rowL 0 c6 23 d0::d2::rowL 0 d1 3 c0.sent::pt c3 (RState.enc zSt) 54::pt c2 (RMark.enc (mMk x1 s9 s11 s13 s17)) 60::pt c1 (RState.enc (mSt x0 s1 s3 s7)) 54::Lr):=H
 refine aJ (aB ?_)
 refine aG ?_
 refine aD ?_
 refine aA G (aC (off':=462) qU54 E in52 E G E E E) E E E fun a G=>?_
 refine aA G (aI qA52 G E E (H.cell (i:=0) E (RState.g_sent _))) E E E fun a G=>?_
 refine aA G (aC (off':=6) qU60 E in52 E G E E E) E E E fun a G=>?_
 refine aA G (aI qA52 G E E (H.cell (i:=6) E (RMark.g_sent _))) E E E fun a G=>?_
 obtain ⟨d8,i6,I⟩:=bind_some I
 refine aN G E E E (dC (X:=Int) i6 qU52 in3 E E E E G E E E (H.own (X:=Int) (i:=4) E) (f18 _ (S _ (dropM H 8))) fun d3 w g3=>?_)
 have H:=H.chg g3 (i:=4) rfl
 replace H:MemL _ (pt c8 (RState.enc (RState.mk c0.regs c0.stack c5 c6 d1 x1.next (IntKind.i64.wrap (x0.steps + 1)) x1.done)) 54::rowL 0 c5 5 c0.ctx::rowL 0 c6 23 d0::d2::rowL 0 d3 3 d8::pt c3 (RState.enc zSt) 54::pt c2 (RMark.enc (mMk x1 s9 s11 s13 s17)) 60::pt c1 (RState.enc (mSt x0 s1 s3 s7)) 54::Lr):=H
 intro a G
 refine aA G (aC (off':=462) qU54 E in52 E G E E E) E E E fun a G=>?_
 refine bD E E (bI qS52 (H.obj (i:=0) E) G E E E E (by rw [RState.len]; decide) (RState.s_sent _ _) fun w i4=>?_)
 have H:=H.chg i4 (i:=0) rfl
 replace H:MemL _ (pt c8 (RState.enc (RState.mk c0.regs c0.stack c5 c6 d3 x1.next (IntKind.i64.wrap (x0.steps + 1)) x1.done)) 54::rowL 0 c5 5 c0.ctx::rowL 0 c6 23 d0::d2::rowL 0 d3 3 d8::pt c3 (RState.enc zSt) 54::pt c2 (RMark.enc (mMk x1 s9 s11 s13 s17)) 60::pt c1 (RState.enc (mSt x0 s1 s3 s7)) 54::Lr):=H
 refine aJ (aB ?_)
 refine aG ?_
 refine aD ?_
 refine aA G (aQ qA54 qS54 G E E (RState.len _) (H.cells (i:=0) E (aY (RState.len _)))) E E E fun a G=>?_
 refine bD E E (aX (vs:=_) qS54 (H.obj (i:=5) E) G E E E E (RState.len _) (RState.one _) (by first | (rw [RState.len,RState.len]; decide) | (rw [RState.len]; decide)) (bE ((RState.len _).trans (RState.len _).symm)) fun w i5=>?_)
 have H:=H.chg i5 (i:=5) rfl
 replace H:MemL _ (pt c8 (RState.enc (RState.mk c0.regs c0.stack c5 c6 d3 x1.next (IntKind.i64.wrap (x0.steps + 1)) x1.done)) 54::rowL 0 c5 5 c0.ctx::rowL 0 c6 23 d0::d2::rowL 0 d3 3 d8::pt c3 (RState.enc (RState.mk c0.regs c0.stack c5 c6 d3 x1.next (IntKind.i64.wrap (x0.steps + 1)) x1.done)) 54::pt c2 (RMark.enc (mMk x1 s9 s11 s13 s17)) 60::pt c1 (RState.enc (mSt x0 s1 s3 s7)) 54::Lr):=H
 refine aA G (aH G E E) E E E fun a G=>?_
 refine aJ (aB ?_)
 refine c_ret ?_
 have I:=oI I
 subst I
 refine dJ (rs:=[.cell 4 54,.tmp 5]) qR61 G (bZ G E qA54 qS54 (RState.len _) (H.cells (i:=5) E (aY (RState.len _))) (cL G E cI)) E ?_
 exact ⟨c5,c6,d0,d2,d3,E,j4,selM H [1,2,3,4] 8 E⟩
end Go.Proofs
end
section
namespace Go.Proofs
open Go.Fw Go.Fx
set_option maxRecDepth 10000
set_option maxHeartbeats 4000000 in
theorem rA {x0:QInput} {s1:SV} {s3:SV} {hs4:List SV} {out:QState} {w0:World} {Bf:World → Prop} {Lr:List Res} (I:Sh.rD x0 = some out) (H:MemL w0 (Lr)) (S:∀ w,MemL w Lr → Bf w) (f2:LIn Bf s1 x0.ctx) (f5:LIn Bf s3 hs4) (q6:Each (LIn (X:=UInt8) Bf) hs4 x0.tables):Calls Tryz.prog 167 #[.agg (RInput.enc (RInput.mk s1 s3)).toArray] w0 (Ret fun v w'=>∃ (s26:SV) (s28:SV) (hs29:List SV) (r31:Res) (s33:SV),v = .agg (RState.enc (mSt out s26 s28 s33)).toArray ∧ Each (LIn (X:=UInt8) r31.holds') hs29 out.tables ∧ MemL w' (rowL 0 s26 5 out.ctx::rowL 0 s28 23 hs29::r31::rowL 0 s33 3 out.sent::Lr)):=by
 unfold Sh.rD at I
 refine aR (vs:=[.agg (RInput.enc (RInput.mk s1 s3)).toArray]) Tryz.func167 E Tryz.ntmps167 E fun a G=>?_
 refine aG ?_
 refine aD ?_
 refine aN G E E E (dA G E E E fun c0 w c6 c3=>?_)
 have H:=H.plus c3
 intro a G
 refine aN G E E E (bN z54 (zs:=RState.zero.enc) E E fun c1 w c7 c4=>?_)
 have H:=H.plus c4
 replace H:MemL _ (pt c1 (RState.enc zSt) 54::pt c0 (RInput.enc (RInput.mk s1 s3)) 30::Lr):=H
 intro a G
 refine aJ (aB ?_)
 refine aG ?_
 refine aD ?_
 refine aA G (aC (off':=0) qU30 E in23 E G E E E) E E E fun a G=>?_
 refine aA G (aI qA23 G E E (H.cell (i:=1) E (RInput.g_ctx _))) E E E fun a G=>?_
 refine aA G (aC (off':=1) qU30 E in28 E G E E E) E E E fun a G=>?_
 refine aA G (aI qA28 G E E (H.cell (i:=1) E (RInput.g_tables _))) E E E fun a G=>?_
 refine aA G (cB z54 qU54 pl54 G (parts:=[(2,.tmp 5),(3,.tmp 7)]) E E (cJ E E (by rw [RState.len]; decide) (RState.s_ctx _ _) (cJ E E (by rw [RState.len]; decide) (RState.s_tables _ _) cN))) E E E fun a G=>?_
 refine aN G E E E (bN z54 (zs:=RState.zero.enc) E E fun c2 w c8 c5=>?_)
 have H:=H.plus c5
 replace H:MemL _ (pt c2 (RState.enc zSt) 54::pt c1 (RState.enc zSt) 54::pt c0 (RInput.enc (RInput.mk s1 s3)) 30::Lr):=H
 intro a G
 refine bD E E (aX (vs:=_) qS54 (H.obj (i:=0) E) G E E E E (RState.len _) (RState.one _) (by first | (rw [RState.len,RState.len]; decide) | (rw [RState.len]; decide)) (bE ((RState.len _).trans (RState.len _).symm)) fun w hU35=>?_)
 have H:=H.chg hU35 (i:=0) rfl
 replace H:MemL _ (pt c2 (RState.enc (RState.mk (⟨List.replicate 11 LVal.zero,rfl⟩ : Vec LVal 11) (⟨List.replicate 32 LSlot.zero,rfl⟩ : Vec LSlot 32) s1 s3 SV.nil 0 0 false)) 54::pt c1 (RState.enc zSt) 54::pt c0 (RInput.enc (RInput.mk s1 s3)) 30::Lr):=H
 refine aJ (aB ?_)
 refine aG ?_
 refine aD ?_
 refine aA G (aC (off':=0) qU54 E in47 E G E E E) E E E fun a G=>?_
 obtain ⟨x36,hx36,I⟩:=bind_some I
 have h0x36:=aM hx36
 refine aA G (cP (sz:=4) qU47 in46 E G E E E (cU hx36)) E E E fun a G=>?_
 refine aA G (aC (fo:=0) qU46 E in3 E G E E E) E E E fun a G=>?_
 refine bD E E (bI qS3 (H.obj (i:=0) E) G E E E E (by have:=(cU hx36); rw [RState.len]; omega) (lD (RState.ci_regs _ _ _ (aM hx36).2) (LVal.s_kind _ _) (RState.pi_regs _ _ _ (by have:=(cU hx36); omega)) (by have:=(cU hx36); rw [RState.len]; omega) (by decide)) fun w hU37=>?_)
 have H:=H.chg hU37 (i:=0) rfl
 replace H:MemL _ (pt c2 (RState.enc (RState.mk ((⟨List.replicate 11 LVal.zero,rfl⟩ : Vec LVal 11).set (1:Int).toNat (LVal.mk 3 x36.table x36.row x36.x)) (⟨List.replicate 32 LSlot.zero,rfl⟩ : Vec LSlot 32) s1 s3 SV.nil 0 0 false)) 54::pt c1 (RState.enc zSt) 54::pt c0 (RInput.enc (RInput.mk s1 s3)) 30::Lr):=H
 refine aJ (aB ?_)
 refine aG ?_
 refine aD ?_
 refine aA G (aC (off':=0) qU30 E in23 E G E E E) E E E fun a G=>?_
 refine aA G (aI qA23 G E E (H.cell (i:=2) E (RInput.g_ctx _))) E E E fun a G=>?_
 refine aA G (bQ (f2 _ (S _ (dropM H 3))) qU23 G E E) E E E fun a G=>?_
 refine aA G (cB z46 qU46 pl46 G (parts:=[(0,.const (.int .i64 (1))),(3,.tmp 14)]) E E (cJ E E (by rw [LVal.len]; decide) (LVal.s_kind _ _) (cJ E E (by rw [LVal.len]; decide) (LVal.s_x _ _) cN))) E E E fun a G=>?_
 refine aA G (aC (off':=0) qU54 E in47 E G E E E) E E E fun a G=>?_
 obtain ⟨x38,hx38,I⟩:=bind_some I
 have h0x38:=aM hx38
 refine aA G (cP (sz:=4) qU47 in46 E G E E E (cU hx38)) E E E fun a G=>?_
 refine bD E E (aX (vs:=_) qS46 (H.obj (i:=0) E) G E E E E (LVal.len _) (LVal.one _) (by have:=(cU hx38); rw [LVal.len,RState.len]; omega) (RState.pi_regs _ _ _ (by have:=(cU hx38); omega)) fun w hU39=>?_)
 have H:=H.chg hU39 (i:=0) rfl
 replace H:MemL _ (pt c2 (RState.enc (RState.mk (((⟨List.replicate 11 LVal.zero,rfl⟩ : Vec LVal 11).set (1:Int).toNat (LVal.mk 3 x36.table x36.row x36.x)).set (2:Int).toNat (LVal.mk 1 0 0 (x0.ctx.length:Int))) (⟨List.replicate 32 LSlot.zero,rfl⟩ : Vec LSlot 32) s1 s3 SV.nil 0 0 false)) 54::pt c1 (RState.enc zSt) 54::pt c0 (RInput.enc (RInput.mk s1 s3)) 30::Lr):=H
 refine aJ (aB ?_)
 refine aG ?_
 refine aD ?_
 refine aA G (cB z46 qU46 pl46 G (parts:=[(0,.const (.int .i64 (2))),(3,.const (.int .i64 (256)))]) E E (cJ E E (by rw [LVal.len]; decide) (LVal.s_kind _ _) (cJ E E (by rw [LVal.len]; decide) (LVal.s_x _ _) cN))) E E E fun a G=>?_
 refine aA G (aC (off':=0) qU54 E in47 E G E E E) E E E fun a G=>?_
 obtain ⟨x40,hx40,I⟩:=bind_some I
 have h0x40:=aM hx40
 refine aA G (cP (sz:=4) qU47 in46 E G E E E (cU hx40)) E E E fun a G=>?_
 refine bD E E (aX (vs:=_) qS46 (H.obj (i:=0) E) G E E E E (LVal.len _) (LVal.one _) (by have:=(cU hx40); rw [LVal.len,RState.len]; omega) (RState.pi_regs _ _ _ (by have:=(cU hx40); omega)) fun w hU41=>?_)
 have H:=H.chg hU41 (i:=0) rfl
 replace H:MemL _ (pt c2 (RState.enc (RState.mk ((((⟨List.replicate 11 LVal.zero,rfl⟩ : Vec LVal 11).set (1:Int).toNat (LVal.mk 3 x36.table x36.row x36.x)).set (2:Int).toNat (LVal.mk 1 0 0 (x0.ctx.length:Int))).set (10:Int).toNat (LVal.mk 2 0 0 256)) (⟨List.replicate 32 LSlot.zero,rfl⟩ : Vec LSlot 32) s1 s3 SV.nil 0 0 false)) 54::pt c1 (RState.enc zSt) 54::pt c0 (RInput.enc (RInput.mk s1 s3)) 30::Lr):=H
 refine aJ (aB ?_)
 refine aG ?_
 refine aD ?_
 refine aA G (aQ qA54 qS54 G E E (RState.len _) (H.cells (i:=0) E (aY (RState.len _)))) E E E fun a G=>?_
 obtain ⟨y43,hy43,I⟩:=bind_some I
 have hc44:=iI hy43 H (Bf:=Bf) (fun w H=>S _ (dropM H 3)) f2 f5 q6 LIn.nil
 refine aN G E E E (aO (xs:=[.tmp 21]) Tryz.call74 G E E hc44 fun v w hR=>?_)
 obtain ⟨s45,s47,hs48,s51,rfl,q50,H⟩:=hR
 replace H:MemL _ (rowL 0 s45 5 y43.ctx::rowL 0 s47 23 hs48::(packR hs48 y43.tables)::rowL 0 s51 3 y43.sent::pt c2 (RState.enc (RState.mk ((((⟨List.replicate 11 LVal.zero,rfl⟩ : Vec LVal 11).set (1:Int).toNat (LVal.mk 3 x36.table x36.row x36.x)).set (2:Int).toNat (LVal.mk 1 0 0 (x0.ctx.length:Int))).set (10:Int).toNat (LVal.mk 2 0 0 256)) (⟨List.replicate 32 LSlot.zero,rfl⟩ : Vec LSlot 32) s1 s3 SV.nil 0 0 false)) 54::pt c1 (RState.enc zSt) 54::pt c0 (RInput.enc (RInput.mk s1 s3)) 30::Lr):=H
 intro a G
 refine bD E E (aX (vs:=_) qS54 (H.obj (i:=5) E) G E E E E (RState.len _) (RState.one _) (by first | (rw [RState.len,RState.len]; decide) | (rw [RState.len]; decide)) (bE ((RState.len _).trans (RState.len _).symm)) fun w hU53=>?_)
 have H:=H.chg hU53 (i:=5) rfl
 replace H:MemL _ (rowL 0 s45 5 y43.ctx::rowL 0 s47 23 hs48::(packR hs48 y43.tables)::rowL 0 s51 3 y43.sent::pt c2 (RState.enc (RState.mk ((((⟨List.replicate 11 LVal.zero,rfl⟩ : Vec LVal 11).set (1:Int).toNat (LVal.mk 3 x36.table x36.row x36.x)).set (2:Int).toNat (LVal.mk 1 0 0 (x0.ctx.length:Int))).set (10:Int).toNat (LVal.mk 2 0 0 256)) (⟨List.replicate 32 LSlot.zero,rfl⟩ : Vec LSlot 32) s1 s3 SV.nil 0 0 false)) 54::pt c1 (RState.enc (mSt y43 s45 s47 s51)) 54::pt c0 (RInput.enc (RInput.mk s1 s3)) 30::Lr):=H
 refine aJ (aB ?_)
 refine c_ret ?_
 have I:=oI I
 subst I
 refine dJ (rs:=[.cell 2 54]) Tryz.results167 G (bZ G E qA54 qS54 (RState.len _) (H.cells (i:=5) E (aY (RState.len _))) cI) E ?_
 exact ⟨s45,s47,hs48,(packR hs48 y43.tables),s51,E,q50,selM H [0,1,2,3] 7 E⟩
set_option maxHeartbeats 4000000 in
theorem rZ {x0:QRecord} {x1:Int} {s1:SV} {s3:SV} {hs4:List SV} {s7:SV} {hs8:List RMark} {out:(QState × Int × Int)} {w0:World} {Bf:World → Prop} {Lr:List Res} (I:Sh.oB x0 x1 = some out) (H:MemL w0 (Lr)) (S:∀ w,MemL w Lr → Bf w) (f2:LIn Bf s1 x0.in_.ctx) (f5:LIn Bf s3 hs4) (q6:Each (LIn (X:=UInt8) Bf) hs4 x0.in_.tables) (f9:LIn Bf s7 hs8) (q10:Each (QMarkIn Bf) hs8 x0.marks):Calls Tryz.prog 51 #[.agg (RRecord.enc (mRc x0 s1 s3 s7)).toArray,.int .i64 x1] w0 (Ret fun v w'=>∃ (t9:SV) (u0:SV) (p7:List SV) (t2:Res) (u1:SV),v = .tuple #[.agg (RState.enc (mSt out.1 t9 u0 u1)).toArray,.int .i64 out.2.1,.int .i64 out.2.2] ∧ Each (LIn (X:=UInt8) t2.holds') p7 out.1.tables ∧ MemL w' (rowL 0 t9 5 out.1.ctx::rowL 0 u0 23 p7::t2::rowL 0 u1 3 out.1.sent::Lr)):=by
 unfold Sh.oB at I
 refine aR (vs:=[.agg (RRecord.enc (mRc x0 s1 s3 s7)).toArray,.int .i64 x1]) Tryz.func51 E Tryz.ntmps51 E fun a G=>?_
 refine aG ?_
 refine aD ?_
 refine aN G E E E (dA G E E E fun c5 w c80 z1=>?_)
 have H:=H.plus z1
 intro a G
 refine aN G E E E (dA G E E E fun c6 w c81 z2=>?_)
 have H:=H.plus z2
 intro a G
 refine aN G E E E (bN z54 (zs:=RState.zero.enc) E E fun c7 w c82 z3=>?_)
 have H:=H.plus z3
 replace H:MemL _ (pt c7 (RState.enc zSt) 54::pt c6 [.int .i64 x1] 3::pt c5 (RRecord.enc (mRc x0 s1 s3 s7)) 36::Lr):=H
 intro a G
 refine aN G E E E (bN (z:=(.int .i64 0)) (zs:=[(.int .i64 0)]) Tryz.zeroValue3 E E fun c8 w c83 z4=>?_)
 have H:=H.plus z4
 intro a G
 refine aN G E E E (bN (z:=(.int .i64 0)) (zs:=[(.int .i64 0)]) Tryz.zeroValue34 E E fun c9 w c84 z5=>?_)
 have H:=H.plus z5
 replace H:MemL _ (pt c9 [.int .i64 0] 34::pt c8 [.int .i64 0] 3::pt c7 (RState.enc zSt) 54::pt c6 [.int .i64 x1] 3::pt c5 (RRecord.enc (mRc x0 s1 s3 s7)) 36::Lr):=H
 intro a G
 refine aJ (aB ?_)
 refine aG ?_
 refine aG ?_
 refine aD ?_
 refine aA G (aI qA3 G E E (H.cell (i:=3) E E)) E E E fun a G=>?_
 refine aA G (aC (off':=2) qU36 E in33 E G E E E) E E E fun a G=>?_
 refine aA G (aI qA33 G E E (H.cell (i:=4) E (RRecord.g_marks _))) E E E fun a G=>?_
 refine aA G (cQ (f9 _ (S _ (dropM H 5))) q10.len qU33 G E E) E E E fun a G=>?_
 obtain ⟨c88,c42,I⟩:=bind_some I
 refine aN G E E E (aO (xs:=[.tmp 10,.const (.int .i64 (0)),.tmp 13]) qC124 G E E (dI c42 H ) fun v w hR=>?_)
 obtain ⟨rfl,H⟩:=hR
 replace H:MemL _ (pt c9 [.int .i64 0] 34::pt c8 [.int .i64 0] 3::pt c7 (RState.enc zSt) 54::pt c6 [.int .i64 x1] 3::pt c5 (RRecord.enc (mRc x0 s1 s3 s7)) 36::Lr):=H
 intro a G
 refine aA G (dF G E E) E E E fun a G=>?_
 refine aJ (aB ?_)
 refine aT G (c:=.tmp 15) E (fun n2=>?_) (fun n2=>?_)
 ·have I:=Fx.cT n2 I
  refine aG ?_
  refine aD ?_
  refine aA G (cB z54 qU54 pl54 G (parts:=[]) E E cN) E E E fun a G=>?_
  refine bD E E (aX (vs:=_) qS54 (H.obj (i:=2) E) G E E E E (RState.len _) (RState.one _) (by first | (rw [RState.len,RState.len]; decide) | (rw [RState.len]; decide)) (bE ((RState.len _).trans (RState.len _).symm)) fun w z8=>?_)
  have H:=H.chg z8 (i:=2) rfl
  refine bD E E (bI qS3 (H.obj (i:=1) E) G E E E E Nat.zero_lt_one E fun w z9=>?_)
  have H:=H.chg z9 (i:=1) rfl
  refine bD E E (bI qS34 (H.obj (i:=0) E) G E E E E Nat.zero_lt_one E fun w c10=>?_)
  have H:=H.chg c10 (i:=0) rfl
  replace H:MemL _ (pt c9 [.int .i64 1] 34::pt c8 [.int .i64 0] 3::pt c7 (RState.enc zSt) 54::pt c6 [.int .i64 x1] 3::pt c5 (RRecord.enc (mRc x0 s1 s3 s7)) 36::Lr):=H
  refine aJ (aB ?_)
  refine c_ret ?_
  have H:=H.rowNil (X:=UInt8) 0 5
  obtain ⟨t3,H⟩:=voidM H
  have c52:Each (LIn (X:=UInt8) t3.holds') ([]:List SV) ([]:List (List UInt8)):=Each.nil
  have H:=H.rowNil (X:=SV) 0 23
  have H:=H.rowNil (X:=Int) 0 3
  have I:=oI I
  subst I
  refine dJ (rs:=[.cell 4 54,.cell 5 3,.cell 6 34]) qR51 G (bZ G E qA54 qS54 (RState.len _) (H.cells (i:=6) E (aY (RState.len _))) (iK G E qA3 (H.cell (i:=5) E E) (iK G E qA34 (H.cell (i:=4) E E) cI))) E ?_
  exact ⟨SV.nil,SV.nil,[],t3,SV.nil,E,c52,selM H [3,1,2,0] 9 E⟩
 have I:=Fx.cF n2 I
 refine aW (aB ?_)
 refine aG ?_
 refine aG ?_
 refine aD ?_
 refine aA G (aC (off':=0) qU36 E in30 E G E E E) E E E fun a G=>?_
 refine aA G (aQ qA30 qS30 G E E (RInput.len _) (H.cells (i:=4) E (RRecord.c_in_ _))) E E E fun a G=>?_
 obtain ⟨c89,c43,I⟩:=bind_some I
 refine aN G E E E (aO (xs:=[.tmp 18]) Tryz.call98 G E E (jI c43 H (Bf:=Bf) (fun w H=>S _ (dropM H 5)) f2 f5 q6) fun v w hR=>?_)
 obtain ⟨rfl,H⟩:=hR
 replace H:MemL _ (pt c9 [.int .i64 0] 34::pt c8 [.int .i64 0] 3::pt c7 (RState.enc zSt) 54::pt c6 [.int .i64 x1] 3::pt c5 (RRecord.enc (mRc x0 s1 s3 s7)) 36::Lr):=H
 intro a G
 refine aA G (dF G E E) E E E fun a G=>?_
 refine aJ (aB ?_)
 refine aT G (c:=.tmp 20) E (fun n3=>?_) (fun n3=>?_)
 ·have I:=Fx.cT n3 I
  refine aG ?_
  refine aD ?_
  refine aA G (cB z54 qU54 pl54 G (parts:=[]) E E cN) E E E fun a G=>?_
  refine bD E E (aX (vs:=_) qS54 (H.obj (i:=2) E) G E E E E (RState.len _) (RState.one _) (by first | (rw [RState.len,RState.len]; decide) | (rw [RState.len]; decide)) (bE ((RState.len _).trans (RState.len _).symm)) fun w c11=>?_)
  have H:=H.chg c11 (i:=2) rfl
  refine bD E E (bI qS3 (H.obj (i:=1) E) G E E E E Nat.zero_lt_one E fun w c12=>?_)
  have H:=H.chg c12 (i:=1) rfl
  refine bD E E (bI qS34 (H.obj (i:=0) E) G E E E E Nat.zero_lt_one E fun w c13=>?_)
  have H:=H.chg c13 (i:=0) rfl
  replace H:MemL _ (pt c9 [.int .i64 3] 34::pt c8 [.int .i64 0] 3::pt c7 (RState.enc zSt) 54::pt c6 [.int .i64 x1] 3::pt c5 (RRecord.enc (mRc x0 s1 s3 s7)) 36::Lr):=H
  refine aJ (aB ?_)
  refine c_ret ?_
  have H:=H.rowNil (X:=UInt8) 0 5
  obtain ⟨t4,H⟩:=voidM H
  have c53:Each (LIn (X:=UInt8) t4.holds') ([]:List SV) ([]:List (List UInt8)):=Each.nil
  have H:=H.rowNil (X:=SV) 0 23
  have H:=H.rowNil (X:=Int) 0 3
  have I:=oI I
  subst I
  refine dJ (rs:=[.cell 4 54,.cell 5 3,.cell 6 34]) qR51 G (bZ G E qA54 qS54 (RState.len _) (H.cells (i:=6) E (aY (RState.len _))) (iK G E qA3 (H.cell (i:=5) E E) (iK G E qA34 (H.cell (i:=4) E E) cI))) E ?_
  exact ⟨SV.nil,SV.nil,[],t4,SV.nil,E,c53,selM H [3,1,2,0] 9 E⟩
 have I:=Fx.cF n3 I
 refine aW (aB ?_)
 refine aG ?_
 refine aD ?_
 refine aN G E E E (bN (z:=(.int .i64 0)) (zs:=[(.int .i64 0)]) Tryz.zeroValue3 E E fun d0 w c85 z6=>?_)
 have H:=H.plus z6
 intro a G
 refine bD E E (bI qS3 (H.obj (i:=0) E) G E E E E Nat.zero_lt_one E fun w c14=>?_)
 have H:=H.chg c14 (i:=0) rfl
 replace H:MemL _ (pt d0 [.int .i64 (-1)] 3::pt c9 [.int .i64 0] 34::pt c8 [.int .i64 0] 3::pt c7 (RState.enc zSt) 54::pt c6 [.int .i64 x1] 3::pt c5 (RRecord.enc (mRc x0 s1 s3 s7)) 36::Lr):=H
 refine aJ (aB ?_)
 refine aG ?_
 refine aG ?_
 refine aD ?_
 refine aA G (aQ qA36 qS36 G E E (RRecord.len _) (H.cells (i:=5) E (aY (RRecord.len _)))) E E E fun a G=>?_
 obtain ⟨c75,I,c70⟩:=dH I
 refine aN G E E E (aO (xs:=[.tmp 22]) Tryz.call94 G E E (R:=fun v w=>∃ x,c75 = .inl x ∧ match x with | d5=>∃ (d6:Nat) (d8:SV) (d9:SV) (n9:List SV) (d7:SV) (p0:List RMark),v = .func (.func 166) [].toArray [.pointer (some ⟨d6,0,none⟩)].toArray ∧ LIn Bf d8 d5.in_.ctx ∧ LIn Bf d9 n9 ∧ Each (LIn (X:=UInt8) Bf) n9 d5.in_.tables ∧ LIn Bf d7 p0 ∧ Each (QMarkIn Bf) p0 d5.marks ∧ MemL w (pt d6 (RRecord.enc (mRc d5 d8 d9 d7)) 36::pt d0 [.int .i64 (-1)] 3::pt c9 [.int .i64 0] 34::pt c8 [.int .i64 0] 3::pt c7 (RState.enc zSt) 54::pt c6 [.int .i64 x1] 3::pt c5 (RRecord.enc (mRc x0 s1 s3 s7)) 36::Lr)) ?_ fun v w hR=>?_)
 ·refine aR Tryz.func94 E Tryz.ntmps94 E fun a G=>?_
  refine aG ?_
  refine aD ?_
  refine aN G E E E (dA G E E E fun p6 w c86 z7=>?_)
  have H:=H.plus z7
  replace H:MemL _ (pt p6 (RRecord.enc (mRc x0 s1 s3 s7)) 36::pt d0 [.int .i64 (-1)] 3::pt c9 [.int .i64 0] 34::pt c8 [.int .i64 0] 3::pt c7 (RState.enc zSt) 54::pt c6 [.int .i64 x1] 3::pt c5 (RRecord.enc (mRc x0 s1 s3 s7)) 36::Lr):=H
  intro a G
  refine aA G (aH G E E) E E E fun a G=>?_
  refine aJ (aB ?_)
  refine aG ?_
  refine aD ?_
  refine aA G (fO G (fs:=[]) (cs:=[.tmp 1]) E E E) E E E fun a G=>?_
  refine aA G (aH G E E) E E E fun a G=>?_
  refine aJ (aB ?_)
  refine c_ret ?_
  have I:=oI I
  subst I
  refine bJ Tryz.results94 G E ?_
  exact ⟨x0,E,p6,s1,s3,hs4,s7,hs8,E,f2,f5,q6,f9,q10,H⟩
 obtain ⟨d5,rfl,hR⟩:=hR
 obtain ⟨d6,d8,d9,n9,d7,p0,rfl,c46,c47,c54,p2,p3,H⟩:=hR
 replace I:Sh.rT x1 d5 = _:=c70
 unfold Sh.rT at I
 intro a G
 refine aJ (aB ?_)
 refine aU ?_
 obtain ⟨c76,I,u8⟩:=dH I
 refine aG3 Tryz.call166 G H (fs:=[]) (cs:=[.pointer (some ⟨d6,0,none⟩)]) (R:=fun c2 v w=>∃ x,c76 = .inl x ∧ match x with | (.inl (i6,m1,m2,m3))=>∃ (j7:SV) (j8:SV) (j6:List SV) (k4:Res) (j9:SV),v = .tuple #[] ∧ Each (LIn (X:=UInt8) k4.holds') j6 i6.tables ∧ MemL w (pt c7 (RState.enc (mSt i6 j7 j8 j9)) 54::rowL 0 j7 5 i6.ctx::rowL 0 j8 23 j6::k4::rowL 0 j9 3 i6.sent::pt c8 [.int .i64 m1] 3::pt c9 [.int .i64 m2] 34::pt d0 [.int .i64 m3] 3::recR c2 .done (some .ret)::.obj c2.d dfO::pt d6 (RRecord.enc (mRc d5 d8 d9 d7)) 36::pt c6 [.int .i64 x1] 3::pt c5 (RRecord.enc (mRc x0 s1 s3 s7)) 36::Lr) | (.inr k5)=>v = .tuple #[] ∧ MemL w (pt d0 [.int .i64 k5] 3::recR c2 .ready none::.obj c2.d dfO::pt d6 (RRecord.enc (mRc d5 d8 d9 d7)) 36::pt c9 [.int .i64 0] 34::pt c8 [.int .i64 0] 3::pt c7 (RState.enc zSt) 54::pt c6 [.int .i64 x1] 3::pt c5 (RRecord.enc (mRc x0 s1 s3 s7)) 36::Lr)) E (fun c2 w k2 k0 k1 k3 H=>?_) (fun c2 v w hR=>?_)
 ·replace H:MemL _ (recR c2 .ready none::.obj c2.d dfO::pt d6 (RRecord.enc (mRc d5 d8 d9 d7)) 36::pt d0 [.int .i64 (-1)] 3::pt c9 [.int .i64 0] 34::pt c8 [.int .i64 0] 3::pt c7 (RState.enc zSt) 54::pt c6 [.int .i64 x1] 3::pt c5 (RRecord.enc (mRc x0 s1 s3 s7)) 36::Lr):=H
  refine aR (vs:=[.func (.yield c2.l) #[] #[],.pointer (some ⟨d6,0,none⟩)]) Tryz.func166 E Tryz.ntmps166 E fun a G=>?_
  refine aG ?_
  refine aD ?_
  refine aA G (aC (off':=0) qU36 E in30 E G E E E) E E E fun a G=>?_
  refine aA G (aQ qA30 qS30 G E E (RInput.len _) (H.cells (i:=2) E (RRecord.c_in_ _))) E E E fun a G=>?_
  obtain ⟨j4,c44,I⟩:=bind_some I
  refine aN G E E E (aO (xs:=[.tmp 8]) Tryz.call167 G E E (rA c44 H (Bf:=Bf) (fun w H=>S _ (dropM H 9)) c46 c47 c54) fun v w hR=>?_)
  obtain ⟨l2,l3,p1,p5,l4,rfl,c56,H⟩:=hR
  intro a G
  refine aN G E E E (bN z54 (zs:=RState.zero.enc) E E fun d1 w c73 u3=>?_)
  have H:=H.plus u3
  replace H:MemL _ (pt d1 (RState.enc zSt) 54::rowL 0 l2 5 j4.ctx::rowL 0 l3 23 p1::p5::rowL 0 l4 3 j4.sent::recR c2 .ready none::.obj c2.d dfO::pt d6 (RRecord.enc (mRc d5 d8 d9 d7)) 36::pt d0 [.int .i64 (-1)] 3::pt c9 [.int .i64 0] 34::pt c8 [.int .i64 0] 3::pt c7 (RState.enc zSt) 54::pt c6 [.int .i64 x1] 3::pt c5 (RRecord.enc (mRc x0 s1 s3 s7)) 36::Lr):=H
  intro a G
  refine bD E E (aX (vs:=_) qS54 (H.obj (i:=0) E) G E E E E (RState.len _) (RState.one _) (by first | (rw [RState.len,RState.len]; decide) | (rw [RState.len]; decide)) (bE ((RState.len _).trans (RState.len _).symm)) fun w c15=>?_)
  have H:=H.chg c15 (i:=0) rfl
  replace H:MemL _ (pt d1 (RState.enc (mSt j4 l2 l3 l4)) 54::rowL 0 l2 5 j4.ctx::rowL 0 l3 23 p1::p5::rowL 0 l4 3 j4.sent::recR c2 .ready none::.obj c2.d dfO::pt d6 (RRecord.enc (mRc d5 d8 d9 d7)) 36::pt d0 [.int .i64 (-1)] 3::pt c9 [.int .i64 0] 34::pt c8 [.int .i64 0] 3::pt c7 (RState.enc zSt) 54::pt c6 [.int .i64 x1] 3::pt c5 (RRecord.enc (mRc x0 s1 s3 s7)) 36::Lr):=H
  refine aA G (aH G E E) E E E fun a G=>?_
  refine aJ (aB ?_)
  refine aG ?_
  refine aV G H I (fun F x a w=>match x with | (c1,i5)=>∃ (g0:SV) (g1:SV) (i8:List SV) (i9:Res) (g2:SV),Each (LIn (X:=UInt8) i9.holds') i8 c1.tables ∧ Fr 37 [(0,.func (.yield c2.l) #[] #[]),(3,.pointer (some ⟨d1,0,none⟩))] a ∧ MemL w (pt d1 (RState.enc (mSt c1 g0 g1 g2)) 54::rowL 0 g0 5 c1.ctx::rowL 0 g1 23 i8::i9::rowL 0 g2 3 c1.sent::pt d0 [.int .i64 i5] 3::pt d6 (RRecord.enc (mRc d5 d8 d9 d7)) 36::pt c9 [.int .i64 0] 34::pt c8 [.int .i64 0] 3::pt c7 (RState.enc zSt) 54::pt c6 [.int .i64 x1] 3::pt c5 (RRecord.enc (mRc x0 s1 s3 s7)) 36::recR c2 .ready none::.obj c2.d dfO::Lr)) (fun c90 I z0 G H=>?_) ?_
  ·refine aG ?_
   refine aD ?_
   refine aA G (aC (off':=2) qU36 E in33 E G E E E) E E E fun a G=>?_
   refine aA G (aI qA33 G E E (H.cell (i:=7) E (RRecord.g_marks _))) E E E fun a G=>?_
   refine aA G (cQ (p2 _ (S _ (dropM H 14))) p3.len qU33 G E E) E E E fun a G=>?_
   refine aA G (aF G E E) E E E fun a G=>?_
   refine aJ (aB ?_)
   refine aU ?_
   refine bU G H I (fun F x a w=>match x with | (c0,i0,k6)=>∃ (d2:SV) (d3:SV) (g4:List SV) (g6:Res) (d4:SV),Each (LIn (X:=UInt8) g6.holds') g4 c0.tables ∧ Fr 37 [(13,.int .i64 k6),(0,.func (.yield c2.l) #[] #[]),(11,(d7).v),(12,.int .i64 (d5.marks.length:Int)),(3,.pointer (some ⟨d1,0,none⟩))] a ∧ MemL w (pt d1 (RState.enc (mSt c0 d2 d3 d4)) 54::rowL 0 d2 5 c0.ctx::rowL 0 d3 23 g4::g6::rowL 0 d4 3 c0.sent::pt d0 [.int .i64 i0] 3::pt d6 (RRecord.enc (mRc d5 d8 d9 d7)) 36::pt c9 [.int .i64 0] 34::pt c8 [.int .i64 0] 3::pt c7 (RState.enc zSt) 54::pt c6 [.int .i64 x1] 3::pt c5 (RRecord.enc (mRc x0 s1 s3 s7)) 36::recR c2 .ready none::.obj c2.d dfO::Lr)) (fun G H=>⟨l2,l3,p1,p5,l4,c56,G.to ⟨E,E,E,E,E,trivial⟩,selM H [0,1,2,3,4,8,7,9,10,11,12,13,5,6] 14 E⟩) ?_
   rintro ⟨c0,i0,k6⟩ a w c91 I t0 ⟨d2,d3,g4,g6,d4,p4,G,H⟩
   replace I:Sh.iL x1 d5 c0 i0 k6 = _:=I
   unfold Sh.iL at I
   refine aG ?_
   refine aD ?_
   refine aA G (cK G E E E) E E E fun a G=>?_
   refine aJ (aB ?_)
   refine aG ?_
   refine aT G (c:=.tmp 14) E (fun n4=>?_) (fun n4=>?_)
   ·have I:=Fx.cT n4 I
    refine aW (aB ?_)
    refine aG ?_
    refine aU ?_
    refine aG ?_
    refine aD ?_
    obtain ⟨c4,p8,I⟩:=bind_some I
    have u2:=aM p8
    obtain ⟨c87,u6,u7⟩:=Each.getr p3 u2.2
    have u5:=Each.bd p3 (bH p8)
    obtain ⟨i1,i2,i3,c79,i4,rfl,c48,c49,c50,c58,c51⟩:=u7
    refine aA G (aS (sz:=7) (p2 _ (S _ (dropM H 14))) qU33 in60 E G E E E u5) E E E fun a G=>?_
    refine aA G (aQ qA60 qS60 G E E (RMark.len _) (((p2 _ (S _ (dropM H 14))).elemS u6))) E E E fun a G=>?_
    refine aN G E E E (bN z60 (zs:=RMark.zero.enc) E E fun g5 w c74 u4=>?_)
    have H:=H.plus u4
    replace H:MemL _ (pt g5 (RMark.enc zMk) 60::pt d1 (RState.enc (mSt c0 d2 d3 d4)) 54::rowL 0 d2 5 c0.ctx::rowL 0 d3 23 g4::g6::rowL 0 d4 3 c0.sent::pt d0 [.int .i64 i0] 3::pt d6 (RRecord.enc (mRc d5 d8 d9 d7)) 36::pt c9 [.int .i64 0] 34::pt c8 [.int .i64 0] 3::pt c7 (RState.enc zSt) 54::pt c6 [.int .i64 x1] 3::pt c5 (RRecord.enc (mRc x0 s1 s3 s7)) 36::recR c2 .ready none::.obj c2.d dfO::Lr):=H
    intro a G
    refine bD E E (aX (vs:=_) qS60 (H.obj (i:=0) E) G E E E E (RMark.len _) (RMark.one _) (by first | (rw [RMark.len,RMark.len]; decide) | (rw [RMark.len]; decide)) (bE ((RMark.len _).trans (RMark.len _).symm)) fun w c16=>?_)
    have H:=H.chg c16 (i:=0) rfl
    replace H:MemL _ (pt g5 (RMark.enc (mMk c4 i1 i2 i3 i4)) 60::pt d1 (RState.enc (mSt c0 d2 d3 d4)) 54::rowL 0 d2 5 c0.ctx::rowL 0 d3 23 g4::g6::rowL 0 d4 3 c0.sent::pt d0 [.int .i64 i0] 3::pt d6 (RRecord.enc (mRc d5 d8 d9 d7)) 36::pt c9 [.int .i64 0] 34::pt c8 [.int .i64 0] 3::pt c7 (RState.enc zSt) 54::pt c6 [.int .i64 x1] 3::pt c5 (RRecord.enc (mRc x0 s1 s3 s7)) 36::recR c2 .ready none::.obj c2.d dfO::Lr):=H
    refine aJ (aB ?_)
    refine aG ?_
    refine aG ?_
    refine aD ?_
    refine aA G (aF G E E) E E E fun a G=>?_
    refine aA G (aQ qA54 qS54 G E E (RState.len _) (H.cells (i:=1) E (aY (RState.len _)))) E E E fun a G=>?_
    obtain ⟨c77,I,u9⟩:=dH I
    refine aN G E E E (Yd.mono (yH (rc:=c2) (vs:=[.agg (RState.enc (mSt c0 d2 d3 d4)).toArray,.int .i64 0]) (ps:=[24,25]) (J:=fun v w=>∃ x,c77 = .inl x ∧ match x with | (.inl (j1,m4,m5))=>∃ (l5:SV) (l6:SV) (k8:List SV) (l0:Res) (l7:SV),v = .bool false ∧ Each (LIn (X:=UInt8) l0.holds') k8 j1.tables ∧ MemL w (pt c7 (RState.enc (mSt j1 l5 l6 l7)) 54::rowL 0 l5 5 j1.ctx::rowL 0 l6 23 k8::l0::rowL 0 l7 3 j1.sent::pt c8 [.int .i64 m4] 3::pt d0 [.int .i64 m5] 3::recR c2 .done (some .ret)::pt g5 (RMark.enc (mMk c4 i1 i2 i3 i4)) 60::pt d1 (RState.enc (mSt c0 d2 d3 d4)) 54::pt d6 (RRecord.enc (mRc d5 d8 d9 d7)) 36::pt c9 [.int .i64 0] 34::pt c6 [.int .i64 x1] 3::pt c5 (RRecord.enc (mRc x0 s1 s3 s7)) 36::.obj c2.d dfO::Lr) | (.inr i7)=>v = .bool true ∧ MemL w (pt d0 [.int .i64 i7] 3::pt g5 (RMark.enc (mMk c4 i1 i2 i3 i4)) 60::pt d1 (RState.enc (mSt c0 d2 d3 d4)) 54::rowL 0 d2 5 c0.ctx::rowL 0 d3 23 g4::g6::rowL 0 d4 3 c0.sent::pt d6 (RRecord.enc (mRc d5 d8 d9 d7)) 36::pt c9 [.int .i64 0] 34::pt c8 [.int .i64 0] 3::pt c7 (RState.enc zSt) 54::pt c6 [.int .i64 x1] 3::pt c5 (RRecord.enc (mRc x0 s1 s3 s7)) 36::recR c2 .ready none::.obj c2.d dfO::Lr)) G E E E H (i:=13) E k2 k0 k1 E E ?_) fun v w hR=>?_)
    ·have G:=FrT.fr (FrT.put (d:=25) (v:=.int .i64 0) (FrT.put (d:=24) (v:=.agg (RState.enc (mSt c0 d2 d3 d4)).toArray) k3 rfl) rfl) []
     refine aG ?_
     refine aD ?_
     refine aN G E E E (bN z54 (zs:=RState.zero.enc) E E fun g3 w p9 j5=>?_)
     have H:=H.plus j5
     replace H:MemL _ (pt g3 (RState.enc zSt) 54::pt g5 (RMark.enc (mMk c4 i1 i2 i3 i4)) 60::pt d1 (RState.enc (mSt c0 d2 d3 d4)) 54::rowL 0 d2 5 c0.ctx::rowL 0 d3 23 g4::g6::rowL 0 d4 3 c0.sent::pt d0 [.int .i64 i0] 3::pt d6 (RRecord.enc (mRc d5 d8 d9 d7)) 36::pt c9 [.int .i64 0] 34::pt c8 [.int .i64 0] 3::pt c7 (RState.enc zSt) 54::pt c6 [.int .i64 x1] 3::pt c5 (RRecord.enc (mRc x0 s1 s3 s7)) 36::recR c2 .ready none::.obj c2.d dfO::Lr):=H
     intro a G
     refine bD E E (aX (vs:=_) qS54 (H.obj (i:=0) E) G E E E E (RState.len _) (RState.one _) (by first | (rw [RState.len,RState.len]; decide) | (rw [RState.len]; decide)) (bE ((RState.len _).trans (RState.len _).symm)) fun w c17=>?_)
     have H:=H.chg c17 (i:=0) rfl
     refine aJ (aB ?_)
     refine aD ?_
     refine aA G (aH G E E) E E E fun a G=>?_
     refine aJ (aB ?_)
     refine uS H (i:=14) E fun w H=>?_
     refine aU ?_
     refine aG ?_
     refine aG ?_
     refine aD ?_
     refine aA G (aI qA3 G E E (H.cell (i:=7) E E)) E E E fun a G=>?_
     refine aA G (bW G E E E) E E E fun a G=>?_
     refine bD E E (bI qS3 (H.obj (i:=7) E) G E E E E Nat.zero_lt_one E fun w c18=>?_)
     have H:=H.chg c18 (i:=7) rfl
     replace H:MemL _ (pt g3 (RState.enc (mSt c0 d2 d3 d4)) 54::pt g5 (RMark.enc (mMk c4 i1 i2 i3 i4)) 60::pt d1 (RState.enc (mSt c0 d2 d3 d4)) 54::rowL 0 d2 5 c0.ctx::rowL 0 d3 23 g4::g6::rowL 0 d4 3 c0.sent::pt d0 [.int .i64 (IntKind.i64.wrap (i0 + 1))] 3::pt d6 (RRecord.enc (mRc d5 d8 d9 d7)) 36::pt c9 [.int .i64 0] 34::pt c8 [.int .i64 0] 3::pt c7 (RState.enc zSt) 54::pt c6 [.int .i64 x1] 3::pt c5 (RRecord.enc (mRc x0 s1 s3 s7)) 36::recR c2 .busy none::.obj c2.d dfO::Lr):=H
     refine aJ (aB ?_)
     refine aG ?_
     refine aD ?_
     refine aA G (aF G E E) E E E fun a G=>?_
     refine aA G (dD G E E E) E E E fun a G=>?_
     refine aJ (aB ?_)
     refine aT G (c:=.tmp 29) E (fun n5=>?_) (fun n5=>?_)
     ·have I:=Fx.cT n5 I
      refine aG ?_
      refine bM mixed (by kernel_rfl) H [0,1,2,3,4,5,6,7,8,9,10,11,12,13,14,15] 16 E fun K=>?_
      refine aK G K 0 E (by kernel_rfl) E E E (fun w H=>(cB z54 qU54 pl54 G (parts:=[]) E E cN)) fun a G=>?_
      refine aK G K 1 E (by kernel_rfl) E E E (fun w H=>(aI qA3 G E E (H.cell (i:=7) E E))) fun a G=>?_
      refine aK G K 2 E (by kernel_rfl) E E E (fun w H=>(eS G E E E)) fun a G=>?_
      refine aK G K 3 E (by kernel_rfl) E E E (fun w H=>(aF G E E)) fun a G=>?_
      refine bF K 4 (by kernel_rfl) E E ?_
      refine cV 4 E E E E fun w hMs H=>?_
      refine (aX (vs:=_) qS54 (H.obj (i:=11) E) G E E E E (RState.len _) (RState.one _) (by first | (rw [RState.len,RState.len]; decide) | (rw [RState.len]; decide)) (bE ((RState.len _).trans (RState.len _).symm)) fun w c19=>?_)
      have H:=H.chg c19 (i:=11) rfl
      replace H:MemL _ (pt g3 (RState.enc (mSt c0 d2 d3 d4)) 54::pt g5 (RMark.enc (mMk c4 i1 i2 i3 i4)) 60::pt d1 (RState.enc (mSt c0 d2 d3 d4)) 54::rowL 0 d2 5 c0.ctx::rowL 0 d3 23 g4::g6::rowL 0 d4 3 c0.sent::pt d0 [.int .i64 (IntKind.i64.wrap (i0 + 1))] 3::pt d6 (RRecord.enc (mRc d5 d8 d9 d7)) 36::pt c9 [.int .i64 0] 34::pt c8 [.int .i64 0] 3::pt c7 (RState.enc zSt) 54::pt c6 [.int .i64 x1] 3::pt c5 (RRecord.enc (mRc x0 s1 s3 s7)) 36::recR c2 .busy none::.obj c2.d dfO::Lr):=H
      have hMs:=selM H [0,1,2,3,4,5,6,7,8,9,10,11,12,13,14,15] 16 rfl
      refine ⟨_,_,hMs,H,.inl fun _ h=>h,?_⟩
      refine bF K 5 (by kernel_rfl) E E ?_
      refine cV 5 E E E E fun w hMs H=>?_
      refine (bI qS3 (H.obj (i:=10) E) G E E E E Nat.zero_lt_one E fun w c20=>?_)
      have H:=H.chg c20 (i:=10) rfl
      replace H:MemL _ (pt g3 (RState.enc (mSt c0 d2 d3 d4)) 54::pt g5 (RMark.enc (mMk c4 i1 i2 i3 i4)) 60::pt d1 (RState.enc (mSt c0 d2 d3 d4)) 54::rowL 0 d2 5 c0.ctx::rowL 0 d3 23 g4::g6::rowL 0 d4 3 c0.sent::pt d0 [.int .i64 (IntKind.i64.wrap (i0 + 1))] 3::pt d6 (RRecord.enc (mRc d5 d8 d9 d7)) 36::pt c9 [.int .i64 0] 34::pt c8 [.int .i64 (IntKind.i64.wrap ((IntKind.i64.wrap (i0 + 1)) - 1))] 3::pt c7 (RState.enc zSt) 54::pt c6 [.int .i64 x1] 3::pt c5 (RRecord.enc (mRc x0 s1 s3 s7)) 36::recR c2 .busy none::.obj c2.d dfO::Lr):=H
      have hMs:=H
      refine ⟨_,_,hMs,H,.inr (by kernel_rfl),?_⟩
      refine bF K 6 (by kernel_rfl) E E ?_
      refine cV 6 E E E E fun w hMs H=>?_
      refine (bI qS34 (H.obj (i:=9) E) G E E E E Nat.zero_lt_one E fun w c21=>?_)
      have H:=H.chg c21 (i:=9) rfl
      replace H:MemL _ (pt g3 (RState.enc (mSt c0 d2 d3 d4)) 54::pt g5 (RMark.enc (mMk c4 i1 i2 i3 i4)) 60::pt d1 (RState.enc (mSt c0 d2 d3 d4)) 54::rowL 0 d2 5 c0.ctx::rowL 0 d3 23 g4::g6::rowL 0 d4 3 c0.sent::pt d0 [.int .i64 (IntKind.i64.wrap (i0 + 1))] 3::pt d6 (RRecord.enc (mRc d5 d8 d9 d7)) 36::pt c9 [.int .i64 0] 34::pt c8 [.int .i64 (IntKind.i64.wrap ((IntKind.i64.wrap (i0 + 1)) - 1))] 3::pt c7 (RState.enc zSt) 54::pt c6 [.int .i64 x1] 3::pt c5 (RRecord.enc (mRc x0 s1 s3 s7)) 36::recR c2 .busy none::.obj c2.d dfO::Lr):=H
      have hMs:=selM H [0,1,2,3,4,5,6,7,8,9,10,11,12,13,14,15] 16 rfl
      refine ⟨_,_,hMs,H,.inl fun _ h=>h,?_⟩
      refine bV K (by kernel_rfl) fun w H=>?_
      refine aB ?_
      refine c_ret ?_
      refine uT (a:=a) H (i:=14) E fun w H=>?_
      replace H:MemL _ (pt g3 (RState.enc (mSt c0 d2 d3 d4)) 54::pt g5 (RMark.enc (mMk c4 i1 i2 i3 i4)) 60::pt d1 (RState.enc (mSt c0 d2 d3 d4)) 54::rowL 0 d2 5 c0.ctx::rowL 0 d3 23 g4::g6::rowL 0 d4 3 c0.sent::pt d0 [.int .i64 (IntKind.i64.wrap (i0 + 1))] 3::pt d6 (RRecord.enc (mRc d5 d8 d9 d7)) 36::pt c9 [.int .i64 0] 34::pt c8 [.int .i64 (IntKind.i64.wrap ((IntKind.i64.wrap (i0 + 1)) - 1))] 3::pt c7 (RState.enc zSt) 54::pt c6 [.int .i64 x1] 3::pt c5 (RRecord.enc (mRc x0 s1 s3 s7)) 36::recR c2 .done (some .ret)::.obj c2.d dfO::Lr):=H
      have H:=H.rowNil (X:=UInt8) 0 5
      obtain ⟨t5,H⟩:=voidM H
      have c60:Each (LIn (X:=UInt8) t5.holds') ([]:List SV) ([]:List (List UInt8)):=Each.nil
      have H:=H.rowNil (X:=SV) 0 23
      have H:=H.rowNil (X:=Int) 0 3
      have I:=oI I
      subst I
      exact ⟨(Sum.inl ((QState.mk (⟨List.replicate 11 LVal.zero,E⟩ : Vec LVal 11) (⟨List.replicate 32 LSlot.zero,E⟩ : Vec LSlot 32) [] [] [] 0 0 false),(IntKind.i64.wrap ((IntKind.i64.wrap (i0 + 1)) - 1)),(IntKind.i64.wrap (i0 + 1)))),E,SV.nil,SV.nil,[],t5,SV.nil,E,c60,selM H [15,3,1,2,0,14,11,18,5,6,12,13,16,17,19] 20 E⟩
     have I:=Fx.cF n5 I
     refine aW (aB ?_)
     refine aG ?_
     refine aD ?_
     refine aA G (aI qA3 G E E (H.cell (i:=7) E E)) E E E fun a G=>?_
     refine aA G (aI qA3 G E E (H.cell (i:=12) E E)) E E E fun a G=>?_
     refine aA G (dG G E E E) E E E fun a G=>?_
     refine aJ (aB ?_)
     refine aT G (c:=.tmp 36) E (fun n6=>?_) (fun n6=>?_)
     ·have I:=Fx.cT n6 I
      refine aG ?_
      refine aD ?_
      refine aA G (aQ qA54 qS54 G E E (RState.len _) (H.cells (i:=0) E (aY (RState.len _)))) E E E fun a G=>?_
      refine bD E E (aX (vs:=_) qS54 (H.obj (i:=11) E) G E E E E (RState.len _) (RState.one _) (by first | (rw [RState.len,RState.len]; decide) | (rw [RState.len]; decide)) (bE ((RState.len _).trans (RState.len _).symm)) fun w c22=>?_)
      have H:=H.chg c22 (i:=11) rfl
      refine bD E E (bI qS3 (H.obj (i:=10) E) G E E E E Nat.zero_lt_one E fun w c23=>?_)
      have H:=H.chg c23 (i:=10) rfl
      refine bD E E (bI qS34 (H.obj (i:=9) E) G E E E E Nat.zero_lt_one E fun w c24=>?_)
      have H:=H.chg c24 (i:=9) rfl
      replace H:MemL _ (pt g3 (RState.enc (mSt c0 d2 d3 d4)) 54::pt g5 (RMark.enc (mMk c4 i1 i2 i3 i4)) 60::pt d1 (RState.enc (mSt c0 d2 d3 d4)) 54::rowL 0 d2 5 c0.ctx::rowL 0 d3 23 g4::g6::rowL 0 d4 3 c0.sent::pt d0 [.int .i64 (IntKind.i64.wrap (i0 + 1))] 3::pt d6 (RRecord.enc (mRc d5 d8 d9 d7)) 36::pt c9 [.int .i64 0] 34::pt c8 [.int .i64 0] 3::pt c7 (RState.enc (mSt c0 d2 d3 d4)) 54::pt c6 [.int .i64 x1] 3::pt c5 (RRecord.enc (mRc x0 s1 s3 s7)) 36::recR c2 .busy none::.obj c2.d dfO::Lr):=H
      refine aJ (aB ?_)
      refine c_ret ?_
      refine uT (a:=a) H (i:=14) E fun w H=>?_
      replace H:MemL _ (pt g3 (RState.enc (mSt c0 d2 d3 d4)) 54::pt g5 (RMark.enc (mMk c4 i1 i2 i3 i4)) 60::pt d1 (RState.enc (mSt c0 d2 d3 d4)) 54::rowL 0 d2 5 c0.ctx::rowL 0 d3 23 g4::g6::rowL 0 d4 3 c0.sent::pt d0 [.int .i64 (IntKind.i64.wrap (i0 + 1))] 3::pt d6 (RRecord.enc (mRc d5 d8 d9 d7)) 36::pt c9 [.int .i64 0] 34::pt c8 [.int .i64 0] 3::pt c7 (RState.enc (mSt c0 d2 d3 d4)) 54::pt c6 [.int .i64 x1] 3::pt c5 (RRecord.enc (mRc x0 s1 s3 s7)) 36::recR c2 .done (some .ret)::.obj c2.d dfO::Lr):=H
      have I:=oI I
      subst I
      exact ⟨(Sum.inl (c0,0,(IntKind.i64.wrap (i0 + 1)))),E,d2,d3,g4,g6,d4,E,p4,selM H [11,3,4,5,6,10,7,14,1,2,8,9,12,13,15] 16 E⟩
     have I:=Fx.cF n6 I
     refine aW (bK ?_)
     refine wK H (i:=14) E fun w H=>?_
     replace H:MemL _ (pt g3 (RState.enc (mSt c0 d2 d3 d4)) 54::pt g5 (RMark.enc (mMk c4 i1 i2 i3 i4)) 60::pt d1 (RState.enc (mSt c0 d2 d3 d4)) 54::rowL 0 d2 5 c0.ctx::rowL 0 d3 23 g4::g6::rowL 0 d4 3 c0.sent::pt d0 [.int .i64 (IntKind.i64.wrap (i0 + 1))] 3::pt d6 (RRecord.enc (mRc d5 d8 d9 d7)) 36::pt c9 [.int .i64 0] 34::pt c8 [.int .i64 0] 3::pt c7 (RState.enc zSt) 54::pt c6 [.int .i64 x1] 3::pt c5 (RRecord.enc (mRc x0 s1 s3 s7)) 36::recR c2 .ready none::.obj c2.d dfO::Lr):=H
     have I:=oI I
     subst I
     exact ⟨(Sum.inr (IntKind.i64.wrap (i0 + 1))),E,E,selM H [7,1,2,3,4,5,6,8,9,10,11,12,13,14,15] 16 E⟩
    obtain ⟨c66,rfl,hR⟩:=hR
    rcases c66 with ⟨j1,m4,m5⟩ | i7
    ·obtain ⟨l5,l6,k8,l0,l7,rfl,c59,H⟩:=hR
     replace I:Sh.rU j1 m4 m5 = _:=u9
     unfold Sh.rU at I
     intro a G
     refine aA G (dF G E E) E E E fun a G=>?_
     refine aJ (aB ?_)
     refine aB1 G (c:=.tmp 20) E (aKb E) ?_
     refine c_ret ?_
     have I:=oI I
     subst I
     have I:=t0 _ rfl
     subst I
     have I:=dE z0
     subst I
     refine aAx qR166 G ?_
     exact ⟨(Sum.inl (j1,m4,0,m5)),E,l5,l6,k8,l0,l7,E,c59,selM H [0,1,2,3,4,5,11,6,7,14,10,12,13] 15 E⟩
    obtain ⟨rfl,H⟩:=hR
    replace I:Sh.oH c0 k6 c4 i7 = _:=u9
    unfold Sh.oH at I
    intro a G
    refine aA G (dF G E E) E E E fun a G=>?_
    refine aJ (aB ?_)
    refine aG1 G (c:=.tmp 20) E (aKc E) ?_
    refine aW (aB ?_)
    refine aG ?_
    refine aD ?_
    refine aA G (aQ qA54 qS54 G E E (RState.len _) (H.cells (i:=2) E (aY (RState.len _)))) E E E fun a G=>?_
    refine aA G (aQ qA60 qS60 G E E (RMark.len _) (H.cells (i:=1) E (aY (RMark.len _)))) E E E fun a G=>?_
    obtain ⟨c3,c45,I⟩:=bind_some I
    refine aN G E E E (aO (xs:=[.tmp 22,.tmp 23]) Tryz.call52 G E E (jE c45 H (fun _ h=>h) (fun w H=>(H.rowS (X:=UInt8) (i:=3) E)) (fun w H=>(H.rowS (X:=SV) (i:=4) E)) (p4.mono fun _ _ q=>q.mono fun w H=>H.hold 5 _ E) (fun w H=>(H.rowS (X:=Int) (i:=6) E)) (fun w H=>(c48 _ (S _ (dropM H 15)))) (fun w H=>(c49 _ (S _ (dropM H 15)))) (fun w H=>(c50 _ (S _ (dropM H 15)))) (c58.mono fun _ _ q=>q.mono fun w H=>S _ (dropM H 15)) (fun w H=>(c51 _ (S _ (dropM H 15))))) fun v w hR=>?_)
    obtain ⟨g7,g8,j0,j3,g9,rfl,c61,H⟩:=hR
    replace H:MemL _ (rowL 0 g7 5 c3.1.ctx::rowL 0 g8 23 j0::j3::rowL 0 g9 3 c3.1.sent::pt d0 [.int .i64 i7] 3::pt g5 (RMark.enc (mMk c4 i1 i2 i3 i4)) 60::pt d1 (RState.enc (mSt c0 d2 d3 d4)) 54::rowL 0 d2 5 c0.ctx::rowL 0 d3 23 g4::g6::rowL 0 d4 3 c0.sent::pt d6 (RRecord.enc (mRc d5 d8 d9 d7)) 36::pt c9 [.int .i64 0] 34::pt c8 [.int .i64 0] 3::pt c7 (RState.enc zSt) 54::pt c6 [.int .i64 x1] 3::pt c5 (RRecord.enc (mRc x0 s1 s3 s7)) 36::recR c2 .ready none::.obj c2.d dfO::Lr):=H
    intro a G
    refine aA G (aF G E E) E E E fun a G=>?_
    refine aA G (cZ G E E E) E E E fun a G=>?_
    refine aA G (cZ G E E E) E E E fun a G=>?_
    refine bD E E (aX (vs:=_) qS54 (H.obj (i:=6) E) G E E E E (RState.len _) (RState.one _) (by first | (rw [RState.len,RState.len]; decide) | (rw [RState.len]; decide)) (bE ((RState.len _).trans (RState.len _).symm)) fun w c25=>?_)
    have H:=H.chg c25 (i:=6) rfl
    replace H:MemL _ (rowL 0 g7 5 c3.1.ctx::rowL 0 g8 23 j0::j3::rowL 0 g9 3 c3.1.sent::pt d0 [.int .i64 i7] 3::pt g5 (RMark.enc (mMk c4 i1 i2 i3 i4)) 60::pt d1 (RState.enc (mSt c3.1 g7 g8 g9)) 54::rowL 0 d2 5 c0.ctx::rowL 0 d3 23 g4::g6::rowL 0 d4 3 c0.sent::pt d6 (RRecord.enc (mRc d5 d8 d9 d7)) 36::pt c9 [.int .i64 0] 34::pt c8 [.int .i64 0] 3::pt c7 (RState.enc zSt) 54::pt c6 [.int .i64 x1] 3::pt c5 (RRecord.enc (mRc x0 s1 s3 s7)) 36::recR c2 .ready none::.obj c2.d dfO::Lr):=H
    refine aA G (aH G E E) E E E fun a G=>?_
    refine aJ (aB ?_)
    refine aG ?_
    refine aD ?_
    refine aA G (aF G E E) E E E fun a G=>?_
    refine aA G (dD G E E E) E E E fun a G=>?_
    refine aJ (aB ?_)
    refine aT G (c:=.tmp 28) E (fun k7=>?_) (fun k7=>?_)
    ·have I:=Fx.cT k7 I
     refine aG ?_
     refine aD ?_
     refine aA G (aF G E E) E E E fun a G=>?_
     refine aA G (aQ qA54 qS54 G E E (RState.len _) (H.cells (i:=6) E (aY (RState.len _)))) E E E fun a G=>?_
     refine aA G (aF G E E) E E E fun a G=>?_
     obtain ⟨c78,I,c71⟩:=dH I
     refine aN G E E E (Yd.mono (yH (rc:=c2) (vs:=[.agg (RState.enc (mSt c3.1 g7 g8 g9)).toArray,.int .i64 c3.2]) (ps:=[24,25]) (J:=fun v w=>∃ x,c78 = .inl x ∧ match x with | (m6,m7,m8)=>v = .bool false ∧ MemL w (pt c8 [.int .i64 m6] 3::pt c9 [.int .i64 m7] 34::pt d0 [.int .i64 m8] 3::recR c2 .done (some .ret)::rowL 0 g7 5 c3.1.ctx::rowL 0 g8 23 j0::j3::rowL 0 g9 3 c3.1.sent::pt g5 (RMark.enc (mMk c4 i1 i2 i3 i4)) 60::pt d1 (RState.enc (mSt c3.1 g7 g8 g9)) 54::rowL 0 d2 5 c0.ctx::rowL 0 d3 23 g4::g6::rowL 0 d4 3 c0.sent::pt d6 (RRecord.enc (mRc d5 d8 d9 d7)) 36::pt c7 (RState.enc zSt) 54::pt c6 [.int .i64 x1] 3::pt c5 (RRecord.enc (mRc x0 s1 s3 s7)) 36::.obj c2.d dfO::Lr)) G E E E H (i:=17) E k2 k0 k1 E E ?_) fun v w hR=>?_)
     ·have G:=FrT.fr (FrT.put (d:=25) (v:=.int .i64 c3.2) (FrT.put (d:=24) (v:=.agg (RState.enc (mSt c3.1 g7 g8 g9)).toArray) k3 rfl) rfl) []
      refine aG ?_
      refine aD ?_
      refine aN G E E E (bN z54 (zs:=RState.zero.enc) E E fun g3 w p9 j5=>?_)
      have H:=H.plus j5
      replace H:MemL _ (pt g3 (RState.enc zSt) 54::rowL 0 g7 5 c3.1.ctx::rowL 0 g8 23 j0::j3::rowL 0 g9 3 c3.1.sent::pt d0 [.int .i64 i7] 3::pt g5 (RMark.enc (mMk c4 i1 i2 i3 i4)) 60::pt d1 (RState.enc (mSt c3.1 g7 g8 g9)) 54::rowL 0 d2 5 c0.ctx::rowL 0 d3 23 g4::g6::rowL 0 d4 3 c0.sent::pt d6 (RRecord.enc (mRc d5 d8 d9 d7)) 36::pt c9 [.int .i64 0] 34::pt c8 [.int .i64 0] 3::pt c7 (RState.enc zSt) 54::pt c6 [.int .i64 x1] 3::pt c5 (RRecord.enc (mRc x0 s1 s3 s7)) 36::recR c2 .ready none::.obj c2.d dfO::Lr):=H
      intro a G
      refine bD E E (aX (vs:=_) qS54 (H.obj (i:=0) E) G E E E E (RState.len _) (RState.one _) (by first | (rw [RState.len,RState.len]; decide) | (rw [RState.len]; decide)) (bE ((RState.len _).trans (RState.len _).symm)) fun w c26=>?_)
      have H:=H.chg c26 (i:=0) rfl
      refine aJ (aB ?_)
      refine aD ?_
      refine aA G (aH G E E) E E E fun a G=>?_
      refine aJ (aB ?_)
      refine uS H (i:=18) E fun w H=>?_
      refine aU ?_
      refine aG ?_
      refine aG ?_
      refine aD ?_
      refine aA G (aI qA3 G E E (H.cell (i:=5) E E)) E E E fun a G=>?_
      refine aA G (bW G E E E) E E E fun a G=>?_
      refine bD E E (bI qS3 (H.obj (i:=5) E) G E E E E Nat.zero_lt_one E fun w c27=>?_)
      have H:=H.chg c27 (i:=5) rfl
      replace H:MemL _ (pt g3 (RState.enc (mSt c3.1 g7 g8 g9)) 54::rowL 0 g7 5 c3.1.ctx::rowL 0 g8 23 j0::j3::rowL 0 g9 3 c3.1.sent::pt d0 [.int .i64 (IntKind.i64.wrap (i7 + 1))] 3::pt g5 (RMark.enc (mMk c4 i1 i2 i3 i4)) 60::pt d1 (RState.enc (mSt c3.1 g7 g8 g9)) 54::rowL 0 d2 5 c0.ctx::rowL 0 d3 23 g4::g6::rowL 0 d4 3 c0.sent::pt d6 (RRecord.enc (mRc d5 d8 d9 d7)) 36::pt c9 [.int .i64 0] 34::pt c8 [.int .i64 0] 3::pt c7 (RState.enc zSt) 54::pt c6 [.int .i64 x1] 3::pt c5 (RRecord.enc (mRc x0 s1 s3 s7)) 36::recR c2 .busy none::.obj c2.d dfO::Lr):=H
      refine aJ (aB ?_)
      refine aG ?_
      refine aD ?_
      refine aA G (aF G E E) E E E fun a G=>?_
      refine aA G (dD G E E E) E E E fun a G=>?_
      refine aJ (aB ?_)
      refine aB1 G (c:=.tmp 29) E k7 ?_
      refine aG ?_
      refine bM mixed (by kernel_rfl) H [0,1,2,3,4,5,6,7,8,9,10,11,12,13,14,15,16,17,18,19] 20 E fun K=>?_
      refine aK G K 0 E (by kernel_rfl) E E E (fun w H=>(cB z54 qU54 pl54 G (parts:=[]) E E cN)) fun a G=>?_
      refine aK G K 1 E (by kernel_rfl) E E E (fun w H=>(aI qA3 G E E (H.cell (i:=5) E E))) fun a G=>?_
      refine aK G K 2 E (by kernel_rfl) E E E (fun w H=>(eS G E E E)) fun a G=>?_
      refine aK G K 3 E (by kernel_rfl) E E E (fun w H=>(aF G E E)) fun a G=>?_
      refine bF K 4 (by kernel_rfl) E E ?_
      refine cV 4 E E E E fun w hMs H=>?_
      refine (aX (vs:=_) qS54 (H.obj (i:=15) E) G E E E E (RState.len _) (RState.one _) (by first | (rw [RState.len,RState.len]; decide) | (rw [RState.len]; decide)) (bE ((RState.len _).trans (RState.len _).symm)) fun w c28=>?_)
      have H:=H.chg c28 (i:=15) rfl
      replace H:MemL _ (pt g3 (RState.enc (mSt c3.1 g7 g8 g9)) 54::rowL 0 g7 5 c3.1.ctx::rowL 0 g8 23 j0::j3::rowL 0 g9 3 c3.1.sent::pt d0 [.int .i64 (IntKind.i64.wrap (i7 + 1))] 3::pt g5 (RMark.enc (mMk c4 i1 i2 i3 i4)) 60::pt d1 (RState.enc (mSt c3.1 g7 g8 g9)) 54::rowL 0 d2 5 c0.ctx::rowL 0 d3 23 g4::g6::rowL 0 d4 3 c0.sent::pt d6 (RRecord.enc (mRc d5 d8 d9 d7)) 36::pt c9 [.int .i64 0] 34::pt c8 [.int .i64 0] 3::pt c7 (RState.enc zSt) 54::pt c6 [.int .i64 x1] 3::pt c5 (RRecord.enc (mRc x0 s1 s3 s7)) 36::recR c2 .busy none::.obj c2.d dfO::Lr):=H
      have hMs:=selM H [0,1,2,3,4,5,6,7,8,9,10,11,12,13,14,15,16,17,18,19] 20 rfl
      refine ⟨_,_,hMs,H,.inl fun _ h=>h,?_⟩
      refine bF K 5 (by kernel_rfl) E E ?_
      refine cV 5 E E E E fun w hMs H=>?_
      refine (bI qS3 (H.obj (i:=14) E) G E E E E Nat.zero_lt_one E fun w c29=>?_)
      have H:=H.chg c29 (i:=14) rfl
      replace H:MemL _ (pt g3 (RState.enc (mSt c3.1 g7 g8 g9)) 54::rowL 0 g7 5 c3.1.ctx::rowL 0 g8 23 j0::j3::rowL 0 g9 3 c3.1.sent::pt d0 [.int .i64 (IntKind.i64.wrap (i7 + 1))] 3::pt g5 (RMark.enc (mMk c4 i1 i2 i3 i4)) 60::pt d1 (RState.enc (mSt c3.1 g7 g8 g9)) 54::rowL 0 d2 5 c0.ctx::rowL 0 d3 23 g4::g6::rowL 0 d4 3 c0.sent::pt d6 (RRecord.enc (mRc d5 d8 d9 d7)) 36::pt c9 [.int .i64 0] 34::pt c8 [.int .i64 (IntKind.i64.wrap ((IntKind.i64.wrap (i7 + 1)) - 1))] 3::pt c7 (RState.enc zSt) 54::pt c6 [.int .i64 x1] 3::pt c5 (RRecord.enc (mRc x0 s1 s3 s7)) 36::recR c2 .busy none::.obj c2.d dfO::Lr):=H
      have hMs:=H
      refine ⟨_,_,hMs,H,.inr (by kernel_rfl),?_⟩
      refine bF K 6 (by kernel_rfl) E E ?_
      refine cV 6 E E E E fun w hMs H=>?_
      refine (bI qS34 (H.obj (i:=13) E) G E E E E Nat.zero_lt_one E fun w c30=>?_)
      have H:=H.chg c30 (i:=13) rfl
      replace H:MemL _ (pt g3 (RState.enc (mSt c3.1 g7 g8 g9)) 54::rowL 0 g7 5 c3.1.ctx::rowL 0 g8 23 j0::j3::rowL 0 g9 3 c3.1.sent::pt d0 [.int .i64 (IntKind.i64.wrap (i7 + 1))] 3::pt g5 (RMark.enc (mMk c4 i1 i2 i3 i4)) 60::pt d1 (RState.enc (mSt c3.1 g7 g8 g9)) 54::rowL 0 d2 5 c0.ctx::rowL 0 d3 23 g4::g6::rowL 0 d4 3 c0.sent::pt d6 (RRecord.enc (mRc d5 d8 d9 d7)) 36::pt c9 [.int .i64 c3.2] 34::pt c8 [.int .i64 (IntKind.i64.wrap ((IntKind.i64.wrap (i7 + 1)) - 1))] 3::pt c7 (RState.enc zSt) 54::pt c6 [.int .i64 x1] 3::pt c5 (RRecord.enc (mRc x0 s1 s3 s7)) 36::recR c2 .busy none::.obj c2.d dfO::Lr):=H
      have hMs:=H
      refine ⟨_,_,hMs,H,.inr (by kernel_rfl),?_⟩
      refine bV K (by kernel_rfl) fun w H=>?_
      refine aB ?_
      refine c_ret ?_
      refine uT (a:=a) H (i:=18) E fun w H=>?_
      replace H:MemL _ (pt g3 (RState.enc (mSt c3.1 g7 g8 g9)) 54::rowL 0 g7 5 c3.1.ctx::rowL 0 g8 23 j0::j3::rowL 0 g9 3 c3.1.sent::pt d0 [.int .i64 (IntKind.i64.wrap (i7 + 1))] 3::pt g5 (RMark.enc (mMk c4 i1 i2 i3 i4)) 60::pt d1 (RState.enc (mSt c3.1 g7 g8 g9)) 54::rowL 0 d2 5 c0.ctx::rowL 0 d3 23 g4::g6::rowL 0 d4 3 c0.sent::pt d6 (RRecord.enc (mRc d5 d8 d9 d7)) 36::pt c9 [.int .i64 c3.2] 34::pt c8 [.int .i64 (IntKind.i64.wrap ((IntKind.i64.wrap (i7 + 1)) - 1))] 3::pt c7 (RState.enc zSt) 54::pt c6 [.int .i64 x1] 3::pt c5 (RRecord.enc (mRc x0 s1 s3 s7)) 36::recR c2 .done (some .ret)::.obj c2.d dfO::Lr):=H
      have I:=oI I
      subst I
      exact ⟨((IntKind.i64.wrap ((IntKind.i64.wrap (i7 + 1)) - 1)),c3.2,(IntKind.i64.wrap (i7 + 1))),E,E,selM H [14,13,5,18,1,2,3,4,6,7,8,9,10,11,12,15,16,17,19] 20 E⟩
     obtain ⟨c67,rfl,hR⟩:=hR
     rcases c67 with ⟨m6,m7,m8⟩
     obtain ⟨rfl,H⟩:=hR
     replace I:Sh.qI m6 m7 m8 = _:=c71
     unfold Sh.qI at I
     intro a G
     refine aJ (aB ?_)
     refine c_ret ?_
     have H:=H.rowNil (X:=UInt8) 0 5
     obtain ⟨t6,H⟩:=voidM H
     have c62:Each (LIn (X:=UInt8) t6.holds') ([]:List SV) ([]:List (List UInt8)):=Each.nil
     have H:=H.rowNil (X:=SV) 0 23
     have H:=H.rowNil (X:=Int) 0 3
     have I:=oI I
     subst I
     have I:=t0 _ rfl
     subst I
     have I:=dE z0
     subst I
     refine aAx qR166 G ?_
     exact ⟨(Sum.inl ((QState.mk (⟨List.replicate 11 LVal.zero,E⟩ : Vec LVal 11) (⟨List.replicate 32 LSlot.zero,E⟩ : Vec LSlot 32) [] [] [] 0 0 false),m6,m7,m8)),E,SV.nil,SV.nil,[],t6,SV.nil,E,c62,selM H [19,3,1,2,0,4,5,6,7,22,18,20,21] 23 E⟩
    have I:=Fx.cF k7 I
    refine aW (bK (aB ?_))
    refine aD ?_
    refine aA G (bW G E E E) E E E fun a G=>?_
    refine aA G (aF G E E) E E E fun a G=>?_
    refine aJ (aB ?_)
    have I:=oI I
    subst I
    exact ⟨(c3.1,i7,(IntKind.i64.wrap (k6 + 1))),E,g7,g8,j0,j3,g9,c61,G.to ⟨E,E,E,E,E,trivial⟩,selM H [6,0,1,2,3,4,11,12,13,14,15,16,17,18] 19 E⟩
   have I:=Fx.cF n4 I
   refine bX (bC (bC (cO ?_)))
   refine aB ?_
   have I:=oI I
   subst I
   have I:=t0 _ rfl
   subst I
   exact ⟨(c0,i0),E,d2,d3,g4,g6,d4,p4,G.to ⟨E,E,trivial⟩,H⟩
  rintro ⟨c1,i5⟩ a w I ⟨g0,g1,i8,i9,g2,c57,G,H⟩
  replace I:Sh.oI x1 c1 i5 = _:=I
  unfold Sh.oI at I
  refine aB ?_
  refine aD ?_
  refine aA G (aF G E E) E E E fun a G=>?_
  refine aA G (aQ qA54 qS54 G E E (RState.len _) (H.cells (i:=0) E (aY (RState.len _)))) E E E fun a G=>?_
  obtain ⟨c72,I,t1⟩:=dH I
  refine aN G E E E (Yd.mono (yH (rc:=c2) (vs:=[.agg (RState.enc (mSt c1 g0 g1 g2)).toArray,.int .i64 0]) (ps:=[24,25]) (J:=fun v w=>∃ x,c72 = .inl x ∧ match x with | (.inl (j2,m9,n0))=>∃ (l8:SV) (l9:SV) (k9:List SV) (l1:Res) (m0:SV),v = .bool false ∧ Each (LIn (X:=UInt8) l1.holds') k9 j2.tables ∧ MemL w (pt c7 (RState.enc (mSt j2 l8 l9 m0)) 54::rowL 0 l8 5 j2.ctx::rowL 0 l9 23 k9::l1::rowL 0 m0 3 j2.sent::pt c8 [.int .i64 m9] 3::pt d0 [.int .i64 n0] 3::recR c2 .done (some .ret)::pt d1 (RState.enc (mSt c1 g0 g1 g2)) 54::pt d6 (RRecord.enc (mRc d5 d8 d9 d7)) 36::pt c9 [.int .i64 0] 34::pt c6 [.int .i64 x1] 3::pt c5 (RRecord.enc (mRc x0 s1 s3 s7)) 36::.obj c2.d dfO::Lr) | (.inr n1)=>v = .bool true ∧ MemL w (pt d0 [.int .i64 n1] 3::pt d1 (RState.enc (mSt c1 g0 g1 g2)) 54::rowL 0 g0 5 c1.ctx::rowL 0 g1 23 i8::i9::rowL 0 g2 3 c1.sent::pt d6 (RRecord.enc (mRc d5 d8 d9 d7)) 36::pt c9 [.int .i64 0] 34::pt c8 [.int .i64 0] 3::pt c7 (RState.enc zSt) 54::pt c6 [.int .i64 x1] 3::pt c5 (RRecord.enc (mRc x0 s1 s3 s7)) 36::recR c2 .ready none::.obj c2.d dfO::Lr)) G E E E H (i:=12) E k2 k0 k1 E E ?_) fun v w hR=>?_)
  ·have G:=FrT.fr (FrT.put (d:=25) (v:=.int .i64 0) (FrT.put (d:=24) (v:=.agg (RState.enc (mSt c1 g0 g1 g2)).toArray) k3 rfl) rfl) []
   refine aG ?_
   refine aD ?_
   refine aN G E E E (bN z54 (zs:=RState.zero.enc) E E fun g3 w p9 j5=>?_)
   have H:=H.plus j5
   replace H:MemL _ (pt g3 (RState.enc zSt) 54::pt d1 (RState.enc (mSt c1 g0 g1 g2)) 54::rowL 0 g0 5 c1.ctx::rowL 0 g1 23 i8::i9::rowL 0 g2 3 c1.sent::pt d0 [.int .i64 i5] 3::pt d6 (RRecord.enc (mRc d5 d8 d9 d7)) 36::pt c9 [.int .i64 0] 34::pt c8 [.int .i64 0] 3::pt c7 (RState.enc zSt) 54::pt c6 [.int .i64 x1] 3::pt c5 (RRecord.enc (mRc x0 s1 s3 s7)) 36::recR c2 .ready none::.obj c2.d dfO::Lr):=H
   intro a G
   refine bD E E (aX (vs:=_) qS54 (H.obj (i:=0) E) G E E E E (RState.len _) (RState.one _) (by first | (rw [RState.len,RState.len]; decide) | (rw [RState.len]; decide)) (bE ((RState.len _).trans (RState.len _).symm)) fun w c31=>?_)
   have H:=H.chg c31 (i:=0) rfl
   refine aJ (aB ?_)
   refine aD ?_
   refine aA G (aH G E E) E E E fun a G=>?_
   refine aJ (aB ?_)
   refine uS H (i:=13) E fun w H=>?_
   refine aU ?_
   refine aG ?_
   refine aG ?_
   refine aD ?_
   refine aA G (aI qA3 G E E (H.cell (i:=6) E E)) E E E fun a G=>?_
   refine aA G (bW G E E E) E E E fun a G=>?_
   refine bD E E (bI qS3 (H.obj (i:=6) E) G E E E E Nat.zero_lt_one E fun w c32=>?_)
   have H:=H.chg c32 (i:=6) rfl
   replace H:MemL _ (pt g3 (RState.enc (mSt c1 g0 g1 g2)) 54::pt d1 (RState.enc (mSt c1 g0 g1 g2)) 54::rowL 0 g0 5 c1.ctx::rowL 0 g1 23 i8::i9::rowL 0 g2 3 c1.sent::pt d0 [.int .i64 (IntKind.i64.wrap (i5 + 1))] 3::pt d6 (RRecord.enc (mRc d5 d8 d9 d7)) 36::pt c9 [.int .i64 0] 34::pt c8 [.int .i64 0] 3::pt c7 (RState.enc zSt) 54::pt c6 [.int .i64 x1] 3::pt c5 (RRecord.enc (mRc x0 s1 s3 s7)) 36::recR c2 .busy none::.obj c2.d dfO::Lr):=H
   refine aJ (aB ?_)
   refine aG ?_
   refine aD ?_
   refine aA G (aF G E E) E E E fun a G=>?_
   refine aA G (dD G E E E) E E E fun a G=>?_
   refine aJ (aB ?_)
   refine aT G (c:=.tmp 29) E (fun n7=>?_) (fun n7=>?_)
   ·have I:=Fx.cT n7 I
    refine aG ?_
    refine bM mixed (by kernel_rfl) H [0,1,2,3,4,5,6,7,8,9,10,11,12,13,14] 15 E fun K=>?_
    refine aK G K 0 E (by kernel_rfl) E E E (fun w H=>(cB z54 qU54 pl54 G (parts:=[]) E E cN)) fun a G=>?_
    refine aK G K 1 E (by kernel_rfl) E E E (fun w H=>(aI qA3 G E E (H.cell (i:=6) E E))) fun a G=>?_
    refine aK G K 2 E (by kernel_rfl) E E E (fun w H=>(eS G E E E)) fun a G=>?_
    refine aK G K 3 E (by kernel_rfl) E E E (fun w H=>(aF G E E)) fun a G=>?_
    refine bF K 4 (by kernel_rfl) E E ?_
    refine cV 4 E E E E fun w hMs H=>?_
    refine (aX (vs:=_) qS54 (H.obj (i:=10) E) G E E E E (RState.len _) (RState.one _) (by first | (rw [RState.len,RState.len]; decide) | (rw [RState.len]; decide)) (bE ((RState.len _).trans (RState.len _).symm)) fun w c33=>?_)
    have H:=H.chg c33 (i:=10) rfl
    replace H:MemL _ (pt g3 (RState.enc (mSt c1 g0 g1 g2)) 54::pt d1 (RState.enc (mSt c1 g0 g1 g2)) 54::rowL 0 g0 5 c1.ctx::rowL 0 g1 23 i8::i9::rowL 0 g2 3 c1.sent::pt d0 [.int .i64 (IntKind.i64.wrap (i5 + 1))] 3::pt d6 (RRecord.enc (mRc d5 d8 d9 d7)) 36::pt c9 [.int .i64 0] 34::pt c8 [.int .i64 0] 3::pt c7 (RState.enc zSt) 54::pt c6 [.int .i64 x1] 3::pt c5 (RRecord.enc (mRc x0 s1 s3 s7)) 36::recR c2 .busy none::.obj c2.d dfO::Lr):=H
    have hMs:=selM H [0,1,2,3,4,5,6,7,8,9,10,11,12,13,14] 15 rfl
    refine ⟨_,_,hMs,H,.inl fun _ h=>h,?_⟩
    refine bF K 5 (by kernel_rfl) E E ?_
    refine cV 5 E E E E fun w hMs H=>?_
    refine (bI qS3 (H.obj (i:=9) E) G E E E E Nat.zero_lt_one E fun w c34=>?_)
    have H:=H.chg c34 (i:=9) rfl
    replace H:MemL _ (pt g3 (RState.enc (mSt c1 g0 g1 g2)) 54::pt d1 (RState.enc (mSt c1 g0 g1 g2)) 54::rowL 0 g0 5 c1.ctx::rowL 0 g1 23 i8::i9::rowL 0 g2 3 c1.sent::pt d0 [.int .i64 (IntKind.i64.wrap (i5 + 1))] 3::pt d6 (RRecord.enc (mRc d5 d8 d9 d7)) 36::pt c9 [.int .i64 0] 34::pt c8 [.int .i64 (IntKind.i64.wrap ((IntKind.i64.wrap (i5 + 1)) - 1))] 3::pt c7 (RState.enc zSt) 54::pt c6 [.int .i64 x1] 3::pt c5 (RRecord.enc (mRc x0 s1 s3 s7)) 36::recR c2 .busy none::.obj c2.d dfO::Lr):=H
    have hMs:=H
    refine ⟨_,_,hMs,H,.inr (by kernel_rfl),?_⟩
    refine bF K 6 (by kernel_rfl) E E ?_
    refine cV 6 E E E E fun w hMs H=>?_
    refine (bI qS34 (H.obj (i:=8) E) G E E E E Nat.zero_lt_one E fun w c35=>?_)
    have H:=H.chg c35 (i:=8) rfl
    replace H:MemL _ (pt g3 (RState.enc (mSt c1 g0 g1 g2)) 54::pt d1 (RState.enc (mSt c1 g0 g1 g2)) 54::rowL 0 g0 5 c1.ctx::rowL 0 g1 23 i8::i9::rowL 0 g2 3 c1.sent::pt d0 [.int .i64 (IntKind.i64.wrap (i5 + 1))] 3::pt d6 (RRecord.enc (mRc d5 d8 d9 d7)) 36::pt c9 [.int .i64 0] 34::pt c8 [.int .i64 (IntKind.i64.wrap ((IntKind.i64.wrap (i5 + 1)) - 1))] 3::pt c7 (RState.enc zSt) 54::pt c6 [.int .i64 x1] 3::pt c5 (RRecord.enc (mRc x0 s1 s3 s7)) 36::recR c2 .busy none::.obj c2.d dfO::Lr):=H
    have hMs:=selM H [0,1,2,3,4,5,6,7,8,9,10,11,12,13,14] 15 rfl
    refine ⟨_,_,hMs,H,.inl fun _ h=>h,?_⟩
    refine bV K (by kernel_rfl) fun w H=>?_
    refine aB ?_
    refine c_ret ?_
    refine uT (a:=a) H (i:=13) E fun w H=>?_
    replace H:MemL _ (pt g3 (RState.enc (mSt c1 g0 g1 g2)) 54::pt d1 (RState.enc (mSt c1 g0 g1 g2)) 54::rowL 0 g0 5 c1.ctx::rowL 0 g1 23 i8::i9::rowL 0 g2 3 c1.sent::pt d0 [.int .i64 (IntKind.i64.wrap (i5 + 1))] 3::pt d6 (RRecord.enc (mRc d5 d8 d9 d7)) 36::pt c9 [.int .i64 0] 34::pt c8 [.int .i64 (IntKind.i64.wrap ((IntKind.i64.wrap (i5 + 1)) - 1))] 3::pt c7 (RState.enc zSt) 54::pt c6 [.int .i64 x1] 3::pt c5 (RRecord.enc (mRc x0 s1 s3 s7)) 36::recR c2 .done (some .ret)::.obj c2.d dfO::Lr):=H
    have H:=H.rowNil (X:=UInt8) 0 5
    obtain ⟨t7,H⟩:=voidM H
    have c64:Each (LIn (X:=UInt8) t7.holds') ([]:List SV) ([]:List (List UInt8)):=Each.nil
    have H:=H.rowNil (X:=SV) 0 23
    have H:=H.rowNil (X:=Int) 0 3
    have I:=oI I
    subst I
    exact ⟨(Sum.inl ((QState.mk (⟨List.replicate 11 LVal.zero,E⟩ : Vec LVal 11) (⟨List.replicate 32 LSlot.zero,E⟩ : Vec LSlot 32) [] [] [] 0 0 false),(IntKind.i64.wrap ((IntKind.i64.wrap (i5 + 1)) - 1)),(IntKind.i64.wrap (i5 + 1)))),E,SV.nil,SV.nil,[],t7,SV.nil,E,c64,selM H [14,3,1,2,0,13,10,17,5,11,12,15,16,18] 19 E⟩
   have I:=Fx.cF n7 I
   refine aW (aB ?_)
   refine aG ?_
   refine aD ?_
   refine aA G (aI qA3 G E E (H.cell (i:=6) E E)) E E E fun a G=>?_
   refine aA G (aI qA3 G E E (H.cell (i:=11) E E)) E E E fun a G=>?_
   refine aA G (dG G E E E) E E E fun a G=>?_
   refine aJ (aB ?_)
   refine aT G (c:=.tmp 36) E (fun n8=>?_) (fun n8=>?_)
   ·have I:=Fx.cT n8 I
    refine aG ?_
    refine aD ?_
    refine aA G (aQ qA54 qS54 G E E (RState.len _) (H.cells (i:=0) E (aY (RState.len _)))) E E E fun a G=>?_
    refine bD E E (aX (vs:=_) qS54 (H.obj (i:=10) E) G E E E E (RState.len _) (RState.one _) (by first | (rw [RState.len,RState.len]; decide) | (rw [RState.len]; decide)) (bE ((RState.len _).trans (RState.len _).symm)) fun w c36=>?_)
    have H:=H.chg c36 (i:=10) rfl
    refine bD E E (bI qS3 (H.obj (i:=9) E) G E E E E Nat.zero_lt_one E fun w c37=>?_)
    have H:=H.chg c37 (i:=9) rfl
    refine bD E E (bI qS34 (H.obj (i:=8) E) G E E E E Nat.zero_lt_one E fun w c38=>?_)
    have H:=H.chg c38 (i:=8) rfl
    replace H:MemL _ (pt g3 (RState.enc (mSt c1 g0 g1 g2)) 54::pt d1 (RState.enc (mSt c1 g0 g1 g2)) 54::rowL 0 g0 5 c1.ctx::rowL 0 g1 23 i8::i9::rowL 0 g2 3 c1.sent::pt d0 [.int .i64 (IntKind.i64.wrap (i5 + 1))] 3::pt d6 (RRecord.enc (mRc d5 d8 d9 d7)) 36::pt c9 [.int .i64 0] 34::pt c8 [.int .i64 0] 3::pt c7 (RState.enc (mSt c1 g0 g1 g2)) 54::pt c6 [.int .i64 x1] 3::pt c5 (RRecord.enc (mRc x0 s1 s3 s7)) 36::recR c2 .busy none::.obj c2.d dfO::Lr):=H
    refine aJ (aB ?_)
    refine c_ret ?_
    refine uT (a:=a) H (i:=13) E fun w H=>?_
    replace H:MemL _ (pt g3 (RState.enc (mSt c1 g0 g1 g2)) 54::pt d1 (RState.enc (mSt c1 g0 g1 g2)) 54::rowL 0 g0 5 c1.ctx::rowL 0 g1 23 i8::i9::rowL 0 g2 3 c1.sent::pt d0 [.int .i64 (IntKind.i64.wrap (i5 + 1))] 3::pt d6 (RRecord.enc (mRc d5 d8 d9 d7)) 36::pt c9 [.int .i64 0] 34::pt c8 [.int .i64 0] 3::pt c7 (RState.enc (mSt c1 g0 g1 g2)) 54::pt c6 [.int .i64 x1] 3::pt c5 (RRecord.enc (mRc x0 s1 s3 s7)) 36::recR c2 .done (some .ret)::.obj c2.d dfO::Lr):=H
    have I:=oI I
    subst I
    exact ⟨(Sum.inl (c1,0,(IntKind.i64.wrap (i5 + 1)))),E,g0,g1,i8,i9,g2,E,c57,selM H [10,2,3,4,5,9,6,13,1,7,8,11,12,14] 15 E⟩
   have I:=Fx.cF n8 I
   refine aW (bK ?_)
   refine wK H (i:=13) E fun w H=>?_
   replace H:MemL _ (pt g3 (RState.enc (mSt c1 g0 g1 g2)) 54::pt d1 (RState.enc (mSt c1 g0 g1 g2)) 54::rowL 0 g0 5 c1.ctx::rowL 0 g1 23 i8::i9::rowL 0 g2 3 c1.sent::pt d0 [.int .i64 (IntKind.i64.wrap (i5 + 1))] 3::pt d6 (RRecord.enc (mRc d5 d8 d9 d7)) 36::pt c9 [.int .i64 0] 34::pt c8 [.int .i64 0] 3::pt c7 (RState.enc zSt) 54::pt c6 [.int .i64 x1] 3::pt c5 (RRecord.enc (mRc x0 s1 s3 s7)) 36::recR c2 .ready none::.obj c2.d dfO::Lr):=H
   have I:=oI I
   subst I
   exact ⟨(Sum.inr (IntKind.i64.wrap (i5 + 1))),E,E,selM H [6,1,2,3,4,5,7,8,9,10,11,12,13,14] 15 E⟩
  obtain ⟨c68,rfl,hR⟩:=hR
  rcases c68 with ⟨j2,m9,n0⟩ | n1
  ·obtain ⟨l8,l9,k9,l1,m0,rfl,c63,H⟩:=hR
   replace I:Sh.qJ j2 m9 n0 = _:=t1
   unfold Sh.qJ at I
   intro a G
   refine aJ ?_
   have I:=oI I
   subst I
   refine eO qR166 G ?_
   exact ⟨(Sum.inl (j2,m9,0,n0)),E,l8,l9,k9,l1,m0,E,c63,selM H [0,1,2,3,4,5,10,6,7,13,9,11,12] 14 E⟩
  obtain ⟨rfl,H⟩:=hR
  replace I:Sh.uA n1 = _:=t1
  unfold Sh.uA at I
  intro a G
  refine aJ ?_
  have I:=oI I
  subst I
  refine eO qR166 G ?_
  exact ⟨(Sum.inr n1),E,E,selM H [0,12,13,6,7,8,9,10,11] 14 E⟩
 obtain ⟨c69,rfl,hR⟩:=hR
 rcases c69 with ⟨i6,m1,m2,m3⟩ | k5
 ·obtain ⟨j7,j8,j6,k4,j9,rfl,c55,H⟩:=hR
  replace I:Sh.uB i6 m1 m2 m3 = _:=u8
  unfold Sh.uB at I
  refine aDv (selM H [8,0,1,2,3,4,5,6,7,9,10,11,12] 13 E) fun a w G H=>?_
  replace H:MemL _ (pt c7 (RState.enc (mSt i6 j7 j8 j9)) 54::rowL 0 j7 5 i6.ctx::rowL 0 j8 23 j6::k4::rowL 0 j9 3 i6.sent::pt c8 [.int .i64 m1] 3::pt c9 [.int .i64 m2] 34::pt d0 [.int .i64 m3] 3::.obj c2.d dfO::pt d6 (RRecord.enc (mRc d5 d8 d9 d7)) 36::pt c6 [.int .i64 x1] 3::pt c5 (RRecord.enc (mRc x0 s1 s3 s7)) 36::Lr):=H
  have I:=oI I
  subst I
  refine aB5 G ?_
  refine sI H (i:=8) E fun w H=>?_
  refine tW (aFc (rs:=[.cell 4 54,.cell 5 3,.cell 6 34]) qR51 (bZ G E qA54 qS54 (RState.len _) (H.cells (i:=0) E (aY (RState.len _))) (iK G E qA3 (H.cell (i:=5) E E) (iK G E qA34 (H.cell (i:=6) E E) cI))) E ?_)
  exact ⟨j7,j8,j6,k4,j9,E,c55,selM H [1,2,3,4] 12 E⟩
 obtain ⟨rfl,H⟩:=hR
 replace I:Sh.uC k5 = _:=u8
 unfold Sh.uC at I
 refine aBj (selM H [1,0,2,3,4,5,6,7,8] 9 E) fun a w G H=>?_
 replace H:MemL _ (pt d0 [.int .i64 k5] 3::.obj c2.d dfO::pt d6 (RRecord.enc (mRc d5 d8 d9 d7)) 36::pt c9 [.int .i64 0] 34::pt c8 [.int .i64 0] 3::pt c7 (RState.enc zSt) 54::pt c6 [.int .i64 x1] 3::pt c5 (RRecord.enc (mRc x0 s1 s3 s7)) 36::Lr):=H
 refine bK (aB ?_)
 refine aG ?_
 refine aD ?_
 refine aA G (cB z54 qU54 pl54 G (parts:=[]) E E cN) E E E fun a G=>?_
 refine bD E E (aX (vs:=_) qS54 (H.obj (i:=5) E) G E E E E (RState.len _) (RState.one _) (by first | (rw [RState.len,RState.len]; decide) | (rw [RState.len]; decide)) (bE ((RState.len _).trans (RState.len _).symm)) fun w c39=>?_)
 have H:=H.chg c39 (i:=5) rfl
 refine bD E E (bI qS3 (H.obj (i:=4) E) G E E E E Nat.zero_lt_one E fun w c40=>?_)
 have H:=H.chg c40 (i:=4) rfl
 refine bD E E (bI qS34 (H.obj (i:=3) E) G E E E E Nat.zero_lt_one E fun w c41=>?_)
 have H:=H.chg c41 (i:=3) rfl
 replace H:MemL _ (pt d0 [.int .i64 k5] 3::.obj c2.d dfO::pt d6 (RRecord.enc (mRc d5 d8 d9 d7)) 36::pt c9 [.int .i64 1] 34::pt c8 [.int .i64 0] 3::pt c7 (RState.enc zSt) 54::pt c6 [.int .i64 x1] 3::pt c5 (RRecord.enc (mRc x0 s1 s3 s7)) 36::Lr):=H
 refine aJ (aB ?_)
 refine c_ret ?_
 have H:=H.rowNil (X:=UInt8) 0 5
 obtain ⟨t8,H⟩:=voidM H
 have c65:Each (LIn (X:=UInt8) t8.holds') ([]:List SV) ([]:List (List UInt8)):=Each.nil
 have H:=H.rowNil (X:=SV) 0 23
 have H:=H.rowNil (X:=Int) 0 3
 have I:=oI I
 subst I
 refine aB5 G ?_
 refine sI H (i:=5) E fun w H=>?_
 refine tW (aFc (rs:=[.cell 4 54,.cell 5 3,.cell 6 34]) qR51 (bZ G E qA54 qS54 (RState.len _) (H.cells (i:=9) E (aY (RState.len _))) (iK G E qA3 (H.cell (i:=8) E E) (iK G E qA34 (H.cell (i:=7) E E) cI))) E ?_)
 exact ⟨SV.nil,SV.nil,[],t8,SV.nil,E,c65,selM H [3,1,2,0] 12 E⟩
set_option maxHeartbeats 4000000 in
theorem sA {x0:QMark} {s1:SV} {s3:SV} {s5:SV} {hs6:List RPiece} {s9:SV} {out:QMark} {w0:World} {Bf:World → Prop} {Lr:List Res} (I:Sh.tH x0 = some out) (H:MemL w0 (Lr)) (S:∀ w,MemL w Lr → Bf w) (f2:LIn Bf s1 x0.regs) (f4:LIn Bf s3 x0.slots) (f7:LIn Bf s5 hs6) (q8:Each (QPieceIn Bf) hs6 x0.pieces) (f10:LIn Bf s9 x0.sent):Calls Tryz.prog 131 #[.agg (RMark.enc (mMk x0 s1 s3 s5 s9)).toArray] w0 (Ret fun v w'=>∃ (l9:SV) (m0:SV) (m1:SV) (j4:List RPiece) (l8:Res) (m2:SV),v = .agg (RMark.enc (mMk out l9 m0 m1 m2)).toArray ∧ Each (QPieceIn l8.holds') j4 out.pieces ∧ MemL w' (rowL 0 l9 128 out.regs::rowL 0 m0 151 out.slots::rowL 0 m1 156 j4::l8::rowL 0 m2 3 out.sent::Lr)):=by
 unfold Sh.tH at I
 refine aR (vs:=[.agg (RMark.enc (mMk x0 s1 s3 s5 s9)).toArray]) Tryz.func131 E Tryz.ntmps131 E fun a G=>?_
 refine aG ?_
 refine aD ?_
 refine aN G E E E (dA G E E E fun c0 w n7 j1=>?_)
 have H:=H.plus j1
 intro a G
 refine aN G E E E (bN z60 (zs:=RMark.zero.enc) E E fun c1 w n8 j2=>?_)
 have H:=H.plus j2
 replace H:MemL _ (pt c1 (RMark.enc zMk) 60::pt c0 (RMark.enc (mMk x0 s1 s3 s5 s9)) 60::Lr):=H
 intro a G
 refine aJ (aB ?_)
 refine aG ?_
 refine aD ?_
 refine aA G (aC (off':=3) qU60 E in56 E G E E E) E E E fun a G=>?_
 refine aA G (aI qA56 G E E (H.cell (i:=1) E (RMark.g_regs _))) E E E fun a G=>?_
 obtain ⟨c7,n0,I⟩:=bind_some I
 refine aN G E E E (aO (xs:=[.tmp 6]) Tryz.call195 G E E (hH n0 H (Bf:=Bf) (fun w H=>S _ (dropM H 2)) f2) fun v w hR=>?_)
 obtain ⟨c2,rfl,H⟩:=hR
 replace H:MemL _ (rowL 0 c2 128 c7::pt c1 (RMark.enc zMk) 60::pt c0 (RMark.enc (mMk x0 s1 s3 s5 s9)) 60::Lr):=H
 intro a G
 refine aA G (aC (off':=3) qU60 E in56 E G E E E) E E E fun a G=>?_
 refine bD E E (bI qS56 (H.obj (i:=2) E) G E E E E (by rw [RMark.len]; decide) (RMark.s_regs _ _) fun w m6=>?_)
 have H:=H.chg m6 (i:=2) rfl
 replace H:MemL _ (rowL 0 c2 128 c7::pt c1 (RMark.enc zMk) 60::pt c0 (RMark.enc (mMk x0 c2 s3 s5 s9)) 60::Lr):=H
 refine aJ (aB ?_)
 refine aG ?_
 refine aD ?_
 refine aA G (aC (off':=4) qU60 E in57 E G E E E) E E E fun a G=>?_
 refine aA G (aI qA57 G E E (H.cell (i:=2) E (RMark.g_slots _))) E E E fun a G=>?_
 obtain ⟨d1,n1,I⟩:=bind_some I
 refine aN G E E E (aO (xs:=[.tmp 10]) Tryz.call196 G E E (gZ n1 H (Bf:=Bf) (fun w H=>S _ (dropM H 3)) f4) fun v w hR=>?_)
 obtain ⟨c3,rfl,H⟩:=hR
 replace H:MemL _ (rowL 0 c3 151 d1::rowL 0 c2 128 c7::pt c1 (RMark.enc zMk) 60::pt c0 (RMark.enc (mMk x0 c2 s3 s5 s9)) 60::Lr):=H
 intro a G
 refine aA G (aC (off':=4) qU60 E in57 E G E E E) E E E fun a G=>?_
 refine bD E E (bI qS57 (H.obj (i:=3) E) G E E E E (by rw [RMark.len]; decide) (RMark.s_slots _ _) fun w m7=>?_)
 have H:=H.chg m7 (i:=3) rfl
 replace H:MemL _ (rowL 0 c3 151 d1::rowL 0 c2 128 c7::pt c1 (RMark.enc zMk) 60::pt c0 (RMark.enc (mMk x0 c2 c3 s5 s9)) 60::Lr):=H
 refine aJ (aB ?_)
 refine aG ?_
 refine aD ?_
 refine aA G (aC (off':=6) qU60 E in52 E G E E E) E E E fun a G=>?_
 refine aA G (aI qA52 G E E (H.cell (i:=3) E (RMark.g_sent _))) E E E fun a G=>?_
 obtain ⟨d3,n2,I⟩:=bind_some I
 refine aN G E E E (aO (xs:=[.tmp 14]) Tryz.call134 G E E (fA n2 H (Bf:=Bf) (fun w H=>S _ (dropM H 4)) f10) fun v w hR=>?_)
 obtain ⟨c4,rfl,H⟩:=hR
 replace H:MemL _ (rowL 0 c4 3 d3::rowL 0 c3 151 d1::rowL 0 c2 128 c7::pt c1 (RMark.enc zMk) 60::pt c0 (RMark.enc (mMk x0 c2 c3 s5 s9)) 60::Lr):=H
 intro a G
 refine aA G (aC (off':=6) qU60 E in52 E G E E E) E E E fun a G=>?_
 refine bD E E (bI qS52 (H.obj (i:=4) E) G E E E E (by rw [RMark.len]; decide) (RMark.s_sent _ _) fun w m8=>?_)
 have H:=H.chg m8 (i:=4) rfl
 replace H:MemL _ (rowL 0 c4 3 d3::rowL 0 c3 151 d1::rowL 0 c2 128 c7::pt c1 (RMark.enc zMk) 60::pt c0 (RMark.enc (mMk x0 c2 c3 s5 c4)) 60::Lr):=H
 refine aJ (aB ?_)
 refine aG ?_
 refine aD ?_
 refine aA G (aC (off':=5) qU60 E in58 E G E E E) E E E fun a G=>?_
 refine aA G (aI qA58 G E E (H.cell (i:=4) E (RMark.g_pieces _))) E E E fun a G=>?_
 obtain ⟨i2,n3,I⟩:=bind_some I
 refine aN G E E E (aO (xs:=[.tmp 18]) Tryz.call197 G E E (gN n3 H (Bf:=Bf) (fun w H=>S _ (dropM H 5)) f7 q8) fun v w hR=>?_)
 obtain ⟨c5,g9,rfl,p0,H⟩:=hR
 replace H:MemL _ (rowL 0 c5 156 g9::rowL 0 c4 3 d3::rowL 0 c3 151 d1::rowL 0 c2 128 c7::pt c1 (RMark.enc zMk) 60::pt c0 (RMark.enc (mMk x0 c2 c3 s5 c4)) 60::Lr):=H
 intro a G
 refine aA G (aC (off':=5) qU60 E in58 E G E E E) E E E fun a G=>?_
 refine bD E E (bI qS58 (H.obj (i:=5) E) G E E E E (by rw [RMark.len]; decide) (RMark.s_pieces _ _) fun w m9=>?_)
 have H:=H.chg m9 (i:=5) rfl
 replace H:MemL _ (rowL 0 c5 156 g9::rowL 0 c4 3 d3::rowL 0 c3 151 d1::rowL 0 c2 128 c7::pt c1 (RMark.enc zMk) 60::pt c0 (RMark.enc (mMk x0 c2 c3 c5 c4)) 60::Lr):=H
 refine aJ (aB ?_)
 refine aG ?_
 obtain ⟨i6,H⟩:=voidM H
 have j5:=MixQ.of (R:=i6.holds') p0
 replace H:MemL _ (i6::rowL 0 c5 156 g9::rowL 0 c4 3 d3::rowL 0 c3 151 d1::rowL 0 c2 128 c7::pt c1 (RMark.enc zMk) 60::pt c0 (RMark.enc (mMk x0 c2 c3 c5 c4)) 60::Lr):=H
 refine aV G H I (fun F x a w=>match x with | i5=>∃ (g1:List RPiece) (g7:Res),MixQ Bf g7.holds' i5 false g1 i2 ∧ Fr 47 [(1,.pointer (some ⟨c0,0,none⟩)),(2,.pointer (some ⟨c1,0,none⟩))] a ∧ MemL w (rowL 0 c5 156 g1::g7::pt c1 (RMark.enc zMk) 60::pt c0 (RMark.enc (mMk x0 c2 c3 c5 c4)) 60::rowL 0 c4 3 d3::rowL 0 c3 151 d1::rowL 0 c2 128 c7::Lr)) (fun t2 I t1 G H=>?_) ?_
 ·refine aG ?_
  refine aD ?_
  refine aA G (aC (off':=5) qU60 E in58 E G E E E) E E E fun a G=>?_
  refine aA G (aI qA58 G E E (H.cell (i:=6) E (RMark.g_pieces _))) E E E fun a G=>?_
  refine aA G (cQ (H.rowS (X:=RPiece) (i:=1) E) j5.len qU58 G E E) E E E fun a G=>?_
  refine aA G (aF G E E) E E E fun a G=>?_
  refine aJ (aB ?_)
  refine aU ?_
  refine bU G H I (fun F x a w=>match x with | (g6,d2)=>∃ (c6:List RPiece) (d6:Res),MixQ Bf d6.holds' g6 false c6 i2 ∧ Fr 47 [(24,.int .i64 d2),(1,.pointer (some ⟨c0,0,none⟩)),(2,.pointer (some ⟨c1,0,none⟩)),(22,(c5).v),(23,.int .i64 (i2.length:Int))] a ∧ MemL w (rowL 0 c5 156 c6::d6::pt c1 (RMark.enc zMk) 60::pt c0 (RMark.enc (mMk x0 c2 c3 c5 c4)) 60::rowL 0 c4 3 d3::rowL 0 c3 151 d1::rowL 0 c2 128 c7::Lr)) (fun G H=>⟨g9,i6,j5,G.to ⟨E,E,E,E,E,trivial⟩,selM H [1,0,5,6,2,3,4] 7 E⟩) ?_
  rintro ⟨g6,d2⟩ a w t3 I m5 ⟨c6,d6,g3,G,H⟩
  replace I:Sh.mF i2 g6 d2 = _:=I
  unfold Sh.mF at I
  refine aG ?_
  refine aD ?_
  refine aA G (cK G E E E) E E E fun a G=>?_
  refine aJ (aB ?_)
  refine aG ?_
  refine aT G (c:=.tmp 25) E (fun i1=>?_) (fun i1=>?_)
  ·have I:=Fx.cT i1 I
   refine aW (aB ?_)
   refine aG ?_
   refine aU ?_
   refine aG ?_
   refine aD ?_
   refine aA G (aF G E E) E E E fun a G=>?_
   obtain ⟨c8,j0,I⟩:=bind_some I
   have p1:=aM j0
   obtain ⟨j7,p7,j8,j9⟩:=MixQ.getr g3 j0
   obtain ⟨k5,I⟩:=cH I
   obtain ⟨d7,d8,rfl,m3,m4⟩:=(j9 (of_decide_eq_true k5) rfl)
   refine aA G (aS (sz:=4) (H.rowS (X:=RPiece) (i:=0) E) qU58 in156 E G E E E j7) E E E fun a G=>?_
   refine aA G (aQ qA156 qS156 G E E (RPiece.len _) (((H.rowS (X:=RPiece) (i:=0) E).elemS j8))) E E E fun a G=>?_
   refine aN G E E E (bN z156 (zs:=RPiece.zero.enc) E E fun d0 w n9 j3=>?_)
   have H:=H.plus j3
   replace H:MemL _ (pt d0 (RPiece.enc (RPiece.mk 0 0 SV.nil SV.nil)) 156::rowL 0 c5 156 c6::d6::pt c1 (RMark.enc zMk) 60::pt c0 (RMark.enc (mMk x0 c2 c3 c5 c4)) 60::rowL 0 c4 3 d3::rowL 0 c3 151 d1::rowL 0 c2 128 c7::Lr):=H
   intro a G
   refine aA G (aH G E E) E E E fun a G=>?_
   refine bD E E (aX (vs:=_) qS156 (H.obj (i:=0) E) G E E E E (RPiece.len _) (RPiece.one _) (by first | (rw [RPiece.len,RPiece.len]; decide) | (rw [RPiece.len]; decide)) (bE ((RPiece.len _).trans (RPiece.len _).symm)) fun w k1=>?_)
   have H:=H.chg k1 (i:=0) rfl
   replace H:MemL _ (pt d0 (RPiece.enc (mPc c8 d7 d8)) 156::rowL 0 c5 156 c6::d6::pt c1 (RMark.enc zMk) 60::pt c0 (RMark.enc (mMk x0 c2 c3 c5 c4)) 60::rowL 0 c4 3 d3::rowL 0 c3 151 d1::rowL 0 c2 128 c7::Lr):=H
   refine aJ (aB ?_)
   have i9:=H.rowS (X:=RPiece) (i:=1) rfl
   refine bM mixed (by kernel_rfl) H [0,3,4,5,6,7] 8 E fun K=>?_
   refine aK G K 0 E (by kernel_rfl) E E E (fun w H=>(aC (off':=5) qU60 E in58 E G E E E)) fun a G=>?_
   refine aK G K 1 E (by kernel_rfl) E E E (fun w H=>(aI qA58 G E E (H.cell (i:=2) E (RMark.g_pieces _)))) fun a G=>?_
   refine aK G K 2 E (by kernel_rfl) E E E (fun w H=>(aF G E E)) fun a G=>?_
   refine aK G K 3 E (by kernel_rfl) E E E (fun w H=>(aC (off':=5) qU60 E in58 E G E E E)) fun a G=>?_
   refine aK G K 4 E (by kernel_rfl) E E E (fun w H=>(aI qA58 G E E (H.cell (i:=2) E (RMark.g_pieces _)))) fun a G=>?_
   refine aK G K 5 E (by kernel_rfl) E E E (fun w H=>(aF G E E)) fun a G=>?_
   refine aK G K 6 E (by kernel_rfl) E E E (fun w H=>(aC (off':=2) qU156 E in23 E G E E E)) fun a G=>?_
   refine aK G K 7 E (by kernel_rfl) E E E (fun w H=>(aI qA23 G E E (H.cell (i:=0) E (RPiece.g_old _)))) fun a G=>?_
   refine aK G K 9 E (by kernel_rfl) E E E (fun w H=>(aC (off':=3) qU156 E in23 E G E E E)) fun a G=>?_
   refine aK G K 10 E (by kernel_rfl) E E E (fun w H=>(aI qA23 G E E (H.cell (i:=0) E (RPiece.g_new _)))) fun a G=>?_
   refine bF K 8 (by kernel_rfl) E E ?_
   refine bY G 8 E E E E E fun w hMs H=>?_
   obtain ⟨i8,l6,I⟩:=bind_some I
   refine (aO (xs:=[.tmp 36]) Tryz.call73 G E E (eH l6 H (Bf:=Bf) (fun w H=>S _ (dropM H 8)) m3) fun v w hR=>?_)
   obtain ⟨d4,rfl,H⟩:=hR
   replace H:MemL _ (rowL 0 d4 5 i8::pt d0 (RPiece.enc (mPc c8 d7 d8)) 156::rowL 0 c5 156 c6::d6::pt c1 (RMark.enc zMk) 60::pt c0 (RMark.enc (mMk x0 c2 c3 c5 c4)) 60::rowL 0 c4 3 d3::rowL 0 c3 151 d1::rowL 0 c2 128 c7::Lr):=H
   have hMs:=selM H [1,4,5,6,7,8] 9 rfl
   refine ⟨_,_,hMs,H,.inl fun _ h=>h,fun a G=>?_⟩
   refine bF K 11 (by kernel_rfl) E E ?_
   refine bY G 11 E E E E E fun w hMs H=>?_
   obtain ⟨g8,l7,I⟩:=bind_some I
   refine (aO (xs:=[.tmp 39]) Tryz.call73 G E E (eH l7 H (Bf:=Bf) (fun w H=>S _ (dropM H 9)) m4) fun v w hR=>?_)
   obtain ⟨d5,rfl,H⟩:=hR
   replace H:MemL _ (rowL 0 d5 5 g8::rowL 0 d4 5 i8::pt d0 (RPiece.enc (mPc c8 d7 d8)) 156::rowL 0 c5 156 c6::d6::pt c1 (RMark.enc zMk) 60::pt c0 (RMark.enc (mMk x0 c2 c3 c5 c4)) 60::rowL 0 c4 3 d3::rowL 0 c3 151 d1::rowL 0 c2 128 c7::Lr):=H
   have hMs:=selM H [0,2,5,6,7,8,9] 10 rfl
   refine ⟨_,_,hMs,H,.inl fun _ h=>dropM h 1,fun a G=>?_⟩
   obtain ⟨c9,g4,I⟩:=bind_some I
   have p2:=aM g4
   obtain ⟨p4,p8,i3,k0⟩:=MixQ.getr g3 g4
   obtain ⟨k6,I⟩:=cH I
   obtain ⟨d9,g0,rfl,p9,t0⟩:=(k0 (of_decide_eq_true k6) rfl)
   refine aK G K 12 E (by kernel_rfl) E E E (fun w H=>(aS (sz:=4) i9 qU58 in156 E G E E E (MixQ.getr g3 g4).1)) fun a G=>?_
   refine aK G K 13 E (by kernel_rfl) E E E (fun w H=>(aC (fo:=2) qU156 E in23 E G E E E)) fun a G=>?_
   refine bF K 14 (by kernel_rfl) E E ?_
   refine cV 14 E E E E fun w hMs H=>?_
   obtain ⟨k7,I⟩:=cH I
   obtain ⟨k8,I⟩:=cH I
   refine (eN (X:=RPiece) (d:=2) (q:={ (mPc c9 d9 g0) with old:=d4 }) qS23 (H.own (X:=RPiece) (i:=3) E) i3 G E E (Nat.add_assoc _ _ _) E E (by decide) (RPiece.s_old _ _) fun w k2=>?_)
   have H:=H.chg k2 (i:=3) rfl
   replace H:MemL _ (rowL 0 d5 5 g8::rowL 0 d4 5 i8::pt d0 (RPiece.enc (mPc c8 d7 d8)) 156::rowL 0 c5 156 (c6.set (d2:Int).toNat { (mPc c9 d9 g0) with old:=d4 })::d6::pt c1 (RMark.enc zMk) 60::pt c0 (RMark.enc (mMk x0 c2 c3 c5 c4)) 60::rowL 0 c4 3 d3::rowL 0 c3 151 d1::rowL 0 c2 128 c7::Lr):=H
   rw [of_decide_eq_true k8] at H
   replace H:MemL _ (rowL 0 d5 5 g8::rowL 0 d4 5 c9.old::pt d0 (RPiece.enc (mPc c8 d7 d8)) 156::rowL 0 c5 156 (c6.set (d2:Int).toNat { (mPc c9 d9 g0) with old:=d4 })::d6::pt c1 (RMark.enc zMk) 60::pt c0 (RMark.enc (mMk x0 c2 c3 c5 c4)) 60::rowL 0 c4 3 d3::rowL 0 c3 151 d1::rowL 0 c2 128 c7::Lr):=H
   obtain ⟨i0,l2,l3,H⟩:=joinM (selM H [4,1,0,2,3,5,6,7,8,9] 10 rfl)
   have j6:=MixQ.old (R':=i0.holds') (s:=d4) g3 g4 i3 (of_decide_eq_true k7) l2 (fun w h=>dL (X:=UInt8) (e:=5) (l3 w h))
   replace H:MemL _ (i0::rowL 0 d5 5 g8::pt d0 (RPiece.enc (mPc c8 d7 d8)) 156::rowL 0 c5 156 (c6.set (d2:Int).toNat { (mPc c9 d9 g0) with old:=d4 })::pt c1 (RMark.enc zMk) 60::pt c0 (RMark.enc (mMk x0 c2 c3 c5 c4)) 60::rowL 0 c4 3 d3::rowL 0 c3 151 d1::rowL 0 c2 128 c7::Lr):=H
   have hMs:=selM H [1,2,4,5,6,7,8] 9 rfl
   refine ⟨_,_,hMs,H,.inl fun _ h=>h,?_⟩
   obtain ⟨n6,g5,I⟩:=bind_some I
   have p3:=aM g5
   obtain ⟨p5,g2,i4,p6⟩:=MixQ.getr j6 g5
   refine aK G K 15 E (by kernel_rfl) E E E (fun w H=>(aS (sz:=4) i9 qU58 in156 E G E E E (MixQ.getr g3 g5).1)) fun a G=>?_
   refine aK G K 16 E (by kernel_rfl) E E E (fun w H=>(aC (fo:=3) qU156 E in23 E G E E E)) fun a G=>?_
   refine bF K 17 (by kernel_rfl) E E ?_
   refine cV 17 E E E E fun w hMs H=>?_
   obtain ⟨k9,I⟩:=cH I
   obtain ⟨l0,I⟩:=cH I
   refine (eN (X:=RPiece) (d:=3) (q:={ g2 with new:=d5 }) qS23 (H.own (X:=RPiece) (i:=3) E) i4 G E E (Nat.add_assoc _ _ _) E E (by decide) (RPiece.s_new _ _) fun w k3=>?_)
   have H:=H.chg k3 (i:=3) rfl
   replace H:MemL _ (i0::rowL 0 d5 5 g8::pt d0 (RPiece.enc (mPc c8 d7 d8)) 156::rowL 0 c5 156 ((c6.set (d2:Int).toNat { (mPc c9 d9 g0) with old:=d4 }).set (d2:Int).toNat { g2 with new:=d5 })::pt c1 (RMark.enc zMk) 60::pt c0 (RMark.enc (mMk x0 c2 c3 c5 c4)) 60::rowL 0 c4 3 d3::rowL 0 c3 151 d1::rowL 0 c2 128 c7::Lr):=H
   rw [of_decide_eq_true l0] at H
   replace H:MemL _ (i0::rowL 0 d5 5 n6.new::pt d0 (RPiece.enc (mPc c8 d7 d8)) 156::rowL 0 c5 156 ((c6.set (d2:Int).toNat { (mPc c9 d9 g0) with old:=d4 }).set (d2:Int).toNat { g2 with new:=d5 })::pt c1 (RMark.enc zMk) 60::pt c0 (RMark.enc (mMk x0 c2 c3 c5 c4)) 60::rowL 0 c4 3 d3::rowL 0 c3 151 d1::rowL 0 c2 128 c7::Lr):=H
   obtain ⟨i7,l4,l5,H⟩:=joinM (selM H [0,1,2,3,4,5,6,7,8] 9 rfl)
   have n5:=MixQ.new (R':=i7.holds') (s:=d5) j6 g5 i4 (of_decide_eq_true k9) l4 (fun w h=>dL (X:=UInt8) (e:=5) (l5 w h))
   replace H:MemL _ (i7::pt d0 (RPiece.enc (mPc c8 d7 d8)) 156::rowL 0 c5 156 ((c6.set (d2:Int).toNat { (mPc c9 d9 g0) with old:=d4 }).set (d2:Int).toNat { g2 with new:=d5 })::pt c1 (RMark.enc zMk) 60::pt c0 (RMark.enc (mMk x0 c2 c3 c5 c4)) 60::rowL 0 c4 3 d3::rowL 0 c3 151 d1::rowL 0 c2 128 c7::Lr):=H
   have hMs:=selM H [1,3,4,5,6,7] 8 rfl
   refine ⟨_,_,hMs,H,.inr (by kernel_rfl),?_⟩
   refine bV K (by kernel_rfl) fun w H=>?_
   refine bK (aB ?_)
   refine aD ?_
   refine aA G (bW G E E E) E E E fun a G=>?_
   refine aA G (aF G E E) E E E fun a G=>?_
   refine aJ (aB ?_)
   have I:=oI I
   subst I
   exact ⟨((g6 + 1),(IntKind.i64.wrap (d2 + 1))),E,((c6.set (d2:Int).toNat { (mPc c9 d9 g0) with old:=d4 }).set (d2:Int).toNat { g2 with new:=d5 }),i7,n5,G.to ⟨E,E,E,E,E,trivial⟩,selM H [2,0,3,4,5,6,7] 8 E⟩
  have I:=Fx.cF i1 I
  refine bX (bC (bC (cO ?_)))
  refine aB ?_
  have I:=oI I
  subst I
  have I:=m5 _ rfl
  subst I
  exact ⟨g6,E,c6,d6,g3,G.to ⟨E,E,trivial⟩,H⟩
 rintro i5 a w I ⟨g1,g7,n4,G,H⟩
 replace I:Sh.sB x0 c7 d1 d3 i2 i5 = _:=I
 unfold Sh.sB at I
 refine aB ?_
 refine aG ?_
 refine aD ?_
 refine aA G (aQ qA60 qS60 G E E (RMark.len _) (H.cells (i:=3) E (aY (RMark.len _)))) E E E fun a G=>?_
 refine bD E E (aX (vs:=_) qS60 (H.obj (i:=2) E) G E E E E (RMark.len _) (RMark.one _) (by first | (rw [RMark.len,RMark.len]; decide) | (rw [RMark.len]; decide)) (bE ((RMark.len _).trans (RMark.len _).symm)) fun w k4=>?_)
 have H:=H.chg k4 (i:=2) rfl
 replace H:MemL _ (rowL 0 c5 156 g1::g7::pt c1 (RMark.enc (mMk x0 c2 c3 c5 c4)) 60::pt c0 (RMark.enc (mMk x0 c2 c3 c5 c4)) 60::rowL 0 c4 3 d3::rowL 0 c3 151 d1::rowL 0 c2 128 c7::Lr):=H
 refine aJ (aB ?_)
 refine c_ret ?_
 obtain ⟨l1,I⟩:=cH I
 have I:=oI I
 subst I
 refine dJ (rs:=[.cell 2 60]) Tryz.results131 G (bZ G E qA60 qS60 (RMark.len _) (H.cells (i:=2) E (aY (RMark.len _))) cI) E ?_
 exact ⟨c2,c3,c5,g1,g7,c4,E,(MixQ.done n4 (of_decide_eq_true l1)),selM H [6,5,0,1,4] 7 E⟩
set_option maxHeartbeats 4000000 in
theorem rY {x0:QRecord} {x1:Int} {s1:SV} {s3:SV} {hs4:List SV} {s7:SV} {hs8:List RMark} {out:(QRecord × Int)} {w0:World} {Bf:World → Prop} {Lr:List Res} (I:Sh.qH x0 x1 = some out) (H:MemL w0 (Lr)) (S:∀ w,MemL w Lr → Bf w) (f2:LIn Bf s1 x0.in_.ctx) (f5:LIn Bf s3 hs4) (q6:Each (LIn (X:=UInt8) Bf) hs4 x0.in_.tables) (f9:LIn Bf s7 hs8) (q10:Each (QMarkIn Bf) hs8 x0.marks):Calls Tryz.prog 55 #[.agg (RRecord.enc (mRc x0 s1 s3 s7)).toArray,.int .i64 x1] w0 (Ret fun v w'=>∃ (l2:SV) (l3:SV) (k1:List SV) (k7:Res) (l4:SV) (k2:List RMark) (k8:Res),v = .tuple #[.agg (RRecord.enc (mRc out.1 l2 l3 l4)).toArray,.int .i64 out.2] ∧ Each (LIn (X:=UInt8) k7.holds') k1 out.1.in_.tables ∧ Each (QMarkIn k8.holds') k2 out.1.marks ∧ MemL w' (rowL 0 l2 5 out.1.in_.ctx::rowL 0 l3 23 k1::k7::rowL 0 l4 60 k2::k8::Lr)):=by
 unfold Sh.qH at I
 refine aR (vs:=[.agg (RRecord.enc (mRc x0 s1 s3 s7)).toArray,.int .i64 x1]) Tryz.func55 E Tryz.ntmps55 E fun a G=>?_
 refine aG ?_
 refine aD ?_
 refine aN G E E E (dA G E E E fun d6 w u6 l8=>?_)
 have H:=H.plus l8
 intro a G
 refine aN G E E E (bN z36 (zs:=RRecord.zero.enc) E E fun c2 w u7 l9=>?_)
 have H:=H.plus l9
 replace H:MemL _ (pt c2 (RRecord.enc (zRc)) 36::pt d6 (RRecord.enc (mRc x0 s1 s3 s7)) 36::Lr):=H
 intro a G
 refine aA G (aH G E E) E E E fun a G=>?_
 refine aJ (aB ?_)
 refine aG ?_
 refine aG ?_
 refine aD ?_
 refine aA G (aF G E E) E E E fun a G=>?_
 refine aA G (aC (off':=2) qU36 E in33 E G E E E) E E E fun a G=>?_
 refine aA G (aI qA33 G E E (H.cell (i:=1) E (RRecord.g_marks _))) E E E fun a G=>?_
 refine aA G (cQ (f9 _ (S _ (dropM H 2))) q10.len qU33 G E E) E E E fun a G=>?_
 obtain ⟨z5,p3,I⟩:=bind_some I
 refine aN G E E E (aO (xs:=[.tmp 10,.const (.int .i64 (0)),.tmp 13]) qC124 G E E (dI p3 H ) fun v w hR=>?_)
 obtain ⟨rfl,H⟩:=hR
 replace H:MemL _ (pt c2 (RRecord.enc (zRc)) 36::pt d6 (RRecord.enc (mRc x0 s1 s3 s7)) 36::Lr):=H
 intro a G
 refine aA G (dF G E E) E E E fun a G=>?_
 refine aJ (aB ?_)
 refine aT G (c:=.tmp 15) E (fun j5=>?_) (fun j5=>?_)
 ·have I:=Fx.cT j5 I
  refine aG ?_
  refine aD ?_
  refine aA G (cB z36 qU36 pl36 G (parts:=[]) E E cN) E E E fun a G=>?_
  refine bD E E (aX (vs:=_) qS36 (H.obj (i:=0) E) G E E E E (RRecord.len _) (RRecord.one _) (by first | (rw [RRecord.len,RRecord.len]; decide) | (rw [RRecord.len]; decide)) (bE ((RRecord.len _).trans (RRecord.len _).symm)) fun w m7=>?_)
  have H:=H.chg m7 (i:=0) rfl
  replace H:MemL _ (pt c2 (RRecord.enc (zRc)) 36::pt d6 (RRecord.enc (mRc x0 s1 s3 s7)) 36::Lr):=H
  refine aA G (aH G E E) E E E fun a G=>?_
  refine aJ (aB ?_)
  refine c_ret ?_
  have H:=H.rowNil (X:=UInt8) 0 5
  obtain ⟨k9,H⟩:=voidM H
  have t1:Each (LIn (X:=UInt8) k9.holds') ([]:List SV) ([]:List (List UInt8)):=Each.nil
  have H:=H.rowNil (X:=SV) 0 23
  obtain ⟨l0,H⟩:=voidM H
  have t2:Each (QMarkIn l0.holds') ([]:List RMark) ([]:List QMark):=Each.nil
  have H:=H.rowNil (X:=RMark) 0 60
  have I:=oI I
  subst I
  refine dJ (rs:=[.cell 4 36,.tmp 5]) Tryz.results55 G (bZ G E qA36 qS36 (RRecord.len _) (H.cells (i:=5) E (aY (RRecord.len _))) (cL G E cI)) E ?_
  exact ⟨SV.nil,SV.nil,[],k9,SV.nil,[],l0,E,t1,t2,selM H [4,2,3,0,1] 7 E⟩
 have I:=Fx.cF j5 I
 refine aW (aB ?_)
 refine aG ?_
 refine aD ?_
 refine aA G (aC (off':=3) qU36 E in34 E G E E E) E E E fun a G=>?_
 refine aA G (aI qA34 G E E (H.cell (i:=1) E (RRecord.g_end_ _))) E E E fun a G=>?_
 refine aA G (cB z36 qU36 pl36 G (parts:=[(2,.tmp 18)]) E E (cJ E E (by rw [RRecord.len]; decide) (RRecord.s_end_ _ _) cN)) E E E fun a G=>?_
 refine aN G E E E (bN z36 (zs:=RRecord.zero.enc) E E fun c4 w u8 m0=>?_)
 have H:=H.plus m0
 replace H:MemL _ (pt c4 (RRecord.enc (zRc)) 36::pt c2 (RRecord.enc (zRc)) 36::pt d6 (RRecord.enc (mRc x0 s1 s3 s7)) 36::Lr):=H
 intro a G
 refine bD E E (aX (vs:=_) qS36 (H.obj (i:=0) E) G E E E E (RRecord.len _) (RRecord.one _) (by first | (rw [RRecord.len,RRecord.len]; decide) | (rw [RRecord.len]; decide)) (bE ((RRecord.len _).trans (RRecord.len _).symm)) fun w m8=>?_)
 have H:=H.chg m8 (i:=0) rfl
 replace H:MemL _ (pt c4 (RRecord.enc (mRc x0 SV.nil SV.nil SV.nil)) 36::pt c2 (RRecord.enc (zRc)) 36::pt d6 (RRecord.enc (mRc x0 s1 s3 s7)) 36::Lr):=H
 refine aJ (aB ?_)
 refine aG ?_
 refine aV G H I (fun F x a w=>match x with | i7=>Fr 58 [(1,.int .i64 x1),(2,.pointer (some ⟨d6,0,none⟩)),(4,.pointer (some ⟨c2,0,none⟩)),(5,.int .i64 0),(6,.pointer (some ⟨c4,0,none⟩))] a ∧ MemL w (pt c4 (RRecord.enc (RRecord.mk (RInput.mk SV.nil SV.nil) SV.nil i7)) 36::pt c2 (RRecord.enc (zRc)) 36::pt d6 (RRecord.enc (mRc x0 s1 s3 s7)) 36::Lr)) (fun z6 I z3 G H=>?_) ?_
 ·refine aG ?_
  refine aD ?_
  refine aA G (aF G E E) E E E fun a G=>?_
  refine aA G (aC (off':=2) qU36 E in33 E G E E E) E E E fun a G=>?_
  refine aA G (aI qA33 G E E (H.cell (i:=2) E (RRecord.g_marks _))) E E E fun a G=>?_
  refine aA G (cQ (f9 _ (S _ (dropM H 3))) q10.len qU33 G E E) E E E fun a G=>?_
  refine aA G (cK G E E E) E E E fun a G=>?_
  refine aJ (aB ?_)
  refine aT G (c:=.tmp 24) E (fun j6=>?_) (fun j6=>?_)
  ·have I:=Fx.cT j6 I
   refine aD ?_
   refine aA G (aC (off':=3) qU36 E in34 E G E E E) E E E fun a G=>?_
   refine bD E E (bI qS34 (H.obj (i:=0) E) G E E E E (by rw [RRecord.len]; decide) (RRecord.s_end_ _ _) fun w m9=>?_)
   have H:=H.chg m9 (i:=0) rfl
   replace H:MemL _ (pt c4 (RRecord.enc (RRecord.mk (RInput.mk SV.nil SV.nil) SV.nil 88)) 36::pt c2 (RRecord.enc (zRc)) 36::pt d6 (RRecord.enc (mRc x0 s1 s3 s7)) 36::Lr):=H
   refine aJ (aB ?_)
   have I:=oI I
   subst I
   exact ⟨88,E,G.to ⟨E,E,E,E,E,trivial⟩,H⟩
  have I:=Fx.cF j6 I
  refine aW (aB ?_)
  have I:=oI I
  subst I
  exact ⟨x0.end_,E,G.to ⟨E,E,E,E,E,trivial⟩,H⟩
 rintro i7 a w I ⟨G,H⟩
 replace I:Sh.rS x0 x1 i7 = _:=I
 unfold Sh.rS at I
 refine aB ?_
 refine aG ?_
 refine aD ?_
 refine aA G (aC (off':=0) qU36 E in30 E G E E E) E E E fun a G=>?_
 refine aA G (aC (off':=0) qU30 E in23 E G E E E) E E E fun a G=>?_
 refine aA G (aI qA23 G E E ((H.cells (i:=2) E (RRecord.c_in_ _)).get 0 (RInput.g_ctx _))) E E E fun a G=>?_
 refine aA G (aC (off':=0) qU36 E in30 E G E E E) E E E fun a G=>?_
 refine aA G (aC (off':=1) qU30 E in28 E G E E E) E E E fun a G=>?_
 refine aA G (aI qA28 G E E ((H.cells (i:=2) E (RRecord.c_in_ _)).get 1 (RInput.g_tables _))) E E E fun a G=>?_
 refine aA G (cB z54 qU54 pl54 G (parts:=[(2,.tmp 28),(3,.tmp 31)]) E E (cJ E E (by rw [RState.len]; decide) (RState.s_ctx _ _) (cJ E E (by rw [RState.len]; decide) (RState.s_tables _ _) cN))) E E E fun a G=>?_
 obtain ⟨d4,p4,I⟩:=bind_some I
 have n5:=iI p4 H (Bf:=Bf) (fun w H=>S _ (dropM H 3)) f2 f5 q6 LIn.nil
 refine aN G E E E (aO (xs:=[.tmp 32]) Tryz.call74 G E E n5 fun v w hR=>?_)
 obtain ⟨g8,g9,g6,j1,rfl,t3,H⟩:=hR
 intro a G
 refine aN G E E E (bN z54 (zs:=RState.zero.enc) E E fun j2 w u9 m1=>?_)
 have H:=H.plus m1
 replace H:MemL _ (pt j2 (RState.enc zSt) 54::rowL 0 g8 5 d4.ctx::rowL 0 g9 23 g6::(packR g6 d4.tables)::rowL 0 j1 3 d4.sent::pt c4 (RRecord.enc (RRecord.mk (RInput.mk SV.nil SV.nil) SV.nil i7)) 36::pt c2 (RRecord.enc (zRc)) 36::pt d6 (RRecord.enc (mRc x0 s1 s3 s7)) 36::Lr):=H
 intro a G
 refine bD E E (aX (vs:=_) qS54 (H.obj (i:=0) E) G E E E E (RState.len _) (RState.one _) (by first | (rw [RState.len,RState.len]; decide) | (rw [RState.len]; decide)) (bE ((RState.len _).trans (RState.len _).symm)) fun w n0=>?_)
 have H:=H.chg n0 (i:=0) rfl
 replace H:MemL _ (pt j2 (RState.enc (mSt d4 g8 g9 j1)) 54::rowL 0 g8 5 d4.ctx::rowL 0 g9 23 g6::(packR g6 d4.tables)::rowL 0 j1 3 d4.sent::pt c4 (RRecord.enc (RRecord.mk (RInput.mk SV.nil SV.nil) SV.nil i7)) 36::pt c2 (RRecord.enc (zRc)) 36::pt d6 (RRecord.enc (mRc x0 s1 s3 s7)) 36::Lr):=H
 refine aJ (aB ?_)
 refine aG ?_
 refine aD ?_
 refine aA G (aC (off':=460) qU54 E in23 E G E E E) E E E fun a G=>?_
 refine aA G (aI qA23 G E E (H.cell (i:=0) E (RState.g_ctx _))) E E E fun a G=>?_
 refine aA G (aC (off':=461) qU54 E in28 E G E E E) E E E fun a G=>?_
 refine aA G (aI qA28 G E E (H.cell (i:=0) E (RState.g_tables _))) E E E fun a G=>?_
 refine aA G (cB z30 qU30 pl30 G (parts:=[(0,.tmp 35),(1,.tmp 37)]) E E (cJ E E (by rw [RInput.len]; decide) (RInput.s_ctx _ _) (cJ E E (by rw [RInput.len]; decide) (RInput.s_tables _ _) cN))) E E E fun a G=>?_
 refine aA G (aC (off':=0) qU36 E in30 E G E E E) E E E fun a G=>?_
 refine bD E E (aX (vs:=_) qS30 (H.obj (i:=5) E) G E E E E (RInput.len _) (RInput.one _) (by rw [RInput.len,RRecord.len]; decide) (RRecord.p_in_ _ _) fun w n1=>?_)
 have H:=H.chg n1 (i:=5) rfl
 replace H:MemL _ (pt j2 (RState.enc (mSt d4 g8 g9 j1)) 54::rowL 0 g8 5 d4.ctx::rowL 0 g9 23 g6::(packR g6 d4.tables)::rowL 0 j1 3 d4.sent::pt c4 (RRecord.enc (RRecord.mk (RInput.mk g8 g9) SV.nil i7)) 36::pt c2 (RRecord.enc (zRc)) 36::pt d6 (RRecord.enc (mRc x0 s1 s3 s7)) 36::Lr):=H
 refine aJ (aB ?_)
 refine aG ?_
 refine aV G H I (fun F x a w=>match x with | d8=>∃ (i0:SV) (i1:SV) (d9:List SV) (i2:SV) (i4:List RMark) (i9:Res),Each (LIn (X:=UInt8) (packR d9 d8.in_.tables).holds') d9 d8.in_.tables ∧ Each (QMarkIn i9.holds') i4 d8.marks ∧ Fr 58 [(4,.pointer (some ⟨c2,0,none⟩)),(5,.int .i64 0),(6,.pointer (some ⟨c4,0,none⟩))] a ∧ MemL w (pt c4 (RRecord.enc (mRc d8 i0 i1 i2)) 36::rowL 0 i0 5 d8.in_.ctx::rowL 0 i1 23 d9::(packR d9 d8.in_.tables)::rowL 0 i2 60 i4::i9::pt c2 (RRecord.enc (zRc)) 36::Lr)) (fun z7 I z4 G H=>?_) ?_
 ·refine aG ?_
  refine aD ?_
  refine aA G (aC (off':=2) qU36 E in33 E G E E E) E E E fun a G=>?_
  refine aA G (aI qA33 G E E (H.cell (i:=7) E (RRecord.g_marks _))) E E E fun a G=>?_
  refine aA G (aF G E E) E E E fun a G=>?_
  obtain ⟨l5,p2,I⟩:=bind_some I
  obtain ⟨u5,i5,j3⟩:=Each.slc q10 p2
  refine aA G (eL (f9 _ (S _ (dropM H 8))) i5 qU33 in60 E G E E (.inl ⟨E,E⟩) (.inr ⟨_,_,E,E⟩)) E E E fun a G=>?_
  refine aA G (cQ ((LIn.slc f9 i5 E) _ (S _ (dropM H 8))) j3.len qU33 G E E) E E E fun a G=>?_
  refine aA G (aF G E E) E E E fun a G=>?_
  refine aJ (aB ?_)
  refine aU ?_
  obtain ⟨l1,H⟩:=voidM H
  have t6:Each (QMarkIn l1.holds') ([]:List RMark) ([]:List QMark):=Each.nil
  have H:=H.rowNil (X:=RMark) 0 60
  refine bU G H I (fun F x a w=>match x with | (c1,j4)=>∃ (c6:SV) (c7:SV) (c3:List SV) (d3:SV) (d2:List RMark) (g5:Res),Each (LIn (X:=UInt8) (packR c3 c1.in_.tables).holds') c3 c1.in_.tables ∧ Each (QMarkIn g5.holds') d2 c1.marks ∧ Fr 58 [(45,.int .i64 j4),(4,.pointer (some ⟨c2,0,none⟩)),(43,((s7.cut (0:Int).toNat (x1:Int).toNat 7)).v),(44,.int .i64 (l5.length:Int)),(5,.int .i64 0),(6,.pointer (some ⟨c4,0,none⟩))] a ∧ MemL w (pt c4 (RRecord.enc (mRc c1 c6 c7 d3)) 36::rowL 0 c6 5 c1.in_.ctx::rowL 0 c7 23 c3::(packR c3 c1.in_.tables)::rowL 0 d3 60 d2::g5::pt c2 (RRecord.enc (zRc)) 36::Lr)) (fun G H=>⟨g8,g9,g6,SV.nil,[],l1,t3,t6,G.to ⟨E,E,E,E,E,E,trivial⟩,selM H [7,3,4,5,0,1,8] 10 E⟩) ?_
  rintro ⟨c1,j4⟩ a w z8 I t0 ⟨c6,c7,c3,d3,d2,g5,k6,j9,G,H⟩
  replace I:Sh.mB l5 c1 j4 = _:=I
  unfold Sh.mB at I
  refine aG ?_
  refine aD ?_
  refine aA G (cK G E E E) E E E fun a G=>?_
  refine aJ (aB ?_)
  refine aG ?_
  refine aT G (c:=.tmp 46) E (fun j7=>?_) (fun j7=>?_)
  ·have I:=Fx.cT j7 I
   refine aW (aB ?_)
   refine aG ?_
   refine aU ?_
   refine aG ?_
   refine aD ?_
   obtain ⟨c5,k3,I⟩:=bind_some I
   have l7:=aM k3
   obtain ⟨z2,m5,m6⟩:=Each.getr j3 l7.2
   have m4:=Each.bd j3 (bH k3)
   obtain ⟨g0,g1,g2,z1,g3,rfl,p6,p7,p8,t7,p9⟩:=m6
   refine aA G (aS (sz:=7) ((LIn.slc f9 i5 E) _ (S _ (dropM H 7))) qU33 in60 E G E E E m4) E E E fun a G=>?_
   refine aA G (aQ qA60 qS60 G E E (RMark.len _) ((((LIn.slc f9 i5 E) _ (S _ (dropM H 7))).elemS m5))) E E E fun a G=>?_
   refine aN G E E E (bN z60 (zs:=RMark.zero.enc) E E fun d5 w z0 m2=>?_)
   have H:=H.plus m2
   replace H:MemL _ (pt d5 (RMark.enc zMk) 60::pt c4 (RRecord.enc (mRc c1 c6 c7 d3)) 36::rowL 0 c6 5 c1.in_.ctx::rowL 0 c7 23 c3::(packR c3 c1.in_.tables)::rowL 0 d3 60 d2::g5::pt c2 (RRecord.enc (zRc)) 36::Lr):=H
   intro a G
   refine bD E E (aX (vs:=_) qS60 (H.obj (i:=0) E) G E E E E (RMark.len _) (RMark.one _) (by first | (rw [RMark.len,RMark.len]; decide) | (rw [RMark.len]; decide)) (bE ((RMark.len _).trans (RMark.len _).symm)) fun w n2=>?_)
   have H:=H.chg n2 (i:=0) rfl
   replace H:MemL _ (pt d5 (RMark.enc (mMk c5 g0 g1 g2 g3)) 60::pt c4 (RRecord.enc (mRc c1 c6 c7 d3)) 36::rowL 0 c6 5 c1.in_.ctx::rowL 0 c7 23 c3::(packR c3 c1.in_.tables)::rowL 0 d3 60 d2::g5::pt c2 (RRecord.enc (zRc)) 36::Lr):=H
   refine aJ (aB ?_)
   refine bM mixed (by kernel_rfl) H [0,1,2,3,4,5,6,7] 8 E fun K=>?_
   refine aK G K 0 E (by kernel_rfl) E E E (fun w H=>(aC (off':=2) qU36 E in33 E G E E E)) fun a G=>?_
   refine aK G K 1 E (by kernel_rfl) E E E (fun w H=>(aI qA33 G E E (H.cell (i:=1) E (RRecord.g_marks _)))) fun a G=>?_
   refine aK G K 2 E (by kernel_rfl) E E E (fun w H=>(aQ qA60 qS60 G E E (RMark.len _) (H.cells (i:=0) E (aY (RMark.len _))))) fun a G=>?_
   refine bF K 3 (by kernel_rfl) E E ?_
   refine bY G 3 E E E E E fun w hMs H=>?_
   obtain ⟨c0,p5,I⟩:=bind_some I
   refine (aO (xs:=[.tmp 51]) Tryz.call131 G E E (sA p5 H (Bf:=Bf) (fun w H=>S _ (dropM H 8)) p6 p7 p8 t7 p9) fun v w hR=>?_)
   obtain ⟨d1,d0,c9,g7,i6,c8,rfl,t8,H⟩:=hR
   replace H:MemL _ (rowL 0 d1 128 c0.regs::rowL 0 d0 151 c0.slots::rowL 0 c9 156 g7::i6::rowL 0 c8 3 c0.sent::pt d5 (RMark.enc (mMk c5 g0 g1 g2 g3)) 60::pt c4 (RRecord.enc (mRc c1 c6 c7 d3)) 36::rowL 0 c6 5 c1.in_.ctx::rowL 0 c7 23 c3::(packR c3 c1.in_.tables)::rowL 0 d3 60 d2::g5::pt c2 (RRecord.enc (zRc)) 36::Lr):=H
   have hMs:=selM H [0,1,2,3,4,5,6,7,8,9,10,11,12] 13 rfl
   refine ⟨_,_,hMs,H,.inl fun _ h=>dropM h 5,fun a G=>?_⟩
   refine bF K 4 (by kernel_rfl) E E ?_
   refine bY G 4 E E E E E fun w hMs H=>?_
   refine (cR (X:=RMark) (y:=(mMk c0 d1 d0 c9 c8)) qU33 in60 E E E E G E E E fun d7 w u4 k5=>?_)
   have H:=H.plus k5
   replace H:MemL _ (pt d7 (encs ([(mMk c0 d1 d0 c9 c8)]:List RMark)) 60::rowL 0 d1 128 c0.regs::rowL 0 d0 151 c0.slots::rowL 0 c9 156 g7::i6::rowL 0 c8 3 c0.sent::pt d5 (RMark.enc (mMk c5 g0 g1 g2 g3)) 60::pt c4 (RRecord.enc (mRc c1 c6 c7 d3)) 36::rowL 0 c6 5 c1.in_.ctx::rowL 0 c7 23 c3::(packR c3 c1.in_.tables)::rowL 0 d3 60 d2::g5::pt c2 (RRecord.enc (zRc)) 36::Lr):=H
   have hMs:=selM H [0,1,2,3,4,5,6,7,8,9,10,11,12,13] 14 rfl
   refine ⟨_,_,hMs,H,.inl fun _ h=>dropM h 1,fun a G=>?_⟩
   refine bF K 5 (by kernel_rfl) E E ?_
   refine bY G 5 E E E E E fun w hMs H=>?_
   obtain ⟨l6,k4,I⟩:=bind_some I
   refine (fC (X:=RMark) k4 j9.len E qU33 in60 E E E E G E E E (H.own (X:=RMark) (i:=11) E) (H.ptS (X:=RMark) (i:=0) (n:=1) (c:=1) E E E (Nat.le_refl _)) fun g4 w m3=>?_)
   have H:=H.chg m3 (i:=11) rfl
   replace H:MemL _ (pt d7 (encs ([(mMk c0 d1 d0 c9 c8)]:List RMark)) 60::rowL 0 d1 128 c0.regs::rowL 0 d0 151 c0.slots::rowL 0 c9 156 g7::i6::rowL 0 c8 3 c0.sent::pt d5 (RMark.enc (mMk c5 g0 g1 g2 g3)) 60::pt c4 (RRecord.enc (mRc c1 c6 c7 d3)) 36::rowL 0 c6 5 c1.in_.ctx::rowL 0 c7 23 c3::(packR c3 c1.in_.tables)::rowL 0 g4 60 (d2 ++ [(mMk c0 d1 d0 c9 c8)])::g5::pt c2 (RRecord.enc (zRc)) 36::Lr):=H
   obtain ⟨u0,n6,n7,H⟩:=joinM (selM H [12,1,0,2,3,4,5,6,7,8,9,10,11,13] 14 rfl)
   replace H:MemL _ (u0::pt d7 (encs ([(mMk c0 d1 d0 c9 c8)]:List RMark)) 60::rowL 0 d0 151 c0.slots::rowL 0 c9 156 g7::i6::rowL 0 c8 3 c0.sent::pt d5 (RMark.enc (mMk c5 g0 g1 g2 g3)) 60::pt c4 (RRecord.enc (mRc c1 c6 c7 d3)) 36::rowL 0 c6 5 c1.in_.ctx::rowL 0 c7 23 c3::(packR c3 c1.in_.tables)::rowL 0 g4 60 (d2 ++ [(mMk c0 d1 d0 c9 c8)])::pt c2 (RRecord.enc (zRc)) 36::Lr):=H
   obtain ⟨u1,k0,n8,H⟩:=joinM (selM H [0,2,1,3,4,5,6,7,8,9,10,11,12] 13 rfl)
   replace H:MemL _ (u1::pt d7 (encs ([(mMk c0 d1 d0 c9 c8)]:List RMark)) 60::rowL 0 c9 156 g7::i6::rowL 0 c8 3 c0.sent::pt d5 (RMark.enc (mMk c5 g0 g1 g2 g3)) 60::pt c4 (RRecord.enc (mRc c1 c6 c7 d3)) 36::rowL 0 c6 5 c1.in_.ctx::rowL 0 c7 23 c3::(packR c3 c1.in_.tables)::rowL 0 g4 60 (d2 ++ [(mMk c0 d1 d0 c9 c8)])::pt c2 (RRecord.enc (zRc)) 36::Lr):=H
   obtain ⟨u2,j8,n9,H⟩:=joinM (selM H [0,2,1,3,4,5,6,7,8,9,10,11] 12 rfl)
   replace H:MemL _ (u2::pt d7 (encs ([(mMk c0 d1 d0 c9 c8)]:List RMark)) 60::i6::rowL 0 c8 3 c0.sent::pt d5 (RMark.enc (mMk c5 g0 g1 g2 g3)) 60::pt c4 (RRecord.enc (mRc c1 c6 c7 d3)) 36::rowL 0 c6 5 c1.in_.ctx::rowL 0 c7 23 c3::(packR c3 c1.in_.tables)::rowL 0 g4 60 (d2 ++ [(mMk c0 d1 d0 c9 c8)])::pt c2 (RRecord.enc (zRc)) 36::Lr):=H
   obtain ⟨u3,i8,p0,H⟩:=joinM (selM H [0,2,1,3,4,5,6,7,8,9,10] 11 rfl)
   replace H:MemL _ (u3::pt d7 (encs ([(mMk c0 d1 d0 c9 c8)]:List RMark)) 60::rowL 0 c8 3 c0.sent::pt d5 (RMark.enc (mMk c5 g0 g1 g2 g3)) 60::pt c4 (RRecord.enc (mRc c1 c6 c7 d3)) 36::rowL 0 c6 5 c1.in_.ctx::rowL 0 c7 23 c3::(packR c3 c1.in_.tables)::rowL 0 g4 60 (d2 ++ [(mMk c0 d1 d0 c9 c8)])::pt c2 (RRecord.enc (zRc)) 36::Lr):=H
   obtain ⟨j0,i3,p1,H⟩:=joinM (selM H [0,2,1,3,4,5,6,7,8,9] 10 rfl)
   replace H:MemL _ (j0::pt d7 (encs ([(mMk c0 d1 d0 c9 c8)]:List RMark)) 60::pt d5 (RMark.enc (mMk c5 g0 g1 g2 g3)) 60::pt c4 (RRecord.enc (mRc c1 c6 c7 d3)) 36::rowL 0 c6 5 c1.in_.ctx::rowL 0 c7 23 c3::(packR c3 c1.in_.tables)::rowL 0 g4 60 (d2 ++ [(mMk c0 d1 d0 c9 c8)])::pt c2 (RRecord.enc (zRc)) 36::Lr):=H
   have t9:Each (QMarkIn j0.holds') (d2 ++ [(mMk c0 d1 d0 c9 c8)]) l6:=by rw [(dM k4).2]; exact (j9.mono fun _ _ q=>q.mono (fun w h=>(fun w h=>(fun w h=>(fun w h=>n6 w (k0 w h)) w (j8 w h)) w (i8 w h)) w (i3 w h))).snoc ⟨d1,d0,c9,g7,c8,rfl,(fun w h=>dL (X:=LTurn) (e:=128) ((fun w h=>(fun w h=>(fun w h=>(fun w h=>n7 w (k0 w h)) w (j8 w h)) w (i8 w h)) w (i3 w h)) w h)),(fun w h=>dL (X:=LCell) (e:=151) ((fun w h=>(fun w h=>(fun w h=>n8 w (j8 w h)) w (i8 w h)) w (i3 w h)) w h)),(fun w h=>dL (X:=RPiece) (e:=156) ((fun w h=>(fun w h=>n9 w (i8 w h)) w (i3 w h)) w h)),(t8.mono fun _ _ q=>q.mono (fun w h=>p0 w (i3 w h))),(fun w h=>dL (X:=Int) (e:=3) (p1 w h))⟩
   replace H:MemL _ (j0::pt d7 (encs ([(mMk c0 d1 d0 c9 c8)]:List RMark)) 60::pt d5 (RMark.enc (mMk c5 g0 g1 g2 g3)) 60::pt c4 (RRecord.enc (mRc c1 c6 c7 d3)) 36::rowL 0 c6 5 c1.in_.ctx::rowL 0 c7 23 c3::(packR c3 c1.in_.tables)::rowL 0 g4 60 (d2 ++ [(mMk c0 d1 d0 c9 c8)])::pt c2 (RRecord.enc (zRc)) 36::Lr):=H
   have hMs:=H
   refine ⟨_,_,hMs,H,.inr (by kernel_rfl),fun a G=>?_⟩
   refine aK G K 6 E (by kernel_rfl) E E E (fun w H=>(aC (off':=2) qU36 E in33 E G E E E)) fun a G=>?_
   refine bF K 7 (by kernel_rfl) E E ?_
   refine cV 7 E E E E fun w hMs H=>?_
   refine (bI Tryz.sizeOf33 (H.obj (i:=3) E) G E E E E (by rw [RRecord.len]; decide) (RRecord.s_marks _ _) fun w n3=>?_)
   have H:=H.chg n3 (i:=3) rfl
   replace H:MemL _ (j0::pt d7 (encs ([(mMk c0 d1 d0 c9 c8)]:List RMark)) 60::pt d5 (RMark.enc (mMk c5 g0 g1 g2 g3)) 60::pt c4 (RRecord.enc (mRc c1 c6 c7 g4)) 36::rowL 0 c6 5 c1.in_.ctx::rowL 0 c7 23 c3::(packR c3 c1.in_.tables)::rowL 0 g4 60 (d2 ++ [(mMk c0 d1 d0 c9 c8)])::pt c2 (RRecord.enc (zRc)) 36::Lr):=H
   have hMs:=H
   refine ⟨_,_,hMs,H,.inr (by kernel_rfl),?_⟩
   refine bV K (by kernel_rfl) fun w H=>?_
   refine bK (aB ?_)
   refine aD ?_
   refine aA G (bW G E E E) E E E fun a G=>?_
   refine aA G (aF G E E) E E E fun a G=>?_
   refine aJ (aB ?_)
   have I:=oI I
   subst I
   exact ⟨((QRecord.mk c1.in_ l6 c1.end_),(IntKind.i64.wrap (j4 + 1))),E,c6,c7,c3,g4,(d2 ++ [(mMk c0 d1 d0 c9 c8)]),j0,k6,t9,G.to ⟨E,E,E,E,E,E,trivial⟩,selM H [3,4,5,6,7,0,8] 9 E⟩
  have I:=Fx.cF j7 I
  refine bX (bC (bC (cO ?_)))
  refine aB ?_
  have I:=oI I
  subst I
  have I:=t0 _ rfl
  subst I
  exact ⟨c1,E,c6,c7,c3,d3,d2,g5,k6,j9,G.to ⟨E,E,E,trivial⟩,H⟩
 rintro d8 a w I ⟨i0,i1,d9,i2,i4,i9,t4,t5,G,H⟩
 replace I:Sh.uT d8 = _:=I
 unfold Sh.uT at I
 refine aB ?_
 refine aG ?_
 refine aD ?_
 refine aA G (aQ qA36 qS36 G E E (RRecord.len _) (H.cells (i:=0) E (aY (RRecord.len _)))) E E E fun a G=>?_
 refine bD E E (aX (vs:=_) qS36 (H.obj (i:=6) E) G E E E E (RRecord.len _) (RRecord.one _) (by first | (rw [RRecord.len,RRecord.len]; decide) | (rw [RRecord.len]; decide)) (bE ((RRecord.len _).trans (RRecord.len _).symm)) fun w n4=>?_)
 have H:=H.chg n4 (i:=6) rfl
 replace H:MemL _ (pt c4 (RRecord.enc (mRc d8 i0 i1 i2)) 36::rowL 0 i0 5 d8.in_.ctx::rowL 0 i1 23 d9::(packR d9 d8.in_.tables)::rowL 0 i2 60 i4::i9::pt c2 (RRecord.enc (mRc d8 i0 i1 i2)) 36::Lr):=H
 refine aA G (aH G E E) E E E fun a G=>?_
 refine aJ (aB ?_)
 refine c_ret ?_
 have I:=oI I
 subst I
 refine dJ (rs:=[.cell 4 36,.tmp 5]) Tryz.results55 G (bZ G E qA36 qS36 (RRecord.len _) (H.cells (i:=6) E (aY (RRecord.len _))) (cL G E cI)) E ?_
 exact ⟨i0,i1,d9,(packR d9 d8.in_.tables),i2,i4,i9,E,t4,t5,selM H [1,2,3,4,5] 7 E⟩
set_option maxHeartbeats 4000000 in
theorem qQ {x0:QInput} {s1:SV} {s3:SV} {hs4:List SV} {out:QState} {w0:World} {Bf:World → Prop} {Lr:List Res} (I:Sh.rB x0 = some out) (H:MemL w0 (Lr)) (S:∀ w,MemL w Lr → Bf w) (f2:LIn Bf s1 x0.ctx) (f5:LIn Bf s3 hs4) (q6:Each (LIn (X:=UInt8) Bf) hs4 x0.tables):Calls Tryz.prog 76 #[.agg (RInput.enc (RInput.mk s1 s3)).toArray] w0 (Ret fun v w'=>∃ (s27:SV) (s29:SV) (hs30:List SV) (r32:Res) (s34:SV),v = .agg (RState.enc (mSt out s27 s29 s34)).toArray ∧ Each (LIn (X:=UInt8) r32.holds') hs30 out.tables ∧ MemL w' (rowL 0 s27 5 out.ctx::rowL 0 s29 23 hs30::r32::rowL 0 s34 3 out.sent::Lr)):=by
 unfold Sh.rB at I
 refine aR (vs:=[.agg (RInput.enc (RInput.mk s1 s3)).toArray]) Tryz.func76 E Tryz.ntmps76 E fun a G=>?_
 refine aG ?_
 refine aD ?_
 refine aN G E E E (dA G E E E fun c0 w c6 c3=>?_)
 have H:=H.plus c3
 intro a G
 refine aN G E E E (bN z54 (zs:=RState.zero.enc) E E fun c1 w c7 c4=>?_)
 have H:=H.plus c4
 intro a G
 refine aJ (aB ?_)
 refine aG ?_
 refine aD ?_
 refine aN G E E E (bN z54 (zs:=RState.zero.enc) E E fun c2 w c8 c5=>?_)
 have H:=H.plus c5
 replace H:MemL _ (pt c2 (RState.enc zSt) 54::pt c1 (RState.enc zSt) 54::pt c0 (RInput.enc (RInput.mk s1 s3)) 30::Lr):=H
 intro a G
 refine aJ (aB ?_)
 refine aG ?_
 refine aD ?_
 refine aA G (aC (off':=0) qU30 E in23 E G E E E) E E E fun a G=>?_
 refine aA G (aI qA23 G E E (H.cell (i:=2) E (RInput.g_ctx _))) E E E fun a G=>?_
 refine aA G (aC (off':=460) qU54 E in23 E G E E E) E E E fun a G=>?_
 refine bD E E (bI qS23 (H.obj (i:=0) E) G E E E E (by rw [RState.len]; decide) (RState.s_ctx _ _) fun w hU36=>?_)
 have H:=H.chg hU36 (i:=0) rfl
 replace H:MemL _ (pt c2 (RState.enc (RState.mk (⟨List.replicate 11 LVal.zero,rfl⟩ : Vec LVal 11) (⟨List.replicate 32 LSlot.zero,rfl⟩ : Vec LSlot 32) s1 SV.nil SV.nil 0 0 false)) 54::pt c1 (RState.enc zSt) 54::pt c0 (RInput.enc (RInput.mk s1 s3)) 30::Lr):=H
 refine aJ (aB ?_)
 refine aG ?_
 refine aD ?_
 refine aA G (aC (off':=1) qU30 E in28 E G E E E) E E E fun a G=>?_
 refine aA G (aI qA28 G E E (H.cell (i:=2) E (RInput.g_tables _))) E E E fun a G=>?_
 refine aA G (aC (off':=461) qU54 E in28 E G E E E) E E E fun a G=>?_
 refine bD E E (bI qS28 (H.obj (i:=0) E) G E E E E (by rw [RState.len]; decide) (RState.s_tables _ _) fun w hU37=>?_)
 have H:=H.chg hU37 (i:=0) rfl
 replace H:MemL _ (pt c2 (RState.enc (RState.mk (⟨List.replicate 11 LVal.zero,rfl⟩ : Vec LVal 11) (⟨List.replicate 32 LSlot.zero,rfl⟩ : Vec LSlot 32) s1 s3 SV.nil 0 0 false)) 54::pt c1 (RState.enc zSt) 54::pt c0 (RInput.enc (RInput.mk s1 s3)) 30::Lr):=H
 refine aJ (aB ?_)
 refine aG ?_
 refine aD ?_
 refine aA G (cB z46 qU46 pl46 G (parts:=[(0,.const (.int .i64 (3)))]) E E (cJ E E (by rw [LVal.len]; decide) (LVal.s_kind _ _) cN)) E E E fun a G=>?_
 refine aA G (aC (off':=0) qU54 E in47 E G E E E) E E E fun a G=>?_
 obtain ⟨x38,hx38,I⟩:=bind_some I
 have h0x38:=aM hx38
 refine aA G (cP (sz:=4) qU47 in46 E G E E E (cU hx38)) E E E fun a G=>?_
 refine bD E E (aX (vs:=_) qS46 (H.obj (i:=0) E) G E E E E (LVal.len _) (LVal.one _) (by have:=(cU hx38); rw [LVal.len,RState.len]; omega) (RState.pi_regs _ _ _ (by have:=(cU hx38); omega)) fun w hU39=>?_)
 have H:=H.chg hU39 (i:=0) rfl
 replace H:MemL _ (pt c2 (RState.enc (RState.mk ((⟨List.replicate 11 LVal.zero,rfl⟩ : Vec LVal 11).set (1:Int).toNat (LVal.mk 3 0 0 0)) (⟨List.replicate 32 LSlot.zero,rfl⟩ : Vec LSlot 32) s1 s3 SV.nil 0 0 false)) 54::pt c1 (RState.enc zSt) 54::pt c0 (RInput.enc (RInput.mk s1 s3)) 30::Lr):=H
 refine aJ (aB ?_)
 refine aG ?_
 refine aD ?_
 refine aA G (aC (off':=0) qU30 E in23 E G E E E) E E E fun a G=>?_
 refine aA G (aI qA23 G E E (H.cell (i:=2) E (RInput.g_ctx _))) E E E fun a G=>?_
 refine aA G (bQ (f2 _ (S _ (dropM H 3))) qU23 G E E) E E E fun a G=>?_
 refine aA G (cB z46 qU46 pl46 G (parts:=[(0,.const (.int .i64 (1))),(3,.tmp 15)]) E E (cJ E E (by rw [LVal.len]; decide) (LVal.s_kind _ _) (cJ E E (by rw [LVal.len]; decide) (LVal.s_x _ _) cN))) E E E fun a G=>?_
 refine aA G (aC (off':=0) qU54 E in47 E G E E E) E E E fun a G=>?_
 obtain ⟨x40,hx40,I⟩:=bind_some I
 have h0x40:=aM hx40
 refine aA G (cP (sz:=4) qU47 in46 E G E E E (cU hx40)) E E E fun a G=>?_
 refine bD E E (aX (vs:=_) qS46 (H.obj (i:=0) E) G E E E E (LVal.len _) (LVal.one _) (by have:=(cU hx40); rw [LVal.len,RState.len]; omega) (RState.pi_regs _ _ _ (by have:=(cU hx40); omega)) fun w hU41=>?_)
 have H:=H.chg hU41 (i:=0) rfl
 replace H:MemL _ (pt c2 (RState.enc (RState.mk (((⟨List.replicate 11 LVal.zero,rfl⟩ : Vec LVal 11).set (1:Int).toNat (LVal.mk 3 0 0 0)).set (2:Int).toNat (LVal.mk 1 0 0 (x0.ctx.length:Int))) (⟨List.replicate 32 LSlot.zero,rfl⟩ : Vec LSlot 32) s1 s3 SV.nil 0 0 false)) 54::pt c1 (RState.enc zSt) 54::pt c0 (RInput.enc (RInput.mk s1 s3)) 30::Lr):=H
 refine aJ (aB ?_)
 refine aG ?_
 refine aD ?_
 refine aA G (cB z46 qU46 pl46 G (parts:=[(0,.const (.int .i64 (2))),(3,.const (.int .i64 (256)))]) E E (cJ E E (by rw [LVal.len]; decide) (LVal.s_kind _ _) (cJ E E (by rw [LVal.len]; decide) (LVal.s_x _ _) cN))) E E E fun a G=>?_
 refine aA G (aC (off':=0) qU54 E in47 E G E E E) E E E fun a G=>?_
 obtain ⟨x42,hx42,I⟩:=bind_some I
 have h0x42:=aM hx42
 refine aA G (cP (sz:=4) qU47 in46 E G E E E (cU hx42)) E E E fun a G=>?_
 refine bD E E (aX (vs:=_) qS46 (H.obj (i:=0) E) G E E E E (LVal.len _) (LVal.one _) (by have:=(cU hx42); rw [LVal.len,RState.len]; omega) (RState.pi_regs _ _ _ (by have:=(cU hx42); omega)) fun w hU43=>?_)
 have H:=H.chg hU43 (i:=0) rfl
 replace H:MemL _ (pt c2 (RState.enc (RState.mk ((((⟨List.replicate 11 LVal.zero,rfl⟩ : Vec LVal 11).set (1:Int).toNat (LVal.mk 3 0 0 0)).set (2:Int).toNat (LVal.mk 1 0 0 (x0.ctx.length:Int))).set (10:Int).toNat (LVal.mk 2 0 0 256)) (⟨List.replicate 32 LSlot.zero,rfl⟩ : Vec LSlot 32) s1 s3 SV.nil 0 0 false)) 54::pt c1 (RState.enc zSt) 54::pt c0 (RInput.enc (RInput.mk s1 s3)) 30::Lr):=H
 refine aJ (aB ?_)
 refine aG ?_
 refine aD ?_
 refine aA G (aQ qA54 qS54 G E E (RState.len _) (H.cells (i:=0) E (aY (RState.len _)))) E E E fun a G=>?_
 obtain ⟨y45,hy45,I⟩:=bind_some I
 have hc46:=lJ hy45 H (Bf:=Bf) (fun w H=>S _ (dropM H 3)) f2 f5 q6 LIn.nil
 refine aN G E E E (aO (xs:=[.tmp 22]) Tryz.call154 G E E hc46 fun v w hR=>?_)
 obtain ⟨s47,s49,hs50,s53,rfl,q52,H⟩:=hR
 replace H:MemL _ (rowL 0 s47 5 y45.ctx::rowL 0 s49 23 hs50::(packR hs50 y45.tables)::rowL 0 s53 3 y45.sent::pt c2 (RState.enc (RState.mk ((((⟨List.replicate 11 LVal.zero,rfl⟩ : Vec LVal 11).set (1:Int).toNat (LVal.mk 3 0 0 0)).set (2:Int).toNat (LVal.mk 1 0 0 (x0.ctx.length:Int))).set (10:Int).toNat (LVal.mk 2 0 0 256)) (⟨List.replicate 32 LSlot.zero,rfl⟩ : Vec LSlot 32) s1 s3 SV.nil 0 0 false)) 54::pt c1 (RState.enc zSt) 54::pt c0 (RInput.enc (RInput.mk s1 s3)) 30::Lr):=H
 intro a G
 refine bD E E (aX (vs:=_) qS54 (H.obj (i:=5) E) G E E E E (RState.len _) (RState.one _) (by first | (rw [RState.len,RState.len]; decide) | (rw [RState.len]; decide)) (bE ((RState.len _).trans (RState.len _).symm)) fun w hU55=>?_)
 have H:=H.chg hU55 (i:=5) rfl
 replace H:MemL _ (rowL 0 s47 5 y45.ctx::rowL 0 s49 23 hs50::(packR hs50 y45.tables)::rowL 0 s53 3 y45.sent::pt c2 (RState.enc (RState.mk ((((⟨List.replicate 11 LVal.zero,rfl⟩ : Vec LVal 11).set (1:Int).toNat (LVal.mk 3 0 0 0)).set (2:Int).toNat (LVal.mk 1 0 0 (x0.ctx.length:Int))).set (10:Int).toNat (LVal.mk 2 0 0 256)) (⟨List.replicate 32 LSlot.zero,rfl⟩ : Vec LSlot 32) s1 s3 SV.nil 0 0 false)) 54::pt c1 (RState.enc (mSt y45 s47 s49 s53)) 54::pt c0 (RInput.enc (RInput.mk s1 s3)) 30::Lr):=H
 refine aJ (aB ?_)
 refine c_ret ?_
 have I:=oI I
 subst I
 refine dJ (rs:=[.cell 2 54]) Tryz.results76 G (bZ G E qA54 qS54 (RState.len _) (H.cells (i:=5) E (aY (RState.len _))) cI) E ?_
 exact ⟨s47,s49,hs50,(packR hs50 y45.tables),s53,E,q52,selM H [0,1,2,3] 7 E⟩
set_option maxHeartbeats 4000000 in
theorem rN {x0:QRecord} {x1:Int} {s1:SV} {s3:SV} {hs4:List SV} {s7:SV} {hs8:List RMark} {out:(QState × Int × Int)} {w0:World} {Bf:World → Prop} {Lr:List Res} (I:Sh.nZ x0 x1 = some out) (H:MemL w0 (Lr)) (S:∀ w,MemL w Lr → Bf w) (f2:LIn Bf s1 x0.in_.ctx) (f5:LIn Bf s3 hs4) (q6:Each (LIn (X:=UInt8) Bf) hs4 x0.in_.tables) (f9:LIn Bf s7 hs8) (q10:Each (QMarkIn Bf) hs8 x0.marks):Calls Tryz.prog 56 #[.agg (RRecord.enc (mRc x0 s1 s3 s7)).toArray,.int .i64 x1] w0 (Ret fun v w'=>∃ (l0:SV) (l1:SV) (j8:List SV) (k6:Res) (l2:SV),v = .tuple #[.agg (RState.enc (mSt out.1 l0 l1 l2)).toArray,.int .i64 out.2.1,.int .i64 out.2.2] ∧ Each (LIn (X:=UInt8) k6.holds') j8 out.1.tables ∧ MemL w' (rowL 0 l0 5 out.1.ctx::rowL 0 l1 23 j8::k6::rowL 0 l2 3 out.1.sent::Lr)):=by
 unfold Sh.nZ at I
 refine aR (vs:=[.agg (RRecord.enc (mRc x0 s1 s3 s7)).toArray,.int .i64 x1]) Tryz.func56 E Tryz.ntmps56 E fun a G=>?_
 refine aG ?_
 refine aD ?_
 refine aN G E E E (dA G E E E fun c3 w n6 l4=>?_)
 have H:=H.plus l4
 intro a G
 refine aN G E E E (bN z54 (zs:=RState.zero.enc) E E fun c1 w n7 l5=>?_)
 have H:=H.plus l5
 replace H:MemL _ (pt c1 (RState.enc zSt) 54::pt c3 (RRecord.enc (mRc x0 s1 s3 s7)) 36::Lr):=H
 intro a G
 refine aA G (aH G E E) E E E fun a G=>?_
 refine aA G (aH G E E) E E E fun a G=>?_
 refine aJ (aB ?_)
 refine aG ?_
 refine aG ?_
 refine aV G H I (fun F x a w=>match x with | j6=>Fr 51 [(19,.bool j6),(1,.int .i64 x1),(2,.pointer (some ⟨c3,0,none⟩)),(4,.pointer (some ⟨c1,0,none⟩)),(5,.int .i64 0),(6,.int .i64 0)] a ∧ MemL w (pt c1 (RState.enc zSt) 54::pt c3 (RRecord.enc (mRc x0 s1 s3 s7)) 36::Lr)) (fun p9 I p1 G H=>?_) ?_
 ·refine aD ?_
  refine aA G (aF G E E) E E E fun a G=>?_
  refine aA G (cK G E E E) E E E fun a G=>?_
  refine aA G (aF G E E) E E E fun a G=>?_
  refine bG 13 G E (fun d0=>?_) (fun d0=>?_)
  ·have I:=Fx.cT d0 I
   refine aE G E E E d0 E E fun a G=>?_
   refine aE G E E E d0 E E fun a G=>?_
   refine aE G E E E d0 E E fun a G=>?_
   refine aE G E E E d0 E E fun a G=>?_
   refine aE G E E E d0 E E fun a G=>?_
   refine aA G (aP G E E d0 E) E E E fun a G=>?_
   refine aJ (aB ?_)
   have I:=oI I
   subst I
   exact ⟨true,E,G.to ⟨E,E,E,E,E,E,trivial⟩,H⟩
  have I:=Fx.cF d0 I
  refine aL G E E E d0 (aF G E E) E E fun a G=>?_
  refine aL G E E E d0 (aC (off':=2) qU36 E in33 E G E E E) E E fun a G=>?_
  refine aL G E E E d0 (aI qA33 G E E (H.cell (i:=1) E (RRecord.g_marks _))) E E fun a G=>?_
  refine aL G E E E d0 (cQ (f9 _ (S _ (dropM H 2))) q10.len qU33 G E E) E E fun a G=>?_
  refine aL G E E E d0 (eR G E E E) E E fun a G=>?_
  refine aA G (aZ G E E d0 E) E E E fun a G=>?_
  refine aJ (aB ?_)
  have I:=oI I
  subst I
  exact ⟨(decide ((x0.marks.length:Int) < x1)),E,G.to ⟨E,E,E,E,E,E,trivial⟩,H⟩
 rintro j6 a w I ⟨G,H⟩
 replace I:Sh.oF x0 x1 j6 = _:=I
 unfold Sh.oF at I
 refine aB ?_
 refine aT G (c:=.tmp 19) E (fun i7=>?_) (fun i7=>?_)
 ·have I:=Fx.cT i7 I
  refine aG ?_
  refine aD ?_
  refine aA G (cB z54 qU54 pl54 G (parts:=[]) E E cN) E E E fun a G=>?_
  refine bD E E (aX (vs:=_) qS54 (H.obj (i:=0) E) G E E E E (RState.len _) (RState.one _) (by first | (rw [RState.len,RState.len]; decide) | (rw [RState.len]; decide)) (bE ((RState.len _).trans (RState.len _).symm)) fun w m1=>?_)
  have H:=H.chg m1 (i:=0) rfl
  replace H:MemL _ (pt c1 (RState.enc zSt) 54::pt c3 (RRecord.enc (mRc x0 s1 s3 s7)) 36::Lr):=H
  refine aA G (aH G E E) E E E fun a G=>?_
  refine aA G (aH G E E) E E E fun a G=>?_
  refine aJ (aB ?_)
  refine c_ret ?_
  have H:=H.rowNil (X:=UInt8) 0 5
  obtain ⟨k7,H⟩:=voidM H
  have n0:Each (LIn (X:=UInt8) k7.holds') ([]:List SV) ([]:List (List UInt8)):=Each.nil
  have H:=H.rowNil (X:=SV) 0 23
  have H:=H.rowNil (X:=Int) 0 3
  have I:=oI I
  subst I
  refine dJ (rs:=[.cell 4 54,.tmp 5,.tmp 6]) qR56 G (bZ G E qA54 qS54 (RState.len _) (H.cells (i:=4) E (aY (RState.len _))) (cL G E (cL G E cI))) E ?_
  exact ⟨SV.nil,SV.nil,[],k7,SV.nil,E,n0,selM H [3,1,2,0] 6 E⟩
 have I:=Fx.cF i7 I
 refine aW (aB ?_)
 refine aG ?_
 refine aG ?_
 refine aD ?_
 refine aA G (aC (off':=0) qU36 E in30 E G E E E) E E E fun a G=>?_
 refine aA G (aQ qA30 qS30 G E E (RInput.len _) (H.cells (i:=1) E (RRecord.c_in_ _))) E E E fun a G=>?_
 obtain ⟨p8,m7,I⟩:=bind_some I
 refine aN G E E E (aO (xs:=[.tmp 22]) Tryz.call105 G E E (gC m7 H (Bf:=Bf) (fun w H=>S _ (dropM H 2)) f2 f5 q6) fun v w hR=>?_)
 obtain ⟨rfl,H⟩:=hR
 replace H:MemL _ (pt c1 (RState.enc zSt) 54::pt c3 (RRecord.enc (mRc x0 s1 s3 s7)) 36::Lr):=H
 intro a G
 refine aA G (dF G E E) E E E fun a G=>?_
 refine aJ (aB ?_)
 refine aT G (c:=.tmp 24) E (fun i8=>?_) (fun i8=>?_)
 ·have I:=Fx.cT i8 I
  refine aG ?_
  refine aD ?_
  refine aA G (cB z54 qU54 pl54 G (parts:=[]) E E cN) E E E fun a G=>?_
  refine bD E E (aX (vs:=_) qS54 (H.obj (i:=0) E) G E E E E (RState.len _) (RState.one _) (by first | (rw [RState.len,RState.len]; decide) | (rw [RState.len]; decide)) (bE ((RState.len _).trans (RState.len _).symm)) fun w m2=>?_)
  have H:=H.chg m2 (i:=0) rfl
  replace H:MemL _ (pt c1 (RState.enc zSt) 54::pt c3 (RRecord.enc (mRc x0 s1 s3 s7)) 36::Lr):=H
  refine aA G (aH G E E) E E E fun a G=>?_
  refine aA G (aH G E E) E E E fun a G=>?_
  refine aJ (aB ?_)
  refine c_ret ?_
  have H:=H.rowNil (X:=UInt8) 0 5
  obtain ⟨k8,H⟩:=voidM H
  have n1:Each (LIn (X:=UInt8) k8.holds') ([]:List SV) ([]:List (List UInt8)):=Each.nil
  have H:=H.rowNil (X:=SV) 0 23
  have H:=H.rowNil (X:=Int) 0 3
  have I:=oI I
  subst I
  refine dJ (rs:=[.cell 4 54,.tmp 5,.tmp 6]) qR56 G (bZ G E qA54 qS54 (RState.len _) (H.cells (i:=4) E (aY (RState.len _))) (cL G E (cL G E cI))) E ?_
  exact ⟨SV.nil,SV.nil,[],k8,SV.nil,E,n1,selM H [3,1,2,0] 6 E⟩
 have I:=Fx.cF i8 I
 refine aW (aB ?_)
 refine aG ?_
 refine aD ?_
 refine aA G (aC (off':=0) qU36 E in30 E G E E E) E E E fun a G=>?_
 refine aA G (aQ qA30 qS30 G E E (RInput.len _) (H.cells (i:=1) E (RRecord.c_in_ _))) E E E fun a G=>?_
 obtain ⟨g1,m8,I⟩:=bind_some I
 refine aN G E E E (aO (xs:=[.tmp 27]) Tryz.call76 G E E (qQ m8 H (Bf:=Bf) (fun w H=>S _ (dropM H 2)) f2 f5 q6) fun v w hR=>?_)
 obtain ⟨i3,i4,j1,j5,i5,rfl,n2,H⟩:=hR
 intro a G
 refine aN G E E E (bN z54 (zs:=RState.zero.enc) E E fun c5 w n8 l6=>?_)
 have H:=H.plus l6
 replace H:MemL _ (pt c5 (RState.enc zSt) 54::rowL 0 i3 5 g1.ctx::rowL 0 i4 23 j1::j5::rowL 0 i5 3 g1.sent::pt c1 (RState.enc zSt) 54::pt c3 (RRecord.enc (mRc x0 s1 s3 s7)) 36::Lr):=H
 intro a G
 refine bD E E (aX (vs:=_) qS54 (H.obj (i:=0) E) G E E E E (RState.len _) (RState.one _) (by first | (rw [RState.len,RState.len]; decide) | (rw [RState.len]; decide)) (bE ((RState.len _).trans (RState.len _).symm)) fun w m3=>?_)
 have H:=H.chg m3 (i:=0) rfl
 replace H:MemL _ (pt c5 (RState.enc (mSt g1 i3 i4 i5)) 54::rowL 0 i3 5 g1.ctx::rowL 0 i4 23 j1::j5::rowL 0 i5 3 g1.sent::pt c1 (RState.enc zSt) 54::pt c3 (RRecord.enc (mRc x0 s1 s3 s7)) 36::Lr):=H
 refine aJ (aB ?_)
 refine aG ?_
 refine aV G H I (fun F x a w=>match x with | c6=>∃ (g4:SV) (g5:SV) (g7:List SV) (i1:Res) (g6:SV),Each (LIn (X:=UInt8) i1.holds') g7 c6.tables ∧ Fr 51 [(4,.pointer (some ⟨c1,0,none⟩)),(5,.int .i64 0),(6,.int .i64 0),(7,.pointer (some ⟨c5,0,none⟩))] a ∧ MemL w (pt c5 (RState.enc (mSt c6 g4 g5 g6)) 54::rowL 0 g4 5 c6.ctx::rowL 0 g5 23 g7::i1::rowL 0 g6 3 c6.sent::pt c1 (RState.enc zSt) 54::Lr)) (fun t0 I m9 G H=>?_) ?_
 ·refine aG ?_
  refine aD ?_
  refine aA G (aH G E E) E E E fun a G=>?_
  refine aJ (aB ?_)
  refine aU ?_
  refine bU G H I (fun F x a w=>match x with | (c0,g9)=>∃ (c7:SV) (c8:SV) (d1:List SV) (d2:Res) (c9:SV),Each (LIn (X:=UInt8) d2.holds') d1 c0.tables ∧ Fr 51 [(8,.int .i64 g9),(1,.int .i64 x1),(2,.pointer (some ⟨c3,0,none⟩)),(4,.pointer (some ⟨c1,0,none⟩)),(5,.int .i64 0),(6,.int .i64 0),(7,.pointer (some ⟨c5,0,none⟩))] a ∧ MemL w (pt c5 (RState.enc (mSt c0 c7 c8 c9)) 54::rowL 0 c7 5 c0.ctx::rowL 0 c8 23 d1::d2::rowL 0 c9 3 c0.sent::pt c1 (RState.enc zSt) 54::pt c3 (RRecord.enc (mRc x0 s1 s3 s7)) 36::Lr)) (fun G H=>⟨i3,i4,j1,j5,i5,n2,G.to ⟨E,E,E,E,E,E,E,trivial⟩,H⟩) ?_
  rintro ⟨c0,g9⟩ a w t2 I k4 ⟨c7,c8,d1,d2,c9,j3,G,H⟩
  replace I:Sh.kC x0 x1 c0 g9 = _:=I
  unfold Sh.kC at I
  refine aG ?_
  refine aG ?_
  refine aD ?_
  refine aA G (aF G E E) E E E fun a G=>?_
  refine aA G (aF G E E) E E E fun a G=>?_
  refine aA G (cK G E E E) E E E fun a G=>?_
  refine aJ (aB ?_)
  refine aT G (c:=.tmp 31) E (fun i9=>?_) (fun i9=>?_)
  ·have I:=Fx.cT i9 I
   refine aW (aB ?_)
   refine aG ?_
   refine aU ?_
   refine aG ?_
   refine aV G H I (fun F x a w=>match x with | (c2,j7)=>∃ (i0:Nat) (d8:SV) (d9:SV) (g3:List SV) (g8:Res) (g0:SV),Each (LIn (X:=UInt8) g8.holds') g3 c2.tables ∧ Fr 51 [(10,.int .i64 j7),(9,.pointer (some ⟨i0,0,none⟩)),(1,.int .i64 x1),(2,.pointer (some ⟨c3,0,none⟩)),(4,.pointer (some ⟨c1,0,none⟩)),(5,.int .i64 0),(6,.int .i64 0),(7,.pointer (some ⟨c5,0,none⟩)),(8,.int .i64 g9)] a ∧ MemL w (pt i0 (RState.enc (mSt c2 d8 d9 g0)) 54::rowL 0 d8 5 c2.ctx::rowL 0 d9 23 g3::g8::rowL 0 g0 3 c2.sent::pt c5 (RState.enc (mSt c0 c7 c8 c9)) 54::pt c1 (RState.enc zSt) 54::pt c3 (RRecord.enc (mRc x0 s1 s3 s7)) 36::rowL 0 c7 5 c0.ctx::rowL 0 c8 23 d1::d2::rowL 0 c9 3 c0.sent::Lr)) (fun t1 I p2 G H=>?_) ?_
   ·refine bM mixed (by kernel_rfl) H [0,1,2,3,4,5,6] 7 E fun K=>?_
    refine aK G K 0 E (by kernel_rfl) E E E (fun w H=>(aQ qA54 qS54 G E E (RState.len _) (H.cells (i:=0) E (aY (RState.len _))))) fun a G=>?_
    refine aK G K 1 E (by kernel_rfl) E E E (fun w H=>(aC (off':=2) qU36 E in33 E G E E E)) fun a G=>?_
    refine aK G K 2 E (by kernel_rfl) E E E (fun w H=>(aI qA33 G E E (H.cell (i:=6) E (RRecord.g_marks _)))) fun a G=>?_
    refine aK G K 3 E (by kernel_rfl) E E E (fun w H=>(aF G E E)) fun a G=>?_
    obtain ⟨p7,j9,I⟩:=bind_some I
    have l3:=aM j9
    obtain ⟨p0,l8,l9⟩:=Each.getr q10 l3.2
    have l7:=Each.bd q10 (bH j9)
    obtain ⟨p3,p4,p5,n9,p6,rfl,k0,k1,k2,k5,k3⟩:=l9
    refine aK G K 4 E (by kernel_rfl) E E E (fun w H=>(aS (sz:=7) (f9 _ (S _ (dropM H 7))) qU33 in60 E G E E E l7)) fun a G=>?_
    refine aK G K 5 E (by kernel_rfl) E E E (fun w H=>(aQ qA60 qS60 G E E (RMark.len _) (((f9 _ (S _ (dropM H 7))).elemS l8)))) fun a G=>?_
    refine hO K 6 10 (by kernel_rfl) E E ?_ ?_
    ·refine bY G 6 E E E E E fun w hMs H=>?_
     obtain ⟨c4,j2,I⟩:=bind_some I
     refine (aO (xs:=[.tmp 35,.tmp 40]) Tryz.call61 G E E (iZ j2 H (fun _ h=>h) (fun w H=>(H.rowS (X:=UInt8) (i:=1) E)) (fun w H=>(H.rowS (X:=SV) (i:=2) E)) (j3.mono fun _ _ q=>q.mono fun w H=>H.hold 3 _ E) (fun w H=>(H.rowS (X:=Int) (i:=4) E)) (fun w H=>(k0 _ (S _ (dropM H 7)))) (fun w H=>(k1 _ (S _ (dropM H 7)))) (fun w H=>(k2 _ (S _ (dropM H 7)))) (k5.mono fun _ _ q=>q.mono fun w H=>S _ (dropM H 7)) (fun w H=>(k3 _ (S _ (dropM H 7))))) fun v w hR=>?_)
     obtain ⟨d4,d5,d7,g2,d6,rfl,j4,H⟩:=hR
     replace H:MemL _ (rowL 0 d4 5 c4.1.ctx::rowL 0 d5 23 d7::g2::rowL 0 d6 3 c4.1.sent::pt c5 (RState.enc (mSt c0 c7 c8 c9)) 54::rowL 0 c7 5 c0.ctx::rowL 0 c8 23 d1::d2::rowL 0 c9 3 c0.sent::pt c1 (RState.enc zSt) 54::pt c3 (RRecord.enc (mRc x0 s1 s3 s7)) 36::Lr):=H
     have hMs:=selM H [0,1,2,3,4,5,6,7,8,9,10] 11 rfl
     refine ⟨_,_,hMs,H,.inl fun _ h=>dropM h 4,fun a G=>?_⟩
     refine aK G K 7 E (by kernel_rfl) E E E (fun w H=>(aF G E E)) fun a G=>?_
     refine aK G K 8 E (by kernel_rfl) E E E (fun w H=>(cZ G E E E)) fun a G=>?_
     refine aK G K 9 E (by kernel_rfl) E E E (fun w H=>(cZ G E E E)) fun a G=>?_
     refine bF K 10 (by kernel_rfl) E E ?_
     refine bY G 10 E E E E E fun w hMs H=>?_
     refine (bN z54 (zs:=RState.zero.enc) E E fun d3 w m0 i2=>?_)
     have H:=H.plus i2
     replace H:MemL _ (pt d3 (RState.enc zSt) 54::rowL 0 d4 5 c4.1.ctx::rowL 0 d5 23 d7::g2::rowL 0 d6 3 c4.1.sent::pt c5 (RState.enc (mSt c0 c7 c8 c9)) 54::rowL 0 c7 5 c0.ctx::rowL 0 c8 23 d1::d2::rowL 0 c9 3 c0.sent::pt c1 (RState.enc zSt) 54::pt c3 (RRecord.enc (mRc x0 s1 s3 s7)) 36::Lr):=H
     have hMs:=selM H [1,2,3,4,5,6,7,8,9,10,11] 12 rfl
     refine ⟨_,_,hMs,H,.inl fun _ h=>h,fun a G=>?_⟩
     refine bF K 11 (by kernel_rfl) E E ?_
     refine cV 11 E E E E fun w hMs H=>?_
     refine (aX (vs:=_) qS54 (H.obj (i:=0) E) G E E E E (RState.len _) (RState.one _) (by first | (rw [RState.len,RState.len]; decide) | (rw [RState.len]; decide)) (bE ((RState.len _).trans (RState.len _).symm)) fun w i6=>?_)
     have H:=H.chg i6 (i:=0) rfl
     replace H:MemL _ (pt d3 (RState.enc (mSt c4.1 d4 d5 d6)) 54::rowL 0 d4 5 c4.1.ctx::rowL 0 d5 23 d7::g2::rowL 0 d6 3 c4.1.sent::pt c5 (RState.enc (mSt c0 c7 c8 c9)) 54::rowL 0 c7 5 c0.ctx::rowL 0 c8 23 d1::d2::rowL 0 c9 3 c0.sent::pt c1 (RState.enc zSt) 54::pt c3 (RRecord.enc (mRc x0 s1 s3 s7)) 36::Lr):=H
     have hMs:=selM H [1,2,3,4,5,6,7,8,9,10,11] 12 rfl
     refine ⟨_,_,hMs,H,.inl fun _ h=>h,?_⟩
     refine aK G K 12 E (by kernel_rfl) E E E (fun w H=>(aH G E E)) fun a G=>?_
     refine bV K (by kernel_rfl) fun w H=>?_
     refine aB ?_
     have I:=oI I
     subst I
     exact ⟨(c4.1,c4.2),E,d3,d4,d5,d7,g2,d6,j4,G.to ⟨E,E,E,E,E,E,E,E,E,trivial⟩,selM H [0,1,2,3,4,5,10,11,6,7,8,9] 12 E⟩
    refine bY G 10 E E E E E fun w hMs H=>?_
    refine (bN z54 (zs:=RState.zero.enc) E E fun d3 w m0 i2=>?_)
    have H:=H.plus i2
    replace H:MemL _ (pt d3 (RState.enc zSt) 54::pt c5 (RState.enc (mSt c0 c7 c8 c9)) 54::rowL 0 c7 5 c0.ctx::rowL 0 c8 23 d1::d2::rowL 0 c9 3 c0.sent::pt c1 (RState.enc zSt) 54::pt c3 (RRecord.enc (mRc x0 s1 s3 s7)) 36::Lr):=H
    have hMs:=selM H [1,2,3,4,5,6,7] 8 rfl
    refine ⟨_,_,hMs,H,.inl fun _ h=>h,fun a G=>?_⟩
    refine bF K 6 (by kernel_rfl) E E ?_
    refine bY G 6 E E E E E fun w hMs H=>?_
    obtain ⟨c4,j2,I⟩:=bind_some I
    refine (aO (xs:=[.tmp 35,.tmp 40]) Tryz.call61 G E E (iZ j2 H (fun _ h=>h) (fun w H=>(H.rowS (X:=UInt8) (i:=2) E)) (fun w H=>(H.rowS (X:=SV) (i:=3) E)) (j3.mono fun _ _ q=>q.mono fun w H=>H.hold 4 _ E) (fun w H=>(H.rowS (X:=Int) (i:=5) E)) (fun w H=>(k0 _ (S _ (dropM H 8)))) (fun w H=>(k1 _ (S _ (dropM H 8)))) (fun w H=>(k2 _ (S _ (dropM H 8)))) (k5.mono fun _ _ q=>q.mono fun w H=>S _ (dropM H 8)) (fun w H=>(k3 _ (S _ (dropM H 8))))) fun v w hR=>?_)
    obtain ⟨d4,d5,d7,g2,d6,rfl,j4,H⟩:=hR
    replace H:MemL _ (rowL 0 d4 5 c4.1.ctx::rowL 0 d5 23 d7::g2::rowL 0 d6 3 c4.1.sent::pt d3 (RState.enc zSt) 54::pt c5 (RState.enc (mSt c0 c7 c8 c9)) 54::rowL 0 c7 5 c0.ctx::rowL 0 c8 23 d1::d2::rowL 0 c9 3 c0.sent::pt c1 (RState.enc zSt) 54::pt c3 (RRecord.enc (mRc x0 s1 s3 s7)) 36::Lr):=H
    have hMs:=selM H [0,1,2,3,5,6,7,8,9,10,11] 12 rfl
    refine ⟨_,_,hMs,H,.inl fun _ h=>dropM h 4,fun a G=>?_⟩
    refine aK G K 7 E (by kernel_rfl) E E E (fun w H=>(aF G E E)) fun a G=>?_
    refine aK G K 8 E (by kernel_rfl) E E E (fun w H=>(cZ G E E E)) fun a G=>?_
    refine aK G K 9 E (by kernel_rfl) E E E (fun w H=>(cZ G E E E)) fun a G=>?_
    refine bF K 11 (by kernel_rfl) E E ?_
    refine cV 11 E E E E fun w hMs H=>?_
    refine (aX (vs:=_) qS54 (H.obj (i:=4) E) G E E E E (RState.len _) (RState.one _) (by first | (rw [RState.len,RState.len]; decide) | (rw [RState.len]; decide)) (bE ((RState.len _).trans (RState.len _).symm)) fun w i6=>?_)
    have H:=H.chg i6 (i:=4) rfl
    replace H:MemL _ (rowL 0 d4 5 c4.1.ctx::rowL 0 d5 23 d7::g2::rowL 0 d6 3 c4.1.sent::pt d3 (RState.enc (mSt c4.1 d4 d5 d6)) 54::pt c5 (RState.enc (mSt c0 c7 c8 c9)) 54::rowL 0 c7 5 c0.ctx::rowL 0 c8 23 d1::d2::rowL 0 c9 3 c0.sent::pt c1 (RState.enc zSt) 54::pt c3 (RRecord.enc (mRc x0 s1 s3 s7)) 36::Lr):=H
    have hMs:=selM H [0,1,2,3,5,6,7,8,9,10,11] 12 rfl
    refine ⟨_,_,hMs,H,.inl fun _ h=>h,?_⟩
    refine aK G K 12 E (by kernel_rfl) E E E (fun w H=>(aH G E E)) fun a G=>?_
    refine bV K (by kernel_rfl) fun w H=>?_
    refine aB ?_
    have I:=oI I
    subst I
    exact ⟨(c4.1,c4.2),E,d3,d4,d5,d7,g2,d6,j4,G.to ⟨E,E,E,E,E,E,E,E,E,trivial⟩,selM H [4,0,1,2,3,5,10,11,6,7,8,9] 12 E⟩
   rintro ⟨c2,j7⟩ a w I ⟨i0,d8,d9,g3,g8,g0,n4,G,H⟩
   replace I:Sh.oG g9 c2 j7 = _:=I
   unfold Sh.oG at I
   refine aB ?_
   refine aG ?_
   refine aG ?_
   refine aD ?_
   refine aA G (aF G E E) E E E fun a G=>?_
   refine aA G (dD G E E E) E E E fun a G=>?_
   refine aJ (aB ?_)
   refine aT G (c:=.tmp 45) E (fun j0=>?_) (fun j0=>?_)
   ·have I:=Fx.cT j0 I
    refine aG ?_
    refine aD ?_
    refine aA G (cB z54 qU54 pl54 G (parts:=[]) E E cN) E E E fun a G=>?_
    refine aA G (aF G E E) E E E fun a G=>?_
    refine aA G (aF G E E) E E E fun a G=>?_
    refine bD E E (aX (vs:=_) qS54 (H.obj (i:=6) E) G E E E E (RState.len _) (RState.one _) (by first | (rw [RState.len,RState.len]; decide) | (rw [RState.len]; decide)) (bE ((RState.len _).trans (RState.len _).symm)) fun w m4=>?_)
    have H:=H.chg m4 (i:=6) rfl
    replace H:MemL _ (pt i0 (RState.enc (mSt c2 d8 d9 g0)) 54::rowL 0 d8 5 c2.ctx::rowL 0 d9 23 g3::g8::rowL 0 g0 3 c2.sent::pt c5 (RState.enc (mSt c0 c7 c8 c9)) 54::pt c1 (RState.enc zSt) 54::pt c3 (RRecord.enc (mRc x0 s1 s3 s7)) 36::rowL 0 c7 5 c0.ctx::rowL 0 c8 23 d1::d2::rowL 0 c9 3 c0.sent::Lr):=H
    refine aA G (aH G E E) E E E fun a G=>?_
    refine aA G (aH G E E) E E E fun a G=>?_
    refine aJ (aB ?_)
    refine c_ret ?_
    have H:=H.rowNil (X:=UInt8) 0 5
    obtain ⟨k9,H⟩:=voidM H
    have n5:Each (LIn (X:=UInt8) k9.holds') ([]:List SV) ([]:List (List UInt8)):=Each.nil
    have H:=H.rowNil (X:=SV) 0 23
    have H:=H.rowNil (X:=Int) 0 3
    have I:=oI I
    subst I
    have I:=k4 _ rfl
    subst I
    have I:=dE m9
    subst I
    refine dJ (rs:=[.cell 4 54,.tmp 5,.tmp 6]) qR56 G (bZ G E qA54 qS54 (RState.len _) (H.cells (i:=10) E (aY (RState.len _))) (cL G E (cL G E cI))) E ?_
    exact ⟨SV.nil,SV.nil,[],k9,SV.nil,E,n5,selM H [3,1,2,0] 16 E⟩
   have I:=Fx.cF j0 I
   refine aW (aB ?_)
   refine aD ?_
   refine aA G (aQ qA54 qS54 G E E (RState.len _) (H.cells (i:=0) E (aY (RState.len _)))) E E E fun a G=>?_
   refine bD E E (aX (vs:=_) qS54 (H.obj (i:=5) E) G E E E E (RState.len _) (RState.one _) (by first | (rw [RState.len,RState.len]; decide) | (rw [RState.len]; decide)) (bE ((RState.len _).trans (RState.len _).symm)) fun w m5=>?_)
   have H:=H.chg m5 (i:=5) rfl
   replace H:MemL _ (pt i0 (RState.enc (mSt c2 d8 d9 g0)) 54::rowL 0 d8 5 c2.ctx::rowL 0 d9 23 g3::g8::rowL 0 g0 3 c2.sent::pt c5 (RState.enc (mSt c2 d8 d9 g0)) 54::pt c1 (RState.enc zSt) 54::pt c3 (RRecord.enc (mRc x0 s1 s3 s7)) 36::rowL 0 c7 5 c0.ctx::rowL 0 c8 23 d1::d2::rowL 0 c9 3 c0.sent::Lr):=H
   refine aJ (bK (aB ?_))
   refine aD ?_
   refine aA G (aF G E E) E E E fun a G=>?_
   refine aA G (bW G E E E) E E E fun a G=>?_
   refine aA G (aH G E E) E E E fun a G=>?_
   refine aJ (aB ?_)
   have I:=oI I
   subst I
   exact ⟨(c2,(IntKind.i64.wrap (g9 + 1))),E,d8,d9,g3,g8,g0,n4,G.to ⟨E,E,E,E,E,E,E,trivial⟩,selM H [5,1,2,3,4,6,7] 12 E⟩
  have I:=Fx.cF i9 I
  refine bX (bC (bC (cO ?_)))
  refine aB ?_
  have I:=oI I
  subst I
  have I:=k4 _ rfl
  subst I
  exact ⟨c0,E,c7,c8,d1,d2,c9,j3,G.to ⟨E,E,E,E,trivial⟩,selM H [0,1,2,3,4,5] 7 E⟩
 rintro c6 a w I ⟨g4,g5,g7,i1,g6,n3,G,H⟩
 replace I:Sh.rJ c6 = _:=I
 unfold Sh.rJ at I
 refine aB ?_
 refine aG ?_
 refine aD ?_
 refine aA G (aQ qA54 qS54 G E E (RState.len _) (H.cells (i:=0) E (aY (RState.len _)))) E E E fun a G=>?_
 refine bD E E (aX (vs:=_) qS54 (H.obj (i:=5) E) G E E E E (RState.len _) (RState.one _) (by first | (rw [RState.len,RState.len]; decide) | (rw [RState.len]; decide)) (bE ((RState.len _).trans (RState.len _).symm)) fun w m6=>?_)
 have H:=H.chg m6 (i:=5) rfl
 replace H:MemL _ (pt c5 (RState.enc (mSt c6 g4 g5 g6)) 54::rowL 0 g4 5 c6.ctx::rowL 0 g5 23 g7::i1::rowL 0 g6 3 c6.sent::pt c1 (RState.enc (mSt c6 g4 g5 g6)) 54::Lr):=H
 refine aA G (aH G E E) E E E fun a G=>?_
 refine aA G (aH G E E) E E E fun a G=>?_
 refine aJ (aB ?_)
 refine c_ret ?_
 have I:=oI I
 subst I
 refine dJ (rs:=[.cell 4 54,.tmp 5,.tmp 6]) qR56 G (bZ G E qA54 qS54 (RState.len _) (H.cells (i:=5) E (aY (RState.len _))) (cL G E (cL G E cI))) E ?_
 exact ⟨g4,g5,g7,i1,g6,E,n3,selM H [1,2,3,4] 6 E⟩
set_option maxHeartbeats 4000000 in
theorem rM {x0:QRecord} {x1:Int} {s1:SV} {s3:SV} {hs4:List SV} {s7:SV} {hs8:List RMark} {out:(QRecord × Int)} {w0:World} {Bf:World → Prop} {Lr:List Res} (I:Sh.pW x0 x1 = some out) (H:MemL w0 (Lr)) (S:∀ w,MemL w Lr → Bf w) (f2:LIn Bf s1 x0.in_.ctx) (f5:LIn Bf s3 hs4) (q6:Each (LIn (X:=UInt8) Bf) hs4 x0.in_.tables) (f9:LIn Bf s7 hs8) (q10:Each (QMarkIn Bf) hs8 x0.marks):Calls Tryz.prog 57 #[.agg (RRecord.enc (mRc x0 s1 s3 s7)).toArray,.int .i64 x1] w0 (Ret fun v w'=>∃ (s45:SV) (s47:SV) (hs48:List SV) (s51:SV) (hs52:List RMark),v = .tuple #[.agg (RRecord.enc (mRc out.1 s45 s47 s51)).toArray,.int .i64 out.2] ∧ LIn Bf s45 out.1.in_.ctx ∧ LIn Bf s47 hs48 ∧ Each (LIn (X:=UInt8) Bf) hs48 out.1.in_.tables ∧ LIn Bf s51 hs52 ∧ Each (QMarkIn Bf) hs52 out.1.marks ∧ MemL w' (Lr)):=by
 unfold Sh.pW at I
 refine aR (vs:=[.agg (RRecord.enc (mRc x0 s1 s3 s7)).toArray,.int .i64 x1]) Tryz.func57 E Tryz.ntmps57 E fun a G=>?_
 refine aG ?_
 refine aD ?_
 refine aN G E E E (dA G E E E fun c1 w c6 c3=>?_)
 have H:=H.plus c3
 intro a G
 refine aN G E E E (bN z36 (zs:=RRecord.zero.enc) E E fun c0 w c7 c4=>?_)
 have H:=H.plus c4
 replace H:MemL _ (pt c0 (RRecord.enc (zRc)) 36::pt c1 (RRecord.enc (mRc x0 s1 s3 s7)) 36::Lr):=H
 intro a G
 refine aA G (aH G E E) E E E fun a G=>?_
 refine aJ (aB ?_)
 refine aG ?_
 refine aG ?_
 refine aV G H I (fun F x a w=>match x with | v63=>Fr 33 [(15,.bool v63),(1,.int .i64 x1),(2,.pointer (some ⟨c1,0,none⟩)),(4,.pointer (some ⟨c0,0,none⟩)),(5,.int .i64 0)] a ∧ MemL w (pt c0 (RRecord.enc (zRc)) 36::pt c1 (RRecord.enc (mRc x0 s1 s3 s7)) 36::Lr)) (fun d1 I c9 G H=>?_) ?_
 ·refine aD ?_
  refine aA G (aF G E E) E E E fun a G=>?_
  refine aA G (cK G E E E) E E E fun a G=>?_
  refine aA G (aF G E E) E E E fun a G=>?_
  refine bG 9 G E (fun hb64=>?_) (fun hb64=>?_)
  ·have I:=Fx.cT hb64 I
   refine aE G E E E hb64 E E fun a G=>?_
   refine aE G E E E hb64 E E fun a G=>?_
   refine aE G E E E hb64 E E fun a G=>?_
   refine aE G E E E hb64 E E fun a G=>?_
   refine aE G E E E hb64 E E fun a G=>?_
   refine aA G (aP G E E hb64 E) E E E fun a G=>?_
   refine aJ (aB ?_)
   have I:=oI I
   subst I
   exact ⟨true,E,G.to ⟨E,E,E,E,E,trivial⟩,H⟩
  have I:=Fx.cF hb64 I
  refine aL G E E E hb64 (aF G E E) E E fun a G=>?_
  refine aL G E E E hb64 (aC (off':=2) qU36 E in33 E G E E E) E E fun a G=>?_
  refine aL G E E E hb64 (aI qA33 G E E (H.cell (i:=1) E (RRecord.g_marks _))) E E fun a G=>?_
  refine aL G E E E hb64 (cQ (f9 _ (S _ (dropM H 2))) q10.len qU33 G E E) E E fun a G=>?_
  refine aL G E E E hb64 (eR G E E E) E E fun a G=>?_
  refine aA G (aZ G E E hb64 E) E E E fun a G=>?_
  refine aJ (aB ?_)
  have I:=oI I
  subst I
  exact ⟨(decide ((x0.marks.length:Int) < x1)),E,G.to ⟨E,E,E,E,E,trivial⟩,H⟩
 rintro v63 a w I ⟨G,H⟩
 replace I:Sh.rI x0 x1 v63 = _:=I
 unfold Sh.rI at I
 refine aB ?_
 refine aT G (c:=.tmp 15) E (fun hb65=>?_) (fun hb65=>?_)
 ·have I:=Fx.cT hb65 I
  refine aG ?_
  refine aD ?_
  refine aA G (cB z36 qU36 pl36 G (parts:=[]) E E cN) E E E fun a G=>?_
  refine bD E E (aX (vs:=_) qS36 (H.obj (i:=0) E) G E E E E (RRecord.len _) (RRecord.one _) (by first | (rw [RRecord.len,RRecord.len]; decide) | (rw [RRecord.len]; decide)) (bE ((RRecord.len _).trans (RRecord.len _).symm)) fun w hU66=>?_)
  have H:=H.chg hU66 (i:=0) rfl
  replace H:MemL _ (pt c0 (RRecord.enc (zRc)) 36::pt c1 (RRecord.enc (mRc x0 s1 s3 s7)) 36::Lr):=H
  refine aA G (aH G E E) E E E fun a G=>?_
  refine aJ (aB ?_)
  refine c_ret ?_
  have I:=oI I
  subst I
  refine dJ (rs:=[.cell 4 36,.tmp 5]) Tryz.results57 G (bZ G E qA36 qS36 (RRecord.len _) (H.cells (i:=0) E (aY (RRecord.len _))) (cL G E cI)) E ?_
  exact ⟨SV.nil,SV.nil,[],SV.nil,[],E,LIn.nil,LIn.nil,Each.nil,LIn.nil,Each.nil,selM H [] 2 E⟩
 have I:=Fx.cF hb65 I
 refine aW (aB ?_)
 refine aG ?_
 refine bM mixed (by kernel_rfl) H [0,1] 2 E fun K=>?_
 refine aK G K 0 E (by kernel_rfl) E E E (fun w H=>(aC (off':=0) qU36 E in30 E G E E E)) fun a G=>?_
 refine aK G K 1 E (by kernel_rfl) E E E (fun w H=>(aQ qA30 qS30 G E E (RInput.len _) (H.cells (i:=1) E (RRecord.c_in_ _)))) fun a G=>?_
 refine aK G K 2 E (by kernel_rfl) E E E (fun w H=>(aC (off':=2) qU36 E in33 E G E E E)) fun a G=>?_
 refine aK G K 3 E (by kernel_rfl) E E E (fun w H=>(aI qA33 G E E (H.cell (i:=1) E (RRecord.g_marks _)))) fun a G=>?_
 refine aK G K 4 E (by kernel_rfl) E E E (fun w H=>(aF G E E)) fun a G=>?_
 obtain ⟨x69,hx69,I⟩:=bind_some I
 obtain ⟨hmx69,hdx69,hEx69⟩:=Each.slc q10 hx69
 refine aK G K 5 E (by kernel_rfl) E E E (fun w H=>(eL (f9 _ (S _ (dropM H 2))) hdx69 qU33 in60 E G E E (.inl ⟨E,E⟩) (.inr ⟨_,_,E,E⟩))) fun a G=>?_
 refine aK G K 6 E (by kernel_rfl) E E E (fun w H=>(aC (off':=3) qU36 E in34 E G E E E)) fun a G=>?_
 refine aK G K 7 E (by kernel_rfl) E E E (fun w H=>(aI qA34 G E E (H.cell (i:=1) E (RRecord.g_end_ _)))) fun a G=>?_
 refine aK G K 8 E (by kernel_rfl) E E E (fun w H=>(cB z36 qU36 pl36 G (parts:=[(0,.tmp 18),(1,.tmp 22),(2,.tmp 24)]) E E (fS E (RInput.len _) (by rw [RInput.len,RRecord.len]; decide) (RRecord.p_in_ _ _) (cJ E E (by rw [RRecord.len]; decide) (RRecord.s_marks _ _) (cJ E E (by rw [RRecord.len]; decide) (RRecord.s_end_ _ _) cN))))) fun a G=>?_
 refine bF K 9 (by kernel_rfl) E E ?_
 refine bY G 9 E E E E E fun w hMs H=>?_
 refine (bN z36 (zs:=RRecord.zero.enc) E E fun c2 w c8 c5=>?_)
 have H:=H.plus c5
 replace H:MemL _ (pt c2 (RRecord.enc (zRc)) 36::pt c0 (RRecord.enc (zRc)) 36::pt c1 (RRecord.enc (mRc x0 s1 s3 s7)) 36::Lr):=H
 have hMs:=selM H [0,1,2] 3 rfl
 refine ⟨_,_,hMs,H,.inl fun _ h=>dropM h 1,fun a G=>?_⟩
 refine bF K 10 (by kernel_rfl) E E ?_
 refine cV 10 E E E E fun w hMs H=>?_
 refine (aX (vs:=_) qS36 (H.obj (i:=0) E) G E E E E (RRecord.len _) (RRecord.one _) (by first | (rw [RRecord.len,RRecord.len]; decide) | (rw [RRecord.len]; decide)) (bE ((RRecord.len _).trans (RRecord.len _).symm)) fun w hU70=>?_)
 have H:=H.chg hU70 (i:=0) rfl
 replace H:MemL _ (pt c2 (RRecord.enc (RRecord.mk (RInput.mk s1 s3) (s7.cut (0:Int).toNat (x1:Int).toNat 7) x0.end_)) 36::pt c0 (RRecord.enc (zRc)) 36::pt c1 (RRecord.enc (mRc x0 s1 s3 s7)) 36::Lr):=H
 have hMs:=H
 refine ⟨_,_,hMs,H,.inr (by kernel_rfl),?_⟩
 refine bV K (by kernel_rfl) fun w H=>?_
 refine aB ?_
 refine aG ?_
 refine aV G H I (fun F x a w=>match x with | v75=>∃ (s76:SV) (s78:SV) (hs79:List SV) (s82:SV) (hs83:List RMark),LIn Bf s76 v75.in_.ctx ∧ LIn Bf s78 hs79 ∧ Each (LIn (X:=UInt8) Bf) hs79 v75.in_.tables ∧ LIn Bf s82 hs83 ∧ Each (QMarkIn Bf) hs83 v75.marks ∧ Fr 33 [(4,.pointer (some ⟨c0,0,none⟩)),(5,.int .i64 0),(6,.pointer (some ⟨c2,0,none⟩))] a ∧ MemL w (pt c2 (RRecord.enc (mRc v75 s76 s78 s82)) 36::pt c0 (RRecord.enc (zRc)) 36::Lr)) (fun d2 I d0 G H=>?_) ?_
 ·refine aG ?_
  refine aD ?_
  refine aA G (aF G E E) E E E fun a G=>?_
  refine aA G (aC (off':=2) qU36 E in33 E G E E E) E E E fun a G=>?_
  refine aA G (aI qA33 G E E (H.cell (i:=2) E (RRecord.g_marks _))) E E E fun a G=>?_
  refine aA G (cQ (f9 _ (S _ (dropM H 3))) q10.len qU33 G E E) E E E fun a G=>?_
  refine aA G (cK G E E E) E E E fun a G=>?_
  refine aJ (aB ?_)
  refine aT G (c:=.tmp 30) E (fun hb86=>?_) (fun hb86=>?_)
  ·have I:=Fx.cT hb86 I
   refine aD ?_
   refine aA G (aC (off':=3) qU36 E in34 E G E E E) E E E fun a G=>?_
   refine bD E E (bI qS34 (H.obj (i:=0) E) G E E E E (by rw [RRecord.len]; decide) (RRecord.s_end_ _ _) fun w hU87=>?_)
   have H:=H.chg hU87 (i:=0) rfl
   replace H:MemL _ (pt c2 (RRecord.enc (RRecord.mk (RInput.mk s1 s3) (s7.cut (0:Int).toNat (x1:Int).toNat 7) 88)) 36::pt c0 (RRecord.enc (zRc)) 36::pt c1 (RRecord.enc (mRc x0 s1 s3 s7)) 36::Lr):=H
   refine aJ (aB ?_)
   have I:=oI I
   subst I
   exact ⟨(QRecord.mk x0.in_ x69 88),E,s1,s3,hs4,(s7.cut (0:Int).toNat (x1:Int).toNat 7),hmx69,f2,f5,q6,(LIn.slc f9 hdx69 E),hEx69,G.to ⟨E,E,E,trivial⟩,selM H [0,1] 3 E⟩
  have I:=Fx.cF hb86 I
  refine aW (aB ?_)
  have I:=oI I
  subst I
  exact ⟨(QRecord.mk x0.in_ x69 x0.end_),E,s1,s3,hs4,(s7.cut (0:Int).toNat (x1:Int).toNat 7),hmx69,f2,f5,q6,(LIn.slc f9 hdx69 E),hEx69,G.to ⟨E,E,E,trivial⟩,selM H [0,1] 3 E⟩
 rintro v75 a w I ⟨s76,s78,hs79,s82,hs83,f77,f80,q81,f84,q85,G,H⟩
 replace I:Sh.oE v75 = _:=I
 unfold Sh.oE at I
 refine aB ?_
 refine aG ?_
 refine aD ?_
 refine aA G (aQ qA36 qS36 G E E (RRecord.len _) (H.cells (i:=0) E (aY (RRecord.len _)))) E E E fun a G=>?_
 refine bD E E (aX (vs:=_) qS36 (H.obj (i:=1) E) G E E E E (RRecord.len _) (RRecord.one _) (by first | (rw [RRecord.len,RRecord.len]; decide) | (rw [RRecord.len]; decide)) (bE ((RRecord.len _).trans (RRecord.len _).symm)) fun w hU88=>?_)
 have H:=H.chg hU88 (i:=1) rfl
 replace H:MemL _ (pt c2 (RRecord.enc (mRc v75 s76 s78 s82)) 36::pt c0 (RRecord.enc (mRc v75 s76 s78 s82)) 36::Lr):=H
 refine aA G (aH G E E) E E E fun a G=>?_
 refine aJ (aB ?_)
 refine c_ret ?_
 have I:=oI I
 subst I
 refine dJ (rs:=[.cell 4 36,.tmp 5]) Tryz.results57 G (bZ G E qA36 qS36 (RRecord.len _) (H.cells (i:=1) E (aY (RRecord.len _))) (cL G E cI)) E ?_
 exact ⟨s76,s78,hs79,s82,hs83,E,f77,f80,q81,f84,q85,selM H [] 2 E⟩
set_option maxHeartbeats 4000000 in
theorem xK {x0:QRecord} {x1:Int} {s1:SV} {s3:SV} {hs4:List SV} {s7:SV} {hs8:List RMark} {out:Bool} {w0:World} {Bf:World → Prop} {Lr:List Res} (I:Sh.nY x0 x1 = some out) (H:MemL w0 (Lr)) (S:∀ w,MemL w Lr → Bf w) (f2:LIn Bf s1 x0.in_.ctx) (f5:LIn Bf s3 hs4) (q6:Each (LIn (X:=UInt8) Bf) hs4 x0.in_.tables) (f9:LIn Bf s7 hs8) (q10:Each (QMarkIn Bf) hs8 x0.marks):Calls Tryz.prog 16 #[.agg (RRecord.enc (mRc x0 s1 s3 s7)).toArray,.int .i64 x1] w0 (Ret fun v w'=>v = .bool out ∧ MemL w' (Lr)):=by
 unfold Sh.nY at I
 refine aR (vs:=[.agg (RRecord.enc (mRc x0 s1 s3 s7)).toArray,.int .i64 x1]) Tryz.func16 E Tryz.ntmps16 E fun a G=>?_
 refine aG ?_
 refine aD ?_
 refine aN G E E E (dA G E E E fun d7 w t6 k9=>?_)
 have H:=H.plus k9
 replace H:MemL _ (pt d7 (RRecord.enc (mRc x0 s1 s3 s7)) 36::Lr):=H
 intro a G
 refine aA G (aH G E E) E E E fun a G=>?_
 refine aJ (aB ?_)
 refine aG ?_
 refine aG ?_
 refine aD ?_
 obtain ⟨u6,n2,I⟩:=bind_some I
 refine aN G E E E (aO (xs:=[]) Tryz.call22 G E E (gL n2 H ) fun v w hR=>?_)
 obtain ⟨rfl,H⟩:=hR
 replace H:MemL _ (pt d7 (RRecord.enc (mRc x0 s1 s3 s7)) 36::Lr):=H
 intro a G
 refine aA G (dF G E E) E E E fun a G=>?_
 refine aJ (aB ?_)
 refine aT G (c:=.tmp 17) E (fun j7=>?_) (fun j7=>?_)
 ·have I:=Fx.cT j7 I
  refine aG ?_
  refine aD ?_
  refine aA G (aH G E E) E E E fun a G=>?_
  refine aJ (aB ?_)
  refine c_ret ?_
  have I:=oI I
  subst I
  refine bJ Tryz.results16 G E ?_
  exact ⟨E,selM H [] 1 E⟩
 have I:=Fx.cF j7 I
 refine aW (aB ?_)
 refine aG ?_
 refine aD ?_
 refine aA G (aQ qA36 qS36 G E E (RRecord.len _) (H.cells (i:=0) E (aY (RRecord.len _)))) E E E fun a G=>?_
 obtain ⟨i0,n3,I⟩:=bind_some I
 refine aN G E E E (aO (xs:=[.tmp 18]) Tryz.call35 G E E (vR n3 H (Bf:=Bf) (fun w H=>S _ (dropM H 1)) f2 f5 q6 f9 q10) fun v w hR=>?_)
 obtain ⟨i8,i4,d6,g2,g8,i9,k8,g7,rfl,j5,k0,j6,k1,H⟩:=hR
 intro a G
 refine aN G E E E (bN z36 (zs:=RRecord.zero.enc) E E fun d8 w t7 l0=>?_)
 have H:=H.plus l0
 replace H:MemL _ (pt d8 (RRecord.enc (zRc)) 36::i4.r::rowL 0 d6 23 g2::g8.r::g7.r::pt d7 (RRecord.enc (mRc x0 s1 s3 s7)) 36::Lr):=H
 intro a G
 refine bD E E (aX (vs:=_) qS36 (H.obj (i:=0) E) G E E E E (RRecord.len _) (RRecord.one _) (by first | (rw [RRecord.len,RRecord.len]; decide) | (rw [RRecord.len]; decide)) (bE ((RRecord.len _).trans (RRecord.len _).symm)) fun w m2=>?_)
 have H:=H.chg m2 (i:=0) rfl
 replace H:MemL _ (pt d8 (RRecord.enc (mRc i0 i8 d6 i9)) 36::i4.r::rowL 0 d6 23 g2::g8.r::g7.r::pt d7 (RRecord.enc (mRc x0 s1 s3 s7)) 36::Lr):=H
 refine aJ (aB ?_)
 refine aG ?_
 refine aD ?_
 refine aA G (aQ qA36 qS36 G E E (RRecord.len _) (H.cells (i:=0) E (aY (RRecord.len _)))) E E E fun a G=>?_
 refine aA G (aF G E E) E E E fun a G=>?_
 obtain ⟨c0,n4,I⟩:=bind_some I
 refine aN G E E E (aO (xs:=[.tmp 21,.tmp 22]) Tryz.call51 G E E (rZ n4 H (fun _ h=>h) (fun w H=>(LRm.toIn j5 _ (H.hold 1 _ E))) (fun w H=>(H.rowS (X:=SV) (i:=2) E)) (k0.mono fun _ _ q=>q.toIn.mono fun w H=>H.hold 3 _ E) (fun w H=>(LRm.toIn j6 _ (H.hold 4 _ E))) (k1.mono fun _ _ q=>q.toIn.mono fun w H=>H.hold 4 _ E)) fun v w hR=>?_)
 obtain ⟨c2,c3,d9,g4,c4,rfl,l6,H⟩:=hR
 intro a G
 refine aA G (aF G E E) E E E fun a G=>?_
 refine aA G (cZ G E E E) E E E fun a G=>?_
 refine aA G (cZ G E E E) E E E fun a G=>?_
 refine aA G (cZ G E E E) E E E fun a G=>?_
 refine aN G E E E (bN z54 (zs:=RState.zero.enc) E E fun c5 w t8 l1=>?_)
 have H:=H.plus l1
 replace H:MemL _ (pt c5 (RState.enc zSt) 54::rowL 0 c2 5 c0.1.ctx::rowL 0 c3 23 d9::g4::rowL 0 c4 3 c0.1.sent::pt d8 (RRecord.enc (mRc i0 i8 d6 i9)) 36::i4.r::rowL 0 d6 23 g2::g8.r::g7.r::pt d7 (RRecord.enc (mRc x0 s1 s3 s7)) 36::Lr):=H
 intro a G
 refine bD E E (aX (vs:=_) qS54 (H.obj (i:=0) E) G E E E E (RState.len _) (RState.one _) (by first | (rw [RState.len,RState.len]; decide) | (rw [RState.len]; decide)) (bE ((RState.len _).trans (RState.len _).symm)) fun w m3=>?_)
 have H:=H.chg m3 (i:=0) rfl
 replace H:MemL _ (pt c5 (RState.enc (mSt c0.1 c2 c3 c4)) 54::rowL 0 c2 5 c0.1.ctx::rowL 0 c3 23 d9::g4::rowL 0 c4 3 c0.1.sent::pt d8 (RRecord.enc (mRc i0 i8 d6 i9)) 36::i4.r::rowL 0 d6 23 g2::g8.r::g7.r::pt d7 (RRecord.enc (mRc x0 s1 s3 s7)) 36::Lr):=H
 refine aA G (aH G E E) E E E fun a G=>?_
 refine aA G (aH G E E) E E E fun a G=>?_
 refine aJ (aB ?_)
 refine aG ?_
 refine aD ?_
 refine aA G (aQ qA36 qS36 G E E (RRecord.len _) (H.cells (i:=5) E (aY (RRecord.len _)))) E E E fun a G=>?_
 refine aA G (aF G E E) E E E fun a G=>?_
 obtain ⟨c6,n5,I⟩:=bind_some I
 refine aN G E E E (aO (xs:=[.tmp 28,.tmp 29]) Tryz.call55 G E E (rY n5 H (fun _ h=>h) (fun w H=>(LRm.toIn j5 _ (H.hold 6 _ E))) (fun w H=>(H.rowS (X:=SV) (i:=7) E)) (k0.mono fun _ _ q=>q.toIn.mono fun w H=>H.hold 8 _ E) (fun w H=>(LRm.toIn j6 _ (H.hold 9 _ E))) (k1.mono fun _ _ q=>q.toIn.mono fun w H=>H.hold 9 _ E)) fun v w hR=>?_)
 obtain ⟨c7,c8,g0,g5,c9,g1,g6,rfl,l7,l8,H⟩:=hR
 intro a G
 refine aA G (aF G E E) E E E fun a G=>?_
 refine aA G (cZ G E E E) E E E fun a G=>?_
 refine aA G (cZ G E E E) E E E fun a G=>?_
 refine aN G E E E (bN z36 (zs:=RRecord.zero.enc) E E fun d1 w t9 l2=>?_)
 have H:=H.plus l2
 replace H:MemL _ (pt d1 (RRecord.enc (zRc)) 36::rowL 0 c7 5 c6.1.in_.ctx::rowL 0 c8 23 g0::g5::rowL 0 c9 60 g1::g6::pt c5 (RState.enc (mSt c0.1 c2 c3 c4)) 54::rowL 0 c2 5 c0.1.ctx::rowL 0 c3 23 d9::g4::rowL 0 c4 3 c0.1.sent::pt d8 (RRecord.enc (mRc i0 i8 d6 i9)) 36::i4.r::rowL 0 d6 23 g2::g8.r::g7.r::pt d7 (RRecord.enc (mRc x0 s1 s3 s7)) 36::Lr):=H
 intro a G
 refine bD E E (aX (vs:=_) qS36 (H.obj (i:=0) E) G E E E E (RRecord.len _) (RRecord.one _) (by first | (rw [RRecord.len,RRecord.len]; decide) | (rw [RRecord.len]; decide)) (bE ((RRecord.len _).trans (RRecord.len _).symm)) fun w m4=>?_)
 have H:=H.chg m4 (i:=0) rfl
 replace H:MemL _ (pt d1 (RRecord.enc (mRc c6.1 c7 c8 c9)) 36::rowL 0 c7 5 c6.1.in_.ctx::rowL 0 c8 23 g0::g5::rowL 0 c9 60 g1::g6::pt c5 (RState.enc (mSt c0.1 c2 c3 c4)) 54::rowL 0 c2 5 c0.1.ctx::rowL 0 c3 23 d9::g4::rowL 0 c4 3 c0.1.sent::pt d8 (RRecord.enc (mRc i0 i8 d6 i9)) 36::i4.r::rowL 0 d6 23 g2::g8.r::g7.r::pt d7 (RRecord.enc (mRc x0 s1 s3 s7)) 36::Lr):=H
 refine aA G (aH G E E) E E E fun a G=>?_
 refine aJ (aB ?_)
 refine aG ?_
 refine aD ?_
 refine aA G (aQ qA36 qS36 G E E (RRecord.len _) (H.cells (i:=16) E (aY (RRecord.len _)))) E E E fun a G=>?_
 refine aA G (aF G E E) E E E fun a G=>?_
 obtain ⟨c1,n6,I⟩:=bind_some I
 refine aN G E E E (aO (xs:=[.tmp 34,.tmp 35]) Tryz.call56 G E E (rN n6 H (Bf:=Bf) (fun w H=>S _ (dropM H 17)) f2 f5 q6 f9 q10) fun v w hR=>?_)
 obtain ⟨d2,d3,g3,g9,d4,rfl,l9,H⟩:=hR
 intro a G
 refine aA G (aF G E E) E E E fun a G=>?_
 refine aA G (cZ G E E E) E E E fun a G=>?_
 refine aA G (cZ G E E E) E E E fun a G=>?_
 refine aA G (cZ G E E E) E E E fun a G=>?_
 refine aN G E E E (bN z54 (zs:=RState.zero.enc) E E fun d0 w p9 k2=>?_)
 have H:=H.plus k2
 replace H:MemL _ (pt d0 (RState.enc zSt) 54::rowL 0 d2 5 c1.1.ctx::rowL 0 d3 23 g3::g9::rowL 0 d4 3 c1.1.sent::pt d1 (RRecord.enc (mRc c6.1 c7 c8 c9)) 36::rowL 0 c7 5 c6.1.in_.ctx::rowL 0 c8 23 g0::g5::rowL 0 c9 60 g1::g6::pt c5 (RState.enc (mSt c0.1 c2 c3 c4)) 54::rowL 0 c2 5 c0.1.ctx::rowL 0 c3 23 d9::g4::rowL 0 c4 3 c0.1.sent::pt d8 (RRecord.enc (mRc i0 i8 d6 i9)) 36::i4.r::rowL 0 d6 23 g2::g8.r::g7.r::pt d7 (RRecord.enc (mRc x0 s1 s3 s7)) 36::Lr):=H
 intro a G
 refine bD E E (aX (vs:=_) qS54 (H.obj (i:=0) E) G E E E E (RState.len _) (RState.one _) (by first | (rw [RState.len,RState.len]; decide) | (rw [RState.len]; decide)) (bE ((RState.len _).trans (RState.len _).symm)) fun w m5=>?_)
 have H:=H.chg m5 (i:=0) rfl
 replace H:MemL _ (pt d0 (RState.enc (mSt c1.1 d2 d3 d4)) 54::rowL 0 d2 5 c1.1.ctx::rowL 0 d3 23 g3::g9::rowL 0 d4 3 c1.1.sent::pt d1 (RRecord.enc (mRc c6.1 c7 c8 c9)) 36::rowL 0 c7 5 c6.1.in_.ctx::rowL 0 c8 23 g0::g5::rowL 0 c9 60 g1::g6::pt c5 (RState.enc (mSt c0.1 c2 c3 c4)) 54::rowL 0 c2 5 c0.1.ctx::rowL 0 c3 23 d9::g4::rowL 0 c4 3 c0.1.sent::pt d8 (RRecord.enc (mRc i0 i8 d6 i9)) 36::i4.r::rowL 0 d6 23 g2::g8.r::g7.r::pt d7 (RRecord.enc (mRc x0 s1 s3 s7)) 36::Lr):=H
 refine aA G (aH G E E) E E E fun a G=>?_
 refine aA G (aH G E E) E E E fun a G=>?_
 refine aJ (aB ?_)
 refine aG ?_
 refine aD ?_
 refine aA G (aQ qA36 qS36 G E E (RRecord.len _) (H.cells (i:=21) E (aY (RRecord.len _)))) E E E fun a G=>?_
 refine aA G (aF G E E) E E E fun a G=>?_
 obtain ⟨j0,n7,I⟩:=bind_some I
 refine aN G E E E (aO (xs:=[.tmp 41,.tmp 42]) Tryz.call57 G E E (rM n7 H (Bf:=Bf) (fun w H=>S _ (dropM H 22)) f2 f5 q6 f9 q10) fun v w hR=>?_)
 obtain ⟨j1,j2,u2,j3,u3,rfl,l3,l4,m0,l5,m1,H⟩:=hR
 intro a G
 refine aA G (aF G E E) E E E fun a G=>?_
 refine aA G (cZ G E E E) E E E fun a G=>?_
 refine aA G (cZ G E E E) E E E fun a G=>?_
 refine aN G E E E (bN z36 (zs:=RRecord.zero.enc) E E fun d5 w t0 k3=>?_)
 have H:=H.plus k3
 replace H:MemL _ (pt d5 (RRecord.enc (zRc)) 36::pt d0 (RState.enc (mSt c1.1 d2 d3 d4)) 54::rowL 0 d2 5 c1.1.ctx::rowL 0 d3 23 g3::g9::rowL 0 d4 3 c1.1.sent::pt d1 (RRecord.enc (mRc c6.1 c7 c8 c9)) 36::rowL 0 c7 5 c6.1.in_.ctx::rowL 0 c8 23 g0::g5::rowL 0 c9 60 g1::g6::pt c5 (RState.enc (mSt c0.1 c2 c3 c4)) 54::rowL 0 c2 5 c0.1.ctx::rowL 0 c3 23 d9::g4::rowL 0 c4 3 c0.1.sent::pt d8 (RRecord.enc (mRc i0 i8 d6 i9)) 36::i4.r::rowL 0 d6 23 g2::g8.r::g7.r::pt d7 (RRecord.enc (mRc x0 s1 s3 s7)) 36::Lr):=H
 intro a G
 refine bD E E (aX (vs:=_) qS36 (H.obj (i:=0) E) G E E E E (RRecord.len _) (RRecord.one _) (by first | (rw [RRecord.len,RRecord.len]; decide) | (rw [RRecord.len]; decide)) (bE ((RRecord.len _).trans (RRecord.len _).symm)) fun w m6=>?_)
 have H:=H.chg m6 (i:=0) rfl
 replace H:MemL _ (pt d5 (RRecord.enc (mRc j0.1 j1 j2 j3)) 36::pt d0 (RState.enc (mSt c1.1 d2 d3 d4)) 54::rowL 0 d2 5 c1.1.ctx::rowL 0 d3 23 g3::g9::rowL 0 d4 3 c1.1.sent::pt d1 (RRecord.enc (mRc c6.1 c7 c8 c9)) 36::rowL 0 c7 5 c6.1.in_.ctx::rowL 0 c8 23 g0::g5::rowL 0 c9 60 g1::g6::pt c5 (RState.enc (mSt c0.1 c2 c3 c4)) 54::rowL 0 c2 5 c0.1.ctx::rowL 0 c3 23 d9::g4::rowL 0 c4 3 c0.1.sent::pt d8 (RRecord.enc (mRc i0 i8 d6 i9)) 36::i4.r::rowL 0 d6 23 g2::g8.r::g7.r::pt d7 (RRecord.enc (mRc x0 s1 s3 s7)) 36::Lr):=H
 refine aA G (aH G E E) E E E fun a G=>?_
 refine aJ (aB ?_)
 refine aG ?_
 refine aG ?_
 refine aV G H I (fun F x a w=>match x with | k4=>Fr 87 [(76,.bool k4),(11,.pointer (some ⟨d0,0,none⟩)),(14,.pointer (some ⟨d5,0,none⟩)),(4,.bool false),(5,.pointer (some ⟨d8,0,none⟩)),(6,.pointer (some ⟨c5,0,none⟩)),(9,.pointer (some ⟨d1,0,none⟩))] a ∧ MemL w (pt d5 (RRecord.enc (mRc j0.1 j1 j2 j3)) 36::pt d0 (RState.enc (mSt c1.1 d2 d3 d4)) 54::pt d1 (RRecord.enc (mRc c6.1 c7 c8 c9)) 36::pt c5 (RState.enc (mSt c0.1 c2 c3 c4)) 54::pt d8 (RRecord.enc (mRc i0 i8 d6 i9)) 36::rowL 0 d2 5 c1.1.ctx::rowL 0 d3 23 g3::g9::rowL 0 d4 3 c1.1.sent::rowL 0 c7 5 c6.1.in_.ctx::rowL 0 c8 23 g0::g5::rowL 0 c9 60 g1::g6::rowL 0 c2 5 c0.1.ctx::rowL 0 c3 23 d9::g4::rowL 0 c4 3 c0.1.sent::i4.r::rowL 0 d6 23 g2::g8.r::g7.r::Lr)) (fun u4 I u0 G H=>?_) ?_
 ·refine aD ?_
  refine aA G (aF G E E) E E E fun a G=>?_
  refine aA G (aF G E E) E E E fun a G=>?_
  refine aA G (dD G E E E) E E E fun a G=>?_
  refine aA G (aF G E E) E E E fun a G=>?_
  refine bG 49 G E (fun i5=>?_) (fun i5=>?_)
  ·have I:=Fx.cT i5 I
   refine aE G E E E i5 E E fun a G=>?_
   refine aE G E E E i5 E E fun a G=>?_
   refine aE G E E E i5 E E fun a G=>?_
   refine aA G (aP G E E i5 E) E E E fun a G=>?_
   refine aA G (aF G E E) E E E fun a G=>?_
   refine aE G E E E E E E fun a G=>?_
   refine aE G E E E E E E fun a G=>?_
   refine aE G E E E E E E fun a G=>?_
   refine aA G (aP G E E E E) E E E fun a G=>?_
   refine aA G (aF G E E) E E E fun a G=>?_
   refine aE G E E E E E E fun a G=>?_
   refine aE G E E E E E E fun a G=>?_
   refine aE G E E E E E E fun a G=>?_
   refine aE G E E E E E E fun a G=>?_
   refine aA G (aP G E E E E) E E E fun a G=>?_
   refine aA G (aF G E E) E E E fun a G=>?_
   refine aE G E E E E E E fun a G=>?_
   refine aE G E E E E E E fun a G=>?_
   refine aE G E E E E E E fun a G=>?_
   refine aE G E E E E E E fun a G=>?_
   refine aA G (aP G E E E E) E E E fun a G=>?_
   refine aA G (aF G E E) E E E fun a G=>?_
   refine aE G E E E E E E fun a G=>?_
   refine aE G E E E E E E fun a G=>?_
   refine aE G E E E E E E fun a G=>?_
   refine aE G E E E E E E fun a G=>?_
   refine aA G (aP G E E E E) E E E fun a G=>?_
   refine aJ (aB ?_)
   have I:=oI I
   subst I
   exact ⟨true,E,G.to ⟨E,E,E,E,E,E,E,trivial⟩,selM H [0,1,6,12,17,2,3,4,5,7,8,9,10,11,13,14,15,16,18,19,20,21] 23 E⟩
  have I:=Fx.cF i5 I
  refine aL G E E E i5 (aF G E E) E E fun a G=>?_
  refine aL G E E E i5 (aF G E E) E E fun a G=>?_
  refine aL G E E E i5 (dD G E E E) E E fun a G=>?_
  refine aA G (aZ G E E i5 E) E E E fun a G=>?_
  refine aA G (aF G E E) E E E fun a G=>?_
  refine bG 54 G E (fun i6=>?_) (fun i6=>?_)
  ·have I:=Fx.cT i6 I
   refine aE G E E E i6 E E fun a G=>?_
   refine aE G E E E i6 E E fun a G=>?_
   refine aE G E E E i6 E E fun a G=>?_
   refine aA G (aP G E E i6 E) E E E fun a G=>?_
   refine aA G (aF G E E) E E E fun a G=>?_
   refine aE G E E E E E E fun a G=>?_
   refine aE G E E E E E E fun a G=>?_
   refine aE G E E E E E E fun a G=>?_
   refine aE G E E E E E E fun a G=>?_
   refine aA G (aP G E E E E) E E E fun a G=>?_
   refine aA G (aF G E E) E E E fun a G=>?_
   refine aE G E E E E E E fun a G=>?_
   refine aE G E E E E E E fun a G=>?_
   refine aE G E E E E E E fun a G=>?_
   refine aE G E E E E E E fun a G=>?_
   refine aA G (aP G E E E E) E E E fun a G=>?_
   refine aA G (aF G E E) E E E fun a G=>?_
   refine aE G E E E E E E fun a G=>?_
   refine aE G E E E E E E fun a G=>?_
   refine aE G E E E E E E fun a G=>?_
   refine aE G E E E E E E fun a G=>?_
   refine aA G (aP G E E E E) E E E fun a G=>?_
   refine aJ (aB ?_)
   have I:=oI I
   subst I
   exact ⟨true,E,G.to ⟨E,E,E,E,E,E,E,trivial⟩,selM H [0,1,6,12,17,2,3,4,5,7,8,9,10,11,13,14,15,16,18,19,20,21] 23 E⟩
  have I:=Fx.cF i6 I
  refine aL G E E E i6 (aF G E E) E E fun a G=>?_
  refine aL G E E E i6 (aF G E E) E E fun a G=>?_
  refine aL G E E E i6 (dD G E E E) E E fun a G=>?_
  refine aA G (aZ G E E i6 E) E E E fun a G=>?_
  refine aA G (aF G E E) E E E fun a G=>?_
  refine bG 59 G E (fun i1=>?_) (fun i1=>?_)
  ·have I:=Fx.cT i1 I
   refine aE G E E E i1 E E fun a G=>?_
   refine aE G E E E i1 E E fun a G=>?_
   refine aE G E E E i1 E E fun a G=>?_
   refine aE G E E E i1 E E fun a G=>?_
   refine aA G (aP G E E i1 E) E E E fun a G=>?_
   refine aA G (aF G E E) E E E fun a G=>?_
   refine aE G E E E E E E fun a G=>?_
   refine aE G E E E E E E fun a G=>?_
   refine aE G E E E E E E fun a G=>?_
   refine aE G E E E E E E fun a G=>?_
   refine aA G (aP G E E E E) E E E fun a G=>?_
   refine aA G (aF G E E) E E E fun a G=>?_
   refine aE G E E E E E E fun a G=>?_
   refine aE G E E E E E E fun a G=>?_
   refine aE G E E E E E E fun a G=>?_
   refine aE G E E E E E E fun a G=>?_
   refine aA G (aP G E E E E) E E E fun a G=>?_
   refine aJ (aB ?_)
   have I:=oI I
   subst I
   exact ⟨true,E,G.to ⟨E,E,E,E,E,E,E,trivial⟩,selM H [0,1,6,12,17,2,3,4,5,7,8,9,10,11,13,14,15,16,18,19,20,21] 23 E⟩
  have I:=Fx.cF i1 I
  refine aL G E E E i1 (aQ qA54 qS54 G E E (RState.len _) (H.cells (i:=12) E (aY (RState.len _)))) E E fun a G=>?_
  refine aL G E E E i1 (aQ qA54 qS54 G E E (RState.len _) (H.cells (i:=1) E (aY (RState.len _)))) E E fun a G=>?_
  obtain ⟨u7,n8,I⟩:=bind_some I
  refine dV G E E E i1 E E (aO (xs:=[.tmp 60,.tmp 61]) Tryz.call34 G E E (eJ n8 H (fun _ h=>h) (fun w H=>(H.rowS (X:=UInt8) (i:=13) E)) (fun w H=>(H.rowS (X:=SV) (i:=14) E)) (l6.mono fun _ _ q=>q.mono fun w H=>H.hold 15 _ E) (fun w H=>(H.rowS (X:=Int) (i:=16) E)) (fun w H=>(H.rowS (X:=UInt8) (i:=2) E)) (fun w H=>(H.rowS (X:=SV) (i:=3) E)) (l9.mono fun _ _ q=>q.mono fun w H=>H.hold 4 _ E) (fun w H=>(H.rowS (X:=Int) (i:=5) E))) fun v w hR=>?_)
  obtain ⟨rfl,H⟩:=hR
  replace H:MemL _ (pt d5 (RRecord.enc (mRc j0.1 j1 j2 j3)) 36::pt d0 (RState.enc (mSt c1.1 d2 d3 d4)) 54::rowL 0 d2 5 c1.1.ctx::rowL 0 d3 23 g3::g9::rowL 0 d4 3 c1.1.sent::pt d1 (RRecord.enc (mRc c6.1 c7 c8 c9)) 36::rowL 0 c7 5 c6.1.in_.ctx::rowL 0 c8 23 g0::g5::rowL 0 c9 60 g1::g6::pt c5 (RState.enc (mSt c0.1 c2 c3 c4)) 54::rowL 0 c2 5 c0.1.ctx::rowL 0 c3 23 d9::g4::rowL 0 c4 3 c0.1.sent::pt d8 (RRecord.enc (mRc i0 i8 d6 i9)) 36::i4.r::rowL 0 d6 23 g2::g8.r::g7.r::pt d7 (RRecord.enc (mRc x0 s1 s3 s7)) 36::Lr):=H
  intro a G
  refine aL G E E E i1 (dF G E E) E E fun a G=>?_
  refine aA G (aZ G E E i1 E) E E E fun a G=>?_
  refine aA G (aF G E E) E E E fun a G=>?_
  refine bG 65 G E (fun i2=>?_) (fun i2=>?_)
  ·have I:=Fx.cT i2 I
   refine aE G E E E i2 E E fun a G=>?_
   refine aE G E E E i2 E E fun a G=>?_
   refine aE G E E E i2 E E fun a G=>?_
   refine aE G E E E i2 E E fun a G=>?_
   refine aA G (aP G E E i2 E) E E E fun a G=>?_
   refine aA G (aF G E E) E E E fun a G=>?_
   refine aE G E E E E E E fun a G=>?_
   refine aE G E E E E E E fun a G=>?_
   refine aE G E E E E E E fun a G=>?_
   refine aE G E E E E E E fun a G=>?_
   refine aA G (aP G E E E E) E E E fun a G=>?_
   refine aJ (aB ?_)
   have I:=oI I
   subst I
   exact ⟨true,E,G.to ⟨E,E,E,E,E,E,E,trivial⟩,selM H [0,1,6,12,17,2,3,4,5,7,8,9,10,11,13,14,15,16,18,19,20,21] 23 E⟩
  have I:=Fx.cF i2 I
  refine aL G E E E i2 (aQ qA36 qS36 G E E (RRecord.len _) (H.cells (i:=6) E (aY (RRecord.len _)))) E E fun a G=>?_
  refine aL G E E E i2 (aQ qA36 qS36 G E E (RRecord.len _) (H.cells (i:=0) E (aY (RRecord.len _)))) E E fun a G=>?_
  obtain ⟨u8,n9,I⟩:=bind_some I
  refine dV G E E E i2 E E (aO (xs:=[.tmp 66,.tmp 67]) Tryz.call27 G E E (eY n9 H (fun _ h=>h) (fun w H=>(H.rowS (X:=UInt8) (i:=7) E)) (fun w H=>(H.rowS (X:=SV) (i:=8) E)) (l7.mono fun _ _ q=>q.mono fun w H=>H.hold 9 _ E) (fun w H=>(H.rowS (X:=RMark) (i:=10) E)) (l8.mono fun _ _ q=>q.mono fun w H=>H.hold 11 _ E) (fun w H=>(l3 _ (S _ (dropM H 23)))) (fun w H=>(l4 _ (S _ (dropM H 23)))) (m0.mono fun _ _ q=>q.mono fun w H=>S _ (dropM H 23)) (fun w H=>(l5 _ (S _ (dropM H 23)))) (m1.mono fun _ _ q=>q.mono fun w H=>S _ (dropM H 23))) fun v w hR=>?_)
  obtain ⟨rfl,H⟩:=hR
  replace H:MemL _ (pt d5 (RRecord.enc (mRc j0.1 j1 j2 j3)) 36::pt d0 (RState.enc (mSt c1.1 d2 d3 d4)) 54::rowL 0 d2 5 c1.1.ctx::rowL 0 d3 23 g3::g9::rowL 0 d4 3 c1.1.sent::pt d1 (RRecord.enc (mRc c6.1 c7 c8 c9)) 36::rowL 0 c7 5 c6.1.in_.ctx::rowL 0 c8 23 g0::g5::rowL 0 c9 60 g1::g6::pt c5 (RState.enc (mSt c0.1 c2 c3 c4)) 54::rowL 0 c2 5 c0.1.ctx::rowL 0 c3 23 d9::g4::rowL 0 c4 3 c0.1.sent::pt d8 (RRecord.enc (mRc i0 i8 d6 i9)) 36::i4.r::rowL 0 d6 23 g2::g8.r::g7.r::pt d7 (RRecord.enc (mRc x0 s1 s3 s7)) 36::Lr):=H
  intro a G
  refine aL G E E E i2 (dF G E E) E E fun a G=>?_
  refine aA G (aZ G E E i2 E) E E E fun a G=>?_
  refine aA G (aF G E E) E E E fun a G=>?_
  refine bG 71 G E (fun i3=>?_) (fun i3=>?_)
  ·have I:=Fx.cT i3 I
   refine aE G E E E i3 E E fun a G=>?_
   refine aE G E E E i3 E E fun a G=>?_
   refine aE G E E E i3 E E fun a G=>?_
   refine aE G E E E i3 E E fun a G=>?_
   refine aA G (aP G E E i3 E) E E E fun a G=>?_
   refine aJ (aB ?_)
   have I:=oI I
   subst I
   exact ⟨true,E,G.to ⟨E,E,E,E,E,E,E,trivial⟩,selM H [0,1,6,12,17,2,3,4,5,7,8,9,10,11,13,14,15,16,18,19,20,21] 23 E⟩
  have I:=Fx.cF i3 I
  refine aL G E E E i3 (aQ qA36 qS36 G E E (RRecord.len _) (H.cells (i:=17) E (aY (RRecord.len _)))) E E fun a G=>?_
  refine aL G E E E i3 (aQ qA36 qS36 G E E (RRecord.len _) (H.cells (i:=22) E (aY (RRecord.len _)))) E E fun a G=>?_
  obtain ⟨t4,p0,I⟩:=bind_some I
  refine dV G E E E i3 E E (aO (xs:=[.tmp 72,.tmp 73]) Tryz.call38 G E E (vQ p0 H (fun _ h=>h) (LRm.mono j5 fun w H=>H.hold 18 _ E) (fun w H=>(H.rowS (X:=SV) (i:=19) E)) (k0.mono fun _ _ q=>q.mono fun w H=>H.hold 20 _ E) (LRm.mono j6 fun w H=>H.hold 21 _ E) (k1.mono fun _ _ q=>q.mono fun w H=>H.hold 21 _ E) (fun w H=>(f2 _ (S _ (dropM H 23)))) (fun w H=>(f5 _ (S _ (dropM H 23)))) (q6.mono fun _ _ q=>q.mono fun w H=>S _ (dropM H 23)) (fun w H=>(f9 _ (S _ (dropM H 23)))) (q10.mono fun _ _ q=>q.mono fun w H=>S _ (dropM H 23))) fun v w hR=>?_)
  obtain ⟨rfl,H⟩:=hR
  replace H:MemL _ (pt d5 (RRecord.enc (mRc j0.1 j1 j2 j3)) 36::pt d0 (RState.enc (mSt c1.1 d2 d3 d4)) 54::rowL 0 d2 5 c1.1.ctx::rowL 0 d3 23 g3::g9::rowL 0 d4 3 c1.1.sent::pt d1 (RRecord.enc (mRc c6.1 c7 c8 c9)) 36::rowL 0 c7 5 c6.1.in_.ctx::rowL 0 c8 23 g0::g5::rowL 0 c9 60 g1::g6::pt c5 (RState.enc (mSt c0.1 c2 c3 c4)) 54::rowL 0 c2 5 c0.1.ctx::rowL 0 c3 23 d9::g4::rowL 0 c4 3 c0.1.sent::pt d8 (RRecord.enc (mRc i0 i8 d6 i9)) 36::i4.r::rowL 0 d6 23 g2::g8.r::g7.r::pt d7 (RRecord.enc (mRc x0 s1 s3 s7)) 36::Lr):=H
  intro a G
  refine aL G E E E i3 (dF G E E) E E fun a G=>?_
  refine aA G (aZ G E E i3 E) E E E fun a G=>?_
  refine aJ (aB ?_)
  have I:=oI I
  subst I
  exact ⟨(!t4),E,G.to ⟨E,E,E,E,E,E,E,trivial⟩,selM H [0,1,6,12,17,2,3,4,5,7,8,9,10,11,13,14,15,16,18,19,20,21] 23 E⟩
 rintro k4 a w I ⟨G,H⟩
 replace I:Sh.lR i0 c0 c6 c1 j0 k4 = _:=I
 unfold Sh.lR at I
 refine aB ?_
 refine aT G (c:=.tmp 76) E (fun j8=>?_) (fun j8=>?_)
 ·have I:=Fx.cT j8 I
  refine aG ?_
  refine aD ?_
  refine aA G (aH G E E) E E E fun a G=>?_
  refine aJ (aB ?_)
  refine c_ret ?_
  have I:=oI I
  subst I
  refine bJ Tryz.results16 G E ?_
  exact ⟨E,selM H [] 22 E⟩
 have I:=Fx.cF j8 I
 refine aW (aB ?_)
 refine aG ?_
 refine aD ?_
 refine aA G (aQ qA36 qS36 G E E (RRecord.len _) (H.cells (i:=4) E (aY (RRecord.len _)))) E E E fun a G=>?_
 have H:=selM H [0,1,2,3,5,6,7,8,9,10,11,12,13,14,15,16,17,18,19,20,21] 22 rfl
 replace H:MemL _ (pt d5 (RRecord.enc (mRc j0.1 j1 j2 j3)) 36::pt d0 (RState.enc (mSt c1.1 d2 d3 d4)) 54::pt d1 (RRecord.enc (mRc c6.1 c7 c8 c9)) 36::pt c5 (RState.enc (mSt c0.1 c2 c3 c4)) 54::rowL 0 d2 5 c1.1.ctx::rowL 0 d3 23 g3::g9::rowL 0 d4 3 c1.1.sent::rowL 0 c7 5 c6.1.in_.ctx::rowL 0 c8 23 g0::g5::rowL 0 c9 60 g1::g6::rowL 0 c2 5 c0.1.ctx::rowL 0 c3 23 d9::g4::rowL 0 c4 3 c0.1.sent::i4.r::rowL 0 d6 23 g2::g8.r::g7.r::Lr):=H
 obtain ⟨t1,m8,H⟩:=oneS (selM H [17,0,1,2,3,4,5,6,7,8,9,10,11,12,13,14,15,16,18,19,20] 21 rfl)
 replace H:MemL _ (t1.r::pt d5 (RRecord.enc (mRc j0.1 j1 j2 j3)) 36::pt d0 (RState.enc (mSt c1.1 d2 d3 d4)) 54::pt d1 (RRecord.enc (mRc c6.1 c7 c8 c9)) 36::pt c5 (RState.enc (mSt c0.1 c2 c3 c4)) 54::rowL 0 d2 5 c1.1.ctx::rowL 0 d3 23 g3::g9::rowL 0 d4 3 c1.1.sent::rowL 0 c7 5 c6.1.in_.ctx::rowL 0 c8 23 g0::g5::rowL 0 c9 60 g1::g6::rowL 0 c2 5 c0.1.ctx::rowL 0 c3 23 d9::g4::rowL 0 c4 3 c0.1.sent::rowL 0 d6 23 g2::g8.r::g7.r::Lr):=H
 obtain ⟨t2,m9,n0,H⟩:=joinS (selM H [0,18,1,2,3,4,5,6,7,8,9,10,11,12,13,14,15,16,17,19,20] 21 rfl)
 replace H:MemL _ (t2.r::pt d5 (RRecord.enc (mRc j0.1 j1 j2 j3)) 36::pt d0 (RState.enc (mSt c1.1 d2 d3 d4)) 54::pt d1 (RRecord.enc (mRc c6.1 c7 c8 c9)) 36::pt c5 (RState.enc (mSt c0.1 c2 c3 c4)) 54::rowL 0 d2 5 c1.1.ctx::rowL 0 d3 23 g3::g9::rowL 0 d4 3 c1.1.sent::rowL 0 c7 5 c6.1.in_.ctx::rowL 0 c8 23 g0::g5::rowL 0 c9 60 g1::g6::rowL 0 c2 5 c0.1.ctx::rowL 0 c3 23 d9::g4::rowL 0 c4 3 c0.1.sent::g8.r::g7.r::Lr):=H
 obtain ⟨t3,k6,n1,H⟩:=joinS (selM H [0,18,1,2,3,4,5,6,7,8,9,10,11,12,13,14,15,16,17,19] 20 rfl)
 replace H:MemL _ (t3.r::pt d5 (RRecord.enc (mRc j0.1 j1 j2 j3)) 36::pt d0 (RState.enc (mSt c1.1 d2 d3 d4)) 54::pt d1 (RRecord.enc (mRc c6.1 c7 c8 c9)) 36::pt c5 (RState.enc (mSt c0.1 c2 c3 c4)) 54::rowL 0 d2 5 c1.1.ctx::rowL 0 d3 23 g3::g9::rowL 0 d4 3 c1.1.sent::rowL 0 c7 5 c6.1.in_.ctx::rowL 0 c8 23 g0::g5::rowL 0 c9 60 g1::g6::rowL 0 c2 5 c0.1.ctx::rowL 0 c3 23 d9::g4::rowL 0 c4 3 c0.1.sent::g7.r::Lr):=H
 obtain ⟨j4,j9,k7,H⟩:=joinS (selM H [0,18,1,2,3,4,5,6,7,8,9,10,11,12,13,14,15,16,17] 19 rfl)
 replace H:MemL _ (j4.r::pt d5 (RRecord.enc (mRc j0.1 j1 j2 j3)) 36::pt d0 (RState.enc (mSt c1.1 d2 d3 d4)) 54::pt d1 (RRecord.enc (mRc c6.1 c7 c8 c9)) 36::pt c5 (RState.enc (mSt c0.1 c2 c3 c4)) 54::rowL 0 d2 5 c1.1.ctx::rowL 0 d3 23 g3::g9::rowL 0 d4 3 c1.1.sent::rowL 0 c7 5 c6.1.in_.ctx::rowL 0 c8 23 g0::g5::rowL 0 c9 60 g1::g6::rowL 0 c2 5 c0.1.ctx::rowL 0 c3 23 d9::g4::rowL 0 c4 3 c0.1.sent::Lr):=H
 have p4:LIn (X:=UInt8) j4.r.holds' i8 i0.in_.ctx:=(LRm.toIn (LRm.mono j5 (fun w h=>(fun w h=>(fun w h=>m8 w (m9 w h)) w (k6 w h)) w (j9 w h))))
 have p5:LIn (X:=SV) j4.r.holds' d6 g2:=(fun w h=>dL (X:=SV) (e:=23) ((fun w h=>(fun w h=>n0 w (k6 w h)) w (j9 w h)) w h))
 have p6:Each (LIn (X:=UInt8) j4.r.holds') g2 i0.in_.tables:=(k0.mono fun _ _ q=>q.toIn.mono (fun w h=>n1 w (j9 w h)))
 have p7:LIn (X:=RMark) j4.r.holds' i9 k8:=(LRm.toIn (LRm.mono j6 k7))
 have p8:Each (QMarkIn j4.r.holds') k8 i0.marks:=(k1.mono fun _ _ q=>q.toIn.mono k7)
 obtain ⟨u9,p1,I⟩:=bind_some I
 have m7:=qJ (SP:=j4) p1 (selM H [0,1,2,3,4,5,6,7,8,9,10,11,12,13,14,15,16,17] 18 rfl) p4 p5 p6 p7 p8
 refine aN G E E E (aO (xs:=[.tmp 77]) Tryz.call58 G E E m7 fun v w hR=>?_)
 obtain ⟨rfl,H⟩:=hR
 replace H:MemL _ (pt d5 (RRecord.enc (mRc j0.1 j1 j2 j3)) 36::pt d0 (RState.enc (mSt c1.1 d2 d3 d4)) 54::pt d1 (RRecord.enc (mRc c6.1 c7 c8 c9)) 36::pt c5 (RState.enc (mSt c0.1 c2 c3 c4)) 54::rowL 0 d2 5 c1.1.ctx::rowL 0 d3 23 g3::g9::rowL 0 d4 3 c1.1.sent::rowL 0 c7 5 c6.1.in_.ctx::rowL 0 c8 23 g0::g5::rowL 0 c9 60 g1::g6::rowL 0 c2 5 c0.1.ctx::rowL 0 c3 23 d9::g4::rowL 0 c4 3 c0.1.sent::Lr):=H
 intro a G
 refine aJ (aB ?_)
 refine aG ?_
 refine aV G H I (fun F x a w=>match x with | k5=>Fr 87 [(4,.bool k5)] a ∧ MemL w (rowL 0 d2 5 c1.1.ctx::rowL 0 d3 23 g3::g9::rowL 0 d4 3 c1.1.sent::rowL 0 c7 5 c6.1.in_.ctx::rowL 0 c8 23 g0::g5::rowL 0 c9 60 g1::g6::rowL 0 c2 5 c0.1.ctx::rowL 0 c3 23 d9::g4::rowL 0 c4 3 c0.1.sent::Lr)) (fun u5 I u1 G H=>?_) ?_
 ·refine aD ?_
  refine aA G (aQ qA54 qS54 G E E (RState.len _) (H.cells (i:=3) E (aY (RState.len _)))) E E E fun a G=>?_
  refine aA G (aQ qA54 qS54 G E E (RState.len _) (H.cells (i:=1) E (aY (RState.len _)))) E E E fun a G=>?_
  obtain ⟨z0,p2,I⟩:=bind_some I
  refine aN G E E E (aO (xs:=[.tmp 79,.tmp 80]) Tryz.call34 G E E (eJ p2 H (fun _ h=>h) (fun w H=>(H.rowS (X:=UInt8) (i:=13) E)) (fun w H=>(H.rowS (X:=SV) (i:=14) E)) (l6.mono fun _ _ q=>q.mono fun w H=>H.hold 15 _ E) (fun w H=>(H.rowS (X:=Int) (i:=16) E)) (fun w H=>(H.rowS (X:=UInt8) (i:=4) E)) (fun w H=>(H.rowS (X:=SV) (i:=5) E)) (l9.mono fun _ _ q=>q.mono fun w H=>H.hold 6 _ E) (fun w H=>(H.rowS (X:=Int) (i:=7) E))) fun v w hR=>?_)
  obtain ⟨rfl,H⟩:=hR
  replace H:MemL _ (pt d5 (RRecord.enc (mRc j0.1 j1 j2 j3)) 36::pt d0 (RState.enc (mSt c1.1 d2 d3 d4)) 54::pt d1 (RRecord.enc (mRc c6.1 c7 c8 c9)) 36::pt c5 (RState.enc (mSt c0.1 c2 c3 c4)) 54::rowL 0 d2 5 c1.1.ctx::rowL 0 d3 23 g3::g9::rowL 0 d4 3 c1.1.sent::rowL 0 c7 5 c6.1.in_.ctx::rowL 0 c8 23 g0::g5::rowL 0 c9 60 g1::g6::rowL 0 c2 5 c0.1.ctx::rowL 0 c3 23 d9::g4::rowL 0 c4 3 c0.1.sent::Lr):=H
  intro a G
  refine aA G (aF G E E) E E E fun a G=>?_
  refine bG 82 G E (fun i7=>?_) (fun i7=>?_)
  ·have I:=Fx.cT i7 I
   refine aL G E E E i7 (aQ qA36 qS36 G E E (RRecord.len _) (H.cells (i:=2) E (aY (RRecord.len _)))) E E fun a G=>?_
   refine aL G E E E i7 (aQ qA36 qS36 G E E (RRecord.len _) (H.cells (i:=0) E (aY (RRecord.len _)))) E E fun a G=>?_
   obtain ⟨t5,p3,I⟩:=bind_some I
   refine dV G E E E i7 E E (aO (xs:=[.tmp 83,.tmp 84]) Tryz.call27 G E E (eY p3 H (fun _ h=>h) (fun w H=>(H.rowS (X:=UInt8) (i:=8) E)) (fun w H=>(H.rowS (X:=SV) (i:=9) E)) (l7.mono fun _ _ q=>q.mono fun w H=>H.hold 10 _ E) (fun w H=>(H.rowS (X:=RMark) (i:=11) E)) (l8.mono fun _ _ q=>q.mono fun w H=>H.hold 12 _ E) (fun w H=>(l3 _ (S _ (dropM H 17)))) (fun w H=>(l4 _ (S _ (dropM H 17)))) (m0.mono fun _ _ q=>q.mono fun w H=>S _ (dropM H 17)) (fun w H=>(l5 _ (S _ (dropM H 17)))) (m1.mono fun _ _ q=>q.mono fun w H=>S _ (dropM H 17))) fun v w hR=>?_)
   obtain ⟨rfl,H⟩:=hR
   replace H:MemL _ (pt d5 (RRecord.enc (mRc j0.1 j1 j2 j3)) 36::pt d0 (RState.enc (mSt c1.1 d2 d3 d4)) 54::pt d1 (RRecord.enc (mRc c6.1 c7 c8 c9)) 36::pt c5 (RState.enc (mSt c0.1 c2 c3 c4)) 54::rowL 0 d2 5 c1.1.ctx::rowL 0 d3 23 g3::g9::rowL 0 d4 3 c1.1.sent::rowL 0 c7 5 c6.1.in_.ctx::rowL 0 c8 23 g0::g5::rowL 0 c9 60 g1::g6::rowL 0 c2 5 c0.1.ctx::rowL 0 c3 23 d9::g4::rowL 0 c4 3 c0.1.sent::Lr):=H
   intro a G
   refine aA G (aP G E E i7 E) E E E fun a G=>?_
   refine aA G (aH G E E) E E E fun a G=>?_
   refine aJ (aB ?_)
   have I:=oI I
   subst I
   exact ⟨t5,E,G.to ⟨E,trivial⟩,selM H [4,5,6,7,8,9,10,11,12,13,14,15,16] 17 E⟩
  have I:=Fx.cF i7 I
  refine aE G E E E i7 E E fun a G=>?_
  refine aE G E E E i7 E E fun a G=>?_
  refine aE G E E E i7 E E fun a G=>?_
  refine aA G (aZ G E E i7 E) E E E fun a G=>?_
  refine aA G (aH G E E) E E E fun a G=>?_
  refine aJ (aB ?_)
  have I:=oI I
  subst I
  exact ⟨false,E,G.to ⟨E,trivial⟩,selM H [4,5,6,7,8,9,10,11,12,13,14,15,16] 17 E⟩
 rintro k5 a w I ⟨G,H⟩
 replace I:Sh.lS k5 = _:=I
 unfold Sh.lS at I
 refine aB ?_
 refine c_ret ?_
 have I:=oI I
 subst I
 refine bJ Tryz.results16 G E ?_
 exact ⟨E,selM H [] 13 E⟩
end Go.Proofs
end
