/- Ground for this claim: The call of TracePlays returns true. Condition: the arguments are of bulk at most 1048576. -/
import Derived.Test.YtmgnkohlfbjjnaaGreatRPl6
set_option linter.unusedVariables false
set_option linter.unusedSimpArgs false
section
namespace Go.Proofs
open Go.Fw Go.Fx
set_option maxRecDepth 10000
set_option maxHeartbeats 4000000 in
theorem jA {x0:List UInt8} {s1:SV} {out:List UInt8} {w0:World} {Bf:World → Prop} {Lr:List Res} (I:Sh.pP x0 = some out) (H:MemL w0 (Lr)) (S:∀ w,MemL w Lr → Bf w) (f2:LIn Bf s1 x0):Calls Tryz.prog 90 #[(s1).v] w0 (Ret fun v w'=>∃ (s11:SV) (r13:SRes),v = (s11).v ∧ LRm r13.r.holds' s11 out spU8 ∧ MemL w' (r13.r::Lr)):=by
 unfold Sh.pP at I
 refine aR (vs:=[(s1).v]) Tryz.func90 E Tryz.ntmps90 E fun a G=>?_
 refine aG ?_
 refine aD ?_
 refine aA G (aH G E E) E E E fun a G=>?_
 refine aJ (aB ?_)
 refine aG ?_
 refine aD ?_
 refine aA G (aF G E E) E E E fun a G=>?_
 obtain ⟨y16,hy16,I⟩:=bind_some I
 refine aN G E E E (aO (xs:=[.tmp 3]) Tryz.call50 G E E (dY hy16 H (Bf:=Bf) (fun w H=>S _ (dropM H 0)) f2) fun v w hR=>?_)
 obtain ⟨s17,rfl,H⟩:=hR
 intro a G
 refine aN G E E E (eX (X:=UInt8) (ys:=[161,162]) (m:=2) qU23 in5 E E E E (by decide) (by decide) G E E (PartsE.cons E (PartsE.cons E PartsE.nil)) fun c0 w c2 c1=>?_)
 have H:=H.plus c1
 replace H:MemL _ (pt c0 (encs ([161,162]:List UInt8)) 5::rowL 0 s17 5 y16::Lr):=H
 intro a G
 obtain ⟨x20,hx20,I⟩:=bind_some I
 refine aN G E E E (dC (X:=UInt8) hx20 qU23 in5 E E E E G E E E (H.own (X:=UInt8) (i:=1) E) (H.ptS (X:=UInt8) (i:=0) (n:=2) (c:=2) E E E (Nat.le_refl _)) fun s19 w hUs19=>?_)
 have H:=H.chg hUs19 (i:=1) rfl
 have hQs19:=H.rowS (X:=UInt8) (i:=1) rfl
 replace H:MemL _ (pt c0 (encs ([161,162]:List UInt8)) 5::rowL 0 s19 5 x20::Lr):=H
 intro a G
 refine aA G (aF G E E) E E E fun a G=>?_
 refine aA G (bQ (f2 _ (S _ (dropM H 2))) qU23 G E E) E E E fun a G=>?_
 obtain ⟨x21,hx21,I⟩:=bind_some I
 have f22:LRm (rowL 0 s19 5 x20).holds' (s19.cut (0:Int).toNat ((x0.length:Int):Int).toNat 1) x21 spU8:=lO hx21 rfl
 refine aA G (eL hQs19 (lP hx21) qU23 in5 E G E E (.inl ⟨E,E⟩) (.inr ⟨_,_,E,E⟩)) E E E fun a G=>?_
 refine aA G (aH G E E) E E E fun a G=>?_
 refine aJ (aB ?_)
 refine c_ret ?_
 replace H:MemL _ (pt c0 (encs ([161,162]:List UInt8)) 5::rowL 0 s19 5 x20::Lr):=H
 obtain ⟨r23,hj24,H⟩:=oneS (selM H [1,0] 2 rfl)
 replace H:MemL _ (r23.r::pt c0 (encs ([161,162]:List UInt8)) 5::Lr):=H
 have f25:LRm r23.r.holds' (s19.cut (0:Int).toNat ((x0.length:Int):Int).toNat 1) x21 spU8:=LRm.mono f22 hj24
 have I:=oI I
 subst I
 refine bJ Tryz.results90 G E ?_
 exact ⟨(s19.cut (0:Int).toNat ((x0.length:Int):Int).toNat 1),r23,E,f25,selM H [0] 2 E⟩
set_option maxHeartbeats 4000000 in
theorem qT {x0:QMark} {s1:SV} {s3:SV} {s5:SV} {hs6:List RPiece} {s9:SV} {out:QMark} {w0:World} {Bf:World → Prop} {Lr:List Res} (I:Sh.oN x0 = some out) (H:MemL w0 (Lr)) (S:∀ w,MemL w Lr → Bf w) (f2:LIn Bf s1 x0.regs) (f4:LIn Bf s3 x0.slots) (f7:LIn Bf s5 hs6) (q8:Each (QPieceIn Bf) hs6 x0.pieces) (f10:LIn Bf s9 x0.sent):Calls Tryz.prog 59 #[.agg (RMark.enc (mMk x0 s1 s3 s5 s9)).toArray] w0 (Ret fun v w'=>∃ (c60:SV) (c57:SRes) (c61:SV) (c58:SRes) (c62:SV) (c20:List RPiece) (c15:SRes) (c63:SV) (c59:SRes),v = .agg (RMark.enc (mMk out c60 c61 c62 c63)).toArray ∧ LRm c57.r.holds' c60 out.regs spTurn ∧ LRm c58.r.holds' c61 out.slots spCell ∧ LRm c15.r.holds' c62 c20 hspPiece ∧ Each (QPieceRm c15.r.holds') c20 out.pieces ∧ LRm c59.r.holds' c63 out.sent spInt ∧ MemL w' (c57.r::c58.r::c15.r::c59.r::Lr)):=by
 unfold Sh.oN at I
 refine aR (vs:=[.agg (RMark.enc (mMk x0 s1 s3 s5 s9)).toArray]) Tryz.func59 E Tryz.ntmps59 E fun a G=>?_
 refine aG ?_
 refine aD ?_
 refine aN G E E E (dA G E E E fun c0 w c85 c26=>?_)
 have H:=H.plus c26
 intro a G
 refine aN G E E E (bN z60 (zs:=RMark.zero.enc) E E fun c1 w c86 c27=>?_)
 have H:=H.plus c27
 intro a G
 refine aJ (aB ?_)
 refine aG ?_
 refine aD ?_
 refine aA G (aQ qA60 qS60 G E E (RMark.len _) (H.cells (i:=1) E (aY (RMark.len _)))) E E E fun a G=>?_
 refine aN G E E E (bN z60 (zs:=RMark.zero.enc) E E fun c2 w c87 c28=>?_)
 have H:=H.plus c28
 replace H:MemL _ (pt c2 (RMark.enc zMk) 60::pt c1 (RMark.enc zMk) 60::pt c0 (RMark.enc (mMk x0 s1 s3 s5 s9)) 60::Lr):=H
 intro a G
 refine bD E E (aX (vs:=_) qS60 (H.obj (i:=0) E) G E E E E (RMark.len _) (RMark.one _) (by first | (rw [RMark.len,RMark.len]; decide) | (rw [RMark.len]; decide)) (bE ((RMark.len _).trans (RMark.len _).symm)) fun w c74=>?_)
 have H:=H.chg c74 (i:=0) rfl
 replace H:MemL _ (pt c2 (RMark.enc (mMk x0 s1 s3 s5 s9)) 60::pt c1 (RMark.enc zMk) 60::pt c0 (RMark.enc (mMk x0 s1 s3 s5 s9)) 60::Lr):=H
 refine aJ (aB ?_)
 refine aG ?_
 refine aV G H I (fun F x a w=>match x with | c3=>∃ (d7:SV) (d6:SRes) (j0:SV) (d8:SV) (m1:List RPiece) (d9:SV),LRm d6.r.holds' d7 c3.regs spTurn ∧ LIn Bf j0 c3.slots ∧ LIn Bf d8 m1 ∧ Each (QPieceIn Bf) m1 c3.pieces ∧ LIn Bf d9 c3.sent ∧ Fr 82 [(1,.pointer (some ⟨c0,0,none⟩)),(2,.pointer (some ⟨c1,0,none⟩)),(3,.pointer (some ⟨c2,0,none⟩))] a ∧ MemL w (pt c2 (RMark.enc (mMk c3 d7 j0 d8 d9)) 60::d6.r::pt c1 (RMark.enc zMk) 60::pt c0 (RMark.enc (mMk x0 s1 s3 s5 s9)) 60::Lr)) (fun d10 I c90 G H=>?_) ?_
 ·refine bM mixed (by kernel_rfl) H [0,1,2] 3 E fun K=>?_
  refine aK G K 1 E (by kernel_rfl) E E E (fun w H=>(aC (off':=3) qU60 E in56 E G E E E)) fun a G=>?_
  refine aK G K 2 E (by kernel_rfl) E E E (fun w H=>(aI qA56 G E E (H.cell (i:=2) E (RMark.g_regs _)))) fun a G=>?_
  refine aK G K 4 E (by kernel_rfl) E E E (fun w H=>(cB z128 qU128 pl128 G (parts:=[(0,.const (.int .i64 (-7)))]) E E (cJ E E (by rw [LTurn.len]; decide) (LTurn.s_reg _ _) cN))) fun a G=>?_
  refine aK G K 5 E (by kernel_rfl) E E E (fun w H=>(cB z128 qU128 pl128 G (parts:=[(0,.const (.int .i64 (-8)))]) E E (cJ E E (by rw [LTurn.len]; decide) (LTurn.s_reg _ _) cN))) fun a G=>?_
  refine aK G K 8 E (by kernel_rfl) E E E (fun w H=>(aC (off':=3) qU60 E in56 E G E E E)) fun a G=>?_
  refine aK G K 9 E (by kernel_rfl) E E E (fun w H=>(aI qA56 G E E (H.cell (i:=2) E (RMark.g_regs _)))) fun a G=>?_
  refine aK G K 10 E (by kernel_rfl) E E E (fun w H=>(bQ (f2 _ (S _ (dropM H 3))) qU56 G E E)) fun a G=>?_
  refine hO K 0 6 (by kernel_rfl) E E ?_ ?_
  ·refine bY G 0 E E E E E fun w hMs H=>?_
   refine (fW (X:=LTurn) 0 (Nat.zero_le _) qU56 in128 E fun m3 w n7=>?_)
   have H:=H.plus n7
   replace H:MemL _ (rowL 0 m3 128 []::pt c2 (RMark.enc (mMk x0 s1 s3 s5 s9)) 60::pt c1 (RMark.enc zMk) 60::pt c0 (RMark.enc (mMk x0 s1 s3 s5 s9)) 60::Lr):=H
   have hMs:=selM H [1,2,3] 4 rfl
   refine ⟨_,_,hMs,H,.inl fun _ h=>h,fun a G=>?_⟩
   refine hO K 3 6 (by kernel_rfl) E E ?_ ?_
   ·refine bY G 3 E E E E E fun w hMs H=>?_
    obtain ⟨p2,n1,I⟩:=bind_some I
    refine (dC (X:=LTurn) n1 qU56 in128 E E E E G E E E (H.own (X:=LTurn) (i:=0) E) (f2 _ (S _ (dropM H 4))) fun p0 w l6=>?_)
    have H:=H.chg l6 (i:=0) rfl
    have z2:=H.rowS (X:=LTurn) (i:=0) rfl
    replace H:MemL _ (rowL 0 p0 128 p2::pt c2 (RMark.enc (mMk x0 s1 s3 s5 s9)) 60::pt c1 (RMark.enc zMk) 60::pt c0 (RMark.enc (mMk x0 s1 s3 s5 s9)) 60::Lr):=H
    have hMs:=selM H [1,2,3] 4 rfl
    refine ⟨_,_,hMs,H,.inl fun _ h=>h,fun a G=>?_⟩
    refine bF K 6 (by kernel_rfl) E E ?_
    refine bY G 6 E E E E E fun w hMs H=>?_
    refine (eX (X:=LTurn) (ys:=[(LTurn.mk (-7) LVal.zero LVal.zero),(LTurn.mk (-8) LVal.zero LVal.zero)]) (m:=2) qU56 in128 E E E E (by decide) (by decide) G E E (PartsE.cons E (PartsE.cons E PartsE.nil)) fun c7 w t9 k0=>?_)
    have H:=H.plus k0
    replace H:MemL _ (pt c7 (encs ([(LTurn.mk (-7) LVal.zero LVal.zero),(LTurn.mk (-8) LVal.zero LVal.zero)]:List LTurn)) 128::rowL 0 p0 128 p2::pt c2 (RMark.enc (mMk x0 s1 s3 s5 s9)) 60::pt c1 (RMark.enc zMk) 60::pt c0 (RMark.enc (mMk x0 s1 s3 s5 s9)) 60::Lr):=H
    have hMs:=selM H [0,2,3,4] 5 rfl
    refine ⟨_,_,hMs,H,.inl fun _ h=>dropM h 1,fun a G=>?_⟩
    refine bF K 7 (by kernel_rfl) E E ?_
    refine bY G 7 E E E E E fun w hMs H=>?_
    obtain ⟨j1,n2,I⟩:=bind_some I
    refine (dC (X:=LTurn) n2 qU56 in128 E E E E G E E E (H.own (X:=LTurn) (i:=1) E) (H.ptS (X:=LTurn) (i:=0) (n:=2) (c:=2) E E E (Nat.le_refl _)) fun d0 w l7=>?_)
    have H:=H.chg l7 (i:=1) rfl
    have l4:=H.rowS (X:=LTurn) (i:=1) rfl
    replace H:MemL _ (pt c7 (encs ([(LTurn.mk (-7) LVal.zero LVal.zero),(LTurn.mk (-8) LVal.zero LVal.zero)]:List LTurn)) 128::rowL 0 d0 128 j1::pt c2 (RMark.enc (mMk x0 s1 s3 s5 s9)) 60::pt c1 (RMark.enc zMk) 60::pt c0 (RMark.enc (mMk x0 s1 s3 s5 s9)) 60::Lr):=H
    have hMs:=selM H [0,2,3,4] 5 rfl
    refine ⟨_,_,hMs,H,.inl fun _ h=>h,fun a G=>?_⟩
    obtain ⟨k4,k6,I⟩:=bind_some I
    have t0:LRm (rowL 0 d0 128 j1).holds' (d0.cut (0:Int).toNat ((x0.regs.length:Int):Int).toNat 9) k4 spTurn:=lO k6 rfl
    refine aK G K 11 E (by kernel_rfl) E E E (fun w H=>(eL l4 (lP k6) qU56 in128 E G E E (.inl ⟨E,E⟩) (.inr ⟨_,_,E,E⟩))) fun a G=>?_
    refine aK G K 12 E (by kernel_rfl) E E E (fun w H=>(aC (off':=3) qU60 E in56 E G E E E)) fun a G=>?_
    refine bF K 13 (by kernel_rfl) E E ?_
    refine cV 13 E E E E fun w hMs H=>?_
    refine (bI qS56 (H.obj (i:=2) E) G E E E E (by rw [RMark.len]; decide) (RMark.s_regs _ _) fun w m6=>?_)
    have H:=H.chg m6 (i:=2) rfl
    replace H:MemL _ (pt c7 (encs ([(LTurn.mk (-7) LVal.zero LVal.zero),(LTurn.mk (-8) LVal.zero LVal.zero)]:List LTurn)) 128::rowL 0 d0 128 j1::pt c2 (RMark.enc (RMark.mk x0.at_ x0.next x0.done (d0.cut (0:Int).toNat ((x0.regs.length:Int):Int).toNat 9) s3 s5 s9)) 60::pt c1 (RMark.enc zMk) 60::pt c0 (RMark.enc (mMk x0 s1 s3 s5 s9)) 60::Lr):=H
    have hMs:=selM H [0,2,3,4] 5 rfl
    refine ⟨_,_,hMs,H,.inr (by kernel_rfl),?_⟩
    refine bV K (by kernel_rfl) fun w H=>?_
    refine aB ?_
    replace H:MemL _ (pt c7 (encs ([(LTurn.mk (-7) LVal.zero LVal.zero),(LTurn.mk (-8) LVal.zero LVal.zero)]:List LTurn)) 128::rowL 0 d0 128 j1::pt c2 (RMark.enc (RMark.mk x0.at_ x0.next x0.done (d0.cut (0:Int).toNat ((x0.regs.length:Int):Int).toNat 9) s3 s5 s9)) 60::pt c1 (RMark.enc zMk) 60::pt c0 (RMark.enc (mMk x0 s1 s3 s5 s9)) 60::Lr):=H
    obtain ⟨k2,m8,H⟩:=oneS (selM H [1,0,2,3,4] 5 rfl)
    replace H:MemL _ (k2.r::pt c7 (encs ([(LTurn.mk (-7) LVal.zero LVal.zero),(LTurn.mk (-8) LVal.zero LVal.zero)]:List LTurn)) 128::pt c2 (RMark.enc (RMark.mk x0.at_ x0.next x0.done (d0.cut (0:Int).toNat ((x0.regs.length:Int):Int).toNat 9) s3 s5 s9)) 60::pt c1 (RMark.enc zMk) 60::pt c0 (RMark.enc (mMk x0 s1 s3 s5 s9)) 60::Lr):=H
    have t1:LRm k2.r.holds' (d0.cut (0:Int).toNat ((x0.regs.length:Int):Int).toNat 9) k4 spTurn:=LRm.mono t0 m8
    have I:=oI I
    subst I
    exact ⟨(QMark.mk x0.at_ x0.next x0.done k4 x0.slots x0.pieces x0.sent),E,(d0.cut (0:Int).toNat ((x0.regs.length:Int):Int).toNat 9),k2,s3,s5,hs6,s9,t1,f4,f7,q8,f10,G.to ⟨E,E,E,trivial⟩,selM H [2,0,3,4] 5 E⟩
   refine bY G 6 E E E E E fun w hMs H=>?_
   refine (eX (X:=LTurn) (ys:=[(LTurn.mk (-7) LVal.zero LVal.zero),(LTurn.mk (-8) LVal.zero LVal.zero)]) (m:=2) qU56 in128 E E E E (by decide) (by decide) G E E (PartsE.cons E (PartsE.cons E PartsE.nil)) fun c7 w t9 k0=>?_)
   have H:=H.plus k0
   replace H:MemL _ (pt c7 (encs ([(LTurn.mk (-7) LVal.zero LVal.zero),(LTurn.mk (-8) LVal.zero LVal.zero)]:List LTurn)) 128::rowL 0 m3 128 []::pt c2 (RMark.enc (mMk x0 s1 s3 s5 s9)) 60::pt c1 (RMark.enc zMk) 60::pt c0 (RMark.enc (mMk x0 s1 s3 s5 s9)) 60::Lr):=H
   have hMs:=selM H [0,2,3,4] 5 rfl
   refine ⟨_,_,hMs,H,.inl fun _ h=>dropM h 1,fun a G=>?_⟩
   refine bF K 3 (by kernel_rfl) E E ?_
   refine bY G 3 E E E E E fun w hMs H=>?_
   obtain ⟨p2,n1,I⟩:=bind_some I
   refine (dC (X:=LTurn) n1 qU56 in128 E E E E G E E E (H.own (X:=LTurn) (i:=1) E) (f2 _ (S _ (dropM H 5))) fun p0 w l6=>?_)
   have H:=H.chg l6 (i:=1) rfl
   have z2:=H.rowS (X:=LTurn) (i:=1) rfl
   replace H:MemL _ (pt c7 (encs ([(LTurn.mk (-7) LVal.zero LVal.zero),(LTurn.mk (-8) LVal.zero LVal.zero)]:List LTurn)) 128::rowL 0 p0 128 p2::pt c2 (RMark.enc (mMk x0 s1 s3 s5 s9)) 60::pt c1 (RMark.enc zMk) 60::pt c0 (RMark.enc (mMk x0 s1 s3 s5 s9)) 60::Lr):=H
   have hMs:=selM H [0,2,3,4] 5 rfl
   refine ⟨_,_,hMs,H,.inl fun _ h=>h,fun a G=>?_⟩
   refine bF K 7 (by kernel_rfl) E E ?_
   refine bY G 7 E E E E E fun w hMs H=>?_
   obtain ⟨j1,n2,I⟩:=bind_some I
   refine (dC (X:=LTurn) n2 qU56 in128 E E E E G E E E (H.own (X:=LTurn) (i:=1) E) (H.ptS (X:=LTurn) (i:=0) (n:=2) (c:=2) E E E (Nat.le_refl _)) fun d0 w l7=>?_)
   have H:=H.chg l7 (i:=1) rfl
   have l4:=H.rowS (X:=LTurn) (i:=1) rfl
   replace H:MemL _ (pt c7 (encs ([(LTurn.mk (-7) LVal.zero LVal.zero),(LTurn.mk (-8) LVal.zero LVal.zero)]:List LTurn)) 128::rowL 0 d0 128 j1::pt c2 (RMark.enc (mMk x0 s1 s3 s5 s9)) 60::pt c1 (RMark.enc zMk) 60::pt c0 (RMark.enc (mMk x0 s1 s3 s5 s9)) 60::Lr):=H
   have hMs:=selM H [0,2,3,4] 5 rfl
   refine ⟨_,_,hMs,H,.inl fun _ h=>h,fun a G=>?_⟩
   obtain ⟨k4,k6,I⟩:=bind_some I
   have t0:LRm (rowL 0 d0 128 j1).holds' (d0.cut (0:Int).toNat ((x0.regs.length:Int):Int).toNat 9) k4 spTurn:=lO k6 rfl
   refine aK G K 11 E (by kernel_rfl) E E E (fun w H=>(eL l4 (lP k6) qU56 in128 E G E E (.inl ⟨E,E⟩) (.inr ⟨_,_,E,E⟩))) fun a G=>?_
   refine aK G K 12 E (by kernel_rfl) E E E (fun w H=>(aC (off':=3) qU60 E in56 E G E E E)) fun a G=>?_
   refine bF K 13 (by kernel_rfl) E E ?_
   refine cV 13 E E E E fun w hMs H=>?_
   refine (bI qS56 (H.obj (i:=2) E) G E E E E (by rw [RMark.len]; decide) (RMark.s_regs _ _) fun w m6=>?_)
   have H:=H.chg m6 (i:=2) rfl
   replace H:MemL _ (pt c7 (encs ([(LTurn.mk (-7) LVal.zero LVal.zero),(LTurn.mk (-8) LVal.zero LVal.zero)]:List LTurn)) 128::rowL 0 d0 128 j1::pt c2 (RMark.enc (RMark.mk x0.at_ x0.next x0.done (d0.cut (0:Int).toNat ((x0.regs.length:Int):Int).toNat 9) s3 s5 s9)) 60::pt c1 (RMark.enc zMk) 60::pt c0 (RMark.enc (mMk x0 s1 s3 s5 s9)) 60::Lr):=H
   have hMs:=selM H [0,2,3,4] 5 rfl
   refine ⟨_,_,hMs,H,.inr (by kernel_rfl),?_⟩
   refine bV K (by kernel_rfl) fun w H=>?_
   refine aB ?_
   replace H:MemL _ (pt c7 (encs ([(LTurn.mk (-7) LVal.zero LVal.zero),(LTurn.mk (-8) LVal.zero LVal.zero)]:List LTurn)) 128::rowL 0 d0 128 j1::pt c2 (RMark.enc (RMark.mk x0.at_ x0.next x0.done (d0.cut (0:Int).toNat ((x0.regs.length:Int):Int).toNat 9) s3 s5 s9)) 60::pt c1 (RMark.enc zMk) 60::pt c0 (RMark.enc (mMk x0 s1 s3 s5 s9)) 60::Lr):=H
   obtain ⟨k2,m8,H⟩:=oneS (selM H [1,0,2,3,4] 5 rfl)
   replace H:MemL _ (k2.r::pt c7 (encs ([(LTurn.mk (-7) LVal.zero LVal.zero),(LTurn.mk (-8) LVal.zero LVal.zero)]:List LTurn)) 128::pt c2 (RMark.enc (RMark.mk x0.at_ x0.next x0.done (d0.cut (0:Int).toNat ((x0.regs.length:Int):Int).toNat 9) s3 s5 s9)) 60::pt c1 (RMark.enc zMk) 60::pt c0 (RMark.enc (mMk x0 s1 s3 s5 s9)) 60::Lr):=H
   have t1:LRm k2.r.holds' (d0.cut (0:Int).toNat ((x0.regs.length:Int):Int).toNat 9) k4 spTurn:=LRm.mono t0 m8
   have I:=oI I
   subst I
   exact ⟨(QMark.mk x0.at_ x0.next x0.done k4 x0.slots x0.pieces x0.sent),E,(d0.cut (0:Int).toNat ((x0.regs.length:Int):Int).toNat 9),k2,s3,s5,hs6,s9,t1,f4,f7,q8,f10,G.to ⟨E,E,E,trivial⟩,selM H [2,0,3,4] 5 E⟩
  refine bY G 6 E E E E E fun w hMs H=>?_
  refine (eX (X:=LTurn) (ys:=[(LTurn.mk (-7) LVal.zero LVal.zero),(LTurn.mk (-8) LVal.zero LVal.zero)]) (m:=2) qU56 in128 E E E E (by decide) (by decide) G E E (PartsE.cons E (PartsE.cons E PartsE.nil)) fun c7 w t9 k0=>?_)
  have H:=H.plus k0
  replace H:MemL _ (pt c7 (encs ([(LTurn.mk (-7) LVal.zero LVal.zero),(LTurn.mk (-8) LVal.zero LVal.zero)]:List LTurn)) 128::pt c2 (RMark.enc (mMk x0 s1 s3 s5 s9)) 60::pt c1 (RMark.enc zMk) 60::pt c0 (RMark.enc (mMk x0 s1 s3 s5 s9)) 60::Lr):=H
  have hMs:=selM H [0,1,2,3] 4 rfl
  refine ⟨_,_,hMs,H,.inl fun _ h=>dropM h 1,fun a G=>?_⟩
  refine bF K 0 (by kernel_rfl) E E ?_
  refine bY G 0 E E E E E fun w hMs H=>?_
  refine (fW (X:=LTurn) 0 (Nat.zero_le _) qU56 in128 E fun m3 w n7=>?_)
  have H:=H.plus n7
  replace H:MemL _ (rowL 0 m3 128 []::pt c7 (encs ([(LTurn.mk (-7) LVal.zero LVal.zero),(LTurn.mk (-8) LVal.zero LVal.zero)]:List LTurn)) 128::pt c2 (RMark.enc (mMk x0 s1 s3 s5 s9)) 60::pt c1 (RMark.enc zMk) 60::pt c0 (RMark.enc (mMk x0 s1 s3 s5 s9)) 60::Lr):=H
  have hMs:=selM H [1,2,3,4] 5 rfl
  refine ⟨_,_,hMs,H,.inl fun _ h=>h,fun a G=>?_⟩
  refine bF K 3 (by kernel_rfl) E E ?_
  refine bY G 3 E E E E E fun w hMs H=>?_
  obtain ⟨p2,n1,I⟩:=bind_some I
  refine (dC (X:=LTurn) n1 qU56 in128 E E E E G E E E (H.own (X:=LTurn) (i:=0) E) (f2 _ (S _ (dropM H 5))) fun p0 w l6=>?_)
  have H:=H.chg l6 (i:=0) rfl
  have z2:=H.rowS (X:=LTurn) (i:=0) rfl
  replace H:MemL _ (rowL 0 p0 128 p2::pt c7 (encs ([(LTurn.mk (-7) LVal.zero LVal.zero),(LTurn.mk (-8) LVal.zero LVal.zero)]:List LTurn)) 128::pt c2 (RMark.enc (mMk x0 s1 s3 s5 s9)) 60::pt c1 (RMark.enc zMk) 60::pt c0 (RMark.enc (mMk x0 s1 s3 s5 s9)) 60::Lr):=H
  have hMs:=selM H [1,2,3,4] 5 rfl
  refine ⟨_,_,hMs,H,.inl fun _ h=>h,fun a G=>?_⟩
  refine bF K 7 (by kernel_rfl) E E ?_
  refine bY G 7 E E E E E fun w hMs H=>?_
  obtain ⟨j1,n2,I⟩:=bind_some I
  refine (dC (X:=LTurn) n2 qU56 in128 E E E E G E E E (H.own (X:=LTurn) (i:=0) E) (H.ptS (X:=LTurn) (i:=1) (n:=2) (c:=2) E E E (Nat.le_refl _)) fun d0 w l7=>?_)
  have H:=H.chg l7 (i:=0) rfl
  have l4:=H.rowS (X:=LTurn) (i:=0) rfl
  replace H:MemL _ (rowL 0 d0 128 j1::pt c7 (encs ([(LTurn.mk (-7) LVal.zero LVal.zero),(LTurn.mk (-8) LVal.zero LVal.zero)]:List LTurn)) 128::pt c2 (RMark.enc (mMk x0 s1 s3 s5 s9)) 60::pt c1 (RMark.enc zMk) 60::pt c0 (RMark.enc (mMk x0 s1 s3 s5 s9)) 60::Lr):=H
  have hMs:=selM H [1,2,3,4] 5 rfl
  refine ⟨_,_,hMs,H,.inl fun _ h=>h,fun a G=>?_⟩
  obtain ⟨k4,k6,I⟩:=bind_some I
  have t0:LRm (rowL 0 d0 128 j1).holds' (d0.cut (0:Int).toNat ((x0.regs.length:Int):Int).toNat 9) k4 spTurn:=lO k6 rfl
  refine aK G K 11 E (by kernel_rfl) E E E (fun w H=>(eL l4 (lP k6) qU56 in128 E G E E (.inl ⟨E,E⟩) (.inr ⟨_,_,E,E⟩))) fun a G=>?_
  refine aK G K 12 E (by kernel_rfl) E E E (fun w H=>(aC (off':=3) qU60 E in56 E G E E E)) fun a G=>?_
  refine bF K 13 (by kernel_rfl) E E ?_
  refine cV 13 E E E E fun w hMs H=>?_
  refine (bI qS56 (H.obj (i:=2) E) G E E E E (by rw [RMark.len]; decide) (RMark.s_regs _ _) fun w m6=>?_)
  have H:=H.chg m6 (i:=2) rfl
  replace H:MemL _ (rowL 0 d0 128 j1::pt c7 (encs ([(LTurn.mk (-7) LVal.zero LVal.zero),(LTurn.mk (-8) LVal.zero LVal.zero)]:List LTurn)) 128::pt c2 (RMark.enc (RMark.mk x0.at_ x0.next x0.done (d0.cut (0:Int).toNat ((x0.regs.length:Int):Int).toNat 9) s3 s5 s9)) 60::pt c1 (RMark.enc zMk) 60::pt c0 (RMark.enc (mMk x0 s1 s3 s5 s9)) 60::Lr):=H
  have hMs:=selM H [1,2,3,4] 5 rfl
  refine ⟨_,_,hMs,H,.inr (by kernel_rfl),?_⟩
  refine bV K (by kernel_rfl) fun w H=>?_
  refine aB ?_
  replace H:MemL _ (rowL 0 d0 128 j1::pt c7 (encs ([(LTurn.mk (-7) LVal.zero LVal.zero),(LTurn.mk (-8) LVal.zero LVal.zero)]:List LTurn)) 128::pt c2 (RMark.enc (RMark.mk x0.at_ x0.next x0.done (d0.cut (0:Int).toNat ((x0.regs.length:Int):Int).toNat 9) s3 s5 s9)) 60::pt c1 (RMark.enc zMk) 60::pt c0 (RMark.enc (mMk x0 s1 s3 s5 s9)) 60::Lr):=H
  obtain ⟨k2,m8,H⟩:=oneS (selM H [0,1,2,3,4] 5 rfl)
  replace H:MemL _ (k2.r::pt c7 (encs ([(LTurn.mk (-7) LVal.zero LVal.zero),(LTurn.mk (-8) LVal.zero LVal.zero)]:List LTurn)) 128::pt c2 (RMark.enc (RMark.mk x0.at_ x0.next x0.done (d0.cut (0:Int).toNat ((x0.regs.length:Int):Int).toNat 9) s3 s5 s9)) 60::pt c1 (RMark.enc zMk) 60::pt c0 (RMark.enc (mMk x0 s1 s3 s5 s9)) 60::Lr):=H
  have t1:LRm k2.r.holds' (d0.cut (0:Int).toNat ((x0.regs.length:Int):Int).toNat 9) k4 spTurn:=LRm.mono t0 m8
  have I:=oI I
  subst I
  exact ⟨(QMark.mk x0.at_ x0.next x0.done k4 x0.slots x0.pieces x0.sent),E,(d0.cut (0:Int).toNat ((x0.regs.length:Int):Int).toNat 9),k2,s3,s5,hs6,s9,t1,f4,f7,q8,f10,G.to ⟨E,E,E,trivial⟩,selM H [2,0,3,4] 5 E⟩
 rintro c3 a w I ⟨d7,d6,j0,d8,m1,d9,z8,c97,z9,c14,c10,G,H⟩
 replace I:Sh.qC x0 c3 = _:=I
 unfold Sh.qC at I
 refine aB ?_
 refine aG ?_
 refine aV G H I (fun F x a w=>match x with | c6=>∃ (i2:SV) (i0:SRes) (i3:SV) (i1:SRes) (i4:SV) (n0:List RPiece) (l1:SV),LRm i0.r.holds' i2 c6.regs spTurn ∧ LRm i1.r.holds' i3 c6.slots spCell ∧ LIn Bf i4 n0 ∧ Each (QPieceIn Bf) n0 c6.pieces ∧ LIn Bf l1 c6.sent ∧ Fr 82 [(1,.pointer (some ⟨c0,0,none⟩)),(2,.pointer (some ⟨c1,0,none⟩)),(3,.pointer (some ⟨c2,0,none⟩))] a ∧ MemL w (pt c2 (RMark.enc (mMk c6 i2 i3 i4 l1)) 60::i0.r::i1.r::pt c1 (RMark.enc zMk) 60::pt c0 (RMark.enc (mMk x0 s1 s3 s5 s9)) 60::Lr)) (fun d11 I c91 G H=>?_) ?_
 ·refine bM mixed (by kernel_rfl) H [0,1,2,3] 4 E fun K=>?_
  refine aK G K 1 E (by kernel_rfl) E E E (fun w H=>(aC (off':=4) qU60 E in57 E G E E E)) fun a G=>?_
  refine aK G K 2 E (by kernel_rfl) E E E (fun w H=>(aI qA57 G E E (H.cell (i:=3) E (RMark.g_slots _)))) fun a G=>?_
  refine aK G K 4 E (by kernel_rfl) E E E (fun w H=>(cB z151 qU151 pl151 G (parts:=[(0,.const (.int .i64 (-7)))]) E E (cJ E E (by rw [LCell.len]; decide) (LCell.s_slot _ _) cN))) fun a G=>?_
  refine aK G K 5 E (by kernel_rfl) E E E (fun w H=>(cB z151 qU151 pl151 G (parts:=[(0,.const (.int .i64 (-8)))]) E E (cJ E E (by rw [LCell.len]; decide) (LCell.s_slot _ _) cN))) fun a G=>?_
  refine aK G K 8 E (by kernel_rfl) E E E (fun w H=>(aC (off':=4) qU60 E in57 E G E E E)) fun a G=>?_
  refine aK G K 9 E (by kernel_rfl) E E E (fun w H=>(aI qA57 G E E (H.cell (i:=3) E (RMark.g_slots _)))) fun a G=>?_
  refine aK G K 10 E (by kernel_rfl) E E E (fun w H=>(bQ (f4 _ (S _ (dropM H 4))) qU57 G E E)) fun a G=>?_
  refine hO K 0 6 (by kernel_rfl) E E ?_ ?_
  ·refine bY G 0 E E E E E fun w hMs H=>?_
   refine (fW (X:=LCell) 0 (Nat.zero_le _) qU57 in151 E fun l2 w m4=>?_)
   have H:=H.plus m4
   replace H:MemL _ (rowL 0 l2 151 []::pt c2 (RMark.enc (mMk c3 d7 j0 d8 d9)) 60::d6.r::pt c1 (RMark.enc zMk) 60::pt c0 (RMark.enc (mMk x0 s1 s3 s5 s9)) 60::Lr):=H
   have hMs:=selM H [1,2,3,4] 5 rfl
   refine ⟨_,_,hMs,H,.inl fun _ h=>h,fun a G=>?_⟩
   refine hO K 3 6 (by kernel_rfl) E E ?_ ?_
   ·refine bY G 3 E E E E E fun w hMs H=>?_
    obtain ⟨p3,n3,I⟩:=bind_some I
    refine (dC (X:=LCell) n3 qU57 in151 E E E E G E E E (H.own (X:=LCell) (i:=0) E) (f4 _ (S _ (dropM H 5))) fun p1 w l8=>?_)
    have H:=H.chg l8 (i:=0) rfl
    have z3:=H.rowS (X:=LCell) (i:=0) rfl
    replace H:MemL _ (rowL 0 p1 151 p3::pt c2 (RMark.enc (mMk c3 d7 j0 d8 d9)) 60::d6.r::pt c1 (RMark.enc zMk) 60::pt c0 (RMark.enc (mMk x0 s1 s3 s5 s9)) 60::Lr):=H
    have hMs:=selM H [1,2,3,4] 5 rfl
    refine ⟨_,_,hMs,H,.inl fun _ h=>h,fun a G=>?_⟩
    refine bF K 6 (by kernel_rfl) E E ?_
    refine bY G 6 E E E E E fun w hMs H=>?_
    refine (eX (X:=LCell) (ys:=[(LCell.mk (-7) LSlot.zero LSlot.zero),(LCell.mk (-8) LSlot.zero LSlot.zero)]) (m:=2) qU57 in151 E E E E (by decide) (by decide) G E E (PartsE.cons E (PartsE.cons E PartsE.nil)) fun c8 w u0 k1=>?_)
    have H:=H.plus k1
    replace H:MemL _ (pt c8 (encs ([(LCell.mk (-7) LSlot.zero LSlot.zero),(LCell.mk (-8) LSlot.zero LSlot.zero)]:List LCell)) 151::rowL 0 p1 151 p3::pt c2 (RMark.enc (mMk c3 d7 j0 d8 d9)) 60::d6.r::pt c1 (RMark.enc zMk) 60::pt c0 (RMark.enc (mMk x0 s1 s3 s5 s9)) 60::Lr):=H
    have hMs:=selM H [0,2,3,4,5] 6 rfl
    refine ⟨_,_,hMs,H,.inl fun _ h=>dropM h 1,fun a G=>?_⟩
    refine bF K 7 (by kernel_rfl) E E ?_
    refine bY G 7 E E E E E fun w hMs H=>?_
    obtain ⟨j2,n4,I⟩:=bind_some I
    refine (dC (X:=LCell) n4 qU57 in151 E E E E G E E E (H.own (X:=LCell) (i:=1) E) (H.ptS (X:=LCell) (i:=0) (n:=2) (c:=2) E E E (Nat.le_refl _)) fun d1 w l9=>?_)
    have H:=H.chg l9 (i:=1) rfl
    have l5:=H.rowS (X:=LCell) (i:=1) rfl
    replace H:MemL _ (pt c8 (encs ([(LCell.mk (-7) LSlot.zero LSlot.zero),(LCell.mk (-8) LSlot.zero LSlot.zero)]:List LCell)) 151::rowL 0 d1 151 j2::pt c2 (RMark.enc (mMk c3 d7 j0 d8 d9)) 60::d6.r::pt c1 (RMark.enc zMk) 60::pt c0 (RMark.enc (mMk x0 s1 s3 s5 s9)) 60::Lr):=H
    have hMs:=selM H [0,2,3,4,5] 6 rfl
    refine ⟨_,_,hMs,H,.inl fun _ h=>h,fun a G=>?_⟩
    obtain ⟨k5,k7,I⟩:=bind_some I
    have t2:LRm (rowL 0 d1 151 j2).holds' (d1.cut (0:Int).toNat ((x0.slots.length:Int):Int).toNat 27) k5 spCell:=lO k7 rfl
    refine aK G K 11 E (by kernel_rfl) E E E (fun w H=>(eL l5 (lP k7) qU57 in151 E G E E (.inl ⟨E,E⟩) (.inr ⟨_,_,E,E⟩))) fun a G=>?_
    refine aK G K 12 E (by kernel_rfl) E E E (fun w H=>(aC (off':=4) qU60 E in57 E G E E E)) fun a G=>?_
    refine bF K 13 (by kernel_rfl) E E ?_
    refine cV 13 E E E E fun w hMs H=>?_
    refine (bI qS57 (H.obj (i:=2) E) G E E E E (by rw [RMark.len]; decide) (RMark.s_slots _ _) fun w m7=>?_)
    have H:=H.chg m7 (i:=2) rfl
    replace H:MemL _ (pt c8 (encs ([(LCell.mk (-7) LSlot.zero LSlot.zero),(LCell.mk (-8) LSlot.zero LSlot.zero)]:List LCell)) 151::rowL 0 d1 151 j2::pt c2 (RMark.enc (RMark.mk c3.at_ c3.next c3.done d7 (d1.cut (0:Int).toNat ((x0.slots.length:Int):Int).toNat 27) d8 d9)) 60::d6.r::pt c1 (RMark.enc zMk) 60::pt c0 (RMark.enc (mMk x0 s1 s3 s5 s9)) 60::Lr):=H
    have hMs:=selM H [0,2,3,4,5] 6 rfl
    refine ⟨_,_,hMs,H,.inr (by kernel_rfl),?_⟩
    refine bV K (by kernel_rfl) fun w H=>?_
    refine aB ?_
    replace H:MemL _ (pt c8 (encs ([(LCell.mk (-7) LSlot.zero LSlot.zero),(LCell.mk (-8) LSlot.zero LSlot.zero)]:List LCell)) 151::rowL 0 d1 151 j2::pt c2 (RMark.enc (RMark.mk c3.at_ c3.next c3.done d7 (d1.cut (0:Int).toNat ((x0.slots.length:Int):Int).toNat 27) d8 d9)) 60::d6.r::pt c1 (RMark.enc zMk) 60::pt c0 (RMark.enc (mMk x0 s1 s3 s5 s9)) 60::Lr):=H
    obtain ⟨k3,m9,H⟩:=oneS (selM H [1,0,2,3,4,5] 6 rfl)
    replace H:MemL _ (k3.r::pt c8 (encs ([(LCell.mk (-7) LSlot.zero LSlot.zero),(LCell.mk (-8) LSlot.zero LSlot.zero)]:List LCell)) 151::pt c2 (RMark.enc (RMark.mk c3.at_ c3.next c3.done d7 (d1.cut (0:Int).toNat ((x0.slots.length:Int):Int).toNat 27) d8 d9)) 60::d6.r::pt c1 (RMark.enc zMk) 60::pt c0 (RMark.enc (mMk x0 s1 s3 s5 s9)) 60::Lr):=H
    have t3:LRm k3.r.holds' (d1.cut (0:Int).toNat ((x0.slots.length:Int):Int).toNat 27) k5 spCell:=LRm.mono t2 m9
    have I:=oI I
    subst I
    exact ⟨(QMark.mk c3.at_ c3.next c3.done c3.regs k5 c3.pieces c3.sent),E,d7,d6,(d1.cut (0:Int).toNat ((x0.slots.length:Int):Int).toNat 27),k3,d8,m1,d9,z8,t3,z9,c14,c10,G.to ⟨E,E,E,trivial⟩,selM H [2,3,0,4,5] 6 E⟩
   refine bY G 6 E E E E E fun w hMs H=>?_
   refine (eX (X:=LCell) (ys:=[(LCell.mk (-7) LSlot.zero LSlot.zero),(LCell.mk (-8) LSlot.zero LSlot.zero)]) (m:=2) qU57 in151 E E E E (by decide) (by decide) G E E (PartsE.cons E (PartsE.cons E PartsE.nil)) fun c8 w u0 k1=>?_)
   have H:=H.plus k1
   replace H:MemL _ (pt c8 (encs ([(LCell.mk (-7) LSlot.zero LSlot.zero),(LCell.mk (-8) LSlot.zero LSlot.zero)]:List LCell)) 151::rowL 0 l2 151 []::pt c2 (RMark.enc (mMk c3 d7 j0 d8 d9)) 60::d6.r::pt c1 (RMark.enc zMk) 60::pt c0 (RMark.enc (mMk x0 s1 s3 s5 s9)) 60::Lr):=H
   have hMs:=selM H [0,2,3,4,5] 6 rfl
   refine ⟨_,_,hMs,H,.inl fun _ h=>dropM h 1,fun a G=>?_⟩
   refine bF K 3 (by kernel_rfl) E E ?_
   refine bY G 3 E E E E E fun w hMs H=>?_
   obtain ⟨p3,n3,I⟩:=bind_some I
   refine (dC (X:=LCell) n3 qU57 in151 E E E E G E E E (H.own (X:=LCell) (i:=1) E) (f4 _ (S _ (dropM H 6))) fun p1 w l8=>?_)
   have H:=H.chg l8 (i:=1) rfl
   have z3:=H.rowS (X:=LCell) (i:=1) rfl
   replace H:MemL _ (pt c8 (encs ([(LCell.mk (-7) LSlot.zero LSlot.zero),(LCell.mk (-8) LSlot.zero LSlot.zero)]:List LCell)) 151::rowL 0 p1 151 p3::pt c2 (RMark.enc (mMk c3 d7 j0 d8 d9)) 60::d6.r::pt c1 (RMark.enc zMk) 60::pt c0 (RMark.enc (mMk x0 s1 s3 s5 s9)) 60::Lr):=H
   have hMs:=selM H [0,2,3,4,5] 6 rfl
   refine ⟨_,_,hMs,H,.inl fun _ h=>h,fun a G=>?_⟩
   refine bF K 7 (by kernel_rfl) E E ?_
   refine bY G 7 E E E E E fun w hMs H=>?_
   obtain ⟨j2,n4,I⟩:=bind_some I
   refine (dC (X:=LCell) n4 qU57 in151 E E E E G E E E (H.own (X:=LCell) (i:=1) E) (H.ptS (X:=LCell) (i:=0) (n:=2) (c:=2) E E E (Nat.le_refl _)) fun d1 w l9=>?_)
   have H:=H.chg l9 (i:=1) rfl
   have l5:=H.rowS (X:=LCell) (i:=1) rfl
   replace H:MemL _ (pt c8 (encs ([(LCell.mk (-7) LSlot.zero LSlot.zero),(LCell.mk (-8) LSlot.zero LSlot.zero)]:List LCell)) 151::rowL 0 d1 151 j2::pt c2 (RMark.enc (mMk c3 d7 j0 d8 d9)) 60::d6.r::pt c1 (RMark.enc zMk) 60::pt c0 (RMark.enc (mMk x0 s1 s3 s5 s9)) 60::Lr):=H
   have hMs:=selM H [0,2,3,4,5] 6 rfl
   refine ⟨_,_,hMs,H,.inl fun _ h=>h,fun a G=>?_⟩
   obtain ⟨k5,k7,I⟩:=bind_some I
   have t2:LRm (rowL 0 d1 151 j2).holds' (d1.cut (0:Int).toNat ((x0.slots.length:Int):Int).toNat 27) k5 spCell:=lO k7 rfl
   refine aK G K 11 E (by kernel_rfl) E E E (fun w H=>(eL l5 (lP k7) qU57 in151 E G E E (.inl ⟨E,E⟩) (.inr ⟨_,_,E,E⟩))) fun a G=>?_
   refine aK G K 12 E (by kernel_rfl) E E E (fun w H=>(aC (off':=4) qU60 E in57 E G E E E)) fun a G=>?_
   refine bF K 13 (by kernel_rfl) E E ?_
   refine cV 13 E E E E fun w hMs H=>?_
   refine (bI qS57 (H.obj (i:=2) E) G E E E E (by rw [RMark.len]; decide) (RMark.s_slots _ _) fun w m7=>?_)
   have H:=H.chg m7 (i:=2) rfl
   replace H:MemL _ (pt c8 (encs ([(LCell.mk (-7) LSlot.zero LSlot.zero),(LCell.mk (-8) LSlot.zero LSlot.zero)]:List LCell)) 151::rowL 0 d1 151 j2::pt c2 (RMark.enc (RMark.mk c3.at_ c3.next c3.done d7 (d1.cut (0:Int).toNat ((x0.slots.length:Int):Int).toNat 27) d8 d9)) 60::d6.r::pt c1 (RMark.enc zMk) 60::pt c0 (RMark.enc (mMk x0 s1 s3 s5 s9)) 60::Lr):=H
   have hMs:=selM H [0,2,3,4,5] 6 rfl
   refine ⟨_,_,hMs,H,.inr (by kernel_rfl),?_⟩
   refine bV K (by kernel_rfl) fun w H=>?_
   refine aB ?_
   replace H:MemL _ (pt c8 (encs ([(LCell.mk (-7) LSlot.zero LSlot.zero),(LCell.mk (-8) LSlot.zero LSlot.zero)]:List LCell)) 151::rowL 0 d1 151 j2::pt c2 (RMark.enc (RMark.mk c3.at_ c3.next c3.done d7 (d1.cut (0:Int).toNat ((x0.slots.length:Int):Int).toNat 27) d8 d9)) 60::d6.r::pt c1 (RMark.enc zMk) 60::pt c0 (RMark.enc (mMk x0 s1 s3 s5 s9)) 60::Lr):=H
   obtain ⟨k3,m9,H⟩:=oneS (selM H [1,0,2,3,4,5] 6 rfl)
   replace H:MemL _ (k3.r::pt c8 (encs ([(LCell.mk (-7) LSlot.zero LSlot.zero),(LCell.mk (-8) LSlot.zero LSlot.zero)]:List LCell)) 151::pt c2 (RMark.enc (RMark.mk c3.at_ c3.next c3.done d7 (d1.cut (0:Int).toNat ((x0.slots.length:Int):Int).toNat 27) d8 d9)) 60::d6.r::pt c1 (RMark.enc zMk) 60::pt c0 (RMark.enc (mMk x0 s1 s3 s5 s9)) 60::Lr):=H
   have t3:LRm k3.r.holds' (d1.cut (0:Int).toNat ((x0.slots.length:Int):Int).toNat 27) k5 spCell:=LRm.mono t2 m9
   have I:=oI I
   subst I
   exact ⟨(QMark.mk c3.at_ c3.next c3.done c3.regs k5 c3.pieces c3.sent),E,d7,d6,(d1.cut (0:Int).toNat ((x0.slots.length:Int):Int).toNat 27),k3,d8,m1,d9,z8,t3,z9,c14,c10,G.to ⟨E,E,E,trivial⟩,selM H [2,3,0,4,5] 6 E⟩
  refine bY G 6 E E E E E fun w hMs H=>?_
  refine (eX (X:=LCell) (ys:=[(LCell.mk (-7) LSlot.zero LSlot.zero),(LCell.mk (-8) LSlot.zero LSlot.zero)]) (m:=2) qU57 in151 E E E E (by decide) (by decide) G E E (PartsE.cons E (PartsE.cons E PartsE.nil)) fun c8 w u0 k1=>?_)
  have H:=H.plus k1
  replace H:MemL _ (pt c8 (encs ([(LCell.mk (-7) LSlot.zero LSlot.zero),(LCell.mk (-8) LSlot.zero LSlot.zero)]:List LCell)) 151::pt c2 (RMark.enc (mMk c3 d7 j0 d8 d9)) 60::d6.r::pt c1 (RMark.enc zMk) 60::pt c0 (RMark.enc (mMk x0 s1 s3 s5 s9)) 60::Lr):=H
  have hMs:=selM H [0,1,2,3,4] 5 rfl
  refine ⟨_,_,hMs,H,.inl fun _ h=>dropM h 1,fun a G=>?_⟩
  refine bF K 0 (by kernel_rfl) E E ?_
  refine bY G 0 E E E E E fun w hMs H=>?_
  refine (fW (X:=LCell) 0 (Nat.zero_le _) qU57 in151 E fun l2 w m4=>?_)
  have H:=H.plus m4
  replace H:MemL _ (rowL 0 l2 151 []::pt c8 (encs ([(LCell.mk (-7) LSlot.zero LSlot.zero),(LCell.mk (-8) LSlot.zero LSlot.zero)]:List LCell)) 151::pt c2 (RMark.enc (mMk c3 d7 j0 d8 d9)) 60::d6.r::pt c1 (RMark.enc zMk) 60::pt c0 (RMark.enc (mMk x0 s1 s3 s5 s9)) 60::Lr):=H
  have hMs:=selM H [1,2,3,4,5] 6 rfl
  refine ⟨_,_,hMs,H,.inl fun _ h=>h,fun a G=>?_⟩
  refine bF K 3 (by kernel_rfl) E E ?_
  refine bY G 3 E E E E E fun w hMs H=>?_
  obtain ⟨p3,n3,I⟩:=bind_some I
  refine (dC (X:=LCell) n3 qU57 in151 E E E E G E E E (H.own (X:=LCell) (i:=0) E) (f4 _ (S _ (dropM H 6))) fun p1 w l8=>?_)
  have H:=H.chg l8 (i:=0) rfl
  have z3:=H.rowS (X:=LCell) (i:=0) rfl
  replace H:MemL _ (rowL 0 p1 151 p3::pt c8 (encs ([(LCell.mk (-7) LSlot.zero LSlot.zero),(LCell.mk (-8) LSlot.zero LSlot.zero)]:List LCell)) 151::pt c2 (RMark.enc (mMk c3 d7 j0 d8 d9)) 60::d6.r::pt c1 (RMark.enc zMk) 60::pt c0 (RMark.enc (mMk x0 s1 s3 s5 s9)) 60::Lr):=H
  have hMs:=selM H [1,2,3,4,5] 6 rfl
  refine ⟨_,_,hMs,H,.inl fun _ h=>h,fun a G=>?_⟩
  refine bF K 7 (by kernel_rfl) E E ?_
  refine bY G 7 E E E E E fun w hMs H=>?_
  obtain ⟨j2,n4,I⟩:=bind_some I
  refine (dC (X:=LCell) n4 qU57 in151 E E E E G E E E (H.own (X:=LCell) (i:=0) E) (H.ptS (X:=LCell) (i:=1) (n:=2) (c:=2) E E E (Nat.le_refl _)) fun d1 w l9=>?_)
  have H:=H.chg l9 (i:=0) rfl
  have l5:=H.rowS (X:=LCell) (i:=0) rfl
  replace H:MemL _ (rowL 0 d1 151 j2::pt c8 (encs ([(LCell.mk (-7) LSlot.zero LSlot.zero),(LCell.mk (-8) LSlot.zero LSlot.zero)]:List LCell)) 151::pt c2 (RMark.enc (mMk c3 d7 j0 d8 d9)) 60::d6.r::pt c1 (RMark.enc zMk) 60::pt c0 (RMark.enc (mMk x0 s1 s3 s5 s9)) 60::Lr):=H
  have hMs:=selM H [1,2,3,4,5] 6 rfl
  refine ⟨_,_,hMs,H,.inl fun _ h=>h,fun a G=>?_⟩
  obtain ⟨k5,k7,I⟩:=bind_some I
  have t2:LRm (rowL 0 d1 151 j2).holds' (d1.cut (0:Int).toNat ((x0.slots.length:Int):Int).toNat 27) k5 spCell:=lO k7 rfl
  refine aK G K 11 E (by kernel_rfl) E E E (fun w H=>(eL l5 (lP k7) qU57 in151 E G E E (.inl ⟨E,E⟩) (.inr ⟨_,_,E,E⟩))) fun a G=>?_
  refine aK G K 12 E (by kernel_rfl) E E E (fun w H=>(aC (off':=4) qU60 E in57 E G E E E)) fun a G=>?_
  refine bF K 13 (by kernel_rfl) E E ?_
  refine cV 13 E E E E fun w hMs H=>?_
  refine (bI qS57 (H.obj (i:=2) E) G E E E E (by rw [RMark.len]; decide) (RMark.s_slots _ _) fun w m7=>?_)
  have H:=H.chg m7 (i:=2) rfl
  replace H:MemL _ (rowL 0 d1 151 j2::pt c8 (encs ([(LCell.mk (-7) LSlot.zero LSlot.zero),(LCell.mk (-8) LSlot.zero LSlot.zero)]:List LCell)) 151::pt c2 (RMark.enc (RMark.mk c3.at_ c3.next c3.done d7 (d1.cut (0:Int).toNat ((x0.slots.length:Int):Int).toNat 27) d8 d9)) 60::d6.r::pt c1 (RMark.enc zMk) 60::pt c0 (RMark.enc (mMk x0 s1 s3 s5 s9)) 60::Lr):=H
  have hMs:=selM H [1,2,3,4,5] 6 rfl
  refine ⟨_,_,hMs,H,.inr (by kernel_rfl),?_⟩
  refine bV K (by kernel_rfl) fun w H=>?_
  refine aB ?_
  replace H:MemL _ (rowL 0 d1 151 j2::pt c8 (encs ([(LCell.mk (-7) LSlot.zero LSlot.zero),(LCell.mk (-8) LSlot.zero LSlot.zero)]:List LCell)) 151::pt c2 (RMark.enc (RMark.mk c3.at_ c3.next c3.done d7 (d1.cut (0:Int).toNat ((x0.slots.length:Int):Int).toNat 27) d8 d9)) 60::d6.r::pt c1 (RMark.enc zMk) 60::pt c0 (RMark.enc (mMk x0 s1 s3 s5 s9)) 60::Lr):=H
  obtain ⟨k3,m9,H⟩:=oneS (selM H [0,1,2,3,4,5] 6 rfl)
  replace H:MemL _ (k3.r::pt c8 (encs ([(LCell.mk (-7) LSlot.zero LSlot.zero),(LCell.mk (-8) LSlot.zero LSlot.zero)]:List LCell)) 151::pt c2 (RMark.enc (RMark.mk c3.at_ c3.next c3.done d7 (d1.cut (0:Int).toNat ((x0.slots.length:Int):Int).toNat 27) d8 d9)) 60::d6.r::pt c1 (RMark.enc zMk) 60::pt c0 (RMark.enc (mMk x0 s1 s3 s5 s9)) 60::Lr):=H
  have t3:LRm k3.r.holds' (d1.cut (0:Int).toNat ((x0.slots.length:Int):Int).toNat 27) k5 spCell:=LRm.mono t2 m9
  have I:=oI I
  subst I
  exact ⟨(QMark.mk c3.at_ c3.next c3.done c3.regs k5 c3.pieces c3.sent),E,d7,d6,(d1.cut (0:Int).toNat ((x0.slots.length:Int):Int).toNat 27),k3,d8,m1,d9,z8,t3,z9,c14,c10,G.to ⟨E,E,E,trivial⟩,selM H [2,3,0,4,5] 6 E⟩
 rintro c6 a w I ⟨i2,i0,i3,i1,i4,n0,l1,c36,c37,c38,c56,c98,G,H⟩
 replace I:Sh.qD x0 c6 = _:=I
 unfold Sh.qD at I
 refine aB ?_
 refine aG ?_
 refine aV G H I (fun F x a w=>match x with | j4=>∃ (u4:SV) (u1:SRes) (u5:SV) (u2:SRes) (c16:SV) (u9:List RPiece) (u6:SV) (u3:SRes),LRm u1.r.holds' u4 j4.regs spTurn ∧ LRm u2.r.holds' u5 j4.slots spCell ∧ LIn Bf c16 u9 ∧ Each (QPieceIn Bf) u9 j4.pieces ∧ LRm u3.r.holds' u6 j4.sent spInt ∧ Fr 82 [(1,.pointer (some ⟨c0,0,none⟩)),(2,.pointer (some ⟨c1,0,none⟩)),(3,.pointer (some ⟨c2,0,none⟩))] a ∧ MemL w (pt c2 (RMark.enc (mMk j4 u4 u5 c16 u6)) 60::u1.r::u2.r::u3.r::pt c1 (RMark.enc zMk) 60::pt c0 (RMark.enc (mMk x0 s1 s3 s5 s9)) 60::Lr)) (fun d12 I c92 G H=>?_) ?_
 ·refine bM mixed (by kernel_rfl) H [0,1,2,3,4] 5 E fun K=>?_
  refine aK G K 0 E (by kernel_rfl) E E E (fun w H=>(aC (off':=6) qU60 E in52 E G E E E)) fun a G=>?_
  refine aK G K 1 E (by kernel_rfl) E E E (fun w H=>(aI qA52 G E E (H.cell (i:=4) E (RMark.g_sent _)))) fun a G=>?_
  refine aK G K 5 E (by kernel_rfl) E E E (fun w H=>(aC (off':=6) qU60 E in52 E G E E E)) fun a G=>?_
  refine aK G K 6 E (by kernel_rfl) E E E (fun w H=>(aI qA52 G E E (H.cell (i:=4) E (RMark.g_sent _)))) fun a G=>?_
  refine aK G K 7 E (by kernel_rfl) E E E (fun w H=>(bQ (f10 _ (S _ (dropM H 5))) qU52 G E E)) fun a G=>?_
  refine hO K 2 3 (by kernel_rfl) E E ?_ ?_
  ·refine bY G 2 E E E E E fun w hMs H=>?_
   obtain ⟨p9,t8,I⟩:=bind_some I
   refine (aO (xs:=[.tmp 34]) Tryz.call81 G E E (fI t8 H (Bf:=Bf) (fun w H=>S _ (dropM H 5)) f10) fun v w hR=>?_)
   obtain ⟨p6,rfl,H⟩:=hR
   replace H:MemL _ (rowL 0 p6 3 p9::pt c2 (RMark.enc (mMk c6 i2 i3 i4 l1)) 60::i0.r::i1.r::pt c1 (RMark.enc zMk) 60::pt c0 (RMark.enc (mMk x0 s1 s3 s5 s9)) 60::Lr):=H
   have hMs:=selM H [1,2,3,4,5] 6 rfl
   refine ⟨_,_,hMs,H,.inl fun _ h=>h,fun a G=>?_⟩
   refine bF K 3 (by kernel_rfl) E E ?_
   refine bY G 3 E E E E E fun w hMs H=>?_
   refine (eX (X:=Int) (ys:=[(-7),(-8)]) (m:=2) qU52 in3 E E E E (by decide) (by decide) G E E (PartsE.cons E (PartsE.cons E PartsE.nil)) fun g1 w c13 m5=>?_)
   have H:=H.plus m5
   replace H:MemL _ (pt g1 (encs ([(-7),(-8)]:List Int)) 3::rowL 0 p6 3 p9::pt c2 (RMark.enc (mMk c6 i2 i3 i4 l1)) 60::i0.r::i1.r::pt c1 (RMark.enc zMk) 60::pt c0 (RMark.enc (mMk x0 s1 s3 s5 s9)) 60::Lr):=H
   have hMs:=selM H [0,2,3,4,5,6] 7 rfl
   refine ⟨_,_,hMs,H,.inl fun _ h=>dropM h 1,fun a G=>?_⟩
   refine bF K 4 (by kernel_rfl) E E ?_
   refine bY G 4 E E E E E fun w hMs H=>?_
   obtain ⟨j8,t7,I⟩:=bind_some I
   refine (dC (X:=Int) t7 qU52 in3 E E E E G E E E (H.own (X:=Int) (i:=1) E) (H.ptS (X:=Int) (i:=0) (n:=2) (c:=2) E E E (Nat.le_refl _)) fun d3 w n9=>?_)
   have H:=H.chg n9 (i:=1) rfl
   have n8:=H.rowS (X:=Int) (i:=1) rfl
   replace H:MemL _ (pt g1 (encs ([(-7),(-8)]:List Int)) 3::rowL 0 d3 3 j8::pt c2 (RMark.enc (mMk c6 i2 i3 i4 l1)) 60::i0.r::i1.r::pt c1 (RMark.enc zMk) 60::pt c0 (RMark.enc (mMk x0 s1 s3 s5 s9)) 60::Lr):=H
   have hMs:=selM H [0,2,3,4,5,6] 7 rfl
   refine ⟨_,_,hMs,H,.inl fun _ h=>h,fun a G=>?_⟩
   obtain ⟨l3,m0,I⟩:=bind_some I
   have u7:LRm (rowL 0 d3 3 j8).holds' (d3.cut (0:Int).toNat ((x0.sent.length:Int):Int).toNat 1) l3 spInt:=lO m0 rfl
   refine aK G K 8 E (by kernel_rfl) E E E (fun w H=>(eL n8 (lP m0) qU52 in3 E G E E (.inl ⟨E,E⟩) (.inr ⟨_,_,E,E⟩))) fun a G=>?_
   refine aK G K 9 E (by kernel_rfl) E E E (fun w H=>(aC (off':=6) qU60 E in52 E G E E E)) fun a G=>?_
   refine bF K 10 (by kernel_rfl) E E ?_
   refine cV 10 E E E E fun w hMs H=>?_
   refine (bI qS52 (H.obj (i:=2) E) G E E E E (by rw [RMark.len]; decide) (RMark.s_sent _ _) fun w t4=>?_)
   have H:=H.chg t4 (i:=2) rfl
   replace H:MemL _ (pt g1 (encs ([(-7),(-8)]:List Int)) 3::rowL 0 d3 3 j8::pt c2 (RMark.enc (RMark.mk c6.at_ c6.next c6.done i2 i3 i4 (d3.cut (0:Int).toNat ((x0.sent.length:Int):Int).toNat 1))) 60::i0.r::i1.r::pt c1 (RMark.enc zMk) 60::pt c0 (RMark.enc (mMk x0 s1 s3 s5 s9)) 60::Lr):=H
   have hMs:=selM H [0,2,3,4,5,6] 7 rfl
   refine ⟨_,_,hMs,H,.inr (by kernel_rfl),?_⟩
   refine bV K (by kernel_rfl) fun w H=>?_
   refine aB ?_
   replace H:MemL _ (pt g1 (encs ([(-7),(-8)]:List Int)) 3::rowL 0 d3 3 j8::pt c2 (RMark.enc (RMark.mk c6.at_ c6.next c6.done i2 i3 i4 (d3.cut (0:Int).toNat ((x0.sent.length:Int):Int).toNat 1))) 60::i0.r::i1.r::pt c1 (RMark.enc zMk) 60::pt c0 (RMark.enc (mMk x0 s1 s3 s5 s9)) 60::Lr):=H
   obtain ⟨k9,t6,H⟩:=oneS (selM H [1,0,2,3,4,5,6] 7 rfl)
   replace H:MemL _ (k9.r::pt g1 (encs ([(-7),(-8)]:List Int)) 3::pt c2 (RMark.enc (RMark.mk c6.at_ c6.next c6.done i2 i3 i4 (d3.cut (0:Int).toNat ((x0.sent.length:Int):Int).toNat 1))) 60::i0.r::i1.r::pt c1 (RMark.enc zMk) 60::pt c0 (RMark.enc (mMk x0 s1 s3 s5 s9)) 60::Lr):=H
   have u8:LRm k9.r.holds' (d3.cut (0:Int).toNat ((x0.sent.length:Int):Int).toNat 1) l3 spInt:=LRm.mono u7 t6
   have I:=oI I
   subst I
   exact ⟨(QMark.mk c6.at_ c6.next c6.done c6.regs c6.slots c6.pieces l3),E,i2,i0,i3,i1,i4,n0,(d3.cut (0:Int).toNat ((x0.sent.length:Int):Int).toNat 1),k9,c36,c37,c38,c56,u8,G.to ⟨E,E,E,trivial⟩,selM H [2,3,4,0,5,6] 7 E⟩
  refine bY G 3 E E E E E fun w hMs H=>?_
  refine (eX (X:=Int) (ys:=[(-7),(-8)]) (m:=2) qU52 in3 E E E E (by decide) (by decide) G E E (PartsE.cons E (PartsE.cons E PartsE.nil)) fun g1 w c13 m5=>?_)
  have H:=H.plus m5
  replace H:MemL _ (pt g1 (encs ([(-7),(-8)]:List Int)) 3::pt c2 (RMark.enc (mMk c6 i2 i3 i4 l1)) 60::i0.r::i1.r::pt c1 (RMark.enc zMk) 60::pt c0 (RMark.enc (mMk x0 s1 s3 s5 s9)) 60::Lr):=H
  have hMs:=selM H [0,1,2,3,4,5] 6 rfl
  refine ⟨_,_,hMs,H,.inl fun _ h=>dropM h 1,fun a G=>?_⟩
  refine bF K 2 (by kernel_rfl) E E ?_
  refine bY G 2 E E E E E fun w hMs H=>?_
  obtain ⟨p9,t8,I⟩:=bind_some I
  refine (aO (xs:=[.tmp 34]) Tryz.call81 G E E (fI t8 H (Bf:=Bf) (fun w H=>S _ (dropM H 6)) f10) fun v w hR=>?_)
  obtain ⟨p6,rfl,H⟩:=hR
  replace H:MemL _ (rowL 0 p6 3 p9::pt g1 (encs ([(-7),(-8)]:List Int)) 3::pt c2 (RMark.enc (mMk c6 i2 i3 i4 l1)) 60::i0.r::i1.r::pt c1 (RMark.enc zMk) 60::pt c0 (RMark.enc (mMk x0 s1 s3 s5 s9)) 60::Lr):=H
  have hMs:=selM H [1,2,3,4,5,6] 7 rfl
  refine ⟨_,_,hMs,H,.inl fun _ h=>h,fun a G=>?_⟩
  refine bF K 4 (by kernel_rfl) E E ?_
  refine bY G 4 E E E E E fun w hMs H=>?_
  obtain ⟨j8,t7,I⟩:=bind_some I
  refine (dC (X:=Int) t7 qU52 in3 E E E E G E E E (H.own (X:=Int) (i:=0) E) (H.ptS (X:=Int) (i:=1) (n:=2) (c:=2) E E E (Nat.le_refl _)) fun d3 w n9=>?_)
  have H:=H.chg n9 (i:=0) rfl
  have n8:=H.rowS (X:=Int) (i:=0) rfl
  replace H:MemL _ (rowL 0 d3 3 j8::pt g1 (encs ([(-7),(-8)]:List Int)) 3::pt c2 (RMark.enc (mMk c6 i2 i3 i4 l1)) 60::i0.r::i1.r::pt c1 (RMark.enc zMk) 60::pt c0 (RMark.enc (mMk x0 s1 s3 s5 s9)) 60::Lr):=H
  have hMs:=selM H [1,2,3,4,5,6] 7 rfl
  refine ⟨_,_,hMs,H,.inl fun _ h=>h,fun a G=>?_⟩
  obtain ⟨l3,m0,I⟩:=bind_some I
  have u7:LRm (rowL 0 d3 3 j8).holds' (d3.cut (0:Int).toNat ((x0.sent.length:Int):Int).toNat 1) l3 spInt:=lO m0 rfl
  refine aK G K 8 E (by kernel_rfl) E E E (fun w H=>(eL n8 (lP m0) qU52 in3 E G E E (.inl ⟨E,E⟩) (.inr ⟨_,_,E,E⟩))) fun a G=>?_
  refine aK G K 9 E (by kernel_rfl) E E E (fun w H=>(aC (off':=6) qU60 E in52 E G E E E)) fun a G=>?_
  refine bF K 10 (by kernel_rfl) E E ?_
  refine cV 10 E E E E fun w hMs H=>?_
  refine (bI qS52 (H.obj (i:=2) E) G E E E E (by rw [RMark.len]; decide) (RMark.s_sent _ _) fun w t4=>?_)
  have H:=H.chg t4 (i:=2) rfl
  replace H:MemL _ (rowL 0 d3 3 j8::pt g1 (encs ([(-7),(-8)]:List Int)) 3::pt c2 (RMark.enc (RMark.mk c6.at_ c6.next c6.done i2 i3 i4 (d3.cut (0:Int).toNat ((x0.sent.length:Int):Int).toNat 1))) 60::i0.r::i1.r::pt c1 (RMark.enc zMk) 60::pt c0 (RMark.enc (mMk x0 s1 s3 s5 s9)) 60::Lr):=H
  have hMs:=selM H [1,2,3,4,5,6] 7 rfl
  refine ⟨_,_,hMs,H,.inr (by kernel_rfl),?_⟩
  refine bV K (by kernel_rfl) fun w H=>?_
  refine aB ?_
  replace H:MemL _ (rowL 0 d3 3 j8::pt g1 (encs ([(-7),(-8)]:List Int)) 3::pt c2 (RMark.enc (RMark.mk c6.at_ c6.next c6.done i2 i3 i4 (d3.cut (0:Int).toNat ((x0.sent.length:Int):Int).toNat 1))) 60::i0.r::i1.r::pt c1 (RMark.enc zMk) 60::pt c0 (RMark.enc (mMk x0 s1 s3 s5 s9)) 60::Lr):=H
  obtain ⟨k9,t6,H⟩:=oneS (selM H [0,1,2,3,4,5,6] 7 rfl)
  replace H:MemL _ (k9.r::pt g1 (encs ([(-7),(-8)]:List Int)) 3::pt c2 (RMark.enc (RMark.mk c6.at_ c6.next c6.done i2 i3 i4 (d3.cut (0:Int).toNat ((x0.sent.length:Int):Int).toNat 1))) 60::i0.r::i1.r::pt c1 (RMark.enc zMk) 60::pt c0 (RMark.enc (mMk x0 s1 s3 s5 s9)) 60::Lr):=H
  have u8:LRm k9.r.holds' (d3.cut (0:Int).toNat ((x0.sent.length:Int):Int).toNat 1) l3 spInt:=LRm.mono u7 t6
  have I:=oI I
  subst I
  exact ⟨(QMark.mk c6.at_ c6.next c6.done c6.regs c6.slots c6.pieces l3),E,i2,i0,i3,i1,i4,n0,(d3.cut (0:Int).toNat ((x0.sent.length:Int):Int).toNat 1),k9,c36,c37,c38,c56,u8,G.to ⟨E,E,E,trivial⟩,selM H [2,3,4,0,5,6] 7 E⟩
 rintro j4 a w I ⟨u4,u1,u5,u2,c16,u9,u6,u3,c80,c81,c99,d15,c82,G,H⟩
 replace I:Sh.qE x0 j4 = _:=I
 unfold Sh.qE at I
 refine aB ?_
 refine aG ?_
 refine aD ?_
 refine aA G (aC (off':=5) qU60 E in58 E G E E E) E E E fun a G=>?_
 refine bD E E (bI qS58 (H.obj (i:=0) E) G E E E E (by rw [RMark.len]; decide) (RMark.s_pieces _ SV.nil) fun w c39=>?_)
 have H:=H.chg c39 (i:=0) rfl
 replace H:MemL _ (pt c2 (RMark.enc (mMk j4 u4 u5 SV.nil u6)) 60::u1.r::u2.r::u3.r::pt c1 (RMark.enc zMk) 60::pt c0 (RMark.enc (mMk x0 s1 s3 s5 s9)) 60::Lr):=H
 refine aJ (aB ?_)
 refine aG ?_
 refine aV G H I (fun F x a w=>match x with | c9=>∃ (i6:SV) (j5:SRes) (i7:SV) (j6:SRes) (m2:SV) (g9:List RPiece) (k8:SRes) (i8:SV) (j7:SRes),LRm j5.r.holds' i6 c9.regs spTurn ∧ LRm j6.r.holds' i7 c9.slots spCell ∧ Each (QPieceRm k8.r.holds') g9 c9.pieces ∧ LRm j7.r.holds' i8 c9.sent spInt ∧ Fr 82 [(1,.pointer (some ⟨c0,0,none⟩)),(2,.pointer (some ⟨c1,0,none⟩)),(3,.pointer (some ⟨c2,0,none⟩))] a ∧ MemL w (pt c2 (RMark.enc (mMk c9 i6 i7 m2 i8)) 60::j5.r::j6.r::rowL 0 m2 156 g9::k8.r::j7.r::pt c1 (RMark.enc zMk) 60::pt c0 (RMark.enc (mMk x0 s1 s3 s5 s9)) 60::Lr)) (fun d13 I c93 G H=>?_) ?_
 ·refine aG ?_
  refine aD ?_
  refine aA G (aH G E E) E E E fun a G=>?_
  refine aJ (aB ?_)
  refine aU ?_
  obtain ⟨c21,H⟩:=voidS H
  have c75:Each (QPieceRm c21.r.holds') ([]:List RPiece) ([]:List QPiece):=Each.nil
  have H:=H.rowNil (X:=RPiece) 0 156
  refine bU G H I (fun F x a w=>match x with | (c4,p8)=>∃ (g5:SV) (g2:SRes) (g6:SV) (g3:SRes) (g0:SV) (d5:List RPiece) (i5:SRes) (g7:SV) (g4:SRes),LRm g2.r.holds' g5 c4.regs spTurn ∧ LRm g3.r.holds' g6 c4.slots spCell ∧ Each (QPieceRm i5.r.holds') d5 c4.pieces ∧ LRm g4.r.holds' g7 c4.sent spInt ∧ Fr 82 [(4,.int .i64 p8),(1,.pointer (some ⟨c0,0,none⟩)),(2,.pointer (some ⟨c1,0,none⟩)),(3,.pointer (some ⟨c2,0,none⟩))] a ∧ MemL w (pt c2 (RMark.enc (mMk c4 g5 g6 g0 g7)) 60::g2.r::g3.r::rowL 0 g0 156 d5::i5.r::g4.r::pt c1 (RMark.enc zMk) 60::pt c0 (RMark.enc (mMk x0 s1 s3 s5 s9)) 60::Lr)) (fun G H=>⟨u4,u1,u5,u2,SV.nil,[],c21,u6,u3,c80,c81,c75,c82,G.to ⟨E,E,E,E,trivial⟩,selM H [2,3,4,0,1,5,6,7] 8 E⟩) ?_
  rintro ⟨c4,p8⟩ a w d14 I c73 ⟨g5,g2,g6,g3,g0,d5,i5,g7,g4,c17,c18,z1,c19,G,H⟩
  replace I:Sh.hA x0 c4 p8 = _:=I
  unfold Sh.hA at I
  refine aG ?_
  refine aG ?_
  refine aD ?_
  refine aA G (aF G E E) E E E fun a G=>?_
  refine aA G (aC (off':=5) qU60 E in58 E G E E E) E E E fun a G=>?_
  refine aA G (aI qA58 G E E (H.cell (i:=7) E (RMark.g_pieces _))) E E E fun a G=>?_
  refine aA G (cQ (f7 _ (S _ (dropM H 8))) q8.len qU58 G E E) E E E fun a G=>?_
  refine aA G (cK G E E E) E E E fun a G=>?_
  refine aJ (aB ?_)
  refine aT G (c:=.tmp 48) E (fun t5=>?_) (fun t5=>?_)
  ·have I:=Fx.cT t5 I
   refine aW (aB ?_)
   refine aG ?_
   refine aU ?_
   refine aG ?_
   refine aD ?_
   refine aA G (aC (off':=5) qU60 E in58 E G E E E) E E E fun a G=>?_
   refine aA G (aI qA58 G E E (H.cell (i:=7) E (RMark.g_pieces _))) E E E fun a G=>?_
   refine aA G (aF G E E) E E E fun a G=>?_
   obtain ⟨c5,z5,I⟩:=bind_some I
   have c25:=aM z5
   obtain ⟨c89,c34,c35⟩:=Each.getr q8 c25.2
   have c33:=Each.bd q8 (bH z5)
   obtain ⟨c22,p7,rfl,c67,c68⟩:=c35
   refine aA G (aS (sz:=4) (f7 _ (S _ (dropM H 8))) qU58 in156 E G E E E c33) E E E fun a G=>?_
   refine aA G (aQ qA156 qS156 G E E (RPiece.len _) (((f7 _ (S _ (dropM H 8))).elemS c34))) E E E fun a G=>?_
   refine aN G E E E (bN z156 (zs:=RPiece.zero.enc) E E fun g8 w c88 c29=>?_)
   have H:=H.plus c29
   replace H:MemL _ (pt g8 (RPiece.enc (RPiece.mk 0 0 SV.nil SV.nil)) 156::pt c2 (RMark.enc (mMk c4 g5 g6 g0 g7)) 60::g2.r::g3.r::rowL 0 g0 156 d5::i5.r::g4.r::pt c1 (RMark.enc zMk) 60::pt c0 (RMark.enc (mMk x0 s1 s3 s5 s9)) 60::Lr):=H
   intro a G
   refine bD E E (aX (vs:=_) qS156 (H.obj (i:=0) E) G E E E E (RPiece.len _) (RPiece.one _) (by first | (rw [RPiece.len,RPiece.len]; decide) | (rw [RPiece.len]; decide)) (bE ((RPiece.len _).trans (RPiece.len _).symm)) fun w c40=>?_)
   have H:=H.chg c40 (i:=0) rfl
   replace H:MemL _ (pt g8 (RPiece.enc (mPc c5 c22 p7)) 156::pt c2 (RMark.enc (mMk c4 g5 g6 g0 g7)) 60::g2.r::g3.r::rowL 0 g0 156 d5::i5.r::g4.r::pt c1 (RMark.enc zMk) 60::pt c0 (RMark.enc (mMk x0 s1 s3 s5 s9)) 60::Lr):=H
   refine aJ (aB ?_)
   refine aG ?_
   refine aD ?_
   refine aA G (aC (off':=2) qU156 E in23 E G E E E) E E E fun a G=>?_
   refine aA G (aI qA23 G E E (H.cell (i:=0) E (RPiece.g_old _))) E E E fun a G=>?_
   obtain ⟨c95,c53,I⟩:=bind_some I
   refine aN G E E E (aO (xs:=[.tmp 57]) Tryz.call90 G E E (jA c53 H (Bf:=Bf) (fun w H=>S _ (dropM H 9)) c67) fun v w hR=>?_)
   obtain ⟨d2,n5,rfl,c69,H⟩:=hR
   replace H:MemL _ (n5.r::pt g8 (RPiece.enc (mPc c5 c22 p7)) 156::pt c2 (RMark.enc (mMk c4 g5 g6 g0 g7)) 60::g2.r::g3.r::rowL 0 g0 156 d5::i5.r::g4.r::pt c1 (RMark.enc zMk) 60::pt c0 (RMark.enc (mMk x0 s1 s3 s5 s9)) 60::Lr):=H
   intro a G
   refine aA G (aC (off':=2) qU156 E in23 E G E E E) E E E fun a G=>?_
   refine bD E E (bI qS23 (H.obj (i:=1) E) G E E E E (by rw [RPiece.len]; decide) (RPiece.s_old _ _) fun w c41=>?_)
   have H:=H.chg c41 (i:=1) rfl
   replace H:MemL _ (n5.r::pt g8 (RPiece.enc (mPc c5 d2 p7)) 156::pt c2 (RMark.enc (mMk c4 g5 g6 g0 g7)) 60::g2.r::g3.r::rowL 0 g0 156 d5::i5.r::g4.r::pt c1 (RMark.enc zMk) 60::pt c0 (RMark.enc (mMk x0 s1 s3 s5 s9)) 60::Lr):=H
   refine aJ (aB ?_)
   refine aG ?_
   refine aD ?_
   refine aA G (aC (off':=3) qU156 E in23 E G E E E) E E E fun a G=>?_
   refine aA G (aI qA23 G E E (H.cell (i:=1) E (RPiece.g_new _))) E E E fun a G=>?_
   obtain ⟨c96,c54,I⟩:=bind_some I
   refine aN G E E E (aO (xs:=[.tmp 61]) Tryz.call90 G E E (jA c54 H (Bf:=Bf) (fun w H=>S _ (dropM H 10)) c68) fun v w hR=>?_)
   obtain ⟨d4,p4,rfl,c70,H⟩:=hR
   replace H:MemL _ (p4.r::n5.r::pt g8 (RPiece.enc (mPc c5 d2 p7)) 156::pt c2 (RMark.enc (mMk c4 g5 g6 g0 g7)) 60::g2.r::g3.r::rowL 0 g0 156 d5::i5.r::g4.r::pt c1 (RMark.enc zMk) 60::pt c0 (RMark.enc (mMk x0 s1 s3 s5 s9)) 60::Lr):=H
   intro a G
   refine aA G (aC (off':=3) qU156 E in23 E G E E E) E E E fun a G=>?_
   refine bD E E (bI qS23 (H.obj (i:=2) E) G E E E E (by rw [RPiece.len]; decide) (RPiece.s_new _ _) fun w c42=>?_)
   have H:=H.chg c42 (i:=2) rfl
   refine aJ (aB ?_)
   refine aD ?_
   refine aA G (aC (off':=5) qU60 E in58 E G E E E) E E E fun a G=>?_
   refine aA G (aI qA58 G E E (H.cell (i:=3) E (RMark.g_pieces _))) E E E fun a G=>?_
   refine aA G (aQ qA156 qS156 G E E (RPiece.len _) (H.cells (i:=2) E (aY (RPiece.len _)))) E E E fun a G=>?_
   refine aN G E E E (cR (X:=RPiece) (y:=(mPc c5 d2 d4)) qU58 in156 E E E E G E E E fun j3 w c83 c11=>?_)
   have H:=H.plus c11
   replace H:MemL _ (pt j3 (encs ([(mPc c5 d2 d4)]:List RPiece)) 156::p4.r::n5.r::pt g8 (RPiece.enc (mPc c5 d2 d4)) 156::pt c2 (RMark.enc (mMk c4 g5 g6 g0 g7)) 60::g2.r::g3.r::rowL 0 g0 156 d5::i5.r::g4.r::pt c1 (RMark.enc zMk) 60::pt c0 (RMark.enc (mMk x0 s1 s3 s5 s9)) 60::Lr):=H
   intro a G
   obtain ⟨c23,z6,I⟩:=bind_some I
   refine aN G E E E (fC (X:=RPiece) z6 z1.len E qU58 in156 E E E E G E E E (H.own (X:=RPiece) (i:=7) E) (H.ptS (X:=RPiece) (i:=0) (n:=1) (c:=1) E E E (Nat.le_refl _)) fun l0 w c31=>?_)
   have H:=H.chg c31 (i:=7) rfl
   replace H:MemL _ (pt j3 (encs ([(mPc c5 d2 d4)]:List RPiece)) 156::p4.r::n5.r::pt g8 (RPiece.enc (mPc c5 d2 d4)) 156::pt c2 (RMark.enc (mMk c4 g5 g6 g0 g7)) 60::g2.r::g3.r::rowL 0 l0 156 (d5 ++ [(mPc c5 d2 d4)])::i5.r::g4.r::pt c1 (RMark.enc zMk) 60::pt c0 (RMark.enc (mMk x0 s1 s3 s5 s9)) 60::Lr):=H
   obtain ⟨c79,c47,c48,H⟩:=joinS (selM H [8,2,0,1,3,4,5,6,7,9,10,11] 12 rfl)
   replace H:MemL _ (c79.r::pt j3 (encs ([(mPc c5 d2 d4)]:List RPiece)) 156::p4.r::pt g8 (RPiece.enc (mPc c5 d2 d4)) 156::pt c2 (RMark.enc (mMk c4 g5 g6 g0 g7)) 60::g2.r::g3.r::rowL 0 l0 156 (d5 ++ [(mPc c5 d2 d4)])::g4.r::pt c1 (RMark.enc zMk) 60::pt c0 (RMark.enc (mMk x0 s1 s3 s5 s9)) 60::Lr):=H
   obtain ⟨n6,z4,c49,H⟩:=joinS (selM H [0,2,1,3,4,5,6,7,8,9,10] 11 rfl)
   replace H:MemL _ (n6.r::pt j3 (encs ([(mPc c5 d2 d4)]:List RPiece)) 156::pt g8 (RPiece.enc (mPc c5 d2 d4)) 156::pt c2 (RMark.enc (mMk c4 g5 g6 g0 g7)) 60::g2.r::g3.r::rowL 0 l0 156 (d5 ++ [(mPc c5 d2 d4)])::g4.r::pt c1 (RMark.enc zMk) 60::pt c0 (RMark.enc (mMk x0 s1 s3 s5 s9)) 60::Lr):=H
   have c76:Each (QPieceRm n6.r.holds') (d5 ++ [(mPc c5 d2 d4)]) c23:=by rw [(dM z6).2]; exact (z1.mono fun _ _ q=>q.mono (fun w h=>c47 w (z4 w h))).snoc ⟨d2,d4,rfl,(c69.mono (fun w h=>c48 w (z4 w h))),(c70.mono c49)⟩
   replace H:MemL _ (n6.r::pt j3 (encs ([(mPc c5 d2 d4)]:List RPiece)) 156::pt g8 (RPiece.enc (mPc c5 d2 d4)) 156::pt c2 (RMark.enc (mMk c4 g5 g6 g0 g7)) 60::g2.r::g3.r::rowL 0 l0 156 (d5 ++ [(mPc c5 d2 d4)])::g4.r::pt c1 (RMark.enc zMk) 60::pt c0 (RMark.enc (mMk x0 s1 s3 s5 s9)) 60::Lr):=H
   intro a G
   refine aA G (aC (off':=5) qU60 E in58 E G E E E) E E E fun a G=>?_
   refine bD E E (bI qS58 (H.obj (i:=3) E) G E E E E (by rw [RMark.len]; decide) (RMark.s_pieces _ _) fun w c43=>?_)
   have H:=H.chg c43 (i:=3) rfl
   replace H:MemL _ (n6.r::pt j3 (encs ([(mPc c5 d2 d4)]:List RPiece)) 156::pt g8 (RPiece.enc (mPc c5 d2 d4)) 156::pt c2 (RMark.enc (mMk c4 g5 g6 l0 g7)) 60::g2.r::g3.r::rowL 0 l0 156 (d5 ++ [(mPc c5 d2 d4)])::g4.r::pt c1 (RMark.enc zMk) 60::pt c0 (RMark.enc (mMk x0 s1 s3 s5 s9)) 60::Lr):=H
   refine aJ (bK (aB ?_))
   refine aD ?_
   refine aA G (aF G E E) E E E fun a G=>?_
   refine aA G (bW G E E E) E E E fun a G=>?_
   refine aA G (aH G E E) E E E fun a G=>?_
   refine aJ (aB ?_)
   have I:=oI I
   subst I
   exact ⟨((QMark.mk c4.at_ c4.next c4.done c4.regs c4.slots c23 c4.sent),(IntKind.i64.wrap (p8 + 1))),E,g5,g2,g6,g3,l0,(d5 ++ [(mPc c5 d2 d4)]),n6,g7,g4,c17,c18,c76,c19,G.to ⟨E,E,E,E,trivial⟩,selM H [3,4,5,6,0,7,8,9] 10 E⟩
  have I:=Fx.cF t5 I
  refine bX (bC (bC (cO ?_)))
  refine aB ?_
  have I:=oI I
  subst I
  have I:=c73 _ rfl
  subst I
  exact ⟨c4,E,g5,g2,g6,g3,g0,d5,i5,g7,g4,c17,c18,z1,c19,G.to ⟨E,E,E,trivial⟩,H⟩
 rintro c9 a w I ⟨i6,j5,i7,j6,m2,g9,k8,i8,j7,c64,c65,z0,c66,G,H⟩
 replace I:Sh.qF x0 c9 = _:=I
 unfold Sh.qF at I
 refine aB ?_
 refine aG ?_
 refine bM mixed (by kernel_rfl) H [0,1,2,4,5,6,7] 8 E fun K=>?_
 refine aK G K 0 E (by kernel_rfl) E E E (fun w H=>(aC (off':=5) qU60 E in58 E G E E E)) fun a G=>?_
 refine aK G K 1 E (by kernel_rfl) E E E (fun w H=>(aI qA58 G E E (H.cell (i:=0) E (RMark.g_pieces _)))) fun a G=>?_
 refine aK G K 2 E (by kernel_rfl) E E E (fun w H=>(cB z156 qU156 pl156 G (parts:=[(1,.const (.int .i64 (-7)))]) E E (cJ E E (by rw [RPiece.len]; decide) (RPiece.s_from_ _ _) cN))) fun a G=>?_
 refine aK G K 3 E (by kernel_rfl) E E E (fun w H=>(cB z156 qU156 pl156 G (parts:=[(1,.const (.int .i64 (-8)))]) E E (cJ E E (by rw [RPiece.len]; decide) (RPiece.s_from_ _ _) cN))) fun a G=>?_
 refine aK G K 6 E (by kernel_rfl) E E E (fun w H=>(aC (off':=5) qU60 E in58 E G E E E)) fun a G=>?_
 refine aK G K 7 E (by kernel_rfl) E E E (fun w H=>(aI qA58 G E E (H.cell (i:=6) E (RMark.g_pieces _)))) fun a G=>?_
 refine aK G K 8 E (by kernel_rfl) E E E (fun w H=>(cQ (f7 _ (S _ (dropM H 7))) q8.len qU58 G E E)) fun a G=>?_
 refine bF K 4 (by kernel_rfl) E E ?_
 refine bY G 4 E E E E E fun w hMs H=>?_
 refine (eX (X:=RPiece) (ys:=[(RPiece.mk 0 (-7) SV.nil SV.nil),(RPiece.mk 0 (-8) SV.nil SV.nil)]) (m:=2) qU58 in156 E E E E (by decide) (by decide) G E E (PartsE.cons E (PartsE.cons E PartsE.nil)) fun j9 w c84 c12=>?_)
 have H:=H.plus c12
 replace H:MemL _ (pt j9 (encs ([(RPiece.mk 0 (-7) SV.nil SV.nil),(RPiece.mk 0 (-8) SV.nil SV.nil)]:List RPiece)) 156::pt c2 (RMark.enc (mMk c9 i6 i7 m2 i8)) 60::j5.r::j6.r::rowL 0 m2 156 g9::k8.r::j7.r::pt c1 (RMark.enc zMk) 60::pt c0 (RMark.enc (mMk x0 s1 s3 s5 s9)) 60::Lr):=H
 have hMs:=selM H [0,1,2,3,5,6,7,8] 9 rfl
 refine ⟨_,_,hMs,H,.inl fun _ h=>dropM h 1,fun a G=>?_⟩
 refine bF K 5 (by kernel_rfl) E E ?_
 refine bY G 5 E E E E E fun w hMs H=>?_
 obtain ⟨c94,z7,I⟩:=bind_some I
 refine (fC (X:=RPiece) z7 z0.len E qU58 in156 E E E E G E E E (H.own (X:=RPiece) (i:=4) E) (H.ptS (X:=RPiece) (i:=0) (n:=2) (c:=2) E E E (Nat.le_refl _)) fun i9 w c32=>?_)
 have H:=H.chg c32 (i:=4) rfl
 have c30:=H.rowS (X:=RPiece) (i:=4) rfl
 replace H:MemL _ (pt j9 (encs ([(RPiece.mk 0 (-7) SV.nil SV.nil),(RPiece.mk 0 (-8) SV.nil SV.nil)]:List RPiece)) 156::pt c2 (RMark.enc (mMk c9 i6 i7 m2 i8)) 60::j5.r::j6.r::rowL 0 i9 156 (g9 ++ [(RPiece.mk 0 (-7) SV.nil SV.nil),(RPiece.mk 0 (-8) SV.nil SV.nil)])::k8.r::j7.r::pt c1 (RMark.enc zMk) 60::pt c0 (RMark.enc (mMk x0 s1 s3 s5 s9)) 60::Lr):=H
 have hMs:=selM H [0,1,2,3,5,6,7,8] 9 rfl
 refine ⟨_,_,hMs,H,.inl fun _ h=>h,fun a G=>?_⟩
 obtain ⟨c24,c52,I⟩:=bind_some I
 obtain ⟨c55,c46,c71⟩:=aCl (X:=RPiece) (s:=i9) (e:=156) (hsp:=hspPiece) (sz:=4) z0.len (dM z7).2 rfl rfl c52 rfl
 have c77:Each (QPieceRm k8.r.holds') g9 c24:=by rw [c55]; exact z0
 refine aK G K 9 E (by kernel_rfl) E E E (fun w H=>(eL (X:=RPiece) c30 c46 qU58 in156 E G E E (.inl ⟨E,E⟩) (.inr ⟨_,_,E,E⟩))) fun a G=>?_
 refine aK G K 10 E (by kernel_rfl) E E E (fun w H=>(aC (off':=5) qU60 E in58 E G E E E)) fun a G=>?_
 refine bF K 11 (by kernel_rfl) E E ?_
 refine cV 11 E E E E fun w hMs H=>?_
 refine (bI qS58 (H.obj (i:=1) E) G E E E E (by rw [RMark.len]; decide) (RMark.s_pieces _ _) fun w c44=>?_)
 have H:=H.chg c44 (i:=1) rfl
 replace H:MemL _ (pt j9 (encs ([(RPiece.mk 0 (-7) SV.nil SV.nil),(RPiece.mk 0 (-8) SV.nil SV.nil)]:List RPiece)) 156::pt c2 (RMark.enc (RMark.mk c9.at_ c9.next c9.done i6 i7 (i9.cut (0:Int).toNat ((x0.pieces.length:Int):Int).toNat 4) i8)) 60::j5.r::j6.r::rowL 0 i9 156 (g9 ++ [(RPiece.mk 0 (-7) SV.nil SV.nil),(RPiece.mk 0 (-8) SV.nil SV.nil)])::k8.r::j7.r::pt c1 (RMark.enc zMk) 60::pt c0 (RMark.enc (mMk x0 s1 s3 s5 s9)) 60::Lr):=H
 have hMs:=selM H [0,1,2,3,5,6,7,8] 9 rfl
 refine ⟨_,_,hMs,H,.inr (by kernel_rfl),?_⟩
 refine bV K (by kernel_rfl) fun w H=>?_
 refine aB ?_
 refine aG ?_
 refine aD ?_
 refine aA G (aQ qA60 qS60 G E E (RMark.len _) (H.cells (i:=1) E (aY (RMark.len _)))) E E E fun a G=>?_
 refine bD E E (aX (vs:=_) qS60 (H.obj (i:=7) E) G E E E E (RMark.len _) (RMark.one _) (by first | (rw [RMark.len,RMark.len]; decide) | (rw [RMark.len]; decide)) (bE ((RMark.len _).trans (RMark.len _).symm)) fun w c45=>?_)
 have H:=H.chg c45 (i:=7) rfl
 refine aJ (aB ?_)
 refine c_ret ?_
 replace H:MemL _ (pt j9 (encs ([(RPiece.mk 0 (-7) SV.nil SV.nil),(RPiece.mk 0 (-8) SV.nil SV.nil)]:List RPiece)) 156::pt c2 (RMark.enc (RMark.mk c9.at_ c9.next c9.done i6 i7 (i9.cut (0:Int).toNat ((x0.pieces.length:Int):Int).toNat 4) i8)) 60::j5.r::j6.r::rowL 0 i9 156 (g9 ++ [(RPiece.mk 0 (-7) SV.nil SV.nil),(RPiece.mk 0 (-8) SV.nil SV.nil)])::k8.r::j7.r::pt c1 (RMark.enc (RMark.mk c9.at_ c9.next c9.done i6 i7 (i9.cut (0:Int).toNat ((x0.pieces.length:Int):Int).toNat 4) i8)) 60::pt c0 (RMark.enc (mMk x0 s1 s3 s5 s9)) 60::Lr):=H
 obtain ⟨p5,c50,c51,H⟩:=joinS (selM H [4,5,0,1,2,3,6,7,8] 9 rfl)
 replace H:MemL _ (p5.r::pt j9 (encs ([(RPiece.mk 0 (-7) SV.nil SV.nil),(RPiece.mk 0 (-8) SV.nil SV.nil)]:List RPiece)) 156::pt c2 (RMark.enc (RMark.mk c9.at_ c9.next c9.done i6 i7 (i9.cut (0:Int).toNat ((x0.pieces.length:Int):Int).toNat 4) i8)) 60::j5.r::j6.r::j7.r::pt c1 (RMark.enc (RMark.mk c9.at_ c9.next c9.done i6 i7 (i9.cut (0:Int).toNat ((x0.pieces.length:Int):Int).toNat 4) i8)) 60::pt c0 (RMark.enc (mMk x0 s1 s3 s5 s9)) 60::Lr):=H
 have c72:LRm p5.r.holds' (i9.cut (0:Int).toNat ((x0.pieces.length:Int):Int).toNat 4) g9 hspPiece:=LRm.mono c71 c50
 have c78:Each (QPieceRm p5.r.holds') g9 c24:=c77.mono fun _ _ q=>q.mono c51
 have I:=oI I
 subst I
 refine dJ (rs:=[.cell 2 60]) Tryz.results59 G (bZ G E qA60 qS60 (RMark.len _) (H.cells (i:=6) E (aY (RMark.len _))) cI) E ?_
 exact ⟨i6,j5,i7,j6,(i9.cut (0:Int).toNat ((x0.pieces.length:Int):Int).toNat 4),g9,p5,i8,j7,E,c64,c65,c72,c78,c66,selM H [3,4,0,5] 8 E⟩
set_option maxHeartbeats 4000000 in
theorem vR {x0:QRecord} {s1:SV} {s3:SV} {hs4:List SV} {s7:SV} {hs8:List RMark} {out:QRecord} {w0:World} {Bf:World → Prop} {Lr:List Res} (I:Sh.tZ x0 = some out) (H:MemL w0 (Lr)) (S:∀ w,MemL w Lr → Bf w) (f2:LIn Bf s1 x0.in_.ctx) (f5:LIn Bf s3 hs4) (q6:Each (LIn (X:=UInt8) Bf) hs4 x0.in_.tables) (f9:LIn Bf s7 hs8) (q10:Each (QMarkIn Bf) hs8 x0.marks):Calls Tryz.prog 35 #[.agg (RRecord.enc (mRc x0 s1 s3 s7)).toArray] w0 (Ret fun v w'=>∃ (n3:SV) (m9:SRes) (n4:SV) (l6:List SV) (n0:SRes) (n5:SV) (l7:List RMark) (l0:SRes),v = .agg (RRecord.enc (mRc out n3 n4 n5)).toArray ∧ LRm m9.r.holds' n3 out.in_.ctx spU8 ∧ Each (BytesRm n0.r.holds') l6 out.in_.tables ∧ LRm l0.r.holds' n5 l7 hspMark ∧ Each (QMarkRm l0.r.holds') l7 out.marks ∧ MemL w' (m9.r::rowL 0 n4 23 l6::n0.r::l0.r::Lr)):=by
 unfold Sh.tZ at I
 refine aR (vs:=[.agg (RRecord.enc (mRc x0 s1 s3 s7)).toArray]) Tryz.func35 E Tryz.ntmps35 E fun a G=>?_
 refine aG ?_
 refine aD ?_
 refine aN G E E E (dA G E E E fun c1 w c38 p2=>?_)
 have H:=H.plus p2
 intro a G
 refine aN G E E E (bN z36 (zs:=RRecord.zero.enc) E E fun c2 w c39 p3=>?_)
 have H:=H.plus p3
 replace H:MemL _ (pt c2 (RRecord.enc (zRc)) 36::pt c1 (RRecord.enc (mRc x0 s1 s3 s7)) 36::Lr):=H
 intro a G
 refine aJ (aB ?_)
 refine aG ?_
 refine aD ?_
 refine aA G (aC (off':=3) qU36 E in34 E G E E E) E E E fun a G=>?_
 refine aA G (aI qA34 G E E (H.cell (i:=1) E (RRecord.g_end_ _))) E E E fun a G=>?_
 refine aA G (cB z36 qU36 pl36 G (parts:=[(2,.tmp 7)]) E E (cJ E E (by rw [RRecord.len]; decide) (RRecord.s_end_ _ _) cN)) E E E fun a G=>?_
 refine aN G E E E (bN z36 (zs:=RRecord.zero.enc) E E fun c3 w c40 p4=>?_)
 have H:=H.plus p4
 replace H:MemL _ (pt c3 (RRecord.enc (zRc)) 36::pt c2 (RRecord.enc (zRc)) 36::pt c1 (RRecord.enc (mRc x0 s1 s3 s7)) 36::Lr):=H
 intro a G
 refine bD E E (aX (vs:=_) qS36 (H.obj (i:=0) E) G E E E E (RRecord.len _) (RRecord.one _) (by first | (rw [RRecord.len,RRecord.len]; decide) | (rw [RRecord.len]; decide)) (bE ((RRecord.len _).trans (RRecord.len _).symm)) fun w t5=>?_)
 have H:=H.chg t5 (i:=0) rfl
 replace H:MemL _ (pt c3 (RRecord.enc (mRc x0 SV.nil SV.nil SV.nil)) 36::pt c2 (RRecord.enc (zRc)) 36::pt c1 (RRecord.enc (mRc x0 s1 s3 s7)) 36::Lr):=H
 refine aJ (aB ?_)
 refine aG ?_
 refine aD ?_
 refine aA G (aC (off':=0) qU36 E in30 E G E E E) E E E fun a G=>?_
 refine aA G (aC (off':=0) qU30 E in23 E G E E E) E E E fun a G=>?_
 refine aA G (aI qA23 G E E ((H.cells (i:=2) E (RRecord.c_in_ _)).get 0 (RInput.g_ctx _))) E E E fun a G=>?_
 obtain ⟨c53,z2,I⟩:=bind_some I
 refine aN G E E E (aO (xs:=[.tmp 11]) Tryz.call90 G E E (jA z2 H (Bf:=Bf) (fun w H=>S _ (dropM H 3)) f2) fun v w hR=>?_)
 obtain ⟨n6,l1,rfl,z6,H⟩:=hR
 replace H:MemL _ (l1.r::pt c3 (RRecord.enc (mRc x0 SV.nil SV.nil SV.nil)) 36::pt c2 (RRecord.enc (zRc)) 36::pt c1 (RRecord.enc (mRc x0 s1 s3 s7)) 36::Lr):=H
 intro a G
 refine aA G (aC (off':=0) qU36 E in30 E G E E E) E E E fun a G=>?_
 refine aA G (aC (off':=0) qU30 E in23 E G E E E) E E E fun a G=>?_
 refine bD E E (bI qS23 (H.obj (i:=1) E) G E E E E (by rw [RRecord.len]; decide) (lD (RRecord.c_in_ _) (RInput.s_ctx _ _) (RRecord.p_in_ _ _) (by rw [RRecord.len]; decide) (by decide)) fun w t6=>?_)
 have H:=H.chg t6 (i:=1) rfl
 replace H:MemL _ (l1.r::pt c3 (RRecord.enc (mRc x0 n6 SV.nil SV.nil)) 36::pt c2 (RRecord.enc (zRc)) 36::pt c1 (RRecord.enc (mRc x0 s1 s3 s7)) 36::Lr):=H
 refine aJ (aB ?_)
 refine aG ?_
 refine aV G H I (fun F x a w=>match x with | k1=>∃ (j9:SV) (j5:SRes) (k0:SV) (j1:List SV) (j6:SRes),LRm j5.r.holds' j9 k1.ctx spU8 ∧ Each (BytesRm j6.r.holds') j1 k1.tables ∧ Fr 67 [(1,.pointer (some ⟨c1,0,none⟩)),(2,.pointer (some ⟨c2,0,none⟩)),(3,.pointer (some ⟨c3,0,none⟩))] a ∧ MemL w (pt c3 (RRecord.enc (mRc x0 j9 k0 SV.nil)) 36::j5.r::rowL 0 k0 23 j1::j6.r::pt c2 (RRecord.enc (zRc)) 36::pt c1 (RRecord.enc (mRc x0 s1 s3 s7)) 36::Lr)) (fun c55 I c44 G H=>?_) ?_
 ·refine aG ?_
  refine aD ?_
  refine aA G (aH G E E) E E E fun a G=>?_
  refine aJ (aB ?_)
  refine aU ?_
  obtain ⟨n1,H⟩:=voidS H
  have c23:Each (BytesRm n1.r.holds') ([]:List SV) ([]:List (List UInt8)):=Each.nil
  have H:=H.rowNil (X:=SV) 0 23
  refine bU G H I (fun F x a w=>match x with | (j0,k2)=>∃ (g4:SV) (g3:SRes) (g5:SV) (d3:List SV) (i4:SRes),LRm g3.r.holds' g4 j0.ctx spU8 ∧ Each (BytesRm i4.r.holds') d3 j0.tables ∧ Fr 67 [(4,.int .i64 k2),(1,.pointer (some ⟨c1,0,none⟩)),(2,.pointer (some ⟨c2,0,none⟩)),(3,.pointer (some ⟨c3,0,none⟩))] a ∧ MemL w (pt c3 (RRecord.enc (mRc x0 g4 g5 SV.nil)) 36::g3.r::rowL 0 g5 23 d3::i4.r::pt c2 (RRecord.enc (zRc)) 36::pt c1 (RRecord.enc (mRc x0 s1 s3 s7)) 36::Lr)) (fun G H=>⟨n6,l1,SV.nil,[],n1,z6,c23,G.to ⟨E,E,E,E,trivial⟩,selM H [3,2,0,1,4,5] 6 E⟩) ?_
  rintro ⟨j0,k2⟩ a w c57 I c20 ⟨g4,g3,g5,d3,i4,m6,k7,G,H⟩
  replace I:Sh.mK x0 j0 k2 = _:=I
  unfold Sh.mK at I
  refine aG ?_
  refine aG ?_
  refine aD ?_
  refine aA G (aF G E E) E E E fun a G=>?_
  refine aA G (aC (off':=0) qU36 E in30 E G E E E) E E E fun a G=>?_
  refine aA G (aC (off':=1) qU30 E in28 E G E E E) E E E fun a G=>?_
  refine aA G (aI qA28 G E E ((H.cells (i:=5) E (RRecord.c_in_ _)).get 1 (RInput.g_tables _))) E E E fun a G=>?_
  refine aA G (cQ (f5 _ (S _ (dropM H 6))) q6.len qU28 G E E) E E E fun a G=>?_
  refine aA G (cK G E E E) E E E fun a G=>?_
  refine aJ (aB ?_)
  refine aT G (c:=.tmp 20) E (fun k4=>?_) (fun k4=>?_)
  ·have I:=Fx.cT k4 I
   refine aW (aB ?_)
   refine aG ?_
   refine aU ?_
   refine bM mixed (by kernel_rfl) H [0,1,2,3,4,5] 6 E fun K=>?_
   refine aK G K 0 E (by kernel_rfl) E E E (fun w H=>(aC (off':=0) qU36 E in30 E G E E E)) fun a G=>?_
   refine aK G K 1 E (by kernel_rfl) E E E (fun w H=>(aC (off':=1) qU30 E in28 E G E E E)) fun a G=>?_
   refine aK G K 2 E (by kernel_rfl) E E E (fun w H=>(aI qA28 G E E ((H.cells (i:=0) E (RRecord.c_in_ _)).get 1 (RInput.g_tables _)))) fun a G=>?_
   refine aK G K 3 E (by kernel_rfl) E E E (fun w H=>(aC (off':=0) qU36 E in30 E G E E E)) fun a G=>?_
   refine aK G K 4 E (by kernel_rfl) E E E (fun w H=>(aC (off':=1) qU30 E in28 E G E E E)) fun a G=>?_
   refine aK G K 5 E (by kernel_rfl) E E E (fun w H=>(aI qA28 G E E ((H.cells (i:=5) E (RRecord.c_in_ _)).get 1 (RInput.g_tables _)))) fun a G=>?_
   refine aK G K 6 E (by kernel_rfl) E E E (fun w H=>(aF G E E)) fun a G=>?_
   obtain ⟨c50,l8,I⟩:=bind_some I
   have p0:=aM l8
   obtain ⟨c42,t1,t3⟩:=Each.getr q6 p0.2
   have p9:=Each.bd q6 (bH l8)
   refine aK G K 7 E (by kernel_rfl) E E E (fun w H=>(aS (sz:=1) (f5 _ (S _ (dropM H 6))) qU28 in23 E G E E E p9)) fun a G=>?_
   refine aK G K 8 E (by kernel_rfl) E E E (fun w H=>(aI qA23 G E E ((((f5 _ (S _ (dropM H 6))).elemS t1)).get 0 E))) fun a G=>?_
   refine bF K 9 (by kernel_rfl) E E ?_
   refine bY G 9 E E E E E fun w hMs H=>?_
   obtain ⟨c54,z3,I⟩:=bind_some I
   refine (aO (xs:=[.tmp 31]) Tryz.call90 G E E (jA z3 H (Bf:=Bf) (fun w H=>S _ (dropM H 6)) t3) fun v w hR=>?_)
   obtain ⟨g1,l2,rfl,z8,H⟩:=hR
   replace H:MemL _ (l2.r::pt c3 (RRecord.enc (mRc x0 g4 g5 SV.nil)) 36::g3.r::rowL 0 g5 23 d3::i4.r::pt c2 (RRecord.enc (zRc)) 36::pt c1 (RRecord.enc (mRc x0 s1 s3 s7)) 36::Lr):=H
   have hMs:=selM H [0,1,2,3,4,5,6] 7 rfl
   refine ⟨_,_,hMs,H,.inl fun _ h=>dropM h 1,fun a G=>?_⟩
   refine bF K 10 (by kernel_rfl) E E ?_
   refine bY G 10 E E E E E fun w hMs H=>?_
   refine (cR (X:=SV) (y:=g1) qU28 in23 E E E E G E E E fun i1 w c35 m3=>?_)
   have H:=H.plus m3
   replace H:MemL _ (pt i1 (encs ([g1]:List SV)) 23::l2.r::pt c3 (RRecord.enc (mRc x0 g4 g5 SV.nil)) 36::g3.r::rowL 0 g5 23 d3::i4.r::pt c2 (RRecord.enc (zRc)) 36::pt c1 (RRecord.enc (mRc x0 s1 s3 s7)) 36::Lr):=H
   have hMs:=selM H [0,1,2,3,4,5,6,7] 8 rfl
   refine ⟨_,_,hMs,H,.inl fun _ h=>dropM h 1,fun a G=>?_⟩
   refine bF K 11 (by kernel_rfl) E E ?_
   refine bY G 11 E E E E E fun w hMs H=>?_
   obtain ⟨n7,l9,I⟩:=bind_some I
   refine (fC (X:=SV) l9 k7.len E qU28 in23 E E E E G E E E (H.own (X:=SV) (i:=4) E) (H.ptS (X:=SV) (i:=0) (n:=1) (c:=1) E E E (Nat.le_refl _)) fun i8 w p6=>?_)
   have H:=H.chg p6 (i:=4) rfl
   replace H:MemL _ (pt i1 (encs ([g1]:List SV)) 23::l2.r::pt c3 (RRecord.enc (mRc x0 g4 g5 SV.nil)) 36::g3.r::rowL 0 i8 23 (d3 ++ [g1])::i4.r::pt c2 (RRecord.enc (zRc)) 36::pt c1 (RRecord.enc (mRc x0 s1 s3 s7)) 36::Lr):=H
   obtain ⟨j2,u2,u3,H⟩:=joinS (selM H [5,1,0,2,3,4,6,7] 8 rfl)
   replace H:MemL _ (j2.r::pt i1 (encs ([g1]:List SV)) 23::pt c3 (RRecord.enc (mRc x0 g4 g5 SV.nil)) 36::g3.r::rowL 0 i8 23 (d3 ++ [g1])::pt c2 (RRecord.enc (zRc)) 36::pt c1 (RRecord.enc (mRc x0 s1 s3 s7)) 36::Lr):=H
   have c24:Each (BytesRm j2.r.holds') (d3 ++ [g1]) n7:=by rw [(dM l9).2]; exact (k7.mono fun _ _ q=>q.mono u2).snoc (z8.mono u3)
   replace H:MemL _ (j2.r::pt i1 (encs ([g1]:List SV)) 23::pt c3 (RRecord.enc (mRc x0 g4 g5 SV.nil)) 36::g3.r::rowL 0 i8 23 (d3 ++ [g1])::pt c2 (RRecord.enc (zRc)) 36::pt c1 (RRecord.enc (mRc x0 s1 s3 s7)) 36::Lr):=H
   have hMs:=H
   refine ⟨_,_,hMs,H,.inr (by kernel_rfl),fun a G=>?_⟩
   refine aK G K 12 E (by kernel_rfl) E E E (fun w H=>(aC (off':=0) qU36 E in30 E G E E E)) fun a G=>?_
   refine aK G K 13 E (by kernel_rfl) E E E (fun w H=>(aC (off':=1) qU30 E in28 E G E E E)) fun a G=>?_
   refine bF K 14 (by kernel_rfl) E E ?_
   refine cV 14 E E E E fun w hMs H=>?_
   refine (bI qS28 (H.obj (i:=2) E) G E E E E (by rw [RRecord.len]; decide) (lD (RRecord.c_in_ _) (RInput.s_tables _ _) (RRecord.p_in_ _ _) (by rw [RRecord.len]; decide) (by decide)) fun w t7=>?_)
   have H:=H.chg t7 (i:=2) rfl
   replace H:MemL _ (j2.r::pt i1 (encs ([g1]:List SV)) 23::pt c3 (RRecord.enc (mRc x0 g4 i8 SV.nil)) 36::g3.r::rowL 0 i8 23 (d3 ++ [g1])::pt c2 (RRecord.enc (zRc)) 36::pt c1 (RRecord.enc (mRc x0 s1 s3 s7)) 36::Lr):=H
   have hMs:=H
   refine ⟨_,_,hMs,H,.inr (by kernel_rfl),?_⟩
   refine bV K (by kernel_rfl) fun w H=>?_
   refine bK (aB ?_)
   refine aD ?_
   refine aA G (aF G E E) E E E fun a G=>?_
   refine aA G (bW G E E E) E E E fun a G=>?_
   refine aA G (aH G E E) E E E fun a G=>?_
   refine aJ (aB ?_)
   have I:=oI I
   subst I
   exact ⟨((QInput.mk j0.ctx n7),(IntKind.i64.wrap (k2 + 1))),E,g4,g3,i8,(d3 ++ [g1]),j2,m6,c24,G.to ⟨E,E,E,E,trivial⟩,selM H [2,3,4,0,5,6] 7 E⟩
  have I:=Fx.cF k4 I
  refine bX (bC (bC (cO ?_)))
  refine aB ?_
  have I:=oI I
  subst I
  have I:=c20 _ rfl
  subst I
  exact ⟨j0,E,g4,g3,g5,d3,i4,m6,k7,G.to ⟨E,E,E,trivial⟩,H⟩
 rintro k1 a w I ⟨j9,j5,k0,j1,j6,z7,c22,G,H⟩
 replace I:Sh.vF x0 k1 = _:=I
 unfold Sh.vF at I
 refine aB ?_
 refine aG ?_
 refine aV G H I (fun F x a w=>match x with | g0=>∃ (g6:SV) (g8:SRes) (d2:SV) (g2:List SV) (g9:SRes) (i9:SV) (d9:List RMark) (i3:SRes),LRm g8.r.holds' g6 g0.in_.ctx spU8 ∧ Each (BytesRm g9.r.holds') g2 g0.in_.tables ∧ Each (QMarkRm i3.r.holds') d9 g0.marks ∧ Fr 67 [(1,.pointer (some ⟨c1,0,none⟩)),(2,.pointer (some ⟨c2,0,none⟩)),(3,.pointer (some ⟨c3,0,none⟩))] a ∧ MemL w (pt c3 (RRecord.enc (mRc g0 g6 d2 i9)) 36::g8.r::rowL 0 d2 23 g2::g9.r::rowL 0 i9 60 d9::i3.r::pt c2 (RRecord.enc (zRc)) 36::pt c1 (RRecord.enc (mRc x0 s1 s3 s7)) 36::Lr)) (fun c56 I c45 G H=>?_) ?_
 ·refine aG ?_
  refine aD ?_
  refine aA G (aH G E E) E E E fun a G=>?_
  refine aJ (aB ?_)
  refine aU ?_
  obtain ⟨n2,H⟩:=voidS H
  have c26:Each (QMarkRm n2.r.holds') ([]:List RMark) ([]:List QMark):=Each.nil
  have H:=H.rowNil (X:=RMark) 0 60
  refine bU G H I (fun F x a w=>match x with | (d0,k3)=>∃ (d6:SV) (d4:SRes) (c4:SV) (d1:List SV) (d5:SRes) (d7:SV) (c9:List RMark) (i5:SRes),LRm d4.r.holds' d6 d0.in_.ctx spU8 ∧ Each (BytesRm d5.r.holds') d1 d0.in_.tables ∧ Each (QMarkRm i5.r.holds') c9 d0.marks ∧ Fr 67 [(5,.int .i64 k3),(1,.pointer (some ⟨c1,0,none⟩)),(2,.pointer (some ⟨c2,0,none⟩)),(3,.pointer (some ⟨c3,0,none⟩))] a ∧ MemL w (pt c3 (RRecord.enc (mRc d0 d6 c4 d7)) 36::d4.r::rowL 0 c4 23 d1::d5.r::rowL 0 d7 60 c9::i5.r::pt c2 (RRecord.enc (zRc)) 36::pt c1 (RRecord.enc (mRc x0 s1 s3 s7)) 36::Lr)) (fun G H=>⟨j9,j5,k0,j1,j6,SV.nil,[],n2,z7,c22,c26,G.to ⟨E,E,E,E,trivial⟩,selM H [2,3,4,5,0,1,6,7] 8 E⟩) ?_
  rintro ⟨d0,k3⟩ a w c58 I c21 ⟨d6,d4,c4,d1,d5,d7,c9,i5,m7,m8,k9,G,H⟩
  replace I:Sh.mL x0 d0 k3 = _:=I
  unfold Sh.mL at I
  refine aG ?_
  refine aG ?_
  refine aD ?_
  refine aA G (aF G E E) E E E fun a G=>?_
  refine aA G (aC (off':=2) qU36 E in33 E G E E E) E E E fun a G=>?_
  refine aA G (aI qA33 G E E (H.cell (i:=7) E (RRecord.g_marks _))) E E E fun a G=>?_
  refine aA G (cQ (f9 _ (S _ (dropM H 8))) q10.len qU33 G E E) E E E fun a G=>?_
  refine aA G (cK G E E E) E E E fun a G=>?_
  refine aJ (aB ?_)
  refine aT G (c:=.tmp 41) E (fun k5=>?_) (fun k5=>?_)
  ·have I:=Fx.cT k5 I
   refine aW (aB ?_)
   refine aG ?_
   refine aU ?_
   refine bM mixed (by kernel_rfl) H [0,1,2,3,4,5,6,7] 8 E fun K=>?_
   refine aK G K 0 E (by kernel_rfl) E E E (fun w H=>(aC (off':=2) qU36 E in33 E G E E E)) fun a G=>?_
   refine aK G K 1 E (by kernel_rfl) E E E (fun w H=>(aI qA33 G E E (H.cell (i:=0) E (RRecord.g_marks _)))) fun a G=>?_
   refine aK G K 2 E (by kernel_rfl) E E E (fun w H=>(aC (off':=2) qU36 E in33 E G E E E)) fun a G=>?_
   refine aK G K 3 E (by kernel_rfl) E E E (fun w H=>(aI qA33 G E E (H.cell (i:=7) E (RRecord.g_marks _)))) fun a G=>?_
   refine aK G K 4 E (by kernel_rfl) E E E (fun w H=>(aF G E E)) fun a G=>?_
   obtain ⟨c51,m0,I⟩:=bind_some I
   have p1:=aM m0
   obtain ⟨c43,t2,t4⟩:=Each.getr q10 p1.2
   have t0:=Each.bd q10 (bH m0)
   obtain ⟨c46,c47,c48,c41,c49,rfl,c10,c11,c12,c27,c13⟩:=t4
   refine aK G K 5 E (by kernel_rfl) E E E (fun w H=>(aS (sz:=7) (f9 _ (S _ (dropM H 8))) qU33 in60 E G E E E t0)) fun a G=>?_
   refine aK G K 6 E (by kernel_rfl) E E E (fun w H=>(aQ qA60 qS60 G E E (RMark.len _) (((f9 _ (S _ (dropM H 8))).elemS t2)))) fun a G=>?_
   refine bF K 7 (by kernel_rfl) E E ?_
   refine bY G 7 E E E E E fun w hMs H=>?_
   obtain ⟨c0,z4,I⟩:=bind_some I
   refine (aO (xs:=[.tmp 50]) Tryz.call59 G E E (qT z4 H (Bf:=Bf) (fun w H=>S _ (dropM H 8)) c10 c11 c12 c27 c13) fun v w hR=>?_)
   obtain ⟨c5,l3,c6,j7,c7,z0,j3,c8,i7,rfl,c14,c15,c16,c28,c17,H⟩:=hR
   replace H:MemL _ (l3.r::j7.r::j3.r::i7.r::pt c3 (RRecord.enc (mRc d0 d6 c4 d7)) 36::d4.r::rowL 0 c4 23 d1::d5.r::rowL 0 d7 60 c9::i5.r::pt c2 (RRecord.enc (zRc)) 36::pt c1 (RRecord.enc (mRc x0 s1 s3 s7)) 36::Lr):=H
   have hMs:=selM H [0,1,2,3,4,5,6,7,8,9,10,11] 12 rfl
   refine ⟨_,_,hMs,H,.inl fun _ h=>dropM h 4,fun a G=>?_⟩
   refine bF K 8 (by kernel_rfl) E E ?_
   refine bY G 8 E E E E E fun w hMs H=>?_
   refine (cR (X:=RMark) (y:=(mMk c0 c5 c6 c7 c8)) qU33 in60 E E E E G E E E fun d8 w c36 m4=>?_)
   have H:=H.plus m4
   replace H:MemL _ (pt d8 (encs ([(mMk c0 c5 c6 c7 c8)]:List RMark)) 60::l3.r::j7.r::j3.r::i7.r::pt c3 (RRecord.enc (mRc d0 d6 c4 d7)) 36::d4.r::rowL 0 c4 23 d1::d5.r::rowL 0 d7 60 c9::i5.r::pt c2 (RRecord.enc (zRc)) 36::pt c1 (RRecord.enc (mRc x0 s1 s3 s7)) 36::Lr):=H
   have hMs:=selM H [0,1,2,3,4,5,6,7,8,9,10,11,12] 13 rfl
   refine ⟨_,_,hMs,H,.inl fun _ h=>dropM h 1,fun a G=>?_⟩
   refine bF K 9 (by kernel_rfl) E E ?_
   refine bY G 9 E E E E E fun w hMs H=>?_
   obtain ⟨n8,m1,I⟩:=bind_some I
   refine (fC (X:=RMark) m1 k9.len E qU33 in60 E E E E G E E E (H.own (X:=RMark) (i:=9) E) (H.ptS (X:=RMark) (i:=0) (n:=1) (c:=1) E E E (Nat.le_refl _)) fun i0 w p7=>?_)
   have H:=H.chg p7 (i:=9) rfl
   replace H:MemL _ (pt d8 (encs ([(mMk c0 c5 c6 c7 c8)]:List RMark)) 60::l3.r::j7.r::j3.r::i7.r::pt c3 (RRecord.enc (mRc d0 d6 c4 d7)) 36::d4.r::rowL 0 c4 23 d1::d5.r::rowL 0 i0 60 (c9 ++ [(mMk c0 c5 c6 c7 c8)])::i5.r::pt c2 (RRecord.enc (zRc)) 36::pt c1 (RRecord.enc (mRc x0 s1 s3 s7)) 36::Lr):=H
   obtain ⟨c32,u4,u5,H⟩:=joinS (selM H [10,1,0,2,3,4,5,6,7,8,9,11,12] 13 rfl)
   replace H:MemL _ (c32.r::pt d8 (encs ([(mMk c0 c5 c6 c7 c8)]:List RMark)) 60::j7.r::j3.r::i7.r::pt c3 (RRecord.enc (mRc d0 d6 c4 d7)) 36::d4.r::rowL 0 c4 23 d1::d5.r::rowL 0 i0 60 (c9 ++ [(mMk c0 c5 c6 c7 c8)])::pt c2 (RRecord.enc (zRc)) 36::pt c1 (RRecord.enc (mRc x0 s1 s3 s7)) 36::Lr):=H
   obtain ⟨c33,l4,u6,H⟩:=joinS (selM H [0,2,1,3,4,5,6,7,8,9,10,11] 12 rfl)
   replace H:MemL _ (c33.r::pt d8 (encs ([(mMk c0 c5 c6 c7 c8)]:List RMark)) 60::j3.r::i7.r::pt c3 (RRecord.enc (mRc d0 d6 c4 d7)) 36::d4.r::rowL 0 c4 23 d1::d5.r::rowL 0 i0 60 (c9 ++ [(mMk c0 c5 c6 c7 c8)])::pt c2 (RRecord.enc (zRc)) 36::pt c1 (RRecord.enc (mRc x0 s1 s3 s7)) 36::Lr):=H
   obtain ⟨c34,k6,l5,H⟩:=joinS (selM H [0,2,1,3,4,5,6,7,8,9,10] 11 rfl)
   replace H:MemL _ (c34.r::pt d8 (encs ([(mMk c0 c5 c6 c7 c8)]:List RMark)) 60::i7.r::pt c3 (RRecord.enc (mRc d0 d6 c4 d7)) 36::d4.r::rowL 0 c4 23 d1::d5.r::rowL 0 i0 60 (c9 ++ [(mMk c0 c5 c6 c7 c8)])::pt c2 (RRecord.enc (zRc)) 36::pt c1 (RRecord.enc (mRc x0 s1 s3 s7)) 36::Lr):=H
   obtain ⟨j4,i6,u7,H⟩:=joinS (selM H [0,2,1,3,4,5,6,7,8,9] 10 rfl)
   replace H:MemL _ (j4.r::pt d8 (encs ([(mMk c0 c5 c6 c7 c8)]:List RMark)) 60::pt c3 (RRecord.enc (mRc d0 d6 c4 d7)) 36::d4.r::rowL 0 c4 23 d1::d5.r::rowL 0 i0 60 (c9 ++ [(mMk c0 c5 c6 c7 c8)])::pt c2 (RRecord.enc (zRc)) 36::pt c1 (RRecord.enc (mRc x0 s1 s3 s7)) 36::Lr):=H
   have c29:Each (QMarkRm j4.r.holds') (c9 ++ [(mMk c0 c5 c6 c7 c8)]) n8:=by rw [(dM m1).2]; exact (k9.mono fun _ _ q=>q.mono (fun w h=>(fun w h=>(fun w h=>u4 w (l4 w h)) w (k6 w h)) w (i6 w h))).snoc ⟨c5,c6,c7,z0,c8,rfl,(c14.mono (fun w h=>(fun w h=>(fun w h=>u5 w (l4 w h)) w (k6 w h)) w (i6 w h))),(c15.mono (fun w h=>(fun w h=>u6 w (k6 w h)) w (i6 w h))),(c16.mono (fun w h=>l5 w (i6 w h))),(c28.mono fun _ _ q=>q.mono (fun w h=>l5 w (i6 w h))),(c17.mono u7)⟩
   replace H:MemL _ (j4.r::pt d8 (encs ([(mMk c0 c5 c6 c7 c8)]:List RMark)) 60::pt c3 (RRecord.enc (mRc d0 d6 c4 d7)) 36::d4.r::rowL 0 c4 23 d1::d5.r::rowL 0 i0 60 (c9 ++ [(mMk c0 c5 c6 c7 c8)])::pt c2 (RRecord.enc (zRc)) 36::pt c1 (RRecord.enc (mRc x0 s1 s3 s7)) 36::Lr):=H
   have hMs:=H
   refine ⟨_,_,hMs,H,.inr (by kernel_rfl),fun a G=>?_⟩
   refine aK G K 10 E (by kernel_rfl) E E E (fun w H=>(aC (off':=2) qU36 E in33 E G E E E)) fun a G=>?_
   refine bF K 11 (by kernel_rfl) E E ?_
   refine cV 11 E E E E fun w hMs H=>?_
   refine (bI Tryz.sizeOf33 (H.obj (i:=2) E) G E E E E (by rw [RRecord.len]; decide) (RRecord.s_marks _ _) fun w t8=>?_)
   have H:=H.chg t8 (i:=2) rfl
   replace H:MemL _ (j4.r::pt d8 (encs ([(mMk c0 c5 c6 c7 c8)]:List RMark)) 60::pt c3 (RRecord.enc (mRc d0 d6 c4 i0)) 36::d4.r::rowL 0 c4 23 d1::d5.r::rowL 0 i0 60 (c9 ++ [(mMk c0 c5 c6 c7 c8)])::pt c2 (RRecord.enc (zRc)) 36::pt c1 (RRecord.enc (mRc x0 s1 s3 s7)) 36::Lr):=H
   have hMs:=H
   refine ⟨_,_,hMs,H,.inr (by kernel_rfl),?_⟩
   refine bV K (by kernel_rfl) fun w H=>?_
   refine bK (aB ?_)
   refine aD ?_
   refine aA G (aF G E E) E E E fun a G=>?_
   refine aA G (bW G E E E) E E E fun a G=>?_
   refine aA G (aH G E E) E E E fun a G=>?_
   refine aJ (aB ?_)
   have I:=oI I
   subst I
   exact ⟨((QRecord.mk d0.in_ n8 d0.end_),(IntKind.i64.wrap (k3 + 1))),E,d6,d4,c4,d1,d5,i0,(c9 ++ [(mMk c0 c5 c6 c7 c8)]),j4,m7,m8,c29,G.to ⟨E,E,E,E,trivial⟩,selM H [2,3,4,5,6,0,7,8] 9 E⟩
  have I:=Fx.cF k5 I
  refine bX (bC (bC (cO ?_)))
  refine aB ?_
  have I:=oI I
  subst I
  have I:=c21 _ rfl
  subst I
  exact ⟨d0,E,d6,d4,c4,d1,d5,d7,c9,i5,m7,m8,k9,G.to ⟨E,E,E,trivial⟩,H⟩
 rintro g0 a w I ⟨g6,g8,d2,g2,g9,i9,d9,i3,z9,c25,k8,G,H⟩
 replace I:Sh.vG x0 g0 = _:=I
 unfold Sh.vG at I
 refine aB ?_
 refine aG ?_
 refine bM mixed (by kernel_rfl) H [0,1,2,3,5,6,7] 8 E fun K=>?_
 refine aK G K 0 E (by kernel_rfl) E E E (fun w H=>(aC (off':=2) qU36 E in33 E G E E E)) fun a G=>?_
 refine aK G K 1 E (by kernel_rfl) E E E (fun w H=>(aI qA33 G E E (H.cell (i:=0) E (RRecord.g_marks _)))) fun a G=>?_
 refine aK G K 2 E (by kernel_rfl) E E E (fun w H=>(cB z60 qU60 pl60 G (parts:=[(0,.const (.int .i64 (-7)))]) E E (cJ E E (by rw [RMark.len]; decide) (RMark.s_at_ _ _) cN))) fun a G=>?_
 refine aK G K 3 E (by kernel_rfl) E E E (fun w H=>(cB z60 qU60 pl60 G (parts:=[(0,.const (.int .i64 (-8)))]) E E (cJ E E (by rw [RMark.len]; decide) (RMark.s_at_ _ _) cN))) fun a G=>?_
 refine aK G K 6 E (by kernel_rfl) E E E (fun w H=>(aC (off':=2) qU36 E in33 E G E E E)) fun a G=>?_
 refine aK G K 7 E (by kernel_rfl) E E E (fun w H=>(aI qA33 G E E (H.cell (i:=6) E (RRecord.g_marks _)))) fun a G=>?_
 refine aK G K 8 E (by kernel_rfl) E E E (fun w H=>(cQ (f9 _ (S _ (dropM H 7))) q10.len qU33 G E E)) fun a G=>?_
 refine bF K 4 (by kernel_rfl) E E ?_
 refine bY G 4 E E E E E fun w hMs H=>?_
 refine (eX (X:=RMark) (ys:=[(RMark.mk (-7) 0 false SV.nil SV.nil SV.nil SV.nil),(RMark.mk (-8) 0 false SV.nil SV.nil SV.nil SV.nil)]) (m:=2) qU33 in60 E E E E (by decide) (by decide) G E E (PartsE.cons E (PartsE.cons E PartsE.nil)) fun i2 w c37 m5=>?_)
 have H:=H.plus m5
 replace H:MemL _ (pt i2 (encs ([(RMark.mk (-7) 0 false SV.nil SV.nil SV.nil SV.nil),(RMark.mk (-8) 0 false SV.nil SV.nil SV.nil SV.nil)]:List RMark)) 60::pt c3 (RRecord.enc (mRc g0 g6 d2 i9)) 36::g8.r::rowL 0 d2 23 g2::g9.r::rowL 0 i9 60 d9::i3.r::pt c2 (RRecord.enc (zRc)) 36::pt c1 (RRecord.enc (mRc x0 s1 s3 s7)) 36::Lr):=H
 have hMs:=selM H [0,1,2,3,4,6,7,8] 9 rfl
 refine ⟨_,_,hMs,H,.inl fun _ h=>dropM h 1,fun a G=>?_⟩
 refine bF K 5 (by kernel_rfl) E E ?_
 refine bY G 5 E E E E E fun w hMs H=>?_
 obtain ⟨c52,m2,I⟩:=bind_some I
 refine (fC (X:=RMark) m2 k8.len E qU33 in60 E E E E G E E E (H.own (X:=RMark) (i:=5) E) (H.ptS (X:=RMark) (i:=0) (n:=2) (c:=2) E E E (Nat.le_refl _)) fun g7 w p8=>?_)
 have H:=H.chg p8 (i:=5) rfl
 have p5:=H.rowS (X:=RMark) (i:=5) rfl
 replace H:MemL _ (pt i2 (encs ([(RMark.mk (-7) 0 false SV.nil SV.nil SV.nil SV.nil),(RMark.mk (-8) 0 false SV.nil SV.nil SV.nil SV.nil)]:List RMark)) 60::pt c3 (RRecord.enc (mRc g0 g6 d2 i9)) 36::g8.r::rowL 0 d2 23 g2::g9.r::rowL 0 g7 60 (d9 ++ [(RMark.mk (-7) 0 false SV.nil SV.nil SV.nil SV.nil),(RMark.mk (-8) 0 false SV.nil SV.nil SV.nil SV.nil)])::i3.r::pt c2 (RRecord.enc (zRc)) 36::pt c1 (RRecord.enc (mRc x0 s1 s3 s7)) 36::Lr):=H
 have hMs:=selM H [0,1,2,3,4,6,7,8] 9 rfl
 refine ⟨_,_,hMs,H,.inl fun _ h=>h,fun a G=>?_⟩
 obtain ⟨n9,z1,I⟩:=bind_some I
 obtain ⟨z5,u1,c18⟩:=aCl (X:=RMark) (s:=g7) (e:=60) (hsp:=hspMark) (sz:=7) k8.len (dM m2).2 rfl rfl z1 rfl
 have c30:Each (QMarkRm i3.r.holds') d9 n9:=by rw [z5]; exact k8
 refine aK G K 9 E (by kernel_rfl) E E E (fun w H=>(eL (X:=RMark) p5 u1 qU33 in60 E G E E (.inl ⟨E,E⟩) (.inr ⟨_,_,E,E⟩))) fun a G=>?_
 refine aK G K 10 E (by kernel_rfl) E E E (fun w H=>(aC (off':=2) qU36 E in33 E G E E E)) fun a G=>?_
 refine bF K 11 (by kernel_rfl) E E ?_
 refine cV 11 E E E E fun w hMs H=>?_
 refine (bI Tryz.sizeOf33 (H.obj (i:=1) E) G E E E E (by rw [RRecord.len]; decide) (RRecord.s_marks _ _) fun w t9=>?_)
 have H:=H.chg t9 (i:=1) rfl
 replace H:MemL _ (pt i2 (encs ([(RMark.mk (-7) 0 false SV.nil SV.nil SV.nil SV.nil),(RMark.mk (-8) 0 false SV.nil SV.nil SV.nil SV.nil)]:List RMark)) 60::pt c3 (RRecord.enc (RRecord.mk (RInput.mk g6 d2) (g7.cut (0:Int).toNat ((x0.marks.length:Int):Int).toNat 7) g0.end_)) 36::g8.r::rowL 0 d2 23 g2::g9.r::rowL 0 g7 60 (d9 ++ [(RMark.mk (-7) 0 false SV.nil SV.nil SV.nil SV.nil),(RMark.mk (-8) 0 false SV.nil SV.nil SV.nil SV.nil)])::i3.r::pt c2 (RRecord.enc (zRc)) 36::pt c1 (RRecord.enc (mRc x0 s1 s3 s7)) 36::Lr):=H
 have hMs:=selM H [0,1,2,3,4,6,7,8] 9 rfl
 refine ⟨_,_,hMs,H,.inr (by kernel_rfl),?_⟩
 refine bV K (by kernel_rfl) fun w H=>?_
 refine aB ?_
 refine aG ?_
 refine aD ?_
 refine aA G (aQ qA36 qS36 G E E (RRecord.len _) (H.cells (i:=1) E (aY (RRecord.len _)))) E E E fun a G=>?_
 refine bD E E (aX (vs:=_) qS36 (H.obj (i:=7) E) G E E E E (RRecord.len _) (RRecord.one _) (by first | (rw [RRecord.len,RRecord.len]; decide) | (rw [RRecord.len]; decide)) (bE ((RRecord.len _).trans (RRecord.len _).symm)) fun w u0=>?_)
 have H:=H.chg u0 (i:=7) rfl
 refine aJ (aB ?_)
 refine c_ret ?_
 replace H:MemL _ (pt i2 (encs ([(RMark.mk (-7) 0 false SV.nil SV.nil SV.nil SV.nil),(RMark.mk (-8) 0 false SV.nil SV.nil SV.nil SV.nil)]:List RMark)) 60::pt c3 (RRecord.enc (RRecord.mk (RInput.mk g6 d2) (g7.cut (0:Int).toNat ((x0.marks.length:Int):Int).toNat 7) g0.end_)) 36::g8.r::rowL 0 d2 23 g2::g9.r::rowL 0 g7 60 (d9 ++ [(RMark.mk (-7) 0 false SV.nil SV.nil SV.nil SV.nil),(RMark.mk (-8) 0 false SV.nil SV.nil SV.nil SV.nil)])::i3.r::pt c2 (RRecord.enc (RRecord.mk (RInput.mk g6 d2) (g7.cut (0:Int).toNat ((x0.marks.length:Int):Int).toNat 7) g0.end_)) 36::pt c1 (RRecord.enc (mRc x0 s1 s3 s7)) 36::Lr):=H
 obtain ⟨j8,u8,u9,H⟩:=joinS (selM H [5,6,0,1,2,3,4,7,8] 9 rfl)
 replace H:MemL _ (j8.r::pt i2 (encs ([(RMark.mk (-7) 0 false SV.nil SV.nil SV.nil SV.nil),(RMark.mk (-8) 0 false SV.nil SV.nil SV.nil SV.nil)]:List RMark)) 60::pt c3 (RRecord.enc (RRecord.mk (RInput.mk g6 d2) (g7.cut (0:Int).toNat ((x0.marks.length:Int):Int).toNat 7) g0.end_)) 36::g8.r::rowL 0 d2 23 g2::g9.r::pt c2 (RRecord.enc (RRecord.mk (RInput.mk g6 d2) (g7.cut (0:Int).toNat ((x0.marks.length:Int):Int).toNat 7) g0.end_)) 36::pt c1 (RRecord.enc (mRc x0 s1 s3 s7)) 36::Lr):=H
 have c19:LRm j8.r.holds' (g7.cut (0:Int).toNat ((x0.marks.length:Int):Int).toNat 7) d9 hspMark:=LRm.mono c18 u8
 have c31:Each (QMarkRm j8.r.holds') d9 n9:=c30.mono fun _ _ q=>q.mono u9
 have I:=oI I
 subst I
 refine dJ (rs:=[.cell 2 36]) Tryz.results35 G (bZ G E qA36 qS36 (RRecord.len _) (H.cells (i:=6) E (aY (RRecord.len _))) cI) E ?_
 exact ⟨g6,g8,d2,g2,g9,(g7.cut (0:Int).toNat ((x0.marks.length:Int):Int).toNat 7),d9,j8,E,z9,c25,c19,c31,selM H [3,4,5,0] 8 E⟩
set_option maxHeartbeats 4000000 in
theorem jV {x0:List UInt8} {s1:SV} {out:Bool} {w0:World} {Bf:World → Prop} {Lr:List Res} (I:Sh.sK x0 = some out) (H:MemL w0 (Lr)) (S:∀ w,MemL w Lr → Bf w) (f2:LRm Bf s1 x0 spU8):Calls Tryz.prog 93 #[(s1).v] w0 (Ret fun v w'=>v = .bool out ∧ MemL w' (Lr)):=by
 unfold Sh.sK at I
 refine aR (vs:=[(s1).v]) Tryz.func93 E Tryz.ntmps93 E fun a G=>?_
 refine aG ?_
 refine aD ?_
 refine aA G (aH G E E) E E E fun a G=>?_
 refine aJ (aB ?_)
 refine aG ?_
 refine aD ?_
 refine aA G (aF G E E) E E E fun a G=>?_
 refine aA G (aF G E E) E E E fun a G=>?_
 refine aA G (bQ (LRm.toIn f2 _ (S _ (dropM H 0))) qU23 G E E) E E E fun a G=>?_
 refine aA G (bW G E E E) E E E fun a G=>?_
 obtain ⟨hc14,I⟩:=cH I
 refine aA G (oT (f2 _ (S _ (dropM H 0))) qU23 in5 G E E E hc14) E E E fun a G=>?_
 refine aA G (aH G E E) E E E fun a G=>?_
 refine aJ (aB ?_)
 refine aG ?_
 refine aV G H I (fun F x a w=>match x with | v21=>Fr 24 [(2,.bool v21)] a ∧ MemL w (Lr)) (fun c1 I c0 G H=>?_) ?_
 ·refine aD ?_
  refine aA G (aF G E E) E E E fun a G=>?_
  refine aA G (aF G E E) E E E fun a G=>?_
  refine aA G (bQ (LRm.toIn f2 _ (S _ (dropM H 0))) qU23 G E E) E E E fun a G=>?_
  obtain ⟨x22,hx22,I⟩:=bind_some I
  have h0x22:=aM hx22
  refine aA G (aS (sz:=1) ((LRm.full f2) _ (S _ (dropM H 0))) qU23 in5 E G E E E (bH hx22)) E E E fun a G=>?_
  refine aA G (aI qA5 G E E (((((LRm.full f2) _ (S _ (dropM H 0))).elemS h0x22.2)).get 0 E)) E E E fun a G=>?_
  refine aA G (dG G E E E) E E E fun a G=>?_
  refine aA G (aF G E E) E E E fun a G=>?_
  refine bG 15 G E (fun hb23=>?_) (fun hb23=>?_)
  ·have I:=Fx.cT hb23 I
   refine aL G E E E hb23 (aF G E E) E E fun a G=>?_
   refine aL G E E E hb23 (aF G E E) E E fun a G=>?_
   refine aL G E E E hb23 (bQ (LRm.toIn f2 _ (S _ (dropM H 0))) qU23 G E E) E E fun a G=>?_
   refine aL G E E E hb23 (bW G E E E) E E fun a G=>?_
   obtain ⟨x24,hx24,I⟩:=bind_some I
   have h0x24:=aM hx24
   refine aL G E E E hb23 (aS (sz:=1) ((LRm.full f2) _ (S _ (dropM H 0))) qU23 in5 E G E E E (bH hx24)) E E fun a G=>?_
   refine aL G E E E hb23 (aI qA5 G E E (((((LRm.full f2) _ (S _ (dropM H 0))).elemS h0x24.2)).get 0 E)) E E fun a G=>?_
   refine aL G E E E hb23 (dG G E E E) E E fun a G=>?_
   refine aA G (aP G E E hb23 E) E E E fun a G=>?_
   refine aA G (aH G E E) E E E fun a G=>?_
   refine aJ (aB ?_)
   have I:=oI I
   subst I
   exact ⟨(decide ((x24.toNat:Int) = 162)),E,G.to ⟨E,trivial⟩,H⟩
  have I:=Fx.cF hb23 I
  refine aE G E E E hb23 E E fun a G=>?_
  refine aE G E E E hb23 E E fun a G=>?_
  refine aE G E E E hb23 E E fun a G=>?_
  refine aE G E E E hb23 E E fun a G=>?_
  refine aE G E E E hb23 E E fun a G=>?_
  refine aE G E E E hb23 E E fun a G=>?_
  refine aE G E E E hb23 E E fun a G=>?_
  refine aA G (aZ G E E hb23 E) E E E fun a G=>?_
  refine aA G (aH G E E) E E E fun a G=>?_
  refine aJ (aB ?_)
  have I:=oI I
  subst I
  exact ⟨false,E,G.to ⟨E,trivial⟩,H⟩
 rintro v21 a w I ⟨G,H⟩
 replace I:Sh.vK v21 = _:=I
 unfold Sh.vK at I
 refine aB ?_
 refine c_ret ?_
 have I:=oI I
 subst I
 refine bJ Tryz.results93 G E ?_
 exact ⟨E,H⟩
set_option maxHeartbeats 4000000 in
theorem qS {x0:QMark} {x1:QMark} {s1:SV} {s3:SV} {s5:SV} {hs6:List RPiece} {s9:SV} {s11:SV} {s13:SV} {s15:SV} {hs16:List RPiece} {s19:SV} {out:Bool} {w0:World} {Bf:World → Prop} {Lr:List Res} (I:Sh.oM x0 x1 = some out) (H:MemL w0 (Lr)) (S:∀ w,MemL w Lr → Bf w) (f2:LRm Bf s1 x0.regs spTurn) (f4:LRm Bf s3 x0.slots spCell) (f7:LRm Bf s5 hs6 hspPiece) (q8:Each (QPieceRm Bf) hs6 x0.pieces) (f10:LRm Bf s9 x0.sent spInt) (f12:LIn Bf s11 x1.regs) (f14:LIn Bf s13 x1.slots) (f17:LIn Bf s15 hs16) (q18:Each (QPieceIn Bf) hs16 x1.pieces) (f20:LIn Bf s19 x1.sent):Calls Tryz.prog 63 #[.agg (RMark.enc (mMk x0 s1 s3 s5 s9)).toArray,.agg (RMark.enc (mMk x1 s11 s13 s15 s19)).toArray] w0 (Ret fun v w'=>v = .bool out ∧ MemL w' (Lr)):=by
 unfold Sh.oM at I
 refine aR (vs:=[.agg (RMark.enc (mMk x0 s1 s3 s5 s9)).toArray,.agg (RMark.enc (mMk x1 s11 s13 s15 s19)).toArray]) Tryz.func63 E Tryz.ntmps63 E fun a G=>?_
 refine aG ?_
 refine aD ?_
 refine aN G E E E (dA G E E E fun c8 w l6 i9=>?_)
 have H:=H.plus i9
 intro a G
 refine aN G E E E (dA G E E E fun d4 w l7 j0=>?_)
 have H:=H.plus j0
 replace H:MemL _ (pt d4 (RMark.enc (mMk x1 s11 s13 s15 s19)) 60::pt c8 (RMark.enc (mMk x0 s1 s3 s5 s9)) 60::Lr):=H
 intro a G
 refine aA G (aH G E E) E E E fun a G=>?_
 refine aJ (aB ?_)
 refine aG ?_
 refine aD ?_
 refine aA G (aC (off':=3) qU60 E in56 E G E E E) E E E fun a G=>?_
 refine aA G (aI qA56 G E E (H.cell (i:=1) E (RMark.g_regs _))) E E E fun a G=>?_
 refine aA G (aC (off':=3) qU60 E in56 E G E E E) E E E fun a G=>?_
 refine aA G (aI qA56 G E E (H.cell (i:=1) E (RMark.g_regs _))) E E E fun a G=>?_
 refine aA G (bQ (LRm.toIn f2 _ (S _ (dropM H 2))) qU56 G E E) E E E fun a G=>?_
 refine aA G (bW G E E E) E E E fun a G=>?_
 obtain ⟨k3,I⟩:=cH I
 refine aA G (oT (f2 _ (S _ (dropM H 2))) qU56 in128 G E E E k3) E E E fun a G=>?_
 refine aA G (aH G E E) E E E fun a G=>?_
 refine aJ (aB ?_)
 refine aG ?_
 refine aD ?_
 refine aA G (aC (off':=4) qU60 E in57 E G E E E) E E E fun a G=>?_
 refine aA G (aI qA57 G E E (H.cell (i:=1) E (RMark.g_slots _))) E E E fun a G=>?_
 refine aA G (aC (off':=4) qU60 E in57 E G E E E) E E E fun a G=>?_
 refine aA G (aI qA57 G E E (H.cell (i:=1) E (RMark.g_slots _))) E E E fun a G=>?_
 refine aA G (bQ (LRm.toIn f4 _ (S _ (dropM H 2))) qU57 G E E) E E E fun a G=>?_
 refine aA G (bW G E E E) E E E fun a G=>?_
 obtain ⟨k4,I⟩:=cH I
 refine aA G (oT (f4 _ (S _ (dropM H 2))) qU57 in151 G E E E k4) E E E fun a G=>?_
 refine aA G (aH G E E) E E E fun a G=>?_
 refine aJ (aB ?_)
 refine aG ?_
 refine aD ?_
 refine aA G (aC (off':=6) qU60 E in52 E G E E E) E E E fun a G=>?_
 refine aA G (aI qA52 G E E (H.cell (i:=1) E (RMark.g_sent _))) E E E fun a G=>?_
 refine aA G (aC (off':=6) qU60 E in52 E G E E E) E E E fun a G=>?_
 refine aA G (aI qA52 G E E (H.cell (i:=1) E (RMark.g_sent _))) E E E fun a G=>?_
 refine aA G (bQ (LRm.toIn f10 _ (S _ (dropM H 2))) qU52 G E E) E E E fun a G=>?_
 refine aA G (bW G E E E) E E E fun a G=>?_
 obtain ⟨k5,I⟩:=cH I
 refine aA G (oT (f10 _ (S _ (dropM H 2))) qU52 in3 G E E E k5) E E E fun a G=>?_
 refine aA G (aH G E E) E E E fun a G=>?_
 refine aJ (aB ?_)
 refine aG ?_
 refine aD ?_
 refine aA G (aC (off':=5) qU60 E in58 E G E E E) E E E fun a G=>?_
 refine aA G (aI qA58 G E E (H.cell (i:=1) E (RMark.g_pieces _))) E E E fun a G=>?_
 refine aA G (aC (off':=5) qU60 E in58 E G E E E) E E E fun a G=>?_
 refine aA G (aI qA58 G E E (H.cell (i:=1) E (RMark.g_pieces _))) E E E fun a G=>?_
 refine aA G (cQ (LRm.toIn f7 _ (S _ (dropM H 2))) q8.len qU58 G E E) E E E fun a G=>?_
 refine aA G (bW G E E E) E E E fun a G=>?_
 obtain ⟨k6,I⟩:=cH I
 refine aA G (oT (f7 _ (S _ (dropM H 2))) qU58 in156 G E E E (by rw [q8.len]; exact k6)) E E E fun a G=>?_
 refine aA G (aH G E E) E E E fun a G=>?_
 refine aJ (aB ?_)
 refine aG ?_
 refine aG ?_
 refine aV G H I (fun F x a w=>match x with | d5=>Fr 147 [(83,.bool d5),(2,.pointer (some ⟨c8,0,none⟩)),(4,.bool false),(7,((stretch s9)).v),(8,((stretch s5)).v)] a ∧ MemL w (pt c8 (RMark.enc (mMk x0 s1 s3 s5 s9)) 60::Lr)) (fun p9 I m8 G H=>?_) ?_
 ·refine aD ?_
  refine aA G (aQ qA60 qS60 G E E (RMark.len _) (H.cells (i:=1) E (aY (RMark.len _)))) E E E fun a G=>?_
  refine aA G (aQ qA60 qS60 G E E (RMark.len _) (H.cells (i:=0) E (aY (RMark.len _)))) E E E fun a G=>?_
  obtain ⟨p7,k7,I⟩:=bind_some I
  refine aN G E E E (aO (xs:=[.tmp 38,.tmp 39]) Tryz.call33 G E E (eE k7 H (Bf:=Bf) (fun w H=>S _ (dropM H 2)) (LRm.toIn f2) (LRm.toIn f4) (LRm.toIn f7) (q8.mono fun _ _ q=>q.toIn) (LRm.toIn f10) f12 f14 f17 q18 f20) fun v w hR=>?_)
  obtain ⟨rfl,H⟩:=hR
  replace H:MemL _ (pt d4 (RMark.enc (mMk x1 s11 s13 s15 s19)) 60::pt c8 (RMark.enc (mMk x0 s1 s3 s5 s9)) 60::Lr):=H
  intro a G
  refine aA G (dF G E E) E E E fun a G=>?_
  refine aA G (aF G E E) E E E fun a G=>?_
  refine bG 42 G E (fun c3=>?_) (fun c3=>?_)
  ·have I:=Fx.cT c3 I
   refine aE G E E E c3 E E fun a G=>?_
   refine aE G E E E c3 E E fun a G=>?_
   refine aE G E E E c3 E E fun a G=>?_
   refine aE G E E E c3 E E fun a G=>?_
   refine aE G E E E c3 E E fun a G=>?_
   refine aE G E E E c3 E E fun a G=>?_
   refine aE G E E E c3 E E fun a G=>?_
   refine aE G E E E c3 E E fun a G=>?_
   refine aA G (aP G E E c3 E) E E E fun a G=>?_
   refine aA G (aF G E E) E E E fun a G=>?_
   refine aE G E E E E E E fun a G=>?_
   refine aE G E E E E E E fun a G=>?_
   refine aE G E E E E E E fun a G=>?_
   refine aE G E E E E E E fun a G=>?_
   refine aE G E E E E E E fun a G=>?_
   refine aE G E E E E E E fun a G=>?_
   refine aE G E E E E E E fun a G=>?_
   refine aE G E E E E E E fun a G=>?_
   refine aE G E E E E E E fun a G=>?_
   refine aA G (aP G E E E E) E E E fun a G=>?_
   refine aA G (aF G E E) E E E fun a G=>?_
   refine aE G E E E E E E fun a G=>?_
   refine aE G E E E E E E fun a G=>?_
   refine aE G E E E E E E fun a G=>?_
   refine aE G E E E E E E fun a G=>?_
   refine aE G E E E E E E fun a G=>?_
   refine aE G E E E E E E fun a G=>?_
   refine aE G E E E E E E fun a G=>?_
   refine aE G E E E E E E fun a G=>?_
   refine aA G (aP G E E E E) E E E fun a G=>?_
   refine aA G (aF G E E) E E E fun a G=>?_
   refine aE G E E E E E E fun a G=>?_
   refine aE G E E E E E E fun a G=>?_
   refine aE G E E E E E E fun a G=>?_
   refine aE G E E E E E E fun a G=>?_
   refine aE G E E E E E E fun a G=>?_
   refine aE G E E E E E E fun a G=>?_
   refine aE G E E E E E E fun a G=>?_
   refine aE G E E E E E E fun a G=>?_
   refine aE G E E E E E E fun a G=>?_
   refine aA G (aP G E E E E) E E E fun a G=>?_
   refine aJ (aB ?_)
   have I:=oI I
   subst I
   exact ⟨true,E,G.to ⟨E,E,E,E,E,trivial⟩,selM H [1] 2 E⟩
  have I:=Fx.cF c3 I
  refine aL G E E E c3 (aF G E E) E E fun a G=>?_
  refine aL G E E E c3 (aC (off':=3) qU60 E in56 E G E E E) E E fun a G=>?_
  refine aL G E E E c3 (aI qA56 G E E (H.cell (i:=1) E (RMark.g_regs _))) E E fun a G=>?_
  refine aL G E E E c3 (bQ (LRm.toIn f2 _ (S _ (dropM H 2))) qU56 G E E) E E fun a G=>?_
  obtain ⟨n9,d8,I⟩:=bind_some I
  have g9:=aM d8
  refine aL G E E E c3 (aS (sz:=9) ((LRm.full f2) _ (S _ (dropM H 2))) qU56 in128 E G E E E (bH d8)) E E fun a G=>?_
  refine aL G E E E c3 (aC qU128 E in3 E G E E E) E E fun a G=>?_
  refine aL G E E E c3 (aI qA3 G E E (((((LRm.full f2) _ (S _ (dropM H 2))).elemS g9.2)).get 0 (LTurn.g_reg _))) E E fun a G=>?_
  refine aL G E E E c3 (dD G E E E) E E fun a G=>?_
  refine aA G (aZ G E E c3 E) E E E fun a G=>?_
  refine aA G (aF G E E) E E E fun a G=>?_
  refine bG 52 G E (fun c0=>?_) (fun c0=>?_)
  ·have I:=Fx.cT c0 I
   refine aE G E E E c0 E E fun a G=>?_
   refine aE G E E E c0 E E fun a G=>?_
   refine aE G E E E c0 E E fun a G=>?_
   refine aE G E E E c0 E E fun a G=>?_
   refine aE G E E E c0 E E fun a G=>?_
   refine aE G E E E c0 E E fun a G=>?_
   refine aE G E E E c0 E E fun a G=>?_
   refine aE G E E E c0 E E fun a G=>?_
   refine aE G E E E c0 E E fun a G=>?_
   refine aA G (aP G E E c0 E) E E E fun a G=>?_
   refine aA G (aF G E E) E E E fun a G=>?_
   refine aE G E E E E E E fun a G=>?_
   refine aE G E E E E E E fun a G=>?_
   refine aE G E E E E E E fun a G=>?_
   refine aE G E E E E E E fun a G=>?_
   refine aE G E E E E E E fun a G=>?_
   refine aE G E E E E E E fun a G=>?_
   refine aE G E E E E E E fun a G=>?_
   refine aE G E E E E E E fun a G=>?_
   refine aA G (aP G E E E E) E E E fun a G=>?_
   refine aA G (aF G E E) E E E fun a G=>?_
   refine aE G E E E E E E fun a G=>?_
   refine aE G E E E E E E fun a G=>?_
   refine aE G E E E E E E fun a G=>?_
   refine aE G E E E E E E fun a G=>?_
   refine aE G E E E E E E fun a G=>?_
   refine aE G E E E E E E fun a G=>?_
   refine aE G E E E E E E fun a G=>?_
   refine aE G E E E E E E fun a G=>?_
   refine aE G E E E E E E fun a G=>?_
   refine aA G (aP G E E E E) E E E fun a G=>?_
   refine aJ (aB ?_)
   have I:=oI I
   subst I
   exact ⟨true,E,G.to ⟨E,E,E,E,E,trivial⟩,selM H [1] 2 E⟩
  have I:=Fx.cF c0 I
  refine aL G E E E c0 (aF G E E) E E fun a G=>?_
  refine aL G E E E c0 (aC (off':=3) qU60 E in56 E G E E E) E E fun a G=>?_
  refine aL G E E E c0 (aI qA56 G E E (H.cell (i:=1) E (RMark.g_regs _))) E E fun a G=>?_
  refine aL G E E E c0 (bQ (LRm.toIn f2 _ (S _ (dropM H 2))) qU56 G E E) E E fun a G=>?_
  refine aL G E E E c0 (bW G E E E) E E fun a G=>?_
  obtain ⟨p0,d9,I⟩:=bind_some I
  have i0:=aM d9
  refine aL G E E E c0 (aS (sz:=9) ((LRm.full f2) _ (S _ (dropM H 2))) qU56 in128 E G E E E (bH d9)) E E fun a G=>?_
  refine aL G E E E c0 (aC qU128 E in3 E G E E E) E E fun a G=>?_
  refine aL G E E E c0 (aI qA3 G E E (((((LRm.full f2) _ (S _ (dropM H 2))).elemS i0.2)).get 0 (LTurn.g_reg _))) E E fun a G=>?_
  refine aL G E E E c0 (dD G E E E) E E fun a G=>?_
  refine aA G (aZ G E E c0 E) E E E fun a G=>?_
  refine aA G (aF G E E) E E E fun a G=>?_
  refine bG 63 G E (fun c4=>?_) (fun c4=>?_)
  ·have I:=Fx.cT c4 I
   refine aE G E E E c4 E E fun a G=>?_
   refine aE G E E E c4 E E fun a G=>?_
   refine aE G E E E c4 E E fun a G=>?_
   refine aE G E E E c4 E E fun a G=>?_
   refine aE G E E E c4 E E fun a G=>?_
   refine aE G E E E c4 E E fun a G=>?_
   refine aE G E E E c4 E E fun a G=>?_
   refine aE G E E E c4 E E fun a G=>?_
   refine aA G (aP G E E c4 E) E E E fun a G=>?_
   refine aA G (aF G E E) E E E fun a G=>?_
   refine aE G E E E E E E fun a G=>?_
   refine aE G E E E E E E fun a G=>?_
   refine aE G E E E E E E fun a G=>?_
   refine aE G E E E E E E fun a G=>?_
   refine aE G E E E E E E fun a G=>?_
   refine aE G E E E E E E fun a G=>?_
   refine aE G E E E E E E fun a G=>?_
   refine aE G E E E E E E fun a G=>?_
   refine aE G E E E E E E fun a G=>?_
   refine aA G (aP G E E E E) E E E fun a G=>?_
   refine aJ (aB ?_)
   have I:=oI I
   subst I
   exact ⟨true,E,G.to ⟨E,E,E,E,E,trivial⟩,selM H [1] 2 E⟩
  have I:=Fx.cF c4 I
  refine aL G E E E c4 (aF G E E) E E fun a G=>?_
  refine aL G E E E c4 (aC (off':=4) qU60 E in57 E G E E E) E E fun a G=>?_
  refine aL G E E E c4 (aI qA57 G E E (H.cell (i:=1) E (RMark.g_slots _))) E E fun a G=>?_
  refine aL G E E E c4 (bQ (LRm.toIn f4 _ (S _ (dropM H 2))) qU57 G E E) E E fun a G=>?_
  obtain ⟨p1,g0,I⟩:=bind_some I
  have i1:=aM g0
  refine aL G E E E c4 (aS (sz:=27) ((LRm.full f4) _ (S _ (dropM H 2))) qU57 in151 E G E E E (bH g0)) E E fun a G=>?_
  refine aL G E E E c4 (aC qU151 E in3 E G E E E) E E fun a G=>?_
  refine aL G E E E c4 (aI qA3 G E E (((((LRm.full f4) _ (S _ (dropM H 2))).elemS i1.2)).get 0 (LCell.g_slot _))) E E fun a G=>?_
  refine aL G E E E c4 (dD G E E E) E E fun a G=>?_
  refine aA G (aZ G E E c4 E) E E E fun a G=>?_
  refine aA G (aF G E E) E E E fun a G=>?_
  refine bG 73 G E (fun c1=>?_) (fun c1=>?_)
  ·have I:=Fx.cT c1 I
   refine aE G E E E c1 E E fun a G=>?_
   refine aE G E E E c1 E E fun a G=>?_
   refine aE G E E E c1 E E fun a G=>?_
   refine aE G E E E c1 E E fun a G=>?_
   refine aE G E E E c1 E E fun a G=>?_
   refine aE G E E E c1 E E fun a G=>?_
   refine aE G E E E c1 E E fun a G=>?_
   refine aE G E E E c1 E E fun a G=>?_
   refine aE G E E E c1 E E fun a G=>?_
   refine aA G (aP G E E c1 E) E E E fun a G=>?_
   refine aJ (aB ?_)
   have I:=oI I
   subst I
   exact ⟨true,E,G.to ⟨E,E,E,E,E,trivial⟩,selM H [1] 2 E⟩
  have I:=Fx.cF c1 I
  refine aL G E E E c1 (aF G E E) E E fun a G=>?_
  refine aL G E E E c1 (aC (off':=4) qU60 E in57 E G E E E) E E fun a G=>?_
  refine aL G E E E c1 (aI qA57 G E E (H.cell (i:=1) E (RMark.g_slots _))) E E fun a G=>?_
  refine aL G E E E c1 (bQ (LRm.toIn f4 _ (S _ (dropM H 2))) qU57 G E E) E E fun a G=>?_
  refine aL G E E E c1 (bW G E E E) E E fun a G=>?_
  obtain ⟨l3,g1,I⟩:=bind_some I
  have i2:=aM g1
  refine aL G E E E c1 (aS (sz:=27) ((LRm.full f4) _ (S _ (dropM H 2))) qU57 in151 E G E E E (bH g1)) E E fun a G=>?_
  refine aL G E E E c1 (aC qU151 E in3 E G E E E) E E fun a G=>?_
  refine aL G E E E c1 (aI qA3 G E E (((((LRm.full f4) _ (S _ (dropM H 2))).elemS i2.2)).get 0 (LCell.g_slot _))) E E fun a G=>?_
  refine aL G E E E c1 (dD G E E E) E E fun a G=>?_
  refine aA G (aZ G E E c1 E) E E E fun a G=>?_
  refine aJ (aB ?_)
  have I:=oI I
  subst I
  exact ⟨(!decide (l3.slot = (-8))),E,G.to ⟨E,E,E,E,E,trivial⟩,selM H [1] 2 E⟩
 rintro d5 a w I ⟨G,H⟩
 replace I:Sh.nK x0 d5 = _:=I
 unfold Sh.nK at I
 refine aB ?_
 refine aT G (c:=.tmp 83) E (fun d0=>?_) (fun d0=>?_)
 ·have I:=Fx.cT d0 I
  refine aG ?_
  refine aD ?_
  refine aA G (aH G E E) E E E fun a G=>?_
  refine aJ (aB ?_)
  refine c_ret ?_
  have I:=oI I
  subst I
  refine bJ qR63 G E ?_
  exact ⟨E,selM H [] 1 E⟩
 have I:=Fx.cF d0 I
 refine aW (aB ?_)
 refine aG ?_
 refine aG ?_
 refine aV G H I (fun F x a w=>match x with | d6=>Fr 147 [(121,.bool d6),(2,.pointer (some ⟨c8,0,none⟩)),(4,.bool false)] a ∧ MemL w (pt c8 (RMark.enc (mMk x0 s1 s3 s5 s9)) 60::Lr)) (fun t0 I m9 G H=>?_) ?_
 ·refine aD ?_
  refine aA G (aF G E E) E E E fun a G=>?_
  refine aA G (aC (off':=6) qU60 E in52 E G E E E) E E E fun a G=>?_
  refine aA G (aI qA52 G E E (H.cell (i:=0) E (RMark.g_sent _))) E E E fun a G=>?_
  refine aA G (bQ (LRm.toIn f10 _ (S _ (dropM H 1))) qU52 G E E) E E E fun a G=>?_
  obtain ⟨p2,g2,I⟩:=bind_some I
  have i3:=aM g2
  refine aA G (aS (sz:=1) ((LRm.full f10) _ (S _ (dropM H 1))) qU52 in3 E G E E E (bH g2)) E E E fun a G=>?_
  refine aA G (aI qA3 G E E (((((LRm.full f10) _ (S _ (dropM H 1))).elemS i3.2)).get 0 E)) E E E fun a G=>?_
  refine aA G (dD G E E E) E E E fun a G=>?_
  refine aA G (aF G E E) E E E fun a G=>?_
  refine bG 91 G E (fun c5=>?_) (fun c5=>?_)
  ·have I:=Fx.cT c5 I
   refine aE G E E E c5 E E fun a G=>?_
   refine aE G E E E c5 E E fun a G=>?_
   refine aE G E E E c5 E E fun a G=>?_
   refine aE G E E E c5 E E fun a G=>?_
   refine aE G E E E c5 E E fun a G=>?_
   refine aE G E E E c5 E E fun a G=>?_
   refine aE G E E E c5 E E fun a G=>?_
   refine aE G E E E c5 E E fun a G=>?_
   refine aA G (aP G E E c5 E) E E E fun a G=>?_
   refine aA G (aF G E E) E E E fun a G=>?_
   refine aE G E E E E E E fun a G=>?_
   refine aE G E E E E E E fun a G=>?_
   refine aE G E E E E E E fun a G=>?_
   refine aE G E E E E E E fun a G=>?_
   refine aE G E E E E E E fun a G=>?_
   refine aE G E E E E E E fun a G=>?_
   refine aE G E E E E E E fun a G=>?_
   refine aE G E E E E E E fun a G=>?_
   refine aA G (aP G E E E E) E E E fun a G=>?_
   refine aA G (aF G E E) E E E fun a G=>?_
   refine aE G E E E E E E fun a G=>?_
   refine aE G E E E E E E fun a G=>?_
   refine aE G E E E E E E fun a G=>?_
   refine aE G E E E E E E fun a G=>?_
   refine aE G E E E E E E fun a G=>?_
   refine aE G E E E E E E fun a G=>?_
   refine aE G E E E E E E fun a G=>?_
   refine aE G E E E E E E fun a G=>?_
   refine aE G E E E E E E fun a G=>?_
   refine aA G (aP G E E E E) E E E fun a G=>?_
   refine aJ (aB ?_)
   have I:=oI I
   subst I
   exact ⟨true,E,G.to ⟨E,E,E,trivial⟩,H⟩
  have I:=Fx.cF c5 I
  refine aL G E E E c5 (aF G E E) E E fun a G=>?_
  refine aL G E E E c5 (aC (off':=6) qU60 E in52 E G E E E) E E fun a G=>?_
  refine aL G E E E c5 (aI qA52 G E E (H.cell (i:=0) E (RMark.g_sent _))) E E fun a G=>?_
  refine aL G E E E c5 (bQ (LRm.toIn f10 _ (S _ (dropM H 1))) qU52 G E E) E E fun a G=>?_
  refine aL G E E E c5 (bW G E E E) E E fun a G=>?_
  obtain ⟨p3,g3,I⟩:=bind_some I
  have i4:=aM g3
  refine aL G E E E c5 (aS (sz:=1) ((LRm.full f10) _ (S _ (dropM H 1))) qU52 in3 E G E E E (bH g3)) E E fun a G=>?_
  refine aL G E E E c5 (aI qA3 G E E (((((LRm.full f10) _ (S _ (dropM H 1))).elemS i4.2)).get 0 E)) E E fun a G=>?_
  refine aL G E E E c5 (dD G E E E) E E fun a G=>?_
  refine aA G (aZ G E E c5 E) E E E fun a G=>?_
  refine aA G (aF G E E) E E E fun a G=>?_
  refine bG 101 G E (fun c6=>?_) (fun c6=>?_)
  ·have I:=Fx.cT c6 I
   refine aE G E E E c6 E E fun a G=>?_
   refine aE G E E E c6 E E fun a G=>?_
   refine aE G E E E c6 E E fun a G=>?_
   refine aE G E E E c6 E E fun a G=>?_
   refine aE G E E E c6 E E fun a G=>?_
   refine aE G E E E c6 E E fun a G=>?_
   refine aE G E E E c6 E E fun a G=>?_
   refine aE G E E E c6 E E fun a G=>?_
   refine aA G (aP G E E c6 E) E E E fun a G=>?_
   refine aA G (aF G E E) E E E fun a G=>?_
   refine aE G E E E E E E fun a G=>?_
   refine aE G E E E E E E fun a G=>?_
   refine aE G E E E E E E fun a G=>?_
   refine aE G E E E E E E fun a G=>?_
   refine aE G E E E E E E fun a G=>?_
   refine aE G E E E E E E fun a G=>?_
   refine aE G E E E E E E fun a G=>?_
   refine aE G E E E E E E fun a G=>?_
   refine aE G E E E E E E fun a G=>?_
   refine aA G (aP G E E E E) E E E fun a G=>?_
   refine aJ (aB ?_)
   have I:=oI I
   subst I
   exact ⟨true,E,G.to ⟨E,E,E,trivial⟩,H⟩
  have I:=Fx.cF c6 I
  refine aL G E E E c6 (aF G E E) E E fun a G=>?_
  refine aL G E E E c6 (aC (off':=5) qU60 E in58 E G E E E) E E fun a G=>?_
  refine aL G E E E c6 (aI qA58 G E E (H.cell (i:=0) E (RMark.g_pieces _))) E E fun a G=>?_
  refine aL G E E E c6 (cQ (LRm.toIn f7 _ (S _ (dropM H 1))) q8.len qU58 G E E) E E fun a G=>?_
  obtain ⟨p4,g4,I⟩:=bind_some I
  have i5:=aM g4
  obtain ⟨l8,j5,j9⟩:=Each.getr (mT q8) i5.2
  have j1:=Each.bd (mT q8) (bH g4)
  obtain ⟨n1,n2,rfl,m2,m3⟩:=j9
  refine aL G E E E c6 (aS (sz:=4) ((LRm.full f7) _ (S _ (dropM H 1))) qU58 in156 E G E E E j1) E E fun a G=>?_
  refine aL G E E E c6 (aC qU156 E in3 E G E E E) E E fun a G=>?_
  refine aL G E E E c6 (aI qA3 G E E (((((LRm.full f7) _ (S _ (dropM H 1))).elemS j5)).get 1 (RPiece.g_from_ _))) E E fun a G=>?_
  refine aL G E E E c6 (dD G E E E) E E fun a G=>?_
  refine aA G (aZ G E E c6 E) E E E fun a G=>?_
  refine aA G (aF G E E) E E E fun a G=>?_
  refine bG 111 G E (fun c2=>?_) (fun c2=>?_)
  ·have I:=Fx.cT c2 I
   refine aE G E E E c2 E E fun a G=>?_
   refine aE G E E E c2 E E fun a G=>?_
   refine aE G E E E c2 E E fun a G=>?_
   refine aE G E E E c2 E E fun a G=>?_
   refine aE G E E E c2 E E fun a G=>?_
   refine aE G E E E c2 E E fun a G=>?_
   refine aE G E E E c2 E E fun a G=>?_
   refine aE G E E E c2 E E fun a G=>?_
   refine aE G E E E c2 E E fun a G=>?_
   refine aA G (aP G E E c2 E) E E E fun a G=>?_
   refine aJ (aB ?_)
   have I:=oI I
   subst I
   exact ⟨true,E,G.to ⟨E,E,E,trivial⟩,H⟩
  have I:=Fx.cF c2 I
  refine aL G E E E c2 (aF G E E) E E fun a G=>?_
  refine aL G E E E c2 (aC (off':=5) qU60 E in58 E G E E E) E E fun a G=>?_
  refine aL G E E E c2 (aI qA58 G E E (H.cell (i:=0) E (RMark.g_pieces _))) E E fun a G=>?_
  refine aL G E E E c2 (cQ (LRm.toIn f7 _ (S _ (dropM H 1))) q8.len qU58 G E E) E E fun a G=>?_
  refine aL G E E E c2 (bW G E E E) E E fun a G=>?_
  obtain ⟨l4,g5,I⟩:=bind_some I
  have i6:=aM g5
  obtain ⟨l9,j6,k0⟩:=Each.getr (mT q8) i6.2
  have j2:=Each.bd (mT q8) (bH g5)
  obtain ⟨n3,n4,rfl,m4,m5⟩:=k0
  refine aL G E E E c2 (aS (sz:=4) ((LRm.full f7) _ (S _ (dropM H 1))) qU58 in156 E G E E E j2) E E fun a G=>?_
  refine aL G E E E c2 (aC qU156 E in3 E G E E E) E E fun a G=>?_
  refine aL G E E E c2 (aI qA3 G E E (((((LRm.full f7) _ (S _ (dropM H 1))).elemS j6)).get 1 (RPiece.g_from_ _))) E E fun a G=>?_
  refine aL G E E E c2 (dD G E E E) E E fun a G=>?_
  refine aA G (aZ G E E c2 E) E E E fun a G=>?_
  refine aJ (aB ?_)
  have I:=oI I
  subst I
  exact ⟨(!decide (l4.from_ = (-8))),E,G.to ⟨E,E,E,trivial⟩,H⟩
 rintro d6 a w I ⟨G,H⟩
 replace I:Sh.nL x0 d6 = _:=I
 unfold Sh.nL at I
 refine aB ?_
 refine aT G (c:=.tmp 121) E (fun d1=>?_) (fun d1=>?_)
 ·have I:=Fx.cT d1 I
  refine aG ?_
  refine aD ?_
  refine aA G (aH G E E) E E E fun a G=>?_
  refine aJ (aB ?_)
  refine c_ret ?_
  have I:=oI I
  subst I
  refine bJ qR63 G E ?_
  exact ⟨E,selM H [] 1 E⟩
 have I:=Fx.cF d1 I
 refine aW (aB ?_)
 refine aG ?_
 refine aV G H I (fun F x a w=>match x with | _=>Fr 147 [(4,.bool false)] a ∧ MemL w (Lr)) (fun t1 I l2 G H=>?_) ?_
 ·refine aG ?_
  refine aD ?_
  refine aA G (aH G E E) E E E fun a G=>?_
  refine aJ (aB ?_)
  refine aU ?_
  refine bU G H I (fun F x a w=>match x with | c9=>Fr 147 [(9,.int .i64 c9),(2,.pointer (some ⟨c8,0,none⟩)),(4,.bool false)] a ∧ MemL w (pt c8 (RMark.enc (mMk x0 s1 s3 s5 s9)) 60::Lr)) (fun G H=>⟨G.to ⟨E,E,E,trivial⟩,H⟩) ?_
  rintro c9 a w t3 I g8 ⟨G,H⟩
  replace I:Sh.nM x0 c9 = _:=I
  unfold Sh.nM at I
  refine aG ?_
  refine aG ?_
  refine aD ?_
  refine aA G (aF G E E) E E E fun a G=>?_
  refine aA G (aC (off':=5) qU60 E in58 E G E E E) E E E fun a G=>?_
  refine aA G (aI qA58 G E E (H.cell (i:=0) E (RMark.g_pieces _))) E E E fun a G=>?_
  refine aA G (cQ (LRm.toIn f7 _ (S _ (dropM H 1))) q8.len qU58 G E E) E E E fun a G=>?_
  refine aA G (cK G E E E) E E E fun a G=>?_
  refine aJ (aB ?_)
  refine aT G (c:=.tmp 126) E (fun d2=>?_) (fun d2=>?_)
  ·have I:=Fx.cT d2 I
   refine aW (aB ?_)
   refine aG ?_
   refine aU ?_
   refine aG ?_
   refine aV G H I (fun F x a w=>match x with | d7=>Fr 147 [(146,.bool d7),(2,.pointer (some ⟨c8,0,none⟩)),(4,.bool false),(9,.int .i64 c9)] a ∧ MemL w (pt c8 (RMark.enc (mMk x0 s1 s3 s5 s9)) 60::Lr)) (fun t2 I n0 G H=>?_) ?_
   ·refine aD ?_
    refine aA G (aC (off':=5) qU60 E in58 E G E E E) E E E fun a G=>?_
    refine aA G (aI qA58 G E E (H.cell (i:=0) E (RMark.g_pieces _))) E E E fun a G=>?_
    refine aA G (aF G E E) E E E fun a G=>?_
    obtain ⟨p5,g6,I⟩:=bind_some I
    have i7:=aM g6
    obtain ⟨m0,j7,k1⟩:=Each.getr q8 i7.2
    have j3:=Each.bd q8 (bH g6)
    obtain ⟨n5,n6,rfl,l0,m6⟩:=k1
    refine aA G (aS (sz:=4) (LRm.toIn f7 _ (S _ (dropM H 1))) qU58 in156 E G E E E j3) E E E fun a G=>?_
    refine aA G (aC qU156 E in23 E G E E E) E E E fun a G=>?_
    refine aA G (aI qA23 G E E ((((LRm.toIn f7 _ (S _ (dropM H 1))).elemS j7)).get 2 (RPiece.g_old _))) E E E fun a G=>?_
    obtain ⟨p8,k8,I⟩:=bind_some I
    refine aN G E E E (aO (xs:=[.tmp 134]) Tryz.call93 G E E (jV k8 H (Bf:=Bf) (fun w H=>S _ (dropM H 1)) l0) fun v w hR=>?_)
    obtain ⟨rfl,H⟩:=hR
    replace H:MemL _ (pt c8 (RMark.enc (mMk x0 s1 s3 s5 s9)) 60::Lr):=H
    intro a G
    refine aA G (dF G E E) E E E fun a G=>?_
    refine aA G (aF G E E) E E E fun a G=>?_
    refine bG 137 G E (fun c7=>?_) (fun c7=>?_)
    ·have I:=Fx.cT c7 I
     refine aE G E E E c7 E E fun a G=>?_
     refine aE G E E E c7 E E fun a G=>?_
     refine aE G E E E c7 E E fun a G=>?_
     refine aE G E E E c7 E E fun a G=>?_
     refine aE G E E E c7 E E fun a G=>?_
     refine aE G E E E c7 E E fun a G=>?_
     refine aE G E E E c7 E E fun a G=>?_
     refine aE G E E E c7 E E fun a G=>?_
     refine aA G (aP G E E c7 E) E E E fun a G=>?_
     refine aJ (aB ?_)
     have I:=oI I
     subst I
     exact ⟨true,E,G.to ⟨E,E,E,E,trivial⟩,H⟩
    have I:=Fx.cF c7 I
    refine aL G E E E c7 (aC (off':=5) qU60 E in58 E G E E E) E E fun a G=>?_
    refine aL G E E E c7 (aI qA58 G E E (H.cell (i:=0) E (RMark.g_pieces _))) E E fun a G=>?_
    refine aL G E E E c7 (aF G E E) E E fun a G=>?_
    obtain ⟨p6,g7,I⟩:=bind_some I
    have i8:=aM g7
    obtain ⟨m1,j8,k2⟩:=Each.getr q8 i8.2
    have j4:=Each.bd q8 (bH g7)
    obtain ⟨n7,n8,rfl,m7,l1⟩:=k2
    refine aL G E E E c7 (aS (sz:=4) (LRm.toIn f7 _ (S _ (dropM H 1))) qU58 in156 E G E E E j4) E E fun a G=>?_
    refine aL G E E E c7 (aC qU156 E in23 E G E E E) E E fun a G=>?_
    refine aL G E E E c7 (aI qA23 G E E ((((LRm.toIn f7 _ (S _ (dropM H 1))).elemS j8)).get 3 (RPiece.g_new _))) E E fun a G=>?_
    obtain ⟨l5,k9,I⟩:=bind_some I
    refine dV G E E E c7 E E (aO (xs:=[.tmp 143]) Tryz.call93 G E E (jV k9 H (Bf:=Bf) (fun w H=>S _ (dropM H 1)) l1) fun v w hR=>?_)
    obtain ⟨rfl,H⟩:=hR
    replace H:MemL _ (pt c8 (RMark.enc (mMk x0 s1 s3 s5 s9)) 60::Lr):=H
    intro a G
    refine aL G E E E c7 (dF G E E) E E fun a G=>?_
    refine aA G (aZ G E E c7 E) E E E fun a G=>?_
    refine aJ (aB ?_)
    have I:=oI I
    subst I
    exact ⟨(!l5),E,G.to ⟨E,E,E,E,trivial⟩,H⟩
   rintro d7 a w I ⟨G,H⟩
   replace I:Sh.qB c9 d7 = _:=I
   unfold Sh.qB at I
   refine aB ?_
   refine aT G (c:=.tmp 146) E (fun d3=>?_) (fun d3=>?_)
   ·have I:=Fx.cT d3 I
    refine aG ?_
    refine aD ?_
    refine aA G (aH G E E) E E E fun a G=>?_
    refine aJ (aB ?_)
    refine c_ret ?_
    have I:=oI I
    subst I
    have I:=g8 _ rfl
    subst I
    have I:=dE l2
    subst I
    refine bJ qR63 G E ?_
    exact ⟨E,selM H [] 1 E⟩
   have I:=Fx.cF d3 I
   refine aW (bK (aB ?_))
   refine aD ?_
   refine aA G (aF G E E) E E E fun a G=>?_
   refine aA G (bW G E E E) E E E fun a G=>?_
   refine aA G (aH G E E) E E E fun a G=>?_
   refine aJ (aB ?_)
   have I:=oI I
   subst I
   exact ⟨(IntKind.i64.wrap (c9 + 1)),E,G.to ⟨E,E,E,trivial⟩,H⟩
  have I:=Fx.cF d2 I
  refine bX (bC (bC (cO ?_)))
  refine aB ?_
  have I:=oI I
  subst I
  have I:=g8 _ rfl
  subst I
  exact ⟨(),E,G.to ⟨E,trivial⟩,selM H [] 1 E⟩
 rintro ⟨⟩ a w I ⟨G,H⟩
 replace I:Sh.tY = _:=I
 unfold Sh.tY at I
 refine aB ?_
 refine aG ?_
 refine aD ?_
 refine aA G (aH G E E) E E E fun a G=>?_
 refine aJ (aB ?_)
 refine c_ret ?_
 have I:=oI I
 subst I
 refine bJ qR63 G E ?_
 exact ⟨E,H⟩
set_option maxHeartbeats 4000000 in
theorem vQ {x0:QRecord} {x1:QRecord} {s1:SV} {s3:SV} {hs4:List SV} {s7:SV} {hs8:List RMark} {s11:SV} {s13:SV} {hs14:List SV} {s17:SV} {hs18:List RMark} {out:Bool} {w0:World} {Bf:World → Prop} {Lr:List Res} (I:Sh.tX x0 x1 = some out) (H:MemL w0 (Lr)) (S:∀ w,MemL w Lr → Bf w) (f2:LRm Bf s1 x0.in_.ctx spU8) (f5:LIn Bf s3 hs4) (q6:Each (BytesRm Bf) hs4 x0.in_.tables) (f9:LRm Bf s7 hs8 hspMark) (q10:Each (QMarkRm Bf) hs8 x0.marks) (f12:LIn Bf s11 x1.in_.ctx) (f15:LIn Bf s13 hs14) (q16:Each (LIn (X:=UInt8) Bf) hs14 x1.in_.tables) (f19:LIn Bf s17 hs18) (q20:Each (QMarkIn Bf) hs18 x1.marks):Calls Tryz.prog 38 #[.agg (RRecord.enc (mRc x0 s1 s3 s7)).toArray,.agg (RRecord.enc (mRc x1 s11 s13 s17)).toArray] w0 (Ret fun v w'=>v = .bool out ∧ MemL w' (Lr)):=by
 unfold Sh.tX at I
 refine aR (vs:=[.agg (RRecord.enc (mRc x0 s1 s3 s7)).toArray,.agg (RRecord.enc (mRc x1 s11 s13 s17)).toArray]) Tryz.func38 E Tryz.ntmps38 E fun a G=>?_
 refine aG ?_
 refine aD ?_
 refine aN G E E E (dA G E E E fun c2 w l0 g5=>?_)
 have H:=H.plus g5
 intro a G
 refine aN G E E E (dA G E E E fun c3 w l1 g6=>?_)
 have H:=H.plus g6
 replace H:MemL _ (pt c3 (RRecord.enc (mRc x1 s11 s13 s17)) 36::pt c2 (RRecord.enc (mRc x0 s1 s3 s7)) 36::Lr):=H
 intro a G
 refine aA G (aH G E E) E E E fun a G=>?_
 refine aJ (aB ?_)
 refine aG ?_
 refine aD ?_
 refine aA G (aC (off':=2) qU36 E in33 E G E E E) E E E fun a G=>?_
 refine aA G (aI qA33 G E E (H.cell (i:=1) E (RRecord.g_marks _))) E E E fun a G=>?_
 refine aA G (aC (off':=2) qU36 E in33 E G E E E) E E E fun a G=>?_
 refine aA G (aI qA33 G E E (H.cell (i:=1) E (RRecord.g_marks _))) E E E fun a G=>?_
 refine aA G (cQ (LRm.toIn f9 _ (S _ (dropM H 2))) q10.len qU33 G E E) E E E fun a G=>?_
 refine aA G (bW G E E E) E E E fun a G=>?_
 obtain ⟨j2,I⟩:=cH I
 refine aA G (oT (f9 _ (S _ (dropM H 2))) qU33 in60 G E E E (by rw [q10.len]; exact j2)) E E E fun a G=>?_
 refine aA G (aH G E E) E E E fun a G=>?_
 refine aJ (aB ?_)
 refine aG ?_
 refine aG ?_
 refine aV G H I (fun F x a w=>match x with | d2=>Fr 82 [(46,.bool d2),(2,.pointer (some ⟨c2,0,none⟩)),(3,.pointer (some ⟨c3,0,none⟩)),(4,.bool false)] a ∧ MemL w (pt c3 (RRecord.enc (mRc x1 s11 s13 s17)) 36::pt c2 (RRecord.enc (mRc x0 s1 s3 s7)) 36::Lr)) (fun t6 I m9 G H=>?_) ?_
 ·refine aD ?_
  refine aA G (aQ qA36 qS36 G E E (RRecord.len _) (H.cells (i:=1) E (aY (RRecord.len _)))) E E E fun a G=>?_
  refine aA G (aQ qA36 qS36 G E E (RRecord.len _) (H.cells (i:=0) E (aY (RRecord.len _)))) E E E fun a G=>?_
  obtain ⟨t3,j3,I⟩:=bind_some I
  refine aN G E E E (aO (xs:=[.tmp 15,.tmp 16]) Tryz.call27 G E E (eY j3 H (Bf:=Bf) (fun w H=>S _ (dropM H 2)) (LRm.toIn f2) f5 (q6.mono fun _ _ q=>q.toIn) (LRm.toIn f9) (q10.mono fun _ _ q=>q.toIn) f12 f15 q16 f19 q20) fun v w hR=>?_)
  obtain ⟨rfl,H⟩:=hR
  replace H:MemL _ (pt c3 (RRecord.enc (mRc x1 s11 s13 s17)) 36::pt c2 (RRecord.enc (mRc x0 s1 s3 s7)) 36::Lr):=H
  intro a G
  refine aA G (dF G E E) E E E fun a G=>?_
  refine aA G (aF G E E) E E E fun a G=>?_
  refine bG 19 G E (fun c1=>?_) (fun c1=>?_)
  ·have I:=Fx.cT c1 I
   refine aE G E E E c1 E E fun a G=>?_
   refine aE G E E E c1 E E fun a G=>?_
   refine aE G E E E c1 E E fun a G=>?_
   refine aE G E E E c1 E E fun a G=>?_
   refine aE G E E E c1 E E fun a G=>?_
   refine aE G E E E c1 E E fun a G=>?_
   refine aE G E E E c1 E E fun a G=>?_
   refine aE G E E E c1 E E fun a G=>?_
   refine aA G (aP G E E c1 E) E E E fun a G=>?_
   refine aA G (aF G E E) E E E fun a G=>?_
   refine aE G E E E E E E fun a G=>?_
   refine aE G E E E E E E fun a G=>?_
   refine aE G E E E E E E fun a G=>?_
   refine aE G E E E E E E fun a G=>?_
   refine aE G E E E E E E fun a G=>?_
   refine aE G E E E E E E fun a G=>?_
   refine aE G E E E E E E fun a G=>?_
   refine aE G E E E E E E fun a G=>?_
   refine aE G E E E E E E fun a G=>?_
   refine aA G (aP G E E E E) E E E fun a G=>?_
   refine aA G (aF G E E) E E E fun a G=>?_
   refine aE G E E E E E E fun a G=>?_
   refine aE G E E E E E E fun a G=>?_
   refine aE G E E E E E E fun a G=>?_
   refine aE G E E E E E E fun a G=>?_
   refine aE G E E E E E E fun a G=>?_
   refine aA G (aP G E E E E) E E E fun a G=>?_
   refine aJ (aB ?_)
   have I:=oI I
   subst I
   exact ⟨true,E,G.to ⟨E,E,E,E,trivial⟩,H⟩
  have I:=Fx.cF c1 I
  refine aL G E E E c1 (aF G E E) E E fun a G=>?_
  refine aL G E E E c1 (aC (off':=2) qU36 E in33 E G E E E) E E fun a G=>?_
  refine aL G E E E c1 (aI qA33 G E E (H.cell (i:=1) E (RRecord.g_marks _))) E E fun a G=>?_
  refine aL G E E E c1 (cQ (LRm.toIn f9 _ (S _ (dropM H 2))) q10.len qU33 G E E) E E fun a G=>?_
  obtain ⟨p8,d3,I⟩:=bind_some I
  have g0:=aM d3
  obtain ⟨l6,i2,i7⟩:=Each.getr (oL q10) g0.2
  have g7:=Each.bd (oL q10) (bH d3)
  obtain ⟨n2,n3,n4,l2,n5,rfl,m1,m2,m3,n0,m4⟩:=i7
  refine aL G E E E c1 (aS (sz:=7) ((LRm.full f9) _ (S _ (dropM H 2))) qU33 in60 E G E E E g7) E E fun a G=>?_
  refine aL G E E E c1 (aC qU60 E in3 E G E E E) E E fun a G=>?_
  refine aL G E E E c1 (aI qA3 G E E (((((LRm.full f9) _ (S _ (dropM H 2))).elemS i2)).get 0 (RMark.g_at_ _))) E E fun a G=>?_
  refine aL G E E E c1 (dD G E E E) E E fun a G=>?_
  refine aA G (aZ G E E c1 E) E E E fun a G=>?_
  refine aA G (aF G E E) E E E fun a G=>?_
  refine bG 29 G E (fun c0=>?_) (fun c0=>?_)
  ·have I:=Fx.cT c0 I
   refine aE G E E E c0 E E fun a G=>?_
   refine aE G E E E c0 E E fun a G=>?_
   refine aE G E E E c0 E E fun a G=>?_
   refine aE G E E E c0 E E fun a G=>?_
   refine aE G E E E c0 E E fun a G=>?_
   refine aE G E E E c0 E E fun a G=>?_
   refine aE G E E E c0 E E fun a G=>?_
   refine aE G E E E c0 E E fun a G=>?_
   refine aE G E E E c0 E E fun a G=>?_
   refine aA G (aP G E E c0 E) E E E fun a G=>?_
   refine aA G (aF G E E) E E E fun a G=>?_
   refine aE G E E E E E E fun a G=>?_
   refine aE G E E E E E E fun a G=>?_
   refine aE G E E E E E E fun a G=>?_
   refine aE G E E E E E E fun a G=>?_
   refine aE G E E E E E E fun a G=>?_
   refine aA G (aP G E E E E) E E E fun a G=>?_
   refine aJ (aB ?_)
   have I:=oI I
   subst I
   exact ⟨true,E,G.to ⟨E,E,E,E,trivial⟩,H⟩
  have I:=Fx.cF c0 I
  refine aL G E E E c0 (aF G E E) E E fun a G=>?_
  refine aL G E E E c0 (aC (off':=2) qU36 E in33 E G E E E) E E fun a G=>?_
  refine aL G E E E c0 (aI qA33 G E E (H.cell (i:=1) E (RRecord.g_marks _))) E E fun a G=>?_
  refine aL G E E E c0 (cQ (LRm.toIn f9 _ (S _ (dropM H 2))) q10.len qU33 G E E) E E fun a G=>?_
  refine aL G E E E c0 (bW G E E E) E E fun a G=>?_
  obtain ⟨p9,d4,I⟩:=bind_some I
  have g1:=aM d4
  obtain ⟨l7,i3,i8⟩:=Each.getr (oL q10) g1.2
  have g8:=Each.bd (oL q10) (bH d4)
  obtain ⟨n6,n7,n8,l3,n9,rfl,m5,m6,m7,n1,m8⟩:=i8
  refine aL G E E E c0 (aS (sz:=7) ((LRm.full f9) _ (S _ (dropM H 2))) qU33 in60 E G E E E g8) E E fun a G=>?_
  refine aL G E E E c0 (aC qU60 E in3 E G E E E) E E fun a G=>?_
  refine aL G E E E c0 (aI qA3 G E E (((((LRm.full f9) _ (S _ (dropM H 2))).elemS i3)).get 0 (RMark.g_at_ _))) E E fun a G=>?_
  refine aL G E E E c0 (dD G E E E) E E fun a G=>?_
  refine aA G (aZ G E E c0 E) E E E fun a G=>?_
  refine aA G (aF G E E) E E E fun a G=>?_
  refine bG 40 G E (fun c4=>?_) (fun c4=>?_)
  ·have I:=Fx.cT c4 I
   refine aE G E E E c4 E E fun a G=>?_
   refine aE G E E E c4 E E fun a G=>?_
   refine aE G E E E c4 E E fun a G=>?_
   refine aE G E E E c4 E E fun a G=>?_
   refine aE G E E E c4 E E fun a G=>?_
   refine aA G (aP G E E c4 E) E E E fun a G=>?_
   refine aJ (aB ?_)
   have I:=oI I
   subst I
   exact ⟨true,E,G.to ⟨E,E,E,E,trivial⟩,H⟩
  have I:=Fx.cF c4 I
  refine aL G E E E c4 (aC (off':=0) qU36 E in30 E G E E E) E E fun a G=>?_
  refine aL G E E E c4 (aC (off':=0) qU30 E in23 E G E E E) E E fun a G=>?_
  refine aL G E E E c4 (aI qA23 G E E ((H.cells (i:=1) E (RRecord.c_in_ _)).get 0 (RInput.g_ctx _))) E E fun a G=>?_
  obtain ⟨k9,j4,I⟩:=bind_some I
  refine dV G E E E c4 E E (aO (xs:=[.tmp 43]) Tryz.call93 G E E (jV j4 H (Bf:=Bf) (fun w H=>S _ (dropM H 2)) f2) fun v w hR=>?_)
  obtain ⟨rfl,H⟩:=hR
  replace H:MemL _ (pt c3 (RRecord.enc (mRc x1 s11 s13 s17)) 36::pt c2 (RRecord.enc (mRc x0 s1 s3 s7)) 36::Lr):=H
  intro a G
  refine aL G E E E c4 (dF G E E) E E fun a G=>?_
  refine aA G (aZ G E E c4 E) E E E fun a G=>?_
  refine aJ (aB ?_)
  have I:=oI I
  subst I
  exact ⟨(!k9),E,G.to ⟨E,E,E,E,trivial⟩,H⟩
 rintro d2 a w I ⟨G,H⟩
 replace I:Sh.sZ x0 x1 d2 = _:=I
 unfold Sh.sZ at I
 refine aB ?_
 refine aT G (c:=.tmp 46) E (fun c7=>?_) (fun c7=>?_)
 ·have I:=Fx.cT c7 I
  refine aG ?_
  refine aD ?_
  refine aA G (aH G E E) E E E fun a G=>?_
  refine aJ (aB ?_)
  refine c_ret ?_
  have I:=oI I
  subst I
  refine bJ qR38 G E ?_
  exact ⟨E,selM H [] 2 E⟩
 have I:=Fx.cF c7 I
 refine aW (aB ?_)
 refine aG ?_
 refine aV G H I (fun F x a w=>match x with | _=>Fr 82 [(2,.pointer (some ⟨c2,0,none⟩)),(3,.pointer (some ⟨c3,0,none⟩)),(4,.bool false)] a ∧ MemL w (pt c3 (RRecord.enc (mRc x1 s11 s13 s17)) 36::pt c2 (RRecord.enc (mRc x0 s1 s3 s7)) 36::Lr)) (fun t7 I k5 G H=>?_) ?_
 ·refine aG ?_
  refine aD ?_
  refine aA G (aH G E E) E E E fun a G=>?_
  refine aJ (aB ?_)
  refine aU ?_
  refine bU G H I (fun F x a w=>match x with | c5=>Fr 82 [(6,.int .i64 c5),(2,.pointer (some ⟨c2,0,none⟩)),(3,.pointer (some ⟨c3,0,none⟩)),(4,.bool false)] a ∧ MemL w (pt c3 (RRecord.enc (mRc x1 s11 s13 s17)) 36::pt c2 (RRecord.enc (mRc x0 s1 s3 s7)) 36::Lr)) (fun G H=>⟨G.to ⟨E,E,E,E,trivial⟩,H⟩) ?_
  rintro c5 a w t9 I d8 ⟨G,H⟩
  replace I:Sh.tB x0 c5 = _:=I
  unfold Sh.tB at I
  refine aG ?_
  refine aG ?_
  refine aD ?_
  refine aA G (aF G E E) E E E fun a G=>?_
  refine aA G (aC (off':=0) qU36 E in30 E G E E E) E E E fun a G=>?_
  refine aA G (aC (off':=1) qU30 E in28 E G E E E) E E E fun a G=>?_
  refine aA G (aI qA28 G E E ((H.cells (i:=1) E (RRecord.c_in_ _)).get 1 (RInput.g_tables _))) E E E fun a G=>?_
  refine aA G (cQ (f5 _ (S _ (dropM H 2))) q6.len qU28 G E E) E E E fun a G=>?_
  refine aA G (cK G E E E) E E E fun a G=>?_
  refine aJ (aB ?_)
  refine aT G (c:=.tmp 52) E (fun c8=>?_) (fun c8=>?_)
  ·have I:=Fx.cT c8 I
   refine aW (aB ?_)
   refine aG ?_
   refine aU ?_
   refine aG ?_
   refine aD ?_
   refine aA G (aC (off':=0) qU36 E in30 E G E E E) E E E fun a G=>?_
   refine aA G (aC (off':=1) qU30 E in28 E G E E E) E E E fun a G=>?_
   refine aA G (aI qA28 G E E ((H.cells (i:=1) E (RRecord.c_in_ _)).get 1 (RInput.g_tables _))) E E E fun a G=>?_
   refine aA G (aF G E E) E E E fun a G=>?_
   obtain ⟨t0,d5,I⟩:=bind_some I
   have g2:=aM d5
   obtain ⟨l8,i4,i9⟩:=Each.getr q6 g2.2
   have g9:=Each.bd q6 (bH d5)
   refine aA G (aS (sz:=1) (f5 _ (S _ (dropM H 2))) qU28 in23 E G E E E g9) E E E fun a G=>?_
   refine aA G (aI qA23 G E E ((((f5 _ (S _ (dropM H 2))).elemS i4)).get 0 E)) E E E fun a G=>?_
   obtain ⟨t4,j5,I⟩:=bind_some I
   refine aN G E E E (aO (xs:=[.tmp 60]) Tryz.call93 G E E (jV j5 H (Bf:=Bf) (fun w H=>S _ (dropM H 2)) i9) fun v w hR=>?_)
   obtain ⟨rfl,H⟩:=hR
   replace H:MemL _ (pt c3 (RRecord.enc (mRc x1 s11 s13 s17)) 36::pt c2 (RRecord.enc (mRc x0 s1 s3 s7)) 36::Lr):=H
   intro a G
   refine aA G (dF G E E) E E E fun a G=>?_
   refine aJ (aB ?_)
   refine aT G (c:=.tmp 62) E (fun c9=>?_) (fun c9=>?_)
   ·have I:=Fx.cT c9 I
    refine aG ?_
    refine aD ?_
    refine aA G (aH G E E) E E E fun a G=>?_
    refine aJ (aB ?_)
    refine c_ret ?_
    have I:=oI I
    subst I
    have I:=d8 _ rfl
    subst I
    have I:=dE k5
    subst I
    refine bJ qR38 G E ?_
    exact ⟨E,selM H [] 2 E⟩
   have I:=Fx.cF c9 I
   refine aW (bK (aB ?_))
   refine aD ?_
   refine aA G (aF G E E) E E E fun a G=>?_
   refine aA G (bW G E E E) E E E fun a G=>?_
   refine aA G (aH G E E) E E E fun a G=>?_
   refine aJ (aB ?_)
   have I:=oI I
   subst I
   exact ⟨(IntKind.i64.wrap (c5 + 1)),E,G.to ⟨E,E,E,E,trivial⟩,H⟩
  have I:=Fx.cF c8 I
  refine bX (bC (bC (cO ?_)))
  refine aB ?_
  have I:=oI I
  subst I
  have I:=d8 _ rfl
  subst I
  exact ⟨(),E,G.to ⟨E,E,E,trivial⟩,H⟩
 rintro ⟨⟩ a w I ⟨G,H⟩
 replace I:Sh.tA x0 x1 = _:=I
 unfold Sh.tA at I
 refine aB ?_
 refine aG ?_
 refine aV G H I (fun F x a w=>match x with | _=>Fr 82 [(4,.bool false)] a ∧ MemL w (Lr)) (fun t8 I k6 G H=>?_) ?_
 ·refine aG ?_
  refine aD ?_
  refine aA G (aH G E E) E E E fun a G=>?_
  refine aJ (aB ?_)
  refine aU ?_
  refine bU G H I (fun F x a w=>match x with | c6=>Fr 82 [(7,.int .i64 c6),(2,.pointer (some ⟨c2,0,none⟩)),(3,.pointer (some ⟨c3,0,none⟩)),(4,.bool false)] a ∧ MemL w (pt c3 (RRecord.enc (mRc x1 s11 s13 s17)) 36::pt c2 (RRecord.enc (mRc x0 s1 s3 s7)) 36::Lr)) (fun G H=>⟨G.to ⟨E,E,E,E,trivial⟩,H⟩) ?_
  rintro c6 a w u0 I d9 ⟨G,H⟩
  replace I:Sh.tC x0 x1 c6 = _:=I
  unfold Sh.tC at I
  refine aG ?_
  refine aG ?_
  refine aD ?_
  refine aA G (aF G E E) E E E fun a G=>?_
  refine aA G (aC (off':=2) qU36 E in33 E G E E E) E E E fun a G=>?_
  refine aA G (aI qA33 G E E (H.cell (i:=1) E (RRecord.g_marks _))) E E E fun a G=>?_
  refine aA G (cQ (LRm.toIn f9 _ (S _ (dropM H 2))) q10.len qU33 G E E) E E E fun a G=>?_
  refine aA G (cK G E E E) E E E fun a G=>?_
  refine aJ (aB ?_)
  refine aT G (c:=.tmp 67) E (fun d0=>?_) (fun d0=>?_)
  ·have I:=Fx.cT d0 I
   refine aW (aB ?_)
   refine aG ?_
   refine aU ?_
   refine aG ?_
   refine bM mixed (by kernel_rfl) H [0,1] 2 E fun K=>?_
   refine aK G K 0 E (by kernel_rfl) E E E (fun w H=>(aC (off':=2) qU36 E in33 E G E E E)) fun a G=>?_
   refine aK G K 1 E (by kernel_rfl) E E E (fun w H=>(aI qA33 G E E (H.cell (i:=1) E (RRecord.g_marks _)))) fun a G=>?_
   refine aK G K 2 E (by kernel_rfl) E E E (fun w H=>(aF G E E)) fun a G=>?_
   obtain ⟨t1,d6,I⟩:=bind_some I
   have g3:=aM d6
   obtain ⟨l9,i5,j0⟩:=Each.getr q10 g3.2
   have i0:=Each.bd q10 (bH d6)
   obtain ⟨p0,p1,p2,l4,p3,rfl,j7,j8,j9,k7,k0⟩:=j0
   refine aK G K 3 E (by kernel_rfl) E E E (fun w H=>(aS (sz:=7) (LRm.toIn f9 _ (S _ (dropM H 2))) qU33 in60 E G E E E i0)) fun a G=>?_
   refine aK G K 4 E (by kernel_rfl) E E E (fun w H=>(aQ qA60 qS60 G E E (RMark.len _) (((LRm.toIn f9 _ (S _ (dropM H 2))).elemS i5)))) fun a G=>?_
   refine aK G K 5 E (by kernel_rfl) E E E (fun w H=>(aC (off':=2) qU36 E in33 E G E E E)) fun a G=>?_
   refine aK G K 6 E (by kernel_rfl) E E E (fun w H=>(aI qA33 G E E (H.cell (i:=0) E (RRecord.g_marks _)))) fun a G=>?_
   refine aK G K 7 E (by kernel_rfl) E E E (fun w H=>(aF G E E)) fun a G=>?_
   obtain ⟨t2,d7,I⟩:=bind_some I
   have g4:=aM d7
   obtain ⟨m0,i6,j1⟩:=Each.getr q20 g4.2
   have i1:=Each.bd q20 (bH d7)
   obtain ⟨p4,p5,p6,l5,p7,rfl,k1,k2,k3,k8,k4⟩:=j1
   refine aK G K 8 E (by kernel_rfl) E E E (fun w H=>(aS (sz:=7) (f19 _ (S _ (dropM H 2))) qU33 in60 E G E E E i1)) fun a G=>?_
   refine aK G K 9 E (by kernel_rfl) E E E (fun w H=>(aQ qA60 qS60 G E E (RMark.len _) (((f19 _ (S _ (dropM H 2))).elemS i6)))) fun a G=>?_
   refine bF K 10 (by kernel_rfl) E E ?_
   refine bY G 10 E E E E E fun w hMs H=>?_
   obtain ⟨t5,j6,I⟩:=bind_some I
   refine (aO (xs:=[.tmp 74,.tmp 79]) Tryz.call63 G E E (qS j6 H (Bf:=Bf) (fun w H=>S _ (dropM H 2)) j7 j8 j9 k7 k0 k1 k2 k3 k8 k4) fun v w hR=>?_)
   obtain ⟨rfl,H⟩:=hR
   replace H:MemL _ (pt c3 (RRecord.enc (mRc x1 s11 s13 s17)) 36::pt c2 (RRecord.enc (mRc x0 s1 s3 s7)) 36::Lr):=H
   have hMs:=selM H [0,1] 2 rfl
   refine ⟨_,_,hMs,H,.inl fun _ h=>h,fun a G=>?_⟩
   refine aK G K 11 E (by kernel_rfl) E E E (fun w H=>(dF G E E)) fun a G=>?_
   refine bV K (by kernel_rfl) fun w H=>?_
   refine aB ?_
   refine aT G (c:=.tmp 81) E (fun d1=>?_) (fun d1=>?_)
   ·have I:=Fx.cT d1 I
    refine aG ?_
    refine aD ?_
    refine aA G (aH G E E) E E E fun a G=>?_
    refine aJ (aB ?_)
    refine c_ret ?_
    have I:=oI I
    subst I
    have I:=d9 _ rfl
    subst I
    have I:=dE k6
    subst I
    refine bJ qR38 G E ?_
    exact ⟨E,selM H [] 2 E⟩
   have I:=Fx.cF d1 I
   refine aW (bK (aB ?_))
   refine aD ?_
   refine aA G (aF G E E) E E E fun a G=>?_
   refine aA G (bW G E E E) E E E fun a G=>?_
   refine aA G (aH G E E) E E E fun a G=>?_
   refine aJ (aB ?_)
   have I:=oI I
   subst I
   exact ⟨(IntKind.i64.wrap (c6 + 1)),E,G.to ⟨E,E,E,E,trivial⟩,H⟩
  have I:=Fx.cF d0 I
  refine bX (bC (bC (cO ?_)))
  refine aB ?_
  have I:=oI I
  subst I
  have I:=d9 _ rfl
  subst I
  exact ⟨(),E,G.to ⟨E,trivial⟩,selM H [] 2 E⟩
 rintro ⟨⟩ a w I ⟨G,H⟩
 replace I:Sh.vJ = _:=I
 unfold Sh.vJ at I
 refine aB ?_
 refine aG ?_
 refine aD ?_
 refine aA G (aH G E E) E E E fun a G=>?_
 refine aJ (aB ?_)
 refine c_ret ?_
 have I:=oI I
 subst I
 refine bJ qR38 G E ?_
 exact ⟨E,H⟩
end Go.Proofs
end
section
namespace Go.Proofs
open Go.Fw Go.Fx
set_option maxRecDepth 10000
set_option maxHeartbeats 4000000 in
theorem qJ {x0:QRecord} {SP:SRes} {s1:SV} {s3:SV} {hs4:List SV} {s7:SV} {hs8:List RMark} {out:Unit} {w0:World} {Lr:List Res} (I:Sh.kU x0 = some out) (H:MemL w0 (SP.r::Lr)) (f2:LIn SP.r.holds' s1 x0.in_.ctx) (f5:LIn SP.r.holds' s3 hs4) (q6:Each (LIn (X:=UInt8) SP.r.holds') hs4 x0.in_.tables) (f9:LIn SP.r.holds' s7 hs8) (q10:Each (QMarkIn SP.r.holds') hs8 x0.marks):Calls Tryz.prog 58 #[.agg (RRecord.enc (mRc x0 s1 s3 s7)).toArray] w0 (Ret fun v w'=>v = .tuple #[] ∧ MemL w' (Lr)):=by
 unfold Sh.kU at I
 refine aR (vs:=[.agg (RRecord.enc (mRc x0 s1 s3 s7)).toArray]) Tryz.func58 E Tryz.ntmps58 E fun a G=>?_
 have h0:=H.hold 0 _ rfl
 have H:=aF9 H
 refine aG ?_
 refine aD ?_
 refine aN G E E E (dA G E E E fun c0 w c70 c29=>?_)
 have H:=H.plus c29
 replace H:MemL _ (pt c0 (RRecord.enc (mRc x0 s1 s3 s7)) 36::(spR SP w0)::Lr):=H
 intro a G
 refine aJ (aB ?_)
 refine aG ?_
 refine aV G H I (fun F x a w=>match x with | _=>Fr 220 [(1,.pointer (some ⟨c0,0,none⟩))] a ∧ MemL w (pt c0 (RRecord.enc (mRc x0 s1 s3 s7)) 36::(spR SP w0)::Lr)) (fun d68 I d52 G H=>?_) ?_
 ·refine aG ?_
  refine aD ?_
  refine aA G (aH G E E) E E E fun a G=>?_
  refine aJ (aB ?_)
  refine aU ?_
  refine bU G H I (fun F x a w=>match x with | d7=>Fr 220 [(2,.int .i64 d7),(1,.pointer (some ⟨c0,0,none⟩))] a ∧ MemL w (pt c0 (RRecord.enc (mRc x0 s1 s3 s7)) 36::(spR SP w0)::Lr)) (fun G H=>⟨G.to ⟨E,E,trivial⟩,H⟩) ?_
  rintro d7 a w d73 I c37 ⟨G,H⟩
  replace I:Sh.kZ x0 d7 = _:=I
  unfold Sh.kZ at I
  refine aG ?_
  refine aG ?_
  refine aD ?_
  refine aA G (aF G E E) E E E fun a G=>?_
  refine aA G (aC (off':=0) qU36 E in30 E G E E E) E E E fun a G=>?_
  refine aA G (aC (off':=0) qU30 E in23 E G E E E) E E E fun a G=>?_
  refine aA G (aI qA23 G E E ((H.cells (i:=0) E (RRecord.c_in_ _)).get 0 (RInput.g_ctx _))) E E E fun a G=>?_
  refine aA G (bQ (f2 _ h0) qU23 G E E) E E E fun a G=>?_
  refine aA G (cK G E E E) E E E fun a G=>?_
  refine aJ (aB ?_)
  refine aT G (c:=.tmp 18) E (fun g4=>?_) (fun g4=>?_)
  ·have I:=Fx.cT g4 I
   refine aW (aB ?_)
   refine aG ?_
   refine aU ?_
   refine bM mixed (by kernel_rfl) H [0,1] 2 E fun K=>?_
   refine aK G K 0 E (by kernel_rfl) E E E (fun w H=>(aC (off':=0) qU36 E in30 E G E E E)) fun a G=>?_
   refine aK G K 1 E (by kernel_rfl) E E E (fun w H=>(aC (off':=0) qU30 E in23 E G E E E)) fun a G=>?_
   refine aK G K 2 E (by kernel_rfl) E E E (fun w H=>(aI qA23 G E E ((H.cells (i:=0) E (RRecord.c_in_ _)).get 0 (RInput.g_ctx _)))) fun a G=>?_
   refine aK G K 3 E (by kernel_rfl) E E E (fun w H=>(aF G E E)) fun a G=>?_
   refine aK G K 4 E (by kernel_rfl) E E E (fun w H=>(aC (off':=0) qU36 E in30 E G E E E)) fun a G=>?_
   refine aK G K 5 E (by kernel_rfl) E E E (fun w H=>(aC (off':=0) qU30 E in23 E G E E E)) fun a G=>?_
   refine aK G K 6 E (by kernel_rfl) E E E (fun w H=>(aI qA23 G E E ((H.cells (i:=0) E (RRecord.c_in_ _)).get 0 (RInput.g_ctx _)))) fun a G=>?_
   refine aK G K 7 E (by kernel_rfl) E E E (fun w H=>(aF G E E)) fun a G=>?_
   obtain ⟨d12,i6,I⟩:=bind_some I
   have l8:=aM i6
   refine aK G K 8 E (by kernel_rfl) E E E (fun w H=>(aS (sz:=1) (f2 _ h0) qU23 in5 E G E E E (bH i6))) fun a G=>?_
   refine bF K 9 (by kernel_rfl) E E ?_
   refine bY G 9 E E E E E fun w hMs H=>?_
   obtain ⟨c94,c18,c10⟩:=jC (fun w h=>(((f2 w h).elemS l8.2)).get 0 rfl) h0 (H.hold 1 _ rfl)
   obtain ⟨d39,rfl⟩:=c10.u8
   refine Yd.val (aI qA5 G E E (c18)) ?_
   refine ⟨_,_,hMs,H,.inl fun _ h=>h,fun a G=>?_⟩
   refine aK G K 10 E (by kernel_rfl) E E E (fun w H=>(aF2 G E E E)) fun a G=>?_
   obtain ⟨d13,i7,I⟩:=bind_some I
   have l9:=aM i7
   refine aK G K 11 E (by kernel_rfl) E E E (fun w H=>(aS (sz:=1) (f2 _ h0) qU23 in5 E G E E E (bH i7))) fun a G=>?_
   refine bF K 12 (by kernel_rfl) E E ?_
   refine cV 12 E E E E fun w hMs H=>?_
   refine (iP qS5 H (i:=1) E (fun w h=>(((f2 w h).elemS l9.2)).get 0 E) h0 (Like.bytes _ _) G E E E E fun w H=>?_)
   replace H:MemL _ (pt c0 (RRecord.enc (mRc x0 s1 s3 s7)) 36::(spR SP w0)::Lr):=H
   have hMs:=selM H [0,1] 2 rfl
   refine ⟨_,_,hMs,H,.inl fun _ h=>h,?_⟩
   refine bV K (by kernel_rfl) fun w H=>?_
   refine bK (aB ?_)
   refine aD ?_
   refine aA G (aF G E E) E E E fun a G=>?_
   refine aA G (bW G E E E) E E E fun a G=>?_
   refine aA G (aH G E E) E E E fun a G=>?_
   refine aJ (aB ?_)
   have I:=oI I
   subst I
   exact ⟨(IntKind.i64.wrap (d7 + 1)),E,G.to ⟨E,E,trivial⟩,H⟩
  have I:=Fx.cF g4 I
  refine bX (bC (bC (cO ?_)))
  refine aB ?_
  have I:=oI I
  subst I
  have I:=c37 _ rfl
  subst I
  exact ⟨(),E,G.to ⟨E,trivial⟩,H⟩
 rintro ⟨⟩ a w I ⟨G,H⟩
 replace I:Sh.tS x0 = _:=I
 unfold Sh.tS at I
 refine aB ?_
 refine aG ?_
 refine aV G H I (fun F x a w=>match x with | _=>Fr 220 [(1,.pointer (some ⟨c0,0,none⟩))] a ∧ MemL w (pt c0 (RRecord.enc (mRc x0 s1 s3 s7)) 36::(spR SP w0)::Lr)) (fun d69 I d53 G H=>?_) ?_
 ·refine aG ?_
  refine aD ?_
  refine aA G (aH G E E) E E E fun a G=>?_
  refine aJ (aB ?_)
  refine aU ?_
  refine bU G H I (fun F x a w=>match x with | d3=>Fr 220 [(3,.int .i64 d3),(1,.pointer (some ⟨c0,0,none⟩))] a ∧ MemL w (pt c0 (RRecord.enc (mRc x0 s1 s3 s7)) 36::(spR SP w0)::Lr)) (fun G H=>⟨G.to ⟨E,E,trivial⟩,H⟩) ?_
  rintro d3 a w d74 I c38 ⟨G,H⟩
  replace I:Sh.lA x0 d3 = _:=I
  unfold Sh.lA at I
  refine aG ?_
  refine aG ?_
  refine aD ?_
  refine aA G (aF G E E) E E E fun a G=>?_
  refine aA G (aC (off':=0) qU36 E in30 E G E E E) E E E fun a G=>?_
  refine aA G (aC (off':=1) qU30 E in28 E G E E E) E E E fun a G=>?_
  refine aA G (aI qA28 G E E ((H.cells (i:=0) E (RRecord.c_in_ _)).get 1 (RInput.g_tables _))) E E E fun a G=>?_
  refine aA G (cQ (f5 _ h0) q6.len qU28 G E E) E E E fun a G=>?_
  refine aA G (cK G E E E) E E E fun a G=>?_
  refine aJ (aB ?_)
  refine aT G (c:=.tmp 38) E (fun g5=>?_) (fun g5=>?_)
  ·have I:=Fx.cT g5 I
   refine aW (aB ?_)
   refine aG ?_
   refine aV G H I (fun F x a w=>match x with | _=>Fr 220 [(1,.pointer (some ⟨c0,0,none⟩)),(3,.int .i64 d3)] a ∧ MemL w (pt c0 (RRecord.enc (mRc x0 s1 s3 s7)) 36::(spR SP w0)::Lr)) (fun d70 I d54 G H=>?_) ?_
   ·refine aU ?_
    refine aG ?_
    refine aD ?_
    refine aA G (aH G E E) E E E fun a G=>?_
    refine aJ (aB ?_)
    refine aU ?_
    refine bU G H I (fun F x a w=>match x with | d8=>Fr 220 [(4,.int .i64 d8),(1,.pointer (some ⟨c0,0,none⟩)),(3,.int .i64 d3)] a ∧ MemL w (pt c0 (RRecord.enc (mRc x0 s1 s3 s7)) 36::(spR SP w0)::Lr)) (fun G H=>⟨G.to ⟨E,E,E,trivial⟩,H⟩) ?_
    rintro d8 a w d75 I c39 ⟨G,H⟩
    replace I:Sh.lB x0 d3 d8 = _:=I
    unfold Sh.lB at I
    refine aG ?_
    refine aG ?_
    refine aD ?_
    refine aA G (aF G E E) E E E fun a G=>?_
    refine aA G (aC (off':=0) qU36 E in30 E G E E E) E E E fun a G=>?_
    refine aA G (aC (off':=1) qU30 E in28 E G E E E) E E E fun a G=>?_
    refine aA G (aI qA28 G E E ((H.cells (i:=0) E (RRecord.c_in_ _)).get 1 (RInput.g_tables _))) E E E fun a G=>?_
    refine aA G (aF G E E) E E E fun a G=>?_
    obtain ⟨d14,i8,I⟩:=bind_some I
    have m0:=aM i8
    obtain ⟨c44,t6,u9⟩:=Each.getr q6 m0.2
    have p4:=Each.bd q6 (bH i8)
    refine aA G (aS (sz:=1) (f5 _ h0) qU28 in23 E G E E E p4) E E E fun a G=>?_
    refine aA G (aI qA23 G E E (nB (fun w h=>(((f5 w h).elemS t6)).get 0 E) h0 (H.hold 1 _ E))) E E E fun a G=>?_
    refine aA G (bQ (u9 _ h0) qU23 G E E) E E E fun a G=>?_
    refine aA G (cK G E E E) E E E fun a G=>?_
    refine aJ (aB ?_)
    refine aT G (c:=.tmp 49) E (fun g6=>?_) (fun g6=>?_)
    ·have I:=Fx.cT g6 I
     refine aW (aB ?_)
     refine aG ?_
     refine aU ?_
     refine bM mixed (by kernel_rfl) H [0,1] 2 E fun K=>?_
     refine aK G K 0 E (by kernel_rfl) E E E (fun w H=>(aC (off':=0) qU36 E in30 E G E E E)) fun a G=>?_
     refine aK G K 1 E (by kernel_rfl) E E E (fun w H=>(aC (off':=1) qU30 E in28 E G E E E)) fun a G=>?_
     refine aK G K 2 E (by kernel_rfl) E E E (fun w H=>(aI qA28 G E E ((H.cells (i:=0) E (RRecord.c_in_ _)).get 1 (RInput.g_tables _)))) fun a G=>?_
     refine aK G K 3 E (by kernel_rfl) E E E (fun w H=>(aF G E E)) fun a G=>?_
     obtain ⟨d15,i9,I⟩:=bind_some I
     have m1:=aM i9
     obtain ⟨c45,t7,i4⟩:=Each.getr q6 m1.2
     have p5:=Each.bd q6 (bH i9)
     refine aK G K 4 E (by kernel_rfl) E E E (fun w H=>(aS (sz:=1) (f5 _ h0) qU28 in23 E G E E E p5)) fun a G=>?_
     refine aK G K 5 E (by kernel_rfl) E E E (fun w H=>(aI qA23 G E E (nB (fun w h=>(((f5 w h).elemS t7)).get 0 E) h0 (H.hold 1 _ E)))) fun a G=>?_
     refine aK G K 6 E (by kernel_rfl) E E E (fun w H=>(aF G E E)) fun a G=>?_
     refine aK G K 7 E (by kernel_rfl) E E E (fun w H=>(aC (off':=0) qU36 E in30 E G E E E)) fun a G=>?_
     refine aK G K 8 E (by kernel_rfl) E E E (fun w H=>(aC (off':=1) qU30 E in28 E G E E E)) fun a G=>?_
     refine aK G K 9 E (by kernel_rfl) E E E (fun w H=>(aI qA28 G E E ((H.cells (i:=0) E (RRecord.c_in_ _)).get 1 (RInput.g_tables _)))) fun a G=>?_
     refine aK G K 10 E (by kernel_rfl) E E E (fun w H=>(aF G E E)) fun a G=>?_
     obtain ⟨d16,j0,I⟩:=bind_some I
     have m2:=aM j0
     obtain ⟨c46,t8,i5⟩:=Each.getr q6 m2.2
     have p6:=Each.bd q6 (bH j0)
     refine aK G K 11 E (by kernel_rfl) E E E (fun w H=>(aS (sz:=1) (f5 _ h0) qU28 in23 E G E E E p6)) fun a G=>?_
     refine aK G K 12 E (by kernel_rfl) E E E (fun w H=>(aI qA23 G E E (nB (fun w h=>(((f5 w h).elemS t8)).get 0 E) h0 (H.hold 1 _ E)))) fun a G=>?_
     refine aK G K 13 E (by kernel_rfl) E E E (fun w H=>(aF G E E)) fun a G=>?_
     obtain ⟨d17,j1,I⟩:=bind_some I
     have m3:=aM j1
     refine aK G K 14 E (by kernel_rfl) E E E (fun w H=>(aS (sz:=1) (i5 _ h0) qU23 in5 E G E E E (bH j1))) fun a G=>?_
     refine bF K 15 (by kernel_rfl) E E ?_
     refine bY G 15 E E E E E fun w hMs H=>?_
     obtain ⟨c95,c19,c11⟩:=jC (fun w h=>(((i5 w h).elemS m3.2)).get 0 rfl) h0 (H.hold 1 _ rfl)
     obtain ⟨d40,rfl⟩:=c11.u8
     refine Yd.val (aI qA5 G E E (c19)) ?_
     refine ⟨_,_,hMs,H,.inl fun _ h=>h,fun a G=>?_⟩
     refine aK G K 16 E (by kernel_rfl) E E E (fun w H=>(aF2 G E E E)) fun a G=>?_
     obtain ⟨d18,j2,I⟩:=bind_some I
     have m4:=aM j2
     refine aK G K 17 E (by kernel_rfl) E E E (fun w H=>(aS (sz:=1) (i4 _ h0) qU23 in5 E G E E E (bH j2))) fun a G=>?_
     refine bF K 18 (by kernel_rfl) E E ?_
     refine cV 18 E E E E fun w hMs H=>?_
     refine (iP qS5 H (i:=1) E (fun w h=>(((i4 w h).elemS m4.2)).get 0 E) h0 (Like.bytes _ _) G E E E E fun w H=>?_)
     replace H:MemL _ (pt c0 (RRecord.enc (mRc x0 s1 s3 s7)) 36::(spR SP w0)::Lr):=H
     have hMs:=selM H [0,1] 2 rfl
     refine ⟨_,_,hMs,H,.inl fun _ h=>h,?_⟩
     refine bV K (by kernel_rfl) fun w H=>?_
     refine bK (aB ?_)
     refine aD ?_
     refine aA G (aF G E E) E E E fun a G=>?_
     refine aA G (bW G E E E) E E E fun a G=>?_
     refine aA G (aH G E E) E E E fun a G=>?_
     refine aJ (aB ?_)
     have I:=oI I
     subst I
     exact ⟨(IntKind.i64.wrap (d8 + 1)),E,G.to ⟨E,E,E,trivial⟩,H⟩
    have I:=Fx.cF g6 I
    refine bX (bC (bC (cO ?_)))
    refine bK (aB ?_)
    have I:=oI I
    subst I
    have I:=c39 _ rfl
    subst I
    exact ⟨(),E,G.to ⟨E,E,trivial⟩,H⟩
   rintro ⟨⟩ a w I ⟨G,H⟩
   replace I:Sh.tU d3 = _:=I
   unfold Sh.tU at I
   refine aB ?_
   refine aD ?_
   refine aA G (aF G E E) E E E fun a G=>?_
   refine aA G (bW G E E E) E E E fun a G=>?_
   refine aA G (aH G E E) E E E fun a G=>?_
   refine aJ (aB ?_)
   have I:=oI I
   subst I
   exact ⟨(IntKind.i64.wrap (d3 + 1)),E,G.to ⟨E,E,trivial⟩,H⟩
  have I:=Fx.cF g5 I
  refine bX (bC (bC (cO ?_)))
  refine aB ?_
  have I:=oI I
  subst I
  have I:=c38 _ rfl
  subst I
  exact ⟨(),E,G.to ⟨E,trivial⟩,H⟩
 rintro ⟨⟩ a w I ⟨G,H⟩
 replace I:Sh.tT x0 = _:=I
 unfold Sh.tT at I
 refine aB ?_
 refine aG ?_
 refine aD ?_
 refine aA G (aH G E E) E E E fun a G=>?_
 refine aJ (aB ?_)
 refine aU ?_
 refine bU G H I (fun F x a w=>match x with | c3=>Fr 220 [(5,.int .i64 c3),(1,.pointer (some ⟨c0,0,none⟩))] a ∧ MemL w (pt c0 (RRecord.enc (mRc x0 s1 s3 s7)) 36::(spR SP w0)::Lr)) (fun G H=>⟨G.to ⟨E,E,trivial⟩,H⟩) ?_
 rintro c3 a w d76 I c40 ⟨G,H⟩
 replace I:Sh.lC x0 c3 = _:=I
 unfold Sh.lC at I
 refine aG ?_
 refine aG ?_
 refine aD ?_
 refine aA G (aF G E E) E E E fun a G=>?_
 refine aA G (aC (off':=2) qU36 E in33 E G E E E) E E E fun a G=>?_
 refine aA G (aI qA33 G E E (H.cell (i:=0) E (RRecord.g_marks _))) E E E fun a G=>?_
 refine aA G (cQ (f9 _ h0) q10.len qU33 G E E) E E E fun a G=>?_
 refine aA G (cK G E E E) E E E fun a G=>?_
 refine aJ (aB ?_)
 refine aT G (c:=.tmp 74) E (fun g7=>?_) (fun g7=>?_)
 ·have I:=Fx.cT g7 I
  refine aW (aB ?_)
  refine aG ?_
  refine aV G H I (fun F x a w=>match x with | _=>Fr 220 [(1,.pointer (some ⟨c0,0,none⟩)),(5,.int .i64 c3)] a ∧ MemL w (pt c0 (RRecord.enc (mRc x0 s1 s3 s7)) 36::(spR SP w0)::Lr)) (fun d71 I d55 G H=>?_) ?_
  ·refine aU ?_
   refine aG ?_
   refine aD ?_
   refine aA G (aC (off':=2) qU36 E in33 E G E E E) E E E fun a G=>?_
   refine aA G (aI qA33 G E E (H.cell (i:=0) E (RRecord.g_marks _))) E E E fun a G=>?_
   refine aA G (aF G E E) E E E fun a G=>?_
   obtain ⟨c2,j3,I⟩:=bind_some I
   have m5:=aM j3
   obtain ⟨c47,t9,z0⟩:=Each.getr q10 m5.2
   have p7:=Each.bd q10 (bH j3)
   obtain ⟨c4,c5,c6,c41,c7,rfl,d4,d5,d0,d1,d6⟩:=z0
   refine aA G (aS (sz:=7) (f9 _ h0) qU33 in60 E G E E E p7) E E E fun a G=>?_
   obtain ⟨c8,c9,c26⟩:=aH7 (fun w h=>((f9 w h).elemS t9)) h0 (H.hold 1 _ rfl)
   refine aA G (aQ qA60 qS60 G E E (RMark.len _) (c26)) E E E fun a G=>?_
   refine aN G E E E (bN z60 (zs:=RMark.zero.enc) E E fun c1 w c71 c30=>?_)
   have H:=H.plus c30
   replace H:MemL _ (pt c1 (RMark.enc zMk) 60::pt c0 (RRecord.enc (mRc x0 s1 s3 s7)) 36::(spR SP w0)::Lr):=H
   intro a G
   refine bD E E (aX (vs:=_) qS60 (H.obj (i:=0) E) G E E E E (RMark.len _) (RMark.one _) (by first | (rw [RMark.len,RMark.len]; decide) | (rw [RMark.len]; decide)) (bE ((RMark.len _).trans (RMark.len _).symm)) fun w z9=>?_)
   have H:=H.chg z9 (i:=0) rfl
   replace H:MemL _ (pt c1 (RMark.enc (RMark.mk c8 c9 c2.done c4 c5 c6 c7)) 60::pt c0 (RRecord.enc (mRc x0 s1 s3 s7)) 36::(spR SP w0)::Lr):=H
   refine aJ (aB ?_)
   refine aG ?_
   refine aV G H I (fun F x a w=>match x with | _=>Fr 220 [(1,.pointer (some ⟨c0,0,none⟩)),(5,.int .i64 c3),(6,.pointer (some ⟨c1,0,none⟩))] a ∧ MemL w (pt c1 (RMark.enc (RMark.mk c8 c9 c2.done c4 c5 c6 c7)) 60::pt c0 (RRecord.enc (mRc x0 s1 s3 s7)) 36::(spR SP w0)::Lr)) (fun d72 I d56 G H=>?_) ?_
   ·refine aG ?_
    refine aD ?_
    refine aA G (aH G E E) E E E fun a G=>?_
    refine aJ (aB ?_)
    refine aU ?_
    refine bU G H I (fun F x a w=>match x with | d9=>Fr 220 [(7,.int .i64 d9),(1,.pointer (some ⟨c0,0,none⟩)),(5,.int .i64 c3),(6,.pointer (some ⟨c1,0,none⟩))] a ∧ MemL w (pt c1 (RMark.enc (RMark.mk c8 c9 c2.done c4 c5 c6 c7)) 60::pt c0 (RRecord.enc (mRc x0 s1 s3 s7)) 36::(spR SP w0)::Lr)) (fun G H=>⟨G.to ⟨E,E,E,E,trivial⟩,H⟩) ?_
    rintro d9 a w d62 I c31 ⟨G,H⟩
    replace I:Sh.iX c2 d9 = _:=I
    unfold Sh.iX at I
    refine aG ?_
    refine aG ?_
    refine aD ?_
    refine aA G (aF G E E) E E E fun a G=>?_
    refine aA G (aC (off':=3) qU60 E in56 E G E E E) E E E fun a G=>?_
    refine aA G (aI qA56 G E E (H.cell (i:=0) E (RMark.g_regs _))) E E E fun a G=>?_
    refine aA G (bQ (d4 _ h0) qU56 G E E) E E E fun a G=>?_
    refine aA G (cK G E E E) E E E fun a G=>?_
    refine aJ (aB ?_)
    refine aT G (c:=.tmp 86) E (fun g8=>?_) (fun g8=>?_)
    ·have I:=Fx.cT g8 I
     refine aW (aB ?_)
     refine aG ?_
     refine aU ?_
     refine bM mixed (by kernel_rfl) H [0,1,2] 3 E fun K=>?_
     refine aK G K 0 E (by kernel_rfl) E E E (fun w H=>(aC (off':=3) qU60 E in56 E G E E E)) fun a G=>?_
     refine aK G K 1 E (by kernel_rfl) E E E (fun w H=>(aI qA56 G E E (H.cell (i:=0) E (RMark.g_regs _)))) fun a G=>?_
     refine aK G K 2 E (by kernel_rfl) E E E (fun w H=>(aF G E E)) fun a G=>?_
     refine aK G K 3 E (by kernel_rfl) E E E (fun w H=>(aC (off':=3) qU60 E in56 E G E E E)) fun a G=>?_
     refine aK G K 4 E (by kernel_rfl) E E E (fun w H=>(aI qA56 G E E (H.cell (i:=0) E (RMark.g_regs _)))) fun a G=>?_
     refine aK G K 5 E (by kernel_rfl) E E E (fun w H=>(aF G E E)) fun a G=>?_
     obtain ⟨d19,j4,I⟩:=bind_some I
     have m6:=aM j4
     refine aK G K 6 E (by kernel_rfl) E E E (fun w H=>(aS (sz:=9) (d4 _ h0) qU56 in128 E G E E E (bH j4))) fun a G=>?_
     refine aK G K 7 E (by kernel_rfl) E E E (fun w H=>(aC qU128 E in46 E G E E E)) fun a G=>?_
     refine aK G K 8 E (by kernel_rfl) E E E (fun w H=>(aC qU46 E in3 E G E E (Nat.add_assoc _ _ _))) fun a G=>?_
     refine bF K 9 (by kernel_rfl) E E ?_
     refine bY G 9 E E E E E fun w hMs H=>?_
     obtain ⟨c96,c20,c12⟩:=jC (fun w h=>(((((d4 w h).elemS m6.2)).sub 5 4 (LTurn.c_new _))).get 3 (LVal.g_x _)) h0 (H.hold 2 _ rfl)
     obtain ⟨d41,rfl⟩:=c12.i64
     refine Yd.val (aI qA3 G E E (c20)) ?_
     refine ⟨_,_,hMs,H,.inl fun _ h=>h,fun a G=>?_⟩
     refine aK G K 10 E (by kernel_rfl) E E E (fun w H=>(bW G E E E)) fun a G=>?_
     obtain ⟨d20,j5,I⟩:=bind_some I
     have m7:=aM j5
     refine aK G K 11 E (by kernel_rfl) E E E (fun w H=>(aS (sz:=9) (d4 _ h0) qU56 in128 E G E E E (bH j5))) fun a G=>?_
     refine aK G K 12 E (by kernel_rfl) E E E (fun w H=>(aC qU128 E in46 E G E E E)) fun a G=>?_
     refine aK G K 13 E (by kernel_rfl) E E E (fun w H=>(aC qU46 E in3 E G E E (Nat.add_assoc _ _ _))) fun a G=>?_
     refine bF K 14 (by kernel_rfl) E E ?_
     refine cV 14 E E E E fun w hMs H=>?_
     refine (iP qS3 H (i:=2) E (fun w h=>(((((d4 w h).elemS m7.2)).sub 5 4 (LTurn.c_new _))).get 3 (LVal.g_x _)) h0 (Like.ints _ _) G E E E E fun w H=>?_)
     replace H:MemL _ (pt c1 (RMark.enc (RMark.mk c8 c9 c2.done c4 c5 c6 c7)) 60::pt c0 (RRecord.enc (mRc x0 s1 s3 s7)) 36::(spR SP w0)::Lr):=H
     have hMs:=selM H [0,1,2] 3 rfl
     refine ⟨_,_,hMs,H,.inl fun _ h=>h,?_⟩
     refine bV K (by kernel_rfl) fun w H=>?_
     refine bK (aB ?_)
     refine aD ?_
     refine aA G (aF G E E) E E E fun a G=>?_
     refine aA G (bW G E E E) E E E fun a G=>?_
     refine aA G (aH G E E) E E E fun a G=>?_
     refine aJ (aB ?_)
     have I:=oI I
     subst I
     exact ⟨(IntKind.i64.wrap (d9 + 1)),E,G.to ⟨E,E,E,E,trivial⟩,H⟩
    have I:=Fx.cF g8 I
    refine bX (bC (bC (cO ?_)))
    refine aB ?_
    have I:=oI I
    subst I
    have I:=c31 _ rfl
    subst I
    exact ⟨(),E,G.to ⟨E,E,E,trivial⟩,H⟩
   rintro ⟨⟩ a w I ⟨G,H⟩
   replace I:Sh.tW x0 c3 c2 = _:=I
   unfold Sh.tW at I
   refine aB ?_
   refine aG ?_
   refine aV G H I (fun F x a w=>match x with | _=>Fr 220 [(1,.pointer (some ⟨c0,0,none⟩)),(5,.int .i64 c3),(6,.pointer (some ⟨c1,0,none⟩))] a ∧ MemL w (pt c1 (RMark.enc (RMark.mk c8 c9 c2.done c4 c5 c6 c7)) 60::pt c0 (RRecord.enc (mRc x0 s1 s3 s7)) 36::(spR SP w0)::Lr)) (fun d57 I d47 G H=>?_) ?_
   ·refine aG ?_
    refine aD ?_
    refine aA G (aH G E E) E E E fun a G=>?_
    refine aJ (aB ?_)
    refine aU ?_
    refine bU G H I (fun F x a w=>match x with | g0=>Fr 220 [(8,.int .i64 g0),(1,.pointer (some ⟨c0,0,none⟩)),(5,.int .i64 c3),(6,.pointer (some ⟨c1,0,none⟩))] a ∧ MemL w (pt c1 (RMark.enc (RMark.mk c8 c9 c2.done c4 c5 c6 c7)) 60::pt c0 (RRecord.enc (mRc x0 s1 s3 s7)) 36::(spR SP w0)::Lr)) (fun G H=>⟨G.to ⟨E,E,E,E,trivial⟩,H⟩) ?_
    rintro g0 a w d63 I c32 ⟨G,H⟩
    replace I:Sh.iY c2 g0 = _:=I
    unfold Sh.iY at I
    refine aG ?_
    refine aG ?_
    refine aD ?_
    refine aA G (aF G E E) E E E fun a G=>?_
    refine aA G (aC (off':=4) qU60 E in57 E G E E E) E E E fun a G=>?_
    refine aA G (aI qA57 G E E (H.cell (i:=0) E (RMark.g_slots _))) E E E fun a G=>?_
    refine aA G (bQ (d5 _ h0) qU57 G E E) E E E fun a G=>?_
    refine aA G (cK G E E E) E E E fun a G=>?_
    refine aJ (aB ?_)
    refine aT G (c:=.tmp 107) E (fun g9=>?_) (fun g9=>?_)
    ·have I:=Fx.cT g9 I
     refine aW (aB ?_)
     refine aG ?_
     refine aU ?_
     refine bM mixed (by kernel_rfl) H [0,1,2] 3 E fun K=>?_
     refine aK G K 0 E (by kernel_rfl) E E E (fun w H=>(aC (off':=4) qU60 E in57 E G E E E)) fun a G=>?_
     refine aK G K 1 E (by kernel_rfl) E E E (fun w H=>(aI qA57 G E E (H.cell (i:=0) E (RMark.g_slots _)))) fun a G=>?_
     refine aK G K 2 E (by kernel_rfl) E E E (fun w H=>(aF G E E)) fun a G=>?_
     refine aK G K 3 E (by kernel_rfl) E E E (fun w H=>(aC (off':=4) qU60 E in57 E G E E E)) fun a G=>?_
     refine aK G K 4 E (by kernel_rfl) E E E (fun w H=>(aI qA57 G E E (H.cell (i:=0) E (RMark.g_slots _)))) fun a G=>?_
     refine aK G K 5 E (by kernel_rfl) E E E (fun w H=>(aF G E E)) fun a G=>?_
     obtain ⟨d21,j6,I⟩:=bind_some I
     have m8:=aM j6
     refine aK G K 6 E (by kernel_rfl) E E E (fun w H=>(aS (sz:=27) (d5 _ h0) qU57 in151 E G E E E (bH j6))) fun a G=>?_
     refine aK G K 7 E (by kernel_rfl) E E E (fun w H=>(aC qU151 E in50 E G E E E)) fun a G=>?_
     refine aK G K 8 E (by kernel_rfl) E E E (fun w H=>(aC Tryz.underlying50 E in48 E G E E (Nat.add_assoc _ _ _))) fun a G=>?_
     obtain ⟨d22,j7,I⟩:=bind_some I
     refine aK G K 9 E (by kernel_rfl) E E E (fun w H=>(cP (sz:=1) Tryz.underlying48 in5 E G E E E (cU j7))) fun a G=>?_
     obtain ⟨d23,j8,I⟩:=bind_some I
     have m9:=aM j8
     refine aK G K 12 E (by kernel_rfl) E E E (fun w H=>(aS (sz:=27) (d5 _ h0) qU57 in151 E G E E E (bH j8))) fun a G=>?_
     refine aK G K 13 E (by kernel_rfl) E E E (fun w H=>(aC qU151 E in50 E G E E E)) fun a G=>?_
     refine aK G K 14 E (by kernel_rfl) E E E (fun w H=>(aC Tryz.underlying50 E in48 E G E E (Nat.add_assoc _ _ _))) fun a G=>?_
     refine bF K 10 (by kernel_rfl) E E ?_
     refine bY G 10 E E E E E fun w hMs H=>?_
     obtain ⟨c97,c21,c13⟩:=jC (fun w h=>(((((((d5 w h).elemS m8.2)).sub 14 13 (LCell.c_new _))).sub 4 8 (LSlot.c_bytes _))).get _ (qE (aM j7).2 rfl)) h0 (H.hold 2 _ rfl)
     obtain ⟨d42,rfl⟩:=c13.u8
     refine Yd.val (aI qA5 G E E (c21)) ?_
     refine ⟨_,_,hMs,H,.inl fun _ h=>h,fun a G=>?_⟩
     refine aK G K 11 E (by kernel_rfl) E E E (fun w H=>(uO G E E E)) fun a G=>?_
     obtain ⟨d24,j9,I⟩:=bind_some I
     refine aK G K 15 E (by kernel_rfl) E E E (fun w H=>(cP (sz:=1) Tryz.underlying48 in5 E G E E E (cU j9))) fun a G=>?_
     refine bF K 16 (by kernel_rfl) E E ?_
     refine cV 16 E E E E fun w hMs H=>?_
     refine (iP qS5 H (i:=2) E (fun w h=>(((((((d5 w h).elemS m9.2)).sub 14 13 (LCell.c_new _))).sub 4 8 (LSlot.c_bytes _))).get _ (qE (aM j9).2 E)) h0 (Like.bytes _ _) G E E E E fun w H=>?_)
     replace H:MemL _ (pt c1 (RMark.enc (RMark.mk c8 c9 c2.done c4 c5 c6 c7)) 60::pt c0 (RRecord.enc (mRc x0 s1 s3 s7)) 36::(spR SP w0)::Lr):=H
     have hMs:=selM H [0,1,2] 3 rfl
     refine ⟨_,_,hMs,H,.inl fun _ h=>h,?_⟩
     refine bV K (by kernel_rfl) fun w H=>?_
     refine bK (aB ?_)
     refine aD ?_
     refine aA G (aF G E E) E E E fun a G=>?_
     refine aA G (bW G E E E) E E E fun a G=>?_
     refine aA G (aH G E E) E E E fun a G=>?_
     refine aJ (aB ?_)
     have I:=oI I
     subst I
     exact ⟨(IntKind.i64.wrap (g0 + 1)),E,G.to ⟨E,E,E,E,trivial⟩,H⟩
    have I:=Fx.cF g9 I
    refine bX (bC (bC (cO ?_)))
    refine aB ?_
    have I:=oI I
    subst I
    have I:=c32 _ rfl
    subst I
    exact ⟨(),E,G.to ⟨E,E,E,trivial⟩,H⟩
   rintro ⟨⟩ a w I ⟨G,H⟩
   replace I:Sh.sL x0 c3 c2 = _:=I
   unfold Sh.sL at I
   refine aB ?_
   refine aG ?_
   refine aV G H I (fun F x a w=>match x with | _=>Fr 220 [(1,.pointer (some ⟨c0,0,none⟩)),(5,.int .i64 c3),(6,.pointer (some ⟨c1,0,none⟩))] a ∧ MemL w (pt c1 (RMark.enc (RMark.mk c8 c9 c2.done c4 c5 c6 c7)) 60::pt c0 (RRecord.enc (mRc x0 s1 s3 s7)) 36::(spR SP w0)::Lr)) (fun d58 I d48 G H=>?_) ?_
   ·refine aG ?_
    refine aD ?_
    refine aA G (aH G E E) E E E fun a G=>?_
    refine aJ (aB ?_)
    refine aU ?_
    refine bU G H I (fun F x a w=>match x with | d2=>Fr 220 [(9,.int .i64 d2),(1,.pointer (some ⟨c0,0,none⟩)),(5,.int .i64 c3),(6,.pointer (some ⟨c1,0,none⟩))] a ∧ MemL w (pt c1 (RMark.enc (RMark.mk c8 c9 c2.done c4 c5 c6 c7)) 60::pt c0 (RRecord.enc (mRc x0 s1 s3 s7)) 36::(spR SP w0)::Lr)) (fun G H=>⟨G.to ⟨E,E,E,E,trivial⟩,H⟩) ?_
    rintro d2 a w d64 I c33 ⟨G,H⟩
    replace I:Sh.iZ c2 d2 = _:=I
    unfold Sh.iZ at I
    refine aG ?_
    refine aG ?_
    refine aD ?_
    refine aA G (aF G E E) E E E fun a G=>?_
    refine aA G (aC (off':=5) qU60 E in58 E G E E E) E E E fun a G=>?_
    refine aA G (aI qA58 G E E (H.cell (i:=0) E (RMark.g_pieces _))) E E E fun a G=>?_
    refine aA G (cQ (d0 _ h0) d1.len qU58 G E E) E E E fun a G=>?_
    refine aA G (cK G E E E) E E E fun a G=>?_
    refine aJ (aB ?_)
    refine aT G (c:=.tmp 130) E (fun i0=>?_) (fun i0=>?_)
    ·have I:=Fx.cT i0 I
     refine aW (aB ?_)
     refine aG ?_
     refine aV G H I (fun F x a w=>match x with | _=>Fr 220 [(1,.pointer (some ⟨c0,0,none⟩)),(5,.int .i64 c3),(6,.pointer (some ⟨c1,0,none⟩)),(9,.int .i64 d2)] a ∧ MemL w (pt c1 (RMark.enc (RMark.mk c8 c9 c2.done c4 c5 c6 c7)) 60::pt c0 (RRecord.enc (mRc x0 s1 s3 s7)) 36::(spR SP w0)::Lr)) (fun d59 I d49 G H=>?_) ?_
     ·refine aU ?_
      refine aG ?_
      refine aV G H I (fun F x a w=>match x with | _=>Fr 220 [(1,.pointer (some ⟨c0,0,none⟩)),(5,.int .i64 c3),(6,.pointer (some ⟨c1,0,none⟩)),(9,.int .i64 d2)] a ∧ MemL w (pt c1 (RMark.enc (RMark.mk c8 c9 c2.done c4 c5 c6 c7)) 60::pt c0 (RRecord.enc (mRc x0 s1 s3 s7)) 36::(spR SP w0)::Lr)) (fun d60 I d50 G H=>?_) ?_
      ·refine aG ?_
       refine aD ?_
       refine aA G (aH G E E) E E E fun a G=>?_
       refine aJ (aB ?_)
       refine aU ?_
       refine bU G H I (fun F x a w=>match x with | g1=>Fr 220 [(10,.int .i64 g1),(1,.pointer (some ⟨c0,0,none⟩)),(5,.int .i64 c3),(6,.pointer (some ⟨c1,0,none⟩)),(9,.int .i64 d2)] a ∧ MemL w (pt c1 (RMark.enc (RMark.mk c8 c9 c2.done c4 c5 c6 c7)) 60::pt c0 (RRecord.enc (mRc x0 s1 s3 s7)) 36::(spR SP w0)::Lr)) (fun G H=>⟨G.to ⟨E,E,E,E,E,trivial⟩,H⟩) ?_
       rintro g1 a w d65 I c34 ⟨G,H⟩
       replace I:Sh.jA c2 d2 g1 = _:=I
       unfold Sh.jA at I
       refine aG ?_
       refine aG ?_
       refine aD ?_
       refine aA G (aF G E E) E E E fun a G=>?_
       refine aA G (aC (off':=5) qU60 E in58 E G E E E) E E E fun a G=>?_
       refine aA G (aI qA58 G E E (H.cell (i:=0) E (RMark.g_pieces _))) E E E fun a G=>?_
       refine aA G (aF G E E) E E E fun a G=>?_
       obtain ⟨d25,k0,I⟩:=bind_some I
       have n0:=aM k0
       obtain ⟨c48,u0,z1⟩:=Each.getr d1 n0.2
       have p8:=Each.bd d1 (bH k0)
       obtain ⟨c74,c75,rfl,c56,c27⟩:=z1
       refine aA G (aS (sz:=4) (d0 _ h0) qU58 in156 E G E E E p8) E E E fun a G=>?_
       refine aA G (aC qU156 E in23 E G E E E) E E E fun a G=>?_
       refine aA G (aI qA23 G E E (nB (fun w h=>(((d0 w h).elemS u0)).get 3 (RPiece.g_new _)) h0 (H.hold 2 _ E))) E E E fun a G=>?_
       refine aA G (bQ (c27 _ h0) qU23 G E E) E E E fun a G=>?_
       refine aA G (cK G E E E) E E E fun a G=>?_
       refine aJ (aB ?_)
       refine aT G (c:=.tmp 141) E (fun i1=>?_) (fun i1=>?_)
       ·have I:=Fx.cT i1 I
        refine aW (aB ?_)
        refine aG ?_
        refine aU ?_
        refine bM mixed (by kernel_rfl) H [0,1,2] 3 E fun K=>?_
        refine aK G K 0 E (by kernel_rfl) E E E (fun w H=>(aC (off':=5) qU60 E in58 E G E E E)) fun a G=>?_
        refine aK G K 1 E (by kernel_rfl) E E E (fun w H=>(aI qA58 G E E (H.cell (i:=0) E (RMark.g_pieces _)))) fun a G=>?_
        refine aK G K 2 E (by kernel_rfl) E E E (fun w H=>(aF G E E)) fun a G=>?_
        obtain ⟨d26,k1,I⟩:=bind_some I
        have n1:=aM k1
        obtain ⟨c49,u1,z2⟩:=Each.getr d1 n1.2
        have p9:=Each.bd d1 (bH k1)
        obtain ⟨c76,c77,rfl,c57,l4⟩:=z2
        refine aK G K 3 E (by kernel_rfl) E E E (fun w H=>(aS (sz:=4) (d0 _ h0) qU58 in156 E G E E E p9)) fun a G=>?_
        refine aK G K 4 E (by kernel_rfl) E E E (fun w H=>(aC qU156 E in23 E G E E E)) fun a G=>?_
        refine aK G K 5 E (by kernel_rfl) E E E (fun w H=>(aI qA23 G E E (nB (fun w h=>(((d0 w h).elemS u1)).get 3 (RPiece.g_new _)) h0 (H.hold 2 _ E)))) fun a G=>?_
        refine aK G K 6 E (by kernel_rfl) E E E (fun w H=>(aF G E E)) fun a G=>?_
        refine aK G K 7 E (by kernel_rfl) E E E (fun w H=>(aC (off':=5) qU60 E in58 E G E E E)) fun a G=>?_
        refine aK G K 8 E (by kernel_rfl) E E E (fun w H=>(aI qA58 G E E (H.cell (i:=0) E (RMark.g_pieces _)))) fun a G=>?_
        refine aK G K 9 E (by kernel_rfl) E E E (fun w H=>(aF G E E)) fun a G=>?_
        obtain ⟨d27,k2,I⟩:=bind_some I
        have n2:=aM k2
        obtain ⟨c50,u2,z3⟩:=Each.getr d1 n2.2
        have t0:=Each.bd d1 (bH k2)
        obtain ⟨c78,c79,rfl,c58,l5⟩:=z3
        refine aK G K 10 E (by kernel_rfl) E E E (fun w H=>(aS (sz:=4) (d0 _ h0) qU58 in156 E G E E E t0)) fun a G=>?_
        refine aK G K 11 E (by kernel_rfl) E E E (fun w H=>(aC qU156 E in23 E G E E E)) fun a G=>?_
        refine aK G K 12 E (by kernel_rfl) E E E (fun w H=>(aI qA23 G E E (nB (fun w h=>(((d0 w h).elemS u2)).get 3 (RPiece.g_new _)) h0 (H.hold 2 _ E)))) fun a G=>?_
        refine aK G K 13 E (by kernel_rfl) E E E (fun w H=>(aF G E E)) fun a G=>?_
        obtain ⟨d28,k3,I⟩:=bind_some I
        have n3:=aM k3
        refine aK G K 14 E (by kernel_rfl) E E E (fun w H=>(aS (sz:=1) (l5 _ h0) qU23 in5 E G E E E (bH k3))) fun a G=>?_
        refine bF K 15 (by kernel_rfl) E E ?_
        refine bY G 15 E E E E E fun w hMs H=>?_
        obtain ⟨c98,c22,c14⟩:=jC (fun w h=>(((l5 w h).elemS n3.2)).get 0 rfl) h0 (H.hold 2 _ rfl)
        obtain ⟨d43,rfl⟩:=c14.u8
        refine Yd.val (aI qA5 G E E (c22)) ?_
        refine ⟨_,_,hMs,H,.inl fun _ h=>h,fun a G=>?_⟩
        refine aK G K 16 E (by kernel_rfl) E E E (fun w H=>(uO G E E E)) fun a G=>?_
        obtain ⟨d29,k4,I⟩:=bind_some I
        have n4:=aM k4
        refine aK G K 17 E (by kernel_rfl) E E E (fun w H=>(aS (sz:=1) (l4 _ h0) qU23 in5 E G E E E (bH k4))) fun a G=>?_
        refine bF K 18 (by kernel_rfl) E E ?_
        refine cV 18 E E E E fun w hMs H=>?_
        refine (iP qS5 H (i:=2) E (fun w h=>(((l4 w h).elemS n4.2)).get 0 E) h0 (Like.bytes _ _) G E E E E fun w H=>?_)
        replace H:MemL _ (pt c1 (RMark.enc (RMark.mk c8 c9 c2.done c4 c5 c6 c7)) 60::pt c0 (RRecord.enc (mRc x0 s1 s3 s7)) 36::(spR SP w0)::Lr):=H
        have hMs:=selM H [0,1,2] 3 rfl
        refine ⟨_,_,hMs,H,.inl fun _ h=>h,?_⟩
        refine bV K (by kernel_rfl) fun w H=>?_
        refine bK (aB ?_)
        refine aD ?_
        refine aA G (aF G E E) E E E fun a G=>?_
        refine aA G (bW G E E E) E E E fun a G=>?_
        refine aA G (aH G E E) E E E fun a G=>?_
        refine aJ (aB ?_)
        have I:=oI I
        subst I
        exact ⟨(IntKind.i64.wrap (g1 + 1)),E,G.to ⟨E,E,E,E,E,trivial⟩,H⟩
       have I:=Fx.cF i1 I
       refine bX (bC (bC (cO ?_)))
       refine aB ?_
       have I:=oI I
       subst I
       have I:=c34 _ rfl
       subst I
       exact ⟨(),E,G.to ⟨E,E,E,E,trivial⟩,H⟩
      rintro ⟨⟩ a w I ⟨G,H⟩
      replace I:Sh.sO c2 d2 = _:=I
      unfold Sh.sO at I
      refine aB ?_
      refine aG ?_
      refine aD ?_
      refine aA G (aH G E E) E E E fun a G=>?_
      refine aJ (aB ?_)
      refine aU ?_
      refine bU G H I (fun F x a w=>match x with | g2=>Fr 220 [(11,.int .i64 g2),(1,.pointer (some ⟨c0,0,none⟩)),(5,.int .i64 c3),(6,.pointer (some ⟨c1,0,none⟩)),(9,.int .i64 d2)] a ∧ MemL w (pt c1 (RMark.enc (RMark.mk c8 c9 c2.done c4 c5 c6 c7)) 60::pt c0 (RRecord.enc (mRc x0 s1 s3 s7)) 36::(spR SP w0)::Lr)) (fun G H=>⟨G.to ⟨E,E,E,E,E,trivial⟩,H⟩) ?_
      rintro g2 a w d66 I c35 ⟨G,H⟩
      replace I:Sh.jB c2 d2 g2 = _:=I
      unfold Sh.jB at I
      refine aG ?_
      refine aG ?_
      refine aD ?_
      refine aA G (aF G E E) E E E fun a G=>?_
      refine aA G (aC (off':=5) qU60 E in58 E G E E E) E E E fun a G=>?_
      refine aA G (aI qA58 G E E (H.cell (i:=0) E (RMark.g_pieces _))) E E E fun a G=>?_
      refine aA G (aF G E E) E E E fun a G=>?_
      obtain ⟨d30,k5,I⟩:=bind_some I
      have n5:=aM k5
      obtain ⟨c51,u3,z4⟩:=Each.getr d1 n5.2
      have t1:=Each.bd d1 (bH k5)
      obtain ⟨c80,c81,rfl,c28,c59⟩:=z4
      refine aA G (aS (sz:=4) (d0 _ h0) qU58 in156 E G E E E t1) E E E fun a G=>?_
      refine aA G (aC qU156 E in23 E G E E E) E E E fun a G=>?_
      refine aA G (aI qA23 G E E (nB (fun w h=>(((d0 w h).elemS u3)).get 2 (RPiece.g_old _)) h0 (H.hold 2 _ E))) E E E fun a G=>?_
      refine aA G (bQ (c28 _ h0) qU23 G E E) E E E fun a G=>?_
      refine aA G (cK G E E E) E E E fun a G=>?_
      refine aJ (aB ?_)
      refine aT G (c:=.tmp 170) E (fun i2=>?_) (fun i2=>?_)
      ·have I:=Fx.cT i2 I
       refine aW (aB ?_)
       refine aG ?_
       refine aU ?_
       refine bM mixed (by kernel_rfl) H [0,1,2] 3 E fun K=>?_
       refine aK G K 0 E (by kernel_rfl) E E E (fun w H=>(aC (off':=5) qU60 E in58 E G E E E)) fun a G=>?_
       refine aK G K 1 E (by kernel_rfl) E E E (fun w H=>(aI qA58 G E E (H.cell (i:=0) E (RMark.g_pieces _)))) fun a G=>?_
       refine aK G K 2 E (by kernel_rfl) E E E (fun w H=>(aF G E E)) fun a G=>?_
       obtain ⟨d31,k6,I⟩:=bind_some I
       have n6:=aM k6
       obtain ⟨c52,u4,z5⟩:=Each.getr d1 n6.2
       have t2:=Each.bd d1 (bH k6)
       obtain ⟨c82,c83,rfl,l6,c60⟩:=z5
       refine aK G K 3 E (by kernel_rfl) E E E (fun w H=>(aS (sz:=4) (d0 _ h0) qU58 in156 E G E E E t2)) fun a G=>?_
       refine aK G K 4 E (by kernel_rfl) E E E (fun w H=>(aC qU156 E in23 E G E E E)) fun a G=>?_
       refine aK G K 5 E (by kernel_rfl) E E E (fun w H=>(aI qA23 G E E (nB (fun w h=>(((d0 w h).elemS u4)).get 2 (RPiece.g_old _)) h0 (H.hold 2 _ E)))) fun a G=>?_
       refine aK G K 6 E (by kernel_rfl) E E E (fun w H=>(aF G E E)) fun a G=>?_
       refine aK G K 7 E (by kernel_rfl) E E E (fun w H=>(aC (off':=5) qU60 E in58 E G E E E)) fun a G=>?_
       refine aK G K 8 E (by kernel_rfl) E E E (fun w H=>(aI qA58 G E E (H.cell (i:=0) E (RMark.g_pieces _)))) fun a G=>?_
       refine aK G K 9 E (by kernel_rfl) E E E (fun w H=>(aF G E E)) fun a G=>?_
       obtain ⟨d32,k7,I⟩:=bind_some I
       have n7:=aM k7
       obtain ⟨c53,u5,z6⟩:=Each.getr d1 n7.2
       have t3:=Each.bd d1 (bH k7)
       obtain ⟨c84,c85,rfl,l7,c61⟩:=z6
       refine aK G K 10 E (by kernel_rfl) E E E (fun w H=>(aS (sz:=4) (d0 _ h0) qU58 in156 E G E E E t3)) fun a G=>?_
       refine aK G K 11 E (by kernel_rfl) E E E (fun w H=>(aC qU156 E in23 E G E E E)) fun a G=>?_
       refine aK G K 12 E (by kernel_rfl) E E E (fun w H=>(aI qA23 G E E (nB (fun w h=>(((d0 w h).elemS u5)).get 2 (RPiece.g_old _)) h0 (H.hold 2 _ E)))) fun a G=>?_
       refine aK G K 13 E (by kernel_rfl) E E E (fun w H=>(aF G E E)) fun a G=>?_
       obtain ⟨d33,k8,I⟩:=bind_some I
       have n8:=aM k8
       refine aK G K 14 E (by kernel_rfl) E E E (fun w H=>(aS (sz:=1) (l7 _ h0) qU23 in5 E G E E E (bH k8))) fun a G=>?_
       refine bF K 15 (by kernel_rfl) E E ?_
       refine bY G 15 E E E E E fun w hMs H=>?_
       obtain ⟨c99,c23,c15⟩:=jC (fun w h=>(((l7 w h).elemS n8.2)).get 0 rfl) h0 (H.hold 2 _ rfl)
       obtain ⟨d44,rfl⟩:=c15.u8
       refine Yd.val (aI qA5 G E E (c23)) ?_
       refine ⟨_,_,hMs,H,.inl fun _ h=>h,fun a G=>?_⟩
       refine aK G K 16 E (by kernel_rfl) E E E (fun w H=>(uO G E E E)) fun a G=>?_
       obtain ⟨d34,k9,I⟩:=bind_some I
       have n9:=aM k9
       refine aK G K 17 E (by kernel_rfl) E E E (fun w H=>(aS (sz:=1) (l6 _ h0) qU23 in5 E G E E E (bH k9))) fun a G=>?_
       refine bF K 18 (by kernel_rfl) E E ?_
       refine cV 18 E E E E fun w hMs H=>?_
       refine (iP qS5 H (i:=2) E (fun w h=>(((l6 w h).elemS n9.2)).get 0 E) h0 (Like.bytes _ _) G E E E E fun w H=>?_)
       replace H:MemL _ (pt c1 (RMark.enc (RMark.mk c8 c9 c2.done c4 c5 c6 c7)) 60::pt c0 (RRecord.enc (mRc x0 s1 s3 s7)) 36::(spR SP w0)::Lr):=H
       have hMs:=selM H [0,1,2] 3 rfl
       refine ⟨_,_,hMs,H,.inl fun _ h=>h,?_⟩
       refine bV K (by kernel_rfl) fun w H=>?_
       refine bK (aB ?_)
       refine aD ?_
       refine aA G (aF G E E) E E E fun a G=>?_
       refine aA G (bW G E E E) E E E fun a G=>?_
       refine aA G (aH G E E) E E E fun a G=>?_
       refine aJ (aB ?_)
       have I:=oI I
       subst I
       exact ⟨(IntKind.i64.wrap (g2 + 1)),E,G.to ⟨E,E,E,E,E,trivial⟩,H⟩
      have I:=Fx.cF i2 I
      refine bX (bC (bC (cO ?_)))
      refine bK (aB ?_)
      have I:=oI I
      subst I
      have I:=c35 _ rfl
      subst I
      exact ⟨(),E,G.to ⟨E,E,E,E,trivial⟩,H⟩
     rintro ⟨⟩ a w I ⟨G,H⟩
     replace I:Sh.sN d2 = _:=I
     unfold Sh.sN at I
     refine aB ?_
     refine aD ?_
     refine aA G (aF G E E) E E E fun a G=>?_
     refine aA G (bW G E E E) E E E fun a G=>?_
     refine aA G (aH G E E) E E E fun a G=>?_
     refine aJ (aB ?_)
     have I:=oI I
     subst I
     exact ⟨(IntKind.i64.wrap (d2 + 1)),E,G.to ⟨E,E,E,E,trivial⟩,H⟩
    have I:=Fx.cF i0 I
    refine bX (bC (bC (cO ?_)))
    refine aB ?_
    have I:=oI I
    subst I
    have I:=c33 _ rfl
    subst I
    exact ⟨(),E,G.to ⟨E,E,E,trivial⟩,H⟩
   rintro ⟨⟩ a w I ⟨G,H⟩
   replace I:Sh.sM x0 c3 c2 = _:=I
   unfold Sh.sM at I
   refine aB ?_
   refine aG ?_
   refine aV G H I (fun F x a w=>match x with | _=>Fr 220 [(1,.pointer (some ⟨c0,0,none⟩)),(5,.int .i64 c3)] a ∧ MemL w (pt c0 (RRecord.enc (mRc x0 s1 s3 s7)) 36::(spR SP w0)::Lr)) (fun d61 I d51 G H=>?_) ?_
   ·refine aG ?_
    refine aD ?_
    refine aA G (aH G E E) E E E fun a G=>?_
    refine aJ (aB ?_)
    refine aU ?_
    refine bU G H I (fun F x a w=>match x with | g3=>Fr 220 [(12,.int .i64 g3),(1,.pointer (some ⟨c0,0,none⟩)),(5,.int .i64 c3),(6,.pointer (some ⟨c1,0,none⟩))] a ∧ MemL w (pt c1 (RMark.enc (RMark.mk c8 c9 c2.done c4 c5 c6 c7)) 60::pt c0 (RRecord.enc (mRc x0 s1 s3 s7)) 36::(spR SP w0)::Lr)) (fun G H=>⟨G.to ⟨E,E,E,E,trivial⟩,H⟩) ?_
    rintro g3 a w d67 I c36 ⟨G,H⟩
    replace I:Sh.jC c2 g3 = _:=I
    unfold Sh.jC at I
    refine aG ?_
    refine aG ?_
    refine aD ?_
    refine aA G (aF G E E) E E E fun a G=>?_
    refine aA G (aC (off':=6) qU60 E in52 E G E E E) E E E fun a G=>?_
    refine aA G (aI qA52 G E E (H.cell (i:=0) E (RMark.g_sent _))) E E E fun a G=>?_
    refine aA G (bQ (d6 _ h0) qU52 G E E) E E E fun a G=>?_
    refine aA G (cK G E E E) E E E fun a G=>?_
    refine aJ (aB ?_)
    refine aT G (c:=.tmp 195) E (fun i3=>?_) (fun i3=>?_)
    ·have I:=Fx.cT i3 I
     refine aW (aB ?_)
     refine aG ?_
     refine aU ?_
     refine bM mixed (by kernel_rfl) H [0,1,2] 3 E fun K=>?_
     refine aK G K 0 E (by kernel_rfl) E E E (fun w H=>(aC (off':=6) qU60 E in52 E G E E E)) fun a G=>?_
     refine aK G K 1 E (by kernel_rfl) E E E (fun w H=>(aI qA52 G E E (H.cell (i:=0) E (RMark.g_sent _)))) fun a G=>?_
     refine aK G K 2 E (by kernel_rfl) E E E (fun w H=>(aF G E E)) fun a G=>?_
     refine aK G K 3 E (by kernel_rfl) E E E (fun w H=>(aC (off':=6) qU60 E in52 E G E E E)) fun a G=>?_
     refine aK G K 4 E (by kernel_rfl) E E E (fun w H=>(aI qA52 G E E (H.cell (i:=0) E (RMark.g_sent _)))) fun a G=>?_
     refine aK G K 5 E (by kernel_rfl) E E E (fun w H=>(aF G E E)) fun a G=>?_
     obtain ⟨d35,l0,I⟩:=bind_some I
     have p0:=aM l0
     refine aK G K 6 E (by kernel_rfl) E E E (fun w H=>(aS (sz:=1) (d6 _ h0) qU52 in3 E G E E E (bH l0))) fun a G=>?_
     refine bF K 7 (by kernel_rfl) E E ?_
     refine bY G 7 E E E E E fun w hMs H=>?_
     obtain ⟨d10,c24,c16⟩:=jC (fun w h=>(((d6 w h).elemS p0.2)).get 0 rfl) h0 (H.hold 2 _ rfl)
     obtain ⟨d45,rfl⟩:=c16.i64
     refine Yd.val (aI qA3 G E E (c24)) ?_
     refine ⟨_,_,hMs,H,.inl fun _ h=>h,fun a G=>?_⟩
     refine aK G K 8 E (by kernel_rfl) E E E (fun w H=>(bW G E E E)) fun a G=>?_
     obtain ⟨d36,l1,I⟩:=bind_some I
     have p1:=aM l1
     refine aK G K 9 E (by kernel_rfl) E E E (fun w H=>(aS (sz:=1) (d6 _ h0) qU52 in3 E G E E E (bH l1))) fun a G=>?_
     refine bF K 10 (by kernel_rfl) E E ?_
     refine cV 10 E E E E fun w hMs H=>?_
     refine (iP qS3 H (i:=2) E (fun w h=>(((d6 w h).elemS p1.2)).get 0 E) h0 (Like.ints _ _) G E E E E fun w H=>?_)
     replace H:MemL _ (pt c1 (RMark.enc (RMark.mk c8 c9 c2.done c4 c5 c6 c7)) 60::pt c0 (RRecord.enc (mRc x0 s1 s3 s7)) 36::(spR SP w0)::Lr):=H
     have hMs:=selM H [0,1,2] 3 rfl
     refine ⟨_,_,hMs,H,.inl fun _ h=>h,?_⟩
     refine bV K (by kernel_rfl) fun w H=>?_
     refine bK (aB ?_)
     refine aD ?_
     refine aA G (aF G E E) E E E fun a G=>?_
     refine aA G (bW G E E E) E E E fun a G=>?_
     refine aA G (aH G E E) E E E fun a G=>?_
     refine aJ (aB ?_)
     have I:=oI I
     subst I
     exact ⟨(IntKind.i64.wrap (g3 + 1)),E,G.to ⟨E,E,E,E,trivial⟩,H⟩
    have I:=Fx.cF i3 I
    refine bX (bC (bC (cO ?_)))
    refine aB ?_
    have I:=oI I
    subst I
    have I:=c36 _ rfl
    subst I
    exact ⟨(),E,G.to ⟨E,E,trivial⟩,selM H [1,2] 3 E⟩
   rintro ⟨⟩ a w I ⟨G,H⟩
   replace I:Sh.oW x0 c3 = _:=I
   unfold Sh.oW at I
   refine aB ?_
   refine bM mixed (by kernel_rfl) H [0,1] 2 E fun K=>?_
   refine aK G K 0 E (by kernel_rfl) E E E (fun w H=>(aC (off':=2) qU36 E in33 E G E E E)) fun a G=>?_
   refine aK G K 1 E (by kernel_rfl) E E E (fun w H=>(aI qA33 G E E (H.cell (i:=0) E (RRecord.g_marks _)))) fun a G=>?_
   refine aK G K 2 E (by kernel_rfl) E E E (fun w H=>(aF G E E)) fun a G=>?_
   refine aK G K 3 E (by kernel_rfl) E E E (fun w H=>(aC (off':=2) qU36 E in33 E G E E E)) fun a G=>?_
   refine aK G K 4 E (by kernel_rfl) E E E (fun w H=>(aI qA33 G E E (H.cell (i:=0) E (RRecord.g_marks _)))) fun a G=>?_
   refine aK G K 5 E (by kernel_rfl) E E E (fun w H=>(aF G E E)) fun a G=>?_
   obtain ⟨d37,l2,I⟩:=bind_some I
   have p2:=aM l2
   obtain ⟨c54,u6,z7⟩:=Each.getr q10 p2.2
   have t4:=Each.bd q10 (bH l2)
   obtain ⟨c86,c87,c88,c42,c89,rfl,c62,c63,c64,c72,c65⟩:=z7
   refine aK G K 6 E (by kernel_rfl) E E E (fun w H=>(aS (sz:=7) (f9 _ h0) qU33 in60 E G E E E t4)) fun a G=>?_
   refine aK G K 7 E (by kernel_rfl) E E E (fun w H=>(aC qU60 E in3 E G E E E)) fun a G=>?_
   refine bF K 8 (by kernel_rfl) E E ?_
   refine bY G 8 E E E E E fun w hMs H=>?_
   obtain ⟨d11,c25,c17⟩:=jC (fun w h=>(((f9 w h).elemS u6)).get 1 (RMark.g_next _)) h0 (H.hold 1 _ rfl)
   obtain ⟨d46,rfl⟩:=c17.i64
   refine Yd.val (aI qA3 G E E (c25)) ?_
   refine ⟨_,_,hMs,H,.inl fun _ h=>h,fun a G=>?_⟩
   refine aK G K 9 E (by kernel_rfl) E E E (fun w H=>(bW G E E E)) fun a G=>?_
   obtain ⟨d38,l3,I⟩:=bind_some I
   have p3:=aM l3
   obtain ⟨c55,u7,z8⟩:=Each.getr q10 p3.2
   have t5:=Each.bd q10 (bH l3)
   obtain ⟨c90,c91,c92,c43,c93,rfl,c66,c67,c68,c73,c69⟩:=z8
   refine aK G K 10 E (by kernel_rfl) E E E (fun w H=>(aS (sz:=7) (f9 _ h0) qU33 in60 E G E E E t5)) fun a G=>?_
   refine aK G K 11 E (by kernel_rfl) E E E (fun w H=>(aC qU60 E in3 E G E E E)) fun a G=>?_
   refine bF K 12 (by kernel_rfl) E E ?_
   refine cV 12 E E E E fun w hMs H=>?_
   refine (iP qS3 H (i:=1) E (fun w h=>(((f9 w h).elemS u7)).get 1 (RMark.g_next _)) h0 (Like.ints _ _) G E E E E fun w H=>?_)
   replace H:MemL _ (pt c0 (RRecord.enc (mRc x0 s1 s3 s7)) 36::(spR SP w0)::Lr):=H
   have hMs:=selM H [0,1] 2 rfl
   refine ⟨_,_,hMs,H,.inl fun _ h=>h,?_⟩
   refine bV K (by kernel_rfl) fun w H=>?_
   refine bK (aB ?_)
   have I:=oI I
   subst I
   exact ⟨(),E,G.to ⟨E,E,trivial⟩,H⟩
  rintro ⟨⟩ a w I ⟨G,H⟩
  replace I:Sh.tV c3 = _:=I
  unfold Sh.tV at I
  refine aB ?_
  refine aD ?_
  refine aA G (aF G E E) E E E fun a G=>?_
  refine aA G (bW G E E E) E E E fun a G=>?_
  refine aA G (aH G E E) E E E fun a G=>?_
  refine aJ (aB ?_)
  have I:=oI I
  subst I
  exact ⟨(IntKind.i64.wrap (c3 + 1)),E,G.to ⟨E,E,trivial⟩,H⟩
 have I:=Fx.cF g7 I
 refine bX (bC (bC (cO ?_)))
 have I:=oI I
 subst I
 have I:=c40 _ rfl
 subst I
 refine eO Tryz.results58 G ?_
 exact ⟨E,selM H [] 2 E⟩
end Go.Proofs
end
section
namespace Go.Proofs
open Go.Fw Go.Fx
set_option maxRecDepth 10000
set_option maxHeartbeats 4000000 in
theorem iI {x0:QState} {s1:SV} {s3:SV} {hs4:List SV} {s7:SV} {out:QState} {w0:World} {Bf:World → Prop} {Lr:List Res} (I:Sh.hS x0 = some out) (H:MemL w0 (Lr)) (S:∀ w,MemL w Lr → Bf w) (f2:LIn Bf s1 x0.ctx) (f5:LIn Bf s3 hs4) (q6:Each (LIn (X:=UInt8) Bf) hs4 x0.tables) (f8:LIn Bf s7 x0.sent):Calls Tryz.prog 74 #[.agg (RState.enc (mSt x0 s1 s3 s7)).toArray] w0 (Ret fun v w'=>∃ (i0:SV) (i1:SV) (d3:List SV) (i2:SV),v = .agg (RState.enc (mSt out i0 i1 i2)).toArray ∧ Each (LIn (X:=UInt8) (packR d3 out.tables).holds') d3 out.tables ∧ MemL w' (rowL 0 i0 5 out.ctx::rowL 0 i1 23 d3::(packR d3 out.tables)::rowL 0 i2 3 out.sent::Lr)):=by
 unfold Sh.hS at I
 refine aR (vs:=[.agg (RState.enc (mSt x0 s1 s3 s7)).toArray]) Tryz.func74 E Tryz.ntmps74 E fun a G=>?_
 refine aG ?_
 refine aD ?_
 refine aN G E E E (dA G E E E fun c0 w j9 g1=>?_)
 have H:=H.plus g1
 intro a G
 refine aN G E E E (bN z54 (zs:=RState.zero.enc) E E fun c1 w k0 g2=>?_)
 have H:=H.plus g2
 replace H:MemL _ (pt c1 (RState.enc zSt) 54::pt c0 (RState.enc (mSt x0 s1 s3 s7)) 54::Lr):=H
 intro a G
 refine aJ (aB ?_)
 refine aG ?_
 refine aD ?_
 refine aA G (aC (off':=460) qU54 E in23 E G E E E) E E E fun a G=>?_
 refine aA G (aI qA23 G E E (H.cell (i:=1) E (RState.g_ctx _))) E E E fun a G=>?_
 obtain ⟨c7,j3,I⟩:=bind_some I
 refine aN G E E E (aO (xs:=[.tmp 6]) Tryz.call73 G E E (eH j3 H (Bf:=Bf) (fun w H=>S _ (dropM H 2)) f2) fun v w hR=>?_)
 obtain ⟨c2,rfl,H⟩:=hR
 replace H:MemL _ (rowL 0 c2 5 c7::pt c1 (RState.enc zSt) 54::pt c0 (RState.enc (mSt x0 s1 s3 s7)) 54::Lr):=H
 intro a G
 refine aA G (aC (off':=460) qU54 E in23 E G E E E) E E E fun a G=>?_
 refine bD E E (bI qS23 (H.obj (i:=2) E) G E E E E (by rw [RState.len]; decide) (RState.s_ctx _ _) fun w i5=>?_)
 have H:=H.chg i5 (i:=2) rfl
 replace H:MemL _ (rowL 0 c2 5 c7::pt c1 (RState.enc zSt) 54::pt c0 (RState.enc (mSt x0 c2 s3 s7)) 54::Lr):=H
 refine aJ (aB ?_)
 refine aG ?_
 refine aD ?_
 refine aA G (aC (off':=461) qU54 E in28 E G E E E) E E E fun a G=>?_
 refine aA G (aI qA28 G E E (H.cell (i:=2) E (RState.g_tables _))) E E E fun a G=>?_
 obtain ⟨c6,j4,I⟩:=bind_some I
 refine aN G E E E (aO (xs:=[.tmp 10]) Tryz.call148 G E E (jG j4 H (Bf:=Bf) (fun w H=>S _ (dropM H 3)) f5 q6) fun v w hR=>?_)
 obtain ⟨c3,d4,rfl,j7,H⟩:=hR
 replace H:MemL _ (rowL 0 c3 23 d4::rowL 0 c2 5 c7::pt c1 (RState.enc zSt) 54::pt c0 (RState.enc (mSt x0 c2 s3 s7)) 54::Lr):=H
 intro a G
 refine aA G (aC (off':=461) qU54 E in28 E G E E E) E E E fun a G=>?_
 refine bD E E (bI qS28 (H.obj (i:=3) E) G E E E E (by rw [RState.len]; decide) (RState.s_tables _ _) fun w i6=>?_)
 have H:=H.chg i6 (i:=3) rfl
 refine aJ (aB ?_)
 refine aG ?_
 have H:=uH H
 have g8:=aI7 j7
 replace H:MemL _ ((packR (d4.take 0) (c6.take 0))::rowL 0 c3 23 d4::rowL 0 c2 5 c7::pt c1 (RState.enc zSt) 54::pt c0 (RState.enc (mSt x0 c2 c3 s7)) 54::Lr):=H
 refine aV G H I (fun F x a w=>match x with | c9=>∃ (c4:List SV),MixP Bf c9 c4 c6 ∧ Fr 33 [(1,.pointer (some ⟨c0,0,none⟩)),(2,.pointer (some ⟨c1,0,none⟩))] a ∧ MemL w (rowL 0 c3 23 c4::(packR (c4.take c9) (c6.take c9))::pt c1 (RState.enc zSt) 54::pt c0 (RState.enc (mSt x0 c2 c3 s7)) 54::rowL 0 c2 5 c7::Lr)) (fun k8 I k4 G H=>?_) ?_
 ·refine aG ?_
  refine aD ?_
  refine aA G (aC (off':=461) qU54 E in28 E G E E E) E E E fun a G=>?_
  refine aA G (aI qA28 G E E (H.cell (i:=4) E (RState.g_tables _))) E E E fun a G=>?_
  refine aA G (cQ (H.rowS (X:=SV) (i:=1) E) g8.1 qU28 G E E) E E E fun a G=>?_
  refine aA G (aF G E E) E E E fun a G=>?_
  refine aJ (aB ?_)
  refine aU ?_
  refine bU G H I (fun F x a w=>match x with | (c8,d2)=>∃ (c5:List SV),MixP Bf c8 c5 c6 ∧ Fr 33 [(16,.int .i64 d2),(1,.pointer (some ⟨c0,0,none⟩)),(14,(c3).v),(15,.int .i64 (c6.length:Int)),(2,.pointer (some ⟨c1,0,none⟩))] a ∧ MemL w (rowL 0 c3 23 c5::(packR (c5.take c8) (c6.take c8))::pt c1 (RState.enc zSt) 54::pt c0 (RState.enc (mSt x0 c2 c3 s7)) 54::rowL 0 c2 5 c7::Lr)) (fun G H=>⟨d4,g8,G.to ⟨E,E,E,E,E,trivial⟩,selM H [1,0,3,4,2] 5 E⟩) ?_
  rintro ⟨c8,d2⟩ a w k9 I i4 ⟨c5,d6,G,H⟩
  replace I:Sh.jT c6 c8 d2 = _:=I
  unfold Sh.jT at I
  refine aG ?_
  refine aD ?_
  refine aA G (cK G E E E) E E E fun a G=>?_
  refine aJ (aB ?_)
  refine aG ?_
  refine aT G (c:=.tmp 17) E (fun d7=>?_) (fun d7=>?_)
  ·have I:=Fx.cT d7 I
   refine aW (aB ?_)
   refine aG ?_
   refine aU ?_
   refine aG ?_
   refine aD ?_
   refine aA G (aF G E E) E E E fun a G=>?_
   obtain ⟨l0,g0,I⟩:=bind_some I
   have k1:=aM g0
   obtain ⟨g3,k6,g5,g7⟩:=zH d6 g0
   obtain ⟨j0,I⟩:=cH I
   refine aA G (aS (sz:=1) (H.rowS (X:=SV) (i:=0) E) qU28 in23 E G E E E g3) E E E fun a G=>?_
   refine aA G (aI qA23 G E E ((((H.rowS (X:=SV) (i:=0) E).elemS g5)).get 0 E)) E E E fun a G=>?_
   refine aA G (aH G E E) E E E fun a G=>?_
   refine aA G (aH G E E) E E E fun a G=>?_
   refine aJ (aB ?_)
   refine bM mixed (by kernel_rfl) H [0,1,2,3,4] 5 E fun K=>?_
   refine aK G K 0 E (by kernel_rfl) E E E (fun w H=>(aC (off':=461) qU54 E in28 E G E E E)) fun a G=>?_
   refine aK G K 1 E (by kernel_rfl) E E E (fun w H=>(aI qA28 G E E (H.cell (i:=3) E (RState.g_tables _)))) fun a G=>?_
   refine aK G K 2 E (by kernel_rfl) E E E (fun w H=>(aF G E E)) fun a G=>?_
   refine aK G K 3 E (by kernel_rfl) E E E (fun w H=>(aF G E E)) fun a G=>?_
   refine bF K 4 (by kernel_rfl) E E ?_
   refine bY G 4 E E E E E fun w hMs H=>?_
   obtain ⟨i3,j5,I⟩:=bind_some I
   refine (aO (xs:=[.tmp 24]) Tryz.call73 G E E (eH j5 H (Bf:=Bf) (fun w H=>S _ (dropM H 5)) (g7 (of_decide_eq_true j0))) fun v w hR=>?_)
   obtain ⟨d1,rfl,H⟩:=hR
   replace H:MemL _ (rowL 0 d1 5 i3::rowL 0 c3 23 c5::(packR (c5.take c8) (c6.take c8))::pt c1 (RState.enc zSt) 54::pt c0 (RState.enc (mSt x0 c2 c3 s7)) 54::rowL 0 c2 5 c7::Lr):=H
   have hMs:=selM H [0,1,2,3,4,5] 6 rfl
   refine ⟨_,_,hMs,H,.inl fun _ h=>dropM h 1,fun a G=>?_⟩
   obtain ⟨l1,d5,I⟩:=bind_some I
   have k2:=aM d5
   obtain ⟨g4,k7,g6,k3⟩:=zH d6 d5
   obtain ⟨k5,I⟩:=cH I
   refine aK G K 5 E (by kernel_rfl) E E E (fun w H=>(aS (sz:=1) (H.rowS (X:=SV) (i:=1) E) qU28 in23 E G E E E g4)) fun a G=>?_
   refine bF K 6 (by kernel_rfl) E E ?_
   refine cV 6 E E E E fun w hMs H=>?_
   obtain ⟨d9,I⟩:=cH I
   obtain ⟨j1,I⟩:=cH I
   refine (eN (X:=SV) (d:=0) (q:=d1) qS23 (H.own (X:=SV) (i:=1) E) g6 G E E E E E (by decide) E fun w i7=>?_)
   have H:=H.chg i7 (i:=1) rfl
   have j8:=aDm (h:=d1) d6 d5 (of_decide_eq_true d9)
   replace H:MemL _ (rowL 0 d1 5 i3::rowL 0 c3 23 (c5.set (d2:Int).toNat d1)::(packR (c5.take c8) (c6.take c8))::pt c1 (RState.enc zSt) 54::pt c0 (RState.enc (mSt x0 c2 c3 s7)) 54::rowL 0 c2 5 c7::Lr):=H
   rw [of_decide_eq_true j1] at H
   have H:=aFh (h:=d1) d6 d5 (of_decide_eq_true d9) (selM H [2,0,1,3,4,5] 6 rfl)
   replace H:MemL _ ((packR ((c5.set (d2:Int).toNat d1).take (c8 + 1)) (c6.take (c8 + 1)))::rowL 0 c3 23 (c5.set (d2:Int).toNat d1)::pt c1 (RState.enc zSt) 54::pt c0 (RState.enc (mSt x0 c2 c3 s7)) 54::rowL 0 c2 5 c7::Lr):=H
   have hMs:=H
   refine ⟨_,_,hMs,H,.inr (by kernel_rfl),?_⟩
   refine bV K (by kernel_rfl) fun w H=>?_
   refine bK (aB ?_)
   refine aD ?_
   refine aA G (bW G E E E) E E E fun a G=>?_
   refine aA G (aF G E E) E E E fun a G=>?_
   refine aJ (aB ?_)
   have I:=oI I
   subst I
   exact ⟨((c8 + 1),(IntKind.i64.wrap (d2 + 1))),E,(c5.set (d2:Int).toNat d1),j8,G.to ⟨E,E,E,E,E,trivial⟩,selM H [1,0,2,3,4] 5 E⟩
  have I:=Fx.cF d7 I
  refine bX (bC (bC (cO ?_)))
  refine aB ?_
  have I:=oI I
  subst I
  have I:=i4 _ rfl
  subst I
  exact ⟨c8,E,c5,d6,G.to ⟨E,E,trivial⟩,H⟩
 rintro c9 a w I ⟨c4,g9,G,H⟩
 replace I:Sh.pI x0 c7 c6 c9 = _:=I
 unfold Sh.pI at I
 refine aB ?_
 refine aG ?_
 refine aD ?_
 refine aA G (aC (off':=462) qU54 E in52 E G E E E) E E E fun a G=>?_
 refine aA G (aI qA52 G E E (H.cell (i:=3) E (RState.g_sent _))) E E E fun a G=>?_
 obtain ⟨d8,j6,I⟩:=bind_some I
 refine aN G E E E (aO (xs:=[.tmp 29]) Tryz.call134 G E E (fA j6 H (Bf:=Bf) (fun w H=>S _ (dropM H 5)) f8) fun v w hR=>?_)
 obtain ⟨d0,rfl,H⟩:=hR
 replace H:MemL _ (rowL 0 d0 3 d8::rowL 0 c3 23 c4::(packR (c4.take c9) (c6.take c9))::pt c1 (RState.enc zSt) 54::pt c0 (RState.enc (mSt x0 c2 c3 s7)) 54::rowL 0 c2 5 c7::Lr):=H
 intro a G
 refine aA G (aC (off':=462) qU54 E in52 E G E E E) E E E fun a G=>?_
 refine bD E E (bI qS52 (H.obj (i:=4) E) G E E E E (by rw [RState.len]; decide) (RState.s_sent _ _) fun w i8=>?_)
 have H:=H.chg i8 (i:=4) rfl
 replace H:MemL _ (rowL 0 d0 3 d8::rowL 0 c3 23 c4::(packR (c4.take c9) (c6.take c9))::pt c1 (RState.enc zSt) 54::pt c0 (RState.enc (mSt x0 c2 c3 d0)) 54::rowL 0 c2 5 c7::Lr):=H
 refine aJ (aB ?_)
 refine aG ?_
 refine aD ?_
 refine aA G (aQ qA54 qS54 G E E (RState.len _) (H.cells (i:=4) E (aY (RState.len _)))) E E E fun a G=>?_
 refine bD E E (aX (vs:=_) qS54 (H.obj (i:=3) E) G E E E E (RState.len _) (RState.one _) (by first | (rw [RState.len,RState.len]; decide) | (rw [RState.len]; decide)) (bE ((RState.len _).trans (RState.len _).symm)) fun w i9=>?_)
 have H:=H.chg i9 (i:=3) rfl
 replace H:MemL _ (rowL 0 d0 3 d8::rowL 0 c3 23 c4::(packR (c4.take c9) (c6.take c9))::pt c1 (RState.enc (mSt x0 c2 c3 d0)) 54::pt c0 (RState.enc (mSt x0 c2 c3 d0)) 54::rowL 0 c2 5 c7::Lr):=H
 refine aJ (aB ?_)
 refine c_ret ?_
 obtain ⟨j2,I⟩:=cH I
 have H:=aFg g9 (of_decide_eq_true j2) (selM H [2,0,1,3,4,5] 6 rfl)
 replace H:MemL _ ((packR c4 c6)::rowL 0 d0 3 d8::rowL 0 c3 23 c4::pt c1 (RState.enc (mSt x0 c2 c3 d0)) 54::pt c0 (RState.enc (mSt x0 c2 c3 d0)) 54::rowL 0 c2 5 c7::Lr):=H
 have I:=oI I
 subst I
 refine dJ (rs:=[.cell 2 54]) Tryz.results74 G (bZ G E qA54 qS54 (RState.len _) (H.cells (i:=3) E (aY (RState.len _))) cI) E ?_
 exact ⟨c2,c3,c4,d0,E,(mA g9.1),selM H [5,2,0,1] 6 E⟩
set_option maxHeartbeats 4000000 in
theorem lJ {x0:QState} {s1:SV} {s3:SV} {hs4:List SV} {s7:SV} {out:QState} {w0:World} {Bf:World → Prop} {Lr:List Res} (I:Sh.mQ x0 = some out) (H:MemL w0 (Lr)) (S:∀ w,MemL w Lr → Bf w) (f2:LIn Bf s1 x0.ctx) (f5:LIn Bf s3 hs4) (q6:Each (LIn (X:=UInt8) Bf) hs4 x0.tables) (f8:LIn Bf s7 x0.sent):Calls Tryz.prog 154 #[.agg (RState.enc (mSt x0 s1 s3 s7)).toArray] w0 (Ret fun v w'=>∃ (j1:SV) (j2:SV) (d6:List SV) (j3:SV),v = .agg (RState.enc (mSt out j1 j2 j3)).toArray ∧ Each (LIn (X:=UInt8) (packR d6 out.tables).holds') d6 out.tables ∧ MemL w' (rowL 0 j1 5 out.ctx::rowL 0 j2 23 d6::(packR d6 out.tables)::rowL 0 j3 3 out.sent::Lr)):=by
 unfold Sh.mQ at I
 refine aR (vs:=[.agg (RState.enc (mSt x0 s1 s3 s7)).toArray]) Tryz.func154 E Tryz.ntmps154 E fun a G=>?_
 refine aG ?_
 refine aD ?_
 refine aN G E E E (dA G E E E fun c2 w k5 g4=>?_)
 have H:=H.plus g4
 intro a G
 refine aN G E E E (bN z54 (zs:=RState.zero.enc) E E fun c3 w k6 g5=>?_)
 have H:=H.plus g5
 intro a G
 refine aJ (aB ?_)
 refine aG ?_
 refine aD ?_
 refine aA G (aQ qA54 qS54 G E E (RState.len _) (H.cells (i:=1) E (aY (RState.len _)))) E E E fun a G=>?_
 refine aN G E E E (bN z54 (zs:=RState.zero.enc) E E fun c4 w k7 g6=>?_)
 have H:=H.plus g6
 replace H:MemL _ (pt c4 (RState.enc zSt) 54::pt c3 (RState.enc zSt) 54::pt c2 (RState.enc (mSt x0 s1 s3 s7)) 54::Lr):=H
 intro a G
 refine bD E E (aX (vs:=_) qS54 (H.obj (i:=0) E) G E E E E (RState.len _) (RState.one _) (by first | (rw [RState.len,RState.len]; decide) | (rw [RState.len]; decide)) (bE ((RState.len _).trans (RState.len _).symm)) fun w j5=>?_)
 have H:=H.chg j5 (i:=0) rfl
 replace H:MemL _ (pt c4 (RState.enc (mSt x0 s1 s3 s7)) 54::pt c3 (RState.enc zSt) 54::pt c2 (RState.enc (mSt x0 s1 s3 s7)) 54::Lr):=H
 refine aJ (aB ?_)
 refine aG ?_
 refine aD ?_
 refine aA G (aC (off':=460) qU54 E in23 E G E E E) E E E fun a G=>?_
 refine aA G (aI qA23 G E E (H.cell (i:=2) E (RState.g_ctx _))) E E E fun a G=>?_
 have H:=H.rowNil (X:=UInt8) 0 5
 obtain ⟨g8,k1,I⟩:=bind_some I
 refine aN G E E E (dC (X:=UInt8) k1 qU23 in5 E E E E G E E E (H.own (X:=UInt8) (i:=0) E) (f2 _ (S _ (dropM H 4))) fun d5 w i4=>?_)
 have H:=H.chg i4 (i:=0) rfl
 replace H:MemL _ (rowL 0 d5 5 g8::pt c4 (RState.enc (mSt x0 s1 s3 s7)) 54::pt c3 (RState.enc zSt) 54::pt c2 (RState.enc (mSt x0 s1 s3 s7)) 54::Lr):=H
 intro a G
 refine aA G (aC (off':=460) qU54 E in23 E G E E E) E E E fun a G=>?_
 refine bD E E (bI qS23 (H.obj (i:=1) E) G E E E E (by rw [RState.len]; decide) (RState.s_ctx _ _) fun w j6=>?_)
 have H:=H.chg j6 (i:=1) rfl
 replace H:MemL _ (rowL 0 d5 5 g8::pt c4 (RState.enc (mSt x0 d5 s3 s7)) 54::pt c3 (RState.enc zSt) 54::pt c2 (RState.enc (mSt x0 s1 s3 s7)) 54::Lr):=H
 refine aJ (aB ?_)
 refine aG ?_
 refine aD ?_
 refine aA G (aC (off':=461) qU54 E in28 E G E E E) E E E fun a G=>?_
 refine bD E E (bI qS28 (H.obj (i:=1) E) G E E E E (by rw [RState.len]; decide) (RState.s_tables _ SV.nil) fun w j7=>?_)
 have H:=H.chg j7 (i:=1) rfl
 replace H:MemL _ (rowL 0 d5 5 g8::pt c4 (RState.enc (mSt x0 d5 SV.nil s7)) 54::pt c3 (RState.enc zSt) 54::pt c2 (RState.enc (mSt x0 s1 s3 s7)) 54::Lr):=H
 refine aJ (aB ?_)
 refine aG ?_
 refine aV G H I (fun F x a w=>match x with | c1=>∃ (c9:SV) (d0:SV) (c7:List SV) (g1:SV),Each (LIn (X:=UInt8) (packR c7 c1.tables).holds') c7 c1.tables ∧ LIn Bf g1 c1.sent ∧ Fr 34 [(1,.pointer (some ⟨c2,0,none⟩)),(2,.pointer (some ⟨c3,0,none⟩)),(3,.pointer (some ⟨c4,0,none⟩))] a ∧ MemL w (pt c4 (RState.enc (mSt c1 c9 d0 g1)) 54::rowL 0 c9 5 c1.ctx::rowL 0 d0 23 c7::(packR c7 c1.tables)::pt c3 (RState.enc zSt) 54::pt c2 (RState.enc (mSt x0 s1 s3 s7)) 54::Lr)) (fun l4 I l1 G H=>?_) ?_
 ·refine aG ?_
  refine aD ?_
  refine aA G (aH G E E) E E E fun a G=>?_
  refine aJ (aB ?_)
  refine aU ?_
  have k9:Each (LIn (X:=UInt8) (packR [] []).holds') ([]:List SV) ([]:List (List UInt8)):=Each.nil
  have H:=uH H
  have H:=H.rowNil (X:=SV) 0 23
  refine bU G H I (fun F x a w=>match x with | (c0,g2)=>∃ (c8:SV) (d2:SV) (c5:List SV) (d3:SV),Each (LIn (X:=UInt8) (packR c5 c0.tables).holds') c5 c0.tables ∧ LIn Bf d3 c0.sent ∧ Fr 34 [(4,.int .i64 g2),(1,.pointer (some ⟨c2,0,none⟩)),(2,.pointer (some ⟨c3,0,none⟩)),(3,.pointer (some ⟨c4,0,none⟩))] a ∧ MemL w (pt c4 (RState.enc (mSt c0 c8 d2 d3)) 54::rowL 0 c8 5 c0.ctx::rowL 0 d2 23 c5::(packR c5 c0.tables)::pt c3 (RState.enc zSt) 54::pt c2 (RState.enc (mSt x0 s1 s3 s7)) 54::Lr)) (fun G H=>⟨d5,SV.nil,[],s7,k9,f8,G.to ⟨E,E,E,E,trivial⟩,selM H [3,2,0,1,4,5] 6 E⟩) ?_
  rintro ⟨c0,g2⟩ a w l5 I j4 ⟨c8,d2,c5,d3,g7,i2,G,H⟩
  replace I:Sh.lD x0 c0 g2 = _:=I
  unfold Sh.lD at I
  refine aG ?_
  refine aG ?_
  refine aD ?_
  refine aA G (aF G E E) E E E fun a G=>?_
  refine aA G (aC (off':=461) qU54 E in28 E G E E E) E E E fun a G=>?_
  refine aA G (aI qA28 G E E (H.cell (i:=5) E (RState.g_tables _))) E E E fun a G=>?_
  refine aA G (cQ (f5 _ (S _ (dropM H 6))) q6.len qU28 G E E) E E E fun a G=>?_
  refine aA G (cK G E E E) E E E fun a G=>?_
  refine aJ (aB ?_)
  refine aT G (c:=.tmp 15) E (fun d9=>?_) (fun d9=>?_)
  ·have I:=Fx.cT d9 I
   refine aW (aB ?_)
   refine aG ?_
   refine aU ?_
   refine bM mixed (by kernel_rfl) H [0,1,2,3,4,5] 6 E fun K=>?_
   refine aK G K 0 E (by kernel_rfl) E E E (fun w H=>(aC (off':=461) qU54 E in28 E G E E E)) fun a G=>?_
   refine aK G K 1 E (by kernel_rfl) E E E (fun w H=>(aI qA28 G E E (H.cell (i:=0) E (RState.g_tables _)))) fun a G=>?_
   refine aK G K 2 E (by kernel_rfl) E E E (fun w H=>(aC (off':=461) qU54 E in28 E G E E E)) fun a G=>?_
   refine aK G K 3 E (by kernel_rfl) E E E (fun w H=>(aI qA28 G E E (H.cell (i:=5) E (RState.g_tables _)))) fun a G=>?_
   refine aK G K 4 E (by kernel_rfl) E E E (fun w H=>(aF G E E)) fun a G=>?_
   obtain ⟨l6,i1,I⟩:=bind_some I
   have i3:=aM i1
   obtain ⟨l2,i9,j0⟩:=Each.getr q6 i3.2
   have i8:=Each.bd q6 (bH i1)
   refine aK G K 5 E (by kernel_rfl) E E E (fun w H=>(aS (sz:=1) (f5 _ (S _ (dropM H 6))) qU28 in23 E G E E E i8)) fun a G=>?_
   refine aK G K 6 E (by kernel_rfl) E E E (fun w H=>(aI qA23 G E E ((((f5 _ (S _ (dropM H 6))).elemS i9)).get 0 E))) fun a G=>?_
   refine bF K 7 (by kernel_rfl) E E ?_
   refine bY G 7 E E E E E fun w hMs H=>?_
   have H:=H.rowNil (X:=UInt8) 0 5
   obtain ⟨g9,k2,I⟩:=bind_some I
   refine (dC (X:=UInt8) k2 qU23 in5 E E E E G E E E (H.own (X:=UInt8) (i:=0) E) (j0 _ (S _ (dropM H 7))) fun c6 w i5=>?_)
   have H:=H.chg i5 (i:=0) rfl
   replace H:MemL _ (rowL 0 c6 5 g9::pt c4 (RState.enc (mSt c0 c8 d2 d3)) 54::rowL 0 c8 5 c0.ctx::rowL 0 d2 23 c5::(packR c5 c0.tables)::pt c3 (RState.enc zSt) 54::pt c2 (RState.enc (mSt x0 s1 s3 s7)) 54::Lr):=H
   have hMs:=selM H [0,1,2,3,4,5,6] 7 rfl
   refine ⟨_,_,hMs,H,.inl fun _ h=>dropM h 1,fun a G=>?_⟩
   refine bF K 8 (by kernel_rfl) E E ?_
   refine bY G 8 E E E E E fun w hMs H=>?_
   refine (cR (X:=SV) (y:=c6) qU28 in23 E E E E G E E E fun d1 w k4 g3=>?_)
   have H:=H.plus g3
   replace H:MemL _ (pt d1 (encs ([c6]:List SV)) 23::rowL 0 c6 5 g9::pt c4 (RState.enc (mSt c0 c8 d2 d3)) 54::rowL 0 c8 5 c0.ctx::rowL 0 d2 23 c5::(packR c5 c0.tables)::pt c3 (RState.enc zSt) 54::pt c2 (RState.enc (mSt x0 s1 s3 s7)) 54::Lr):=H
   have hMs:=selM H [0,1,2,3,4,5,6,7] 8 rfl
   refine ⟨_,_,hMs,H,.inl fun _ h=>dropM h 1,fun a G=>?_⟩
   refine bF K 9 (by kernel_rfl) E E ?_
   refine bY G 9 E E E E E fun w hMs H=>?_
   obtain ⟨d8,g0,I⟩:=bind_some I
   refine (fC (X:=SV) g0 g7.len E qU28 in23 E E E E G E E E (H.own (X:=SV) (i:=4) E) (H.ptS (X:=SV) (i:=0) (n:=1) (c:=1) E E E (Nat.le_refl _)) fun d7 w i6=>?_)
   have H:=H.chg i6 (i:=4) rfl
   replace H:MemL _ (pt d1 (encs ([c6]:List SV)) 23::rowL 0 c6 5 g9::pt c4 (RState.enc (mSt c0 c8 d2 d3)) 54::rowL 0 c8 5 c0.ctx::rowL 0 d7 23 (c5 ++ [c6])::(packR c5 c0.tables)::pt c3 (RState.enc zSt) 54::pt c2 (RState.enc (mSt x0 s1 s3 s7)) 54::Lr):=H
   have H:=rJ (selM H [5,1,0,2,3,4,6,7] 8 rfl) (dM g0).2
   have l0:Each (LIn (X:=UInt8) (packR (c5 ++ [c6]) d8).holds') (c5 ++ [c6]) d8:=mA (by rw [(dM g0).2]; simp [g7.len])
   replace H:MemL _ ((packR (c5 ++ [c6]) d8)::pt d1 (encs ([c6]:List SV)) 23::pt c4 (RState.enc (mSt c0 c8 d2 d3)) 54::rowL 0 c8 5 c0.ctx::rowL 0 d7 23 (c5 ++ [c6])::pt c3 (RState.enc zSt) 54::pt c2 (RState.enc (mSt x0 s1 s3 s7)) 54::Lr):=H
   have hMs:=H
   refine ⟨_,_,hMs,H,.inr (by kernel_rfl),fun a G=>?_⟩
   refine aK G K 10 E (by kernel_rfl) E E E (fun w H=>(aC (off':=461) qU54 E in28 E G E E E)) fun a G=>?_
   refine bF K 11 (by kernel_rfl) E E ?_
   refine cV 11 E E E E fun w hMs H=>?_
   refine (bI qS28 (H.obj (i:=2) E) G E E E E (by rw [RState.len]; decide) (RState.s_tables _ _) fun w j8=>?_)
   have H:=H.chg j8 (i:=2) rfl
   replace H:MemL _ ((packR (c5 ++ [c6]) d8)::pt d1 (encs ([c6]:List SV)) 23::pt c4 (RState.enc (mSt c0 c8 d7 d3)) 54::rowL 0 c8 5 c0.ctx::rowL 0 d7 23 (c5 ++ [c6])::pt c3 (RState.enc zSt) 54::pt c2 (RState.enc (mSt x0 s1 s3 s7)) 54::Lr):=H
   have hMs:=H
   refine ⟨_,_,hMs,H,.inr (by kernel_rfl),?_⟩
   refine bV K (by kernel_rfl) fun w H=>?_
   refine bK (aB ?_)
   refine aD ?_
   refine aA G (aF G E E) E E E fun a G=>?_
   refine aA G (bW G E E E) E E E fun a G=>?_
   refine aA G (aH G E E) E E E fun a G=>?_
   refine aJ (aB ?_)
   have I:=oI I
   subst I
   exact ⟨((QState.mk c0.regs c0.stack c0.ctx d8 c0.sent c0.at_ c0.steps c0.done),(IntKind.i64.wrap (g2 + 1))),E,c8,d7,(c5 ++ [c6]),d3,l0,i2,G.to ⟨E,E,E,E,trivial⟩,selM H [2,3,4,0,5,6] 7 E⟩
  have I:=Fx.cF d9 I
  refine bX (bC (bC (cO ?_)))
  refine aB ?_
  have I:=oI I
  subst I
  have I:=j4 _ rfl
  subst I
  exact ⟨c0,E,c8,d2,c5,d3,g7,i2,G.to ⟨E,E,E,trivial⟩,H⟩
 rintro c1 a w I ⟨c9,d0,c7,g1,k8,l3,G,H⟩
 replace I:Sh.pZ x0 c1 = _:=I
 unfold Sh.pZ at I
 refine aB ?_
 refine aG ?_
 refine aD ?_
 refine aA G (aC (off':=462) qU54 E in52 E G E E E) E E E fun a G=>?_
 refine aA G (aI qA52 G E E (H.cell (i:=5) E (RState.g_sent _))) E E E fun a G=>?_
 have H:=H.rowNil (X:=Int) 0 3
 obtain ⟨i0,k3,I⟩:=bind_some I
 refine aN G E E E (dC (X:=Int) k3 qU52 in3 E E E E G E E E (H.own (X:=Int) (i:=0) E) (f8 _ (S _ (dropM H 7))) fun d4 w i7=>?_)
 have H:=H.chg i7 (i:=0) rfl
 replace H:MemL _ (rowL 0 d4 3 i0::pt c4 (RState.enc (mSt c1 c9 d0 g1)) 54::rowL 0 c9 5 c1.ctx::rowL 0 d0 23 c7::(packR c7 c1.tables)::pt c3 (RState.enc zSt) 54::pt c2 (RState.enc (mSt x0 s1 s3 s7)) 54::Lr):=H
 intro a G
 refine aA G (aC (off':=462) qU54 E in52 E G E E E) E E E fun a G=>?_
 refine bD E E (bI qS52 (H.obj (i:=1) E) G E E E E (by rw [RState.len]; decide) (RState.s_sent _ _) fun w j9=>?_)
 have H:=H.chg j9 (i:=1) rfl
 replace H:MemL _ (rowL 0 d4 3 i0::pt c4 (RState.enc (mSt c1 c9 d0 d4)) 54::rowL 0 c9 5 c1.ctx::rowL 0 d0 23 c7::(packR c7 c1.tables)::pt c3 (RState.enc zSt) 54::pt c2 (RState.enc (mSt x0 s1 s3 s7)) 54::Lr):=H
 refine aJ (aB ?_)
 refine aG ?_
 refine aD ?_
 refine aA G (aQ qA54 qS54 G E E (RState.len _) (H.cells (i:=1) E (aY (RState.len _)))) E E E fun a G=>?_
 refine bD E E (aX (vs:=_) qS54 (H.obj (i:=5) E) G E E E E (RState.len _) (RState.one _) (by first | (rw [RState.len,RState.len]; decide) | (rw [RState.len]; decide)) (bE ((RState.len _).trans (RState.len _).symm)) fun w k0=>?_)
 have H:=H.chg k0 (i:=5) rfl
 replace H:MemL _ (rowL 0 d4 3 i0::pt c4 (RState.enc (mSt c1 c9 d0 d4)) 54::rowL 0 c9 5 c1.ctx::rowL 0 d0 23 c7::(packR c7 c1.tables)::pt c3 (RState.enc (mSt c1 c9 d0 d4)) 54::pt c2 (RState.enc (mSt x0 s1 s3 s7)) 54::Lr):=H
 refine aJ (aB ?_)
 refine c_ret ?_
 have I:=oI I
 subst I
 refine dJ (rs:=[.cell 2 54]) Tryz.results154 G (bZ G E qA54 qS54 (RState.len _) (H.cells (i:=5) E (aY (RState.len _))) cI) E ?_
 exact ⟨c9,d0,c7,d4,E,k8,selM H [2,3,4,0] 7 E⟩
set_option maxHeartbeats 4000000 in
theorem nF {x0:LTurn} {x1:Bool} {out:LVal} {w0:World} {Lr:List Res} (I:Sh.uM x0 x1 = some out) (H:MemL w0 (Lr)):Calls Tryz.prog 199 #[.agg (LTurn.enc x0).toArray,.bool x1] w0 (Ret fun v w'=>v = .agg (LVal.enc out).toArray ∧ MemL w' (Lr)):=by
 unfold Sh.uM at I
 refine aR (vs:=[.agg (LTurn.enc x0).toArray,.bool x1]) Tryz.func199 E Tryz.ntmps199 E fun a G=>?_
 refine aG ?_
 refine aD ?_
 refine aN G E E E (dA G E E E fun c0 w c4 c2=>?_)
 have H:=H.plus c2
 intro a G
 refine aN G E E E (bN z46 (zs:=LVal.zero.enc) E E fun c1 w c5 c3=>?_)
 have H:=H.plus c3
 replace H:MemL _ (pt c1 (LVal.enc LVal.zero) 46::pt c0 (LTurn.enc x0) 128::Lr):=H
 intro a G
 refine aJ (aB ?_)
 refine aG ?_
 refine aG ?_
 refine aD ?_
 refine aA G (aF G E E) E E E fun a G=>?_
 refine aJ (aB ?_)
 refine aT G (c:=.tmp 5) E (fun hb8=>?_) (fun hb8=>?_)
 ·have I:=Fx.cT hb8 I
  refine aG ?_
  refine aD ?_
  refine aA G (aC (off':=1) qU128 E in46 E G E E E) E E E fun a G=>?_
  refine aA G (aQ qA46 qS46 G E E (LVal.len _) (H.cells (i:=1) E (LTurn.c_old _))) E E E fun a G=>?_
  refine bD E E (aX (vs:=_) qS46 (H.obj (i:=0) E) G E E E E (LVal.len _) (LVal.one _) (by first | (rw [LVal.len,LVal.len]; decide) | (rw [LVal.len]; decide)) (bE ((LVal.len _).trans (LVal.len _).symm)) fun w hU9=>?_)
  have H:=H.chg hU9 (i:=0) rfl
  replace H:MemL _ (pt c1 (LVal.enc x0.old) 46::pt c0 (LTurn.enc x0) 128::Lr):=H
  refine aJ (aB ?_)
  refine c_ret ?_
  have I:=oI I
  subst I
  refine dJ (rs:=[.cell 4 46]) Tryz.results199 G (bZ G E qA46 qS46 (LVal.len _) (H.cells (i:=0) E (aY (LVal.len _))) cI) E ?_
  exact ⟨E,selM H [] 2 E⟩
 have I:=Fx.cF hb8 I
 refine aW (aB ?_)
 refine aG ?_
 refine aD ?_
 refine aA G (aC (off':=5) qU128 E in46 E G E E E) E E E fun a G=>?_
 refine aA G (aQ qA46 qS46 G E E (LVal.len _) (H.cells (i:=1) E (LTurn.c_new _))) E E E fun a G=>?_
 refine bD E E (aX (vs:=_) qS46 (H.obj (i:=0) E) G E E E E (LVal.len _) (LVal.one _) (by first | (rw [LVal.len,LVal.len]; decide) | (rw [LVal.len]; decide)) (bE ((LVal.len _).trans (LVal.len _).symm)) fun w hU10=>?_)
 have H:=H.chg hU10 (i:=0) rfl
 replace H:MemL _ (pt c1 (LVal.enc x0.new) 46::pt c0 (LTurn.enc x0) 128::Lr):=H
 refine aJ (aB ?_)
 refine c_ret ?_
 have I:=oI I
 subst I
 refine dJ (rs:=[.cell 4 46]) Tryz.results199 G (bZ G E qA46 qS46 (LVal.len _) (H.cells (i:=0) E (aY (LVal.len _))) cI) E ?_
 exact ⟨E,selM H [] 2 E⟩
set_option maxHeartbeats 4000000 in
theorem mD {x0:LCell} {x1:Bool} {out:LSlot} {w0:World} {Lr:List Res} (I:Sh.sW x0 x1 = some out) (H:MemL w0 (Lr)):Calls Tryz.prog 200 #[.agg (LCell.enc x0).toArray,.bool x1] w0 (Ret fun v w'=>v = .agg (LSlot.enc out).toArray ∧ MemL w' (Lr)):=by
 unfold Sh.sW at I
 refine aR (vs:=[.agg (LCell.enc x0).toArray,.bool x1]) Tryz.func200 E Tryz.ntmps200 E fun a G=>?_
 refine aG ?_
 refine aD ?_
 refine aN G E E E (dA G E E E fun c0 w c4 c2=>?_)
 have H:=H.plus c2
 intro a G
 refine aN G E E E (bN z50 (zs:=LSlot.zero.enc) E E fun c1 w c5 c3=>?_)
 have H:=H.plus c3
 replace H:MemL _ (pt c1 (LSlot.enc LSlot.zero) 50::pt c0 (LCell.enc x0) 151::Lr):=H
 intro a G
 refine aJ (aB ?_)
 refine aG ?_
 refine aG ?_
 refine aD ?_
 refine aA G (aF G E E) E E E fun a G=>?_
 refine aJ (aB ?_)
 refine aT G (c:=.tmp 5) E (fun hb8=>?_) (fun hb8=>?_)
 ·have I:=Fx.cT hb8 I
  refine aG ?_
  refine aD ?_
  refine aA G (aC (off':=1) qU151 E in50 E G E E E) E E E fun a G=>?_
  refine aA G (aQ qA50 qS50 G E E (LSlot.len _) (H.cells (i:=1) E (LCell.c_old _))) E E E fun a G=>?_
  refine bD E E (aX (vs:=_) qS50 (H.obj (i:=0) E) G E E E E (LSlot.len _) (LSlot.one _) (by first | (rw [LSlot.len,LSlot.len]; decide) | (rw [LSlot.len]; decide)) (bE ((LSlot.len _).trans (LSlot.len _).symm)) fun w hU9=>?_)
  have H:=H.chg hU9 (i:=0) rfl
  replace H:MemL _ (pt c1 (LSlot.enc x0.old) 50::pt c0 (LCell.enc x0) 151::Lr):=H
  refine aJ (aB ?_)
  refine c_ret ?_
  have I:=oI I
  subst I
  refine dJ (rs:=[.cell 4 50]) Tryz.results200 G (bZ G E qA50 qS50 (LSlot.len _) (H.cells (i:=0) E (aY (LSlot.len _))) cI) E ?_
  exact ⟨E,selM H [] 2 E⟩
 have I:=Fx.cF hb8 I
 refine aW (aB ?_)
 refine aG ?_
 refine aD ?_
 refine aA G (aC (off':=14) qU151 E in50 E G E E E) E E E fun a G=>?_
 refine aA G (aQ qA50 qS50 G E E (LSlot.len _) (H.cells (i:=1) E (LCell.c_new _))) E E E fun a G=>?_
 refine bD E E (aX (vs:=_) qS50 (H.obj (i:=0) E) G E E E E (LSlot.len _) (LSlot.one _) (by first | (rw [LSlot.len,LSlot.len]; decide) | (rw [LSlot.len]; decide)) (bE ((LSlot.len _).trans (LSlot.len _).symm)) fun w hU10=>?_)
 have H:=H.chg hU10 (i:=0) rfl
 replace H:MemL _ (pt c1 (LSlot.enc x0.new) 50::pt c0 (LCell.enc x0) 151::Lr):=H
 refine aJ (aB ?_)
 refine c_ret ?_
 have I:=oI I
 subst I
 refine dJ (rs:=[.cell 4 50]) Tryz.results200 G (bZ G E qA50 qS50 (LSlot.len _) (H.cells (i:=0) E (aY (LSlot.len _))) cI) E ?_
 exact ⟨E,selM H [] 2 E⟩
set_option maxHeartbeats 4000000 in
theorem lK {x0:QPiece} {x1:Bool} {s1:SV} {s3:SV} {out:List UInt8} {w0:World} {Bf:World → Prop} {Lr:List Res} (I:Sh.rC x0 x1 = some out) (H:MemL w0 (Lr)) (S:∀ w,MemL w Lr → Bf w) (f2:LIn Bf s1 x0.old) (f4:LIn Bf s3 x0.new):Calls Tryz.prog 201 #[.agg (RPiece.enc (mPc x0 s1 s3)).toArray,.bool x1] w0 (Ret fun v w'=>∃ (s7:SV),v = (s7).v ∧ LIn Bf s7 out ∧ MemL w' (Lr)):=by
 unfold Sh.rC at I
 refine aR (vs:=[.agg (RPiece.enc (mPc x0 s1 s3)).toArray,.bool x1]) Tryz.func201 E Tryz.ntmps201 E fun a G=>?_
 refine aG ?_
 refine aD ?_
 refine aN G E E E (dA G E E E fun c0 w c2 c1=>?_)
 have H:=H.plus c1
 replace H:MemL _ (pt c0 (RPiece.enc (mPc x0 s1 s3)) 156::Lr):=H
 intro a G
 refine aA G (aH G E E) E E E fun a G=>?_
 refine aJ (aB ?_)
 refine aG ?_
 refine aG ?_
 refine aD ?_
 refine aA G (aF G E E) E E E fun a G=>?_
 refine aJ (aB ?_)
 refine aT G (c:=.tmp 5) E (fun hb10=>?_) (fun hb10=>?_)
 ·have I:=Fx.cT hb10 I
  refine aG ?_
  refine aD ?_
  refine aA G (aC (off':=2) qU156 E in23 E G E E E) E E E fun a G=>?_
  refine aA G (aI qA23 G E E (H.cell (i:=0) E (RPiece.g_old _))) E E E fun a G=>?_
  refine aA G (aH G E E) E E E fun a G=>?_
  refine aJ (aB ?_)
  refine c_ret ?_
  have I:=oI I
  subst I
  refine bJ Tryz.results201 G E ?_
  exact ⟨s1,E,f2,selM H [] 1 E⟩
 have I:=Fx.cF hb10 I
 refine aW (aB ?_)
 refine aG ?_
 refine aD ?_
 refine aA G (aC (off':=3) qU156 E in23 E G E E E) E E E fun a G=>?_
 refine aA G (aI qA23 G E E (H.cell (i:=0) E (RPiece.g_new _))) E E E fun a G=>?_
 refine aA G (aH G E E) E E E fun a G=>?_
 refine aJ (aB ?_)
 refine c_ret ?_
 have I:=oI I
 subst I
 refine bJ Tryz.results201 G E ?_
 exact ⟨s3,E,f4,selM H [] 1 E⟩
set_option maxHeartbeats 4000000 in
theorem lE {x0:QState} {x1:QMark} {s1:SV} {s3:SV} {hs4:List SV} {s7:SV} {s9:SV} {s11:SV} {s13:SV} {hs14:List RPiece} {s17:SV} {out:QState} {w0:World} {Bf:World → Prop} {Lr:List Res} (I:Sh.nN x0 x1 = some out) (H:MemL w0 (Lr)) (S:∀ w,MemL w Lr → Bf w) (f2:LIn Bf s1 x0.ctx) (f5:LIn Bf s3 hs4) (q6:Each (LIn (X:=UInt8) Bf) hs4 x0.tables) (f8:LIn Bf s7 x0.sent) (f10:LIn Bf s9 x1.regs) (f12:LIn Bf s11 x1.slots) (f15:LIn Bf s13 hs14) (q16:Each (QPieceIn Bf) hs14 x1.pieces) (f18:LIn Bf s17 x1.sent):Calls Tryz.prog 127 #[.agg (RState.enc (mSt x0 s1 s3 s7)).toArray,.agg (RMark.enc (mMk x1 s9 s11 s13 s17)).toArray] w0 (Ret fun v w'=>∃ (m9:SV) (n0:SV) (k6:List SV) (m8:Res) (n1:SV),v = .agg (RState.enc (mSt out m9 n0 n1)).toArray ∧ Each (LIn (X:=UInt8) m8.holds') k6 out.tables ∧ MemL w' (rowL 0 m9 5 out.ctx::rowL 0 n0 23 k6::m8::rowL 0 n1 3 out.sent::Lr)):=by
 unfold Sh.nN at I
 refine aR (vs:=[.agg (RState.enc (mSt x0 s1 s3 s7)).toArray,.agg (RMark.enc (mMk x1 s9 s11 s13 s17)).toArray]) Tryz.func127 E Tryz.ntmps127 E fun a G=>?_
 refine aG ?_
 refine aD ?_
 refine aN G E E E (dA G E E E fun c2 w p5 j8=>?_)
 have H:=H.plus j8
 intro a G
 refine aN G E E E (dA G E E E fun c3 w p6 j9=>?_)
 have H:=H.plus j9
 intro a G
 refine aN G E E E (bN z54 (zs:=RState.zero.enc) E E fun c4 w p7 k0=>?_)
 have H:=H.plus k0
 replace H:MemL _ (pt c4 (RState.enc zSt) 54::pt c3 (RMark.enc (mMk x1 s9 s11 s13 s17)) 60::pt c2 (RState.enc (mSt x0 s1 s3 s7)) 54::Lr):=H
 intro a G
 refine aJ (aB ?_)
 refine aG ?_
 refine aD ?_
 refine aA G (aQ qA54 qS54 G E E (RState.len _) (H.cells (i:=2) E (aY (RState.len _)))) E E E fun a G=>?_
 obtain ⟨c0,p3,I⟩:=bind_some I
 refine aN G E E E (aO (xs:=[.tmp 13]) Tryz.call74 G E E (iI p3 H (Bf:=Bf) (fun w H=>S _ (dropM H 3)) f2 f5 q6 f8) fun v w hR=>?_)
 obtain ⟨c5,c6,c1,i9,rfl,t2,H⟩:=hR
 replace H:MemL _ (rowL 0 c5 5 c0.ctx::rowL 0 c6 23 c1::(packR c1 c0.tables)::rowL 0 i9 3 c0.sent::pt c4 (RState.enc zSt) 54::pt c3 (RMark.enc (mMk x1 s9 s11 s13 s17)) 60::pt c2 (RState.enc (mSt x0 s1 s3 s7)) 54::Lr):=H
 intro a G
 refine bD E E (aX (vs:=_) qS54 (H.obj (i:=6) E) G E E E E (RState.len _) (RState.one _) (by first | (rw [RState.len,RState.len]; decide) | (rw [RState.len]; decide)) (bE ((RState.len _).trans (RState.len _).symm)) fun w n8=>?_)
 have H:=H.chg n8 (i:=6) rfl
 have H:=wE (selM H [2,0,1,3,4,5,6] 7 rfl)
 have p2:(c5::c1).length = (c0.ctx::c0.tables).length:=congrArg (· + 1) t2.len
 have p1:(c5::c1)[0]? = some c5:=rfl
 replace H:MemL _ (packR (c5::c1) (c0.ctx::c0.tables)::rowL 0 c6 23 c1::rowL 0 i9 3 c0.sent::pt c4 (RState.enc zSt) 54::pt c3 (RMark.enc (mMk x1 s9 s11 s13 s17)) 60::pt c2 (RState.enc (mSt c0 c5 c6 i9)) 54::Lr):=H
 refine aJ (aB ?_)
 refine aG ?_
 refine aV G H I (fun F x a w=>match x with | (c8,k4)=>∃ (j0:SV),Fr 69 [(2,.pointer (some ⟨c2,0,none⟩)),(3,.pointer (some ⟨c3,0,none⟩)),(4,.pointer (some ⟨c4,0,none⟩))] a ∧ MemL w (pt c2 (RState.enc (RState.mk c8 c0.stack c5 c6 j0 c0.at_ c0.steps c0.done)) 54::rowL 0 j0 3 k4::pt c4 (RState.enc zSt) 54::pt c3 (RMark.enc (mMk x1 s9 s11 s13 s17)) 60::packR (c5::c1) (c0.ctx::c0.tables)::rowL 0 c6 23 c1::Lr)) (fun u5 I t9 G H=>?_) ?_
 ·refine aG ?_
  refine aD ?_
  refine aA G (aC (off':=3) qU60 E in56 E G E E E) E E E fun a G=>?_
  refine aA G (aI qA56 G E E (H.cell (i:=4) E (RMark.g_regs _))) E E E fun a G=>?_
  refine aA G (bQ (f10 _ (S _ (dropM H 6))) qU56 G E E) E E E fun a G=>?_
  refine aA G (aF G E E) E E E fun a G=>?_
  refine aJ (aB ?_)
  refine aU ?_
  refine bU G H I (fun F x a w=>match x with | (d9,g0,j2)=>∃ (d6:SV),Fr 69 [(18,.int .i64 j2),(16,(s9).v),(17,.int .i64 (x1.regs.length:Int)),(2,.pointer (some ⟨c2,0,none⟩)),(3,.pointer (some ⟨c3,0,none⟩)),(4,.pointer (some ⟨c4,0,none⟩))] a ∧ MemL w (pt c2 (RState.enc (RState.mk d9 c0.stack c5 c6 d6 c0.at_ c0.steps c0.done)) 54::rowL 0 d6 3 g0::pt c4 (RState.enc zSt) 54::pt c3 (RMark.enc (mMk x1 s9 s11 s13 s17)) 60::packR (c5::c1) (c0.ctx::c0.tables)::rowL 0 c6 23 c1::Lr)) (fun G H=>⟨i9,G.to ⟨E,E,E,E,E,E,trivial⟩,selM H [5,2,3,4,0,1] 6 E⟩) ?_
  rintro ⟨d9,g0,j2⟩ a w u8 I n5 ⟨d6,G,H⟩
  replace I:Sh.jQ x1 d9 g0 j2 = _:=I
  unfold Sh.jQ at I
  refine aG ?_
  refine aD ?_
  refine aA G (cK G E E E) E E E fun a G=>?_
  refine aJ (aB ?_)
  refine aG ?_
  refine aT G (c:=.tmp 19) E (fun i7=>?_) (fun i7=>?_)
  ·have I:=Fx.cT i7 I
   refine aW (aB ?_)
   refine aG ?_
   refine aU ?_
   refine aG ?_
   refine aD ?_
   obtain ⟨g8,k7,I⟩:=bind_some I
   have l7:=aM k7
   refine aA G (aS (sz:=9) (f10 _ (S _ (dropM H 6))) qU56 in128 E G E E E (bH k7)) E E E fun a G=>?_
   refine aA G (aQ qA128 qS128 G E E (LTurn.len _) (((f10 _ (S _ (dropM H 6))).elemS l7.2))) E E E fun a G=>?_
   refine aN G E E E (bN z128 (zs:=LTurn.zero.enc) E E fun g2 w p8 k1=>?_)
   have H:=H.plus k1
   replace H:MemL _ (pt g2 (LTurn.enc LTurn.zero) 128::pt c2 (RState.enc (RState.mk d9 c0.stack c5 c6 d6 c0.at_ c0.steps c0.done)) 54::rowL 0 d6 3 g0::pt c4 (RState.enc zSt) 54::pt c3 (RMark.enc (mMk x1 s9 s11 s13 s17)) 60::packR (c5::c1) (c0.ctx::c0.tables)::rowL 0 c6 23 c1::Lr):=H
   intro a G
   refine bD E E (aX (vs:=_) qS128 (H.obj (i:=0) E) G E E E E (LTurn.len _) (LTurn.one _) (by first | (rw [LTurn.len,LTurn.len]; decide) | (rw [LTurn.len]; decide)) (bE ((LTurn.len _).trans (LTurn.len _).symm)) fun w n9=>?_)
   have H:=H.chg n9 (i:=0) rfl
   replace H:MemL _ (pt g2 (LTurn.enc g8) 128::pt c2 (RState.enc (RState.mk d9 c0.stack c5 c6 d6 c0.at_ c0.steps c0.done)) 54::rowL 0 d6 3 g0::pt c4 (RState.enc zSt) 54::pt c3 (RMark.enc (mMk x1 s9 s11 s13 s17)) 60::packR (c5::c1) (c0.ctx::c0.tables)::rowL 0 c6 23 c1::Lr):=H
   refine aJ (aB ?_)
   refine aD ?_
   refine aA G (aC (off':=0) qU128 E in3 E G E E E) E E E fun a G=>?_
   refine aA G (aI qA3 G E E (H.cell (i:=0) E (LTurn.g_reg _))) E E E fun a G=>?_
   refine aA G (aC (off':=5) qU128 E in46 E G E E E) E E E fun a G=>?_
   refine aA G (aQ qA46 qS46 G E E (LVal.len _) (H.cells (i:=0) E (LTurn.c_new _))) E E E fun a G=>?_
   refine aA G (aC (off':=0) qU54 E in47 E G E E E) E E E fun a G=>?_
   obtain ⟨z1,g9,I⟩:=bind_some I
   have t5:=aM g9
   refine aA G (cP (sz:=4) qU47 in46 E G E E E (cU g9)) E E E fun a G=>?_
   refine bD E E (aX (vs:=_) qS46 (H.obj (i:=1) E) G E E E E (LVal.len _) (LVal.one _) (by have:=(cU g9); rw [LVal.len,RState.len]; omega) (RState.pi_regs _ _ _ (by have:=(cU g9); omega)) fun w p0=>?_)
   have H:=H.chg p0 (i:=1) rfl
   replace H:MemL _ (pt g2 (LTurn.enc g8) 128::pt c2 (RState.enc (RState.mk (d9.set (g8.reg:Int).toNat g8.new) c0.stack c5 c6 d6 c0.at_ c0.steps c0.done)) 54::rowL 0 d6 3 g0::pt c4 (RState.enc zSt) 54::pt c3 (RMark.enc (mMk x1 s9 s11 s13 s17)) 60::packR (c5::c1) (c0.ctx::c0.tables)::rowL 0 c6 23 c1::Lr):=H
   refine aJ (bK (aB ?_))
   refine aD ?_
   refine aA G (bW G E E E) E E E fun a G=>?_
   refine aA G (aF G E E) E E E fun a G=>?_
   refine aJ (aB ?_)
   have I:=oI I
   subst I
   exact ⟨((d9.set (g8.reg:Int).toNat g8.new),g0,(IntKind.i64.wrap (j2 + 1))),E,d6,G.to ⟨E,E,E,E,E,E,trivial⟩,selM H [1,2,3,4,5,6] 7 E⟩
  have I:=Fx.cF i7 I
  refine bX (bC (bC (cO ?_)))
  refine aB ?_
  have I:=oI I
  subst I
  have I:=n5 _ rfl
  subst I
  exact ⟨(d9,g0),E,d6,G.to ⟨E,E,E,trivial⟩,H⟩
 rintro ⟨c8,k4⟩ a w I ⟨j0,G,H⟩
 replace I:Sh.pG x1 c0 c8 k4 = _:=I
 unfold Sh.pG at I
 refine aB ?_
 refine aG ?_
 refine aV G H I (fun F x a w=>match x with | (c9,d0)=>∃ (c7:SV),Fr 69 [(2,.pointer (some ⟨c2,0,none⟩)),(3,.pointer (some ⟨c3,0,none⟩)),(4,.pointer (some ⟨c4,0,none⟩))] a ∧ MemL w (pt c2 (RState.enc (RState.mk c8 c9 c5 c6 c7 c0.at_ c0.steps c0.done)) 54::rowL 0 c7 3 d0::pt c4 (RState.enc zSt) 54::pt c3 (RMark.enc (mMk x1 s9 s11 s13 s17)) 60::packR (c5::c1) (c0.ctx::c0.tables)::rowL 0 c6 23 c1::Lr)) (fun u6 I u0 G H=>?_) ?_
 ·refine aG ?_
  refine aD ?_
  refine aA G (aC (off':=4) qU60 E in57 E G E E E) E E E fun a G=>?_
  refine aA G (aI qA57 G E E (H.cell (i:=3) E (RMark.g_slots _))) E E E fun a G=>?_
  refine aA G (bQ (f12 _ (S _ (dropM H 6))) qU57 G E E) E E E fun a G=>?_
  refine aA G (aF G E E) E E E fun a G=>?_
  refine aJ (aB ?_)
  refine aU ?_
  refine bU G H I (fun F x a w=>match x with | (d7,d8,i2)=>∃ (d2:SV),Fr 69 [(32,.int .i64 i2),(2,.pointer (some ⟨c2,0,none⟩)),(3,.pointer (some ⟨c3,0,none⟩)),(30,(s11).v),(31,.int .i64 (x1.slots.length:Int)),(4,.pointer (some ⟨c4,0,none⟩))] a ∧ MemL w (pt c2 (RState.enc (RState.mk c8 d7 c5 c6 d2 c0.at_ c0.steps c0.done)) 54::rowL 0 d2 3 d8::pt c4 (RState.enc zSt) 54::pt c3 (RMark.enc (mMk x1 s9 s11 s13 s17)) 60::packR (c5::c1) (c0.ctx::c0.tables)::rowL 0 c6 23 c1::Lr)) (fun G H=>⟨j0,G.to ⟨E,E,E,E,E,E,trivial⟩,H⟩) ?_
  rintro ⟨d7,d8,i2⟩ a w u9 I n6 ⟨d2,G,H⟩
  replace I:Sh.jR x1 d7 d8 i2 = _:=I
  unfold Sh.jR at I
  refine aG ?_
  refine aD ?_
  refine aA G (cK G E E E) E E E fun a G=>?_
  refine aJ (aB ?_)
  refine aG ?_
  refine aT G (c:=.tmp 33) E (fun i3=>?_) (fun i3=>?_)
  ·have I:=Fx.cT i3 I
   refine aW (aB ?_)
   refine aG ?_
   refine aU ?_
   refine aG ?_
   refine aD ?_
   obtain ⟨g1,j4,I⟩:=bind_some I
   have k9:=aM j4
   refine aA G (aS (sz:=27) (f12 _ (S _ (dropM H 6))) qU57 in151 E G E E E (bH j4)) E E E fun a G=>?_
   refine aA G (aQ qA151 qS151 G E E (LCell.len _) (((f12 _ (S _ (dropM H 6))).elemS k9.2))) E E E fun a G=>?_
   refine aN G E E E (bN z151 (zs:=LCell.zero.enc) E E fun g3 w p9 k2=>?_)
   have H:=H.plus k2
   replace H:MemL _ (pt g3 (LCell.enc LCell.zero) 151::pt c2 (RState.enc (RState.mk c8 d7 c5 c6 d2 c0.at_ c0.steps c0.done)) 54::rowL 0 d2 3 d8::pt c4 (RState.enc zSt) 54::pt c3 (RMark.enc (mMk x1 s9 s11 s13 s17)) 60::packR (c5::c1) (c0.ctx::c0.tables)::rowL 0 c6 23 c1::Lr):=H
   intro a G
   refine bD E E (aX (vs:=_) qS151 (H.obj (i:=0) E) G E E E E (LCell.len _) (LCell.one _) (by first | (rw [LCell.len,LCell.len]; decide) | (rw [LCell.len]; decide)) (bE ((LCell.len _).trans (LCell.len _).symm)) fun w l8=>?_)
   have H:=H.chg l8 (i:=0) rfl
   replace H:MemL _ (pt g3 (LCell.enc g1) 151::pt c2 (RState.enc (RState.mk c8 d7 c5 c6 d2 c0.at_ c0.steps c0.done)) 54::rowL 0 d2 3 d8::pt c4 (RState.enc zSt) 54::pt c3 (RMark.enc (mMk x1 s9 s11 s13 s17)) 60::packR (c5::c1) (c0.ctx::c0.tables)::rowL 0 c6 23 c1::Lr):=H
   refine aJ (aB ?_)
   refine aD ?_
   refine aA G (aC (off':=0) qU151 E in3 E G E E E) E E E fun a G=>?_
   refine aA G (aI qA3 G E E (H.cell (i:=0) E (LCell.g_slot _))) E E E fun a G=>?_
   refine aA G (aC (off':=14) qU151 E in50 E G E E E) E E E fun a G=>?_
   refine aA G (aQ qA50 qS50 G E E (LSlot.len _) (H.cells (i:=0) E (LCell.c_new _))) E E E fun a G=>?_
   refine aA G (aC (off':=44) qU54 E in51 E G E E E) E E E fun a G=>?_
   obtain ⟨u2,g5,I⟩:=bind_some I
   have t3:=aM g5
   refine aA G (cP (sz:=13) qU51 in50 E G E E E (cU g5)) E E E fun a G=>?_
   refine bD E E (aX (vs:=_) qS50 (H.obj (i:=1) E) G E E E E (LSlot.len _) (LSlot.one _) (by have:=(cU g5); rw [LSlot.len,RState.len]; omega) (RState.pi_stack _ _ _ (by have:=(cU g5); omega)) fun w l9=>?_)
   have H:=H.chg l9 (i:=1) rfl
   replace H:MemL _ (pt g3 (LCell.enc g1) 151::pt c2 (RState.enc (RState.mk c8 (d7.set (g1.slot:Int).toNat g1.new) c5 c6 d2 c0.at_ c0.steps c0.done)) 54::rowL 0 d2 3 d8::pt c4 (RState.enc zSt) 54::pt c3 (RMark.enc (mMk x1 s9 s11 s13 s17)) 60::packR (c5::c1) (c0.ctx::c0.tables)::rowL 0 c6 23 c1::Lr):=H
   refine aJ (bK (aB ?_))
   refine aD ?_
   refine aA G (bW G E E E) E E E fun a G=>?_
   refine aA G (aF G E E) E E E fun a G=>?_
   refine aJ (aB ?_)
   have I:=oI I
   subst I
   exact ⟨((d7.set (g1.slot:Int).toNat g1.new),d8,(IntKind.i64.wrap (i2 + 1))),E,d2,G.to ⟨E,E,E,E,E,E,trivial⟩,selM H [1,2,3,4,5,6] 7 E⟩
  have I:=Fx.cF i3 I
  refine bX (bC (bC (cO ?_)))
  refine aB ?_
  have I:=oI I
  subst I
  have I:=n6 _ rfl
  subst I
  exact ⟨(d7,d8),E,d2,G.to ⟨E,E,E,trivial⟩,H⟩
 rintro ⟨c9,d0⟩ a w I ⟨c7,G,H⟩
 replace I:Sh.pH x1 c0 c8 c9 d0 = _:=I
 unfold Sh.pH at I
 refine aB ?_
 refine aG ?_
 refine aV G H I (fun F x a w=>match x with | d5=>(c5::c1).length = d5.length ∧ Fr 69 [(2,.pointer (some ⟨c2,0,none⟩)),(3,.pointer (some ⟨c3,0,none⟩)),(4,.pointer (some ⟨c4,0,none⟩))] a ∧ MemL w (packR (c5::c1) d5::pt c2 (RState.enc (RState.mk c8 c9 c5 c6 c7 c0.at_ c0.steps c0.done)) 54::pt c4 (RState.enc zSt) 54::pt c3 (RMark.enc (mMk x1 s9 s11 s13 s17)) 60::rowL 0 c7 3 d0::rowL 0 c6 23 c1::Lr)) (fun u7 I u1 G H=>?_) ?_
 ·refine aG ?_
  refine aD ?_
  refine aA G (aC (off':=5) qU60 E in58 E G E E E) E E E fun a G=>?_
  refine aA G (aI qA58 G E E (H.cell (i:=3) E (RMark.g_pieces _))) E E E fun a G=>?_
  refine aA G (cQ (f15 _ (S _ (dropM H 6))) q16.len qU58 G E E) E E E fun a G=>?_
  refine aA G (aF G E E) E E E fun a G=>?_
  refine aJ (aB ?_)
  refine aU ?_
  refine bU G H I (fun F x a w=>match x with | (d1,g7)=>(c5::c1).length = d1.length ∧ Fr 69 [(46,.int .i64 g7),(2,.pointer (some ⟨c2,0,none⟩)),(3,.pointer (some ⟨c3,0,none⟩)),(4,.pointer (some ⟨c4,0,none⟩)),(44,(s13).v),(45,.int .i64 (x1.pieces.length:Int))] a ∧ MemL w (packR (c5::c1) d1::pt c2 (RState.enc (RState.mk c8 c9 c5 c6 c7 c0.at_ c0.steps c0.done)) 54::pt c4 (RState.enc zSt) 54::pt c3 (RMark.enc (mMk x1 s9 s11 s13 s17)) 60::rowL 0 c7 3 d0::rowL 0 c6 23 c1::Lr)) (fun G H=>⟨p2,G.to ⟨E,E,E,E,E,E,trivial⟩,selM H [4,0,2,3,1,5] 6 E⟩) ?_
  rintro ⟨d1,g7⟩ a w z0 I n7 ⟨g4,G,H⟩
  replace I:Sh.jS x1 d1 g7 = _:=I
  unfold Sh.jS at I
  refine aG ?_
  refine aD ?_
  refine aA G (cK G E E E) E E E fun a G=>?_
  refine aJ (aB ?_)
  refine aG ?_
  refine aT G (c:=.tmp 47) E (fun i4=>?_) (fun i4=>?_)
  ·have I:=Fx.cT i4 I
   refine aW (aB ?_)
   refine aG ?_
   refine aU ?_
   refine aG ?_
   refine aD ?_
   obtain ⟨d3,j5,I⟩:=bind_some I
   have l0:=aM j5
   obtain ⟨t7,l3,l6⟩:=Each.getr q16 l0.2
   have l1:=Each.bd q16 (bH j5)
   obtain ⟨i0,i1,rfl,t8,n3⟩:=l6
   refine aA G (aS (sz:=4) (f15 _ (S _ (dropM H 6))) qU58 in156 E G E E E l1) E E E fun a G=>?_
   refine aA G (aQ qA156 qS156 G E E (RPiece.len _) (((f15 _ (S _ (dropM H 6))).elemS l3))) E E E fun a G=>?_
   refine aN G E E E (bN z156 (zs:=RPiece.zero.enc) E E fun d4 w p4 j3=>?_)
   have H:=H.plus j3
   replace H:MemL _ (pt d4 (RPiece.enc (RPiece.mk 0 0 SV.nil SV.nil)) 156::packR (c5::c1) d1::pt c2 (RState.enc (RState.mk c8 c9 c5 c6 c7 c0.at_ c0.steps c0.done)) 54::pt c4 (RState.enc zSt) 54::pt c3 (RMark.enc (mMk x1 s9 s11 s13 s17)) 60::rowL 0 c7 3 d0::rowL 0 c6 23 c1::Lr):=H
   intro a G
   refine bD E E (aX (vs:=_) qS156 (H.obj (i:=0) E) G E E E E (RPiece.len _) (RPiece.one _) (by first | (rw [RPiece.len,RPiece.len]; decide) | (rw [RPiece.len]; decide)) (bE ((RPiece.len _).trans (RPiece.len _).symm)) fun w m0=>?_)
   have H:=H.chg m0 (i:=0) rfl
   replace H:MemL _ (pt d4 (RPiece.enc (mPc d3 i0 i1)) 156::packR (c5::c1) d1::pt c2 (RState.enc (RState.mk c8 c9 c5 c6 c7 c0.at_ c0.steps c0.done)) 54::pt c4 (RState.enc zSt) 54::pt c3 (RMark.enc (mMk x1 s9 s11 s13 s17)) 60::rowL 0 c7 3 d0::rowL 0 c6 23 c1::Lr):=H
   refine aJ (aB ?_)
   refine aG ?_
   refine aD ?_
   refine aA G (aQ qA54 qS54 G E E (RState.len _) (H.cells (i:=2) E (aY (RState.len _)))) E E E fun a G=>?_
   refine aA G (aC (off':=0) qU156 E in3 E G E E E) E E E fun a G=>?_
   refine aA G (aI qA3 G E E (H.cell (i:=0) E (RPiece.g_table _))) E E E fun a G=>?_
   obtain ⟨t1,I,n4⟩:=dH I
   refine aN G E E E (aO (xs:=[.tmp 51,.tmp 53]) Tryz.call192 G E E (R:=fun v w=>∃ x,t1 = .inl x ∧ match x with | (g6,j1)=>∃ (i8:SV),v = .tuple #[(i8).v,.bool j1] ∧ (c5::c1)[g6]? = some i8 ∧ MemL w (pt d4 (RPiece.enc (mPc d3 i0 i1)) 156::packR (c5::c1) d1::pt c2 (RState.enc (RState.mk c8 c9 c5 c6 c7 c0.at_ c0.steps c0.done)) 54::pt c4 (RState.enc zSt) 54::pt c3 (RMark.enc (mMk x1 s9 s11 s13 s17)) 60::rowL 0 c7 3 d0::rowL 0 c6 23 c1::Lr)) ?_ fun v w hR=>?_)
   ·refine aR Tryz.func192 E Tryz.ntmps192 E fun a G=>?_
    refine aG ?_
    refine aD ?_
    refine aN G E E E (dA G E E E fun j7 w t0 k3=>?_)
    have H:=H.plus k3
    replace H:MemL _ (pt j7 (RState.enc (RState.mk c8 c9 c5 c6 c7 c0.at_ c0.steps c0.done)) 54::pt d4 (RPiece.enc (mPc d3 i0 i1)) 156::packR (c5::c1) d1::pt c2 (RState.enc (RState.mk c8 c9 c5 c6 c7 c0.at_ c0.steps c0.done)) 54::pt c4 (RState.enc zSt) 54::pt c3 (RMark.enc (mMk x1 s9 s11 s13 s17)) 60::rowL 0 c7 3 d0::rowL 0 c6 23 c1::Lr):=H
    intro a G
    refine aA G (aH G E E) E E E fun a G=>?_
    refine aA G (aH G E E) E E E fun a G=>?_
    refine aJ (aB ?_)
    refine aG ?_
    refine aU ?_
    refine aG ?_
    refine aD ?_
    refine aA G (aF G E E) E E E fun a G=>?_
    refine aA G (cK G E E E) E E E fun a G=>?_
    refine aA G (aH G E E) E E E fun a G=>?_
    refine aJ (aB ?_)
    refine aT G (c:=.tmp 6) E (fun i5=>?_) (fun i5=>?_)
    ·have I:=Fx.cT i5 I
     refine aG ?_
     refine aD ?_
     refine aA G (aC (off':=460) qU54 E in23 E G E E E) E E E fun a G=>?_
     refine aA G (aI qA23 G E E (H.cell (i:=0) E (RState.g_ctx _))) E E E fun a G=>?_
     refine aA G (aH G E E) E E E fun a G=>?_
     refine aA G (aH G E E) E E E fun a G=>?_
     refine aJ (aB ?_)
     refine c_ret ?_
     have I:=oI I
     subst I
     refine dJ (rs:=[.tmp 4,.tmp 5]) qR192 G (cL G E (cL G E cI)) E ?_
     exact ⟨(0,true),E,c5,E,p1,selM H [1,2,3,4,5,6,7] 8 E⟩
    have I:=Fx.cF i5 I
    refine aG ?_
    refine aD ?_
    refine aA G (aF G E E) E E E fun a G=>?_
    refine aA G (aC (off':=461) qU54 E in28 E G E E E) E E E fun a G=>?_
    refine aA G (aI qA28 G E E (H.cell (i:=0) E (RState.g_tables _))) E E E fun a G=>?_
    refine aA G (cQ (H.rowS (X:=SV) (i:=7) E) (aAi g4) qU28 G E E) E E E fun a G=>?_
    refine aA G (cK G E E E) E E E fun a G=>?_
    refine aA G (aH G E E) E E E fun a G=>?_
    refine aJ (aB ?_)
    refine aT G (c:=.tmp 11) E (fun i6=>?_) (fun i6=>?_)
    ·have I:=Fx.cT i6 I
     refine aG ?_
     refine aD ?_
     refine aA G (aC (off':=461) qU54 E in28 E G E E E) E E E fun a G=>?_
     refine aA G (aI qA28 G E E (H.cell (i:=0) E (RState.g_tables _))) E E E fun a G=>?_
     refine aA G (aF G E E) E E E fun a G=>?_
     obtain ⟨u3,j6,I⟩:=bind_some I
     have t4:=aM j6
     obtain ⟨l2,n2,l4,l5⟩:=wF g4 j6
     refine aA G (aS (sz:=1) (H.rowS (X:=SV) (i:=7) E) qU28 in23 E G E E E l2) E E E fun a G=>?_
     refine aA G (aI qA23 G E E ((((H.rowS (X:=SV) (i:=7) E).elemS l4)).get 0 E)) E E E fun a G=>?_
     refine aA G (aH G E E) E E E fun a G=>?_
     refine aA G (aH G E E) E E E fun a G=>?_
     refine aJ (aB ?_)
     refine c_ret ?_
     have I:=oI I
     subst I
     refine dJ (rs:=[.tmp 4,.tmp 5]) qR192 G (cL G E (cL G E cI)) E ?_
     exact ⟨(((d3.table:Int).toNat + 1),true),E,n2,E,l5,selM H [1,2,3,4,5,6,7] 8 E⟩
    have I:=Fx.cF i6 I
    refine aW (bK (aB ?_))
    refine aG ?_
    refine aD ?_
    refine aA G (aH G E E) E E E fun a G=>?_
    refine aA G (aH G E E) E E E fun a G=>?_
    refine aJ (aB ?_)
    refine c_ret ?_
    obtain ⟨m4,I⟩:=cH I
    cases m4
   obtain ⟨⟨g6,j1⟩,rfl,i8,rfl,k5,H⟩:=hR
   replace I:Sh.pF d1 g7 d3 g6 j1 = _:=n4
   unfold Sh.pF at I
   intro a G
   refine aA G (aF G E E) E E E fun a G=>?_
   refine aA G (cZ G E E E) E E E fun a G=>?_
   refine aA G (cZ G E E E) E E E fun a G=>?_
   refine aA G (aH G E E) E E E fun a G=>?_
   refine aA G (aH G E E) E E E fun a G=>?_
   refine aJ (aB ?_)
   refine bM mixed (by kernel_rfl) H [0,1,2,3,4,5,6] 7 E fun K=>?_
   refine aK G K 0 E (by kernel_rfl) E E E (fun w H=>(aF G E E)) fun a G=>?_
   refine aK G K 1 E (by kernel_rfl) E E E (fun w H=>(aC (off':=1) qU156 E in3 E G E E E)) fun a G=>?_
   refine aK G K 2 E (by kernel_rfl) E E E (fun w H=>(aI qA3 G E E (H.cell (i:=0) E (RPiece.g_from_ _)))) fun a G=>?_
   obtain ⟨u4,m6,I⟩:=bind_some I
   refine aK G K 3 E (by kernel_rfl) E E E (fun w H=>(eL (xO (H.hold 1 _ E) k5) m6 qU23 in5 E G E E (.inr ⟨_,_,E,E⟩) (.inl ⟨E,E⟩))) fun a G=>?_
   refine aK G K 4 E (by kernel_rfl) E E E (fun w H=>(aC (off':=3) qU156 E in23 E G E E E)) fun a G=>?_
   refine aK G K 5 E (by kernel_rfl) E E E (fun w H=>(aI qA23 G E E (H.cell (i:=0) E (RPiece.g_new _)))) fun a G=>?_
   refine bF K 6 (by kernel_rfl) E E ?_
   refine bY G 6 E E E E E fun w hMs H=>?_
   obtain ⟨k8,m7,I⟩:=bind_some I
   refine (aIm m7 E qU23 in5 E E G E E E (H.hold 1 _ E) k5 (n3 _ (S _ (dropM H 7))) fun w m1=>?_)
   have H:=H.chg m1 (i:=1) rfl
   replace H:MemL _ (pt d4 (RPiece.enc (mPc d3 i0 i1)) 156::packR (c5::c1) (d1.set g6 k8)::pt c2 (RState.enc (RState.mk c8 c9 c5 c6 c7 c0.at_ c0.steps c0.done)) 54::pt c4 (RState.enc zSt) 54::pt c3 (RMark.enc (mMk x1 s9 s11 s13 s17)) 60::rowL 0 c7 3 d0::rowL 0 c6 23 c1::Lr):=H
   have hMs:=H
   refine ⟨_,_,hMs,H,.inr (by kernel_rfl),fun a G=>?_⟩
   refine bV K (by kernel_rfl) fun w H=>?_
   refine bK (aB ?_)
   refine aD ?_
   refine aA G (bW G E E E) E E E fun a G=>?_
   refine aA G (aF G E E) E E E fun a G=>?_
   refine aJ (aB ?_)
   have I:=oI I
   subst I
   exact ⟨((d1.set g6 k8),(IntKind.i64.wrap (g7 + 1))),E,(aCn g4),G.to ⟨E,E,E,E,E,E,trivial⟩,selM H [1,2,3,4,5,6] 7 E⟩
  have I:=Fx.cF i4 I
  refine bX (bC (bC (cO ?_)))
  refine aB ?_
  have I:=oI I
  subst I
  have I:=n7 _ rfl
  subst I
  exact ⟨d1,E,g4,G.to ⟨E,E,E,trivial⟩,H⟩
 rintro d5 a w I ⟨t6,G,H⟩
 replace I:Sh.tG x1 c0 c8 c9 d0 d5 = _:=I
 unfold Sh.tG at I
 refine aB ?_
 refine aG ?_
 refine aD ?_
 refine aA G (aC (off':=1) qU60 E in3 E G E E E) E E E fun a G=>?_
 refine aA G (aI qA3 G E E (H.cell (i:=3) E (RMark.g_next _))) E E E fun a G=>?_
 refine aA G (aC (off':=463) qU54 E in3 E G E E E) E E E fun a G=>?_
 refine bD E E (bI qS3 (H.obj (i:=1) E) G E E E E (by rw [RState.len]; decide) (RState.s_at_ _ _) fun w m2=>?_)
 have H:=H.chg m2 (i:=1) rfl
 replace H:MemL _ (packR (c5::c1) d5::pt c2 (RState.enc (RState.mk c8 c9 c5 c6 c7 x1.next c0.steps c0.done)) 54::pt c4 (RState.enc zSt) 54::pt c3 (RMark.enc (mMk x1 s9 s11 s13 s17)) 60::rowL 0 c7 3 d0::rowL 0 c6 23 c1::Lr):=H
 refine aJ (aB ?_)
 refine aG ?_
 refine aD ?_
 refine aA G (aQ qA54 qS54 G E E (RState.len _) (H.cells (i:=1) E (aY (RState.len _)))) E E E fun a G=>?_
 refine bD E E (aX (vs:=_) qS54 (H.obj (i:=2) E) G E E E E (RState.len _) (RState.one _) (by first | (rw [RState.len,RState.len]; decide) | (rw [RState.len]; decide)) (bE ((RState.len _).trans (RState.len _).symm)) fun w m3=>?_)
 have H:=H.chg m3 (i:=2) rfl
 refine aJ (aB ?_)
 refine c_ret ?_
 replace H:MemL _ (packR (c5::c1) d5::pt c2 (RState.enc (RState.mk c8 c9 c5 c6 c7 x1.next c0.steps c0.done)) 54::pt c4 (RState.enc (RState.mk c8 c9 c5 c6 c7 x1.next c0.steps c0.done)) 54::pt c3 (RMark.enc (mMk x1 s9 s11 s13 s17)) 60::rowL 0 c7 3 d0::rowL 0 c6 23 c1::Lr):=H
 obtain ⟨H,m5⟩:=uI (selM H [0,1,2,3,4,5] 6 rfl)
 replace H:MemL _ (rowL 0 c5 5 (Fx.pk d5 0)::(packR c1 (List.tail d5))::pt c2 (RState.enc (RState.mk c8 c9 c5 c6 c7 x1.next c0.steps c0.done)) 54::pt c4 (RState.enc (RState.mk c8 c9 c5 c6 c7 x1.next c0.steps c0.done)) 54::pt c3 (RMark.enc (mMk x1 s9 s11 s13 s17)) 60::rowL 0 c7 3 d0::rowL 0 c6 23 c1::Lr):=H
 have I:=oI I
 subst I
 refine dJ (rs:=[.cell 4 54]) Tryz.results127 G (bZ G E qA54 qS54 (RState.len _) (H.cells (i:=3) E (aY (RState.len _))) cI) E ?_
 exact ⟨c5,c6,c1,(packR c1 (List.tail d5)),c7,E,(mA m5),selM H [0,6,1,5] 7 E⟩
set_option maxHeartbeats 4000000 in
theorem nE {x0:QState} {x1:QMark} {x2:Bool} {s1:SV} {s3:SV} {hs4:List SV} {s7:SV} {s9:SV} {s11:SV} {s13:SV} {hs14:List RPiece} {s17:SV} {out:QState} {w0:World} {Bf:World → Prop} {Lr:List Res} (I:Sh.sJ x0 x1 x2 = some out) (H:MemL w0 (Lr)) (S:∀ w,MemL w Lr → Bf w) (f2:LIn Bf s1 x0.ctx) (f5:LIn Bf s3 hs4) (q6:Each (LIn (X:=UInt8) Bf) hs4 x0.tables) (f8:LIn Bf s7 x0.sent) (f10:LIn Bf s9 x1.regs) (f12:LIn Bf s11 x1.slots) (f15:LIn Bf s13 hs14) (q16:Each (QPieceIn Bf) hs14 x1.pieces) (f18:LIn Bf s17 x1.sent):Calls Tryz.prog 137 #[.agg (RState.enc (mSt x0 s1 s3 s7)).toArray,.agg (RMark.enc (mMk x1 s9 s11 s13 s17)).toArray,.bool x2] w0 (Ret fun v w'=>∃ (l0:SV) (l1:SV) (j2:List SV) (k9:Res) (l2:SV),v = .agg (RState.enc (mSt out l0 l1 l2)).toArray ∧ Each (LIn (X:=UInt8) k9.holds') j2 out.tables ∧ MemL w' (rowL 0 l0 5 out.ctx::rowL 0 l1 23 j2::k9::rowL 0 l2 3 out.sent::Lr)):=by
 unfold Sh.sJ at I
 refine aR (vs:=[.agg (RState.enc (mSt x0 s1 s3 s7)).toArray,.agg (RMark.enc (mMk x1 s9 s11 s13 s17)).toArray,.bool x2]) Tryz.func137 E Tryz.ntmps137 E fun a G=>?_
 refine aG ?_
 refine aD ?_
 refine aN G E E E (dA G E E E fun g3 w u7 k4=>?_)
 have H:=H.plus k4
 intro a G
 refine aN G E E E (dA G E E E fun c5 w u8 k5=>?_)
 have H:=H.plus k5
 intro a G
 refine aN G E E E (bN z54 (zs:=RState.zero.enc) E E fun c3 w u9 k6=>?_)
 have H:=H.plus k6
 replace H:MemL _ (pt c3 (RState.enc zSt) 54::pt c5 (RMark.enc (mMk x1 s9 s11 s13 s17)) 60::pt g3 (RState.enc (mSt x0 s1 s3 s7)) 54::Lr):=H
 intro a G
 refine aJ (aB ?_)
 refine aG ?_
 refine aD ?_
 refine aA G (aQ qA54 qS54 G E E (RState.len _) (H.cells (i:=2) E (aY (RState.len _)))) E E E fun a G=>?_
 obtain ⟨c0,t4,I⟩:=bind_some I
 refine aN G E E E (aO (xs:=[.tmp 14]) Tryz.call154 G E E (lJ t4 H (Bf:=Bf) (fun w H=>S _ (dropM H 3)) f2 f5 q6 f8) fun v w hR=>?_)
 obtain ⟨c2,c6,c1,g7,rfl,u5,H⟩:=hR
 intro a G
 refine aN G E E E (bN z54 (zs:=RState.zero.enc) E E fun c4 w z0 k7=>?_)
 have H:=H.plus k7
 replace H:MemL _ (pt c4 (RState.enc zSt) 54::rowL 0 c2 5 c0.ctx::rowL 0 c6 23 c1::(packR c1 c0.tables)::rowL 0 g7 3 c0.sent::pt c3 (RState.enc zSt) 54::pt c5 (RMark.enc (mMk x1 s9 s11 s13 s17)) 60::pt g3 (RState.enc (mSt x0 s1 s3 s7)) 54::Lr):=H
 intro a G
 refine bD E E (aX (vs:=_) qS54 (H.obj (i:=0) E) G E E E E (RState.len _) (RState.one _) (by first | (rw [RState.len,RState.len]; decide) | (rw [RState.len]; decide)) (bE ((RState.len _).trans (RState.len _).symm)) fun w p5=>?_)
 have H:=H.chg p5 (i:=0) rfl
 have H:=wE (selM H [3,1,0,2,4,5,6,7] 8 rfl)
 have t1:(c2::c1).length = (c0.ctx::c0.tables).length:=congrArg (· + 1) u5.len
 have t0:(c2::c1)[0]? = some c2:=rfl
 replace H:MemL _ (packR (c2::c1) (c0.ctx::c0.tables)::pt c4 (RState.enc (mSt c0 c2 c6 g7)) 54::rowL 0 c6 23 c1::rowL 0 g7 3 c0.sent::pt c3 (RState.enc zSt) 54::pt c5 (RMark.enc (mMk x1 s9 s11 s13 s17)) 60::pt g3 (RState.enc (mSt x0 s1 s3 s7)) 54::Lr):=H
 refine aJ (aB ?_)
 refine aG ?_
 refine aV G H I (fun F x a w=>match x with | (c8,i9)=>∃ (g8:SV),Fr 114 [(2,.bool x2),(4,.pointer (some ⟨c5,0,none⟩)),(6,.pointer (some ⟨c3,0,none⟩)),(7,.pointer (some ⟨c4,0,none⟩))] a ∧ MemL w (pt c4 (RState.enc (RState.mk c8 c0.stack c2 c6 g8 c0.at_ c0.steps c0.done)) 54::rowL 0 g8 3 i9::pt c3 (RState.enc zSt) 54::pt c5 (RMark.enc (mMk x1 s9 s11 s13 s17)) 60::packR (c2::c1) (c0.ctx::c0.tables)::rowL 0 c6 23 c1::Lr)) (fun c36 I c15 G H=>?_) ?_
 ·refine aG ?_
  refine aD ?_
  refine aA G (aH G E E) E E E fun a G=>?_
  refine aJ (aB ?_)
  refine aU ?_
  refine bU G H I (fun F x a w=>match x with | (d8,d9,i0)=>∃ (d3:SV),Fr 114 [(8,.int .i64 i0),(2,.bool x2),(4,.pointer (some ⟨c5,0,none⟩)),(6,.pointer (some ⟨c3,0,none⟩)),(7,.pointer (some ⟨c4,0,none⟩))] a ∧ MemL w (pt c4 (RState.enc (RState.mk d8 c0.stack c2 c6 d3 c0.at_ c0.steps c0.done)) 54::rowL 0 d3 3 d9::pt c3 (RState.enc zSt) 54::pt c5 (RMark.enc (mMk x1 s9 s11 s13 s17)) 60::packR (c2::c1) (c0.ctx::c0.tables)::rowL 0 c6 23 c1::Lr)) (fun G H=>⟨g7,G.to ⟨E,E,E,E,E,trivial⟩,selM H [1,3,4,5,0,2] 7 E⟩) ?_
  rintro ⟨d8,d9,i0⟩ a w c41 I u1 ⟨d3,G,H⟩
  replace I:Sh.nE x1 x2 d8 d9 i0 = _:=I
  unfold Sh.nE at I
  refine aG ?_
  refine aG ?_
  refine aD ?_
  refine aA G (aF G E E) E E E fun a G=>?_
  refine aA G (aC (off':=3) qU60 E in56 E G E E E) E E E fun a G=>?_
  refine aA G (aI qA56 G E E (H.cell (i:=3) E (RMark.g_regs _))) E E E fun a G=>?_
  refine aA G (bQ (f10 _ (S _ (dropM H 6))) qU56 G E E) E E E fun a G=>?_
  refine aA G (cK G E E E) E E E fun a G=>?_
  refine aJ (aB ?_)
  refine aT G (c:=.tmp 20) E (fun i2=>?_) (fun i2=>?_)
  ·have I:=Fx.cT i2 I
   refine aW (aB ?_)
   refine aG ?_
   refine aU ?_
   refine bM mixed (by kernel_rfl) H [0,1,2,3,4,5] 6 E fun K=>?_
   refine aK G K 0 E (by kernel_rfl) E E E (fun w H=>(aC (off':=3) qU60 E in56 E G E E E)) fun a G=>?_
   refine aK G K 1 E (by kernel_rfl) E E E (fun w H=>(aI qA56 G E E (H.cell (i:=3) E (RMark.g_regs _)))) fun a G=>?_
   refine aK G K 2 E (by kernel_rfl) E E E (fun w H=>(aF G E E)) fun a G=>?_
   obtain ⟨l4,j3,I⟩:=bind_some I
   have m0:=aM j3
   refine aK G K 3 E (by kernel_rfl) E E E (fun w H=>(aS (sz:=9) (f10 _ (S _ (dropM H 6))) qU56 in128 E G E E E (bH j3))) fun a G=>?_
   refine aK G K 4 E (by kernel_rfl) E E E (fun w H=>(aC qU128 E in3 E G E E E)) fun a G=>?_
   refine aK G K 5 E (by kernel_rfl) E E E (fun w H=>(aI qA3 G E E ((((f10 _ (S _ (dropM H 6))).elemS m0.2)).get 0 (LTurn.g_reg _)))) fun a G=>?_
   refine aK G K 6 E (by kernel_rfl) E E E (fun w H=>(aC (off':=3) qU60 E in56 E G E E E)) fun a G=>?_
   refine aK G K 7 E (by kernel_rfl) E E E (fun w H=>(aI qA56 G E E (H.cell (i:=3) E (RMark.g_regs _)))) fun a G=>?_
   refine aK G K 8 E (by kernel_rfl) E E E (fun w H=>(aF G E E)) fun a G=>?_
   obtain ⟨c28,j4,I⟩:=bind_some I
   have m1:=aM j4
   refine aK G K 9 E (by kernel_rfl) E E E (fun w H=>(aS (sz:=9) (f10 _ (S _ (dropM H 6))) qU56 in128 E G E E E (bH j4))) fun a G=>?_
   refine aK G K 10 E (by kernel_rfl) E E E (fun w H=>(aQ qA128 qS128 G E E (LTurn.len _) (((f10 _ (S _ (dropM H 6))).elemS m1.2)))) fun a G=>?_
   refine aK G K 11 E (by kernel_rfl) E E E (fun w H=>(aF G E E)) fun a G=>?_
   refine aK G K 13 E (by kernel_rfl) E E E (fun w H=>(aC (off':=0) qU54 E in47 E G E E E)) fun a G=>?_
   refine bF K 12 (by kernel_rfl) E E ?_
   refine bY G 12 E E E E E fun w hMs H=>?_
   obtain ⟨l7,t5,I⟩:=bind_some I
   refine (aO (xs:=[.tmp 33,.tmp 34]) Tryz.call199 G E E (nF t5 H ) fun v w hR=>?_)
   obtain ⟨rfl,H⟩:=hR
   replace H:MemL _ (pt c4 (RState.enc (RState.mk d8 c0.stack c2 c6 d3 c0.at_ c0.steps c0.done)) 54::rowL 0 d3 3 d9::pt c3 (RState.enc zSt) 54::pt c5 (RMark.enc (mMk x1 s9 s11 s13 s17)) 60::packR (c2::c1) (c0.ctx::c0.tables)::rowL 0 c6 23 c1::Lr):=H
   have hMs:=selM H [0,1,2,3,4,5] 6 rfl
   refine ⟨_,_,hMs,H,.inl fun _ h=>h,fun a G=>?_⟩
   obtain ⟨c29,g4,I⟩:=bind_some I
   have z1:=aM g4
   refine aK G K 14 E (by kernel_rfl) E E E (fun w H=>(cP (sz:=4) qU47 in46 E G E E E (cU g4))) fun a G=>?_
   refine bF K 15 (by kernel_rfl) E E ?_
   refine cV 15 E E E E fun w hMs H=>?_
   refine (aX (vs:=_) qS46 (H.obj (i:=0) E) G E E E E (LVal.len _) (LVal.one _) (by have:=(cU g4); rw [LVal.len,RState.len]; omega) (RState.pi_regs _ _ _ (by have:=(cU g4); omega)) fun w p6=>?_)
   have H:=H.chg p6 (i:=0) rfl
   replace H:MemL _ (pt c4 (RState.enc (RState.mk (d8.set (l4.reg:Int).toNat l7) c0.stack c2 c6 d3 c0.at_ c0.steps c0.done)) 54::rowL 0 d3 3 d9::pt c3 (RState.enc zSt) 54::pt c5 (RMark.enc (mMk x1 s9 s11 s13 s17)) 60::packR (c2::c1) (c0.ctx::c0.tables)::rowL 0 c6 23 c1::Lr):=H
   have hMs:=H
   refine ⟨_,_,hMs,H,.inr (by kernel_rfl),?_⟩
   refine bV K (by kernel_rfl) fun w H=>?_
   refine bK (aB ?_)
   refine aD ?_
   refine aA G (aF G E E) E E E fun a G=>?_
   refine aA G (bW G E E E) E E E fun a G=>?_
   refine aA G (aH G E E) E E E fun a G=>?_
   refine aJ (aB ?_)
   have I:=oI I
   subst I
   exact ⟨((d8.set (l4.reg:Int).toNat l7),d9,(IntKind.i64.wrap (i0 + 1))),E,d3,G.to ⟨E,E,E,E,E,trivial⟩,H⟩
  have I:=Fx.cF i2 I
  refine bX (bC (bC (cO ?_)))
  refine aB ?_
  have I:=oI I
  subst I
  have I:=u1 _ rfl
  subst I
  exact ⟨(d8,d9),E,d3,G.to ⟨E,E,E,E,trivial⟩,H⟩
 rintro ⟨c8,i9⟩ a w I ⟨g8,G,H⟩
 replace I:Sh.sR x1 x2 c0 c8 i9 = _:=I
 unfold Sh.sR at I
 refine aB ?_
 refine aG ?_
 refine aV G H I (fun F x a w=>match x with | (c9,d0)=>∃ (c7:SV),Fr 114 [(2,.bool x2),(4,.pointer (some ⟨c5,0,none⟩)),(6,.pointer (some ⟨c3,0,none⟩)),(7,.pointer (some ⟨c4,0,none⟩))] a ∧ MemL w (pt c4 (RState.enc (RState.mk c8 c9 c2 c6 c7 c0.at_ c0.steps c0.done)) 54::rowL 0 c7 3 d0::pt c3 (RState.enc zSt) 54::pt c5 (RMark.enc (mMk x1 s9 s11 s13 s17)) 60::packR (c2::c1) (c0.ctx::c0.tables)::rowL 0 c6 23 c1::Lr)) (fun c37 I c16 G H=>?_) ?_
 ·refine aG ?_
  refine aD ?_
  refine aA G (aH G E E) E E E fun a G=>?_
  refine aJ (aB ?_)
  refine aU ?_
  refine bU G H I (fun F x a w=>match x with | (g0,g1,i1)=>∃ (d4:SV),Fr 114 [(9,.int .i64 i1),(2,.bool x2),(4,.pointer (some ⟨c5,0,none⟩)),(6,.pointer (some ⟨c3,0,none⟩)),(7,.pointer (some ⟨c4,0,none⟩))] a ∧ MemL w (pt c4 (RState.enc (RState.mk c8 g0 c2 c6 d4 c0.at_ c0.steps c0.done)) 54::rowL 0 d4 3 g1::pt c3 (RState.enc zSt) 54::pt c5 (RMark.enc (mMk x1 s9 s11 s13 s17)) 60::packR (c2::c1) (c0.ctx::c0.tables)::rowL 0 c6 23 c1::Lr)) (fun G H=>⟨g8,G.to ⟨E,E,E,E,E,trivial⟩,H⟩) ?_
  rintro ⟨g0,g1,i1⟩ a w c42 I u2 ⟨d4,G,H⟩
  replace I:Sh.nF x1 x2 g0 g1 i1 = _:=I
  unfold Sh.nF at I
  refine aG ?_
  refine aG ?_
  refine aD ?_
  refine aA G (aF G E E) E E E fun a G=>?_
  refine aA G (aC (off':=4) qU60 E in57 E G E E E) E E E fun a G=>?_
  refine aA G (aI qA57 G E E (H.cell (i:=3) E (RMark.g_slots _))) E E E fun a G=>?_
  refine aA G (bQ (f12 _ (S _ (dropM H 6))) qU57 G E E) E E E fun a G=>?_
  refine aA G (cK G E E E) E E E fun a G=>?_
  refine aJ (aB ?_)
  refine aT G (c:=.tmp 42) E (fun i3=>?_) (fun i3=>?_)
  ·have I:=Fx.cT i3 I
   refine aW (aB ?_)
   refine aG ?_
   refine aU ?_
   refine bM mixed (by kernel_rfl) H [0,1,2,3,4,5] 6 E fun K=>?_
   refine aK G K 0 E (by kernel_rfl) E E E (fun w H=>(aC (off':=4) qU60 E in57 E G E E E)) fun a G=>?_
   refine aK G K 1 E (by kernel_rfl) E E E (fun w H=>(aI qA57 G E E (H.cell (i:=3) E (RMark.g_slots _)))) fun a G=>?_
   refine aK G K 2 E (by kernel_rfl) E E E (fun w H=>(aF G E E)) fun a G=>?_
   obtain ⟨l5,j5,I⟩:=bind_some I
   have m2:=aM j5
   refine aK G K 3 E (by kernel_rfl) E E E (fun w H=>(aS (sz:=27) (f12 _ (S _ (dropM H 6))) qU57 in151 E G E E E (bH j5))) fun a G=>?_
   refine aK G K 4 E (by kernel_rfl) E E E (fun w H=>(aC qU151 E in3 E G E E E)) fun a G=>?_
   refine aK G K 5 E (by kernel_rfl) E E E (fun w H=>(aI qA3 G E E ((((f12 _ (S _ (dropM H 6))).elemS m2.2)).get 0 (LCell.g_slot _)))) fun a G=>?_
   refine aK G K 6 E (by kernel_rfl) E E E (fun w H=>(aC (off':=4) qU60 E in57 E G E E E)) fun a G=>?_
   refine aK G K 7 E (by kernel_rfl) E E E (fun w H=>(aI qA57 G E E (H.cell (i:=3) E (RMark.g_slots _)))) fun a G=>?_
   refine aK G K 8 E (by kernel_rfl) E E E (fun w H=>(aF G E E)) fun a G=>?_
   obtain ⟨c30,j6,I⟩:=bind_some I
   have m3:=aM j6
   refine aK G K 9 E (by kernel_rfl) E E E (fun w H=>(aS (sz:=27) (f12 _ (S _ (dropM H 6))) qU57 in151 E G E E E (bH j6))) fun a G=>?_
   refine aK G K 10 E (by kernel_rfl) E E E (fun w H=>(aQ qA151 qS151 G E E (LCell.len _) (((f12 _ (S _ (dropM H 6))).elemS m3.2)))) fun a G=>?_
   refine aK G K 11 E (by kernel_rfl) E E E (fun w H=>(aF G E E)) fun a G=>?_
   refine aK G K 13 E (by kernel_rfl) E E E (fun w H=>(aC (off':=44) qU54 E in51 E G E E E)) fun a G=>?_
   refine bF K 12 (by kernel_rfl) E E ?_
   refine bY G 12 E E E E E fun w hMs H=>?_
   obtain ⟨l8,t6,I⟩:=bind_some I
   refine (aO (xs:=[.tmp 55,.tmp 56]) Tryz.call200 G E E (mD t6 H ) fun v w hR=>?_)
   obtain ⟨rfl,H⟩:=hR
   replace H:MemL _ (pt c4 (RState.enc (RState.mk c8 g0 c2 c6 d4 c0.at_ c0.steps c0.done)) 54::rowL 0 d4 3 g1::pt c3 (RState.enc zSt) 54::pt c5 (RMark.enc (mMk x1 s9 s11 s13 s17)) 60::packR (c2::c1) (c0.ctx::c0.tables)::rowL 0 c6 23 c1::Lr):=H
   have hMs:=selM H [0,1,2,3,4,5] 6 rfl
   refine ⟨_,_,hMs,H,.inl fun _ h=>h,fun a G=>?_⟩
   obtain ⟨c31,g5,I⟩:=bind_some I
   have z2:=aM g5
   refine aK G K 14 E (by kernel_rfl) E E E (fun w H=>(cP (sz:=13) qU51 in50 E G E E E (cU g5))) fun a G=>?_
   refine bF K 15 (by kernel_rfl) E E ?_
   refine cV 15 E E E E fun w hMs H=>?_
   refine (aX (vs:=_) qS50 (H.obj (i:=0) E) G E E E E (LSlot.len _) (LSlot.one _) (by have:=(cU g5); rw [LSlot.len,RState.len]; omega) (RState.pi_stack _ _ _ (by have:=(cU g5); omega)) fun w p7=>?_)
   have H:=H.chg p7 (i:=0) rfl
   replace H:MemL _ (pt c4 (RState.enc (RState.mk c8 (g0.set (l5.slot:Int).toNat l8) c2 c6 d4 c0.at_ c0.steps c0.done)) 54::rowL 0 d4 3 g1::pt c3 (RState.enc zSt) 54::pt c5 (RMark.enc (mMk x1 s9 s11 s13 s17)) 60::packR (c2::c1) (c0.ctx::c0.tables)::rowL 0 c6 23 c1::Lr):=H
   have hMs:=H
   refine ⟨_,_,hMs,H,.inr (by kernel_rfl),?_⟩
   refine bV K (by kernel_rfl) fun w H=>?_
   refine bK (aB ?_)
   refine aD ?_
   refine aA G (aF G E E) E E E fun a G=>?_
   refine aA G (bW G E E E) E E E fun a G=>?_
   refine aA G (aH G E E) E E E fun a G=>?_
   refine aJ (aB ?_)
   have I:=oI I
   subst I
   exact ⟨((g0.set (l5.slot:Int).toNat l8),g1,(IntKind.i64.wrap (i1 + 1))),E,d4,G.to ⟨E,E,E,E,E,trivial⟩,H⟩
  have I:=Fx.cF i3 I
  refine bX (bC (bC (cO ?_)))
  refine aB ?_
  have I:=oI I
  subst I
  have I:=u2 _ rfl
  subst I
  exact ⟨(g0,g1),E,d4,G.to ⟨E,E,E,E,trivial⟩,H⟩
 rintro ⟨c9,d0⟩ a w I ⟨c7,G,H⟩
 replace I:Sh.sS x1 x2 c0 c8 c9 d0 = _:=I
 unfold Sh.sS at I
 refine aB ?_
 refine aG ?_
 refine aV G H I (fun F x a w=>match x with | d6=>(c2::c1).length = d6.length ∧ Fr 114 [(6,.pointer (some ⟨c3,0,none⟩)),(7,.pointer (some ⟨c4,0,none⟩))] a ∧ MemL w (packR (c2::c1) d6::pt c4 (RState.enc (RState.mk c8 c9 c2 c6 c7 c0.at_ c0.steps c0.done)) 54::pt c3 (RState.enc zSt) 54::rowL 0 c7 3 d0::rowL 0 c6 23 c1::Lr)) (fun c38 I c17 G H=>?_) ?_
 ·refine aG ?_
  refine aD ?_
  refine aA G (aH G E E) E E E fun a G=>?_
  refine aJ (aB ?_)
  refine aU ?_
  refine bU G H I (fun F x a w=>match x with | (d7,d1)=>(c2::c1).length = d7.length ∧ Fr 114 [(10,.int .i64 d1),(2,.bool x2),(4,.pointer (some ⟨c5,0,none⟩)),(6,.pointer (some ⟨c3,0,none⟩)),(7,.pointer (some ⟨c4,0,none⟩))] a ∧ MemL w (packR (c2::c1) d7::pt c4 (RState.enc (RState.mk c8 c9 c2 c6 c7 c0.at_ c0.steps c0.done)) 54::pt c3 (RState.enc zSt) 54::pt c5 (RMark.enc (mMk x1 s9 s11 s13 s17)) 60::rowL 0 c7 3 d0::rowL 0 c6 23 c1::Lr)) (fun G H=>⟨t1,G.to ⟨E,E,E,E,E,trivial⟩,selM H [4,0,2,3,1,5] 6 E⟩) ?_
  rintro ⟨d7,d1⟩ a w c43 I u3 ⟨i7,G,H⟩
  replace I:Sh.nG x1 x2 d7 d1 = _:=I
  unfold Sh.nG at I
  refine aG ?_
  refine aG ?_
  refine aD ?_
  refine aA G (aF G E E) E E E fun a G=>?_
  refine aA G (aC (off':=5) qU60 E in58 E G E E E) E E E fun a G=>?_
  refine aA G (aI qA58 G E E (H.cell (i:=3) E (RMark.g_pieces _))) E E E fun a G=>?_
  refine aA G (cQ (f15 _ (S _ (dropM H 6))) q16.len qU58 G E E) E E E fun a G=>?_
  refine aA G (cK G E E E) E E E fun a G=>?_
  refine aJ (aB ?_)
  refine aT G (c:=.tmp 64) E (fun i4=>?_) (fun i4=>?_)
  ·have I:=Fx.cT i4 I
   refine aW (aB ?_)
   refine aG ?_
   refine aV G H I (fun F x a w=>match x with | g6=>(c2::c1).length = g6.length ∧ Fr 114 [(10,.int .i64 d1),(2,.bool x2),(4,.pointer (some ⟨c5,0,none⟩)),(6,.pointer (some ⟨c3,0,none⟩)),(7,.pointer (some ⟨c4,0,none⟩))] a ∧ MemL w (packR (c2::c1) g6::pt c4 (RState.enc (RState.mk c8 c9 c2 c6 c7 c0.at_ c0.steps c0.done)) 54::pt c3 (RState.enc zSt) 54::pt c5 (RMark.enc (mMk x1 s9 s11 s13 s17)) 60::rowL 0 c7 3 d0::rowL 0 c6 23 c1::Lr)) (fun c39 I c18 G H=>?_) ?_
   ·refine aU ?_
    refine aG ?_
    refine aD ?_
    refine aA G (aC (off':=5) qU60 E in58 E G E E E) E E E fun a G=>?_
    refine aA G (aI qA58 G E E (H.cell (i:=3) E (RMark.g_pieces _))) E E E fun a G=>?_
    refine aA G (aF G E E) E E E fun a G=>?_
    obtain ⟨c32,j7,I⟩:=bind_some I
    have m4:=aM j7
    obtain ⟨z5,n5,p1⟩:=Each.getr q16 m4.2
    have n0:=Each.bd q16 (bH j7)
    obtain ⟨c20,c21,rfl,t9,u0⟩:=p1
    refine aA G (aS (sz:=4) (f15 _ (S _ (dropM H 6))) qU58 in156 E G E E E n0) E E E fun a G=>?_
    refine aA G (aQ qA156 qS156 G E E (RPiece.len _) (((f15 _ (S _ (dropM H 6))).elemS n5))) E E E fun a G=>?_
    refine aA G (aF G E E) E E E fun a G=>?_
    obtain ⟨l9,t7,I⟩:=bind_some I
    refine aN G E E E (aO (xs:=[.tmp 71,.tmp 72]) Tryz.call201 G E E (lK t7 H (Bf:=Bf) (fun w H=>S _ (dropM H 6)) t9 u0) fun v w hR=>?_)
    obtain ⟨l3,rfl,i8,H⟩:=hR
    replace H:MemL _ (packR (c2::c1) d7::pt c4 (RState.enc (RState.mk c8 c9 c2 c6 c7 c0.at_ c0.steps c0.done)) 54::pt c3 (RState.enc zSt) 54::pt c5 (RMark.enc (mMk x1 s9 s11 s13 s17)) 60::rowL 0 c7 3 d0::rowL 0 c6 23 c1::Lr):=H
    intro a G
    refine aA G (aH G E E) E E E fun a G=>?_
    refine aJ (aB ?_)
    refine aG ?_
    refine aD ?_
    refine aA G (aC (off':=460) qU54 E in23 E G E E E) E E E fun a G=>?_
    refine aA G (aI qA23 G E E (H.cell (i:=1) E (RState.g_ctx _))) E E E fun a G=>?_
    refine aA G (aH G E E) E E E fun a G=>?_
    refine aJ (aB ?_)
    refine aG ?_
    refine aV G H I (fun F x a w=>match x with | d5=>∃ (g9:SV),(c2::c1)[d5]? = some g9 ∧ Fr 114 [(12,(g9).v),(10,.int .i64 d1),(11,(l3).v),(2,.bool x2),(4,.pointer (some ⟨c5,0,none⟩)),(6,.pointer (some ⟨c3,0,none⟩)),(7,.pointer (some ⟨c4,0,none⟩))] a ∧ MemL w (pt c4 (RState.enc (RState.mk c8 c9 c2 c6 c7 c0.at_ c0.steps c0.done)) 54::pt c3 (RState.enc zSt) 54::pt c5 (RMark.enc (mMk x1 s9 s11 s13 s17)) 60::packR (c2::c1) d7::rowL 0 c7 3 d0::rowL 0 c6 23 c1::Lr)) (fun c40 I c19 G H=>?_) ?_
    ·refine aG ?_
     refine aD ?_
     refine aA G (aC (off':=5) qU60 E in58 E G E E E) E E E fun a G=>?_
     refine aA G (aI qA58 G E E (H.cell (i:=3) E (RMark.g_pieces _))) E E E fun a G=>?_
     refine aA G (aF G E E) E E E fun a G=>?_
     obtain ⟨c33,j8,I⟩:=bind_some I
     have m5:=aM j8
     obtain ⟨z6,n6,p2⟩:=Each.getr q16 m5.2
     have n1:=Each.bd q16 (bH j8)
     obtain ⟨c22,c23,rfl,z9,c10⟩:=p2
     refine aA G (aS (sz:=4) (f15 _ (S _ (dropM H 6))) qU58 in156 E G E E E n1) E E E fun a G=>?_
     refine aA G (aC qU156 E in3 E G E E E) E E E fun a G=>?_
     refine aA G (aI qA3 G E E ((((f15 _ (S _ (dropM H 6))).elemS n6)).get 0 (RPiece.g_table _))) E E E fun a G=>?_
     refine aA G (jH G E E E) E E E fun a G=>?_
     refine aJ (aB ?_)
     refine aT G (c:=.tmp 82) E (fun i5=>?_) (fun i5=>?_)
     ·have I:=Fx.cT i5 I
      refine bM mixed (by kernel_rfl) H [0,1,2,3,4,5] 6 E fun K=>?_
      refine aK G K 0 E (by kernel_rfl) E E E (fun w H=>(aC (off':=461) qU54 E in28 E G E E E)) fun a G=>?_
      refine aK G K 1 E (by kernel_rfl) E E E (fun w H=>(aI qA28 G E E (H.cell (i:=1) E (RState.g_tables _)))) fun a G=>?_
      refine aK G K 2 E (by kernel_rfl) E E E (fun w H=>(aC (off':=5) qU60 E in58 E G E E E)) fun a G=>?_
      refine aK G K 3 E (by kernel_rfl) E E E (fun w H=>(aI qA58 G E E (H.cell (i:=3) E (RMark.g_pieces _)))) fun a G=>?_
      refine aK G K 4 E (by kernel_rfl) E E E (fun w H=>(aF G E E)) fun a G=>?_
      obtain ⟨u6,j9,I⟩:=bind_some I
      have m6:=aM j9
      obtain ⟨z7,n7,p3⟩:=Each.getr q16 m6.2
      have n2:=Each.bd q16 (bH j9)
      obtain ⟨c24,c25,rfl,c11,c12⟩:=p3
      refine aK G K 5 E (by kernel_rfl) E E E (fun w H=>(aS (sz:=4) (f15 _ (S _ (dropM H 6))) qU58 in156 E G E E E n2)) fun a G=>?_
      refine aK G K 6 E (by kernel_rfl) E E E (fun w H=>(aC qU156 E in3 E G E E E)) fun a G=>?_
      refine aK G K 7 E (by kernel_rfl) E E E (fun w H=>(aI qA3 G E E ((((f15 _ (S _ (dropM H 6))).elemS n7)).get 0 (RPiece.g_table _)))) fun a G=>?_
      obtain ⟨c34,k0,I⟩:=bind_some I
      have z3:=aM k0
      obtain ⟨n3,t8,n8,p0⟩:=wF i7 k0
      refine aK G K 8 E (by kernel_rfl) E E E (fun w H=>(aS (sz:=1) (H.rowS (X:=SV) (i:=5) E) qU28 in23 E G E E E n3)) fun a G=>?_
      refine aK G K 9 E (by kernel_rfl) E E E (fun w H=>(aI qA23 G E E ((((H.rowS (X:=SV) (i:=5) E).elemS n8)).get 0 E))) fun a G=>?_
      refine aK G K 10 E (by kernel_rfl) E E E (fun w H=>(aH G E E)) fun a G=>?_
      refine bV K (by kernel_rfl) fun w H=>?_
      refine aB ?_
      have I:=oI I
      subst I
      exact ⟨((u6.table:Int).toNat + 1),E,t8,p0,G.to ⟨E,E,E,E,E,E,E,trivial⟩,selM H [1,2,3,0,4,5] 6 E⟩
     have I:=Fx.cF i5 I
     refine aW (aB ?_)
     have I:=oI I
     subst I
     exact ⟨0,E,c2,t0,G.to ⟨E,E,E,E,E,E,E,trivial⟩,selM H [1,2,3,0,4,5] 6 E⟩
    rintro d5 a w I ⟨g9,k8,G,H⟩
    replace I:Sh.sV x1 d7 d1 l9 d5 = _:=I
    unfold Sh.sV at I
    refine aB ?_
    refine aG ?_
    refine aD ?_
    refine aA G (aH G E E) E E E fun a G=>?_
    refine aJ (aB ?_)
    refine aU ?_
    refine bU G H I (fun F x a w=>match x with | (d2,g2)=>(c2::c1).length = d2.length ∧ Fr 114 [(13,.int .i64 g2),(10,.int .i64 d1),(11,(l3).v),(12,(g9).v),(2,.bool x2),(4,.pointer (some ⟨c5,0,none⟩)),(6,.pointer (some ⟨c3,0,none⟩)),(7,.pointer (some ⟨c4,0,none⟩))] a ∧ MemL w (packR (c2::c1) d2::pt c4 (RState.enc (RState.mk c8 c9 c2 c6 c7 c0.at_ c0.steps c0.done)) 54::pt c3 (RState.enc zSt) 54::pt c5 (RMark.enc (mMk x1 s9 s11 s13 s17)) 60::rowL 0 c7 3 d0::rowL 0 c6 23 c1::Lr)) (fun G H=>⟨i7,G.to ⟨E,E,E,E,E,E,E,E,trivial⟩,selM H [3,0,1,2,4,5] 6 E⟩) ?_
    rintro ⟨d2,g2⟩ a w c44 I u4 ⟨j1,G,H⟩
    replace I:Sh.nH x1 d1 l9 d5 d2 g2 = _:=I
    unfold Sh.nH at I
    refine aG ?_
    refine aG ?_
    refine aD ?_
    refine aA G (aF G E E) E E E fun a G=>?_
    refine aA G (aF G E E) E E E fun a G=>?_
    refine aA G (bQ (i8 _ (S _ (dropM H 6))) qU23 G E E) E E E fun a G=>?_
    refine aA G (cK G E E E) E E E fun a G=>?_
    refine aJ (aB ?_)
    refine aT G (c:=.tmp 96) E (fun i6=>?_) (fun i6=>?_)
    ·have I:=Fx.cT i6 I
     refine aW (aB ?_)
     refine aG ?_
     refine aU ?_
     refine bM mixed (by kernel_rfl) H [0,1,2,3,4,5] 6 E fun K=>?_
     refine aK G K 0 E (by kernel_rfl) E E E (fun w H=>(aF G E E)) fun a G=>?_
     refine aK G K 1 E (by kernel_rfl) E E E (fun w H=>(aC (off':=5) qU60 E in58 E G E E E)) fun a G=>?_
     refine aK G K 2 E (by kernel_rfl) E E E (fun w H=>(aI qA58 G E E (H.cell (i:=3) E (RMark.g_pieces _)))) fun a G=>?_
     refine aK G K 3 E (by kernel_rfl) E E E (fun w H=>(aF G E E)) fun a G=>?_
     obtain ⟨l6,k1,I⟩:=bind_some I
     have m7:=aM k1
     obtain ⟨z8,n9,p4⟩:=Each.getr q16 m7.2
     have n4:=Each.bd q16 (bH k1)
     obtain ⟨c26,c27,rfl,c13,c14⟩:=p4
     refine aK G K 4 E (by kernel_rfl) E E E (fun w H=>(aS (sz:=4) (f15 _ (S _ (dropM H 6))) qU58 in156 E G E E E n4)) fun a G=>?_
     refine aK G K 5 E (by kernel_rfl) E E E (fun w H=>(aC qU156 E in3 E G E E E)) fun a G=>?_
     refine aK G K 6 E (by kernel_rfl) E E E (fun w H=>(aI qA3 G E E ((((f15 _ (S _ (dropM H 6))).elemS n9)).get 1 (RPiece.g_from_ _)))) fun a G=>?_
     refine aK G K 7 E (by kernel_rfl) E E E (fun w H=>(aF G E E)) fun a G=>?_
     refine aK G K 8 E (by kernel_rfl) E E E (fun w H=>(bW G E E E)) fun a G=>?_
     refine aK G K 9 E (by kernel_rfl) E E E (fun w H=>(aF G E E)) fun a G=>?_
     refine aK G K 10 E (by kernel_rfl) E E E (fun w H=>(aF G E E)) fun a G=>?_
     obtain ⟨j0,k2,I⟩:=bind_some I
     have m8:=aM k2
     refine aK G K 11 E (by kernel_rfl) E E E (fun w H=>(aS (sz:=1) (i8 _ (S _ (dropM H 6))) qU23 in5 E G E E E (bH k2))) fun a G=>?_
     refine aK G K 12 E (by kernel_rfl) E E E (fun w H=>(aI qA5 G E E ((((i8 _ (S _ (dropM H 6))).elemS m8.2)).get 0 E))) fun a G=>?_
     obtain ⟨c35,k3,I⟩:=bind_some I
     have m9:=aM k3
     refine aK G K 13 E (by kernel_rfl) E E E (fun w H=>(aS (sz:=1) (xO (H.hold 0 _ E) k8) qU23 in5 E G E E E (bH k3))) fun a G=>?_
     refine bF K 14 (by kernel_rfl) E E ?_
     refine cV 14 E E E E fun w hMs H=>?_
     refine (aGo (u:=j0) qS5 (H.hold 0 _ E) k8 m9.2 G E E E E fun w p8=>?_)
     have H:=H.chg p8 (i:=0) rfl
     replace H:MemL _ (packR (c2::c1) (d2.set d5 ((Fx.pk d2 d5).set ((IntKind.i64.wrap (l6.from_ + g2)):Int).toNat j0))::pt c4 (RState.enc (RState.mk c8 c9 c2 c6 c7 c0.at_ c0.steps c0.done)) 54::pt c3 (RState.enc zSt) 54::pt c5 (RMark.enc (mMk x1 s9 s11 s13 s17)) 60::rowL 0 c7 3 d0::rowL 0 c6 23 c1::Lr):=H
     have hMs:=H
     refine ⟨_,_,hMs,H,.inr (by kernel_rfl),?_⟩
     refine bV K (by kernel_rfl) fun w H=>?_
     refine bK (aB ?_)
     refine aD ?_
     refine aA G (aF G E E) E E E fun a G=>?_
     refine aA G (bW G E E E) E E E fun a G=>?_
     refine aA G (aH G E E) E E E fun a G=>?_
     refine aJ (aB ?_)
     have I:=oI I
     subst I
     exact ⟨((d2.set d5 ((Fx.pk d2 d5).set ((IntKind.i64.wrap (l6.from_ + g2)):Int).toNat j0)),(IntKind.i64.wrap (g2 + 1))),E,(aCn j1),G.to ⟨E,E,E,E,E,E,E,E,trivial⟩,H⟩
    have I:=Fx.cF i6 I
    refine bX (bC (bC (cO ?_)))
    refine bK (aB ?_)
    have I:=oI I
    subst I
    have I:=u4 _ rfl
    subst I
    exact ⟨d2,E,j1,G.to ⟨E,E,E,E,E,trivial⟩,H⟩
   rintro g6 a w I ⟨t2,G,H⟩
   replace I:Sh.sU d1 g6 = _:=I
   unfold Sh.sU at I
   refine aB ?_
   refine aD ?_
   refine aA G (aF G E E) E E E fun a G=>?_
   refine aA G (bW G E E E) E E E fun a G=>?_
   refine aA G (aH G E E) E E E fun a G=>?_
   refine aJ (aB ?_)
   have I:=oI I
   subst I
   exact ⟨(g6,(IntKind.i64.wrap (d1 + 1))),E,t2,G.to ⟨E,E,E,E,E,trivial⟩,H⟩
  have I:=Fx.cF i4 I
  refine bX (bC (bC (cO ?_)))
  refine aB ?_
  have I:=oI I
  subst I
  have I:=u3 _ rfl
  subst I
  exact ⟨d7,E,i7,G.to ⟨E,E,trivial⟩,selM H [0,1,2,4,5] 6 E⟩
 rintro d6 a w I ⟨z4,G,H⟩
 replace I:Sh.sT c0 c8 c9 d0 d6 = _:=I
 unfold Sh.sT at I
 refine aB ?_
 refine aG ?_
 refine aD ?_
 refine aA G (aQ qA54 qS54 G E E (RState.len _) (H.cells (i:=1) E (aY (RState.len _)))) E E E fun a G=>?_
 refine bD E E (aX (vs:=_) qS54 (H.obj (i:=2) E) G E E E E (RState.len _) (RState.one _) (by first | (rw [RState.len,RState.len]; decide) | (rw [RState.len]; decide)) (bE ((RState.len _).trans (RState.len _).symm)) fun w p9=>?_)
 have H:=H.chg p9 (i:=2) rfl
 refine aJ (aB ?_)
 refine c_ret ?_
 replace H:MemL _ (packR (c2::c1) d6::pt c4 (RState.enc (RState.mk c8 c9 c2 c6 c7 c0.at_ c0.steps c0.done)) 54::pt c3 (RState.enc (RState.mk c8 c9 c2 c6 c7 c0.at_ c0.steps c0.done)) 54::rowL 0 c7 3 d0::rowL 0 c6 23 c1::Lr):=H
 obtain ⟨H,t3⟩:=uI (selM H [0,1,2,3,4] 5 rfl)
 replace H:MemL _ (rowL 0 c2 5 (Fx.pk d6 0)::(packR c1 (List.tail d6))::pt c4 (RState.enc (RState.mk c8 c9 c2 c6 c7 c0.at_ c0.steps c0.done)) 54::pt c3 (RState.enc (RState.mk c8 c9 c2 c6 c7 c0.at_ c0.steps c0.done)) 54::rowL 0 c7 3 d0::rowL 0 c6 23 c1::Lr):=H
 have I:=oI I
 subst I
 refine dJ (rs:=[.cell 6 54]) Tryz.results137 G (bZ G E qA54 qS54 (RState.len _) (H.cells (i:=3) E (aY (RState.len _))) cI) E ?_
 exact ⟨c2,c6,c1,(packR c1 (List.tail d6)),c7,E,(mA t3),selM H [0,5,1,4] 6 E⟩
end Go.Proofs
end
