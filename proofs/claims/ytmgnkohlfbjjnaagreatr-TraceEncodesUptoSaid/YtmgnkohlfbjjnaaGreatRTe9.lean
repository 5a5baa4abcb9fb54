/- Ground for this claim: The call of TraceEncodes returns true, and what is read reads as before. Condition: what is read is of bulk at most 1048576. -/
import Derived.Test.YtmgnkohlfbjjnaaGreatRTe8
section
namespace Go.Proofs
open Go.Fw Go.Fx
set_option maxRecDepth 10000
set_option linter.unusedVariables false
set_option linter.unusedSimpArgs false
set_option maxHeartbeats 4000000 in
theorem rm_roomy_calls {x0:List UInt8} {s1:SV} {out:List UInt8} {w0:World} {Bf:World → Prop} {Lr:List Res} (hP:Sh.rm_roomy x0 = some out) (hM:MemL w0 (Lr)) (hsub:∀ w,MemL w Lr → Bf w) (f2:LIn Bf s1 x0):Calls Tryz.prog 90 #[(s1).v] w0 (Ret fun v w'=>∃ (s11:SV) (r13:Res),v = (s11).v ∧ LRm r13.holds' s11 out spU8 ∧ MemL w' (r13 :: Lr)):=by
 unfold Sh.rm_roomy at hP
 refine calls_enter (vs:=[(s1).v]) Tryz.func90 rfl Tryz.ntmps90 rfl fun a hF=>?_
 refine c_seq ?_
 refine c_region ?_
 refine s_val hF (r_assign hF rfl rfl) rfl rfl rfl fun a hF=>?_
 refine c_nil (n_then ?_)
 refine c_seq ?_
 refine c_region ?_
 refine s_val hF (r_move hF rfl rfl) rfl rfl rfl fun a hF=>?_
 obtain ⟨y16,hy16,hP⟩:=bind_some hP
 refine s_eff hF rfl rfl rfl (w_call (xs:=[.tmp 3]) Tryz.call50 hF rfl rfl (law00_CopyBytes_calls hy16 hM (Bf:=Bf) (fun w hM=>hsub _ (dropM hM 0)) f2) fun v w hR=>?_)
 obtain ⟨s17,rfl,hM⟩:=hR
 replace hM:MemL _ (rowL 0 s17 5 y16 :: Lr):=hM
 intro a hF
 refine s_eff hF rfl rfl rfl (w_sliceN (X:=UInt8) (ys:=[161,162]) (m:=2) Tryz.underlying23 in5 rfl rfl rfl rfl (by decide) (by decide) hF rfl rfl (PartsE.cons rfl (PartsE.cons rfl PartsE.nil)) fun b_B90_5 w hzB90_5 hAB90_5=>?_)
 have hM:=hM.plus hAB90_5
 replace hM:MemL _ (pt b_B90_5 (encs ([161,162]:List UInt8)) 5 :: rowL 0 s17 5 y16 :: Lr):=hM
 intro a hF
 obtain ⟨x20,hx20,hP⟩:=bind_some hP
 refine s_eff hF rfl rfl rfl (w_appX (X:=UInt8) hx20 Tryz.underlying23 in5 rfl rfl rfl rfl hF rfl rfl rfl (hM.own (X:=UInt8) (i:=1) rfl) (hM.ptS (X:=UInt8) (i:=0) (n:=2) (c:=2) rfl rfl rfl (Nat.le_refl _)) fun s19 w hUs19=>?_)
 have hM:=hM.chg hUs19 (i:=1) rfl
 have hQs19:=hM.rowS (X:=UInt8) (i:=1) rfl
 replace hM:MemL _ (pt b_B90_5 (encs ([161,162]:List UInt8)) 5 :: rowL 0 s19 5 x20 :: Lr):=hM
 intro a hF
 refine s_val hF (r_move hF rfl rfl) rfl rfl rfl fun a hF=>?_
 refine s_val hF (r_lenL (f2 _ (hsub _ (dropM hM 2))) Tryz.underlying23 hF rfl rfl) rfl rfl rfl fun a hF=>?_
 obtain ⟨x21,hx21,hP⟩:=bind_some hP
 have f22:LRm (rowL 0 s19 5 x20).holds' (s19.cut (0:Int).toNat ((x0.length:Int):Int).toNat 1) x21 spU8:=rm_row hx21 rfl
 refine s_val hF (r_cutZ hQs19 (rm_slc hx21) Tryz.underlying23 in5 rfl hF rfl rfl (.inl ⟨rfl,rfl⟩) (.inr ⟨_,_,rfl,rfl⟩)) rfl rfl rfl fun a hF=>?_
 refine s_val hF (r_assign hF rfl rfl) rfl rfl rfl fun a hF=>?_
 refine c_nil (n_then ?_)
 refine c_ret ?_
 have hP:=Option.some.inj hP
 subst hP
 refine e_ret1 Tryz.results90 hF rfl ?_
 exact ⟨(s19.cut (0:Int).toNat ((x0.length:Int):Int).toNat 1),(rowL 0 s19 5 x20),rfl,f22,selM hM [1] 2 rfl⟩
set_option maxHeartbeats 4000000 in
theorem rm_lentMark_calls {x0:QMark} {s1:SV} {s3:SV} {s5:SV} {hs6:List RPiece} {s9:SV} {out:QMark} {w0:World} {Bf:World → Prop} {Lr:List Res} (hP:Sh.rm_lentMark x0 = some out) (hM:MemL w0 (Lr)) (hsub:∀ w,MemL w Lr → Bf w) (f2:LIn Bf s1 x0.regs) (f4:LIn Bf s3 x0.slots) (f7:LIn Bf s5 hs6) (q8:Each (QPieceIn Bf) hs6 x0.pieces) (f10:LIn Bf s9 x0.sent):Calls Tryz.prog 59 #[.agg (RMark.enc (RMark.mk x0.at_ x0.next x0.done s1 s3 s5 s9)).toArray] w0 (Ret fun v w'=>∃ (s861:SV) (r863:Res) (s865:SV) (r867:Res) (s869:SV) (hs870:List RPiece) (r872:Res) (s875:SV) (r877:Res),v = .agg (RMark.enc (RMark.mk out.at_ out.next out.done s861 s865 s869 s875)).toArray ∧ LRm r863.holds' s861 out.regs spTurn ∧ LRm r867.holds' s865 out.slots spCell ∧ LRm r872.holds' s869 hs870 hspPiece ∧ Each (QPieceRm r872.holds') hs870 out.pieces ∧ LRm r877.holds' s875 out.sent spInt ∧ MemL w' (r863 :: r867 :: r872 :: r877 :: Lr)):=by
 unfold Sh.rm_lentMark at hP
 refine calls_enter (vs:=[.agg (RMark.enc (RMark.mk x0.at_ x0.next x0.done s1 s3 s5 s9)).toArray]) Tryz.func59 rfl Tryz.ntmps59 rfl fun a hF=>?_
 refine c_seq ?_
 refine c_region ?_
 refine s_eff hF rfl rfl rfl (w_box hF rfl rfl rfl fun b_B59_1 w hzB59_1 hAB59_1=>?_)
 have hM:=hM.plus hAB59_1
 replace hM:MemL _ (pt b_B59_1 (RMark.enc (RMark.mk x0.at_ x0.next x0.done s1 s3 s5 s9)) 60 :: Lr):=hM
 intro a hF
 refine s_eff hF rfl rfl rfl (w_alloc z60 (zs:=RMark.zero.enc) rfl rfl fun b_B59_2 w hzB59_2 hAB59_2=>?_)
 have hM:=hM.plus hAB59_2
 replace hM:MemL _ (pt b_B59_2 (RMark.enc (RMark.mk 0 0 false SV.nil SV.nil SV.nil SV.nil)) 60 :: pt b_B59_1 (RMark.enc (RMark.mk x0.at_ x0.next x0.done s1 s3 s5 s9)) 60 :: Lr):=hM
 intro a hF
 refine c_nil (n_then ?_)
 refine c_seq ?_
 refine c_region ?_
 refine s_val hF (r_loadn Tryz.isAgg60 Tryz.sizeOf60 hF rfl rfl (RMark.len _) (hM.cells (i:=1) rfl (cut_all (RMark.len _)))) rfl rfl rfl fun a hF=>?_
 refine s_eff hF rfl rfl rfl (w_alloc z60 (zs:=RMark.zero.enc) rfl rfl fun b_B59_3 w hzB59_3 hAB59_3=>?_)
 have hM:=hM.plus hAB59_3
 replace hM:MemL _ (pt b_B59_3 (RMark.enc (RMark.mk 0 0 false SV.nil SV.nil SV.nil SV.nil)) 60 :: pt b_B59_2 (RMark.enc (RMark.mk 0 0 false SV.nil SV.nil SV.nil SV.nil)) 60 :: pt b_B59_1 (RMark.enc (RMark.mk x0.at_ x0.next x0.done s1 s3 s5 s9)) 60 :: Lr):=hM
 intro a hF
 refine s_eff0 rfl rfl (w_storen (vs:=_) Tryz.sizeOf60 (hM.obj (i:=0) rfl) hF rfl rfl rfl rfl (RMark.len _) (RMark.one _) (by first | (rw [RMark.len,RMark.len]; decide) | (rw [RMark.len]; decide)) (put_all ((RMark.len _).trans (RMark.len _).symm)) fun w hU879=>?_)
 have hM:=hM.chg hU879 (i:=0) rfl
 replace hM:MemL _ (pt b_B59_3 (RMark.enc (RMark.mk x0.at_ x0.next x0.done s1 s3 s5 s9)) 60 :: pt b_B59_2 (RMark.enc (RMark.mk 0 0 false SV.nil SV.nil SV.nil SV.nil)) 60 :: pt b_B59_1 (RMark.enc (RMark.mk x0.at_ x0.next x0.done s1 s3 s5 s9)) 60 :: Lr):=hM
 refine c_nil (n_then ?_)
 refine c_seq ?_
 refine c_joinX hF hM hP (fun F x a w=>match x with | v894=>∃ (s895:SV) (r897:Res) (s899:SV) (s901:SV) (hs902:List RPiece) (s905:SV),LRm r897.holds' s895 v894.regs spTurn ∧ LIn Bf s899 v894.slots ∧ LIn Bf s901 hs902 ∧ Each (QPieceIn Bf) hs902 v894.pieces ∧ LIn Bf s905 v894.sent ∧ Fr 82 [(1,.pointer (some ⟨b_B59_1,0,none⟩)),(2,.pointer (some ⟨b_B59_2,0,none⟩)),(3,.pointer (some ⟨b_B59_3,0,none⟩))] a ∧ MemL w (pt b_B59_3 (RMark.enc (RMark.mk v894.at_ v894.next v894.done s895 s899 s901 s905)) 60 :: r897 :: pt b_B59_2 (RMark.enc (RMark.mk 0 0 false SV.nil SV.nil SV.nil SV.nil)) 60 :: pt b_B59_1 (RMark.enc (RMark.mk x0.at_ x0.next x0.done s1 s3 s5 s9)) 60 :: Lr)) (fun o_j1 hP hK_j1 hF hM=>?_) ?_
 ·refine d_startT mixed (by kernel_rfl) hM [0,1,2] 3 rfl fun hch=>?_
  refine d_val hF hch 1 rfl (by kernel_rfl) rfl rfl rfl (fun w hM=>(r_fieldAddr (off':=3) Tryz.underlying60 rfl in56 rfl hF rfl rfl rfl)) fun a hF=>?_
  refine d_val hF hch 2 rfl (by kernel_rfl) rfl rfl rfl (fun w hM=>(r_load1 Tryz.isAgg56 hF rfl rfl (hM.cell (i:=2) rfl (RMark.g_regs _)))) fun a hF=>?_
  refine d_val hF hch 4 rfl (by kernel_rfl) rfl rfl rfl (fun w hM=>(r_build z128 Tryz.underlying128 pl128 hF (parts:=[(0,.const (.int .i64 (-7)))]) rfl rfl (fill_s rfl rfl (by rw [LTurn.len]; decide) (LTurn.s_reg _ _) fill_e))) fun a hF=>?_
  refine d_val hF hch 5 rfl (by kernel_rfl) rfl rfl rfl (fun w hM=>(r_build z128 Tryz.underlying128 pl128 hF (parts:=[(0,.const (.int .i64 (-8)))]) rfl rfl (fill_s rfl rfl (by rw [LTurn.len]; decide) (LTurn.s_reg _ _) fill_e))) fun a hF=>?_
  refine d_val hF hch 8 rfl (by kernel_rfl) rfl rfl rfl (fun w hM=>(r_fieldAddr (off':=3) Tryz.underlying60 rfl in56 rfl hF rfl rfl rfl)) fun a hF=>?_
  refine d_val hF hch 9 rfl (by kernel_rfl) rfl rfl rfl (fun w hM=>(r_load1 Tryz.isAgg56 hF rfl rfl (hM.cell (i:=2) rfl (RMark.g_regs _)))) fun a hF=>?_
  refine d_val hF hch 10 rfl (by kernel_rfl) rfl rfl rfl (fun w hM=>(r_lenL (f2 _ (hsub _ (dropM hM 3))) Tryz.underlying56 hF rfl rfl)) fun a hF=>?_
  refine d_two hch 0 6 (by kernel_rfl) rfl rfl ?_ ?_
  ·refine d_ex hF 0 rfl rfl rfl rfl rfl fun w hMs hM=>?_
   refine (w_slice0 (X:=LTurn) 0 (Nat.zero_le _) Tryz.underlying56 in128 rfl fun s_B59_7 w hAB59_7=>?_)
   have hM:=hM.plus hAB59_7
   replace hM:MemL _ (rowL 0 s_B59_7 128 [] :: pt b_B59_3 (RMark.enc (RMark.mk x0.at_ x0.next x0.done s1 s3 s5 s9)) 60 :: pt b_B59_2 (RMark.enc (RMark.mk 0 0 false SV.nil SV.nil SV.nil SV.nil)) 60 :: pt b_B59_1 (RMark.enc (RMark.mk x0.at_ x0.next x0.done s1 s3 s5 s9)) 60 :: Lr):=hM
   have hMs:=selM hM [1,2,3] 4 rfl
   refine ⟨_,_,hMs,hM,.inl fun _ h=>h,fun a hF=>?_⟩
   refine d_two hch 3 6 (by kernel_rfl) rfl rfl ?_ ?_
   ·refine d_ex hF 3 rfl rfl rfl rfl rfl fun w hMs hM=>?_
    obtain ⟨x908,hx908,hP⟩:=bind_some hP
    refine (w_appX (X:=LTurn) hx908 Tryz.underlying56 in128 rfl rfl rfl rfl hF rfl rfl rfl (hM.own (X:=LTurn) (i:=0) rfl) (f2 _ (hsub _ (dropM hM 4))) fun s907 w hUs907=>?_)
    have hM:=hM.chg hUs907 (i:=0) rfl
    have hQs907:=hM.rowS (X:=LTurn) (i:=0) rfl
    replace hM:MemL _ (rowL 0 s907 128 x908 :: pt b_B59_3 (RMark.enc (RMark.mk x0.at_ x0.next x0.done s1 s3 s5 s9)) 60 :: pt b_B59_2 (RMark.enc (RMark.mk 0 0 false SV.nil SV.nil SV.nil SV.nil)) 60 :: pt b_B59_1 (RMark.enc (RMark.mk x0.at_ x0.next x0.done s1 s3 s5 s9)) 60 :: Lr):=hM
    have hMs:=selM hM [1,2,3] 4 rfl
    refine ⟨_,_,hMs,hM,.inl fun _ h=>h,fun a hF=>?_⟩
    refine d_one hch 6 (by kernel_rfl) rfl rfl ?_
    refine d_ex hF 6 rfl rfl rfl rfl rfl fun w hMs hM=>?_
    refine (w_sliceN (X:=LTurn) (ys:=[(LTurn.mk (-7) LVal.zero LVal.zero),(LTurn.mk (-8) LVal.zero LVal.zero)]) (m:=2) Tryz.underlying56 in128 rfl rfl rfl rfl (by decide) (by decide) hF rfl rfl (PartsE.cons rfl (PartsE.cons rfl PartsE.nil)) fun b_B59_13 w hzB59_13 hAB59_13=>?_)
    have hM:=hM.plus hAB59_13
    replace hM:MemL _ (pt b_B59_13 (encs ([(LTurn.mk (-7) LVal.zero LVal.zero),(LTurn.mk (-8) LVal.zero LVal.zero)]:List LTurn)) 128 :: rowL 0 s907 128 x908 :: pt b_B59_3 (RMark.enc (RMark.mk x0.at_ x0.next x0.done s1 s3 s5 s9)) 60 :: pt b_B59_2 (RMark.enc (RMark.mk 0 0 false SV.nil SV.nil SV.nil SV.nil)) 60 :: pt b_B59_1 (RMark.enc (RMark.mk x0.at_ x0.next x0.done s1 s3 s5 s9)) 60 :: Lr):=hM
    have hMs:=selM hM [0,2,3,4] 5 rfl
    refine ⟨_,_,hMs,hM,.inl fun _ h=>dropM h 1,fun a hF=>?_⟩
    refine d_one hch 7 (by kernel_rfl) rfl rfl ?_
    refine d_ex hF 7 rfl rfl rfl rfl rfl fun w hMs hM=>?_
    obtain ⟨x910,hx910,hP⟩:=bind_some hP
    refine (w_appX (X:=LTurn) hx910 Tryz.underlying56 in128 rfl rfl rfl rfl hF rfl rfl rfl (hM.own (X:=LTurn) (i:=1) rfl) (hM.ptS (X:=LTurn) (i:=0) (n:=2) (c:=2) rfl rfl rfl (Nat.le_refl _)) fun s909 w hUs909=>?_)
    have hM:=hM.chg hUs909 (i:=1) rfl
    have hQs909:=hM.rowS (X:=LTurn) (i:=1) rfl
    replace hM:MemL _ (pt b_B59_13 (encs ([(LTurn.mk (-7) LVal.zero LVal.zero),(LTurn.mk (-8) LVal.zero LVal.zero)]:List LTurn)) 128 :: rowL 0 s909 128 x910 :: pt b_B59_3 (RMark.enc (RMark.mk x0.at_ x0.next x0.done s1 s3 s5 s9)) 60 :: pt b_B59_2 (RMark.enc (RMark.mk 0 0 false SV.nil SV.nil SV.nil SV.nil)) 60 :: pt b_B59_1 (RMark.enc (RMark.mk x0.at_ x0.next x0.done s1 s3 s5 s9)) 60 :: Lr):=hM
    have hMs:=selM hM [0,2,3,4] 5 rfl
    refine ⟨_,_,hMs,hM,.inl fun _ h=>h,fun a hF=>?_⟩
    obtain ⟨x911,hx911,hP⟩:=bind_some hP
    have f912:LRm (rowL 0 s909 128 x910).holds' (s909.cut (0:Int).toNat ((x0.regs.length:Int):Int).toNat 9) x911 spTurn:=rm_row hx911 rfl
    refine d_val hF hch 11 rfl (by kernel_rfl) rfl rfl rfl (fun w hM=>(r_cutZ hQs909 (rm_slc hx911) Tryz.underlying56 in128 rfl hF rfl rfl (.inl ⟨rfl,rfl⟩) (.inr ⟨_,_,rfl,rfl⟩))) fun a hF=>?_
    refine d_val hF hch 12 rfl (by kernel_rfl) rfl rfl rfl (fun w hM=>(r_fieldAddr (off':=3) Tryz.underlying60 rfl in56 rfl hF rfl rfl rfl)) fun a hF=>?_
    refine d_one hch 13 (by kernel_rfl) rfl rfl ?_
    refine d_ex0 13 rfl rfl rfl rfl fun w hMs hM=>?_
    refine (w_store1 Tryz.sizeOf56 (hM.obj (i:=2) rfl) hF rfl rfl rfl rfl (by rw [RMark.len]; decide) (RMark.s_regs _ _) fun w hU913=>?_)
    have hM:=hM.chg hU913 (i:=2) rfl
    replace hM:MemL _ (pt b_B59_13 (encs ([(LTurn.mk (-7) LVal.zero LVal.zero),(LTurn.mk (-8) LVal.zero LVal.zero)]:List LTurn)) 128 :: rowL 0 s909 128 x910 :: pt b_B59_3 (RMark.enc (RMark.mk x0.at_ x0.next x0.done (s909.cut (0:Int).toNat ((x0.regs.length:Int):Int).toNat 9) s3 s5 s9)) 60 :: pt b_B59_2 (RMark.enc (RMark.mk 0 0 false SV.nil SV.nil SV.nil SV.nil)) 60 :: pt b_B59_1 (RMark.enc (RMark.mk x0.at_ x0.next x0.done s1 s3 s5 s9)) 60 :: Lr):=hM
    have hMs:=selM hM [0,2,3,4] 5 rfl
    refine ⟨_,_,hMs,hM,.inr (by kernel_rfl),?_⟩
    refine d_end hch (by kernel_rfl) fun w hM=>?_
    refine n_then ?_
    have hP:=Option.some.inj hP
    subst hP
    exact ⟨(QMark.mk x0.at_ x0.next x0.done x911 x0.slots x0.pieces x0.sent),rfl,(s909.cut (0:Int).toNat ((x0.regs.length:Int):Int).toNat 9),(rowL 0 s909 128 x910),s3,s5,hs6,s9,f912,f4,f7,q8,f10,hF.to ⟨rfl,rfl,rfl,trivial⟩,selM hM [2,1,3,4] 5 rfl⟩
   refine d_ex hF 6 rfl rfl rfl rfl rfl fun w hMs hM=>?_
   refine (w_sliceN (X:=LTurn) (ys:=[(LTurn.mk (-7) LVal.zero LVal.zero),(LTurn.mk (-8) LVal.zero LVal.zero)]) (m:=2) Tryz.underlying56 in128 rfl rfl rfl rfl (by decide) (by decide) hF rfl rfl (PartsE.cons rfl (PartsE.cons rfl PartsE.nil)) fun b_B59_13 w hzB59_13 hAB59_13=>?_)
   have hM:=hM.plus hAB59_13
   replace hM:MemL _ (pt b_B59_13 (encs ([(LTurn.mk (-7) LVal.zero LVal.zero),(LTurn.mk (-8) LVal.zero LVal.zero)]:List LTurn)) 128 :: rowL 0 s_B59_7 128 [] :: pt b_B59_3 (RMark.enc (RMark.mk x0.at_ x0.next x0.done s1 s3 s5 s9)) 60 :: pt b_B59_2 (RMark.enc (RMark.mk 0 0 false SV.nil SV.nil SV.nil SV.nil)) 60 :: pt b_B59_1 (RMark.enc (RMark.mk x0.at_ x0.next x0.done s1 s3 s5 s9)) 60 :: Lr):=hM
   have hMs:=selM hM [0,2,3,4] 5 rfl
   refine ⟨_,_,hMs,hM,.inl fun _ h=>dropM h 1,fun a hF=>?_⟩
   refine d_one hch 3 (by kernel_rfl) rfl rfl ?_
   refine d_ex hF 3 rfl rfl rfl rfl rfl fun w hMs hM=>?_
   obtain ⟨x908,hx908,hP⟩:=bind_some hP
   refine (w_appX (X:=LTurn) hx908 Tryz.underlying56 in128 rfl rfl rfl rfl hF rfl rfl rfl (hM.own (X:=LTurn) (i:=1) rfl) (f2 _ (hsub _ (dropM hM 5))) fun s907 w hUs907=>?_)
   have hM:=hM.chg hUs907 (i:=1) rfl
   have hQs907:=hM.rowS (X:=LTurn) (i:=1) rfl
   replace hM:MemL _ (pt b_B59_13 (encs ([(LTurn.mk (-7) LVal.zero LVal.zero),(LTurn.mk (-8) LVal.zero LVal.zero)]:List LTurn)) 128 :: rowL 0 s907 128 x908 :: pt b_B59_3 (RMark.enc (RMark.mk x0.at_ x0.next x0.done s1 s3 s5 s9)) 60 :: pt b_B59_2 (RMark.enc (RMark.mk 0 0 false SV.nil SV.nil SV.nil SV.nil)) 60 :: pt b_B59_1 (RMark.enc (RMark.mk x0.at_ x0.next x0.done s1 s3 s5 s9)) 60 :: Lr):=hM
   have hMs:=selM hM [0,2,3,4] 5 rfl
   refine ⟨_,_,hMs,hM,.inl fun _ h=>h,fun a hF=>?_⟩
   refine d_one hch 7 (by kernel_rfl) rfl rfl ?_
   refine d_ex hF 7 rfl rfl rfl rfl rfl fun w hMs hM=>?_
   obtain ⟨x910,hx910,hP⟩:=bind_some hP
   refine (w_appX (X:=LTurn) hx910 Tryz.underlying56 in128 rfl rfl rfl rfl hF rfl rfl rfl (hM.own (X:=LTurn) (i:=1) rfl) (hM.ptS (X:=LTurn) (i:=0) (n:=2) (c:=2) rfl rfl rfl (Nat.le_refl _)) fun s909 w hUs909=>?_)
   have hM:=hM.chg hUs909 (i:=1) rfl
   have hQs909:=hM.rowS (X:=LTurn) (i:=1) rfl
   replace hM:MemL _ (pt b_B59_13 (encs ([(LTurn.mk (-7) LVal.zero LVal.zero),(LTurn.mk (-8) LVal.zero LVal.zero)]:List LTurn)) 128 :: rowL 0 s909 128 x910 :: pt b_B59_3 (RMark.enc (RMark.mk x0.at_ x0.next x0.done s1 s3 s5 s9)) 60 :: pt b_B59_2 (RMark.enc (RMark.mk 0 0 false SV.nil SV.nil SV.nil SV.nil)) 60 :: pt b_B59_1 (RMark.enc (RMark.mk x0.at_ x0.next x0.done s1 s3 s5 s9)) 60 :: Lr):=hM
   have hMs:=selM hM [0,2,3,4] 5 rfl
   refine ⟨_,_,hMs,hM,.inl fun _ h=>h,fun a hF=>?_⟩
   obtain ⟨x911,hx911,hP⟩:=bind_some hP
   have f912:LRm (rowL 0 s909 128 x910).holds' (s909.cut (0:Int).toNat ((x0.regs.length:Int):Int).toNat 9) x911 spTurn:=rm_row hx911 rfl
   refine d_val hF hch 11 rfl (by kernel_rfl) rfl rfl rfl (fun w hM=>(r_cutZ hQs909 (rm_slc hx911) Tryz.underlying56 in128 rfl hF rfl rfl (.inl ⟨rfl,rfl⟩) (.inr ⟨_,_,rfl,rfl⟩))) fun a hF=>?_
   refine d_val hF hch 12 rfl (by kernel_rfl) rfl rfl rfl (fun w hM=>(r_fieldAddr (off':=3) Tryz.underlying60 rfl in56 rfl hF rfl rfl rfl)) fun a hF=>?_
   refine d_one hch 13 (by kernel_rfl) rfl rfl ?_
   refine d_ex0 13 rfl rfl rfl rfl fun w hMs hM=>?_
   refine (w_store1 Tryz.sizeOf56 (hM.obj (i:=2) rfl) hF rfl rfl rfl rfl (by rw [RMark.len]; decide) (RMark.s_regs _ _) fun w hU913=>?_)
   have hM:=hM.chg hU913 (i:=2) rfl
   replace hM:MemL _ (pt b_B59_13 (encs ([(LTurn.mk (-7) LVal.zero LVal.zero),(LTurn.mk (-8) LVal.zero LVal.zero)]:List LTurn)) 128 :: rowL 0 s909 128 x910 :: pt b_B59_3 (RMark.enc (RMark.mk x0.at_ x0.next x0.done (s909.cut (0:Int).toNat ((x0.regs.length:Int):Int).toNat 9) s3 s5 s9)) 60 :: pt b_B59_2 (RMark.enc (RMark.mk 0 0 false SV.nil SV.nil SV.nil SV.nil)) 60 :: pt b_B59_1 (RMark.enc (RMark.mk x0.at_ x0.next x0.done s1 s3 s5 s9)) 60 :: Lr):=hM
   have hMs:=selM hM [0,2,3,4] 5 rfl
   refine ⟨_,_,hMs,hM,.inr (by kernel_rfl),?_⟩
   refine d_end hch (by kernel_rfl) fun w hM=>?_
   refine n_then ?_
   have hP:=Option.some.inj hP
   subst hP
   exact ⟨(QMark.mk x0.at_ x0.next x0.done x911 x0.slots x0.pieces x0.sent),rfl,(s909.cut (0:Int).toNat ((x0.regs.length:Int):Int).toNat 9),(rowL 0 s909 128 x910),s3,s5,hs6,s9,f912,f4,f7,q8,f10,hF.to ⟨rfl,rfl,rfl,trivial⟩,selM hM [2,1,3,4] 5 rfl⟩
  refine d_ex hF 6 rfl rfl rfl rfl rfl fun w hMs hM=>?_
  refine (w_sliceN (X:=LTurn) (ys:=[(LTurn.mk (-7) LVal.zero LVal.zero),(LTurn.mk (-8) LVal.zero LVal.zero)]) (m:=2) Tryz.underlying56 in128 rfl rfl rfl rfl (by decide) (by decide) hF rfl rfl (PartsE.cons rfl (PartsE.cons rfl PartsE.nil)) fun b_B59_13 w hzB59_13 hAB59_13=>?_)
  have hM:=hM.plus hAB59_13
  replace hM:MemL _ (pt b_B59_13 (encs ([(LTurn.mk (-7) LVal.zero LVal.zero),(LTurn.mk (-8) LVal.zero LVal.zero)]:List LTurn)) 128 :: pt b_B59_3 (RMark.enc (RMark.mk x0.at_ x0.next x0.done s1 s3 s5 s9)) 60 :: pt b_B59_2 (RMark.enc (RMark.mk 0 0 false SV.nil SV.nil SV.nil SV.nil)) 60 :: pt b_B59_1 (RMark.enc (RMark.mk x0.at_ x0.next x0.done s1 s3 s5 s9)) 60 :: Lr):=hM
  have hMs:=selM hM [0,1,2,3] 4 rfl
  refine ⟨_,_,hMs,hM,.inl fun _ h=>dropM h 1,fun a hF=>?_⟩
  refine d_one hch 0 (by kernel_rfl) rfl rfl ?_
  refine d_ex hF 0 rfl rfl rfl rfl rfl fun w hMs hM=>?_
  refine (w_slice0 (X:=LTurn) 0 (Nat.zero_le _) Tryz.underlying56 in128 rfl fun s_B59_7 w hAB59_7=>?_)
  have hM:=hM.plus hAB59_7
  replace hM:MemL _ (rowL 0 s_B59_7 128 [] :: pt b_B59_13 (encs ([(LTurn.mk (-7) LVal.zero LVal.zero),(LTurn.mk (-8) LVal.zero LVal.zero)]:List LTurn)) 128 :: pt b_B59_3 (RMark.enc (RMark.mk x0.at_ x0.next x0.done s1 s3 s5 s9)) 60 :: pt b_B59_2 (RMark.enc (RMark.mk 0 0 false SV.nil SV.nil SV.nil SV.nil)) 60 :: pt b_B59_1 (RMark.enc (RMark.mk x0.at_ x0.next x0.done s1 s3 s5 s9)) 60 :: Lr):=hM
  have hMs:=selM hM [1,2,3,4] 5 rfl
  refine ⟨_,_,hMs,hM,.inl fun _ h=>h,fun a hF=>?_⟩
  refine d_one hch 3 (by kernel_rfl) rfl rfl ?_
  refine d_ex hF 3 rfl rfl rfl rfl rfl fun w hMs hM=>?_
  obtain ⟨x908,hx908,hP⟩:=bind_some hP
  refine (w_appX (X:=LTurn) hx908 Tryz.underlying56 in128 rfl rfl rfl rfl hF rfl rfl rfl (hM.own (X:=LTurn) (i:=0) rfl) (f2 _ (hsub _ (dropM hM 5))) fun s907 w hUs907=>?_)
  have hM:=hM.chg hUs907 (i:=0) rfl
  have hQs907:=hM.rowS (X:=LTurn) (i:=0) rfl
  replace hM:MemL _ (rowL 0 s907 128 x908 :: pt b_B59_13 (encs ([(LTurn.mk (-7) LVal.zero LVal.zero),(LTurn.mk (-8) LVal.zero LVal.zero)]:List LTurn)) 128 :: pt b_B59_3 (RMark.enc (RMark.mk x0.at_ x0.next x0.done s1 s3 s5 s9)) 60 :: pt b_B59_2 (RMark.enc (RMark.mk 0 0 false SV.nil SV.nil SV.nil SV.nil)) 60 :: pt b_B59_1 (RMark.enc (RMark.mk x0.at_ x0.next x0.done s1 s3 s5 s9)) 60 :: Lr):=hM
  have hMs:=selM hM [1,2,3,4] 5 rfl
  refine ⟨_,_,hMs,hM,.inl fun _ h=>h,fun a hF=>?_⟩
  refine d_one hch 7 (by kernel_rfl) rfl rfl ?_
  refine d_ex hF 7 rfl rfl rfl rfl rfl fun w hMs hM=>?_
  obtain ⟨x910,hx910,hP⟩:=bind_some hP
  refine (w_appX (X:=LTurn) hx910 Tryz.underlying56 in128 rfl rfl rfl rfl hF rfl rfl rfl (hM.own (X:=LTurn) (i:=0) rfl) (hM.ptS (X:=LTurn) (i:=1) (n:=2) (c:=2) rfl rfl rfl (Nat.le_refl _)) fun s909 w hUs909=>?_)
  have hM:=hM.chg hUs909 (i:=0) rfl
  have hQs909:=hM.rowS (X:=LTurn) (i:=0) rfl
  replace hM:MemL _ (rowL 0 s909 128 x910 :: pt b_B59_13 (encs ([(LTurn.mk (-7) LVal.zero LVal.zero),(LTurn.mk (-8) LVal.zero LVal.zero)]:List LTurn)) 128 :: pt b_B59_3 (RMark.enc (RMark.mk x0.at_ x0.next x0.done s1 s3 s5 s9)) 60 :: pt b_B59_2 (RMark.enc (RMark.mk 0 0 false SV.nil SV.nil SV.nil SV.nil)) 60 :: pt b_B59_1 (RMark.enc (RMark.mk x0.at_ x0.next x0.done s1 s3 s5 s9)) 60 :: Lr):=hM
  have hMs:=selM hM [1,2,3,4] 5 rfl
  refine ⟨_,_,hMs,hM,.inl fun _ h=>h,fun a hF=>?_⟩
  obtain ⟨x911,hx911,hP⟩:=bind_some hP
  have f912:LRm (rowL 0 s909 128 x910).holds' (s909.cut (0:Int).toNat ((x0.regs.length:Int):Int).toNat 9) x911 spTurn:=rm_row hx911 rfl
  refine d_val hF hch 11 rfl (by kernel_rfl) rfl rfl rfl (fun w hM=>(r_cutZ hQs909 (rm_slc hx911) Tryz.underlying56 in128 rfl hF rfl rfl (.inl ⟨rfl,rfl⟩) (.inr ⟨_,_,rfl,rfl⟩))) fun a hF=>?_
  refine d_val hF hch 12 rfl (by kernel_rfl) rfl rfl rfl (fun w hM=>(r_fieldAddr (off':=3) Tryz.underlying60 rfl in56 rfl hF rfl rfl rfl)) fun a hF=>?_
  refine d_one hch 13 (by kernel_rfl) rfl rfl ?_
  refine d_ex0 13 rfl rfl rfl rfl fun w hMs hM=>?_
  refine (w_store1 Tryz.sizeOf56 (hM.obj (i:=2) rfl) hF rfl rfl rfl rfl (by rw [RMark.len]; decide) (RMark.s_regs _ _) fun w hU913=>?_)
  have hM:=hM.chg hU913 (i:=2) rfl
  replace hM:MemL _ (rowL 0 s909 128 x910 :: pt b_B59_13 (encs ([(LTurn.mk (-7) LVal.zero LVal.zero),(LTurn.mk (-8) LVal.zero LVal.zero)]:List LTurn)) 128 :: pt b_B59_3 (RMark.enc (RMark.mk x0.at_ x0.next x0.done (s909.cut (0:Int).toNat ((x0.regs.length:Int):Int).toNat 9) s3 s5 s9)) 60 :: pt b_B59_2 (RMark.enc (RMark.mk 0 0 false SV.nil SV.nil SV.nil SV.nil)) 60 :: pt b_B59_1 (RMark.enc (RMark.mk x0.at_ x0.next x0.done s1 s3 s5 s9)) 60 :: Lr):=hM
  have hMs:=selM hM [1,2,3,4] 5 rfl
  refine ⟨_,_,hMs,hM,.inr (by kernel_rfl),?_⟩
  refine d_end hch (by kernel_rfl) fun w hM=>?_
  refine n_then ?_
  have hP:=Option.some.inj hP
  subst hP
  exact ⟨(QMark.mk x0.at_ x0.next x0.done x911 x0.slots x0.pieces x0.sent),rfl,(s909.cut (0:Int).toNat ((x0.regs.length:Int):Int).toNat 9),(rowL 0 s909 128 x910),s3,s5,hs6,s9,f912,f4,f7,q8,f10,hF.to ⟨rfl,rfl,rfl,trivial⟩,selM hM [2,0,3,4] 5 rfl⟩
 rintro v894 a w hP ⟨s895,r897,s899,s901,hs902,s905,f898,f900,f903,q904,f906,hF,hM⟩
 replace hP:Sh.rm_lentMark_j1 x0 v894 = _:=hP
 unfold Sh.rm_lentMark_j1 at hP
 refine n_then ?_
 refine c_seq ?_
 refine c_joinX hF hM hP (fun F x a w=>match x with | v928=>∃ (s929:SV) (r931:Res) (s933:SV) (r935:Res) (s937:SV) (hs938:List RPiece) (s941:SV),LRm r931.holds' s929 v928.regs spTurn ∧ LRm r935.holds' s933 v928.slots spCell ∧ LIn Bf s937 hs938 ∧ Each (QPieceIn Bf) hs938 v928.pieces ∧ LIn Bf s941 v928.sent ∧ Fr 82 [(1,.pointer (some ⟨b_B59_1,0,none⟩)),(2,.pointer (some ⟨b_B59_2,0,none⟩)),(3,.pointer (some ⟨b_B59_3,0,none⟩))] a ∧ MemL w (pt b_B59_3 (RMark.enc (RMark.mk v928.at_ v928.next v928.done s929 s933 s937 s941)) 60 :: r931 :: r935 :: pt b_B59_2 (RMark.enc (RMark.mk 0 0 false SV.nil SV.nil SV.nil SV.nil)) 60 :: pt b_B59_1 (RMark.enc (RMark.mk x0.at_ x0.next x0.done s1 s3 s5 s9)) 60 :: Lr)) (fun o_j2 hP hK_j2 hF hM=>?_) ?_
 ·refine d_startT mixed (by kernel_rfl) hM [0,1,2,3] 4 rfl fun hch=>?_
  refine d_val hF hch 1 rfl (by kernel_rfl) rfl rfl rfl (fun w hM=>(r_fieldAddr (off':=4) Tryz.underlying60 rfl in57 rfl hF rfl rfl rfl)) fun a hF=>?_
  refine d_val hF hch 2 rfl (by kernel_rfl) rfl rfl rfl (fun w hM=>(r_load1 Tryz.isAgg57 hF rfl rfl (hM.cell (i:=3) rfl (RMark.g_slots _)))) fun a hF=>?_
  refine d_val hF hch 4 rfl (by kernel_rfl) rfl rfl rfl (fun w hM=>(r_build z151 Tryz.underlying151 pl151 hF (parts:=[(0,.const (.int .i64 (-7)))]) rfl rfl (fill_s rfl rfl (by rw [LCell.len]; decide) (LCell.s_slot _ _) fill_e))) fun a hF=>?_
  refine d_val hF hch 5 rfl (by kernel_rfl) rfl rfl rfl (fun w hM=>(r_build z151 Tryz.underlying151 pl151 hF (parts:=[(0,.const (.int .i64 (-8)))]) rfl rfl (fill_s rfl rfl (by rw [LCell.len]; decide) (LCell.s_slot _ _) fill_e))) fun a hF=>?_
  refine d_val hF hch 8 rfl (by kernel_rfl) rfl rfl rfl (fun w hM=>(r_fieldAddr (off':=4) Tryz.underlying60 rfl in57 rfl hF rfl rfl rfl)) fun a hF=>?_
  refine d_val hF hch 9 rfl (by kernel_rfl) rfl rfl rfl (fun w hM=>(r_load1 Tryz.isAgg57 hF rfl rfl (hM.cell (i:=3) rfl (RMark.g_slots _)))) fun a hF=>?_
  refine d_val hF hch 10 rfl (by kernel_rfl) rfl rfl rfl (fun w hM=>(r_lenL (f4 _ (hsub _ (dropM hM 4))) Tryz.underlying57 hF rfl rfl)) fun a hF=>?_
  refine d_two hch 0 6 (by kernel_rfl) rfl rfl ?_ ?_
  ·refine d_ex hF 0 rfl rfl rfl rfl rfl fun w hMs hM=>?_
   refine (w_slice0 (X:=LCell) 0 (Nat.zero_le _) Tryz.underlying57 in151 rfl fun s_B59_20 w hAB59_20=>?_)
   have hM:=hM.plus hAB59_20
   replace hM:MemL _ (rowL 0 s_B59_20 151 [] :: pt b_B59_3 (RMark.enc (RMark.mk v894.at_ v894.next v894.done s895 s899 s901 s905)) 60 :: r897 :: pt b_B59_2 (RMark.enc (RMark.mk 0 0 false SV.nil SV.nil SV.nil SV.nil)) 60 :: pt b_B59_1 (RMark.enc (RMark.mk x0.at_ x0.next x0.done s1 s3 s5 s9)) 60 :: Lr):=hM
   have hMs:=selM hM [1,2,3,4] 5 rfl
   refine ⟨_,_,hMs,hM,.inl fun _ h=>h,fun a hF=>?_⟩
   refine d_two hch 3 6 (by kernel_rfl) rfl rfl ?_ ?_
   ·refine d_ex hF 3 rfl rfl rfl rfl rfl fun w hMs hM=>?_
    obtain ⟨x944,hx944,hP⟩:=bind_some hP
    refine (w_appX (X:=LCell) hx944 Tryz.underlying57 in151 rfl rfl rfl rfl hF rfl rfl rfl (hM.own (X:=LCell) (i:=0) rfl) (f4 _ (hsub _ (dropM hM 5))) fun s943 w hUs943=>?_)
    have hM:=hM.chg hUs943 (i:=0) rfl
    have hQs943:=hM.rowS (X:=LCell) (i:=0) rfl
    replace hM:MemL _ (rowL 0 s943 151 x944 :: pt b_B59_3 (RMark.enc (RMark.mk v894.at_ v894.next v894.done s895 s899 s901 s905)) 60 :: r897 :: pt b_B59_2 (RMark.enc (RMark.mk 0 0 false SV.nil SV.nil SV.nil SV.nil)) 60 :: pt b_B59_1 (RMark.enc (RMark.mk x0.at_ x0.next x0.done s1 s3 s5 s9)) 60 :: Lr):=hM
    have hMs:=selM hM [1,2,3,4] 5 rfl
    refine ⟨_,_,hMs,hM,.inl fun _ h=>h,fun a hF=>?_⟩
    refine d_one hch 6 (by kernel_rfl) rfl rfl ?_
    refine d_ex hF 6 rfl rfl rfl rfl rfl fun w hMs hM=>?_
    refine (w_sliceN (X:=LCell) (ys:=[(LCell.mk (-7) LSlot.zero LSlot.zero),(LCell.mk (-8) LSlot.zero LSlot.zero)]) (m:=2) Tryz.underlying57 in151 rfl rfl rfl rfl (by decide) (by decide) hF rfl rfl (PartsE.cons rfl (PartsE.cons rfl PartsE.nil)) fun b_B59_26 w hzB59_26 hAB59_26=>?_)
    have hM:=hM.plus hAB59_26
    replace hM:MemL _ (pt b_B59_26 (encs ([(LCell.mk (-7) LSlot.zero LSlot.zero),(LCell.mk (-8) LSlot.zero LSlot.zero)]:List LCell)) 151 :: rowL 0 s943 151 x944 :: pt b_B59_3 (RMark.enc (RMark.mk v894.at_ v894.next v894.done s895 s899 s901 s905)) 60 :: r897 :: pt b_B59_2 (RMark.enc (RMark.mk 0 0 false SV.nil SV.nil SV.nil SV.nil)) 60 :: pt b_B59_1 (RMark.enc (RMark.mk x0.at_ x0.next x0.done s1 s3 s5 s9)) 60 :: Lr):=hM
    have hMs:=selM hM [0,2,3,4,5] 6 rfl
    refine ⟨_,_,hMs,hM,.inl fun _ h=>dropM h 1,fun a hF=>?_⟩
    refine d_one hch 7 (by kernel_rfl) rfl rfl ?_
    refine d_ex hF 7 rfl rfl rfl rfl rfl fun w hMs hM=>?_
    obtain ⟨x946,hx946,hP⟩:=bind_some hP
    refine (w_appX (X:=LCell) hx946 Tryz.underlying57 in151 rfl rfl rfl rfl hF rfl rfl rfl (hM.own (X:=LCell) (i:=1) rfl) (hM.ptS (X:=LCell) (i:=0) (n:=2) (c:=2) rfl rfl rfl (Nat.le_refl _)) fun s945 w hUs945=>?_)
    have hM:=hM.chg hUs945 (i:=1) rfl
    have hQs945:=hM.rowS (X:=LCell) (i:=1) rfl
    replace hM:MemL _ (pt b_B59_26 (encs ([(LCell.mk (-7) LSlot.zero LSlot.zero),(LCell.mk (-8) LSlot.zero LSlot.zero)]:List LCell)) 151 :: rowL 0 s945 151 x946 :: pt b_B59_3 (RMark.enc (RMark.mk v894.at_ v894.next v894.done s895 s899 s901 s905)) 60 :: r897 :: pt b_B59_2 (RMark.enc (RMark.mk 0 0 false SV.nil SV.nil SV.nil SV.nil)) 60 :: pt b_B59_1 (RMark.enc (RMark.mk x0.at_ x0.next x0.done s1 s3 s5 s9)) 60 :: Lr):=hM
    have hMs:=selM hM [0,2,3,4,5] 6 rfl
    refine ⟨_,_,hMs,hM,.inl fun _ h=>h,fun a hF=>?_⟩
    obtain ⟨x947,hx947,hP⟩:=bind_some hP
    have f948:LRm (rowL 0 s945 151 x946).holds' (s945.cut (0:Int).toNat ((x0.slots.length:Int):Int).toNat 27) x947 spCell:=rm_row hx947 rfl
    refine d_val hF hch 11 rfl (by kernel_rfl) rfl rfl rfl (fun w hM=>(r_cutZ hQs945 (rm_slc hx947) Tryz.underlying57 in151 rfl hF rfl rfl (.inl ⟨rfl,rfl⟩) (.inr ⟨_,_,rfl,rfl⟩))) fun a hF=>?_
    refine d_val hF hch 12 rfl (by kernel_rfl) rfl rfl rfl (fun w hM=>(r_fieldAddr (off':=4) Tryz.underlying60 rfl in57 rfl hF rfl rfl rfl)) fun a hF=>?_
    refine d_one hch 13 (by kernel_rfl) rfl rfl ?_
    refine d_ex0 13 rfl rfl rfl rfl fun w hMs hM=>?_
    refine (w_store1 Tryz.sizeOf57 (hM.obj (i:=2) rfl) hF rfl rfl rfl rfl (by rw [RMark.len]; decide) (RMark.s_slots _ _) fun w hU949=>?_)
    have hM:=hM.chg hU949 (i:=2) rfl
    replace hM:MemL _ (pt b_B59_26 (encs ([(LCell.mk (-7) LSlot.zero LSlot.zero),(LCell.mk (-8) LSlot.zero LSlot.zero)]:List LCell)) 151 :: rowL 0 s945 151 x946 :: pt b_B59_3 (RMark.enc (RMark.mk v894.at_ v894.next v894.done s895 (s945.cut (0:Int).toNat ((x0.slots.length:Int):Int).toNat 27) s901 s905)) 60 :: r897 :: pt b_B59_2 (RMark.enc (RMark.mk 0 0 false SV.nil SV.nil SV.nil SV.nil)) 60 :: pt b_B59_1 (RMark.enc (RMark.mk x0.at_ x0.next x0.done s1 s3 s5 s9)) 60 :: Lr):=hM
    have hMs:=selM hM [0,2,3,4,5] 6 rfl
    refine ⟨_,_,hMs,hM,.inr (by kernel_rfl),?_⟩
    refine d_end hch (by kernel_rfl) fun w hM=>?_
    refine n_then ?_
    have hP:=Option.some.inj hP
    subst hP
    exact ⟨(QMark.mk v894.at_ v894.next v894.done v894.regs x947 v894.pieces v894.sent),rfl,s895,r897,(s945.cut (0:Int).toNat ((x0.slots.length:Int):Int).toNat 27),(rowL 0 s945 151 x946),s901,hs902,s905,f898,f948,f903,q904,f906,hF.to ⟨rfl,rfl,rfl,trivial⟩,selM hM [2,3,1,4,5] 6 rfl⟩
   refine d_ex hF 6 rfl rfl rfl rfl rfl fun w hMs hM=>?_
   refine (w_sliceN (X:=LCell) (ys:=[(LCell.mk (-7) LSlot.zero LSlot.zero),(LCell.mk (-8) LSlot.zero LSlot.zero)]) (m:=2) Tryz.underlying57 in151 rfl rfl rfl rfl (by decide) (by decide) hF rfl rfl (PartsE.cons rfl (PartsE.cons rfl PartsE.nil)) fun b_B59_26 w hzB59_26 hAB59_26=>?_)
   have hM:=hM.plus hAB59_26
   replace hM:MemL _ (pt b_B59_26 (encs ([(LCell.mk (-7) LSlot.zero LSlot.zero),(LCell.mk (-8) LSlot.zero LSlot.zero)]:List LCell)) 151 :: rowL 0 s_B59_20 151 [] :: pt b_B59_3 (RMark.enc (RMark.mk v894.at_ v894.next v894.done s895 s899 s901 s905)) 60 :: r897 :: pt b_B59_2 (RMark.enc (RMark.mk 0 0 false SV.nil SV.nil SV.nil SV.nil)) 60 :: pt b_B59_1 (RMark.enc (RMark.mk x0.at_ x0.next x0.done s1 s3 s5 s9)) 60 :: Lr):=hM
   have hMs:=selM hM [0,2,3,4,5] 6 rfl
   refine ⟨_,_,hMs,hM,.inl fun _ h=>dropM h 1,fun a hF=>?_⟩
   refine d_one hch 3 (by kernel_rfl) rfl rfl ?_
   refine d_ex hF 3 rfl rfl rfl rfl rfl fun w hMs hM=>?_
   obtain ⟨x944,hx944,hP⟩:=bind_some hP
   refine (w_appX (X:=LCell) hx944 Tryz.underlying57 in151 rfl rfl rfl rfl hF rfl rfl rfl (hM.own (X:=LCell) (i:=1) rfl) (f4 _ (hsub _ (dropM hM 6))) fun s943 w hUs943=>?_)
   have hM:=hM.chg hUs943 (i:=1) rfl
   have hQs943:=hM.rowS (X:=LCell) (i:=1) rfl
   replace hM:MemL _ (pt b_B59_26 (encs ([(LCell.mk (-7) LSlot.zero LSlot.zero),(LCell.mk (-8) LSlot.zero LSlot.zero)]:List LCell)) 151 :: rowL 0 s943 151 x944 :: pt b_B59_3 (RMark.enc (RMark.mk v894.at_ v894.next v894.done s895 s899 s901 s905)) 60 :: r897 :: pt b_B59_2 (RMark.enc (RMark.mk 0 0 false SV.nil SV.nil SV.nil SV.nil)) 60 :: pt b_B59_1 (RMark.enc (RMark.mk x0.at_ x0.next x0.done s1 s3 s5 s9)) 60 :: Lr):=hM
   have hMs:=selM hM [0,2,3,4,5] 6 rfl
   refine ⟨_,_,hMs,hM,.inl fun _ h=>h,fun a hF=>?_⟩
   refine d_one hch 7 (by kernel_rfl) rfl rfl ?_
   refine d_ex hF 7 rfl rfl rfl rfl rfl fun w hMs hM=>?_
   obtain ⟨x946,hx946,hP⟩:=bind_some hP
   refine (w_appX (X:=LCell) hx946 Tryz.underlying57 in151 rfl rfl rfl rfl hF rfl rfl rfl (hM.own (X:=LCell) (i:=1) rfl) (hM.ptS (X:=LCell) (i:=0) (n:=2) (c:=2) rfl rfl rfl (Nat.le_refl _)) fun s945 w hUs945=>?_)
   have hM:=hM.chg hUs945 (i:=1) rfl
   have hQs945:=hM.rowS (X:=LCell) (i:=1) rfl
   replace hM:MemL _ (pt b_B59_26 (encs ([(LCell.mk (-7) LSlot.zero LSlot.zero),(LCell.mk (-8) LSlot.zero LSlot.zero)]:List LCell)) 151 :: rowL 0 s945 151 x946 :: pt b_B59_3 (RMark.enc (RMark.mk v894.at_ v894.next v894.done s895 s899 s901 s905)) 60 :: r897 :: pt b_B59_2 (RMark.enc (RMark.mk 0 0 false SV.nil SV.nil SV.nil SV.nil)) 60 :: pt b_B59_1 (RMark.enc (RMark.mk x0.at_ x0.next x0.done s1 s3 s5 s9)) 60 :: Lr):=hM
   have hMs:=selM hM [0,2,3,4,5] 6 rfl
   refine ⟨_,_,hMs,hM,.inl fun _ h=>h,fun a hF=>?_⟩
   obtain ⟨x947,hx947,hP⟩:=bind_some hP
   have f948:LRm (rowL 0 s945 151 x946).holds' (s945.cut (0:Int).toNat ((x0.slots.length:Int):Int).toNat 27) x947 spCell:=rm_row hx947 rfl
   refine d_val hF hch 11 rfl (by kernel_rfl) rfl rfl rfl (fun w hM=>(r_cutZ hQs945 (rm_slc hx947) Tryz.underlying57 in151 rfl hF rfl rfl (.inl ⟨rfl,rfl⟩) (.inr ⟨_,_,rfl,rfl⟩))) fun a hF=>?_
   refine d_val hF hch 12 rfl (by kernel_rfl) rfl rfl rfl (fun w hM=>(r_fieldAddr (off':=4) Tryz.underlying60 rfl in57 rfl hF rfl rfl rfl)) fun a hF=>?_
   refine d_one hch 13 (by kernel_rfl) rfl rfl ?_
   refine d_ex0 13 rfl rfl rfl rfl fun w hMs hM=>?_
   refine (w_store1 Tryz.sizeOf57 (hM.obj (i:=2) rfl) hF rfl rfl rfl rfl (by rw [RMark.len]; decide) (RMark.s_slots _ _) fun w hU949=>?_)
   have hM:=hM.chg hU949 (i:=2) rfl
   replace hM:MemL _ (pt b_B59_26 (encs ([(LCell.mk (-7) LSlot.zero LSlot.zero),(LCell.mk (-8) LSlot.zero LSlot.zero)]:List LCell)) 151 :: rowL 0 s945 151 x946 :: pt b_B59_3 (RMark.enc (RMark.mk v894.at_ v894.next v894.done s895 (s945.cut (0:Int).toNat ((x0.slots.length:Int):Int).toNat 27) s901 s905)) 60 :: r897 :: pt b_B59_2 (RMark.enc (RMark.mk 0 0 false SV.nil SV.nil SV.nil SV.nil)) 60 :: pt b_B59_1 (RMark.enc (RMark.mk x0.at_ x0.next x0.done s1 s3 s5 s9)) 60 :: Lr):=hM
   have hMs:=selM hM [0,2,3,4,5] 6 rfl
   refine ⟨_,_,hMs,hM,.inr (by kernel_rfl),?_⟩
   refine d_end hch (by kernel_rfl) fun w hM=>?_
   refine n_then ?_
   have hP:=Option.some.inj hP
   subst hP
   exact ⟨(QMark.mk v894.at_ v894.next v894.done v894.regs x947 v894.pieces v894.sent),rfl,s895,r897,(s945.cut (0:Int).toNat ((x0.slots.length:Int):Int).toNat 27),(rowL 0 s945 151 x946),s901,hs902,s905,f898,f948,f903,q904,f906,hF.to ⟨rfl,rfl,rfl,trivial⟩,selM hM [2,3,1,4,5] 6 rfl⟩
  refine d_ex hF 6 rfl rfl rfl rfl rfl fun w hMs hM=>?_
  refine (w_sliceN (X:=LCell) (ys:=[(LCell.mk (-7) LSlot.zero LSlot.zero),(LCell.mk (-8) LSlot.zero LSlot.zero)]) (m:=2) Tryz.underlying57 in151 rfl rfl rfl rfl (by decide) (by decide) hF rfl rfl (PartsE.cons rfl (PartsE.cons rfl PartsE.nil)) fun b_B59_26 w hzB59_26 hAB59_26=>?_)
  have hM:=hM.plus hAB59_26
  replace hM:MemL _ (pt b_B59_26 (encs ([(LCell.mk (-7) LSlot.zero LSlot.zero),(LCell.mk (-8) LSlot.zero LSlot.zero)]:List LCell)) 151 :: pt b_B59_3 (RMark.enc (RMark.mk v894.at_ v894.next v894.done s895 s899 s901 s905)) 60 :: r897 :: pt b_B59_2 (RMark.enc (RMark.mk 0 0 false SV.nil SV.nil SV.nil SV.nil)) 60 :: pt b_B59_1 (RMark.enc (RMark.mk x0.at_ x0.next x0.done s1 s3 s5 s9)) 60 :: Lr):=hM
  have hMs:=selM hM [0,1,2,3,4] 5 rfl
  refine ⟨_,_,hMs,hM,.inl fun _ h=>dropM h 1,fun a hF=>?_⟩
  refine d_one hch 0 (by kernel_rfl) rfl rfl ?_
  refine d_ex hF 0 rfl rfl rfl rfl rfl fun w hMs hM=>?_
  refine (w_slice0 (X:=LCell) 0 (Nat.zero_le _) Tryz.underlying57 in151 rfl fun s_B59_20 w hAB59_20=>?_)
  have hM:=hM.plus hAB59_20
  replace hM:MemL _ (rowL 0 s_B59_20 151 [] :: pt b_B59_26 (encs ([(LCell.mk (-7) LSlot.zero LSlot.zero),(LCell.mk (-8) LSlot.zero LSlot.zero)]:List LCell)) 151 :: pt b_B59_3 (RMark.enc (RMark.mk v894.at_ v894.next v894.done s895 s899 s901 s905)) 60 :: r897 :: pt b_B59_2 (RMark.enc (RMark.mk 0 0 false SV.nil SV.nil SV.nil SV.nil)) 60 :: pt b_B59_1 (RMark.enc (RMark.mk x0.at_ x0.next x0.done s1 s3 s5 s9)) 60 :: Lr):=hM
  have hMs:=selM hM [1,2,3,4,5] 6 rfl
  refine ⟨_,_,hMs,hM,.inl fun _ h=>h,fun a hF=>?_⟩
  refine d_one hch 3 (by kernel_rfl) rfl rfl ?_
  refine d_ex hF 3 rfl rfl rfl rfl rfl fun w hMs hM=>?_
  obtain ⟨x944,hx944,hP⟩:=bind_some hP
  refine (w_appX (X:=LCell) hx944 Tryz.underlying57 in151 rfl rfl rfl rfl hF rfl rfl rfl (hM.own (X:=LCell) (i:=0) rfl) (f4 _ (hsub _ (dropM hM 6))) fun s943 w hUs943=>?_)
  have hM:=hM.chg hUs943 (i:=0) rfl
  have hQs943:=hM.rowS (X:=LCell) (i:=0) rfl
  replace hM:MemL _ (rowL 0 s943 151 x944 :: pt b_B59_26 (encs ([(LCell.mk (-7) LSlot.zero LSlot.zero),(LCell.mk (-8) LSlot.zero LSlot.zero)]:List LCell)) 151 :: pt b_B59_3 (RMark.enc (RMark.mk v894.at_ v894.next v894.done s895 s899 s901 s905)) 60 :: r897 :: pt b_B59_2 (RMark.enc (RMark.mk 0 0 false SV.nil SV.nil SV.nil SV.nil)) 60 :: pt b_B59_1 (RMark.enc (RMark.mk x0.at_ x0.next x0.done s1 s3 s5 s9)) 60 :: Lr):=hM
  have hMs:=selM hM [1,2,3,4,5] 6 rfl
  refine ⟨_,_,hMs,hM,.inl fun _ h=>h,fun a hF=>?_⟩
  refine d_one hch 7 (by kernel_rfl) rfl rfl ?_
  refine d_ex hF 7 rfl rfl rfl rfl rfl fun w hMs hM=>?_
  obtain ⟨x946,hx946,hP⟩:=bind_some hP
  refine (w_appX (X:=LCell) hx946 Tryz.underlying57 in151 rfl rfl rfl rfl hF rfl rfl rfl (hM.own (X:=LCell) (i:=0) rfl) (hM.ptS (X:=LCell) (i:=1) (n:=2) (c:=2) rfl rfl rfl (Nat.le_refl _)) fun s945 w hUs945=>?_)
  have hM:=hM.chg hUs945 (i:=0) rfl
  have hQs945:=hM.rowS (X:=LCell) (i:=0) rfl
  replace hM:MemL _ (rowL 0 s945 151 x946 :: pt b_B59_26 (encs ([(LCell.mk (-7) LSlot.zero LSlot.zero),(LCell.mk (-8) LSlot.zero LSlot.zero)]:List LCell)) 151 :: pt b_B59_3 (RMark.enc (RMark.mk v894.at_ v894.next v894.done s895 s899 s901 s905)) 60 :: r897 :: pt b_B59_2 (RMark.enc (RMark.mk 0 0 false SV.nil SV.nil SV.nil SV.nil)) 60 :: pt b_B59_1 (RMark.enc (RMark.mk x0.at_ x0.next x0.done s1 s3 s5 s9)) 60 :: Lr):=hM
  have hMs:=selM hM [1,2,3,4,5] 6 rfl
  refine ⟨_,_,hMs,hM,.inl fun _ h=>h,fun a hF=>?_⟩
  obtain ⟨x947,hx947,hP⟩:=bind_some hP
  have f948:LRm (rowL 0 s945 151 x946).holds' (s945.cut (0:Int).toNat ((x0.slots.length:Int):Int).toNat 27) x947 spCell:=rm_row hx947 rfl
  refine d_val hF hch 11 rfl (by kernel_rfl) rfl rfl rfl (fun w hM=>(r_cutZ hQs945 (rm_slc hx947) Tryz.underlying57 in151 rfl hF rfl rfl (.inl ⟨rfl,rfl⟩) (.inr ⟨_,_,rfl,rfl⟩))) fun a hF=>?_
  refine d_val hF hch 12 rfl (by kernel_rfl) rfl rfl rfl (fun w hM=>(r_fieldAddr (off':=4) Tryz.underlying60 rfl in57 rfl hF rfl rfl rfl)) fun a hF=>?_
  refine d_one hch 13 (by kernel_rfl) rfl rfl ?_
  refine d_ex0 13 rfl rfl rfl rfl fun w hMs hM=>?_
  refine (w_store1 Tryz.sizeOf57 (hM.obj (i:=2) rfl) hF rfl rfl rfl rfl (by rw [RMark.len]; decide) (RMark.s_slots _ _) fun w hU949=>?_)
  have hM:=hM.chg hU949 (i:=2) rfl
  replace hM:MemL _ (rowL 0 s945 151 x946 :: pt b_B59_26 (encs ([(LCell.mk (-7) LSlot.zero LSlot.zero),(LCell.mk (-8) LSlot.zero LSlot.zero)]:List LCell)) 151 :: pt b_B59_3 (RMark.enc (RMark.mk v894.at_ v894.next v894.done s895 (s945.cut (0:Int).toNat ((x0.slots.length:Int):Int).toNat 27) s901 s905)) 60 :: r897 :: pt b_B59_2 (RMark.enc (RMark.mk 0 0 false SV.nil SV.nil SV.nil SV.nil)) 60 :: pt b_B59_1 (RMark.enc (RMark.mk x0.at_ x0.next x0.done s1 s3 s5 s9)) 60 :: Lr):=hM
  have hMs:=selM hM [1,2,3,4,5] 6 rfl
  refine ⟨_,_,hMs,hM,.inr (by kernel_rfl),?_⟩
  refine d_end hch (by kernel_rfl) fun w hM=>?_
  refine n_then ?_
  have hP:=Option.some.inj hP
  subst hP
  exact ⟨(QMark.mk v894.at_ v894.next v894.done v894.regs x947 v894.pieces v894.sent),rfl,s895,r897,(s945.cut (0:Int).toNat ((x0.slots.length:Int):Int).toNat 27),(rowL 0 s945 151 x946),s901,hs902,s905,f898,f948,f903,q904,f906,hF.to ⟨rfl,rfl,rfl,trivial⟩,selM hM [2,3,0,4,5] 6 rfl⟩
 rintro v928 a w hP ⟨s929,r931,s933,r935,s937,hs938,s941,f932,f936,f939,q940,f942,hF,hM⟩
 replace hP:Sh.rm_lentMark_j2 x0 v928 = _:=hP
 unfold Sh.rm_lentMark_j2 at hP
 refine n_then ?_
 refine c_seq ?_
 refine c_joinX hF hM hP (fun F x a w=>match x with | v968=>∃ (s969:SV) (r971:Res) (s973:SV) (r975:Res) (s977:SV) (hs978:List RPiece) (s981:SV) (r983:Res),LRm r971.holds' s969 v968.regs spTurn ∧ LRm r975.holds' s973 v968.slots spCell ∧ LIn Bf s977 hs978 ∧ Each (QPieceIn Bf) hs978 v968.pieces ∧ LRm r983.holds' s981 v968.sent spInt ∧ Fr 82 [(1,.pointer (some ⟨b_B59_1,0,none⟩)),(2,.pointer (some ⟨b_B59_2,0,none⟩)),(3,.pointer (some ⟨b_B59_3,0,none⟩))] a ∧ MemL w (pt b_B59_3 (RMark.enc (RMark.mk v968.at_ v968.next v968.done s969 s973 s977 s981)) 60 :: r971 :: r975 :: r983 :: pt b_B59_2 (RMark.enc (RMark.mk 0 0 false SV.nil SV.nil SV.nil SV.nil)) 60 :: pt b_B59_1 (RMark.enc (RMark.mk x0.at_ x0.next x0.done s1 s3 s5 s9)) 60 :: Lr)) (fun o_j3 hP hK_j3 hF hM=>?_) ?_
 ·refine d_startT mixed (by kernel_rfl) hM [0,1,2,3,4] 5 rfl fun hch=>?_
  refine d_val hF hch 0 rfl (by kernel_rfl) rfl rfl rfl (fun w hM=>(r_fieldAddr (off':=6) Tryz.underlying60 rfl in52 rfl hF rfl rfl rfl)) fun a hF=>?_
  refine d_val hF hch 1 rfl (by kernel_rfl) rfl rfl rfl (fun w hM=>(r_load1 Tryz.isAgg52 hF rfl rfl (hM.cell (i:=4) rfl (RMark.g_sent _)))) fun a hF=>?_
  refine d_val hF hch 5 rfl (by kernel_rfl) rfl rfl rfl (fun w hM=>(r_fieldAddr (off':=6) Tryz.underlying60 rfl in52 rfl hF rfl rfl rfl)) fun a hF=>?_
  refine d_val hF hch 6 rfl (by kernel_rfl) rfl rfl rfl (fun w hM=>(r_load1 Tryz.isAgg52 hF rfl rfl (hM.cell (i:=4) rfl (RMark.g_sent _)))) fun a hF=>?_
  refine d_val hF hch 7 rfl (by kernel_rfl) rfl rfl rfl (fun w hM=>(r_lenL (f10 _ (hsub _ (dropM hM 5))) Tryz.underlying52 hF rfl rfl)) fun a hF=>?_
  refine d_two hch 2 3 (by kernel_rfl) rfl rfl ?_ ?_
  ·refine d_ex hF 2 rfl rfl rfl rfl rfl fun w hMs hM=>?_
   obtain ⟨y986,hy986,hP⟩:=bind_some hP
   refine (w_call (xs:=[.tmp 34]) Tryz.call81 hF rfl rfl (law00_CopyInts_calls hy986 hM (Bf:=Bf) (fun w hM=>hsub _ (dropM hM 5)) f10) fun v w hR=>?_)
   obtain ⟨s987,rfl,hM⟩:=hR
   replace hM:MemL _ (rowL 0 s987 3 y986 :: pt b_B59_3 (RMark.enc (RMark.mk v928.at_ v928.next v928.done s929 s933 s937 s941)) 60 :: r931 :: r935 :: pt b_B59_2 (RMark.enc (RMark.mk 0 0 false SV.nil SV.nil SV.nil SV.nil)) 60 :: pt b_B59_1 (RMark.enc (RMark.mk x0.at_ x0.next x0.done s1 s3 s5 s9)) 60 :: Lr):=hM
   have hMs:=selM hM [1,2,3,4,5] 6 rfl
   refine ⟨_,_,hMs,hM,.inl fun _ h=>h,fun a hF=>?_⟩
   refine d_one hch 3 (by kernel_rfl) rfl rfl ?_
   refine d_ex hF 3 rfl rfl rfl rfl rfl fun w hMs hM=>?_
   refine (w_sliceN (X:=Int) (ys:=[(-7),(-8)]) (m:=2) Tryz.underlying52 in3 rfl rfl rfl rfl (by decide) (by decide) hF rfl rfl (PartsE.cons rfl (PartsE.cons rfl PartsE.nil)) fun b_B59_36 w hzB59_36 hAB59_36=>?_)
   have hM:=hM.plus hAB59_36
   replace hM:MemL _ (pt b_B59_36 (encs ([(-7),(-8)]:List Int)) 3 :: rowL 0 s987 3 y986 :: pt b_B59_3 (RMark.enc (RMark.mk v928.at_ v928.next v928.done s929 s933 s937 s941)) 60 :: r931 :: r935 :: pt b_B59_2 (RMark.enc (RMark.mk 0 0 false SV.nil SV.nil SV.nil SV.nil)) 60 :: pt b_B59_1 (RMark.enc (RMark.mk x0.at_ x0.next x0.done s1 s3 s5 s9)) 60 :: Lr):=hM
   have hMs:=selM hM [0,2,3,4,5,6] 7 rfl
   refine ⟨_,_,hMs,hM,.inl fun _ h=>dropM h 1,fun a hF=>?_⟩
   refine d_one hch 4 (by kernel_rfl) rfl rfl ?_
   refine d_ex hF 4 rfl rfl rfl rfl rfl fun w hMs hM=>?_
   obtain ⟨x990,hx990,hP⟩:=bind_some hP
   refine (w_appX (X:=Int) hx990 Tryz.underlying52 in3 rfl rfl rfl rfl hF rfl rfl rfl (hM.own (X:=Int) (i:=1) rfl) (hM.ptS (X:=Int) (i:=0) (n:=2) (c:=2) rfl rfl rfl (Nat.le_refl _)) fun s989 w hUs989=>?_)
   have hM:=hM.chg hUs989 (i:=1) rfl
   have hQs989:=hM.rowS (X:=Int) (i:=1) rfl
   replace hM:MemL _ (pt b_B59_36 (encs ([(-7),(-8)]:List Int)) 3 :: rowL 0 s989 3 x990 :: pt b_B59_3 (RMark.enc (RMark.mk v928.at_ v928.next v928.done s929 s933 s937 s941)) 60 :: r931 :: r935 :: pt b_B59_2 (RMark.enc (RMark.mk 0 0 false SV.nil SV.nil SV.nil SV.nil)) 60 :: pt b_B59_1 (RMark.enc (RMark.mk x0.at_ x0.next x0.done s1 s3 s5 s9)) 60 :: Lr):=hM
   have hMs:=selM hM [0,2,3,4,5,6] 7 rfl
   refine ⟨_,_,hMs,hM,.inl fun _ h=>h,fun a hF=>?_⟩
   obtain ⟨x991,hx991,hP⟩:=bind_some hP
   have f992:LRm (rowL 0 s989 3 x990).holds' (s989.cut (0:Int).toNat ((x0.sent.length:Int):Int).toNat 1) x991 spInt:=rm_row hx991 rfl
   refine d_val hF hch 8 rfl (by kernel_rfl) rfl rfl rfl (fun w hM=>(r_cutZ hQs989 (rm_slc hx991) Tryz.underlying52 in3 rfl hF rfl rfl (.inl ⟨rfl,rfl⟩) (.inr ⟨_,_,rfl,rfl⟩))) fun a hF=>?_
   refine d_val hF hch 9 rfl (by kernel_rfl) rfl rfl rfl (fun w hM=>(r_fieldAddr (off':=6) Tryz.underlying60 rfl in52 rfl hF rfl rfl rfl)) fun a hF=>?_
   refine d_one hch 10 (by kernel_rfl) rfl rfl ?_
   refine d_ex0 10 rfl rfl rfl rfl fun w hMs hM=>?_
   refine (w_store1 Tryz.sizeOf52 (hM.obj (i:=2) rfl) hF rfl rfl rfl rfl (by rw [RMark.len]; decide) (RMark.s_sent _ _) fun w hU993=>?_)
   have hM:=hM.chg hU993 (i:=2) rfl
   replace hM:MemL _ (pt b_B59_36 (encs ([(-7),(-8)]:List Int)) 3 :: rowL 0 s989 3 x990 :: pt b_B59_3 (RMark.enc (RMark.mk v928.at_ v928.next v928.done s929 s933 s937 (s989.cut (0:Int).toNat ((x0.sent.length:Int):Int).toNat 1))) 60 :: r931 :: r935 :: pt b_B59_2 (RMark.enc (RMark.mk 0 0 false SV.nil SV.nil SV.nil SV.nil)) 60 :: pt b_B59_1 (RMark.enc (RMark.mk x0.at_ x0.next x0.done s1 s3 s5 s9)) 60 :: Lr):=hM
   have hMs:=selM hM [0,2,3,4,5,6] 7 rfl
   refine ⟨_,_,hMs,hM,.inr (by kernel_rfl),?_⟩
   refine d_end hch (by kernel_rfl) fun w hM=>?_
   refine n_then ?_
   have hP:=Option.some.inj hP
   subst hP
   exact ⟨(QMark.mk v928.at_ v928.next v928.done v928.regs v928.slots v928.pieces x991),rfl,s929,r931,s933,r935,s937,hs938,(s989.cut (0:Int).toNat ((x0.sent.length:Int):Int).toNat 1),(rowL 0 s989 3 x990),f932,f936,f939,q940,f992,hF.to ⟨rfl,rfl,rfl,trivial⟩,selM hM [2,3,4,1,5,6] 7 rfl⟩
  refine d_ex hF 3 rfl rfl rfl rfl rfl fun w hMs hM=>?_
  refine (w_sliceN (X:=Int) (ys:=[(-7),(-8)]) (m:=2) Tryz.underlying52 in3 rfl rfl rfl rfl (by decide) (by decide) hF rfl rfl (PartsE.cons rfl (PartsE.cons rfl PartsE.nil)) fun b_B59_36 w hzB59_36 hAB59_36=>?_)
  have hM:=hM.plus hAB59_36
  replace hM:MemL _ (pt b_B59_36 (encs ([(-7),(-8)]:List Int)) 3 :: pt b_B59_3 (RMark.enc (RMark.mk v928.at_ v928.next v928.done s929 s933 s937 s941)) 60 :: r931 :: r935 :: pt b_B59_2 (RMark.enc (RMark.mk 0 0 false SV.nil SV.nil SV.nil SV.nil)) 60 :: pt b_B59_1 (RMark.enc (RMark.mk x0.at_ x0.next x0.done s1 s3 s5 s9)) 60 :: Lr):=hM
  have hMs:=selM hM [0,1,2,3,4,5] 6 rfl
  refine ⟨_,_,hMs,hM,.inl fun _ h=>dropM h 1,fun a hF=>?_⟩
  refine d_one hch 2 (by kernel_rfl) rfl rfl ?_
  refine d_ex hF 2 rfl rfl rfl rfl rfl fun w hMs hM=>?_
  obtain ⟨y986,hy986,hP⟩:=bind_some hP
  refine (w_call (xs:=[.tmp 34]) Tryz.call81 hF rfl rfl (law00_CopyInts_calls hy986 hM (Bf:=Bf) (fun w hM=>hsub _ (dropM hM 6)) f10) fun v w hR=>?_)
  obtain ⟨s987,rfl,hM⟩:=hR
  replace hM:MemL _ (rowL 0 s987 3 y986 :: pt b_B59_36 (encs ([(-7),(-8)]:List Int)) 3 :: pt b_B59_3 (RMark.enc (RMark.mk v928.at_ v928.next v928.done s929 s933 s937 s941)) 60 :: r931 :: r935 :: pt b_B59_2 (RMark.enc (RMark.mk 0 0 false SV.nil SV.nil SV.nil SV.nil)) 60 :: pt b_B59_1 (RMark.enc (RMark.mk x0.at_ x0.next x0.done s1 s3 s5 s9)) 60 :: Lr):=hM
  have hMs:=selM hM [1,2,3,4,5,6] 7 rfl
  refine ⟨_,_,hMs,hM,.inl fun _ h=>h,fun a hF=>?_⟩
  refine d_one hch 4 (by kernel_rfl) rfl rfl ?_
  refine d_ex hF 4 rfl rfl rfl rfl rfl fun w hMs hM=>?_
  obtain ⟨x990,hx990,hP⟩:=bind_some hP
  refine (w_appX (X:=Int) hx990 Tryz.underlying52 in3 rfl rfl rfl rfl hF rfl rfl rfl (hM.own (X:=Int) (i:=0) rfl) (hM.ptS (X:=Int) (i:=1) (n:=2) (c:=2) rfl rfl rfl (Nat.le_refl _)) fun s989 w hUs989=>?_)
  have hM:=hM.chg hUs989 (i:=0) rfl
  have hQs989:=hM.rowS (X:=Int) (i:=0) rfl
  replace hM:MemL _ (rowL 0 s989 3 x990 :: pt b_B59_36 (encs ([(-7),(-8)]:List Int)) 3 :: pt b_B59_3 (RMark.enc (RMark.mk v928.at_ v928.next v928.done s929 s933 s937 s941)) 60 :: r931 :: r935 :: pt b_B59_2 (RMark.enc (RMark.mk 0 0 false SV.nil SV.nil SV.nil SV.nil)) 60 :: pt b_B59_1 (RMark.enc (RMark.mk x0.at_ x0.next x0.done s1 s3 s5 s9)) 60 :: Lr):=hM
  have hMs:=selM hM [1,2,3,4,5,6] 7 rfl
  refine ⟨_,_,hMs,hM,.inl fun _ h=>h,fun a hF=>?_⟩
  obtain ⟨x991,hx991,hP⟩:=bind_some hP
  have f992:LRm (rowL 0 s989 3 x990).holds' (s989.cut (0:Int).toNat ((x0.sent.length:Int):Int).toNat 1) x991 spInt:=rm_row hx991 rfl
  refine d_val hF hch 8 rfl (by kernel_rfl) rfl rfl rfl (fun w hM=>(r_cutZ hQs989 (rm_slc hx991) Tryz.underlying52 in3 rfl hF rfl rfl (.inl ⟨rfl,rfl⟩) (.inr ⟨_,_,rfl,rfl⟩))) fun a hF=>?_
  refine d_val hF hch 9 rfl (by kernel_rfl) rfl rfl rfl (fun w hM=>(r_fieldAddr (off':=6) Tryz.underlying60 rfl in52 rfl hF rfl rfl rfl)) fun a hF=>?_
  refine d_one hch 10 (by kernel_rfl) rfl rfl ?_
  refine d_ex0 10 rfl rfl rfl rfl fun w hMs hM=>?_
  refine (w_store1 Tryz.sizeOf52 (hM.obj (i:=2) rfl) hF rfl rfl rfl rfl (by rw [RMark.len]; decide) (RMark.s_sent _ _) fun w hU993=>?_)
  have hM:=hM.chg hU993 (i:=2) rfl
  replace hM:MemL _ (rowL 0 s989 3 x990 :: pt b_B59_36 (encs ([(-7),(-8)]:List Int)) 3 :: pt b_B59_3 (RMark.enc (RMark.mk v928.at_ v928.next v928.done s929 s933 s937 (s989.cut (0:Int).toNat ((x0.sent.length:Int):Int).toNat 1))) 60 :: r931 :: r935 :: pt b_B59_2 (RMark.enc (RMark.mk 0 0 false SV.nil SV.nil SV.nil SV.nil)) 60 :: pt b_B59_1 (RMark.enc (RMark.mk x0.at_ x0.next x0.done s1 s3 s5 s9)) 60 :: Lr):=hM
  have hMs:=selM hM [1,2,3,4,5,6] 7 rfl
  refine ⟨_,_,hMs,hM,.inr (by kernel_rfl),?_⟩
  refine d_end hch (by kernel_rfl) fun w hM=>?_
  refine n_then ?_
  have hP:=Option.some.inj hP
  subst hP
  exact ⟨(QMark.mk v928.at_ v928.next v928.done v928.regs v928.slots v928.pieces x991),rfl,s929,r931,s933,r935,s937,hs938,(s989.cut (0:Int).toNat ((x0.sent.length:Int):Int).toNat 1),(rowL 0 s989 3 x990),f932,f936,f939,q940,f992,hF.to ⟨rfl,rfl,rfl,trivial⟩,selM hM [2,3,4,0,5,6] 7 rfl⟩
 rintro v968 a w hP ⟨s969,r971,s973,r975,s977,hs978,s981,r983,f972,f976,f979,q980,f984,hF,hM⟩
 replace hP:Sh.rm_lentMark_j3 x0 v968 = _:=hP
 unfold Sh.rm_lentMark_j3 at hP
 refine n_then ?_
 refine c_seq ?_
 refine c_region ?_
 refine s_val hF (r_fieldAddr (off':=5) Tryz.underlying60 rfl in58 rfl hF rfl rfl rfl) rfl rfl rfl fun a hF=>?_
 refine s_eff0 rfl rfl (w_store1 Tryz.sizeOf58 (hM.obj (i:=0) rfl) hF rfl rfl rfl rfl (by rw [RMark.len]; decide) (RMark.s_pieces _ SV.nil) fun w hU994=>?_)
 have hM:=hM.chg hU994 (i:=0) rfl
 replace hM:MemL _ (pt b_B59_3 (RMark.enc (RMark.mk v968.at_ v968.next v968.done s969 s973 SV.nil s981)) 60 :: r971 :: r975 :: r983 :: pt b_B59_2 (RMark.enc (RMark.mk 0 0 false SV.nil SV.nil SV.nil SV.nil)) 60 :: pt b_B59_1 (RMark.enc (RMark.mk x0.at_ x0.next x0.done s1 s3 s5 s9)) 60 :: Lr):=hM
 refine c_nil (n_then ?_)
 refine c_seq ?_
 refine c_joinX hF hM hP (fun F x a w=>match x with | v1461=>∃ (s1462:SV) (r1464:Res) (s1466:SV) (r1468:Res) (s1470:SV) (hs1471:List RPiece) (r1473:Res) (s1475:SV) (r1477:Res),LRm r1464.holds' s1462 v1461.regs spTurn ∧ LRm r1468.holds' s1466 v1461.slots spCell ∧ Each (QPieceRm r1473.holds') hs1471 v1461.pieces ∧ LRm r1477.holds' s1475 v1461.sent spInt ∧ Fr 82 [(1,.pointer (some ⟨b_B59_1,0,none⟩)),(2,.pointer (some ⟨b_B59_2,0,none⟩)),(3,.pointer (some ⟨b_B59_3,0,none⟩))] a ∧ MemL w (pt b_B59_3 (RMark.enc (RMark.mk v1461.at_ v1461.next v1461.done s1462 s1466 s1470 s1475)) 60 :: r1464 :: r1468 :: rowL 0 s1470 156 hs1471 :: r1473 :: r1477 :: pt b_B59_2 (RMark.enc (RMark.mk 0 0 false SV.nil SV.nil SV.nil SV.nil)) 60 :: pt b_B59_1 (RMark.enc (RMark.mk x0.at_ x0.next x0.done s1 s3 s5 s9)) 60 :: Lr)) (fun o_j4 hP hK_j4 hF hM=>?_) ?_
 ·refine c_seq ?_
  refine c_region ?_
  refine s_val hF (r_assign hF rfl rfl) rfl rfl rfl fun a hF=>?_
  refine c_nil (n_then ?_)
  refine c_block ?_
  obtain ⟨r1648,hM⟩:=voidM hM
  have q1649:Each (QPieceRm r1648.holds') ([]:List RPiece) ([]:List QPiece):=Each.nil
  have hM:=hM.rowNil (X:=RPiece) 0 156
  refine c_loopX hF hM hP (fun F x a w=>match x with | (v1628,v1646)=>∃ (s1629:SV) (r1631:Res) (s1633:SV) (r1635:Res) (s1637:SV) (hs1638:List RPiece) (r1640:Res) (s1642:SV) (r1644:Res),LRm r1631.holds' s1629 v1628.regs spTurn ∧ LRm r1635.holds' s1633 v1628.slots spCell ∧ Each (QPieceRm r1640.holds') hs1638 v1628.pieces ∧ LRm r1644.holds' s1642 v1628.sent spInt ∧ Fr 82 [(4,.int .i64 v1646),(1,.pointer (some ⟨b_B59_1,0,none⟩)),(2,.pointer (some ⟨b_B59_2,0,none⟩)),(3,.pointer (some ⟨b_B59_3,0,none⟩))] a ∧ MemL w (pt b_B59_3 (RMark.enc (RMark.mk v1628.at_ v1628.next v1628.done s1629 s1633 s1637 s1642)) 60 :: r1631 :: r1635 :: rowL 0 s1637 156 hs1638 :: r1640 :: r1644 :: pt b_B59_2 (RMark.enc (RMark.mk 0 0 false SV.nil SV.nil SV.nil SV.nil)) 60 :: pt b_B59_1 (RMark.enc (RMark.mk x0.at_ x0.next x0.done s1 s3 s5 s9)) 60 :: Lr)) (fun hF hM=>⟨s969,r971,s973,r975,SV.nil,[],r1648,s981,r983,f972,f976,q1649,f984,hF.to ⟨rfl,rfl,rfl,rfl,trivial⟩,selM hM [2,3,4,0,1,5,6,7] 8 rfl⟩) ?_
  rintro ⟨v1628,v1646⟩ a w o_l5 hP hK_l5 ⟨s1629,r1631,s1633,r1635,s1637,hs1638,r1640,s1642,r1644,f1632,f1636,q1641,f1645,hF,hM⟩
  replace hP:Sh.rm_lentMark_l5 x0 v1628 v1646 = _:=hP
  unfold Sh.rm_lentMark_l5 at hP
  refine c_seq ?_
  refine c_seq ?_
  refine c_region ?_
  refine s_val hF (r_move hF rfl rfl) rfl rfl rfl fun a hF=>?_
  refine s_val hF (r_fieldAddr (off':=5) Tryz.underlying60 rfl in58 rfl hF rfl rfl rfl) rfl rfl rfl fun a hF=>?_
  refine s_val hF (r_load1 Tryz.isAgg58 hF rfl rfl (hM.cell (i:=7) rfl (RMark.g_pieces _))) rfl rfl rfl fun a hF=>?_
  refine s_val hF (r_lenD (f7 _ (hsub _ (dropM hM 8))) q8.len Tryz.underlying58 hF rfl rfl) rfl rfl rfl fun a hF=>?_
  refine s_val hF (r_lss hF rfl rfl rfl) rfl rfl rfl fun a hF=>?_
  refine c_nil (n_then ?_)
  refine c_cond hF (c:=.tmp 48) rfl (fun hb1651=>?_) (fun hb1651=>?_)
  ·have hP:=Fx.cT hb1651 hP
   refine c_skip (n_then ?_)
   refine c_seq ?_
   refine c_block ?_
   refine c_seq ?_
   refine c_region ?_
   refine s_val hF (r_fieldAddr (off':=5) Tryz.underlying60 rfl in58 rfl hF rfl rfl rfl) rfl rfl rfl fun a hF=>?_
   refine s_val hF (r_load1 Tryz.isAgg58 hF rfl rfl (hM.cell (i:=7) rfl (RMark.g_pieces _))) rfl rfl rfl fun a hF=>?_
   refine s_val hF (r_move hF rfl rfl) rfl rfl rfl fun a hF=>?_
   obtain ⟨x1682,hx1682,hP⟩:=bind_some hP
   have h0x1682:=get_some hx1682
   obtain ⟨yx1682,hgx1682,hrx1682⟩:=Each.getr q8 h0x1682.2
   have hdx1682:=Each.bd q8 (get_bd hx1682)
   obtain ⟨s1683,s1685,rfl,f1684,f1686⟩:=hrx1682
   refine s_val hF (r_indexZ (sz:=4) (f7 _ (hsub _ (dropM hM 8))) Tryz.underlying58 in156 rfl hF rfl rfl rfl hdx1682) rfl rfl rfl fun a hF=>?_
   refine s_val hF (r_loadn Tryz.isAgg156 Tryz.sizeOf156 hF rfl rfl (RPiece.len _) (((f7 _ (hsub _ (dropM hM 8))).elemS hgx1682))) rfl rfl rfl fun a hF=>?_
   refine s_eff hF rfl rfl rfl (w_alloc z156 (zs:=RPiece.zero.enc) rfl rfl fun b_B59_5 w hzB59_5 hAB59_5=>?_)
   have hM:=hM.plus hAB59_5
   replace hM:MemL _ (pt b_B59_5 (RPiece.enc (RPiece.mk 0 0 SV.nil SV.nil)) 156 :: pt b_B59_3 (RMark.enc (RMark.mk v1628.at_ v1628.next v1628.done s1629 s1633 s1637 s1642)) 60 :: r1631 :: r1635 :: rowL 0 s1637 156 hs1638 :: r1640 :: r1644 :: pt b_B59_2 (RMark.enc (RMark.mk 0 0 false SV.nil SV.nil SV.nil SV.nil)) 60 :: pt b_B59_1 (RMark.enc (RMark.mk x0.at_ x0.next x0.done s1 s3 s5 s9)) 60 :: Lr):=hM
   intro a hF
   refine s_eff0 rfl rfl (w_storen (vs:=_) Tryz.sizeOf156 (hM.obj (i:=0) rfl) hF rfl rfl rfl rfl (RPiece.len _) (RPiece.one _) (by first | (rw [RPiece.len,RPiece.len]; decide) | (rw [RPiece.len]; decide)) (put_all ((RPiece.len _).trans (RPiece.len _).symm)) fun w hU1687=>?_)
   have hM:=hM.chg hU1687 (i:=0) rfl
   replace hM:MemL _ (pt b_B59_5 (RPiece.enc (RPiece.mk x1682.table x1682.from_ s1683 s1685)) 156 :: pt b_B59_3 (RMark.enc (RMark.mk v1628.at_ v1628.next v1628.done s1629 s1633 s1637 s1642)) 60 :: r1631 :: r1635 :: rowL 0 s1637 156 hs1638 :: r1640 :: r1644 :: pt b_B59_2 (RMark.enc (RMark.mk 0 0 false SV.nil SV.nil SV.nil SV.nil)) 60 :: pt b_B59_1 (RMark.enc (RMark.mk x0.at_ x0.next x0.done s1 s3 s5 s9)) 60 :: Lr):=hM
   refine c_nil (n_then ?_)
   refine c_seq ?_
   refine c_region ?_
   refine s_val hF (r_fieldAddr (off':=2) Tryz.underlying156 rfl in23 rfl hF rfl rfl rfl) rfl rfl rfl fun a hF=>?_
   refine s_val hF (r_load1 Tryz.isAgg23 hF rfl rfl (hM.cell (i:=0) rfl (RPiece.g_old _))) rfl rfl rfl fun a hF=>?_
   obtain ⟨y1689,hy1689,hP⟩:=bind_some hP
   refine s_eff hF rfl rfl rfl (w_call (xs:=[.tmp 57]) Tryz.call90 hF rfl rfl (rm_roomy_calls hy1689 hM (Bf:=Bf) (fun w hM=>hsub _ (dropM hM 9)) f1684) fun v w hR=>?_)
   obtain ⟨s1690,r1692,rfl,f1693,hM⟩:=hR
   replace hM:MemL _ (r1692 :: pt b_B59_5 (RPiece.enc (RPiece.mk x1682.table x1682.from_ s1683 s1685)) 156 :: pt b_B59_3 (RMark.enc (RMark.mk v1628.at_ v1628.next v1628.done s1629 s1633 s1637 s1642)) 60 :: r1631 :: r1635 :: rowL 0 s1637 156 hs1638 :: r1640 :: r1644 :: pt b_B59_2 (RMark.enc (RMark.mk 0 0 false SV.nil SV.nil SV.nil SV.nil)) 60 :: pt b_B59_1 (RMark.enc (RMark.mk x0.at_ x0.next x0.done s1 s3 s5 s9)) 60 :: Lr):=hM
   intro a hF
   refine s_val hF (r_fieldAddr (off':=2) Tryz.underlying156 rfl in23 rfl hF rfl rfl rfl) rfl rfl rfl fun a hF=>?_
   refine s_eff0 rfl rfl (w_store1 Tryz.sizeOf23 (hM.obj (i:=1) rfl) hF rfl rfl rfl rfl (by rw [RPiece.len]; decide) (RPiece.s_old _ _) fun w hU1694=>?_)
   have hM:=hM.chg hU1694 (i:=1) rfl
   replace hM:MemL _ (r1692 :: pt b_B59_5 (RPiece.enc (RPiece.mk x1682.table x1682.from_ s1690 s1685)) 156 :: pt b_B59_3 (RMark.enc (RMark.mk v1628.at_ v1628.next v1628.done s1629 s1633 s1637 s1642)) 60 :: r1631 :: r1635 :: rowL 0 s1637 156 hs1638 :: r1640 :: r1644 :: pt b_B59_2 (RMark.enc (RMark.mk 0 0 false SV.nil SV.nil SV.nil SV.nil)) 60 :: pt b_B59_1 (RMark.enc (RMark.mk x0.at_ x0.next x0.done s1 s3 s5 s9)) 60 :: Lr):=hM
   refine c_nil (n_then ?_)
   refine c_seq ?_
   refine c_region ?_
   refine s_val hF (r_fieldAddr (off':=3) Tryz.underlying156 rfl in23 rfl hF rfl rfl rfl) rfl rfl rfl fun a hF=>?_
   refine s_val hF (r_load1 Tryz.isAgg23 hF rfl rfl (hM.cell (i:=1) rfl (RPiece.g_new _))) rfl rfl rfl fun a hF=>?_
   obtain ⟨y1696,hy1696,hP⟩:=bind_some hP
   refine s_eff hF rfl rfl rfl (w_call (xs:=[.tmp 61]) Tryz.call90 hF rfl rfl (rm_roomy_calls hy1696 hM (Bf:=Bf) (fun w hM=>hsub _ (dropM hM 10)) f1686) fun v w hR=>?_)
   obtain ⟨s1697,r1699,rfl,f1700,hM⟩:=hR
   replace hM:MemL _ (r1699 :: r1692 :: pt b_B59_5 (RPiece.enc (RPiece.mk x1682.table x1682.from_ s1690 s1685)) 156 :: pt b_B59_3 (RMark.enc (RMark.mk v1628.at_ v1628.next v1628.done s1629 s1633 s1637 s1642)) 60 :: r1631 :: r1635 :: rowL 0 s1637 156 hs1638 :: r1640 :: r1644 :: pt b_B59_2 (RMark.enc (RMark.mk 0 0 false SV.nil SV.nil SV.nil SV.nil)) 60 :: pt b_B59_1 (RMark.enc (RMark.mk x0.at_ x0.next x0.done s1 s3 s5 s9)) 60 :: Lr):=hM
   intro a hF
   refine s_val hF (r_fieldAddr (off':=3) Tryz.underlying156 rfl in23 rfl hF rfl rfl rfl) rfl rfl rfl fun a hF=>?_
   refine s_eff0 rfl rfl (w_store1 Tryz.sizeOf23 (hM.obj (i:=2) rfl) hF rfl rfl rfl rfl (by rw [RPiece.len]; decide) (RPiece.s_new _ _) fun w hU1701=>?_)
   have hM:=hM.chg hU1701 (i:=2) rfl
   replace hM:MemL _ (r1699 :: r1692 :: pt b_B59_5 (RPiece.enc (RPiece.mk x1682.table x1682.from_ s1690 s1697)) 156 :: pt b_B59_3 (RMark.enc (RMark.mk v1628.at_ v1628.next v1628.done s1629 s1633 s1637 s1642)) 60 :: r1631 :: r1635 :: rowL 0 s1637 156 hs1638 :: r1640 :: r1644 :: pt b_B59_2 (RMark.enc (RMark.mk 0 0 false SV.nil SV.nil SV.nil SV.nil)) 60 :: pt b_B59_1 (RMark.enc (RMark.mk x0.at_ x0.next x0.done s1 s3 s5 s9)) 60 :: Lr):=hM
   refine c_nil (n_then ?_)
   refine c_region ?_
   refine s_val hF (r_fieldAddr (off':=5) Tryz.underlying60 rfl in58 rfl hF rfl rfl rfl) rfl rfl rfl fun a hF=>?_
   refine s_val hF (r_load1 Tryz.isAgg58 hF rfl rfl (hM.cell (i:=3) rfl (RMark.g_pieces _))) rfl rfl rfl fun a hF=>?_
   refine s_val hF (r_loadn Tryz.isAgg156 Tryz.sizeOf156 hF rfl rfl (RPiece.len _) (hM.cells (i:=2) rfl (cut_all (RPiece.len _)))) rfl rfl rfl fun a hF=>?_
   refine s_eff hF rfl rfl rfl (w_slice1 (X:=RPiece) (y:=(RPiece.mk x1682.table x1682.from_ s1690 s1697)) Tryz.underlying58 in156 rfl rfl rfl rfl hF rfl rfl rfl fun b_B59_67 w hzB59_67 hAB59_67=>?_)
   have hM:=hM.plus hAB59_67
   replace hM:MemL _ (pt b_B59_67 (encs ([(RPiece.mk x1682.table x1682.from_ s1690 s1697)]:List RPiece)) 156 :: r1699 :: r1692 :: pt b_B59_5 (RPiece.enc (RPiece.mk x1682.table x1682.from_ s1690 s1697)) 156 :: pt b_B59_3 (RMark.enc (RMark.mk v1628.at_ v1628.next v1628.done s1629 s1633 s1637 s1642)) 60 :: r1631 :: r1635 :: rowL 0 s1637 156 hs1638 :: r1640 :: r1644 :: pt b_B59_2 (RMark.enc (RMark.mk 0 0 false SV.nil SV.nil SV.nil SV.nil)) 60 :: pt b_B59_1 (RMark.enc (RMark.mk x0.at_ x0.next x0.done s1 s3 s5 s9)) 60 :: Lr):=hM
   intro a hF
   obtain ⟨x1703,hx1703,hP⟩:=bind_some hP
   refine s_eff hF rfl rfl rfl (w_appD (X:=RPiece) hx1703 q1641.len rfl Tryz.underlying58 in156 rfl rfl rfl rfl hF rfl rfl rfl (hM.own (X:=RPiece) (i:=7) rfl) (hM.ptS (X:=RPiece) (i:=0) (n:=1) (c:=1) rfl rfl rfl (Nat.le_refl _)) fun s1702 w hUs1702=>?_)
   have hM:=hM.chg hUs1702 (i:=7) rfl
   replace hM:MemL _ (pt b_B59_67 (encs ([(RPiece.mk x1682.table x1682.from_ s1690 s1697)]:List RPiece)) 156 :: r1699 :: r1692 :: pt b_B59_5 (RPiece.enc (RPiece.mk x1682.table x1682.from_ s1690 s1697)) 156 :: pt b_B59_3 (RMark.enc (RMark.mk v1628.at_ v1628.next v1628.done s1629 s1633 s1637 s1642)) 60 :: r1631 :: r1635 :: rowL 0 s1702 156 (hs1638 ++ [(RPiece.mk x1682.table x1682.from_ s1690 s1697)]) :: r1640 :: r1644 :: pt b_B59_2 (RMark.enc (RMark.mk 0 0 false SV.nil SV.nil SV.nil SV.nil)) 60 :: pt b_B59_1 (RMark.enc (RMark.mk x0.at_ x0.next x0.done s1 s3 s5 s9)) 60 :: Lr):=hM
   obtain ⟨r1704,hj1705,hj1706,hM⟩:=joinM (selM hM [8,2,0,1,3,4,5,6,7,9,10,11] 12 rfl)
   replace hM:MemL _ (r1704 :: pt b_B59_67 (encs ([(RPiece.mk x1682.table x1682.from_ s1690 s1697)]:List RPiece)) 156 :: r1699 :: pt b_B59_5 (RPiece.enc (RPiece.mk x1682.table x1682.from_ s1690 s1697)) 156 :: pt b_B59_3 (RMark.enc (RMark.mk v1628.at_ v1628.next v1628.done s1629 s1633 s1637 s1642)) 60 :: r1631 :: r1635 :: rowL 0 s1702 156 (hs1638 ++ [(RPiece.mk x1682.table x1682.from_ s1690 s1697)]) :: r1644 :: pt b_B59_2 (RMark.enc (RMark.mk 0 0 false SV.nil SV.nil SV.nil SV.nil)) 60 :: pt b_B59_1 (RMark.enc (RMark.mk x0.at_ x0.next x0.done s1 s3 s5 s9)) 60 :: Lr):=hM
   obtain ⟨r1707,hj1708,hj1709,hM⟩:=joinM (selM hM [0,2,1,3,4,5,6,7,8,9,10] 11 rfl)
   replace hM:MemL _ (r1707 :: pt b_B59_67 (encs ([(RPiece.mk x1682.table x1682.from_ s1690 s1697)]:List RPiece)) 156 :: pt b_B59_5 (RPiece.enc (RPiece.mk x1682.table x1682.from_ s1690 s1697)) 156 :: pt b_B59_3 (RMark.enc (RMark.mk v1628.at_ v1628.next v1628.done s1629 s1633 s1637 s1642)) 60 :: r1631 :: r1635 :: rowL 0 s1702 156 (hs1638 ++ [(RPiece.mk x1682.table x1682.from_ s1690 s1697)]) :: r1644 :: pt b_B59_2 (RMark.enc (RMark.mk 0 0 false SV.nil SV.nil SV.nil SV.nil)) 60 :: pt b_B59_1 (RMark.enc (RMark.mk x0.at_ x0.next x0.done s1 s3 s5 s9)) 60 :: Lr):=hM
   have q1710:Each (QPieceRm r1707.holds') (hs1638 ++ [(RPiece.mk x1682.table x1682.from_ s1690 s1697)]) x1703:=by rw [(app_some hx1703).2]; exact (q1641.mono fun _ _ q=>q.mono (fun w h=>hj1705 w (hj1708 w h))).snoc ⟨s1690,s1697,rfl,(f1693.mono (fun w h=>hj1706 w (hj1708 w h))),(f1700.mono hj1709)⟩
   replace hM:MemL _ (r1707 :: pt b_B59_67 (encs ([(RPiece.mk x1682.table x1682.from_ s1690 s1697)]:List RPiece)) 156 :: pt b_B59_5 (RPiece.enc (RPiece.mk x1682.table x1682.from_ s1690 s1697)) 156 :: pt b_B59_3 (RMark.enc (RMark.mk v1628.at_ v1628.next v1628.done s1629 s1633 s1637 s1642)) 60 :: r1631 :: r1635 :: rowL 0 s1702 156 (hs1638 ++ [(RPiece.mk x1682.table x1682.from_ s1690 s1697)]) :: r1644 :: pt b_B59_2 (RMark.enc (RMark.mk 0 0 false SV.nil SV.nil SV.nil SV.nil)) 60 :: pt b_B59_1 (RMark.enc (RMark.mk x0.at_ x0.next x0.done s1 s3 s5 s9)) 60 :: Lr):=hM
   intro a hF
   refine s_val hF (r_fieldAddr (off':=5) Tryz.underlying60 rfl in58 rfl hF rfl rfl rfl) rfl rfl rfl fun a hF=>?_
   refine s_eff0 rfl rfl (w_store1 Tryz.sizeOf58 (hM.obj (i:=3) rfl) hF rfl rfl rfl rfl (by rw [RMark.len]; decide) (RMark.s_pieces _ _) fun w hU1711=>?_)
   have hM:=hM.chg hU1711 (i:=3) rfl
   replace hM:MemL _ (r1707 :: pt b_B59_67 (encs ([(RPiece.mk x1682.table x1682.from_ s1690 s1697)]:List RPiece)) 156 :: pt b_B59_5 (RPiece.enc (RPiece.mk x1682.table x1682.from_ s1690 s1697)) 156 :: pt b_B59_3 (RMark.enc (RMark.mk v1628.at_ v1628.next v1628.done s1629 s1633 s1702 s1642)) 60 :: r1631 :: r1635 :: rowL 0 s1702 156 (hs1638 ++ [(RPiece.mk x1682.table x1682.from_ s1690 s1697)]) :: r1644 :: pt b_B59_2 (RMark.enc (RMark.mk 0 0 false SV.nil SV.nil SV.nil SV.nil)) 60 :: pt b_B59_1 (RMark.enc (RMark.mk x0.at_ x0.next x0.done s1 s3 s5 s9)) 60 :: Lr):=hM
   refine c_nil (n_block (n_then ?_))
   refine c_region ?_
   refine s_val hF (r_move hF rfl rfl) rfl rfl rfl fun a hF=>?_
   refine s_val hF (r_add hF rfl rfl rfl) rfl rfl rfl fun a hF=>?_
   refine s_val hF (r_assign hF rfl rfl) rfl rfl rfl fun a hF=>?_
   refine c_nil (n_then ?_)
   have hP:=Option.some.inj hP
   subst hP
   exact ⟨((QMark.mk v1628.at_ v1628.next v1628.done v1628.regs v1628.slots x1703 v1628.sent),(IntKind.i64.wrap (v1646 + 1))),rfl,s1629,r1631,s1633,r1635,s1702,(hs1638 ++ [(RPiece.mk x1682.table x1682.from_ s1690 s1697)]),r1707,s1642,r1644,f1632,f1636,q1710,f1645,hF.to ⟨rfl,rfl,rfl,rfl,trivial⟩,selM hM [3,4,5,6,0,7,8,9] 10 rfl⟩
  have hP:=Fx.cF hb1651 hP
  refine c_exit (x_then (x_then (x_hit ?_)))
  refine n_then ?_
  have hP:=Option.some.inj hP
  subst hP
  have hP:=hK_l5 _ rfl
  subst hP
  exact ⟨v1628,rfl,s1629,r1631,s1633,r1635,s1637,hs1638,r1640,s1642,r1644,f1632,f1636,q1641,f1645,hF.to ⟨rfl,rfl,rfl,trivial⟩,hM⟩
 rintro v1461 a w hP ⟨s1462,r1464,s1466,r1468,s1470,hs1471,r1473,s1475,r1477,f1465,f1469,q1474,f1478,hF,hM⟩
 replace hP:Sh.rm_lentMark_j4 x0 v1461 = _:=hP
 unfold Sh.rm_lentMark_j4 at hP
 refine n_then ?_
 refine c_seq ?_
 refine d_startT mixed (by kernel_rfl) hM [0,1,2,4,5,6,7] 8 rfl fun hch=>?_
 refine d_val hF hch 0 rfl (by kernel_rfl) rfl rfl rfl (fun w hM=>(r_fieldAddr (off':=5) Tryz.underlying60 rfl in58 rfl hF rfl rfl rfl)) fun a hF=>?_
 refine d_val hF hch 1 rfl (by kernel_rfl) rfl rfl rfl (fun w hM=>(r_load1 Tryz.isAgg58 hF rfl rfl (hM.cell (i:=0) rfl (RMark.g_pieces _)))) fun a hF=>?_
 refine d_val hF hch 2 rfl (by kernel_rfl) rfl rfl rfl (fun w hM=>(r_build z156 Tryz.underlying156 pl156 hF (parts:=[(1,.const (.int .i64 (-7)))]) rfl rfl (fill_s rfl rfl (by rw [RPiece.len]; decide) (RPiece.s_from_ _ _) fill_e))) fun a hF=>?_
 refine d_val hF hch 3 rfl (by kernel_rfl) rfl rfl rfl (fun w hM=>(r_build z156 Tryz.underlying156 pl156 hF (parts:=[(1,.const (.int .i64 (-8)))]) rfl rfl (fill_s rfl rfl (by rw [RPiece.len]; decide) (RPiece.s_from_ _ _) fill_e))) fun a hF=>?_
 refine d_val hF hch 6 rfl (by kernel_rfl) rfl rfl rfl (fun w hM=>(r_fieldAddr (off':=5) Tryz.underlying60 rfl in58 rfl hF rfl rfl rfl)) fun a hF=>?_
 refine d_val hF hch 7 rfl (by kernel_rfl) rfl rfl rfl (fun w hM=>(r_load1 Tryz.isAgg58 hF rfl rfl (hM.cell (i:=6) rfl (RMark.g_pieces _)))) fun a hF=>?_
 refine d_val hF hch 8 rfl (by kernel_rfl) rfl rfl rfl (fun w hM=>(r_lenD (f7 _ (hsub _ (dropM hM 7))) q8.len Tryz.underlying58 hF rfl rfl)) fun a hF=>?_
 refine d_one hch 4 (by kernel_rfl) rfl rfl ?_
 refine d_ex hF 4 rfl rfl rfl rfl rfl fun w hMs hM=>?_
 refine (w_sliceN (X:=RPiece) (ys:=[(RPiece.mk 0 (-7) SV.nil SV.nil),(RPiece.mk 0 (-8) SV.nil SV.nil)]) (m:=2) Tryz.underlying58 in156 rfl rfl rfl rfl (by decide) (by decide) hF rfl rfl (PartsE.cons rfl (PartsE.cons rfl PartsE.nil)) fun b_B59_74 w hzB59_74 hAB59_74=>?_)
 have hM:=hM.plus hAB59_74
 replace hM:MemL _ (pt b_B59_74 (encs ([(RPiece.mk 0 (-7) SV.nil SV.nil),(RPiece.mk 0 (-8) SV.nil SV.nil)]:List RPiece)) 156 :: pt b_B59_3 (RMark.enc (RMark.mk v1461.at_ v1461.next v1461.done s1462 s1466 s1470 s1475)) 60 :: r1464 :: r1468 :: rowL 0 s1470 156 hs1471 :: r1473 :: r1477 :: pt b_B59_2 (RMark.enc (RMark.mk 0 0 false SV.nil SV.nil SV.nil SV.nil)) 60 :: pt b_B59_1 (RMark.enc (RMark.mk x0.at_ x0.next x0.done s1 s3 s5 s9)) 60 :: Lr):=hM
 have hMs:=selM hM [0,1,2,3,5,6,7,8] 9 rfl
 refine ⟨_,_,hMs,hM,.inl fun _ h=>dropM h 1,fun a hF=>?_⟩
 refine d_one hch 5 (by kernel_rfl) rfl rfl ?_
 refine d_ex hF 5 rfl rfl rfl rfl rfl fun w hMs hM=>?_
 obtain ⟨x1721,hx1721,hP⟩:=bind_some hP
 refine (w_appD (X:=RPiece) hx1721 q1474.len rfl Tryz.underlying58 in156 rfl rfl rfl rfl hF rfl rfl rfl (hM.own (X:=RPiece) (i:=4) rfl) (hM.ptS (X:=RPiece) (i:=0) (n:=2) (c:=2) rfl rfl rfl (Nat.le_refl _)) fun s1720 w hUs1720=>?_)
 have hM:=hM.chg hUs1720 (i:=4) rfl
 have hQs1720:=hM.rowS (X:=RPiece) (i:=4) rfl
 replace hM:MemL _ (pt b_B59_74 (encs ([(RPiece.mk 0 (-7) SV.nil SV.nil),(RPiece.mk 0 (-8) SV.nil SV.nil)]:List RPiece)) 156 :: pt b_B59_3 (RMark.enc (RMark.mk v1461.at_ v1461.next v1461.done s1462 s1466 s1470 s1475)) 60 :: r1464 :: r1468 :: rowL 0 s1720 156 (hs1471 ++ [(RPiece.mk 0 (-7) SV.nil SV.nil),(RPiece.mk 0 (-8) SV.nil SV.nil)]) :: r1473 :: r1477 :: pt b_B59_2 (RMark.enc (RMark.mk 0 0 false SV.nil SV.nil SV.nil SV.nil)) 60 :: pt b_B59_1 (RMark.enc (RMark.mk x0.at_ x0.next x0.done s1 s3 s5 s9)) 60 :: Lr):=hM
 have hMs:=selM hM [0,1,2,3,5,6,7,8] 9 rfl
 refine ⟨_,_,hMs,hM,.inl fun _ h=>h,fun a hF=>?_⟩
 obtain ⟨x1722,hx1722,hP⟩:=bind_some hP
 obtain ⟨hy1724,hc1725,f1723⟩:=rm_rowD (X:=RPiece) (s:=s1720) (e:=156) (hsp:=hspPiece) (sz:=4) q1474.len (app_some hx1721).2 rfl rfl hx1722 rfl
 have q1726:Each (QPieceRm r1473.holds') hs1471 x1722:=by rw [hy1724]; exact q1474
 refine d_val hF hch 9 rfl (by kernel_rfl) rfl rfl rfl (fun w hM=>(r_cutZ (X:=RPiece) hQs1720 hc1725 Tryz.underlying58 in156 rfl hF rfl rfl (.inl ⟨rfl,rfl⟩) (.inr ⟨_,_,rfl,rfl⟩))) fun a hF=>?_
 refine d_val hF hch 10 rfl (by kernel_rfl) rfl rfl rfl (fun w hM=>(r_fieldAddr (off':=5) Tryz.underlying60 rfl in58 rfl hF rfl rfl rfl)) fun a hF=>?_
 refine d_one hch 11 (by kernel_rfl) rfl rfl ?_
 refine d_ex0 11 rfl rfl rfl rfl fun w hMs hM=>?_
 refine (w_store1 Tryz.sizeOf58 (hM.obj (i:=1) rfl) hF rfl rfl rfl rfl (by rw [RMark.len]; decide) (RMark.s_pieces _ _) fun w hU1727=>?_)
 have hM:=hM.chg hU1727 (i:=1) rfl
 replace hM:MemL _ (pt b_B59_74 (encs ([(RPiece.mk 0 (-7) SV.nil SV.nil),(RPiece.mk 0 (-8) SV.nil SV.nil)]:List RPiece)) 156 :: pt b_B59_3 (RMark.enc (RMark.mk v1461.at_ v1461.next v1461.done s1462 s1466 (s1720.cut (0:Int).toNat ((x0.pieces.length:Int):Int).toNat 4) s1475)) 60 :: r1464 :: r1468 :: rowL 0 s1720 156 (hs1471 ++ [(RPiece.mk 0 (-7) SV.nil SV.nil),(RPiece.mk 0 (-8) SV.nil SV.nil)]) :: r1473 :: r1477 :: pt b_B59_2 (RMark.enc (RMark.mk 0 0 false SV.nil SV.nil SV.nil SV.nil)) 60 :: pt b_B59_1 (RMark.enc (RMark.mk x0.at_ x0.next x0.done s1 s3 s5 s9)) 60 :: Lr):=hM
 have hMs:=selM hM [0,1,2,3,5,6,7,8] 9 rfl
 refine ⟨_,_,hMs,hM,.inr (by kernel_rfl),?_⟩
 refine d_end hch (by kernel_rfl) fun w hM=>?_
 refine n_then ?_
 refine c_seq ?_
 refine c_region ?_
 refine s_val hF (r_loadn Tryz.isAgg60 Tryz.sizeOf60 hF rfl rfl (RMark.len _) (hM.cells (i:=1) rfl (cut_all (RMark.len _)))) rfl rfl rfl fun a hF=>?_
 refine s_eff0 rfl rfl (w_storen (vs:=_) Tryz.sizeOf60 (hM.obj (i:=7) rfl) hF rfl rfl rfl rfl (RMark.len _) (RMark.one _) (by first | (rw [RMark.len,RMark.len]; decide) | (rw [RMark.len]; decide)) (put_all ((RMark.len _).trans (RMark.len _).symm)) fun w hU1728=>?_)
 have hM:=hM.chg hU1728 (i:=7) rfl
 replace hM:MemL _ (pt b_B59_74 (encs ([(RPiece.mk 0 (-7) SV.nil SV.nil),(RPiece.mk 0 (-8) SV.nil SV.nil)]:List RPiece)) 156 :: pt b_B59_3 (RMark.enc (RMark.mk v1461.at_ v1461.next v1461.done s1462 s1466 (s1720.cut (0:Int).toNat ((x0.pieces.length:Int):Int).toNat 4) s1475)) 60 :: r1464 :: r1468 :: rowL 0 s1720 156 (hs1471 ++ [(RPiece.mk 0 (-7) SV.nil SV.nil),(RPiece.mk 0 (-8) SV.nil SV.nil)]) :: r1473 :: r1477 :: pt b_B59_2 (RMark.enc (RMark.mk v1461.at_ v1461.next v1461.done s1462 s1466 (s1720.cut (0:Int).toNat ((x0.pieces.length:Int):Int).toNat 4) s1475)) 60 :: pt b_B59_1 (RMark.enc (RMark.mk x0.at_ x0.next x0.done s1 s3 s5 s9)) 60 :: Lr):=hM
 refine c_nil (n_then ?_)
 refine c_ret ?_
 replace hM:MemL _ (pt b_B59_74 (encs ([(RPiece.mk 0 (-7) SV.nil SV.nil),(RPiece.mk 0 (-8) SV.nil SV.nil)]:List RPiece)) 156 :: pt b_B59_3 (RMark.enc (RMark.mk v1461.at_ v1461.next v1461.done s1462 s1466 (s1720.cut (0:Int).toNat ((x0.pieces.length:Int):Int).toNat 4) s1475)) 60 :: r1464 :: r1468 :: rowL 0 s1720 156 (hs1471 ++ [(RPiece.mk 0 (-7) SV.nil SV.nil),(RPiece.mk 0 (-8) SV.nil SV.nil)]) :: r1473 :: r1477 :: pt b_B59_2 (RMark.enc (RMark.mk v1461.at_ v1461.next v1461.done s1462 s1466 (s1720.cut (0:Int).toNat ((x0.pieces.length:Int):Int).toNat 4) s1475)) 60 :: pt b_B59_1 (RMark.enc (RMark.mk x0.at_ x0.next x0.done s1 s3 s5 s9)) 60 :: Lr):=hM
 obtain ⟨r1729,hj1730,hj1731,hM⟩:=joinM (selM hM [4,5,0,1,2,3,6,7,8] 9 rfl)
 replace hM:MemL _ (r1729 :: pt b_B59_74 (encs ([(RPiece.mk 0 (-7) SV.nil SV.nil),(RPiece.mk 0 (-8) SV.nil SV.nil)]:List RPiece)) 156 :: pt b_B59_3 (RMark.enc (RMark.mk v1461.at_ v1461.next v1461.done s1462 s1466 (s1720.cut (0:Int).toNat ((x0.pieces.length:Int):Int).toNat 4) s1475)) 60 :: r1464 :: r1468 :: r1477 :: pt b_B59_2 (RMark.enc (RMark.mk v1461.at_ v1461.next v1461.done s1462 s1466 (s1720.cut (0:Int).toNat ((x0.pieces.length:Int):Int).toNat 4) s1475)) 60 :: pt b_B59_1 (RMark.enc (RMark.mk x0.at_ x0.next x0.done s1 s3 s5 s9)) 60 :: Lr):=hM
 have f1733:LRm r1729.holds' (s1720.cut (0:Int).toNat ((x0.pieces.length:Int):Int).toNat 4) hs1471 hspPiece:=LRm.mono f1723 hj1730
 have q1732:Each (QPieceRm r1729.holds') hs1471 x1722:=q1726.mono fun _ _ q=>q.mono hj1731
 have hP:=Option.some.inj hP
 subst hP
 refine e_ret (rs:=[.cell 2 60]) Tryz.results59 hF (res_celln hF rfl Tryz.isAgg60 Tryz.sizeOf60 (RMark.len _) (hM.cells (i:=6) rfl (cut_all (RMark.len _))) res_nil) rfl ?_
 exact ⟨s1462,r1464,s1466,r1468,(s1720.cut (0:Int).toNat ((x0.pieces.length:Int):Int).toNat 4),hs1471,r1729,s1475,r1477,rfl,f1465,f1469,f1733,q1732,f1478,selM hM [3,4,0,5] 8 rfl⟩
set_option maxHeartbeats 4000000 in
theorem rm_lent_calls {x0:QRecord} {s1:SV} {s3:SV} {hs4:List SV} {s7:SV} {hs8:List RMark} {out:QRecord} {w0:World} {Bf:World → Prop} {Lr:List Res} (hP:Sh.rm_lent x0 = some out) (hM:MemL w0 (Lr)) (hsub:∀ w,MemL w Lr → Bf w) (f2:LIn Bf s1 x0.in_.ctx) (f5:LIn Bf s3 hs4) (q6:Each (LIn (X:=UInt8) Bf) hs4 x0.in_.tables) (f9:LIn Bf s7 hs8) (q10:Each (QMarkIn Bf) hs8 x0.marks):Calls Tryz.prog 35 #[.agg (RRecord.enc (RRecord.mk (RInput.mk s1 s3) s7 x0.end_)).toArray] w0 (Ret fun v w'=>∃ (s1411:SV) (r1413:Res) (s1415:SV) (hs1416:List SV) (r1418:Res) (s1420:SV) (hs1421:List RMark) (r1423:Res),v = .agg (RRecord.enc (RRecord.mk (RInput.mk s1411 s1415) s1420 out.end_)).toArray ∧ LRm r1413.holds' s1411 out.in_.ctx spU8 ∧ Each (BytesRm r1418.holds') hs1416 out.in_.tables ∧ LRm r1423.holds' s1420 hs1421 hspMark ∧ Each (QMarkRm r1423.holds') hs1421 out.marks ∧ MemL w' (r1413 :: rowL 0 s1415 23 hs1416 :: r1418 :: r1423 :: Lr)):=by
 unfold Sh.rm_lent at hP
 refine calls_enter (vs:=[.agg (RRecord.enc (RRecord.mk (RInput.mk s1 s3) s7 x0.end_)).toArray]) Tryz.func35 rfl Tryz.ntmps35 rfl fun a hF=>?_
 refine c_seq ?_
 refine c_region ?_
 refine s_eff hF rfl rfl rfl (w_box hF rfl rfl rfl fun b_B35_1 w hzB35_1 hAB35_1=>?_)
 have hM:=hM.plus hAB35_1
 replace hM:MemL _ (pt b_B35_1 (RRecord.enc (RRecord.mk (RInput.mk s1 s3) s7 x0.end_)) 36 :: Lr):=hM
 intro a hF
 refine s_eff hF rfl rfl rfl (w_alloc z36 (zs:=RRecord.zero.enc) rfl rfl fun b_B35_2 w hzB35_2 hAB35_2=>?_)
 have hM:=hM.plus hAB35_2
 replace hM:MemL _ (pt b_B35_2 (RRecord.enc (RRecord.mk (RInput.mk SV.nil SV.nil) SV.nil 0)) 36 :: pt b_B35_1 (RRecord.enc (RRecord.mk (RInput.mk s1 s3) s7 x0.end_)) 36 :: Lr):=hM
 intro a hF
 refine c_nil (n_then ?_)
 refine c_seq ?_
 refine c_region ?_
 refine s_val hF (r_fieldAddr (off':=3) Tryz.underlying36 rfl in34 rfl hF rfl rfl rfl) rfl rfl rfl fun a hF=>?_
 refine s_val hF (r_load1 Tryz.isAgg34 hF rfl rfl (hM.cell (i:=1) rfl (RRecord.g_end_ _))) rfl rfl rfl fun a hF=>?_
 refine s_val hF (r_build z36 Tryz.underlying36 pl36 hF (parts:=[(2,.tmp 7)]) rfl rfl (fill_s rfl rfl (by rw [RRecord.len]; decide) (RRecord.s_end_ _ _) fill_e)) rfl rfl rfl fun a hF=>?_
 refine s_eff hF rfl rfl rfl (w_alloc z36 (zs:=RRecord.zero.enc) rfl rfl fun b_B35_3 w hzB35_3 hAB35_3=>?_)
 have hM:=hM.plus hAB35_3
 replace hM:MemL _ (pt b_B35_3 (RRecord.enc (RRecord.mk (RInput.mk SV.nil SV.nil) SV.nil 0)) 36 :: pt b_B35_2 (RRecord.enc (RRecord.mk (RInput.mk SV.nil SV.nil) SV.nil 0)) 36 :: pt b_B35_1 (RRecord.enc (RRecord.mk (RInput.mk s1 s3) s7 x0.end_)) 36 :: Lr):=hM
 intro a hF
 refine s_eff0 rfl rfl (w_storen (vs:=_) Tryz.sizeOf36 (hM.obj (i:=0) rfl) hF rfl rfl rfl rfl (RRecord.len _) (RRecord.one _) (by first | (rw [RRecord.len,RRecord.len]; decide) | (rw [RRecord.len]; decide)) (put_all ((RRecord.len _).trans (RRecord.len _).symm)) fun w hU1426=>?_)
 have hM:=hM.chg hU1426 (i:=0) rfl
 replace hM:MemL _ (pt b_B35_3 (RRecord.enc (RRecord.mk (RInput.mk SV.nil SV.nil) SV.nil x0.end_)) 36 :: pt b_B35_2 (RRecord.enc (RRecord.mk (RInput.mk SV.nil SV.nil) SV.nil 0)) 36 :: pt b_B35_1 (RRecord.enc (RRecord.mk (RInput.mk s1 s3) s7 x0.end_)) 36 :: Lr):=hM
 refine c_nil (n_then ?_)
 refine c_seq ?_
 refine c_region ?_
 refine s_val hF (r_fieldAddr (off':=0) Tryz.underlying36 rfl in30 rfl hF rfl rfl rfl) rfl rfl rfl fun a hF=>?_
 refine s_val hF (r_fieldAddr (off':=0) Tryz.underlying30 rfl in23 rfl hF rfl rfl rfl) rfl rfl rfl fun a hF=>?_
 refine s_val hF (r_load1 Tryz.isAgg23 hF rfl rfl ((hM.cells (i:=2) rfl (RRecord.c_in_ _)).get 0 (RInput.g_ctx _))) rfl rfl rfl fun a hF=>?_
 obtain ⟨y1428,hy1428,hP⟩:=bind_some hP
 refine s_eff hF rfl rfl rfl (w_call (xs:=[.tmp 11]) Tryz.call90 hF rfl rfl (rm_roomy_calls hy1428 hM (Bf:=Bf) (fun w hM=>hsub _ (dropM hM 3)) f2) fun v w hR=>?_)
 obtain ⟨s1429,r1431,rfl,f1432,hM⟩:=hR
 replace hM:MemL _ (r1431 :: pt b_B35_3 (RRecord.enc (RRecord.mk (RInput.mk SV.nil SV.nil) SV.nil x0.end_)) 36 :: pt b_B35_2 (RRecord.enc (RRecord.mk (RInput.mk SV.nil SV.nil) SV.nil 0)) 36 :: pt b_B35_1 (RRecord.enc (RRecord.mk (RInput.mk s1 s3) s7 x0.end_)) 36 :: Lr):=hM
 intro a hF
 refine s_val hF (r_fieldAddr (off':=0) Tryz.underlying36 rfl in30 rfl hF rfl rfl rfl) rfl rfl rfl fun a hF=>?_
 refine s_val hF (r_fieldAddr (off':=0) Tryz.underlying30 rfl in23 rfl hF rfl rfl rfl) rfl rfl rfl fun a hF=>?_
 refine s_eff0 rfl rfl (w_store1 Tryz.sizeOf23 (hM.obj (i:=1) rfl) hF rfl rfl rfl rfl (by rw [RRecord.len]; decide) (set_deep (RRecord.c_in_ _) (RInput.s_ctx _ _) (RRecord.p_in_ _ _) (by rw [RRecord.len]; decide) (by decide)) fun w hU1433=>?_)
 have hM:=hM.chg hU1433 (i:=1) rfl
 replace hM:MemL _ (r1431 :: pt b_B35_3 (RRecord.enc (RRecord.mk (RInput.mk s1429 SV.nil) SV.nil x0.end_)) 36 :: pt b_B35_2 (RRecord.enc (RRecord.mk (RInput.mk SV.nil SV.nil) SV.nil 0)) 36 :: pt b_B35_1 (RRecord.enc (RRecord.mk (RInput.mk s1 s3) s7 x0.end_)) 36 :: Lr):=hM
 refine c_nil (n_then ?_)
 refine c_seq ?_
 refine c_joinX hF hM hP (fun F x a w=>match x with | v1676=>∃ (s1677:SV) (r1679:Res) (s1681:SV) (hs1682:List SV) (r1684:Res),LRm r1679.holds' s1677 v1676.ctx spU8 ∧ Each (BytesRm r1684.holds') hs1682 v1676.tables ∧ Fr 67 [(1,.pointer (some ⟨b_B35_1,0,none⟩)),(2,.pointer (some ⟨b_B35_2,0,none⟩)),(3,.pointer (some ⟨b_B35_3,0,none⟩))] a ∧ MemL w (pt b_B35_3 (RRecord.enc (RRecord.mk (RInput.mk s1677 s1681) SV.nil x0.end_)) 36 :: r1679 :: rowL 0 s1681 23 hs1682 :: r1684 :: pt b_B35_2 (RRecord.enc (RRecord.mk (RInput.mk SV.nil SV.nil) SV.nil 0)) 36 :: pt b_B35_1 (RRecord.enc (RRecord.mk (RInput.mk s1 s3) s7 x0.end_)) 36 :: Lr)) (fun o_j1 hP hK_j1 hF hM=>?_) ?_
 ·refine c_seq ?_
  refine c_region ?_
  refine s_val hF (r_assign hF rfl rfl) rfl rfl rfl fun a hF=>?_
  refine c_nil (n_then ?_)
  refine c_block ?_
  obtain ⟨r1775,hM⟩:=voidM hM
  have q1776:Each (BytesRm r1775.holds') ([]:List SV) ([]:List (List UInt8)):=Each.nil
  have hM:=hM.rowNil (X:=SV) 0 23
  refine c_loopX hF hM hP (fun F x a w=>match x with | (v1763,v1773)=>∃ (s1764:SV) (r1766:Res) (s1768:SV) (hs1769:List SV) (r1771:Res),LRm r1766.holds' s1764 v1763.ctx spU8 ∧ Each (BytesRm r1771.holds') hs1769 v1763.tables ∧ Fr 67 [(4,.int .i64 v1773),(1,.pointer (some ⟨b_B35_1,0,none⟩)),(2,.pointer (some ⟨b_B35_2,0,none⟩)),(3,.pointer (some ⟨b_B35_3,0,none⟩))] a ∧ MemL w (pt b_B35_3 (RRecord.enc (RRecord.mk (RInput.mk s1764 s1768) SV.nil x0.end_)) 36 :: r1766 :: rowL 0 s1768 23 hs1769 :: r1771 :: pt b_B35_2 (RRecord.enc (RRecord.mk (RInput.mk SV.nil SV.nil) SV.nil 0)) 36 :: pt b_B35_1 (RRecord.enc (RRecord.mk (RInput.mk s1 s3) s7 x0.end_)) 36 :: Lr)) (fun hF hM=>⟨s1429,r1431,SV.nil,[],r1775,f1432,q1776,hF.to ⟨rfl,rfl,rfl,rfl,trivial⟩,selM hM [3,2,0,1,4,5] 6 rfl⟩) ?_
  rintro ⟨v1763,v1773⟩ a w o_l2 hP hK_l2 ⟨s1764,r1766,s1768,hs1769,r1771,f1767,q1772,hF,hM⟩
  replace hP:Sh.rm_lent_l2 x0 v1763 v1773 = _:=hP
  unfold Sh.rm_lent_l2 at hP
  refine c_seq ?_
  refine c_seq ?_
  refine c_region ?_
  refine s_val hF (r_move hF rfl rfl) rfl rfl rfl fun a hF=>?_
  refine s_val hF (r_fieldAddr (off':=0) Tryz.underlying36 rfl in30 rfl hF rfl rfl rfl) rfl rfl rfl fun a hF=>?_
  refine s_val hF (r_fieldAddr (off':=1) Tryz.underlying30 rfl in28 rfl hF rfl rfl rfl) rfl rfl rfl fun a hF=>?_
  refine s_val hF (r_load1 Tryz.isAgg28 hF rfl rfl ((hM.cells (i:=5) rfl (RRecord.c_in_ _)).get 1 (RInput.g_tables _))) rfl rfl rfl fun a hF=>?_
  refine s_val hF (r_lenD (f5 _ (hsub _ (dropM hM 6))) q6.len Tryz.underlying28 hF rfl rfl) rfl rfl rfl fun a hF=>?_
  refine s_val hF (r_lss hF rfl rfl rfl) rfl rfl rfl fun a hF=>?_
  refine c_nil (n_then ?_)
  refine c_cond hF (c:=.tmp 20) rfl (fun hb1778=>?_) (fun hb1778=>?_)
  ·have hP:=Fx.cT hb1778 hP
   refine c_skip (n_then ?_)
   refine c_seq ?_
   refine c_block ?_
   refine d_startT mixed (by kernel_rfl) hM [0,1,2,3,4,5] 6 rfl fun hch=>?_
   refine d_val hF hch 0 rfl (by kernel_rfl) rfl rfl rfl (fun w hM=>(r_fieldAddr (off':=0) Tryz.underlying36 rfl in30 rfl hF rfl rfl rfl)) fun a hF=>?_
   refine d_val hF hch 1 rfl (by kernel_rfl) rfl rfl rfl (fun w hM=>(r_fieldAddr (off':=1) Tryz.underlying30 rfl in28 rfl hF rfl rfl rfl)) fun a hF=>?_
   refine d_val hF hch 2 rfl (by kernel_rfl) rfl rfl rfl (fun w hM=>(r_load1 Tryz.isAgg28 hF rfl rfl ((hM.cells (i:=0) rfl (RRecord.c_in_ _)).get 1 (RInput.g_tables _)))) fun a hF=>?_
   refine d_val hF hch 3 rfl (by kernel_rfl) rfl rfl rfl (fun w hM=>(r_fieldAddr (off':=0) Tryz.underlying36 rfl in30 rfl hF rfl rfl rfl)) fun a hF=>?_
   refine d_val hF hch 4 rfl (by kernel_rfl) rfl rfl rfl (fun w hM=>(r_fieldAddr (off':=1) Tryz.underlying30 rfl in28 rfl hF rfl rfl rfl)) fun a hF=>?_
   refine d_val hF hch 5 rfl (by kernel_rfl) rfl rfl rfl (fun w hM=>(r_load1 Tryz.isAgg28 hF rfl rfl ((hM.cells (i:=5) rfl (RRecord.c_in_ _)).get 1 (RInput.g_tables _)))) fun a hF=>?_
   refine d_val hF hch 6 rfl (by kernel_rfl) rfl rfl rfl (fun w hM=>(r_move hF rfl rfl)) fun a hF=>?_
   obtain ⟨x1793,hx1793,hP⟩:=bind_some hP
   have h0x1793:=get_some hx1793
   obtain ⟨yx1793,hgx1793,hrx1793⟩:=Each.getr q6 h0x1793.2
   have hdx1793:=Each.bd q6 (get_bd hx1793)
   refine d_val hF hch 7 rfl (by kernel_rfl) rfl rfl rfl (fun w hM=>(r_indexZ (sz:=1) (f5 _ (hsub _ (dropM hM 6))) Tryz.underlying28 in23 rfl hF rfl rfl rfl hdx1793)) fun a hF=>?_
   refine d_val hF hch 8 rfl (by kernel_rfl) rfl rfl rfl (fun w hM=>(r_load1 Tryz.isAgg23 hF rfl rfl ((((f5 _ (hsub _ (dropM hM 6))).elemS hgx1793)).get 0 rfl))) fun a hF=>?_
   refine d_one hch 9 (by kernel_rfl) rfl rfl ?_
   refine d_ex hF 9 rfl rfl rfl rfl rfl fun w hMs hM=>?_
   obtain ⟨y1795,hy1795,hP⟩:=bind_some hP
   refine (w_call (xs:=[.tmp 31]) Tryz.call90 hF rfl rfl (rm_roomy_calls hy1795 hM (Bf:=Bf) (fun w hM=>hsub _ (dropM hM 6)) hrx1793) fun v w hR=>?_)
   obtain ⟨s1796,r1798,rfl,f1799,hM⟩:=hR
   replace hM:MemL _ (r1798 :: pt b_B35_3 (RRecord.enc (RRecord.mk (RInput.mk s1764 s1768) SV.nil x0.end_)) 36 :: r1766 :: rowL 0 s1768 23 hs1769 :: r1771 :: pt b_B35_2 (RRecord.enc (RRecord.mk (RInput.mk SV.nil SV.nil) SV.nil 0)) 36 :: pt b_B35_1 (RRecord.enc (RRecord.mk (RInput.mk s1 s3) s7 x0.end_)) 36 :: Lr):=hM
   have hMs:=selM hM [0,1,2,3,4,5,6] 7 rfl
   refine ⟨_,_,hMs,hM,.inl fun _ h=>dropM h 1,fun a hF=>?_⟩
   refine d_one hch 10 (by kernel_rfl) rfl rfl ?_
   refine d_ex hF 10 rfl rfl rfl rfl rfl fun w hMs hM=>?_
   refine (w_slice1 (X:=SV) (y:=s1796) Tryz.underlying28 in23 rfl rfl rfl rfl hF rfl rfl rfl fun b_B35_33 w hzB35_33 hAB35_33=>?_)
   have hM:=hM.plus hAB35_33
   replace hM:MemL _ (pt b_B35_33 (encs ([s1796]:List SV)) 23 :: r1798 :: pt b_B35_3 (RRecord.enc (RRecord.mk (RInput.mk s1764 s1768) SV.nil x0.end_)) 36 :: r1766 :: rowL 0 s1768 23 hs1769 :: r1771 :: pt b_B35_2 (RRecord.enc (RRecord.mk (RInput.mk SV.nil SV.nil) SV.nil 0)) 36 :: pt b_B35_1 (RRecord.enc (RRecord.mk (RInput.mk s1 s3) s7 x0.end_)) 36 :: Lr):=hM
   have hMs:=selM hM [0,1,2,3,4,5,6,7] 8 rfl
   refine ⟨_,_,hMs,hM,.inl fun _ h=>dropM h 1,fun a hF=>?_⟩
   refine d_one hch 11 (by kernel_rfl) rfl rfl ?_
   refine d_ex hF 11 rfl rfl rfl rfl rfl fun w hMs hM=>?_
   obtain ⟨x1801,hx1801,hP⟩:=bind_some hP
   refine (w_appD (X:=SV) hx1801 q1772.len rfl Tryz.underlying28 in23 rfl rfl rfl rfl hF rfl rfl rfl (hM.own (X:=SV) (i:=4) rfl) (hM.ptS (X:=SV) (i:=0) (n:=1) (c:=1) rfl rfl rfl (Nat.le_refl _)) fun s1800 w hUs1800=>?_)
   have hM:=hM.chg hUs1800 (i:=4) rfl
   replace hM:MemL _ (pt b_B35_33 (encs ([s1796]:List SV)) 23 :: r1798 :: pt b_B35_3 (RRecord.enc (RRecord.mk (RInput.mk s1764 s1768) SV.nil x0.end_)) 36 :: r1766 :: rowL 0 s1800 23 (hs1769 ++ [s1796]) :: r1771 :: pt b_B35_2 (RRecord.enc (RRecord.mk (RInput.mk SV.nil SV.nil) SV.nil 0)) 36 :: pt b_B35_1 (RRecord.enc (RRecord.mk (RInput.mk s1 s3) s7 x0.end_)) 36 :: Lr):=hM
   obtain ⟨r1802,hj1803,hj1804,hM⟩:=joinM (selM hM [5,1,0,2,3,4,6,7] 8 rfl)
   replace hM:MemL _ (r1802 :: pt b_B35_33 (encs ([s1796]:List SV)) 23 :: pt b_B35_3 (RRecord.enc (RRecord.mk (RInput.mk s1764 s1768) SV.nil x0.end_)) 36 :: r1766 :: rowL 0 s1800 23 (hs1769 ++ [s1796]) :: pt b_B35_2 (RRecord.enc (RRecord.mk (RInput.mk SV.nil SV.nil) SV.nil 0)) 36 :: pt b_B35_1 (RRecord.enc (RRecord.mk (RInput.mk s1 s3) s7 x0.end_)) 36 :: Lr):=hM
   have q1805:Each (BytesRm r1802.holds') (hs1769 ++ [s1796]) x1801:=by rw [(app_some hx1801).2]; exact (q1772.mono fun _ _ q=>q.mono hj1803).snoc (f1799.mono hj1804)
   replace hM:MemL _ (r1802 :: pt b_B35_33 (encs ([s1796]:List SV)) 23 :: pt b_B35_3 (RRecord.enc (RRecord.mk (RInput.mk s1764 s1768) SV.nil x0.end_)) 36 :: r1766 :: rowL 0 s1800 23 (hs1769 ++ [s1796]) :: pt b_B35_2 (RRecord.enc (RRecord.mk (RInput.mk SV.nil SV.nil) SV.nil 0)) 36 :: pt b_B35_1 (RRecord.enc (RRecord.mk (RInput.mk s1 s3) s7 x0.end_)) 36 :: Lr):=hM
   have hMs:=hM
   refine ⟨_,_,hMs,hM,.inr (by kernel_rfl),fun a hF=>?_⟩
   refine d_val hF hch 12 rfl (by kernel_rfl) rfl rfl rfl (fun w hM=>(r_fieldAddr (off':=0) Tryz.underlying36 rfl in30 rfl hF rfl rfl rfl)) fun a hF=>?_
   refine d_val hF hch 13 rfl (by kernel_rfl) rfl rfl rfl (fun w hM=>(r_fieldAddr (off':=1) Tryz.underlying30 rfl in28 rfl hF rfl rfl rfl)) fun a hF=>?_
   refine d_one hch 14 (by kernel_rfl) rfl rfl ?_
   refine d_ex0 14 rfl rfl rfl rfl fun w hMs hM=>?_
   refine (w_store1 Tryz.sizeOf28 (hM.obj (i:=2) rfl) hF rfl rfl rfl rfl (by rw [RRecord.len]; decide) (set_deep (RRecord.c_in_ _) (RInput.s_tables _ _) (RRecord.p_in_ _ _) (by rw [RRecord.len]; decide) (by decide)) fun w hU1806=>?_)
   have hM:=hM.chg hU1806 (i:=2) rfl
   replace hM:MemL _ (r1802 :: pt b_B35_33 (encs ([s1796]:List SV)) 23 :: pt b_B35_3 (RRecord.enc (RRecord.mk (RInput.mk s1764 s1800) SV.nil x0.end_)) 36 :: r1766 :: rowL 0 s1800 23 (hs1769 ++ [s1796]) :: pt b_B35_2 (RRecord.enc (RRecord.mk (RInput.mk SV.nil SV.nil) SV.nil 0)) 36 :: pt b_B35_1 (RRecord.enc (RRecord.mk (RInput.mk s1 s3) s7 x0.end_)) 36 :: Lr):=hM
   have hMs:=hM
   refine ⟨_,_,hMs,hM,.inr (by kernel_rfl),?_⟩
   refine d_end hch (by kernel_rfl) fun w hM=>?_
   refine n_block (n_then ?_)
   refine c_region ?_
   refine s_val hF (r_move hF rfl rfl) rfl rfl rfl fun a hF=>?_
   refine s_val hF (r_add hF rfl rfl rfl) rfl rfl rfl fun a hF=>?_
   refine s_val hF (r_assign hF rfl rfl) rfl rfl rfl fun a hF=>?_
   refine c_nil (n_then ?_)
   have hP:=Option.some.inj hP
   subst hP
   exact ⟨((QInput.mk v1763.ctx x1801),(IntKind.i64.wrap (v1773 + 1))),rfl,s1764,r1766,s1800,(hs1769 ++ [s1796]),r1802,f1767,q1805,hF.to ⟨rfl,rfl,rfl,rfl,trivial⟩,selM hM [2,3,4,0,5,6] 7 rfl⟩
  have hP:=Fx.cF hb1778 hP
  refine c_exit (x_then (x_then (x_hit ?_)))
  refine n_then ?_
  have hP:=Option.some.inj hP
  subst hP
  have hP:=hK_l2 _ rfl
  subst hP
  exact ⟨v1763,rfl,s1764,r1766,s1768,hs1769,r1771,f1767,q1772,hF.to ⟨rfl,rfl,rfl,trivial⟩,hM⟩
 rintro v1676 a w hP ⟨s1677,r1679,s1681,hs1682,r1684,f1680,q1685,hF,hM⟩
 replace hP:Sh.rm_lent_j1 x0 v1676 = _:=hP
 unfold Sh.rm_lent_j1 at hP
 refine n_then ?_
 refine c_seq ?_
 refine c_joinX hF hM hP (fun F x a w=>match x with | v2465=>∃ (s2466:SV) (r2468:Res) (s2470:SV) (hs2471:List SV) (r2473:Res) (s2475:SV) (hs2476:List RMark) (r2478:Res),LRm r2468.holds' s2466 v2465.in_.ctx spU8 ∧ Each (BytesRm r2473.holds') hs2471 v2465.in_.tables ∧ Each (QMarkRm r2478.holds') hs2476 v2465.marks ∧ Fr 67 [(1,.pointer (some ⟨b_B35_1,0,none⟩)),(2,.pointer (some ⟨b_B35_2,0,none⟩)),(3,.pointer (some ⟨b_B35_3,0,none⟩))] a ∧ MemL w (pt b_B35_3 (RRecord.enc (RRecord.mk (RInput.mk s2466 s2470) s2475 v2465.end_)) 36 :: r2468 :: rowL 0 s2470 23 hs2471 :: r2473 :: rowL 0 s2475 60 hs2476 :: r2478 :: pt b_B35_2 (RRecord.enc (RRecord.mk (RInput.mk SV.nil SV.nil) SV.nil 0)) 36 :: pt b_B35_1 (RRecord.enc (RRecord.mk (RInput.mk s1 s3) s7 x0.end_)) 36 :: Lr)) (fun o_j3 hP hK_j3 hF hM=>?_) ?_
 ·refine c_seq ?_
  refine c_region ?_
  refine s_val hF (r_assign hF rfl rfl) rfl rfl rfl fun a hF=>?_
  refine c_nil (n_then ?_)
  refine c_block ?_
  obtain ⟨r2711,hM⟩:=voidM hM
  have q2712:Each (QMarkRm r2711.holds') ([]:List RMark) ([]:List QMark):=Each.nil
  have hM:=hM.rowNil (X:=RMark) 0 60
  refine c_loopX hF hM hP (fun F x a w=>match x with | (v2694,v2709)=>∃ (s2695:SV) (r2697:Res) (s2699:SV) (hs2700:List SV) (r2702:Res) (s2704:SV) (hs2705:List RMark) (r2707:Res),LRm r2697.holds' s2695 v2694.in_.ctx spU8 ∧ Each (BytesRm r2702.holds') hs2700 v2694.in_.tables ∧ Each (QMarkRm r2707.holds') hs2705 v2694.marks ∧ Fr 67 [(5,.int .i64 v2709),(1,.pointer (some ⟨b_B35_1,0,none⟩)),(2,.pointer (some ⟨b_B35_2,0,none⟩)),(3,.pointer (some ⟨b_B35_3,0,none⟩))] a ∧ MemL w (pt b_B35_3 (RRecord.enc (RRecord.mk (RInput.mk s2695 s2699) s2704 v2694.end_)) 36 :: r2697 :: rowL 0 s2699 23 hs2700 :: r2702 :: rowL 0 s2704 60 hs2705 :: r2707 :: pt b_B35_2 (RRecord.enc (RRecord.mk (RInput.mk SV.nil SV.nil) SV.nil 0)) 36 :: pt b_B35_1 (RRecord.enc (RRecord.mk (RInput.mk s1 s3) s7 x0.end_)) 36 :: Lr)) (fun hF hM=>⟨s1677,r1679,s1681,hs1682,r1684,SV.nil,[],r2711,f1680,q1685,q2712,hF.to ⟨rfl,rfl,rfl,rfl,trivial⟩,selM hM [2,3,4,5,0,1,6,7] 8 rfl⟩) ?_
  rintro ⟨v2694,v2709⟩ a w o_l4 hP hK_l4 ⟨s2695,r2697,s2699,hs2700,r2702,s2704,hs2705,r2707,f2698,q2703,q2708,hF,hM⟩
  replace hP:Sh.rm_lent_l4 x0 v2694 v2709 = _:=hP
  unfold Sh.rm_lent_l4 at hP
  refine c_seq ?_
  refine c_seq ?_
  refine c_region ?_
  refine s_val hF (r_move hF rfl rfl) rfl rfl rfl fun a hF=>?_
  refine s_val hF (r_fieldAddr (off':=2) Tryz.underlying36 rfl in33 rfl hF rfl rfl rfl) rfl rfl rfl fun a hF=>?_
  refine s_val hF (r_load1 Tryz.isAgg33 hF rfl rfl (hM.cell (i:=7) rfl (RRecord.g_marks _))) rfl rfl rfl fun a hF=>?_
  refine s_val hF (r_lenD (f9 _ (hsub _ (dropM hM 8))) q10.len Tryz.underlying33 hF rfl rfl) rfl rfl rfl fun a hF=>?_
  refine s_val hF (r_lss hF rfl rfl rfl) rfl rfl rfl fun a hF=>?_
  refine c_nil (n_then ?_)
  refine c_cond hF (c:=.tmp 41) rfl (fun hb2714=>?_) (fun hb2714=>?_)
  ·have hP:=Fx.cT hb2714 hP
   refine c_skip (n_then ?_)
   refine c_seq ?_
   refine c_block ?_
   refine d_startT mixed (by kernel_rfl) hM [0,1,2,3,4,5,6,7] 8 rfl fun hch=>?_
   refine d_val hF hch 0 rfl (by kernel_rfl) rfl rfl rfl (fun w hM=>(r_fieldAddr (off':=2) Tryz.underlying36 rfl in33 rfl hF rfl rfl rfl)) fun a hF=>?_
   refine d_val hF hch 1 rfl (by kernel_rfl) rfl rfl rfl (fun w hM=>(r_load1 Tryz.isAgg33 hF rfl rfl (hM.cell (i:=0) rfl (RRecord.g_marks _)))) fun a hF=>?_
   refine d_val hF hch 2 rfl (by kernel_rfl) rfl rfl rfl (fun w hM=>(r_fieldAddr (off':=2) Tryz.underlying36 rfl in33 rfl hF rfl rfl rfl)) fun a hF=>?_
   refine d_val hF hch 3 rfl (by kernel_rfl) rfl rfl rfl (fun w hM=>(r_load1 Tryz.isAgg33 hF rfl rfl (hM.cell (i:=7) rfl (RRecord.g_marks _)))) fun a hF=>?_
   refine d_val hF hch 4 rfl (by kernel_rfl) rfl rfl rfl (fun w hM=>(r_move hF rfl rfl)) fun a hF=>?_
   obtain ⟨x2762,hx2762,hP⟩:=bind_some hP
   have h0x2762:=get_some hx2762
   obtain ⟨yx2762,hgx2762,hrx2762⟩:=Each.getr q10 h0x2762.2
   have hdx2762:=Each.bd q10 (get_bd hx2762)
   obtain ⟨s2763,s2765,s2767,hs2768,s2771,rfl,f2764,f2766,f2769,q2770,f2772⟩:=hrx2762
   refine d_val hF hch 5 rfl (by kernel_rfl) rfl rfl rfl (fun w hM=>(r_indexZ (sz:=7) (f9 _ (hsub _ (dropM hM 8))) Tryz.underlying33 in60 rfl hF rfl rfl rfl hdx2762)) fun a hF=>?_
   refine d_val hF hch 6 rfl (by kernel_rfl) rfl rfl rfl (fun w hM=>(r_loadn Tryz.isAgg60 Tryz.sizeOf60 hF rfl rfl (RMark.len _) (((f9 _ (hsub _ (dropM hM 8))).elemS hgx2762)))) fun a hF=>?_
   refine d_one hch 7 (by kernel_rfl) rfl rfl ?_
   refine d_ex hF 7 rfl rfl rfl rfl rfl fun w hMs hM=>?_
   obtain ⟨y2774,hy2774,hP⟩:=bind_some hP
   refine (w_call (xs:=[.tmp 50]) Tryz.call59 hF rfl rfl (rm_lentMark_calls hy2774 hM (Bf:=Bf) (fun w hM=>hsub _ (dropM hM 8)) f2764 f2766 f2769 q2770 f2772) fun v w hR=>?_)
   obtain ⟨s2775,r2777,s2779,r2781,s2783,hs2784,r2786,s2789,r2791,rfl,f2778,f2782,f2787,q2788,f2792,hM⟩:=hR
   replace hM:MemL _ (r2777 :: r2781 :: r2786 :: r2791 :: pt b_B35_3 (RRecord.enc (RRecord.mk (RInput.mk s2695 s2699) s2704 v2694.end_)) 36 :: r2697 :: rowL 0 s2699 23 hs2700 :: r2702 :: rowL 0 s2704 60 hs2705 :: r2707 :: pt b_B35_2 (RRecord.enc (RRecord.mk (RInput.mk SV.nil SV.nil) SV.nil 0)) 36 :: pt b_B35_1 (RRecord.enc (RRecord.mk (RInput.mk s1 s3) s7 x0.end_)) 36 :: Lr):=hM
   have hMs:=selM hM [0,1,2,3,4,5,6,7,8,9,10,11] 12 rfl
   refine ⟨_,_,hMs,hM,.inl fun _ h=>dropM h 4,fun a hF=>?_⟩
   refine d_one hch 8 (by kernel_rfl) rfl rfl ?_
   refine d_ex hF 8 rfl rfl rfl rfl rfl fun w hMs hM=>?_
   refine (w_slice1 (X:=RMark) (y:=(RMark.mk y2774.at_ y2774.next y2774.done s2775 s2779 s2783 s2789)) Tryz.underlying33 in60 rfl rfl rfl rfl hF rfl rfl rfl fun b_B35_52 w hzB35_52 hAB35_52=>?_)
   have hM:=hM.plus hAB35_52
   replace hM:MemL _ (pt b_B35_52 (encs ([(RMark.mk y2774.at_ y2774.next y2774.done s2775 s2779 s2783 s2789)]:List RMark)) 60 :: r2777 :: r2781 :: r2786 :: r2791 :: pt b_B35_3 (RRecord.enc (RRecord.mk (RInput.mk s2695 s2699) s2704 v2694.end_)) 36 :: r2697 :: rowL 0 s2699 23 hs2700 :: r2702 :: rowL 0 s2704 60 hs2705 :: r2707 :: pt b_B35_2 (RRecord.enc (RRecord.mk (RInput.mk SV.nil SV.nil) SV.nil 0)) 36 :: pt b_B35_1 (RRecord.enc (RRecord.mk (RInput.mk s1 s3) s7 x0.end_)) 36 :: Lr):=hM
   have hMs:=selM hM [0,1,2,3,4,5,6,7,8,9,10,11,12] 13 rfl
   refine ⟨_,_,hMs,hM,.inl fun _ h=>dropM h 1,fun a hF=>?_⟩
   refine d_one hch 9 (by kernel_rfl) rfl rfl ?_
   refine d_ex hF 9 rfl rfl rfl rfl rfl fun w hMs hM=>?_
   obtain ⟨x2794,hx2794,hP⟩:=bind_some hP
   refine (w_appD (X:=RMark) hx2794 q2708.len rfl Tryz.underlying33 in60 rfl rfl rfl rfl hF rfl rfl rfl (hM.own (X:=RMark) (i:=9) rfl) (hM.ptS (X:=RMark) (i:=0) (n:=1) (c:=1) rfl rfl rfl (Nat.le_refl _)) fun s2793 w hUs2793=>?_)
   have hM:=hM.chg hUs2793 (i:=9) rfl
   replace hM:MemL _ (pt b_B35_52 (encs ([(RMark.mk y2774.at_ y2774.next y2774.done s2775 s2779 s2783 s2789)]:List RMark)) 60 :: r2777 :: r2781 :: r2786 :: r2791 :: pt b_B35_3 (RRecord.enc (RRecord.mk (RInput.mk s2695 s2699) s2704 v2694.end_)) 36 :: r2697 :: rowL 0 s2699 23 hs2700 :: r2702 :: rowL 0 s2793 60 (hs2705 ++ [(RMark.mk y2774.at_ y2774.next y2774.done s2775 s2779 s2783 s2789)]) :: r2707 :: pt b_B35_2 (RRecord.enc (RRecord.mk (RInput.mk SV.nil SV.nil) SV.nil 0)) 36 :: pt b_B35_1 (RRecord.enc (RRecord.mk (RInput.mk s1 s3) s7 x0.end_)) 36 :: Lr):=hM
   obtain ⟨r2795,hj2796,hj2797,hM⟩:=joinM (selM hM [10,1,0,2,3,4,5,6,7,8,9,11,12] 13 rfl)
   replace hM:MemL _ (r2795 :: pt b_B35_52 (encs ([(RMark.mk y2774.at_ y2774.next y2774.done s2775 s2779 s2783 s2789)]:List RMark)) 60 :: r2781 :: r2786 :: r2791 :: pt b_B35_3 (RRecord.enc (RRecord.mk (RInput.mk s2695 s2699) s2704 v2694.end_)) 36 :: r2697 :: rowL 0 s2699 23 hs2700 :: r2702 :: rowL 0 s2793 60 (hs2705 ++ [(RMark.mk y2774.at_ y2774.next y2774.done s2775 s2779 s2783 s2789)]) :: pt b_B35_2 (RRecord.enc (RRecord.mk (RInput.mk SV.nil SV.nil) SV.nil 0)) 36 :: pt b_B35_1 (RRecord.enc (RRecord.mk (RInput.mk s1 s3) s7 x0.end_)) 36 :: Lr):=hM
   obtain ⟨r2798,hj2799,hj2800,hM⟩:=joinM (selM hM [0,2,1,3,4,5,6,7,8,9,10,11] 12 rfl)
   replace hM:MemL _ (r2798 :: pt b_B35_52 (encs ([(RMark.mk y2774.at_ y2774.next y2774.done s2775 s2779 s2783 s2789)]:List RMark)) 60 :: r2786 :: r2791 :: pt b_B35_3 (RRecord.enc (RRecord.mk (RInput.mk s2695 s2699) s2704 v2694.end_)) 36 :: r2697 :: rowL 0 s2699 23 hs2700 :: r2702 :: rowL 0 s2793 60 (hs2705 ++ [(RMark.mk y2774.at_ y2774.next y2774.done s2775 s2779 s2783 s2789)]) :: pt b_B35_2 (RRecord.enc (RRecord.mk (RInput.mk SV.nil SV.nil) SV.nil 0)) 36 :: pt b_B35_1 (RRecord.enc (RRecord.mk (RInput.mk s1 s3) s7 x0.end_)) 36 :: Lr):=hM
   obtain ⟨r2801,hj2802,hj2803,hM⟩:=joinM (selM hM [0,2,1,3,4,5,6,7,8,9,10] 11 rfl)
   replace hM:MemL _ (r2801 :: pt b_B35_52 (encs ([(RMark.mk y2774.at_ y2774.next y2774.done s2775 s2779 s2783 s2789)]:List RMark)) 60 :: r2791 :: pt b_B35_3 (RRecord.enc (RRecord.mk (RInput.mk s2695 s2699) s2704 v2694.end_)) 36 :: r2697 :: rowL 0 s2699 23 hs2700 :: r2702 :: rowL 0 s2793 60 (hs2705 ++ [(RMark.mk y2774.at_ y2774.next y2774.done s2775 s2779 s2783 s2789)]) :: pt b_B35_2 (RRecord.enc (RRecord.mk (RInput.mk SV.nil SV.nil) SV.nil 0)) 36 :: pt b_B35_1 (RRecord.enc (RRecord.mk (RInput.mk s1 s3) s7 x0.end_)) 36 :: Lr):=hM
   obtain ⟨r2804,hj2805,hj2806,hM⟩:=joinM (selM hM [0,2,1,3,4,5,6,7,8,9] 10 rfl)
   replace hM:MemL _ (r2804 :: pt b_B35_52 (encs ([(RMark.mk y2774.at_ y2774.next y2774.done s2775 s2779 s2783 s2789)]:List RMark)) 60 :: pt b_B35_3 (RRecord.enc (RRecord.mk (RInput.mk s2695 s2699) s2704 v2694.end_)) 36 :: r2697 :: rowL 0 s2699 23 hs2700 :: r2702 :: rowL 0 s2793 60 (hs2705 ++ [(RMark.mk y2774.at_ y2774.next y2774.done s2775 s2779 s2783 s2789)]) :: pt b_B35_2 (RRecord.enc (RRecord.mk (RInput.mk SV.nil SV.nil) SV.nil 0)) 36 :: pt b_B35_1 (RRecord.enc (RRecord.mk (RInput.mk s1 s3) s7 x0.end_)) 36 :: Lr):=hM
   have q2807:Each (QMarkRm r2804.holds') (hs2705 ++ [(RMark.mk y2774.at_ y2774.next y2774.done s2775 s2779 s2783 s2789)]) x2794:=by rw [(app_some hx2794).2]; exact (q2708.mono fun _ _ q=>q.mono (fun w h=>(fun w h=>(fun w h=>hj2796 w (hj2799 w h)) w (hj2802 w h)) w (hj2805 w h))).snoc ⟨s2775,s2779,s2783,hs2784,s2789,rfl,(f2778.mono (fun w h=>(fun w h=>(fun w h=>hj2797 w (hj2799 w h)) w (hj2802 w h)) w (hj2805 w h))),(f2782.mono (fun w h=>(fun w h=>hj2800 w (hj2802 w h)) w (hj2805 w h))),(f2787.mono (fun w h=>hj2803 w (hj2805 w h))),(q2788.mono fun _ _ q=>q.mono (fun w h=>hj2803 w (hj2805 w h))),(f2792.mono hj2806)⟩
   replace hM:MemL _ (r2804 :: pt b_B35_52 (encs ([(RMark.mk y2774.at_ y2774.next y2774.done s2775 s2779 s2783 s2789)]:List RMark)) 60 :: pt b_B35_3 (RRecord.enc (RRecord.mk (RInput.mk s2695 s2699) s2704 v2694.end_)) 36 :: r2697 :: rowL 0 s2699 23 hs2700 :: r2702 :: rowL 0 s2793 60 (hs2705 ++ [(RMark.mk y2774.at_ y2774.next y2774.done s2775 s2779 s2783 s2789)]) :: pt b_B35_2 (RRecord.enc (RRecord.mk (RInput.mk SV.nil SV.nil) SV.nil 0)) 36 :: pt b_B35_1 (RRecord.enc (RRecord.mk (RInput.mk s1 s3) s7 x0.end_)) 36 :: Lr):=hM
   have hMs:=hM
   refine ⟨_,_,hMs,hM,.inr (by kernel_rfl),fun a hF=>?_⟩
   refine d_val hF hch 10 rfl (by kernel_rfl) rfl rfl rfl (fun w hM=>(r_fieldAddr (off':=2) Tryz.underlying36 rfl in33 rfl hF rfl rfl rfl)) fun a hF=>?_
   refine d_one hch 11 (by kernel_rfl) rfl rfl ?_
   refine d_ex0 11 rfl rfl rfl rfl fun w hMs hM=>?_
   refine (w_store1 Tryz.sizeOf33 (hM.obj (i:=2) rfl) hF rfl rfl rfl rfl (by rw [RRecord.len]; decide) (RRecord.s_marks _ _) fun w hU2808=>?_)
   have hM:=hM.chg hU2808 (i:=2) rfl
   replace hM:MemL _ (r2804 :: pt b_B35_52 (encs ([(RMark.mk y2774.at_ y2774.next y2774.done s2775 s2779 s2783 s2789)]:List RMark)) 60 :: pt b_B35_3 (RRecord.enc (RRecord.mk (RInput.mk s2695 s2699) s2793 v2694.end_)) 36 :: r2697 :: rowL 0 s2699 23 hs2700 :: r2702 :: rowL 0 s2793 60 (hs2705 ++ [(RMark.mk y2774.at_ y2774.next y2774.done s2775 s2779 s2783 s2789)]) :: pt b_B35_2 (RRecord.enc (RRecord.mk (RInput.mk SV.nil SV.nil) SV.nil 0)) 36 :: pt b_B35_1 (RRecord.enc (RRecord.mk (RInput.mk s1 s3) s7 x0.end_)) 36 :: Lr):=hM
   have hMs:=hM
   refine ⟨_,_,hMs,hM,.inr (by kernel_rfl),?_⟩
   refine d_end hch (by kernel_rfl) fun w hM=>?_
   refine n_block (n_then ?_)
   refine c_region ?_
   refine s_val hF (r_move hF rfl rfl) rfl rfl rfl fun a hF=>?_
   refine s_val hF (r_add hF rfl rfl rfl) rfl rfl rfl fun a hF=>?_
   refine s_val hF (r_assign hF rfl rfl) rfl rfl rfl fun a hF=>?_
   refine c_nil (n_then ?_)
   have hP:=Option.some.inj hP
   subst hP
   exact ⟨((QRecord.mk v2694.in_ x2794 v2694.end_),(IntKind.i64.wrap (v2709 + 1))),rfl,s2695,r2697,s2699,hs2700,r2702,s2793,(hs2705 ++ [(RMark.mk y2774.at_ y2774.next y2774.done s2775 s2779 s2783 s2789)]),r2804,f2698,q2703,q2807,hF.to ⟨rfl,rfl,rfl,rfl,trivial⟩,selM hM [2,3,4,5,6,0,7,8] 9 rfl⟩
  have hP:=Fx.cF hb2714 hP
  refine c_exit (x_then (x_then (x_hit ?_)))
  refine n_then ?_
  have hP:=Option.some.inj hP
  subst hP
  have hP:=hK_l4 _ rfl
  subst hP
  exact ⟨v2694,rfl,s2695,r2697,s2699,hs2700,r2702,s2704,hs2705,r2707,f2698,q2703,q2708,hF.to ⟨rfl,rfl,rfl,trivial⟩,hM⟩
 rintro v2465 a w hP ⟨s2466,r2468,s2470,hs2471,r2473,s2475,hs2476,r2478,f2469,q2474,q2479,hF,hM⟩
 replace hP:Sh.rm_lent_j3 x0 v2465 = _:=hP
 unfold Sh.rm_lent_j3 at hP
 refine n_then ?_
 refine c_seq ?_
 refine d_startT mixed (by kernel_rfl) hM [0,1,2,3,5,6,7] 8 rfl fun hch=>?_
 refine d_val hF hch 0 rfl (by kernel_rfl) rfl rfl rfl (fun w hM=>(r_fieldAddr (off':=2) Tryz.underlying36 rfl in33 rfl hF rfl rfl rfl)) fun a hF=>?_
 refine d_val hF hch 1 rfl (by kernel_rfl) rfl rfl rfl (fun w hM=>(r_load1 Tryz.isAgg33 hF rfl rfl (hM.cell (i:=0) rfl (RRecord.g_marks _)))) fun a hF=>?_
 refine d_val hF hch 2 rfl (by kernel_rfl) rfl rfl rfl (fun w hM=>(r_build z60 Tryz.underlying60 pl60 hF (parts:=[(0,.const (.int .i64 (-7)))]) rfl rfl (fill_s rfl rfl (by rw [RMark.len]; decide) (RMark.s_at_ _ _) fill_e))) fun a hF=>?_
 refine d_val hF hch 3 rfl (by kernel_rfl) rfl rfl rfl (fun w hM=>(r_build z60 Tryz.underlying60 pl60 hF (parts:=[(0,.const (.int .i64 (-8)))]) rfl rfl (fill_s rfl rfl (by rw [RMark.len]; decide) (RMark.s_at_ _ _) fill_e))) fun a hF=>?_
 refine d_val hF hch 6 rfl (by kernel_rfl) rfl rfl rfl (fun w hM=>(r_fieldAddr (off':=2) Tryz.underlying36 rfl in33 rfl hF rfl rfl rfl)) fun a hF=>?_
 refine d_val hF hch 7 rfl (by kernel_rfl) rfl rfl rfl (fun w hM=>(r_load1 Tryz.isAgg33 hF rfl rfl (hM.cell (i:=6) rfl (RRecord.g_marks _)))) fun a hF=>?_
 refine d_val hF hch 8 rfl (by kernel_rfl) rfl rfl rfl (fun w hM=>(r_lenD (f9 _ (hsub _ (dropM hM 7))) q10.len Tryz.underlying33 hF rfl rfl)) fun a hF=>?_
 refine d_one hch 4 (by kernel_rfl) rfl rfl ?_
 refine d_ex hF 4 rfl rfl rfl rfl rfl fun w hMs hM=>?_
 refine (w_sliceN (X:=RMark) (ys:=[(RMark.mk (-7) 0 false SV.nil SV.nil SV.nil SV.nil),(RMark.mk (-8) 0 false SV.nil SV.nil SV.nil SV.nil)]) (m:=2) Tryz.underlying33 in60 rfl rfl rfl rfl (by decide) (by decide) hF rfl rfl (PartsE.cons rfl (PartsE.cons rfl PartsE.nil)) fun b_B35_59 w hzB35_59 hAB35_59=>?_)
 have hM:=hM.plus hAB35_59
 replace hM:MemL _ (pt b_B35_59 (encs ([(RMark.mk (-7) 0 false SV.nil SV.nil SV.nil SV.nil),(RMark.mk (-8) 0 false SV.nil SV.nil SV.nil SV.nil)]:List RMark)) 60 :: pt b_B35_3 (RRecord.enc (RRecord.mk (RInput.mk s2466 s2470) s2475 v2465.end_)) 36 :: r2468 :: rowL 0 s2470 23 hs2471 :: r2473 :: rowL 0 s2475 60 hs2476 :: r2478 :: pt b_B35_2 (RRecord.enc (RRecord.mk (RInput.mk SV.nil SV.nil) SV.nil 0)) 36 :: pt b_B35_1 (RRecord.enc (RRecord.mk (RInput.mk s1 s3) s7 x0.end_)) 36 :: Lr):=hM
 have hMs:=selM hM [0,1,2,3,4,6,7,8] 9 rfl
 refine ⟨_,_,hMs,hM,.inl fun _ h=>dropM h 1,fun a hF=>?_⟩
 refine d_one hch 5 (by kernel_rfl) rfl rfl ?_
 refine d_ex hF 5 rfl rfl rfl rfl rfl fun w hMs hM=>?_
 obtain ⟨x2818,hx2818,hP⟩:=bind_some hP
 refine (w_appD (X:=RMark) hx2818 q2479.len rfl Tryz.underlying33 in60 rfl rfl rfl rfl hF rfl rfl rfl (hM.own (X:=RMark) (i:=5) rfl) (hM.ptS (X:=RMark) (i:=0) (n:=2) (c:=2) rfl rfl rfl (Nat.le_refl _)) fun s2817 w hUs2817=>?_)
 have hM:=hM.chg hUs2817 (i:=5) rfl
 have hQs2817:=hM.rowS (X:=RMark) (i:=5) rfl
 replace hM:MemL _ (pt b_B35_59 (encs ([(RMark.mk (-7) 0 false SV.nil SV.nil SV.nil SV.nil),(RMark.mk (-8) 0 false SV.nil SV.nil SV.nil SV.nil)]:List RMark)) 60 :: pt b_B35_3 (RRecord.enc (RRecord.mk (RInput.mk s2466 s2470) s2475 v2465.end_)) 36 :: r2468 :: rowL 0 s2470 23 hs2471 :: r2473 :: rowL 0 s2817 60 (hs2476 ++ [(RMark.mk (-7) 0 false SV.nil SV.nil SV.nil SV.nil),(RMark.mk (-8) 0 false SV.nil SV.nil SV.nil SV.nil)]) :: r2478 :: pt b_B35_2 (RRecord.enc (RRecord.mk (RInput.mk SV.nil SV.nil) SV.nil 0)) 36 :: pt b_B35_1 (RRecord.enc (RRecord.mk (RInput.mk s1 s3) s7 x0.end_)) 36 :: Lr):=hM
 have hMs:=selM hM [0,1,2,3,4,6,7,8] 9 rfl
 refine ⟨_,_,hMs,hM,.inl fun _ h=>h,fun a hF=>?_⟩
 obtain ⟨x2819,hx2819,hP⟩:=bind_some hP
 obtain ⟨hy2821,hc2822,f2820⟩:=rm_rowD (X:=RMark) (s:=s2817) (e:=60) (hsp:=hspMark) (sz:=7) q2479.len (app_some hx2818).2 rfl rfl hx2819 rfl
 have q2823:Each (QMarkRm r2478.holds') hs2476 x2819:=by rw [hy2821]; exact q2479
 refine d_val hF hch 9 rfl (by kernel_rfl) rfl rfl rfl (fun w hM=>(r_cutZ (X:=RMark) hQs2817 hc2822 Tryz.underlying33 in60 rfl hF rfl rfl (.inl ⟨rfl,rfl⟩) (.inr ⟨_,_,rfl,rfl⟩))) fun a hF=>?_
 refine d_val hF hch 10 rfl (by kernel_rfl) rfl rfl rfl (fun w hM=>(r_fieldAddr (off':=2) Tryz.underlying36 rfl in33 rfl hF rfl rfl rfl)) fun a hF=>?_
 refine d_one hch 11 (by kernel_rfl) rfl rfl ?_
 refine d_ex0 11 rfl rfl rfl rfl fun w hMs hM=>?_
 refine (w_store1 Tryz.sizeOf33 (hM.obj (i:=1) rfl) hF rfl rfl rfl rfl (by rw [RRecord.len]; decide) (RRecord.s_marks _ _) fun w hU2824=>?_)
 have hM:=hM.chg hU2824 (i:=1) rfl
 replace hM:MemL _ (pt b_B35_59 (encs ([(RMark.mk (-7) 0 false SV.nil SV.nil SV.nil SV.nil),(RMark.mk (-8) 0 false SV.nil SV.nil SV.nil SV.nil)]:List RMark)) 60 :: pt b_B35_3 (RRecord.enc (RRecord.mk (RInput.mk s2466 s2470) (s2817.cut (0:Int).toNat ((x0.marks.length:Int):Int).toNat 7) v2465.end_)) 36 :: r2468 :: rowL 0 s2470 23 hs2471 :: r2473 :: rowL 0 s2817 60 (hs2476 ++ [(RMark.mk (-7) 0 false SV.nil SV.nil SV.nil SV.nil),(RMark.mk (-8) 0 false SV.nil SV.nil SV.nil SV.nil)]) :: r2478 :: pt b_B35_2 (RRecord.enc (RRecord.mk (RInput.mk SV.nil SV.nil) SV.nil 0)) 36 :: pt b_B35_1 (RRecord.enc (RRecord.mk (RInput.mk s1 s3) s7 x0.end_)) 36 :: Lr):=hM
 have hMs:=selM hM [0,1,2,3,4,6,7,8] 9 rfl
 refine ⟨_,_,hMs,hM,.inr (by kernel_rfl),?_⟩
 refine d_end hch (by kernel_rfl) fun w hM=>?_
 refine n_then ?_
 refine c_seq ?_
 refine c_region ?_
 refine s_val hF (r_loadn Tryz.isAgg36 Tryz.sizeOf36 hF rfl rfl (RRecord.len _) (hM.cells (i:=1) rfl (cut_all (RRecord.len _)))) rfl rfl rfl fun a hF=>?_
 refine s_eff0 rfl rfl (w_storen (vs:=_) Tryz.sizeOf36 (hM.obj (i:=7) rfl) hF rfl rfl rfl rfl (RRecord.len _) (RRecord.one _) (by first | (rw [RRecord.len,RRecord.len]; decide) | (rw [RRecord.len]; decide)) (put_all ((RRecord.len _).trans (RRecord.len _).symm)) fun w hU2825=>?_)
 have hM:=hM.chg hU2825 (i:=7) rfl
 replace hM:MemL _ (pt b_B35_59 (encs ([(RMark.mk (-7) 0 false SV.nil SV.nil SV.nil SV.nil),(RMark.mk (-8) 0 false SV.nil SV.nil SV.nil SV.nil)]:List RMark)) 60 :: pt b_B35_3 (RRecord.enc (RRecord.mk (RInput.mk s2466 s2470) (s2817.cut (0:Int).toNat ((x0.marks.length:Int):Int).toNat 7) v2465.end_)) 36 :: r2468 :: rowL 0 s2470 23 hs2471 :: r2473 :: rowL 0 s2817 60 (hs2476 ++ [(RMark.mk (-7) 0 false SV.nil SV.nil SV.nil SV.nil),(RMark.mk (-8) 0 false SV.nil SV.nil SV.nil SV.nil)]) :: r2478 :: pt b_B35_2 (RRecord.enc (RRecord.mk (RInput.mk s2466 s2470) (s2817.cut (0:Int).toNat ((x0.marks.length:Int):Int).toNat 7) v2465.end_)) 36 :: pt b_B35_1 (RRecord.enc (RRecord.mk (RInput.mk s1 s3) s7 x0.end_)) 36 :: Lr):=hM
 refine c_nil (n_then ?_)
 refine c_ret ?_
 replace hM:MemL _ (pt b_B35_59 (encs ([(RMark.mk (-7) 0 false SV.nil SV.nil SV.nil SV.nil),(RMark.mk (-8) 0 false SV.nil SV.nil SV.nil SV.nil)]:List RMark)) 60 :: pt b_B35_3 (RRecord.enc (RRecord.mk (RInput.mk s2466 s2470) (s2817.cut (0:Int).toNat ((x0.marks.length:Int):Int).toNat 7) v2465.end_)) 36 :: r2468 :: rowL 0 s2470 23 hs2471 :: r2473 :: rowL 0 s2817 60 (hs2476 ++ [(RMark.mk (-7) 0 false SV.nil SV.nil SV.nil SV.nil),(RMark.mk (-8) 0 false SV.nil SV.nil SV.nil SV.nil)]) :: r2478 :: pt b_B35_2 (RRecord.enc (RRecord.mk (RInput.mk s2466 s2470) (s2817.cut (0:Int).toNat ((x0.marks.length:Int):Int).toNat 7) v2465.end_)) 36 :: pt b_B35_1 (RRecord.enc (RRecord.mk (RInput.mk s1 s3) s7 x0.end_)) 36 :: Lr):=hM
 obtain ⟨r2826,hj2827,hj2828,hM⟩:=joinM (selM hM [5,6,0,1,2,3,4,7,8] 9 rfl)
 replace hM:MemL _ (r2826 :: pt b_B35_59 (encs ([(RMark.mk (-7) 0 false SV.nil SV.nil SV.nil SV.nil),(RMark.mk (-8) 0 false SV.nil SV.nil SV.nil SV.nil)]:List RMark)) 60 :: pt b_B35_3 (RRecord.enc (RRecord.mk (RInput.mk s2466 s2470) (s2817.cut (0:Int).toNat ((x0.marks.length:Int):Int).toNat 7) v2465.end_)) 36 :: r2468 :: rowL 0 s2470 23 hs2471 :: r2473 :: pt b_B35_2 (RRecord.enc (RRecord.mk (RInput.mk s2466 s2470) (s2817.cut (0:Int).toNat ((x0.marks.length:Int):Int).toNat 7) v2465.end_)) 36 :: pt b_B35_1 (RRecord.enc (RRecord.mk (RInput.mk s1 s3) s7 x0.end_)) 36 :: Lr):=hM
 have f2830:LRm r2826.holds' (s2817.cut (0:Int).toNat ((x0.marks.length:Int):Int).toNat 7) hs2476 hspMark:=LRm.mono f2820 hj2827
 have q2829:Each (QMarkRm r2826.holds') hs2476 x2819:=q2823.mono fun _ _ q=>q.mono hj2828
 have hP:=Option.some.inj hP
 subst hP
 refine e_ret (rs:=[.cell 2 36]) Tryz.results35 hF (res_celln hF rfl Tryz.isAgg36 Tryz.sizeOf36 (RRecord.len _) (hM.cells (i:=6) rfl (cut_all (RRecord.len _))) res_nil) rfl ?_
 exact ⟨s2466,r2468,s2470,hs2471,r2473,(s2817.cut (0:Int).toNat ((x0.marks.length:Int):Int).toNat 7),hs2476,r2826,rfl,f2469,q2474,f2830,q2829,selM hM [3,4,5,0] 8 rfl⟩
set_option maxHeartbeats 4000000 in
theorem rm_kept_calls {x0:List UInt8} {s1:SV} {out:Bool} {w0:World} {Bf:World → Prop} {Lr:List Res} (hP:Sh.rm_kept x0 = some out) (hM:MemL w0 (Lr)) (hsub:∀ w,MemL w Lr → Bf w) (f2:LRm Bf s1 x0 spU8):Calls Tryz.prog 93 #[(s1).v] w0 (Ret fun v w'=>v = .bool out ∧ MemL w' (Lr)):=by
 unfold Sh.rm_kept at hP
 refine calls_enter (vs:=[(s1).v]) Tryz.func93 rfl Tryz.ntmps93 rfl fun a hF=>?_
 refine c_seq ?_
 refine c_region ?_
 refine s_val hF (r_assign hF rfl rfl) rfl rfl rfl fun a hF=>?_
 refine c_nil (n_then ?_)
 refine c_seq ?_
 refine c_region ?_
 refine s_val hF (r_move hF rfl rfl) rfl rfl rfl fun a hF=>?_
 refine s_val hF (r_move hF rfl rfl) rfl rfl rfl fun a hF=>?_
 refine s_val hF (r_lenL (LRm.toIn f2 _ (hsub _ (dropM hM 0))) Tryz.underlying23 hF rfl rfl) rfl rfl rfl fun a hF=>?_
 refine s_val hF (r_add hF rfl rfl rfl) rfl rfl rfl fun a hF=>?_
 obtain ⟨hc14,hP⟩:=must_some hP
 refine s_val hF (r_cutRm (f2 _ (hsub _ (dropM hM 0))) Tryz.underlying23 in5 hF rfl rfl rfl hc14) rfl rfl rfl fun a hF=>?_
 refine s_val hF (r_assign hF rfl rfl) rfl rfl rfl fun a hF=>?_
 refine c_nil (n_then ?_)
 refine c_seq ?_
 refine c_joinX hF hM hP (fun F x a w=>match x with | v21=>Fr 24 [(2,.bool v21)] a ∧ MemL w (Lr)) (fun o_j1 hP hK_j1 hF hM=>?_) ?_
 ·refine c_region ?_
  refine s_val hF (r_move hF rfl rfl) rfl rfl rfl fun a hF=>?_
  refine s_val hF (r_move hF rfl rfl) rfl rfl rfl fun a hF=>?_
  refine s_val hF (r_lenL (LRm.toIn f2 _ (hsub _ (dropM hM 0))) Tryz.underlying23 hF rfl rfl) rfl rfl rfl fun a hF=>?_
  obtain ⟨x22,hx22,hP⟩:=bind_some hP
  have h0x22:=get_some hx22
  refine s_val hF (r_indexZ (sz:=1) ((LRm.full f2) _ (hsub _ (dropM hM 0))) Tryz.underlying23 in5 rfl hF rfl rfl rfl (get_bd hx22)) rfl rfl rfl fun a hF=>?_
  refine s_val hF (r_load1 Tryz.isAgg5 hF rfl rfl (((((LRm.full f2) _ (hsub _ (dropM hM 0))).elemS h0x22.2)).get 0 rfl)) rfl rfl rfl fun a hF=>?_
  refine s_val hF (r_eql hF rfl rfl rfl) rfl rfl rfl fun a hF=>?_
  refine s_val hF (r_move hF rfl rfl) rfl rfl rfl fun a hF=>?_
  refine g_split 15 hF rfl (fun hb23=>?_) (fun hb23=>?_)
  ·have hP:=Fx.cT hb23 hP
   refine g_val hF rfl rfl rfl hb23 (r_move hF rfl rfl) rfl rfl fun a hF=>?_
   refine g_val hF rfl rfl rfl hb23 (r_move hF rfl rfl) rfl rfl fun a hF=>?_
   refine g_val hF rfl rfl rfl hb23 (r_lenL (LRm.toIn f2 _ (hsub _ (dropM hM 0))) Tryz.underlying23 hF rfl rfl) rfl rfl fun a hF=>?_
   refine g_val hF rfl rfl rfl hb23 (r_add hF rfl rfl rfl) rfl rfl fun a hF=>?_
   obtain ⟨x24,hx24,hP⟩:=bind_some hP
   have h0x24:=get_some hx24
   refine g_val hF rfl rfl rfl hb23 (r_indexZ (sz:=1) ((LRm.full f2) _ (hsub _ (dropM hM 0))) Tryz.underlying23 in5 rfl hF rfl rfl rfl (get_bd hx24)) rfl rfl fun a hF=>?_
   refine g_val hF rfl rfl rfl hb23 (r_load1 Tryz.isAgg5 hF rfl rfl (((((LRm.full f2) _ (hsub _ (dropM hM 0))).elemS h0x24.2)).get 0 rfl)) rfl rfl fun a hF=>?_
   refine g_val hF rfl rfl rfl hb23 (r_eql hF rfl rfl rfl) rfl rfl fun a hF=>?_
   refine s_val hF (r_pick1 hF rfl rfl hb23 rfl) rfl rfl rfl fun a hF=>?_
   refine s_val hF (r_assign hF rfl rfl) rfl rfl rfl fun a hF=>?_
   refine c_nil (n_then ?_)
   have hP:=Option.some.inj hP
   subst hP
   exact ⟨(decide ((x24.toNat:Int) = 162)),rfl,hF.to ⟨rfl,trivial⟩,hM⟩
  have hP:=Fx.cF hb23 hP
  refine g_skip hF rfl rfl rfl hb23 rfl rfl fun a hF=>?_
  refine g_skip hF rfl rfl rfl hb23 rfl rfl fun a hF=>?_
  refine g_skip hF rfl rfl rfl hb23 rfl rfl fun a hF=>?_
  refine g_skip hF rfl rfl rfl hb23 rfl rfl fun a hF=>?_
  refine g_skip hF rfl rfl rfl hb23 rfl rfl fun a hF=>?_
  refine g_skip hF rfl rfl rfl hb23 rfl rfl fun a hF=>?_
  refine g_skip hF rfl rfl rfl hb23 rfl rfl fun a hF=>?_
  refine s_val hF (r_pick0 hF rfl rfl hb23 rfl) rfl rfl rfl fun a hF=>?_
  refine s_val hF (r_assign hF rfl rfl) rfl rfl rfl fun a hF=>?_
  refine c_nil (n_then ?_)
  have hP:=Option.some.inj hP
  subst hP
  exact ⟨false,rfl,hF.to ⟨rfl,trivial⟩,hM⟩
 rintro v21 a w hP ⟨hF,hM⟩
 replace hP:Sh.rm_kept_j1 v21 = _:=hP
 unfold Sh.rm_kept_j1 at hP
 refine n_then ?_
 refine c_ret ?_
 have hP:=Option.some.inj hP
 subst hP
 refine e_ret1 Tryz.results93 hF rfl ?_
 exact ⟨rfl,hM⟩
set_option maxHeartbeats 4000000 in
theorem rm_backMark_calls {x0:QMark} {x1:QMark} {s1:SV} {s3:SV} {s5:SV} {hs6:List RPiece} {s9:SV} {s11:SV} {s13:SV} {s15:SV} {hs16:List RPiece} {s19:SV} {out:Bool} {w0:World} {Bf:World → Prop} {Lr:List Res} (hP:Sh.rm_backMark x0 x1 = some out) (hM:MemL w0 (Lr)) (hsub:∀ w,MemL w Lr → Bf w) (f2:LRm Bf s1 x0.regs spTurn) (f4:LRm Bf s3 x0.slots spCell) (f7:LRm Bf s5 hs6 hspPiece) (q8:Each (QPieceRm Bf) hs6 x0.pieces) (f10:LRm Bf s9 x0.sent spInt) (f12:LIn Bf s11 x1.regs) (f14:LIn Bf s13 x1.slots) (f17:LIn Bf s15 hs16) (q18:Each (QPieceIn Bf) hs16 x1.pieces) (f20:LIn Bf s19 x1.sent):Calls Tryz.prog 63 #[.agg (RMark.enc (RMark.mk x0.at_ x0.next x0.done s1 s3 s5 s9)).toArray,.agg (RMark.enc (RMark.mk x1.at_ x1.next x1.done s11 s13 s15 s19)).toArray] w0 (Ret fun v w'=>v = .bool out ∧ MemL w' (Lr)):=by
 unfold Sh.rm_backMark at hP
 refine calls_enter (vs:=[.agg (RMark.enc (RMark.mk x0.at_ x0.next x0.done s1 s3 s5 s9)).toArray,.agg (RMark.enc (RMark.mk x1.at_ x1.next x1.done s11 s13 s15 s19)).toArray]) Tryz.func63 rfl Tryz.ntmps63 rfl fun a hF=>?_
 refine c_seq ?_
 refine c_region ?_
 refine s_eff hF rfl rfl rfl (w_box hF rfl rfl rfl fun b_B63_2 w hzB63_2 hAB63_2=>?_)
 have hM:=hM.plus hAB63_2
 replace hM:MemL _ (pt b_B63_2 (RMark.enc (RMark.mk x0.at_ x0.next x0.done s1 s3 s5 s9)) 60 :: Lr):=hM
 intro a hF
 refine s_eff hF rfl rfl rfl (w_box hF rfl rfl rfl fun b_B63_3 w hzB63_3 hAB63_3=>?_)
 have hM:=hM.plus hAB63_3
 replace hM:MemL _ (pt b_B63_3 (RMark.enc (RMark.mk x1.at_ x1.next x1.done s11 s13 s15 s19)) 60 :: pt b_B63_2 (RMark.enc (RMark.mk x0.at_ x0.next x0.done s1 s3 s5 s9)) 60 :: Lr):=hM
 intro a hF
 refine s_val hF (r_assign hF rfl rfl) rfl rfl rfl fun a hF=>?_
 refine c_nil (n_then ?_)
 refine c_seq ?_
 refine c_region ?_
 refine s_val hF (r_fieldAddr (off':=3) Tryz.underlying60 rfl in56 rfl hF rfl rfl rfl) rfl rfl rfl fun a hF=>?_
 refine s_val hF (r_load1 Tryz.isAgg56 hF rfl rfl (hM.cell (i:=1) rfl (RMark.g_regs _))) rfl rfl rfl fun a hF=>?_
 refine s_val hF (r_fieldAddr (off':=3) Tryz.underlying60 rfl in56 rfl hF rfl rfl rfl) rfl rfl rfl fun a hF=>?_
 refine s_val hF (r_load1 Tryz.isAgg56 hF rfl rfl (hM.cell (i:=1) rfl (RMark.g_regs _))) rfl rfl rfl fun a hF=>?_
 refine s_val hF (r_lenL (LRm.toIn f2 _ (hsub _ (dropM hM 2))) Tryz.underlying56 hF rfl rfl) rfl rfl rfl fun a hF=>?_
 refine s_val hF (r_add hF rfl rfl rfl) rfl rfl rfl fun a hF=>?_
 obtain ⟨hc1053,hP⟩:=must_some hP
 refine s_val hF (r_cutRm (f2 _ (hsub _ (dropM hM 2))) Tryz.underlying56 in128 hF rfl rfl rfl hc1053) rfl rfl rfl fun a hF=>?_
 refine s_val hF (r_assign hF rfl rfl) rfl rfl rfl fun a hF=>?_
 refine c_nil (n_then ?_)
 refine c_seq ?_
 refine c_region ?_
 refine s_val hF (r_fieldAddr (off':=4) Tryz.underlying60 rfl in57 rfl hF rfl rfl rfl) rfl rfl rfl fun a hF=>?_
 refine s_val hF (r_load1 Tryz.isAgg57 hF rfl rfl (hM.cell (i:=1) rfl (RMark.g_slots _))) rfl rfl rfl fun a hF=>?_
 refine s_val hF (r_fieldAddr (off':=4) Tryz.underlying60 rfl in57 rfl hF rfl rfl rfl) rfl rfl rfl fun a hF=>?_
 refine s_val hF (r_load1 Tryz.isAgg57 hF rfl rfl (hM.cell (i:=1) rfl (RMark.g_slots _))) rfl rfl rfl fun a hF=>?_
 refine s_val hF (r_lenL (LRm.toIn f4 _ (hsub _ (dropM hM 2))) Tryz.underlying57 hF rfl rfl) rfl rfl rfl fun a hF=>?_
 refine s_val hF (r_add hF rfl rfl rfl) rfl rfl rfl fun a hF=>?_
 obtain ⟨hc1054,hP⟩:=must_some hP
 refine s_val hF (r_cutRm (f4 _ (hsub _ (dropM hM 2))) Tryz.underlying57 in151 hF rfl rfl rfl hc1054) rfl rfl rfl fun a hF=>?_
 refine s_val hF (r_assign hF rfl rfl) rfl rfl rfl fun a hF=>?_
 refine c_nil (n_then ?_)
 refine c_seq ?_
 refine c_region ?_
 refine s_val hF (r_fieldAddr (off':=6) Tryz.underlying60 rfl in52 rfl hF rfl rfl rfl) rfl rfl rfl fun a hF=>?_
 refine s_val hF (r_load1 Tryz.isAgg52 hF rfl rfl (hM.cell (i:=1) rfl (RMark.g_sent _))) rfl rfl rfl fun a hF=>?_
 refine s_val hF (r_fieldAddr (off':=6) Tryz.underlying60 rfl in52 rfl hF rfl rfl rfl) rfl rfl rfl fun a hF=>?_
 refine s_val hF (r_load1 Tryz.isAgg52 hF rfl rfl (hM.cell (i:=1) rfl (RMark.g_sent _))) rfl rfl rfl fun a hF=>?_
 refine s_val hF (r_lenL (LRm.toIn f10 _ (hsub _ (dropM hM 2))) Tryz.underlying52 hF rfl rfl) rfl rfl rfl fun a hF=>?_
 refine s_val hF (r_add hF rfl rfl rfl) rfl rfl rfl fun a hF=>?_
 obtain ⟨hc1055,hP⟩:=must_some hP
 refine s_val hF (r_cutRm (f10 _ (hsub _ (dropM hM 2))) Tryz.underlying52 in3 hF rfl rfl rfl hc1055) rfl rfl rfl fun a hF=>?_
 refine s_val hF (r_assign hF rfl rfl) rfl rfl rfl fun a hF=>?_
 refine c_nil (n_then ?_)
 refine c_seq ?_
 refine c_region ?_
 refine s_val hF (r_fieldAddr (off':=5) Tryz.underlying60 rfl in58 rfl hF rfl rfl rfl) rfl rfl rfl fun a hF=>?_
 refine s_val hF (r_load1 Tryz.isAgg58 hF rfl rfl (hM.cell (i:=1) rfl (RMark.g_pieces _))) rfl rfl rfl fun a hF=>?_
 refine s_val hF (r_fieldAddr (off':=5) Tryz.underlying60 rfl in58 rfl hF rfl rfl rfl) rfl rfl rfl fun a hF=>?_
 refine s_val hF (r_load1 Tryz.isAgg58 hF rfl rfl (hM.cell (i:=1) rfl (RMark.g_pieces _))) rfl rfl rfl fun a hF=>?_
 refine s_val hF (r_lenD (LRm.toIn f7 _ (hsub _ (dropM hM 2))) q8.len Tryz.underlying58 hF rfl rfl) rfl rfl rfl fun a hF=>?_
 refine s_val hF (r_add hF rfl rfl rfl) rfl rfl rfl fun a hF=>?_
 obtain ⟨hc1056,hP⟩:=must_some hP
 refine s_val hF (r_cutRm (f7 _ (hsub _ (dropM hM 2))) Tryz.underlying58 in156 hF rfl rfl rfl (by rw [q8.len]; exact hc1056)) rfl rfl rfl fun a hF=>?_
 refine s_val hF (r_assign hF rfl rfl) rfl rfl rfl fun a hF=>?_
 refine c_nil (n_then ?_)
 refine c_seq ?_
 refine c_seq ?_
 refine c_joinX hF hM hP (fun F x a w=>match x with | v1109=>Fr 147 [(83,.bool v1109),(2,.pointer (some ⟨b_B63_2,0,none⟩)),(4,.bool false),(7,((stretch s9)).v),(8,((stretch s5)).v)] a ∧ MemL w (pt b_B63_2 (RMark.enc (RMark.mk x0.at_ x0.next x0.done s1 s3 s5 s9)) 60 :: Lr)) (fun o_j1 hP hK_j1 hF hM=>?_) ?_
 ·refine c_region ?_
  refine s_val hF (r_loadn Tryz.isAgg60 Tryz.sizeOf60 hF rfl rfl (RMark.len _) (hM.cells (i:=1) rfl (cut_all (RMark.len _)))) rfl rfl rfl fun a hF=>?_
  refine s_val hF (r_loadn Tryz.isAgg60 Tryz.sizeOf60 hF rfl rfl (RMark.len _) (hM.cells (i:=0) rfl (cut_all (RMark.len _)))) rfl rfl rfl fun a hF=>?_
  obtain ⟨y1111,hy1111,hP⟩:=bind_some hP
  refine s_eff hF rfl rfl rfl (w_call (xs:=[.tmp 38,.tmp 39]) Tryz.call33 hF rfl rfl (law23_sameMark_calls hy1111 hM (Bf:=Bf) (fun w hM=>hsub _ (dropM hM 2)) (LRm.toIn f2) (LRm.toIn f4) (LRm.toIn f7) (q8.mono fun _ _ q=>q.toIn) (LRm.toIn f10) f12 f14 f17 q18 f20) fun v w hR=>?_)
  obtain ⟨rfl,hM⟩:=hR
  replace hM:MemL _ (pt b_B63_3 (RMark.enc (RMark.mk x1.at_ x1.next x1.done s11 s13 s15 s19)) 60 :: pt b_B63_2 (RMark.enc (RMark.mk x0.at_ x0.next x0.done s1 s3 s5 s9)) 60 :: Lr):=hM
  intro a hF
  refine s_val hF (r_not hF rfl rfl) rfl rfl rfl fun a hF=>?_
  refine s_val hF (r_move hF rfl rfl) rfl rfl rfl fun a hF=>?_
  refine g_split 42 hF rfl (fun hb1112=>?_) (fun hb1112=>?_)
  ·have hP:=Fx.cT hb1112 hP
   refine g_skip hF rfl rfl rfl hb1112 rfl rfl fun a hF=>?_
   refine g_skip hF rfl rfl rfl hb1112 rfl rfl fun a hF=>?_
   refine g_skip hF rfl rfl rfl hb1112 rfl rfl fun a hF=>?_
   refine g_skip hF rfl rfl rfl hb1112 rfl rfl fun a hF=>?_
   refine g_skip hF rfl rfl rfl hb1112 rfl rfl fun a hF=>?_
   refine g_skip hF rfl rfl rfl hb1112 rfl rfl fun a hF=>?_
   refine g_skip hF rfl rfl rfl hb1112 rfl rfl fun a hF=>?_
   refine g_skip hF rfl rfl rfl hb1112 rfl rfl fun a hF=>?_
   refine s_val hF (r_pick1 hF rfl rfl hb1112 rfl) rfl rfl rfl fun a hF=>?_
   refine s_val hF (r_move hF rfl rfl) rfl rfl rfl fun a hF=>?_
   refine g_skip hF rfl rfl rfl rfl rfl rfl fun a hF=>?_
   refine g_skip hF rfl rfl rfl rfl rfl rfl fun a hF=>?_
   refine g_skip hF rfl rfl rfl rfl rfl rfl fun a hF=>?_
   refine g_skip hF rfl rfl rfl rfl rfl rfl fun a hF=>?_
   refine g_skip hF rfl rfl rfl rfl rfl rfl fun a hF=>?_
   refine g_skip hF rfl rfl rfl rfl rfl rfl fun a hF=>?_
   refine g_skip hF rfl rfl rfl rfl rfl rfl fun a hF=>?_
   refine g_skip hF rfl rfl rfl rfl rfl rfl fun a hF=>?_
   refine g_skip hF rfl rfl rfl rfl rfl rfl fun a hF=>?_
   refine s_val hF (r_pick1 hF rfl rfl rfl rfl) rfl rfl rfl fun a hF=>?_
   refine s_val hF (r_move hF rfl rfl) rfl rfl rfl fun a hF=>?_
   refine g_skip hF rfl rfl rfl rfl rfl rfl fun a hF=>?_
   refine g_skip hF rfl rfl rfl rfl rfl rfl fun a hF=>?_
   refine g_skip hF rfl rfl rfl rfl rfl rfl fun a hF=>?_
   refine g_skip hF rfl rfl rfl rfl rfl rfl fun a hF=>?_
   refine g_skip hF rfl rfl rfl rfl rfl rfl fun a hF=>?_
   refine g_skip hF rfl rfl rfl rfl rfl rfl fun a hF=>?_
   refine g_skip hF rfl rfl rfl rfl rfl rfl fun a hF=>?_
   refine g_skip hF rfl rfl rfl rfl rfl rfl fun a hF=>?_
   refine s_val hF (r_pick1 hF rfl rfl rfl rfl) rfl rfl rfl fun a hF=>?_
   refine s_val hF (r_move hF rfl rfl) rfl rfl rfl fun a hF=>?_
   refine g_skip hF rfl rfl rfl rfl rfl rfl fun a hF=>?_
   refine g_skip hF rfl rfl rfl rfl rfl rfl fun a hF=>?_
   refine g_skip hF rfl rfl rfl rfl rfl rfl fun a hF=>?_
   refine g_skip hF rfl rfl rfl rfl rfl rfl fun a hF=>?_
   refine g_skip hF rfl rfl rfl rfl rfl rfl fun a hF=>?_
   refine g_skip hF rfl rfl rfl rfl rfl rfl fun a hF=>?_
   refine g_skip hF rfl rfl rfl rfl rfl rfl fun a hF=>?_
   refine g_skip hF rfl rfl rfl rfl rfl rfl fun a hF=>?_
   refine g_skip hF rfl rfl rfl rfl rfl rfl fun a hF=>?_
   refine s_val hF (r_pick1 hF rfl rfl rfl rfl) rfl rfl rfl fun a hF=>?_
   refine c_nil (n_then ?_)
   have hP:=Option.some.inj hP
   subst hP
   exact ⟨true,rfl,hF.to ⟨rfl,rfl,rfl,rfl,rfl,trivial⟩,selM hM [1] 2 rfl⟩
  have hP:=Fx.cF hb1112 hP
  refine g_val hF rfl rfl rfl hb1112 (r_move hF rfl rfl) rfl rfl fun a hF=>?_
  refine g_val hF rfl rfl rfl hb1112 (r_fieldAddr (off':=3) Tryz.underlying60 rfl in56 rfl hF rfl rfl rfl) rfl rfl fun a hF=>?_
  refine g_val hF rfl rfl rfl hb1112 (r_load1 Tryz.isAgg56 hF rfl rfl (hM.cell (i:=1) rfl (RMark.g_regs _))) rfl rfl fun a hF=>?_
  refine g_val hF rfl rfl rfl hb1112 (r_lenL (LRm.toIn f2 _ (hsub _ (dropM hM 2))) Tryz.underlying56 hF rfl rfl) rfl rfl fun a hF=>?_
  obtain ⟨x1113,hx1113,hP⟩:=bind_some hP
  have h0x1113:=get_some hx1113
  refine g_val hF rfl rfl rfl hb1112 (r_indexZ (sz:=9) ((LRm.full f2) _ (hsub _ (dropM hM 2))) Tryz.underlying56 in128 rfl hF rfl rfl rfl (get_bd hx1113)) rfl rfl fun a hF=>?_
  refine g_val hF rfl rfl rfl hb1112 (r_fieldAddr Tryz.underlying128 rfl in3 rfl hF rfl rfl rfl) rfl rfl fun a hF=>?_
  refine g_val hF rfl rfl rfl hb1112 (r_load1 Tryz.isAgg3 hF rfl rfl (((((LRm.full f2) _ (hsub _ (dropM hM 2))).elemS h0x1113.2)).get 0 (LTurn.g_reg _))) rfl rfl fun a hF=>?_
  refine g_val hF rfl rfl rfl hb1112 (r_neq hF rfl rfl rfl) rfl rfl fun a hF=>?_
  refine s_val hF (r_pick0 hF rfl rfl hb1112 rfl) rfl rfl rfl fun a hF=>?_
  refine s_val hF (r_move hF rfl rfl) rfl rfl rfl fun a hF=>?_
  refine g_split 52 hF rfl (fun hb1114=>?_) (fun hb1114=>?_)
  ·have hP:=Fx.cT hb1114 hP
   refine g_skip hF rfl rfl rfl hb1114 rfl rfl fun a hF=>?_
   refine g_skip hF rfl rfl rfl hb1114 rfl rfl fun a hF=>?_
   refine g_skip hF rfl rfl rfl hb1114 rfl rfl fun a hF=>?_
   refine g_skip hF rfl rfl rfl hb1114 rfl rfl fun a hF=>?_
   refine g_skip hF rfl rfl rfl hb1114 rfl rfl fun a hF=>?_
   refine g_skip hF rfl rfl rfl hb1114 rfl rfl fun a hF=>?_
   refine g_skip hF rfl rfl rfl hb1114 rfl rfl fun a hF=>?_
   refine g_skip hF rfl rfl rfl hb1114 rfl rfl fun a hF=>?_
   refine g_skip hF rfl rfl rfl hb1114 rfl rfl fun a hF=>?_
   refine s_val hF (r_pick1 hF rfl rfl hb1114 rfl) rfl rfl rfl fun a hF=>?_
   refine s_val hF (r_move hF rfl rfl) rfl rfl rfl fun a hF=>?_
   refine g_skip hF rfl rfl rfl rfl rfl rfl fun a hF=>?_
   refine g_skip hF rfl rfl rfl rfl rfl rfl fun a hF=>?_
   refine g_skip hF rfl rfl rfl rfl rfl rfl fun a hF=>?_
   refine g_skip hF rfl rfl rfl rfl rfl rfl fun a hF=>?_
   refine g_skip hF rfl rfl rfl rfl rfl rfl fun a hF=>?_
   refine g_skip hF rfl rfl rfl rfl rfl rfl fun a hF=>?_
   refine g_skip hF rfl rfl rfl rfl rfl rfl fun a hF=>?_
   refine g_skip hF rfl rfl rfl rfl rfl rfl fun a hF=>?_
   refine s_val hF (r_pick1 hF rfl rfl rfl rfl) rfl rfl rfl fun a hF=>?_
   refine s_val hF (r_move hF rfl rfl) rfl rfl rfl fun a hF=>?_
   refine g_skip hF rfl rfl rfl rfl rfl rfl fun a hF=>?_
   refine g_skip hF rfl rfl rfl rfl rfl rfl fun a hF=>?_
   refine g_skip hF rfl rfl rfl rfl rfl rfl fun a hF=>?_
   refine g_skip hF rfl rfl rfl rfl rfl rfl fun a hF=>?_
   refine g_skip hF rfl rfl rfl rfl rfl rfl fun a hF=>?_
   refine g_skip hF rfl rfl rfl rfl rfl rfl fun a hF=>?_
   refine g_skip hF rfl rfl rfl rfl rfl rfl fun a hF=>?_
   refine g_skip hF rfl rfl rfl rfl rfl rfl fun a hF=>?_
   refine g_skip hF rfl rfl rfl rfl rfl rfl fun a hF=>?_
   refine s_val hF (r_pick1 hF rfl rfl rfl rfl) rfl rfl rfl fun a hF=>?_
   refine c_nil (n_then ?_)
   have hP:=Option.some.inj hP
   subst hP
   exact ⟨true,rfl,hF.to ⟨rfl,rfl,rfl,rfl,rfl,trivial⟩,selM hM [1] 2 rfl⟩
  have hP:=Fx.cF hb1114 hP
  refine g_val hF rfl rfl rfl hb1114 (r_move hF rfl rfl) rfl rfl fun a hF=>?_
  refine g_val hF rfl rfl rfl hb1114 (r_fieldAddr (off':=3) Tryz.underlying60 rfl in56 rfl hF rfl rfl rfl) rfl rfl fun a hF=>?_
  refine g_val hF rfl rfl rfl hb1114 (r_load1 Tryz.isAgg56 hF rfl rfl (hM.cell (i:=1) rfl (RMark.g_regs _))) rfl rfl fun a hF=>?_
  refine g_val hF rfl rfl rfl hb1114 (r_lenL (LRm.toIn f2 _ (hsub _ (dropM hM 2))) Tryz.underlying56 hF rfl rfl) rfl rfl fun a hF=>?_
  refine g_val hF rfl rfl rfl hb1114 (r_add hF rfl rfl rfl) rfl rfl fun a hF=>?_
  obtain ⟨x1115,hx1115,hP⟩:=bind_some hP
  have h0x1115:=get_some hx1115
  refine g_val hF rfl rfl rfl hb1114 (r_indexZ (sz:=9) ((LRm.full f2) _ (hsub _ (dropM hM 2))) Tryz.underlying56 in128 rfl hF rfl rfl rfl (get_bd hx1115)) rfl rfl fun a hF=>?_
  refine g_val hF rfl rfl rfl hb1114 (r_fieldAddr Tryz.underlying128 rfl in3 rfl hF rfl rfl rfl) rfl rfl fun a hF=>?_
  refine g_val hF rfl rfl rfl hb1114 (r_load1 Tryz.isAgg3 hF rfl rfl (((((LRm.full f2) _ (hsub _ (dropM hM 2))).elemS h0x1115.2)).get 0 (LTurn.g_reg _))) rfl rfl fun a hF=>?_
  refine g_val hF rfl rfl rfl hb1114 (r_neq hF rfl rfl rfl) rfl rfl fun a hF=>?_
  refine s_val hF (r_pick0 hF rfl rfl hb1114 rfl) rfl rfl rfl fun a hF=>?_
  refine s_val hF (r_move hF rfl rfl) rfl rfl rfl fun a hF=>?_
  refine g_split 63 hF rfl (fun hb1116=>?_) (fun hb1116=>?_)
  ·have hP:=Fx.cT hb1116 hP
   refine g_skip hF rfl rfl rfl hb1116 rfl rfl fun a hF=>?_
   refine g_skip hF rfl rfl rfl hb1116 rfl rfl fun a hF=>?_
   refine g_skip hF rfl rfl rfl hb1116 rfl rfl fun a hF=>?_
   refine g_skip hF rfl rfl rfl hb1116 rfl rfl fun a hF=>?_
   refine g_skip hF rfl rfl rfl hb1116 rfl rfl fun a hF=>?_
   refine g_skip hF rfl rfl rfl hb1116 rfl rfl fun a hF=>?_
   refine g_skip hF rfl rfl rfl hb1116 rfl rfl fun a hF=>?_
   refine g_skip hF rfl rfl rfl hb1116 rfl rfl fun a hF=>?_
   refine s_val hF (r_pick1 hF rfl rfl hb1116 rfl) rfl rfl rfl fun a hF=>?_
   refine s_val hF (r_move hF rfl rfl) rfl rfl rfl fun a hF=>?_
   refine g_skip hF rfl rfl rfl rfl rfl rfl fun a hF=>?_
   refine g_skip hF rfl rfl rfl rfl rfl rfl fun a hF=>?_
   refine g_skip hF rfl rfl rfl rfl rfl rfl fun a hF=>?_
   refine g_skip hF rfl rfl rfl rfl rfl rfl fun a hF=>?_
   refine g_skip hF rfl rfl rfl rfl rfl rfl fun a hF=>?_
   refine g_skip hF rfl rfl rfl rfl rfl rfl fun a hF=>?_
   refine g_skip hF rfl rfl rfl rfl rfl rfl fun a hF=>?_
   refine g_skip hF rfl rfl rfl rfl rfl rfl fun a hF=>?_
   refine g_skip hF rfl rfl rfl rfl rfl rfl fun a hF=>?_
   refine s_val hF (r_pick1 hF rfl rfl rfl rfl) rfl rfl rfl fun a hF=>?_
   refine c_nil (n_then ?_)
   have hP:=Option.some.inj hP
   subst hP
   exact ⟨true,rfl,hF.to ⟨rfl,rfl,rfl,rfl,rfl,trivial⟩,selM hM [1] 2 rfl⟩
  have hP:=Fx.cF hb1116 hP
  refine g_val hF rfl rfl rfl hb1116 (r_move hF rfl rfl) rfl rfl fun a hF=>?_
  refine g_val hF rfl rfl rfl hb1116 (r_fieldAddr (off':=4) Tryz.underlying60 rfl in57 rfl hF rfl rfl rfl) rfl rfl fun a hF=>?_
  refine g_val hF rfl rfl rfl hb1116 (r_load1 Tryz.isAgg57 hF rfl rfl (hM.cell (i:=1) rfl (RMark.g_slots _))) rfl rfl fun a hF=>?_
  refine g_val hF rfl rfl rfl hb1116 (r_lenL (LRm.toIn f4 _ (hsub _ (dropM hM 2))) Tryz.underlying57 hF rfl rfl) rfl rfl fun a hF=>?_
  obtain ⟨x1117,hx1117,hP⟩:=bind_some hP
  have h0x1117:=get_some hx1117
  refine g_val hF rfl rfl rfl hb1116 (r_indexZ (sz:=27) ((LRm.full f4) _ (hsub _ (dropM hM 2))) Tryz.underlying57 in151 rfl hF rfl rfl rfl (get_bd hx1117)) rfl rfl fun a hF=>?_
  refine g_val hF rfl rfl rfl hb1116 (r_fieldAddr Tryz.underlying151 rfl in3 rfl hF rfl rfl rfl) rfl rfl fun a hF=>?_
  refine g_val hF rfl rfl rfl hb1116 (r_load1 Tryz.isAgg3 hF rfl rfl (((((LRm.full f4) _ (hsub _ (dropM hM 2))).elemS h0x1117.2)).get 0 (LCell.g_slot _))) rfl rfl fun a hF=>?_
  refine g_val hF rfl rfl rfl hb1116 (r_neq hF rfl rfl rfl) rfl rfl fun a hF=>?_
  refine s_val hF (r_pick0 hF rfl rfl hb1116 rfl) rfl rfl rfl fun a hF=>?_
  refine s_val hF (r_move hF rfl rfl) rfl rfl rfl fun a hF=>?_
  refine g_split 73 hF rfl (fun hb1118=>?_) (fun hb1118=>?_)
  ·have hP:=Fx.cT hb1118 hP
   refine g_skip hF rfl rfl rfl hb1118 rfl rfl fun a hF=>?_
   refine g_skip hF rfl rfl rfl hb1118 rfl rfl fun a hF=>?_
   refine g_skip hF rfl rfl rfl hb1118 rfl rfl fun a hF=>?_
   refine g_skip hF rfl rfl rfl hb1118 rfl rfl fun a hF=>?_
   refine g_skip hF rfl rfl rfl hb1118 rfl rfl fun a hF=>?_
   refine g_skip hF rfl rfl rfl hb1118 rfl rfl fun a hF=>?_
   refine g_skip hF rfl rfl rfl hb1118 rfl rfl fun a hF=>?_
   refine g_skip hF rfl rfl rfl hb1118 rfl rfl fun a hF=>?_
   refine g_skip hF rfl rfl rfl hb1118 rfl rfl fun a hF=>?_
   refine s_val hF (r_pick1 hF rfl rfl hb1118 rfl) rfl rfl rfl fun a hF=>?_
   refine c_nil (n_then ?_)
   have hP:=Option.some.inj hP
   subst hP
   exact ⟨true,rfl,hF.to ⟨rfl,rfl,rfl,rfl,rfl,trivial⟩,selM hM [1] 2 rfl⟩
  have hP:=Fx.cF hb1118 hP
  refine g_val hF rfl rfl rfl hb1118 (r_move hF rfl rfl) rfl rfl fun a hF=>?_
  refine g_val hF rfl rfl rfl hb1118 (r_fieldAddr (off':=4) Tryz.underlying60 rfl in57 rfl hF rfl rfl rfl) rfl rfl fun a hF=>?_
  refine g_val hF rfl rfl rfl hb1118 (r_load1 Tryz.isAgg57 hF rfl rfl (hM.cell (i:=1) rfl (RMark.g_slots _))) rfl rfl fun a hF=>?_
  refine g_val hF rfl rfl rfl hb1118 (r_lenL (LRm.toIn f4 _ (hsub _ (dropM hM 2))) Tryz.underlying57 hF rfl rfl) rfl rfl fun a hF=>?_
  refine g_val hF rfl rfl rfl hb1118 (r_add hF rfl rfl rfl) rfl rfl fun a hF=>?_
  obtain ⟨x1119,hx1119,hP⟩:=bind_some hP
  have h0x1119:=get_some hx1119
  refine g_val hF rfl rfl rfl hb1118 (r_indexZ (sz:=27) ((LRm.full f4) _ (hsub _ (dropM hM 2))) Tryz.underlying57 in151 rfl hF rfl rfl rfl (get_bd hx1119)) rfl rfl fun a hF=>?_
  refine g_val hF rfl rfl rfl hb1118 (r_fieldAddr Tryz.underlying151 rfl in3 rfl hF rfl rfl rfl) rfl rfl fun a hF=>?_
  refine g_val hF rfl rfl rfl hb1118 (r_load1 Tryz.isAgg3 hF rfl rfl (((((LRm.full f4) _ (hsub _ (dropM hM 2))).elemS h0x1119.2)).get 0 (LCell.g_slot _))) rfl rfl fun a hF=>?_
  refine g_val hF rfl rfl rfl hb1118 (r_neq hF rfl rfl rfl) rfl rfl fun a hF=>?_
  refine s_val hF (r_pick0 hF rfl rfl hb1118 rfl) rfl rfl rfl fun a hF=>?_
  refine c_nil (n_then ?_)
  have hP:=Option.some.inj hP
  subst hP
  exact ⟨(!decide (x1119.slot = (-8))),rfl,hF.to ⟨rfl,rfl,rfl,rfl,rfl,trivial⟩,selM hM [1] 2 rfl⟩
 rintro v1109 a w hP ⟨hF,hM⟩
 replace hP:Sh.rm_backMark_j1 x0 v1109 = _:=hP
 unfold Sh.rm_backMark_j1 at hP
 refine n_then ?_
 refine c_cond hF (c:=.tmp 83) rfl (fun hb1120=>?_) (fun hb1120=>?_)
 ·have hP:=Fx.cT hb1120 hP
  refine c_seq ?_
  refine c_region ?_
  refine s_val hF (r_assign hF rfl rfl) rfl rfl rfl fun a hF=>?_
  refine c_nil (n_then ?_)
  refine c_ret ?_
  have hP:=Option.some.inj hP
  subst hP
  refine e_ret1 Tryz.results63 hF rfl ?_
  exact ⟨rfl,selM hM [] 1 rfl⟩
 have hP:=Fx.cF hb1120 hP
 refine c_skip (n_then ?_)
 refine c_seq ?_
 refine c_seq ?_
 refine c_joinX hF hM hP (fun F x a w=>match x with | v1198=>Fr 147 [(121,.bool v1198),(2,.pointer (some ⟨b_B63_2,0,none⟩)),(4,.bool false)] a ∧ MemL w (pt b_B63_2 (RMark.enc (RMark.mk x0.at_ x0.next x0.done s1 s3 s5 s9)) 60 :: Lr)) (fun o_j2 hP hK_j2 hF hM=>?_) ?_
 ·refine c_region ?_
  refine s_val hF (r_move hF rfl rfl) rfl rfl rfl fun a hF=>?_
  refine s_val hF (r_fieldAddr (off':=6) Tryz.underlying60 rfl in52 rfl hF rfl rfl rfl) rfl rfl rfl fun a hF=>?_
  refine s_val hF (r_load1 Tryz.isAgg52 hF rfl rfl (hM.cell (i:=0) rfl (RMark.g_sent _))) rfl rfl rfl fun a hF=>?_
  refine s_val hF (r_lenL (LRm.toIn f10 _ (hsub _ (dropM hM 1))) Tryz.underlying52 hF rfl rfl) rfl rfl rfl fun a hF=>?_
  obtain ⟨x1199,hx1199,hP⟩:=bind_some hP
  have h0x1199:=get_some hx1199
  refine s_val hF (r_indexZ (sz:=1) ((LRm.full f10) _ (hsub _ (dropM hM 1))) Tryz.underlying52 in3 rfl hF rfl rfl rfl (get_bd hx1199)) rfl rfl rfl fun a hF=>?_
  refine s_val hF (r_load1 Tryz.isAgg3 hF rfl rfl (((((LRm.full f10) _ (hsub _ (dropM hM 1))).elemS h0x1199.2)).get 0 rfl)) rfl rfl rfl fun a hF=>?_
  refine s_val hF (r_neq hF rfl rfl rfl) rfl rfl rfl fun a hF=>?_
  refine s_val hF (r_move hF rfl rfl) rfl rfl rfl fun a hF=>?_
  refine g_split 91 hF rfl (fun hb1200=>?_) (fun hb1200=>?_)
  ·have hP:=Fx.cT hb1200 hP
   refine g_skip hF rfl rfl rfl hb1200 rfl rfl fun a hF=>?_
   refine g_skip hF rfl rfl rfl hb1200 rfl rfl fun a hF=>?_
   refine g_skip hF rfl rfl rfl hb1200 rfl rfl fun a hF=>?_
   refine g_skip hF rfl rfl rfl hb1200 rfl rfl fun a hF=>?_
   refine g_skip hF rfl rfl rfl hb1200 rfl rfl fun a hF=>?_
   refine g_skip hF rfl rfl rfl hb1200 rfl rfl fun a hF=>?_
   refine g_skip hF rfl rfl rfl hb1200 rfl rfl fun a hF=>?_
   refine g_skip hF rfl rfl rfl hb1200 rfl rfl fun a hF=>?_
   refine s_val hF (r_pick1 hF rfl rfl hb1200 rfl) rfl rfl rfl fun a hF=>?_
   refine s_val hF (r_move hF rfl rfl) rfl rfl rfl fun a hF=>?_
   refine g_skip hF rfl rfl rfl rfl rfl rfl fun a hF=>?_
   refine g_skip hF rfl rfl rfl rfl rfl rfl fun a hF=>?_
   refine g_skip hF rfl rfl rfl rfl rfl rfl fun a hF=>?_
   refine g_skip hF rfl rfl rfl rfl rfl rfl fun a hF=>?_
   refine g_skip hF rfl rfl rfl rfl rfl rfl fun a hF=>?_
   refine g_skip hF rfl rfl rfl rfl rfl rfl fun a hF=>?_
   refine g_skip hF rfl rfl rfl rfl rfl rfl fun a hF=>?_
   refine g_skip hF rfl rfl rfl rfl rfl rfl fun a hF=>?_
   refine s_val hF (r_pick1 hF rfl rfl rfl rfl) rfl rfl rfl fun a hF=>?_
   refine s_val hF (r_move hF rfl rfl) rfl rfl rfl fun a hF=>?_
   refine g_skip hF rfl rfl rfl rfl rfl rfl fun a hF=>?_
   refine g_skip hF rfl rfl rfl rfl rfl rfl fun a hF=>?_
   refine g_skip hF rfl rfl rfl rfl rfl rfl fun a hF=>?_
   refine g_skip hF rfl rfl rfl rfl rfl rfl fun a hF=>?_
   refine g_skip hF rfl rfl rfl rfl rfl rfl fun a hF=>?_
   refine g_skip hF rfl rfl rfl rfl rfl rfl fun a hF=>?_
   refine g_skip hF rfl rfl rfl rfl rfl rfl fun a hF=>?_
   refine g_skip hF rfl rfl rfl rfl rfl rfl fun a hF=>?_
   refine g_skip hF rfl rfl rfl rfl rfl rfl fun a hF=>?_
   refine s_val hF (r_pick1 hF rfl rfl rfl rfl) rfl rfl rfl fun a hF=>?_
   refine c_nil (n_then ?_)
   have hP:=Option.some.inj hP
   subst hP
   exact ⟨true,rfl,hF.to ⟨rfl,rfl,rfl,trivial⟩,hM⟩
  have hP:=Fx.cF hb1200 hP
  refine g_val hF rfl rfl rfl hb1200 (r_move hF rfl rfl) rfl rfl fun a hF=>?_
  refine g_val hF rfl rfl rfl hb1200 (r_fieldAddr (off':=6) Tryz.underlying60 rfl in52 rfl hF rfl rfl rfl) rfl rfl fun a hF=>?_
  refine g_val hF rfl rfl rfl hb1200 (r_load1 Tryz.isAgg52 hF rfl rfl (hM.cell (i:=0) rfl (RMark.g_sent _))) rfl rfl fun a hF=>?_
  refine g_val hF rfl rfl rfl hb1200 (r_lenL (LRm.toIn f10 _ (hsub _ (dropM hM 1))) Tryz.underlying52 hF rfl rfl) rfl rfl fun a hF=>?_
  refine g_val hF rfl rfl rfl hb1200 (r_add hF rfl rfl rfl) rfl rfl fun a hF=>?_
  obtain ⟨x1201,hx1201,hP⟩:=bind_some hP
  have h0x1201:=get_some hx1201
  refine g_val hF rfl rfl rfl hb1200 (r_indexZ (sz:=1) ((LRm.full f10) _ (hsub _ (dropM hM 1))) Tryz.underlying52 in3 rfl hF rfl rfl rfl (get_bd hx1201)) rfl rfl fun a hF=>?_
  refine g_val hF rfl rfl rfl hb1200 (r_load1 Tryz.isAgg3 hF rfl rfl (((((LRm.full f10) _ (hsub _ (dropM hM 1))).elemS h0x1201.2)).get 0 rfl)) rfl rfl fun a hF=>?_
  refine g_val hF rfl rfl rfl hb1200 (r_neq hF rfl rfl rfl) rfl rfl fun a hF=>?_
  refine s_val hF (r_pick0 hF rfl rfl hb1200 rfl) rfl rfl rfl fun a hF=>?_
  refine s_val hF (r_move hF rfl rfl) rfl rfl rfl fun a hF=>?_
  refine g_split 101 hF rfl (fun hb1202=>?_) (fun hb1202=>?_)
  ·have hP:=Fx.cT hb1202 hP
   refine g_skip hF rfl rfl rfl hb1202 rfl rfl fun a hF=>?_
   refine g_skip hF rfl rfl rfl hb1202 rfl rfl fun a hF=>?_
   refine g_skip hF rfl rfl rfl hb1202 rfl rfl fun a hF=>?_
   refine g_skip hF rfl rfl rfl hb1202 rfl rfl fun a hF=>?_
   refine g_skip hF rfl rfl rfl hb1202 rfl rfl fun a hF=>?_
   refine g_skip hF rfl rfl rfl hb1202 rfl rfl fun a hF=>?_
   refine g_skip hF rfl rfl rfl hb1202 rfl rfl fun a hF=>?_
   refine g_skip hF rfl rfl rfl hb1202 rfl rfl fun a hF=>?_
   refine s_val hF (r_pick1 hF rfl rfl hb1202 rfl) rfl rfl rfl fun a hF=>?_
   refine s_val hF (r_move hF rfl rfl) rfl rfl rfl fun a hF=>?_
   refine g_skip hF rfl rfl rfl rfl rfl rfl fun a hF=>?_
   refine g_skip hF rfl rfl rfl rfl rfl rfl fun a hF=>?_
   refine g_skip hF rfl rfl rfl rfl rfl rfl fun a hF=>?_
   refine g_skip hF rfl rfl rfl rfl rfl rfl fun a hF=>?_
   refine g_skip hF rfl rfl rfl rfl rfl rfl fun a hF=>?_
   refine g_skip hF rfl rfl rfl rfl rfl rfl fun a hF=>?_
   refine g_skip hF rfl rfl rfl rfl rfl rfl fun a hF=>?_
   refine g_skip hF rfl rfl rfl rfl rfl rfl fun a hF=>?_
   refine g_skip hF rfl rfl rfl rfl rfl rfl fun a hF=>?_
   refine s_val hF (r_pick1 hF rfl rfl rfl rfl) rfl rfl rfl fun a hF=>?_
   refine c_nil (n_then ?_)
   have hP:=Option.some.inj hP
   subst hP
   exact ⟨true,rfl,hF.to ⟨rfl,rfl,rfl,trivial⟩,hM⟩
  have hP:=Fx.cF hb1202 hP
  refine g_val hF rfl rfl rfl hb1202 (r_move hF rfl rfl) rfl rfl fun a hF=>?_
  refine g_val hF rfl rfl rfl hb1202 (r_fieldAddr (off':=5) Tryz.underlying60 rfl in58 rfl hF rfl rfl rfl) rfl rfl fun a hF=>?_
  refine g_val hF rfl rfl rfl hb1202 (r_load1 Tryz.isAgg58 hF rfl rfl (hM.cell (i:=0) rfl (RMark.g_pieces _))) rfl rfl fun a hF=>?_
  refine g_val hF rfl rfl rfl hb1202 (r_lenD (LRm.toIn f7 _ (hsub _ (dropM hM 1))) q8.len Tryz.underlying58 hF rfl rfl) rfl rfl fun a hF=>?_
  obtain ⟨x1203,hx1203,hP⟩:=bind_some hP
  have h0x1203:=get_some hx1203
  obtain ⟨yx1203,hgx1203,hrx1203⟩:=Each.getr (piece_full q8) h0x1203.2
  have hdx1203:=Each.bd (piece_full q8) (get_bd hx1203)
  obtain ⟨s1204,s1206,rfl,f1205,f1207⟩:=hrx1203
  refine g_val hF rfl rfl rfl hb1202 (r_indexZ (sz:=4) ((LRm.full f7) _ (hsub _ (dropM hM 1))) Tryz.underlying58 in156 rfl hF rfl rfl rfl hdx1203) rfl rfl fun a hF=>?_
  refine g_val hF rfl rfl rfl hb1202 (r_fieldAddr Tryz.underlying156 rfl in3 rfl hF rfl rfl rfl) rfl rfl fun a hF=>?_
  refine g_val hF rfl rfl rfl hb1202 (r_load1 Tryz.isAgg3 hF rfl rfl (((((LRm.full f7) _ (hsub _ (dropM hM 1))).elemS hgx1203)).get 1 (RPiece.g_from_ _))) rfl rfl fun a hF=>?_
  refine g_val hF rfl rfl rfl hb1202 (r_neq hF rfl rfl rfl) rfl rfl fun a hF=>?_
  refine s_val hF (r_pick0 hF rfl rfl hb1202 rfl) rfl rfl rfl fun a hF=>?_
  refine s_val hF (r_move hF rfl rfl) rfl rfl rfl fun a hF=>?_
  refine g_split 111 hF rfl (fun hb1208=>?_) (fun hb1208=>?_)
  ·have hP:=Fx.cT hb1208 hP
   refine g_skip hF rfl rfl rfl hb1208 rfl rfl fun a hF=>?_
   refine g_skip hF rfl rfl rfl hb1208 rfl rfl fun a hF=>?_
   refine g_skip hF rfl rfl rfl hb1208 rfl rfl fun a hF=>?_
   refine g_skip hF rfl rfl rfl hb1208 rfl rfl fun a hF=>?_
   refine g_skip hF rfl rfl rfl hb1208 rfl rfl fun a hF=>?_
   refine g_skip hF rfl rfl rfl hb1208 rfl rfl fun a hF=>?_
   refine g_skip hF rfl rfl rfl hb1208 rfl rfl fun a hF=>?_
   refine g_skip hF rfl rfl rfl hb1208 rfl rfl fun a hF=>?_
   refine g_skip hF rfl rfl rfl hb1208 rfl rfl fun a hF=>?_
   refine s_val hF (r_pick1 hF rfl rfl hb1208 rfl) rfl rfl rfl fun a hF=>?_
   refine c_nil (n_then ?_)
   have hP:=Option.some.inj hP
   subst hP
   exact ⟨true,rfl,hF.to ⟨rfl,rfl,rfl,trivial⟩,hM⟩
  have hP:=Fx.cF hb1208 hP
  refine g_val hF rfl rfl rfl hb1208 (r_move hF rfl rfl) rfl rfl fun a hF=>?_
  refine g_val hF rfl rfl rfl hb1208 (r_fieldAddr (off':=5) Tryz.underlying60 rfl in58 rfl hF rfl rfl rfl) rfl rfl fun a hF=>?_
  refine g_val hF rfl rfl rfl hb1208 (r_load1 Tryz.isAgg58 hF rfl rfl (hM.cell (i:=0) rfl (RMark.g_pieces _))) rfl rfl fun a hF=>?_
  refine g_val hF rfl rfl rfl hb1208 (r_lenD (LRm.toIn f7 _ (hsub _ (dropM hM 1))) q8.len Tryz.underlying58 hF rfl rfl) rfl rfl fun a hF=>?_
  refine g_val hF rfl rfl rfl hb1208 (r_add hF rfl rfl rfl) rfl rfl fun a hF=>?_
  obtain ⟨x1209,hx1209,hP⟩:=bind_some hP
  have h0x1209:=get_some hx1209
  obtain ⟨yx1209,hgx1209,hrx1209⟩:=Each.getr (piece_full q8) h0x1209.2
  have hdx1209:=Each.bd (piece_full q8) (get_bd hx1209)
  obtain ⟨s1210,s1212,rfl,f1211,f1213⟩:=hrx1209
  refine g_val hF rfl rfl rfl hb1208 (r_indexZ (sz:=4) ((LRm.full f7) _ (hsub _ (dropM hM 1))) Tryz.underlying58 in156 rfl hF rfl rfl rfl hdx1209) rfl rfl fun a hF=>?_
  refine g_val hF rfl rfl rfl hb1208 (r_fieldAddr Tryz.underlying156 rfl in3 rfl hF rfl rfl rfl) rfl rfl fun a hF=>?_
  refine g_val hF rfl rfl rfl hb1208 (r_load1 Tryz.isAgg3 hF rfl rfl (((((LRm.full f7) _ (hsub _ (dropM hM 1))).elemS hgx1209)).get 1 (RPiece.g_from_ _))) rfl rfl fun a hF=>?_
  refine g_val hF rfl rfl rfl hb1208 (r_neq hF rfl rfl rfl) rfl rfl fun a hF=>?_
  refine s_val hF (r_pick0 hF rfl rfl hb1208 rfl) rfl rfl rfl fun a hF=>?_
  refine c_nil (n_then ?_)
  have hP:=Option.some.inj hP
  subst hP
  exact ⟨(!decide (x1209.from_ = (-8))),rfl,hF.to ⟨rfl,rfl,rfl,trivial⟩,hM⟩
 rintro v1198 a w hP ⟨hF,hM⟩
 replace hP:Sh.rm_backMark_j2 x0 v1198 = _:=hP
 unfold Sh.rm_backMark_j2 at hP
 refine n_then ?_
 refine c_cond hF (c:=.tmp 121) rfl (fun hb1214=>?_) (fun hb1214=>?_)
 ·have hP:=Fx.cT hb1214 hP
  refine c_seq ?_
  refine c_region ?_
  refine s_val hF (r_assign hF rfl rfl) rfl rfl rfl fun a hF=>?_
  refine c_nil (n_then ?_)
  refine c_ret ?_
  have hP:=Option.some.inj hP
  subst hP
  refine e_ret1 Tryz.results63 hF rfl ?_
  exact ⟨rfl,selM hM [] 1 rfl⟩
 have hP:=Fx.cF hb1214 hP
 refine c_skip (n_then ?_)
 refine c_seq ?_
 refine c_joinX hF hM hP (fun F x a w=>match x with | _=>Fr 147 [(4,.bool false)] a ∧ MemL w (Lr)) (fun o_j3 hP hK_j3 hF hM=>?_) ?_
 ·refine c_seq ?_
  refine c_region ?_
  refine s_val hF (r_assign hF rfl rfl) rfl rfl rfl fun a hF=>?_
  refine c_nil (n_then ?_)
  refine c_block ?_
  refine c_loopX hF hM hP (fun F x a w=>match x with | v1988=>Fr 147 [(9,.int .i64 v1988),(2,.pointer (some ⟨b_B63_2,0,none⟩)),(4,.bool false)] a ∧ MemL w (pt b_B63_2 (RMark.enc (RMark.mk x0.at_ x0.next x0.done s1 s3 s5 s9)) 60 :: Lr)) (fun hF hM=>⟨hF.to ⟨rfl,rfl,rfl,trivial⟩,hM⟩) ?_
  rintro v1988 a w o_l4 hP hK_l4 ⟨hF,hM⟩
  replace hP:Sh.rm_backMark_l4 x0 v1988 = _:=hP
  unfold Sh.rm_backMark_l4 at hP
  refine c_seq ?_
  refine c_seq ?_
  refine c_region ?_
  refine s_val hF (r_move hF rfl rfl) rfl rfl rfl fun a hF=>?_
  refine s_val hF (r_fieldAddr (off':=5) Tryz.underlying60 rfl in58 rfl hF rfl rfl rfl) rfl rfl rfl fun a hF=>?_
  refine s_val hF (r_load1 Tryz.isAgg58 hF rfl rfl (hM.cell (i:=0) rfl (RMark.g_pieces _))) rfl rfl rfl fun a hF=>?_
  refine s_val hF (r_lenD (LRm.toIn f7 _ (hsub _ (dropM hM 1))) q8.len Tryz.underlying58 hF rfl rfl) rfl rfl rfl fun a hF=>?_
  refine s_val hF (r_lss hF rfl rfl rfl) rfl rfl rfl fun a hF=>?_
  refine c_nil (n_then ?_)
  refine c_cond hF (c:=.tmp 126) rfl (fun hb1990=>?_) (fun hb1990=>?_)
  ·have hP:=Fx.cT hb1990 hP
   refine c_skip (n_then ?_)
   refine c_seq ?_
   refine c_block ?_
   refine c_seq ?_
   refine c_joinX hF hM hP (fun F x a w=>match x with | v2068=>Fr 147 [(146,.bool v2068),(2,.pointer (some ⟨b_B63_2,0,none⟩)),(4,.bool false),(9,.int .i64 v1988)] a ∧ MemL w (pt b_B63_2 (RMark.enc (RMark.mk x0.at_ x0.next x0.done s1 s3 s5 s9)) 60 :: Lr)) (fun o_j5 hP hK_j5 hF hM=>?_) ?_
   ·refine c_region ?_
    refine s_val hF (r_fieldAddr (off':=5) Tryz.underlying60 rfl in58 rfl hF rfl rfl rfl) rfl rfl rfl fun a hF=>?_
    refine s_val hF (r_load1 Tryz.isAgg58 hF rfl rfl (hM.cell (i:=0) rfl (RMark.g_pieces _))) rfl rfl rfl fun a hF=>?_
    refine s_val hF (r_move hF rfl rfl) rfl rfl rfl fun a hF=>?_
    obtain ⟨x2069,hx2069,hP⟩:=bind_some hP
    have h0x2069:=get_some hx2069
    obtain ⟨yx2069,hgx2069,hrx2069⟩:=Each.getr q8 h0x2069.2
    have hdx2069:=Each.bd q8 (get_bd hx2069)
    obtain ⟨s2070,s2072,rfl,f2071,f2073⟩:=hrx2069
    refine s_val hF (r_indexZ (sz:=4) (LRm.toIn f7 _ (hsub _ (dropM hM 1))) Tryz.underlying58 in156 rfl hF rfl rfl rfl hdx2069) rfl rfl rfl fun a hF=>?_
    refine s_val hF (r_fieldAddr Tryz.underlying156 rfl in23 rfl hF rfl rfl rfl) rfl rfl rfl fun a hF=>?_
    refine s_val hF (r_load1 Tryz.isAgg23 hF rfl rfl ((((LRm.toIn f7 _ (hsub _ (dropM hM 1))).elemS hgx2069)).get 2 (RPiece.g_old _))) rfl rfl rfl fun a hF=>?_
    obtain ⟨y2075,hy2075,hP⟩:=bind_some hP
    refine s_eff hF rfl rfl rfl (w_call (xs:=[.tmp 134]) Tryz.call93 hF rfl rfl (rm_kept_calls hy2075 hM (Bf:=Bf) (fun w hM=>hsub _ (dropM hM 1)) f2071) fun v w hR=>?_)
    obtain ⟨rfl,hM⟩:=hR
    replace hM:MemL _ (pt b_B63_2 (RMark.enc (RMark.mk x0.at_ x0.next x0.done s1 s3 s5 s9)) 60 :: Lr):=hM
    intro a hF
    refine s_val hF (r_not hF rfl rfl) rfl rfl rfl fun a hF=>?_
    refine s_val hF (r_move hF rfl rfl) rfl rfl rfl fun a hF=>?_
    refine g_split 137 hF rfl (fun hb2076=>?_) (fun hb2076=>?_)
    ·have hP:=Fx.cT hb2076 hP
     refine g_skip hF rfl rfl rfl hb2076 rfl rfl fun a hF=>?_
     refine g_skip hF rfl rfl rfl hb2076 rfl rfl fun a hF=>?_
     refine g_skip hF rfl rfl rfl hb2076 rfl rfl fun a hF=>?_
     refine g_skip hF rfl rfl rfl hb2076 rfl rfl fun a hF=>?_
     refine g_skip hF rfl rfl rfl hb2076 rfl rfl fun a hF=>?_
     refine g_skip hF rfl rfl rfl hb2076 rfl rfl fun a hF=>?_
     refine g_skip hF rfl rfl rfl hb2076 rfl rfl fun a hF=>?_
     refine g_skip hF rfl rfl rfl hb2076 rfl rfl fun a hF=>?_
     refine s_val hF (r_pick1 hF rfl rfl hb2076 rfl) rfl rfl rfl fun a hF=>?_
     refine c_nil (n_then ?_)
     have hP:=Option.some.inj hP
     subst hP
     exact ⟨true,rfl,hF.to ⟨rfl,rfl,rfl,rfl,trivial⟩,hM⟩
    have hP:=Fx.cF hb2076 hP
    refine g_val hF rfl rfl rfl hb2076 (r_fieldAddr (off':=5) Tryz.underlying60 rfl in58 rfl hF rfl rfl rfl) rfl rfl fun a hF=>?_
    refine g_val hF rfl rfl rfl hb2076 (r_load1 Tryz.isAgg58 hF rfl rfl (hM.cell (i:=0) rfl (RMark.g_pieces _))) rfl rfl fun a hF=>?_
    refine g_val hF rfl rfl rfl hb2076 (r_move hF rfl rfl) rfl rfl fun a hF=>?_
    obtain ⟨x2077,hx2077,hP⟩:=bind_some hP
    have h0x2077:=get_some hx2077
    obtain ⟨yx2077,hgx2077,hrx2077⟩:=Each.getr q8 h0x2077.2
    have hdx2077:=Each.bd q8 (get_bd hx2077)
    obtain ⟨s2078,s2080,rfl,f2079,f2081⟩:=hrx2077
    refine g_val hF rfl rfl rfl hb2076 (r_indexZ (sz:=4) (LRm.toIn f7 _ (hsub _ (dropM hM 1))) Tryz.underlying58 in156 rfl hF rfl rfl rfl hdx2077) rfl rfl fun a hF=>?_
    refine g_val hF rfl rfl rfl hb2076 (r_fieldAddr Tryz.underlying156 rfl in23 rfl hF rfl rfl rfl) rfl rfl fun a hF=>?_
    refine g_val hF rfl rfl rfl hb2076 (r_load1 Tryz.isAgg23 hF rfl rfl ((((LRm.toIn f7 _ (hsub _ (dropM hM 1))).elemS hgx2077)).get 3 (RPiece.g_new _))) rfl rfl fun a hF=>?_
    obtain ⟨y2083,hy2083,hP⟩:=bind_some hP
    refine g_eff hF rfl rfl rfl hb2076 rfl rfl (w_call (xs:=[.tmp 143]) Tryz.call93 hF rfl rfl (rm_kept_calls hy2083 hM (Bf:=Bf) (fun w hM=>hsub _ (dropM hM 1)) f2081) fun v w hR=>?_)
    obtain ⟨rfl,hM⟩:=hR
    replace hM:MemL _ (pt b_B63_2 (RMark.enc (RMark.mk x0.at_ x0.next x0.done s1 s3 s5 s9)) 60 :: Lr):=hM
    intro a hF
    refine g_val hF rfl rfl rfl hb2076 (r_not hF rfl rfl) rfl rfl fun a hF=>?_
    refine s_val hF (r_pick0 hF rfl rfl hb2076 rfl) rfl rfl rfl fun a hF=>?_
    refine c_nil (n_then ?_)
    have hP:=Option.some.inj hP
    subst hP
    exact ⟨(!y2083),rfl,hF.to ⟨rfl,rfl,rfl,rfl,trivial⟩,hM⟩
   rintro v2068 a w hP ⟨hF,hM⟩
   replace hP:Sh.rm_backMark_j5 v1988 v2068 = _:=hP
   unfold Sh.rm_backMark_j5 at hP
   refine n_then ?_
   refine c_cond hF (c:=.tmp 146) rfl (fun hb2084=>?_) (fun hb2084=>?_)
   ·have hP:=Fx.cT hb2084 hP
    refine c_seq ?_
    refine c_region ?_
    refine s_val hF (r_assign hF rfl rfl) rfl rfl rfl fun a hF=>?_
    refine c_nil (n_then ?_)
    refine c_ret ?_
    have hP:=Option.some.inj hP
    subst hP
    have hP:=hK_l4 _ rfl
    subst hP
    have hP:=fin_inr hK_j3
    subst hP
    refine e_ret1 Tryz.results63 hF rfl ?_
    exact ⟨rfl,selM hM [] 1 rfl⟩
   have hP:=Fx.cF hb2084 hP
   refine c_skip (n_block (n_then ?_))
   refine c_region ?_
   refine s_val hF (r_move hF rfl rfl) rfl rfl rfl fun a hF=>?_
   refine s_val hF (r_add hF rfl rfl rfl) rfl rfl rfl fun a hF=>?_
   refine s_val hF (r_assign hF rfl rfl) rfl rfl rfl fun a hF=>?_
   refine c_nil (n_then ?_)
   have hP:=Option.some.inj hP
   subst hP
   exact ⟨(IntKind.i64.wrap (v1988 + 1)),rfl,hF.to ⟨rfl,rfl,rfl,trivial⟩,hM⟩
  have hP:=Fx.cF hb1990 hP
  refine c_exit (x_then (x_then (x_hit ?_)))
  refine n_then ?_
  have hP:=Option.some.inj hP
  subst hP
  have hP:=hK_l4 _ rfl
  subst hP
  exact ⟨(),rfl,hF.to ⟨rfl,trivial⟩,selM hM [] 1 rfl⟩
 rintro ⟨⟩ a w hP ⟨hF,hM⟩
 replace hP:Sh.rm_backMark_j3 = _:=hP
 unfold Sh.rm_backMark_j3 at hP
 refine n_then ?_
 refine c_seq ?_
 refine c_region ?_
 refine s_val hF (r_assign hF rfl rfl) rfl rfl rfl fun a hF=>?_
 refine c_nil (n_then ?_)
 refine c_ret ?_
 have hP:=Option.some.inj hP
 subst hP
 refine e_ret1 Tryz.results63 hF rfl ?_
 exact ⟨rfl,hM⟩
set_option maxHeartbeats 4000000 in
theorem rm_back_calls {x0:QRecord} {x1:QRecord} {s1:SV} {s3:SV} {hs4:List SV} {s7:SV} {hs8:List RMark} {s11:SV} {s13:SV} {hs14:List SV} {s17:SV} {hs18:List RMark} {out:Bool} {w0:World} {Bf:World → Prop} {Lr:List Res} (hP:Sh.rm_back x0 x1 = some out) (hM:MemL w0 (Lr)) (hsub:∀ w,MemL w Lr → Bf w) (f2:LRm Bf s1 x0.in_.ctx spU8) (f5:LIn Bf s3 hs4) (q6:Each (BytesRm Bf) hs4 x0.in_.tables) (f9:LRm Bf s7 hs8 hspMark) (q10:Each (QMarkRm Bf) hs8 x0.marks) (f12:LIn Bf s11 x1.in_.ctx) (f15:LIn Bf s13 hs14) (q16:Each (LIn (X:=UInt8) Bf) hs14 x1.in_.tables) (f19:LIn Bf s17 hs18) (q20:Each (QMarkIn Bf) hs18 x1.marks):Calls Tryz.prog 38 #[.agg (RRecord.enc (RRecord.mk (RInput.mk s1 s3) s7 x0.end_)).toArray,.agg (RRecord.enc (RRecord.mk (RInput.mk s11 s13) s17 x1.end_)).toArray] w0 (Ret fun v w'=>v = .bool out ∧ MemL w' (Lr)):=by
 unfold Sh.rm_back at hP
 refine calls_enter (vs:=[.agg (RRecord.enc (RRecord.mk (RInput.mk s1 s3) s7 x0.end_)).toArray,.agg (RRecord.enc (RRecord.mk (RInput.mk s11 s13) s17 x1.end_)).toArray]) Tryz.func38 rfl Tryz.ntmps38 rfl fun a hF=>?_
 refine c_seq ?_
 refine c_region ?_
 refine s_eff hF rfl rfl rfl (w_box hF rfl rfl rfl fun b_B38_2 w hzB38_2 hAB38_2=>?_)
 have hM:=hM.plus hAB38_2
 replace hM:MemL _ (pt b_B38_2 (RRecord.enc (RRecord.mk (RInput.mk s1 s3) s7 x0.end_)) 36 :: Lr):=hM
 intro a hF
 refine s_eff hF rfl rfl rfl (w_box hF rfl rfl rfl fun b_B38_3 w hzB38_3 hAB38_3=>?_)
 have hM:=hM.plus hAB38_3
 replace hM:MemL _ (pt b_B38_3 (RRecord.enc (RRecord.mk (RInput.mk s11 s13) s17 x1.end_)) 36 :: pt b_B38_2 (RRecord.enc (RRecord.mk (RInput.mk s1 s3) s7 x0.end_)) 36 :: Lr):=hM
 intro a hF
 refine s_val hF (r_assign hF rfl rfl) rfl rfl rfl fun a hF=>?_
 refine c_nil (n_then ?_)
 refine c_seq ?_
 refine c_region ?_
 refine s_val hF (r_fieldAddr (off':=2) Tryz.underlying36 rfl in33 rfl hF rfl rfl rfl) rfl rfl rfl fun a hF=>?_
 refine s_val hF (r_load1 Tryz.isAgg33 hF rfl rfl (hM.cell (i:=1) rfl (RRecord.g_marks _))) rfl rfl rfl fun a hF=>?_
 refine s_val hF (r_fieldAddr (off':=2) Tryz.underlying36 rfl in33 rfl hF rfl rfl rfl) rfl rfl rfl fun a hF=>?_
 refine s_val hF (r_load1 Tryz.isAgg33 hF rfl rfl (hM.cell (i:=1) rfl (RRecord.g_marks _))) rfl rfl rfl fun a hF=>?_
 refine s_val hF (r_lenD (LRm.toIn f9 _ (hsub _ (dropM hM 2))) q10.len Tryz.underlying33 hF rfl rfl) rfl rfl rfl fun a hF=>?_
 refine s_val hF (r_add hF rfl rfl rfl) rfl rfl rfl fun a hF=>?_
 obtain ⟨hc1202,hP⟩:=must_some hP
 refine s_val hF (r_cutRm (f9 _ (hsub _ (dropM hM 2))) Tryz.underlying33 in60 hF rfl rfl rfl (by rw [q10.len]; exact hc1202)) rfl rfl rfl fun a hF=>?_
 refine s_val hF (r_assign hF rfl rfl) rfl rfl rfl fun a hF=>?_
 refine c_nil (n_then ?_)
 refine c_seq ?_
 refine c_seq ?_
 refine c_joinX hF hM hP (fun F x a w=>match x with | v1350=>Fr 82 [(46,.bool v1350),(2,.pointer (some ⟨b_B38_2,0,none⟩)),(3,.pointer (some ⟨b_B38_3,0,none⟩)),(4,.bool false)] a ∧ MemL w (pt b_B38_3 (RRecord.enc (RRecord.mk (RInput.mk s11 s13) s17 x1.end_)) 36 :: pt b_B38_2 (RRecord.enc (RRecord.mk (RInput.mk s1 s3) s7 x0.end_)) 36 :: Lr)) (fun o_j1 hP hK_j1 hF hM=>?_) ?_
 ·refine c_region ?_
  refine s_val hF (r_loadn Tryz.isAgg36 Tryz.sizeOf36 hF rfl rfl (RRecord.len _) (hM.cells (i:=1) rfl (cut_all (RRecord.len _)))) rfl rfl rfl fun a hF=>?_
  refine s_val hF (r_loadn Tryz.isAgg36 Tryz.sizeOf36 hF rfl rfl (RRecord.len _) (hM.cells (i:=0) rfl (cut_all (RRecord.len _)))) rfl rfl rfl fun a hF=>?_
  obtain ⟨y1352,hy1352,hP⟩:=bind_some hP
  refine s_eff hF rfl rfl rfl (w_call (xs:=[.tmp 15,.tmp 16]) Tryz.call27 hF rfl rfl (law23_sameRecord_calls hy1352 hM (Bf:=Bf) (fun w hM=>hsub _ (dropM hM 2)) (LRm.toIn f2) f5 (q6.mono fun _ _ q=>q.toIn) (LRm.toIn f9) (q10.mono fun _ _ q=>q.toIn) f12 f15 q16 f19 q20) fun v w hR=>?_)
  obtain ⟨rfl,hM⟩:=hR
  replace hM:MemL _ (pt b_B38_3 (RRecord.enc (RRecord.mk (RInput.mk s11 s13) s17 x1.end_)) 36 :: pt b_B38_2 (RRecord.enc (RRecord.mk (RInput.mk s1 s3) s7 x0.end_)) 36 :: Lr):=hM
  intro a hF
  refine s_val hF (r_not hF rfl rfl) rfl rfl rfl fun a hF=>?_
  refine s_val hF (r_move hF rfl rfl) rfl rfl rfl fun a hF=>?_
  refine g_split 19 hF rfl (fun hb1353=>?_) (fun hb1353=>?_)
  ·have hP:=Fx.cT hb1353 hP
   refine g_skip hF rfl rfl rfl hb1353 rfl rfl fun a hF=>?_
   refine g_skip hF rfl rfl rfl hb1353 rfl rfl fun a hF=>?_
   refine g_skip hF rfl rfl rfl hb1353 rfl rfl fun a hF=>?_
   refine g_skip hF rfl rfl rfl hb1353 rfl rfl fun a hF=>?_
   refine g_skip hF rfl rfl rfl hb1353 rfl rfl fun a hF=>?_
   refine g_skip hF rfl rfl rfl hb1353 rfl rfl fun a hF=>?_
   refine g_skip hF rfl rfl rfl hb1353 rfl rfl fun a hF=>?_
   refine g_skip hF rfl rfl rfl hb1353 rfl rfl fun a hF=>?_
   refine s_val hF (r_pick1 hF rfl rfl hb1353 rfl) rfl rfl rfl fun a hF=>?_
   refine s_val hF (r_move hF rfl rfl) rfl rfl rfl fun a hF=>?_
   refine g_skip hF rfl rfl rfl rfl rfl rfl fun a hF=>?_
   refine g_skip hF rfl rfl rfl rfl rfl rfl fun a hF=>?_
   refine g_skip hF rfl rfl rfl rfl rfl rfl fun a hF=>?_
   refine g_skip hF rfl rfl rfl rfl rfl rfl fun a hF=>?_
   refine g_skip hF rfl rfl rfl rfl rfl rfl fun a hF=>?_
   refine g_skip hF rfl rfl rfl rfl rfl rfl fun a hF=>?_
   refine g_skip hF rfl rfl rfl rfl rfl rfl fun a hF=>?_
   refine g_skip hF rfl rfl rfl rfl rfl rfl fun a hF=>?_
   refine g_skip hF rfl rfl rfl rfl rfl rfl fun a hF=>?_
   refine s_val hF (r_pick1 hF rfl rfl rfl rfl) rfl rfl rfl fun a hF=>?_
   refine s_val hF (r_move hF rfl rfl) rfl rfl rfl fun a hF=>?_
   refine g_skip hF rfl rfl rfl rfl rfl rfl fun a hF=>?_
   refine g_skip hF rfl rfl rfl rfl rfl rfl fun a hF=>?_
   refine g_skip hF rfl rfl rfl rfl rfl rfl fun a hF=>?_
   refine g_skip hF rfl rfl rfl rfl rfl rfl fun a hF=>?_
   refine g_skip hF rfl rfl rfl rfl rfl rfl fun a hF=>?_
   refine s_val hF (r_pick1 hF rfl rfl rfl rfl) rfl rfl rfl fun a hF=>?_
   refine c_nil (n_then ?_)
   have hP:=Option.some.inj hP
   subst hP
   exact ⟨true,rfl,hF.to ⟨rfl,rfl,rfl,rfl,trivial⟩,hM⟩
  have hP:=Fx.cF hb1353 hP
  refine g_val hF rfl rfl rfl hb1353 (r_move hF rfl rfl) rfl rfl fun a hF=>?_
  refine g_val hF rfl rfl rfl hb1353 (r_fieldAddr (off':=2) Tryz.underlying36 rfl in33 rfl hF rfl rfl rfl) rfl rfl fun a hF=>?_
  refine g_val hF rfl rfl rfl hb1353 (r_load1 Tryz.isAgg33 hF rfl rfl (hM.cell (i:=1) rfl (RRecord.g_marks _))) rfl rfl fun a hF=>?_
  refine g_val hF rfl rfl rfl hb1353 (r_lenD (LRm.toIn f9 _ (hsub _ (dropM hM 2))) q10.len Tryz.underlying33 hF rfl rfl) rfl rfl fun a hF=>?_
  obtain ⟨x1354,hx1354,hP⟩:=bind_some hP
  have h0x1354:=get_some hx1354
  obtain ⟨yx1354,hgx1354,hrx1354⟩:=Each.getr (mark_full q10) h0x1354.2
  have hdx1354:=Each.bd (mark_full q10) (get_bd hx1354)
  obtain ⟨s1355,s1357,s1359,hs1360,s1363,rfl,f1356,f1358,f1361,q1362,f1364⟩:=hrx1354
  refine g_val hF rfl rfl rfl hb1353 (r_indexZ (sz:=7) ((LRm.full f9) _ (hsub _ (dropM hM 2))) Tryz.underlying33 in60 rfl hF rfl rfl rfl hdx1354) rfl rfl fun a hF=>?_
  refine g_val hF rfl rfl rfl hb1353 (r_fieldAddr Tryz.underlying60 rfl in3 rfl hF rfl rfl rfl) rfl rfl fun a hF=>?_
  refine g_val hF rfl rfl rfl hb1353 (r_load1 Tryz.isAgg3 hF rfl rfl (((((LRm.full f9) _ (hsub _ (dropM hM 2))).elemS hgx1354)).get 0 (RMark.g_at_ _))) rfl rfl fun a hF=>?_
  refine g_val hF rfl rfl rfl hb1353 (r_neq hF rfl rfl rfl) rfl rfl fun a hF=>?_
  refine s_val hF (r_pick0 hF rfl rfl hb1353 rfl) rfl rfl rfl fun a hF=>?_
  refine s_val hF (r_move hF rfl rfl) rfl rfl rfl fun a hF=>?_
  refine g_split 29 hF rfl (fun hb1365=>?_) (fun hb1365=>?_)
  ·have hP:=Fx.cT hb1365 hP
   refine g_skip hF rfl rfl rfl hb1365 rfl rfl fun a hF=>?_
   refine g_skip hF rfl rfl rfl hb1365 rfl rfl fun a hF=>?_
   refine g_skip hF rfl rfl rfl hb1365 rfl rfl fun a hF=>?_
   refine g_skip hF rfl rfl rfl hb1365 rfl rfl fun a hF=>?_
   refine g_skip hF rfl rfl rfl hb1365 rfl rfl fun a hF=>?_
   refine g_skip hF rfl rfl rfl hb1365 rfl rfl fun a hF=>?_
   refine g_skip hF rfl rfl rfl hb1365 rfl rfl fun a hF=>?_
   refine g_skip hF rfl rfl rfl hb1365 rfl rfl fun a hF=>?_
   refine g_skip hF rfl rfl rfl hb1365 rfl rfl fun a hF=>?_
   refine s_val hF (r_pick1 hF rfl rfl hb1365 rfl) rfl rfl rfl fun a hF=>?_
   refine s_val hF (r_move hF rfl rfl) rfl rfl rfl fun a hF=>?_
   refine g_skip hF rfl rfl rfl rfl rfl rfl fun a hF=>?_
   refine g_skip hF rfl rfl rfl rfl rfl rfl fun a hF=>?_
   refine g_skip hF rfl rfl rfl rfl rfl rfl fun a hF=>?_
   refine g_skip hF rfl rfl rfl rfl rfl rfl fun a hF=>?_
   refine g_skip hF rfl rfl rfl rfl rfl rfl fun a hF=>?_
   refine s_val hF (r_pick1 hF rfl rfl rfl rfl) rfl rfl rfl fun a hF=>?_
   refine c_nil (n_then ?_)
   have hP:=Option.some.inj hP
   subst hP
   exact ⟨true,rfl,hF.to ⟨rfl,rfl,rfl,rfl,trivial⟩,hM⟩
  have hP:=Fx.cF hb1365 hP
  refine g_val hF rfl rfl rfl hb1365 (r_move hF rfl rfl) rfl rfl fun a hF=>?_
  refine g_val hF rfl rfl rfl hb1365 (r_fieldAddr (off':=2) Tryz.underlying36 rfl in33 rfl hF rfl rfl rfl) rfl rfl fun a hF=>?_
  refine g_val hF rfl rfl rfl hb1365 (r_load1 Tryz.isAgg33 hF rfl rfl (hM.cell (i:=1) rfl (RRecord.g_marks _))) rfl rfl fun a hF=>?_
  refine g_val hF rfl rfl rfl hb1365 (r_lenD (LRm.toIn f9 _ (hsub _ (dropM hM 2))) q10.len Tryz.underlying33 hF rfl rfl) rfl rfl fun a hF=>?_
  refine g_val hF rfl rfl rfl hb1365 (r_add hF rfl rfl rfl) rfl rfl fun a hF=>?_
  obtain ⟨x1366,hx1366,hP⟩:=bind_some hP
  have h0x1366:=get_some hx1366
  obtain ⟨yx1366,hgx1366,hrx1366⟩:=Each.getr (mark_full q10) h0x1366.2
  have hdx1366:=Each.bd (mark_full q10) (get_bd hx1366)
  obtain ⟨s1367,s1369,s1371,hs1372,s1375,rfl,f1368,f1370,f1373,q1374,f1376⟩:=hrx1366
  refine g_val hF rfl rfl rfl hb1365 (r_indexZ (sz:=7) ((LRm.full f9) _ (hsub _ (dropM hM 2))) Tryz.underlying33 in60 rfl hF rfl rfl rfl hdx1366) rfl rfl fun a hF=>?_
  refine g_val hF rfl rfl rfl hb1365 (r_fieldAddr Tryz.underlying60 rfl in3 rfl hF rfl rfl rfl) rfl rfl fun a hF=>?_
  refine g_val hF rfl rfl rfl hb1365 (r_load1 Tryz.isAgg3 hF rfl rfl (((((LRm.full f9) _ (hsub _ (dropM hM 2))).elemS hgx1366)).get 0 (RMark.g_at_ _))) rfl rfl fun a hF=>?_
  refine g_val hF rfl rfl rfl hb1365 (r_neq hF rfl rfl rfl) rfl rfl fun a hF=>?_
  refine s_val hF (r_pick0 hF rfl rfl hb1365 rfl) rfl rfl rfl fun a hF=>?_
  refine s_val hF (r_move hF rfl rfl) rfl rfl rfl fun a hF=>?_
  refine g_split 40 hF rfl (fun hb1377=>?_) (fun hb1377=>?_)
  ·have hP:=Fx.cT hb1377 hP
   refine g_skip hF rfl rfl rfl hb1377 rfl rfl fun a hF=>?_
   refine g_skip hF rfl rfl rfl hb1377 rfl rfl fun a hF=>?_
   refine g_skip hF rfl rfl rfl hb1377 rfl rfl fun a hF=>?_
   refine g_skip hF rfl rfl rfl hb1377 rfl rfl fun a hF=>?_
   refine g_skip hF rfl rfl rfl hb1377 rfl rfl fun a hF=>?_
   refine s_val hF (r_pick1 hF rfl rfl hb1377 rfl) rfl rfl rfl fun a hF=>?_
   refine c_nil (n_then ?_)
   have hP:=Option.some.inj hP
   subst hP
   exact ⟨true,rfl,hF.to ⟨rfl,rfl,rfl,rfl,trivial⟩,hM⟩
  have hP:=Fx.cF hb1377 hP
  refine g_val hF rfl rfl rfl hb1377 (r_fieldAddr (off':=0) Tryz.underlying36 rfl in30 rfl hF rfl rfl rfl) rfl rfl fun a hF=>?_
  refine g_val hF rfl rfl rfl hb1377 (r_fieldAddr (off':=0) Tryz.underlying30 rfl in23 rfl hF rfl rfl rfl) rfl rfl fun a hF=>?_
  refine g_val hF rfl rfl rfl hb1377 (r_load1 Tryz.isAgg23 hF rfl rfl ((hM.cells (i:=1) rfl (RRecord.c_in_ _)).get 0 (RInput.g_ctx _))) rfl rfl fun a hF=>?_
  obtain ⟨y1379,hy1379,hP⟩:=bind_some hP
  refine g_eff hF rfl rfl rfl hb1377 rfl rfl (w_call (xs:=[.tmp 43]) Tryz.call93 hF rfl rfl (rm_kept_calls hy1379 hM (Bf:=Bf) (fun w hM=>hsub _ (dropM hM 2)) f2) fun v w hR=>?_)
  obtain ⟨rfl,hM⟩:=hR
  replace hM:MemL _ (pt b_B38_3 (RRecord.enc (RRecord.mk (RInput.mk s11 s13) s17 x1.end_)) 36 :: pt b_B38_2 (RRecord.enc (RRecord.mk (RInput.mk s1 s3) s7 x0.end_)) 36 :: Lr):=hM
  intro a hF
  refine g_val hF rfl rfl rfl hb1377 (r_not hF rfl rfl) rfl rfl fun a hF=>?_
  refine s_val hF (r_pick0 hF rfl rfl hb1377 rfl) rfl rfl rfl fun a hF=>?_
  refine c_nil (n_then ?_)
  have hP:=Option.some.inj hP
  subst hP
  exact ⟨(!y1379),rfl,hF.to ⟨rfl,rfl,rfl,rfl,trivial⟩,hM⟩
 rintro v1350 a w hP ⟨hF,hM⟩
 replace hP:Sh.rm_back_j1 x0 x1 v1350 = _:=hP
 unfold Sh.rm_back_j1 at hP
 refine n_then ?_
 refine c_cond hF (c:=.tmp 46) rfl (fun hb1380=>?_) (fun hb1380=>?_)
 ·have hP:=Fx.cT hb1380 hP
  refine c_seq ?_
  refine c_region ?_
  refine s_val hF (r_assign hF rfl rfl) rfl rfl rfl fun a hF=>?_
  refine c_nil (n_then ?_)
  refine c_ret ?_
  have hP:=Option.some.inj hP
  subst hP
  refine e_ret1 Tryz.results38 hF rfl ?_
  exact ⟨rfl,selM hM [] 2 rfl⟩
 have hP:=Fx.cF hb1380 hP
 refine c_skip (n_then ?_)
 refine c_seq ?_
 refine c_joinX hF hM hP (fun F x a w=>match x with | _=>Fr 82 [(2,.pointer (some ⟨b_B38_2,0,none⟩)),(3,.pointer (some ⟨b_B38_3,0,none⟩)),(4,.bool false)] a ∧ MemL w (pt b_B38_3 (RRecord.enc (RRecord.mk (RInput.mk s11 s13) s17 x1.end_)) 36 :: pt b_B38_2 (RRecord.enc (RRecord.mk (RInput.mk s1 s3) s7 x0.end_)) 36 :: Lr)) (fun o_j2 hP hK_j2 hF hM=>?_) ?_
 ·refine c_seq ?_
  refine c_region ?_
  refine s_val hF (r_assign hF rfl rfl) rfl rfl rfl fun a hF=>?_
  refine c_nil (n_then ?_)
  refine c_block ?_
  refine c_loopX hF hM hP (fun F x a w=>match x with | v1466=>Fr 82 [(6,.int .i64 v1466),(2,.pointer (some ⟨b_B38_2,0,none⟩)),(3,.pointer (some ⟨b_B38_3,0,none⟩)),(4,.bool false)] a ∧ MemL w (pt b_B38_3 (RRecord.enc (RRecord.mk (RInput.mk s11 s13) s17 x1.end_)) 36 :: pt b_B38_2 (RRecord.enc (RRecord.mk (RInput.mk s1 s3) s7 x0.end_)) 36 :: Lr)) (fun hF hM=>⟨hF.to ⟨rfl,rfl,rfl,rfl,trivial⟩,hM⟩) ?_
  rintro v1466 a w o_l3 hP hK_l3 ⟨hF,hM⟩
  replace hP:Sh.rm_back_l3 x0 v1466 = _:=hP
  unfold Sh.rm_back_l3 at hP
  refine c_seq ?_
  refine c_seq ?_
  refine c_region ?_
  refine s_val hF (r_move hF rfl rfl) rfl rfl rfl fun a hF=>?_
  refine s_val hF (r_fieldAddr (off':=0) Tryz.underlying36 rfl in30 rfl hF rfl rfl rfl) rfl rfl rfl fun a hF=>?_
  refine s_val hF (r_fieldAddr (off':=1) Tryz.underlying30 rfl in28 rfl hF rfl rfl rfl) rfl rfl rfl fun a hF=>?_
  refine s_val hF (r_load1 Tryz.isAgg28 hF rfl rfl ((hM.cells (i:=1) rfl (RRecord.c_in_ _)).get 1 (RInput.g_tables _))) rfl rfl rfl fun a hF=>?_
  refine s_val hF (r_lenD (f5 _ (hsub _ (dropM hM 2))) q6.len Tryz.underlying28 hF rfl rfl) rfl rfl rfl fun a hF=>?_
  refine s_val hF (r_lss hF rfl rfl rfl) rfl rfl rfl fun a hF=>?_
  refine c_nil (n_then ?_)
  refine c_cond hF (c:=.tmp 52) rfl (fun hb1468=>?_) (fun hb1468=>?_)
  ·have hP:=Fx.cT hb1468 hP
   refine c_skip (n_then ?_)
   refine c_seq ?_
   refine c_block ?_
   refine c_seq ?_
   refine c_region ?_
   refine s_val hF (r_fieldAddr (off':=0) Tryz.underlying36 rfl in30 rfl hF rfl rfl rfl) rfl rfl rfl fun a hF=>?_
   refine s_val hF (r_fieldAddr (off':=1) Tryz.underlying30 rfl in28 rfl hF rfl rfl rfl) rfl rfl rfl fun a hF=>?_
   refine s_val hF (r_load1 Tryz.isAgg28 hF rfl rfl ((hM.cells (i:=1) rfl (RRecord.c_in_ _)).get 1 (RInput.g_tables _))) rfl rfl rfl fun a hF=>?_
   refine s_val hF (r_move hF rfl rfl) rfl rfl rfl fun a hF=>?_
   obtain ⟨x1473,hx1473,hP⟩:=bind_some hP
   have h0x1473:=get_some hx1473
   obtain ⟨yx1473,hgx1473,hrx1473⟩:=Each.getr q6 h0x1473.2
   have hdx1473:=Each.bd q6 (get_bd hx1473)
   refine s_val hF (r_indexZ (sz:=1) (f5 _ (hsub _ (dropM hM 2))) Tryz.underlying28 in23 rfl hF rfl rfl rfl hdx1473) rfl rfl rfl fun a hF=>?_
   refine s_val hF (r_load1 Tryz.isAgg23 hF rfl rfl ((((f5 _ (hsub _ (dropM hM 2))).elemS hgx1473)).get 0 rfl)) rfl rfl rfl fun a hF=>?_
   obtain ⟨y1475,hy1475,hP⟩:=bind_some hP
   refine s_eff hF rfl rfl rfl (w_call (xs:=[.tmp 60]) Tryz.call93 hF rfl rfl (rm_kept_calls hy1475 hM (Bf:=Bf) (fun w hM=>hsub _ (dropM hM 2)) hrx1473) fun v w hR=>?_)
   obtain ⟨rfl,hM⟩:=hR
   replace hM:MemL _ (pt b_B38_3 (RRecord.enc (RRecord.mk (RInput.mk s11 s13) s17 x1.end_)) 36 :: pt b_B38_2 (RRecord.enc (RRecord.mk (RInput.mk s1 s3) s7 x0.end_)) 36 :: Lr):=hM
   intro a hF
   refine s_val hF (r_not hF rfl rfl) rfl rfl rfl fun a hF=>?_
   refine c_nil (n_then ?_)
   refine c_cond hF (c:=.tmp 62) rfl (fun hb1476=>?_) (fun hb1476=>?_)
   ·have hP:=Fx.cT hb1476 hP
    refine c_seq ?_
    refine c_region ?_
    refine s_val hF (r_assign hF rfl rfl) rfl rfl rfl fun a hF=>?_
    refine c_nil (n_then ?_)
    refine c_ret ?_
    have hP:=Option.some.inj hP
    subst hP
    have hP:=hK_l3 _ rfl
    subst hP
    have hP:=fin_inr hK_j2
    subst hP
    refine e_ret1 Tryz.results38 hF rfl ?_
    exact ⟨rfl,selM hM [] 2 rfl⟩
   have hP:=Fx.cF hb1476 hP
   refine c_skip (n_block (n_then ?_))
   refine c_region ?_
   refine s_val hF (r_move hF rfl rfl) rfl rfl rfl fun a hF=>?_
   refine s_val hF (r_add hF rfl rfl rfl) rfl rfl rfl fun a hF=>?_
   refine s_val hF (r_assign hF rfl rfl) rfl rfl rfl fun a hF=>?_
   refine c_nil (n_then ?_)
   have hP:=Option.some.inj hP
   subst hP
   exact ⟨(IntKind.i64.wrap (v1466 + 1)),rfl,hF.to ⟨rfl,rfl,rfl,rfl,trivial⟩,hM⟩
  have hP:=Fx.cF hb1468 hP
  refine c_exit (x_then (x_then (x_hit ?_)))
  refine n_then ?_
  have hP:=Option.some.inj hP
  subst hP
  have hP:=hK_l3 _ rfl
  subst hP
  exact ⟨(),rfl,hF.to ⟨rfl,rfl,rfl,trivial⟩,hM⟩
 rintro ⟨⟩ a w hP ⟨hF,hM⟩
 replace hP:Sh.rm_back_j2 x0 x1 = _:=hP
 unfold Sh.rm_back_j2 at hP
 refine n_then ?_
 refine c_seq ?_
 refine c_joinX hF hM hP (fun F x a w=>match x with | _=>Fr 82 [(4,.bool false)] a ∧ MemL w (Lr)) (fun o_j4 hP hK_j4 hF hM=>?_) ?_
 ·refine c_seq ?_
  refine c_region ?_
  refine s_val hF (r_assign hF rfl rfl) rfl rfl rfl fun a hF=>?_
  refine c_nil (n_then ?_)
  refine c_block ?_
  refine c_loopX hF hM hP (fun F x a w=>match x with | v2282=>Fr 82 [(7,.int .i64 v2282),(2,.pointer (some ⟨b_B38_2,0,none⟩)),(3,.pointer (some ⟨b_B38_3,0,none⟩)),(4,.bool false)] a ∧ MemL w (pt b_B38_3 (RRecord.enc (RRecord.mk (RInput.mk s11 s13) s17 x1.end_)) 36 :: pt b_B38_2 (RRecord.enc (RRecord.mk (RInput.mk s1 s3) s7 x0.end_)) 36 :: Lr)) (fun hF hM=>⟨hF.to ⟨rfl,rfl,rfl,rfl,trivial⟩,hM⟩) ?_
  rintro v2282 a w o_l5 hP hK_l5 ⟨hF,hM⟩
  replace hP:Sh.rm_back_l5 x0 x1 v2282 = _:=hP
  unfold Sh.rm_back_l5 at hP
  refine c_seq ?_
  refine c_seq ?_
  refine c_region ?_
  refine s_val hF (r_move hF rfl rfl) rfl rfl rfl fun a hF=>?_
  refine s_val hF (r_fieldAddr (off':=2) Tryz.underlying36 rfl in33 rfl hF rfl rfl rfl) rfl rfl rfl fun a hF=>?_
  refine s_val hF (r_load1 Tryz.isAgg33 hF rfl rfl (hM.cell (i:=1) rfl (RRecord.g_marks _))) rfl rfl rfl fun a hF=>?_
  refine s_val hF (r_lenD (LRm.toIn f9 _ (hsub _ (dropM hM 2))) q10.len Tryz.underlying33 hF rfl rfl) rfl rfl rfl fun a hF=>?_
  refine s_val hF (r_lss hF rfl rfl rfl) rfl rfl rfl fun a hF=>?_
  refine c_nil (n_then ?_)
  refine c_cond hF (c:=.tmp 67) rfl (fun hb2284=>?_) (fun hb2284=>?_)
  ·have hP:=Fx.cT hb2284 hP
   refine c_skip (n_then ?_)
   refine c_seq ?_
   refine c_block ?_
   refine c_seq ?_
   refine d_startT mixed (by kernel_rfl) hM [0,1] 2 rfl fun hch=>?_
   refine d_val hF hch 0 rfl (by kernel_rfl) rfl rfl rfl (fun w hM=>(r_fieldAddr (off':=2) Tryz.underlying36 rfl in33 rfl hF rfl rfl rfl)) fun a hF=>?_
   refine d_val hF hch 1 rfl (by kernel_rfl) rfl rfl rfl (fun w hM=>(r_load1 Tryz.isAgg33 hF rfl rfl (hM.cell (i:=1) rfl (RRecord.g_marks _)))) fun a hF=>?_
   refine d_val hF hch 2 rfl (by kernel_rfl) rfl rfl rfl (fun w hM=>(r_move hF rfl rfl)) fun a hF=>?_
   obtain ⟨x2358,hx2358,hP⟩:=bind_some hP
   have h0x2358:=get_some hx2358
   obtain ⟨yx2358,hgx2358,hrx2358⟩:=Each.getr q10 h0x2358.2
   have hdx2358:=Each.bd q10 (get_bd hx2358)
   obtain ⟨s2359,s2361,s2363,hs2364,s2367,rfl,f2360,f2362,f2365,q2366,f2368⟩:=hrx2358
   refine d_val hF hch 3 rfl (by kernel_rfl) rfl rfl rfl (fun w hM=>(r_indexZ (sz:=7) (LRm.toIn f9 _ (hsub _ (dropM hM 2))) Tryz.underlying33 in60 rfl hF rfl rfl rfl hdx2358)) fun a hF=>?_
   refine d_val hF hch 4 rfl (by kernel_rfl) rfl rfl rfl (fun w hM=>(r_loadn Tryz.isAgg60 Tryz.sizeOf60 hF rfl rfl (RMark.len _) (((LRm.toIn f9 _ (hsub _ (dropM hM 2))).elemS hgx2358)))) fun a hF=>?_
   refine d_val hF hch 5 rfl (by kernel_rfl) rfl rfl rfl (fun w hM=>(r_fieldAddr (off':=2) Tryz.underlying36 rfl in33 rfl hF rfl rfl rfl)) fun a hF=>?_
   refine d_val hF hch 6 rfl (by kernel_rfl) rfl rfl rfl (fun w hM=>(r_load1 Tryz.isAgg33 hF rfl rfl (hM.cell (i:=0) rfl (RRecord.g_marks _)))) fun a hF=>?_
   refine d_val hF hch 7 rfl (by kernel_rfl) rfl rfl rfl (fun w hM=>(r_move hF rfl rfl)) fun a hF=>?_
   obtain ⟨x2369,hx2369,hP⟩:=bind_some hP
   have h0x2369:=get_some hx2369
   obtain ⟨yx2369,hgx2369,hrx2369⟩:=Each.getr q20 h0x2369.2
   have hdx2369:=Each.bd q20 (get_bd hx2369)
   obtain ⟨s2370,s2372,s2374,hs2375,s2378,rfl,f2371,f2373,f2376,q2377,f2379⟩:=hrx2369
   refine d_val hF hch 8 rfl (by kernel_rfl) rfl rfl rfl (fun w hM=>(r_indexZ (sz:=7) (f19 _ (hsub _ (dropM hM 2))) Tryz.underlying33 in60 rfl hF rfl rfl rfl hdx2369)) fun a hF=>?_
   refine d_val hF hch 9 rfl (by kernel_rfl) rfl rfl rfl (fun w hM=>(r_loadn Tryz.isAgg60 Tryz.sizeOf60 hF rfl rfl (RMark.len _) (((f19 _ (hsub _ (dropM hM 2))).elemS hgx2369)))) fun a hF=>?_
   refine d_one hch 10 (by kernel_rfl) rfl rfl ?_
   refine d_ex hF 10 rfl rfl rfl rfl rfl fun w hMs hM=>?_
   obtain ⟨y2381,hy2381,hP⟩:=bind_some hP
   refine (w_call (xs:=[.tmp 74,.tmp 79]) Tryz.call63 hF rfl rfl (rm_backMark_calls hy2381 hM (Bf:=Bf) (fun w hM=>hsub _ (dropM hM 2)) f2360 f2362 f2365 q2366 f2368 f2371 f2373 f2376 q2377 f2379) fun v w hR=>?_)
   obtain ⟨rfl,hM⟩:=hR
   replace hM:MemL _ (pt b_B38_3 (RRecord.enc (RRecord.mk (RInput.mk s11 s13) s17 x1.end_)) 36 :: pt b_B38_2 (RRecord.enc (RRecord.mk (RInput.mk s1 s3) s7 x0.end_)) 36 :: Lr):=hM
   have hMs:=selM hM [0,1] 2 rfl
   refine ⟨_,_,hMs,hM,.inl fun _ h=>h,fun a hF=>?_⟩
   refine d_val hF hch 11 rfl (by kernel_rfl) rfl rfl rfl (fun w hM=>(r_not hF rfl rfl)) fun a hF=>?_
   refine d_end hch (by kernel_rfl) fun w hM=>?_
   refine n_then ?_
   refine c_cond hF (c:=.tmp 81) rfl (fun hb2382=>?_) (fun hb2382=>?_)
   ·have hP:=Fx.cT hb2382 hP
    refine c_seq ?_
    refine c_region ?_
    refine s_val hF (r_assign hF rfl rfl) rfl rfl rfl fun a hF=>?_
    refine c_nil (n_then ?_)
    refine c_ret ?_
    have hP:=Option.some.inj hP
    subst hP
    have hP:=hK_l5 _ rfl
    subst hP
    have hP:=fin_inr hK_j4
    subst hP
    refine e_ret1 Tryz.results38 hF rfl ?_
    exact ⟨rfl,selM hM [] 2 rfl⟩
   have hP:=Fx.cF hb2382 hP
   refine c_skip (n_block (n_then ?_))
   refine c_region ?_
   refine s_val hF (r_move hF rfl rfl) rfl rfl rfl fun a hF=>?_
   refine s_val hF (r_add hF rfl rfl rfl) rfl rfl rfl fun a hF=>?_
   refine s_val hF (r_assign hF rfl rfl) rfl rfl rfl fun a hF=>?_
   refine c_nil (n_then ?_)
   have hP:=Option.some.inj hP
   subst hP
   exact ⟨(IntKind.i64.wrap (v2282 + 1)),rfl,hF.to ⟨rfl,rfl,rfl,rfl,trivial⟩,hM⟩
  have hP:=Fx.cF hb2284 hP
  refine c_exit (x_then (x_then (x_hit ?_)))
  refine n_then ?_
  have hP:=Option.some.inj hP
  subst hP
  have hP:=hK_l5 _ rfl
  subst hP
  exact ⟨(),rfl,hF.to ⟨rfl,trivial⟩,selM hM [] 2 rfl⟩
 rintro ⟨⟩ a w hP ⟨hF,hM⟩
 replace hP:Sh.rm_back_j4 = _:=hP
 unfold Sh.rm_back_j4 at hP
 refine n_then ?_
 refine c_seq ?_
 refine c_region ?_
 refine s_val hF (r_assign hF rfl rfl) rfl rfl rfl fun a hF=>?_
 refine c_nil (n_then ?_)
 refine c_ret ?_
 have hP:=Option.some.inj hP
 subst hP
 refine e_ret1 Tryz.results38 hF rfl ?_
 exact ⟨rfl,hM⟩
end Go.Proofs
end
section
namespace Go.Proofs
open Go.Fw Go.Fx
set_option maxRecDepth 10000
set_option linter.unusedVariables false
set_option linter.unusedSimpArgs false
set_option maxHeartbeats 4000000 in
theorem law23_TraceEncodes_calls {x0:QRecord} {s1:SV} {s3:SV} {hs4:List SV} {s7:SV} {hs8:List RMark} {out:Bool} {w0:World} {Bf:World → Prop} {Lr:List Res} (hP:Sh.law23_TraceEncodes x0 = some out) (hM:MemL w0 (Lr)) (hsub:∀ w,MemL w Lr → Bf w) (f2:LIn Bf s1 x0.in_.ctx) (f5:LIn Bf s3 hs4) (q6:Each (LIn (X:=UInt8) Bf) hs4 x0.in_.tables) (f9:LIn Bf s7 hs8) (q10:Each (QMarkIn Bf) hs8 x0.marks):Calls Tryz.prog 8 #[.agg (RRecord.enc (RRecord.mk (RInput.mk s1 s3) s7 x0.end_)).toArray] w0 (Ret fun v w'=>v = .bool out ∧ MemL w' (Lr)):=by
 unfold Sh.law23_TraceEncodes at hP
 refine calls_enter (vs:=[.agg (RRecord.enc (RRecord.mk (RInput.mk s1 s3) s7 x0.end_)).toArray]) Tryz.func8 rfl Tryz.ntmps8 rfl fun a hF=>?_
 refine c_seq ?_
 refine c_region ?_
 refine s_eff hF rfl rfl rfl (w_box hF rfl rfl rfl fun b_B8_1 w hzB8_1 hAB8_1=>?_)
 have hM:=hM.plus hAB8_1
 replace hM:MemL _ (pt b_B8_1 (RRecord.enc (RRecord.mk (RInput.mk s1 s3) s7 x0.end_)) 36 :: Lr):=hM
 intro a hF
 refine s_val hF (r_assign hF rfl rfl) rfl rfl rfl fun a hF=>?_
 refine c_nil (n_then ?_)
 refine c_seq ?_
 refine c_seq ?_
 refine c_region ?_
 obtain ⟨y66,hy66,hP⟩:=bind_some hP
 refine s_eff hF rfl rfl rfl (w_call (xs:=[]) Tryz.call22 hF rfl rfl (law23_known_calls hy66 hM ) fun v w hR=>?_)
 obtain ⟨rfl,hM⟩:=hR
 replace hM:MemL _ (pt b_B8_1 (RRecord.enc (RRecord.mk (RInput.mk s1 s3) s7 x0.end_)) 36 :: Lr):=hM
 intro a hF
 refine s_val hF (r_not hF rfl rfl) rfl rfl rfl fun a hF=>?_
 refine c_nil (n_then ?_)
 refine c_cond hF (c:=.tmp 9) rfl (fun hb67=>?_) (fun hb67=>?_)
 ·have hP:=Fx.cT hb67 hP
  refine c_seq ?_
  refine c_region ?_
  refine s_val hF (r_assign hF rfl rfl) rfl rfl rfl fun a hF=>?_
  refine c_nil (n_then ?_)
  refine c_ret ?_
  have hP:=Option.some.inj hP
  subst hP
  refine e_ret1 Tryz.results8 hF rfl ?_
  exact ⟨rfl,selM hM [] 1 rfl⟩
 have hP:=Fx.cF hb67 hP
 refine c_skip (n_then ?_)
 refine c_seq ?_
 refine c_region ?_
 refine s_val hF (r_loadn Tryz.isAgg36 Tryz.sizeOf36 hF rfl rfl (RRecord.len _) (hM.cells (i:=0) rfl (cut_all (RRecord.len _)))) rfl rfl rfl fun a hF=>?_
 obtain ⟨y69,hy69,hP⟩:=bind_some hP
 refine s_eff hF rfl rfl rfl (w_call (xs:=[.tmp 10]) Tryz.call35 hF rfl rfl (rm_lent_calls hy69 hM (Bf:=Bf) (fun w hM=>hsub _ (dropM hM 1)) f2 f5 q6 f9 q10) fun v w hR=>?_)
 obtain ⟨s70,r72,s74,hs75,r77,s79,hs80,r82,rfl,f73,q78,f83,q84,hM⟩:=hR
 replace hM:MemL _ (r72 :: rowL 0 s74 23 hs75 :: r77 :: r82 :: pt b_B8_1 (RRecord.enc (RRecord.mk (RInput.mk s1 s3) s7 x0.end_)) 36 :: Lr):=hM
 intro a hF
 refine s_eff hF rfl rfl rfl (w_alloc z36 (zs:=RRecord.zero.enc) rfl rfl fun b_B8_3 w hzB8_3 hAB8_3=>?_)
 have hM:=hM.plus hAB8_3
 replace hM:MemL _ (pt b_B8_3 (RRecord.enc (RRecord.mk (RInput.mk SV.nil SV.nil) SV.nil 0)) 36 :: r72 :: rowL 0 s74 23 hs75 :: r77 :: r82 :: pt b_B8_1 (RRecord.enc (RRecord.mk (RInput.mk s1 s3) s7 x0.end_)) 36 :: Lr):=hM
 intro a hF
 refine s_eff0 rfl rfl (w_storen (vs:=_) Tryz.sizeOf36 (hM.obj (i:=0) rfl) hF rfl rfl rfl rfl (RRecord.len _) (RRecord.one _) (by first | (rw [RRecord.len,RRecord.len]; decide) | (rw [RRecord.len]; decide)) (put_all ((RRecord.len _).trans (RRecord.len _).symm)) fun w hU85=>?_)
 have hM:=hM.chg hU85 (i:=0) rfl
 replace hM:MemL _ (pt b_B8_3 (RRecord.enc (RRecord.mk (RInput.mk s70 s74) s79 y69.end_)) 36 :: r72 :: rowL 0 s74 23 hs75 :: r77 :: r82 :: pt b_B8_1 (RRecord.enc (RRecord.mk (RInput.mk s1 s3) s7 x0.end_)) 36 :: Lr):=hM
 refine c_nil (n_then ?_)
 refine c_seq ?_
 refine c_region ?_
 refine s_val hF (r_loadn Tryz.isAgg36 Tryz.sizeOf36 hF rfl rfl (RRecord.len _) (hM.cells (i:=0) rfl (cut_all (RRecord.len _)))) rfl rfl rfl fun a hF=>?_
 obtain ⟨y87,hy87,hP⟩:=bind_some hP
 refine s_eff hF rfl rfl rfl (w_call (xs:=[.tmp 13]) Tryz.call41 hF rfl rfl (trace_Encode_calls hy87 hM (fun _ h=>h) (fun w hM=>(LRm.toIn f73 _ (hM.hold 1 _ rfl))) (fun w hM=>(hM.rowS (X:=SV) (i:=2) rfl)) (q78.mono fun _ _ q=>q.toIn.mono fun w hM=>hM.hold 3 _ rfl) (fun w hM=>(LRm.toIn f83 _ (hM.hold 4 _ rfl))) (q84.mono fun _ _ q=>q.toIn.mono fun w hM=>hM.hold 4 _ rfl)) fun v w hR=>?_)
 obtain ⟨s88,rfl,hM⟩:=hR
 replace hM:MemL _ (fowL 5 s88 y87.1 :: pt b_B8_3 (RRecord.enc (RRecord.mk (RInput.mk s70 s74) s79 y69.end_)) 36 :: r72 :: rowL 0 s74 23 hs75 :: r77 :: r82 :: pt b_B8_1 (RRecord.enc (RRecord.mk (RInput.mk s1 s3) s7 x0.end_)) 36 :: Lr):=hM
 intro a hF
 refine s_val hF (r_move hF rfl rfl) rfl rfl rfl fun a hF=>?_
 refine s_val hF (r_extract hF rfl rfl rfl) rfl rfl rfl fun a hF=>?_
 refine s_val hF (r_extract hF rfl rfl rfl) rfl rfl rfl fun a hF=>?_
 refine s_val hF (r_assign hF rfl rfl) rfl rfl rfl fun a hF=>?_
 refine s_val hF (r_assign hF rfl rfl) rfl rfl rfl fun a hF=>?_
 refine c_nil (n_then ?_)
 refine c_seq ?_
 refine c_region ?_
 refine s_val hF (r_loadn Tryz.isAgg36 Tryz.sizeOf36 hF rfl rfl (RRecord.len _) (hM.cells (i:=6) rfl (cut_all (RRecord.len _)))) rfl rfl rfl fun a hF=>?_
 obtain ⟨y91,hy91,hP⟩:=bind_some hP
 refine s_eff hF rfl rfl rfl (w_call (xs:=[.tmp 18]) Tryz.call42 hF rfl rfl (ref23_Encode_calls hy91 hM (Bf:=Bf) (fun w hM=>hsub _ (dropM hM 7)) f2 f5 q6 f9 q10) fun v w hR=>?_)
 obtain ⟨s92,rfl,hM⟩:=hR
 replace hM:MemL _ (rowL 0 s92 5 y91.1 :: fowL 5 s88 y87.1 :: pt b_B8_3 (RRecord.enc (RRecord.mk (RInput.mk s70 s74) s79 y69.end_)) 36 :: r72 :: rowL 0 s74 23 hs75 :: r77 :: r82 :: pt b_B8_1 (RRecord.enc (RRecord.mk (RInput.mk s1 s3) s7 x0.end_)) 36 :: Lr):=hM
 intro a hF
 refine s_val hF (r_move hF rfl rfl) rfl rfl rfl fun a hF=>?_
 refine s_val hF (r_extract hF rfl rfl rfl) rfl rfl rfl fun a hF=>?_
 refine s_val hF (r_extract hF rfl rfl rfl) rfl rfl rfl fun a hF=>?_
 refine s_val hF (r_assign hF rfl rfl) rfl rfl rfl fun a hF=>?_
 refine s_val hF (r_assign hF rfl rfl) rfl rfl rfl fun a hF=>?_
 refine c_nil (n_then ?_)
 refine c_seq ?_
 refine c_joinX hF hM hP (fun F x a w=>match x with | v106=>Fr 35 [(2,.bool v106)] a ∧ MemL w (r72 :: rowL 0 s74 23 hs75 :: r77 :: r82 :: Lr)) (fun o_j1 hP hK_j1 hF hM=>?_) ?_
 ·refine c_region ?_
  refine s_val hF (r_move hF rfl rfl) rfl rfl rfl fun a hF=>?_
  refine s_val hF (r_move hF rfl rfl) rfl rfl rfl fun a hF=>?_
  refine s_val hF (r_eql hF rfl rfl rfl) rfl rfl rfl fun a hF=>?_
  refine s_val hF (r_move hF rfl rfl) rfl rfl rfl fun a hF=>?_
  refine g_split 25 hF rfl (fun hb107=>?_) (fun hb107=>?_)
  ·have hP:=Fx.cT hb107 hP
   refine g_val hF rfl rfl rfl hb107 (r_move hF rfl rfl) rfl rfl fun a hF=>?_
   refine g_val hF rfl rfl rfl hb107 (r_move hF rfl rfl) rfl rfl fun a hF=>?_
   obtain ⟨y109,hy109,hP⟩:=bind_some hP
   refine g_eff hF rfl rfl rfl hb107 rfl rfl (w_call (xs:=[.tmp 26,.tmp 27]) Tryz.call43 hF rfl rfl (law00_SameBytes_calls hy109 hM (fun _ h=>h) (fun w hM=>(fow_sl (hM.hold 1 _ rfl))) (fun w hM=>(hM.rowS (X:=UInt8) (i:=0) rfl))) fun v w hR=>?_)
   obtain ⟨rfl,hM⟩:=hR
   replace hM:MemL _ (rowL 0 s92 5 y91.1 :: fowL 5 s88 y87.1 :: pt b_B8_3 (RRecord.enc (RRecord.mk (RInput.mk s70 s74) s79 y69.end_)) 36 :: r72 :: rowL 0 s74 23 hs75 :: r77 :: r82 :: pt b_B8_1 (RRecord.enc (RRecord.mk (RInput.mk s1 s3) s7 x0.end_)) 36 :: Lr):=hM
   intro a hF
   refine s_val hF (r_pick1 hF rfl rfl hb107 rfl) rfl rfl rfl fun a hF=>?_
   refine s_val hF (r_move hF rfl rfl) rfl rfl rfl fun a hF=>?_
   refine g_split 30 hF rfl (fun hb110=>?_) (fun hb110=>?_)
   ·have hP:=Fx.cT hb110 hP
    refine g_val hF rfl rfl rfl hb110 (r_loadn Tryz.isAgg36 Tryz.sizeOf36 hF rfl rfl (RRecord.len _) (hM.cells (i:=2) rfl (cut_all (RRecord.len _)))) rfl rfl fun a hF=>?_
    refine g_val hF rfl rfl rfl hb110 (r_loadn Tryz.isAgg36 Tryz.sizeOf36 hF rfl rfl (RRecord.len _) (hM.cells (i:=7) rfl (cut_all (RRecord.len _)))) rfl rfl fun a hF=>?_
    obtain ⟨y112,hy112,hP⟩:=bind_some hP
    refine g_eff hF rfl rfl rfl hb110 rfl rfl (w_call (xs:=[.tmp 31,.tmp 32]) Tryz.call38 hF rfl rfl (rm_back_calls hy112 hM (fun _ h=>h) (LRm.mono f73 fun w hM=>hM.hold 3 _ rfl) (fun w hM=>(hM.rowS (X:=SV) (i:=4) rfl)) (q78.mono fun _ _ q=>q.mono fun w hM=>hM.hold 5 _ rfl) (LRm.mono f83 fun w hM=>hM.hold 6 _ rfl) (q84.mono fun _ _ q=>q.mono fun w hM=>hM.hold 6 _ rfl) (fun w hM=>(f2 _ (hsub _ (dropM hM 8)))) (fun w hM=>(f5 _ (hsub _ (dropM hM 8)))) (q6.mono fun _ _ q=>q.mono fun w hM=>hsub _ (dropM hM 8)) (fun w hM=>(f9 _ (hsub _ (dropM hM 8)))) (q10.mono fun _ _ q=>q.mono fun w hM=>hsub _ (dropM hM 8))) fun v w hR=>?_)
    obtain ⟨rfl,hM⟩:=hR
    replace hM:MemL _ (rowL 0 s92 5 y91.1 :: fowL 5 s88 y87.1 :: pt b_B8_3 (RRecord.enc (RRecord.mk (RInput.mk s70 s74) s79 y69.end_)) 36 :: r72 :: rowL 0 s74 23 hs75 :: r77 :: r82 :: pt b_B8_1 (RRecord.enc (RRecord.mk (RInput.mk s1 s3) s7 x0.end_)) 36 :: Lr):=hM
    intro a hF
    refine s_val hF (r_pick1 hF rfl rfl hb110 rfl) rfl rfl rfl fun a hF=>?_
    refine s_val hF (r_assign hF rfl rfl) rfl rfl rfl fun a hF=>?_
    refine c_nil (n_then ?_)
    have hP:=Option.some.inj hP
    subst hP
    exact ⟨y112,rfl,hF.to ⟨rfl,trivial⟩,selM hM [3,4,5,6] 8 rfl⟩
   have hP:=Fx.cF hb110 hP
   refine g_skip hF rfl rfl rfl hb110 rfl rfl fun a hF=>?_
   refine g_skip hF rfl rfl rfl hb110 rfl rfl fun a hF=>?_
   refine g_skip hF rfl rfl rfl hb110 rfl rfl fun a hF=>?_
   refine s_val hF (r_pick0 hF rfl rfl hb110 rfl) rfl rfl rfl fun a hF=>?_
   refine s_val hF (r_assign hF rfl rfl) rfl rfl rfl fun a hF=>?_
   refine c_nil (n_then ?_)
   have hP:=Option.some.inj hP
   subst hP
   exact ⟨false,rfl,hF.to ⟨rfl,trivial⟩,selM hM [3,4,5,6] 8 rfl⟩
  have hP:=Fx.cF hb107 hP
  refine g_skip hF rfl rfl rfl hb107 rfl rfl fun a hF=>?_
  refine g_skip hF rfl rfl rfl hb107 rfl rfl fun a hF=>?_
  refine g_skip hF rfl rfl rfl hb107 rfl rfl fun a hF=>?_
  refine s_val hF (r_pick0 hF rfl rfl hb107 rfl) rfl rfl rfl fun a hF=>?_
  refine s_val hF (r_move hF rfl rfl) rfl rfl rfl fun a hF=>?_
  refine g_skip hF rfl rfl rfl rfl rfl rfl fun a hF=>?_
  refine g_skip hF rfl rfl rfl rfl rfl rfl fun a hF=>?_
  refine g_skip hF rfl rfl rfl rfl rfl rfl fun a hF=>?_
  refine s_val hF (r_pick0 hF rfl rfl rfl rfl) rfl rfl rfl fun a hF=>?_
  refine s_val hF (r_assign hF rfl rfl) rfl rfl rfl fun a hF=>?_
  refine c_nil (n_then ?_)
  have hP:=Option.some.inj hP
  subst hP
  exact ⟨false,rfl,hF.to ⟨rfl,trivial⟩,selM hM [3,4,5,6] 8 rfl⟩
 rintro v106 a w hP ⟨hF,hM⟩
 replace hP:Sh.law23_TraceEncodes_j1 v106 = _:=hP
 unfold Sh.law23_TraceEncodes_j1 at hP
 refine n_then ?_
 refine c_ret ?_
 have hP:=Option.some.inj hP
 subst hP
 refine e_ret1 Tryz.results8 hF rfl ?_
 exact ⟨rfl,selM hM [] 4 rfl⟩
end Go.Proofs
end
