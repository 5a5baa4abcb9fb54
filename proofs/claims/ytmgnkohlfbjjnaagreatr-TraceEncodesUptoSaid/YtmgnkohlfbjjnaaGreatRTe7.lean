/- Ground for this claim: The call of TraceEncodes returns true, and what is read reads as before. Condition: what is read is of bulk at most 1048576. -/
import Derived.Test.YtmgnkohlfbjjnaaGreatRTe6
section
namespace Go.Proofs
open Go.Fw Go.Fx
set_option maxRecDepth 10000
set_option linter.unusedVariables false
set_option linter.unusedSimpArgs false
set_option maxHeartbeats 4000000 in
theorem ref23_within_calls {x0:Int} {x1:Int} {x2:Int} {out:Bool} {w0:World} {Lr:List Res} (hP:Sh.ref23_within x0 x1 x2 = some out) (hM:MemL w0 (Lr)):Calls Tryz.prog 159 #[.int .i64 x0,.int .i64 x1,.int .i64 x2] w0 (Ret fun v w'=>v = .bool out ∧ MemL w' (Lr)):=by
 unfold Sh.ref23_within at hP
 refine calls_enter (vs:=[.int .i64 x0,.int .i64 x1,.int .i64 x2]) Tryz.func159 rfl Tryz.ntmps159 rfl fun a hF=>?_
 refine c_seq ?_
 refine c_region ?_
 refine s_val hF (r_assign hF rfl rfl) rfl rfl rfl fun a hF=>?_
 refine c_nil (n_then ?_)
 refine c_seq ?_
 refine c_joinX hF hM hP (fun F x a w=>match x with | v7=>Fr 15 [(6,.bool v7)] a ∧ MemL w (Lr)) (fun o_j1 hP hK_j1 hF hM=>?_) ?_
 ·refine c_region ?_
  refine s_val hF (r_move hF rfl rfl) rfl rfl rfl fun a hF=>?_
  refine s_val hF (r_move hF rfl rfl) rfl rfl rfl fun a hF=>?_
  refine s_val hF (r_geq hF rfl rfl rfl) rfl rfl rfl fun a hF=>?_
  refine s_val hF (r_move hF rfl rfl) rfl rfl rfl fun a hF=>?_
  refine g_split 10 hF rfl (fun hb8=>?_) (fun hb8=>?_)
  ·have hP:=Fx.cT hb8 hP
   refine g_val hF rfl rfl rfl hb8 (r_move hF rfl rfl) rfl rfl fun a hF=>?_
   refine g_val hF rfl rfl rfl hb8 (r_move hF rfl rfl) rfl rfl fun a hF=>?_
   refine g_val hF rfl rfl rfl hb8 (r_leq hF rfl rfl rfl) rfl rfl fun a hF=>?_
   refine s_val hF (r_pick1 hF rfl rfl hb8 rfl) rfl rfl rfl fun a hF=>?_
   refine s_val hF (r_assign hF rfl rfl) rfl rfl rfl fun a hF=>?_
   refine c_nil (n_then ?_)
   have hP:=Option.some.inj hP
   subst hP
   exact ⟨(decide (x0 ≤ x2)),rfl,hF.to ⟨rfl,trivial⟩,hM⟩
  have hP:=Fx.cF hb8 hP
  refine g_skip hF rfl rfl rfl hb8 rfl rfl fun a hF=>?_
  refine g_skip hF rfl rfl rfl hb8 rfl rfl fun a hF=>?_
  refine g_skip hF rfl rfl rfl hb8 rfl rfl fun a hF=>?_
  refine s_val hF (r_pick0 hF rfl rfl hb8 rfl) rfl rfl rfl fun a hF=>?_
  refine s_val hF (r_assign hF rfl rfl) rfl rfl rfl fun a hF=>?_
  refine c_nil (n_then ?_)
  have hP:=Option.some.inj hP
  subst hP
  exact ⟨false,rfl,hF.to ⟨rfl,trivial⟩,hM⟩
 rintro v7 a w hP ⟨hF,hM⟩
 replace hP:Sh.ref23_within_j1 v7 = _:=hP
 unfold Sh.ref23_within_j1 at hP
 refine n_then ?_
 refine c_ret ?_
 have hP:=Option.some.inj hP
 subst hP
 refine e_ret1 Tryz.results159 hF rfl ?_
 exact ⟨rfl,hM⟩
set_option maxHeartbeats 4000000 in
theorem ref23_inputPlain_calls {x0:QInput} {s1:SV} {s3:SV} {hs4:List SV} {out:Bool} {w0:World} {Bf:World → Prop} {Lr:List Res} (hP:Sh.ref23_inputPlain x0 = some out) (hM:MemL w0 (Lr)) (hsub:∀ w,MemL w Lr → Bf w) (f2:LIn Bf s1 x0.ctx) (f5:LIn Bf s3 hs4) (q6:Each (LIn (X:=UInt8) Bf) hs4 x0.tables):Calls Tryz.prog 105 #[.agg (RInput.enc (RInput.mk s1 s3)).toArray] w0 (Ret fun v w'=>v = .bool out ∧ MemL w' (Lr)):=by
 unfold Sh.ref23_inputPlain at hP
 refine calls_enter (vs:=[.agg (RInput.enc (RInput.mk s1 s3)).toArray]) Tryz.func105 rfl Tryz.ntmps105 rfl fun a hF=>?_
 refine c_seq ?_
 refine c_region ?_
 refine s_eff hF rfl rfl rfl (w_box hF rfl rfl rfl fun b_B105_1 w hzB105_1 hAB105_1=>?_)
 have hM:=hM.plus hAB105_1
 replace hM:MemL _ (pt b_B105_1 (RInput.enc (RInput.mk s1 s3)) 30 :: Lr):=hM
 intro a hF
 refine s_val hF (r_assign hF rfl rfl) rfl rfl rfl fun a hF=>?_
 refine c_nil (n_then ?_)
 refine c_seq ?_
 refine c_seq ?_
 refine c_joinX hF hM hP (fun F x a w=>match x with | v84=>Fr 28 [(13,.bool v84),(1,.pointer (some ⟨b_B105_1,0,none⟩)),(2,.bool false)] a ∧ MemL w (pt b_B105_1 (RInput.enc (RInput.mk s1 s3)) 30 :: Lr)) (fun o_j1 hP hK_j1 hF hM=>?_) ?_
 ·refine c_region ?_
  refine s_val hF (r_fieldAddr (off':=0) Tryz.underlying30 rfl in23 rfl hF rfl rfl rfl) rfl rfl rfl fun a hF=>?_
  refine s_val hF (r_load1 Tryz.isAgg23 hF rfl rfl (hM.cell (i:=0) rfl (RInput.g_ctx _))) rfl rfl rfl fun a hF=>?_
  refine s_val hF (r_lenL (f2 _ (hsub _ (dropM hM 1))) Tryz.underlying23 hF rfl rfl) rfl rfl rfl fun a hF=>?_
  refine s_val hF (r_gtr hF rfl rfl rfl) rfl rfl rfl fun a hF=>?_
  refine s_val hF (r_move hF rfl rfl) rfl rfl rfl fun a hF=>?_
  refine g_split 8 hF rfl (fun hb85=>?_) (fun hb85=>?_)
  ·have hP:=Fx.cT hb85 hP
   refine g_skip hF rfl rfl rfl hb85 rfl rfl fun a hF=>?_
   refine g_skip hF rfl rfl rfl hb85 rfl rfl fun a hF=>?_
   refine g_skip hF rfl rfl rfl hb85 rfl rfl fun a hF=>?_
   refine g_skip hF rfl rfl rfl hb85 rfl rfl fun a hF=>?_
   refine s_val hF (r_pick1 hF rfl rfl hb85 rfl) rfl rfl rfl fun a hF=>?_
   refine c_nil (n_then ?_)
   have hP:=Option.some.inj hP
   subst hP
   exact ⟨true,rfl,hF.to ⟨rfl,rfl,rfl,trivial⟩,hM⟩
  have hP:=Fx.cF hb85 hP
  refine g_val hF rfl rfl rfl hb85 (r_fieldAddr (off':=1) Tryz.underlying30 rfl in28 rfl hF rfl rfl rfl) rfl rfl fun a hF=>?_
  refine g_val hF rfl rfl rfl hb85 (r_load1 Tryz.isAgg28 hF rfl rfl (hM.cell (i:=0) rfl (RInput.g_tables _))) rfl rfl fun a hF=>?_
  refine g_val hF rfl rfl rfl hb85 (r_lenD (f5 _ (hsub _ (dropM hM 1))) q6.len Tryz.underlying28 hF rfl rfl) rfl rfl fun a hF=>?_
  refine g_val hF rfl rfl rfl hb85 (r_gtr hF rfl rfl rfl) rfl rfl fun a hF=>?_
  refine s_val hF (r_pick0 hF rfl rfl hb85 rfl) rfl rfl rfl fun a hF=>?_
  refine c_nil (n_then ?_)
  have hP:=Option.some.inj hP
  subst hP
  exact ⟨(decide (8 < (x0.tables.length:Int))),rfl,hF.to ⟨rfl,rfl,rfl,trivial⟩,hM⟩
 rintro v84 a w hP ⟨hF,hM⟩
 replace hP:Sh.ref23_inputPlain_j1 x0 v84 = _:=hP
 unfold Sh.ref23_inputPlain_j1 at hP
 refine n_then ?_
 refine c_cond hF (c:=.tmp 13) rfl (fun hb86=>?_) (fun hb86=>?_)
 ·have hP:=Fx.cT hb86 hP
  refine c_seq ?_
  refine c_region ?_
  refine s_val hF (r_assign hF rfl rfl) rfl rfl rfl fun a hF=>?_
  refine c_nil (n_then ?_)
  refine c_ret ?_
  have hP:=Option.some.inj hP
  subst hP
  refine e_ret1 Tryz.results105 hF rfl ?_
  exact ⟨rfl,selM hM [] 1 rfl⟩
 have hP:=Fx.cF hb86 hP
 refine c_skip (n_then ?_)
 refine c_seq ?_
 refine c_joinX hF hM hP (fun F x a w=>match x with | _=>Fr 28 [(2,.bool false)] a ∧ MemL w (Lr)) (fun o_j2 hP hK_j2 hF hM=>?_) ?_
 ·refine c_seq ?_
  refine c_region ?_
  refine s_val hF (r_assign hF rfl rfl) rfl rfl rfl fun a hF=>?_
  refine c_nil (n_then ?_)
  refine c_block ?_
  refine c_loopX hF hM hP (fun F x a w=>match x with | v140=>Fr 28 [(3,.int .i64 v140),(1,.pointer (some ⟨b_B105_1,0,none⟩)),(2,.bool false)] a ∧ MemL w (pt b_B105_1 (RInput.enc (RInput.mk s1 s3)) 30 :: Lr)) (fun hF hM=>⟨hF.to ⟨rfl,rfl,rfl,trivial⟩,hM⟩) ?_
  rintro v140 a w o_l3 hP hK_l3 ⟨hF,hM⟩
  replace hP:Sh.ref23_inputPlain_l3 x0 v140 = _:=hP
  unfold Sh.ref23_inputPlain_l3 at hP
  refine c_seq ?_
  refine c_seq ?_
  refine c_region ?_
  refine s_val hF (r_move hF rfl rfl) rfl rfl rfl fun a hF=>?_
  refine s_val hF (r_fieldAddr (off':=1) Tryz.underlying30 rfl in28 rfl hF rfl rfl rfl) rfl rfl rfl fun a hF=>?_
  refine s_val hF (r_load1 Tryz.isAgg28 hF rfl rfl (hM.cell (i:=0) rfl (RInput.g_tables _))) rfl rfl rfl fun a hF=>?_
  refine s_val hF (r_lenD (f5 _ (hsub _ (dropM hM 1))) q6.len Tryz.underlying28 hF rfl rfl) rfl rfl rfl fun a hF=>?_
  refine s_val hF (r_lss hF rfl rfl rfl) rfl rfl rfl fun a hF=>?_
  refine c_nil (n_then ?_)
  refine c_cond hF (c:=.tmp 18) rfl (fun hb142=>?_) (fun hb142=>?_)
  ·have hP:=Fx.cT hb142 hP
   refine c_skip (n_then ?_)
   refine c_seq ?_
   refine c_block ?_
   refine c_seq ?_
   refine c_region ?_
   refine s_val hF (r_fieldAddr (off':=1) Tryz.underlying30 rfl in28 rfl hF rfl rfl rfl) rfl rfl rfl fun a hF=>?_
   refine s_val hF (r_load1 Tryz.isAgg28 hF rfl rfl (hM.cell (i:=0) rfl (RInput.g_tables _))) rfl rfl rfl fun a hF=>?_
   refine s_val hF (r_move hF rfl rfl) rfl rfl rfl fun a hF=>?_
   obtain ⟨x145,hx145,hP⟩:=bind_some hP
   have h0x145:=get_some hx145
   obtain ⟨yx145,hgx145,hrx145⟩:=Each.getr q6 h0x145.2
   have hdx145:=Each.bd q6 (get_bd hx145)
   refine s_val hF (r_indexZ (sz:=1) (f5 _ (hsub _ (dropM hM 1))) Tryz.underlying28 in23 rfl hF rfl rfl rfl hdx145) rfl rfl rfl fun a hF=>?_
   refine s_val hF (r_load1 Tryz.isAgg23 hF rfl rfl ((((f5 _ (hsub _ (dropM hM 1))).elemS hgx145)).get 0 rfl)) rfl rfl rfl fun a hF=>?_
   refine s_val hF (r_lenL (hrx145 _ (hsub _ (dropM hM 1))) Tryz.underlying23 hF rfl rfl) rfl rfl rfl fun a hF=>?_
   refine s_val hF (r_gtr hF rfl rfl rfl) rfl rfl rfl fun a hF=>?_
   refine c_nil (n_then ?_)
   refine c_cond hF (c:=.tmp 27) rfl (fun hb146=>?_) (fun hb146=>?_)
   ·have hP:=Fx.cT hb146 hP
    refine c_seq ?_
    refine c_region ?_
    refine s_val hF (r_assign hF rfl rfl) rfl rfl rfl fun a hF=>?_
    refine c_nil (n_then ?_)
    refine c_ret ?_
    have hP:=Option.some.inj hP
    subst hP
    have hP:=hK_l3 _ rfl
    subst hP
    have hP:=fin_inr hK_j2
    subst hP
    refine e_ret1 Tryz.results105 hF rfl ?_
    exact ⟨rfl,selM hM [] 1 rfl⟩
   have hP:=Fx.cF hb146 hP
   refine c_skip (n_block (n_then ?_))
   refine c_region ?_
   refine s_val hF (r_move hF rfl rfl) rfl rfl rfl fun a hF=>?_
   refine s_val hF (r_add hF rfl rfl rfl) rfl rfl rfl fun a hF=>?_
   refine s_val hF (r_assign hF rfl rfl) rfl rfl rfl fun a hF=>?_
   refine c_nil (n_then ?_)
   have hP:=Option.some.inj hP
   subst hP
   exact ⟨(IntKind.i64.wrap (v140 + 1)),rfl,hF.to ⟨rfl,rfl,rfl,trivial⟩,hM⟩
  have hP:=Fx.cF hb142 hP
  refine c_exit (x_then (x_then (x_hit ?_)))
  refine n_then ?_
  have hP:=Option.some.inj hP
  subst hP
  have hP:=hK_l3 _ rfl
  subst hP
  exact ⟨(),rfl,hF.to ⟨rfl,trivial⟩,selM hM [] 1 rfl⟩
 rintro ⟨⟩ a w hP ⟨hF,hM⟩
 replace hP:Sh.ref23_inputPlain_j2 = _:=hP
 unfold Sh.ref23_inputPlain_j2 at hP
 refine n_then ?_
 refine c_seq ?_
 refine c_region ?_
 refine s_val hF (r_assign hF rfl rfl) rfl rfl rfl fun a hF=>?_
 refine c_nil (n_then ?_)
 refine c_ret ?_
 have hP:=Option.some.inj hP
 subst hP
 refine e_ret1 Tryz.results105 hF rfl ?_
 exact ⟨rfl,hM⟩
set_option maxHeartbeats 4000000 in
theorem ref23_pieces_calls {x0:List QPiece} {s1:SV} {hs2:List RPiece} {out:Bool} {w0:World} {Bf:World → Prop} {Lr:List Res} (hP:Sh.ref23_pieces x0 = some out) (hM:MemL w0 (Lr)) (hsub:∀ w,MemL w Lr → Bf w) (f3:LIn Bf s1 hs2) (q4:Each (QPieceIn Bf) hs2 x0):Calls Tryz.prog 198 #[(s1).v] w0 (Ret fun v w'=>v = .bool out ∧ MemL w' (Lr)):=by
 unfold Sh.ref23_pieces at hP
 refine calls_enter (vs:=[(s1).v]) Tryz.func198 rfl Tryz.ntmps198 rfl fun a hF=>?_
 refine c_seq ?_
 refine c_region ?_
 refine s_val hF (r_assign hF rfl rfl) rfl rfl rfl fun a hF=>?_
 refine c_nil (n_then ?_)
 refine c_seq ?_
 refine c_joinX hF hM hP (fun F x a w=>match x with | _=>Fr 99 [(2,.bool false)] a ∧ MemL w (Lr)) (fun o_j1 hP hK_j1 hF hM=>?_) ?_
 ·refine c_seq ?_
  refine c_region ?_
  refine s_val hF (r_assign hF rfl rfl) rfl rfl rfl fun a hF=>?_
  refine c_nil (n_then ?_)
  refine c_block ?_
  refine c_loopX hF hM hP (fun F x a w=>match x with | v9638=>Fr 99 [(3,.int .i64 v9638),(0,(s1).v),(2,.bool false)] a ∧ MemL w (Lr)) (fun hF hM=>⟨hF.to ⟨rfl,rfl,rfl,trivial⟩,hM⟩) ?_
  rintro v9638 a w o_l2 hP hK_l2 ⟨hF,hM⟩
  replace hP:Sh.ref23_pieces_l2 x0 v9638 = _:=hP
  unfold Sh.ref23_pieces_l2 at hP
  refine c_seq ?_
  refine c_seq ?_
  refine c_region ?_
  refine s_val hF (r_move hF rfl rfl) rfl rfl rfl fun a hF=>?_
  refine s_val hF (r_move hF rfl rfl) rfl rfl rfl fun a hF=>?_
  refine s_val hF (r_lenD (f3 _ (hsub _ (dropM hM 0))) q4.len Tryz.underlying58 hF rfl rfl) rfl rfl rfl fun a hF=>?_
  refine s_val hF (r_lss hF rfl rfl rfl) rfl rfl rfl fun a hF=>?_
  refine c_nil (n_then ?_)
  refine c_cond hF (c:=.tmp 10) rfl (fun hb9640=>?_) (fun hb9640=>?_)
  ·have hP:=Fx.cT hb9640 hP
   refine c_skip (n_then ?_)
   refine c_seq ?_
   refine c_joinX hF hM hP (fun F x a w=>match x with | _=>Fr 99 [(0,(s1).v),(2,.bool false),(3,.int .i64 v9638)] a ∧ MemL w (Lr)) (fun o_j3 hP hK_j3 hF hM=>?_) ?_
   ·refine c_block ?_
    refine c_seq ?_
    refine c_region ?_
    refine s_val hF (r_move hF rfl rfl) rfl rfl rfl fun a hF=>?_
    refine s_val hF (r_move hF rfl rfl) rfl rfl rfl fun a hF=>?_
    obtain ⟨x10017,hx10017,hP⟩:=bind_some hP
    have h0x10017:=get_some hx10017
    obtain ⟨yx10017,hgx10017,hrx10017⟩:=Each.getr q4 h0x10017.2
    have hdx10017:=Each.bd q4 (get_bd hx10017)
    obtain ⟨s10018,s10020,rfl,f10019,f10021⟩:=hrx10017
    refine s_val hF (r_indexZ (sz:=4) (f3 _ (hsub _ (dropM hM 0))) Tryz.underlying58 in156 rfl hF rfl rfl rfl hdx10017) rfl rfl rfl fun a hF=>?_
    refine s_val hF (r_loadn Tryz.isAgg156 Tryz.sizeOf156 hF rfl rfl (RPiece.len _) (((f3 _ (hsub _ (dropM hM 0))).elemS hgx10017))) rfl rfl rfl fun a hF=>?_
    refine s_eff hF rfl rfl rfl (w_alloc z156 (zs:=RPiece.zero.enc) rfl rfl fun b_B198_4 w hzB198_4 hAB198_4=>?_)
    have hM:=hM.plus hAB198_4
    replace hM:MemL _ (pt b_B198_4 (RPiece.enc (RPiece.mk 0 0 SV.nil SV.nil)) 156 :: Lr):=hM
    intro a hF
    refine s_eff0 rfl rfl (w_storen (vs:=_) Tryz.sizeOf156 (hM.obj (i:=0) rfl) hF rfl rfl rfl rfl (RPiece.len _) (RPiece.one _) (by first | (rw [RPiece.len,RPiece.len]; decide) | (rw [RPiece.len]; decide)) (put_all ((RPiece.len _).trans (RPiece.len _).symm)) fun w hU10022=>?_)
    have hM:=hM.chg hU10022 (i:=0) rfl
    replace hM:MemL _ (pt b_B198_4 (RPiece.enc (RPiece.mk x10017.table x10017.from_ s10018 s10020)) 156 :: Lr):=hM
    refine c_nil (n_then ?_)
    refine c_seq ?_
    refine c_seq ?_
    refine c_joinX hF hM hP (fun F x a w=>match x with | v10065=>Fr 99 [(50,.bool v10065),(0,(s1).v),(2,.bool false),(3,.int .i64 v9638),(4,.pointer (some ⟨b_B198_4,0,none⟩))] a ∧ MemL w (pt b_B198_4 (RPiece.enc (RPiece.mk x10017.table x10017.from_ s10018 s10020)) 156 :: Lr)) (fun o_j4 hP hK_j4 hF hM=>?_) ?_
    ·refine c_region ?_
     refine s_val hF (r_fieldAddr (off':=0) Tryz.underlying156 rfl in3 rfl hF rfl rfl rfl) rfl rfl rfl fun a hF=>?_
     refine s_val hF (r_load1 Tryz.isAgg3 hF rfl rfl (hM.cell (i:=0) rfl (RPiece.g_table _))) rfl rfl rfl fun a hF=>?_
     obtain ⟨y10067,hy10067,hP⟩:=bind_some hP
     refine s_eff hF rfl rfl rfl (w_call (xs:=[.tmp 18,.const (.int .i64 (-1)),.const (.int .i64 (7))]) Tryz.call159 hF rfl rfl (ref23_within_calls hy10067 hM ) fun v w hR=>?_)
     obtain ⟨rfl,hM⟩:=hR
     replace hM:MemL _ (pt b_B198_4 (RPiece.enc (RPiece.mk x10017.table x10017.from_ s10018 s10020)) 156 :: Lr):=hM
     intro a hF
     refine s_val hF (r_not hF rfl rfl) rfl rfl rfl fun a hF=>?_
     refine s_val hF (r_move hF rfl rfl) rfl rfl rfl fun a hF=>?_
     refine g_split 21 hF rfl (fun hb10068=>?_) (fun hb10068=>?_)
     ·have hP:=Fx.cT hb10068 hP
      refine g_skip hF rfl rfl rfl hb10068 rfl rfl fun a hF=>?_
      refine g_skip hF rfl rfl rfl hb10068 rfl rfl fun a hF=>?_
      refine g_skip hF rfl rfl rfl hb10068 rfl rfl fun a hF=>?_
      refine g_skip hF rfl rfl rfl hb10068 rfl rfl fun a hF=>?_
      refine s_val hF (r_pick1 hF rfl rfl hb10068 rfl) rfl rfl rfl fun a hF=>?_
      refine s_val hF (r_move hF rfl rfl) rfl rfl rfl fun a hF=>?_
      refine g_skip hF rfl rfl rfl rfl rfl rfl fun a hF=>?_
      refine g_skip hF rfl rfl rfl rfl rfl rfl fun a hF=>?_
      refine g_skip hF rfl rfl rfl rfl rfl rfl fun a hF=>?_
      refine g_skip hF rfl rfl rfl rfl rfl rfl fun a hF=>?_
      refine g_skip hF rfl rfl rfl rfl rfl rfl fun a hF=>?_
      refine g_skip hF rfl rfl rfl rfl rfl rfl fun a hF=>?_
      refine g_skip hF rfl rfl rfl rfl rfl rfl fun a hF=>?_
      refine s_val hF (r_pick1 hF rfl rfl rfl rfl) rfl rfl rfl fun a hF=>?_
      refine s_val hF (r_move hF rfl rfl) rfl rfl rfl fun a hF=>?_
      refine g_skip hF rfl rfl rfl rfl rfl rfl fun a hF=>?_
      refine g_skip hF rfl rfl rfl rfl rfl rfl fun a hF=>?_
      refine g_skip hF rfl rfl rfl rfl rfl rfl fun a hF=>?_
      refine g_skip hF rfl rfl rfl rfl rfl rfl fun a hF=>?_
      refine s_val hF (r_pick1 hF rfl rfl rfl rfl) rfl rfl rfl fun a hF=>?_
      refine s_val hF (r_move hF rfl rfl) rfl rfl rfl fun a hF=>?_
      refine g_skip hF rfl rfl rfl rfl rfl rfl fun a hF=>?_
      refine g_skip hF rfl rfl rfl rfl rfl rfl fun a hF=>?_
      refine g_skip hF rfl rfl rfl rfl rfl rfl fun a hF=>?_
      refine g_skip hF rfl rfl rfl rfl rfl rfl fun a hF=>?_
      refine g_skip hF rfl rfl rfl rfl rfl rfl fun a hF=>?_
      refine g_skip hF rfl rfl rfl rfl rfl rfl fun a hF=>?_
      refine g_skip hF rfl rfl rfl rfl rfl rfl fun a hF=>?_
      refine s_val hF (r_pick1 hF rfl rfl rfl rfl) rfl rfl rfl fun a hF=>?_
      refine c_nil (n_then ?_)
      have hP:=Option.some.inj hP
      subst hP
      exact ⟨true,rfl,hF.to ⟨rfl,rfl,rfl,rfl,rfl,trivial⟩,hM⟩
     have hP:=Fx.cF hb10068 hP
     refine g_val hF rfl rfl rfl hb10068 (r_fieldAddr (off':=1) Tryz.underlying156 rfl in3 rfl hF rfl rfl rfl) rfl rfl fun a hF=>?_
     refine g_val hF rfl rfl rfl hb10068 (r_load1 Tryz.isAgg3 hF rfl rfl (hM.cell (i:=0) rfl (RPiece.g_from_ _))) rfl rfl fun a hF=>?_
     obtain ⟨y10070,hy10070,hP⟩:=bind_some hP
     refine g_eff hF rfl rfl rfl hb10068 rfl rfl (w_call (xs:=[.tmp 23,.const (.int .i64 (0)),.const (.int .i64 (65535))]) Tryz.call159 hF rfl rfl (ref23_within_calls hy10070 hM ) fun v w hR=>?_)
     obtain ⟨rfl,hM⟩:=hR
     replace hM:MemL _ (pt b_B198_4 (RPiece.enc (RPiece.mk x10017.table x10017.from_ s10018 s10020)) 156 :: Lr):=hM
     intro a hF
     refine g_val hF rfl rfl rfl hb10068 (r_not hF rfl rfl) rfl rfl fun a hF=>?_
     refine s_val hF (r_pick0 hF rfl rfl hb10068 rfl) rfl rfl rfl fun a hF=>?_
     refine s_val hF (r_move hF rfl rfl) rfl rfl rfl fun a hF=>?_
     refine g_split 27 hF rfl (fun hb10071=>?_) (fun hb10071=>?_)
     ·have hP:=Fx.cT hb10071 hP
      refine g_skip hF rfl rfl rfl hb10071 rfl rfl fun a hF=>?_
      refine g_skip hF rfl rfl rfl hb10071 rfl rfl fun a hF=>?_
      refine g_skip hF rfl rfl rfl hb10071 rfl rfl fun a hF=>?_
      refine g_skip hF rfl rfl rfl hb10071 rfl rfl fun a hF=>?_
      refine g_skip hF rfl rfl rfl hb10071 rfl rfl fun a hF=>?_
      refine g_skip hF rfl rfl rfl hb10071 rfl rfl fun a hF=>?_
      refine g_skip hF rfl rfl rfl hb10071 rfl rfl fun a hF=>?_
      refine s_val hF (r_pick1 hF rfl rfl hb10071 rfl) rfl rfl rfl fun a hF=>?_
      refine s_val hF (r_move hF rfl rfl) rfl rfl rfl fun a hF=>?_
      refine g_skip hF rfl rfl rfl rfl rfl rfl fun a hF=>?_
      refine g_skip hF rfl rfl rfl rfl rfl rfl fun a hF=>?_
      refine g_skip hF rfl rfl rfl rfl rfl rfl fun a hF=>?_
      refine g_skip hF rfl rfl rfl rfl rfl rfl fun a hF=>?_
      refine s_val hF (r_pick1 hF rfl rfl rfl rfl) rfl rfl rfl fun a hF=>?_
      refine s_val hF (r_move hF rfl rfl) rfl rfl rfl fun a hF=>?_
      refine g_skip hF rfl rfl rfl rfl rfl rfl fun a hF=>?_
      refine g_skip hF rfl rfl rfl rfl rfl rfl fun a hF=>?_
      refine g_skip hF rfl rfl rfl rfl rfl rfl fun a hF=>?_
      refine g_skip hF rfl rfl rfl rfl rfl rfl fun a hF=>?_
      refine g_skip hF rfl rfl rfl rfl rfl rfl fun a hF=>?_
      refine g_skip hF rfl rfl rfl rfl rfl rfl fun a hF=>?_
      refine g_skip hF rfl rfl rfl rfl rfl rfl fun a hF=>?_
      refine s_val hF (r_pick1 hF rfl rfl rfl rfl) rfl rfl rfl fun a hF=>?_
      refine c_nil (n_then ?_)
      have hP:=Option.some.inj hP
      subst hP
      exact ⟨true,rfl,hF.to ⟨rfl,rfl,rfl,rfl,rfl,trivial⟩,hM⟩
     have hP:=Fx.cF hb10071 hP
     refine g_val hF rfl rfl rfl hb10071 (r_fieldAddr (off':=2) Tryz.underlying156 rfl in23 rfl hF rfl rfl rfl) rfl rfl fun a hF=>?_
     refine g_val hF rfl rfl rfl hb10071 (r_load1 Tryz.isAgg23 hF rfl rfl (hM.cell (i:=0) rfl (RPiece.g_old _))) rfl rfl fun a hF=>?_
     refine g_val hF rfl rfl rfl hb10071 (r_lenL (f10019 _ (hsub _ (dropM hM 1))) Tryz.underlying23 hF rfl rfl) rfl rfl fun a hF=>?_
     refine g_val hF rfl rfl rfl hb10071 (r_fieldAddr (off':=3) Tryz.underlying156 rfl in23 rfl hF rfl rfl rfl) rfl rfl fun a hF=>?_
     refine g_val hF rfl rfl rfl hb10071 (r_load1 Tryz.isAgg23 hF rfl rfl (hM.cell (i:=0) rfl (RPiece.g_new _))) rfl rfl fun a hF=>?_
     refine g_val hF rfl rfl rfl hb10071 (r_lenL (f10021 _ (hsub _ (dropM hM 1))) Tryz.underlying23 hF rfl rfl) rfl rfl fun a hF=>?_
     refine g_val hF rfl rfl rfl hb10071 (r_neq hF rfl rfl rfl) rfl rfl fun a hF=>?_
     refine s_val hF (r_pick0 hF rfl rfl hb10071 rfl) rfl rfl rfl fun a hF=>?_
     refine s_val hF (r_move hF rfl rfl) rfl rfl rfl fun a hF=>?_
     refine g_split 36 hF rfl (fun hb10072=>?_) (fun hb10072=>?_)
     ·have hP:=Fx.cT hb10072 hP
      refine g_skip hF rfl rfl rfl hb10072 rfl rfl fun a hF=>?_
      refine g_skip hF rfl rfl rfl hb10072 rfl rfl fun a hF=>?_
      refine g_skip hF rfl rfl rfl hb10072 rfl rfl fun a hF=>?_
      refine g_skip hF rfl rfl rfl hb10072 rfl rfl fun a hF=>?_
      refine s_val hF (r_pick1 hF rfl rfl hb10072 rfl) rfl rfl rfl fun a hF=>?_
      refine s_val hF (r_move hF rfl rfl) rfl rfl rfl fun a hF=>?_
      refine g_skip hF rfl rfl rfl rfl rfl rfl fun a hF=>?_
      refine g_skip hF rfl rfl rfl rfl rfl rfl fun a hF=>?_
      refine g_skip hF rfl rfl rfl rfl rfl rfl fun a hF=>?_
      refine g_skip hF rfl rfl rfl rfl rfl rfl fun a hF=>?_
      refine g_skip hF rfl rfl rfl rfl rfl rfl fun a hF=>?_
      refine g_skip hF rfl rfl rfl rfl rfl rfl fun a hF=>?_
      refine g_skip hF rfl rfl rfl rfl rfl rfl fun a hF=>?_
      refine s_val hF (r_pick1 hF rfl rfl rfl rfl) rfl rfl rfl fun a hF=>?_
      refine c_nil (n_then ?_)
      have hP:=Option.some.inj hP
      subst hP
      exact ⟨true,rfl,hF.to ⟨rfl,rfl,rfl,rfl,rfl,trivial⟩,hM⟩
     have hP:=Fx.cF hb10072 hP
     refine g_val hF rfl rfl rfl hb10072 (r_fieldAddr (off':=2) Tryz.underlying156 rfl in23 rfl hF rfl rfl rfl) rfl rfl fun a hF=>?_
     refine g_val hF rfl rfl rfl hb10072 (r_load1 Tryz.isAgg23 hF rfl rfl (hM.cell (i:=0) rfl (RPiece.g_old _))) rfl rfl fun a hF=>?_
     refine g_val hF rfl rfl rfl hb10072 (r_lenL (f10019 _ (hsub _ (dropM hM 1))) Tryz.underlying23 hF rfl rfl) rfl rfl fun a hF=>?_
     refine g_val hF rfl rfl rfl hb10072 (r_eql hF rfl rfl rfl) rfl rfl fun a hF=>?_
     refine s_val hF (r_pick0 hF rfl rfl hb10072 rfl) rfl rfl rfl fun a hF=>?_
     refine s_val hF (r_move hF rfl rfl) rfl rfl rfl fun a hF=>?_
     refine g_split 42 hF rfl (fun hb10073=>?_) (fun hb10073=>?_)
     ·have hP:=Fx.cT hb10073 hP
      refine g_skip hF rfl rfl rfl hb10073 rfl rfl fun a hF=>?_
      refine g_skip hF rfl rfl rfl hb10073 rfl rfl fun a hF=>?_
      refine g_skip hF rfl rfl rfl hb10073 rfl rfl fun a hF=>?_
      refine g_skip hF rfl rfl rfl hb10073 rfl rfl fun a hF=>?_
      refine g_skip hF rfl rfl rfl hb10073 rfl rfl fun a hF=>?_
      refine g_skip hF rfl rfl rfl hb10073 rfl rfl fun a hF=>?_
      refine g_skip hF rfl rfl rfl hb10073 rfl rfl fun a hF=>?_
      refine s_val hF (r_pick1 hF rfl rfl hb10073 rfl) rfl rfl rfl fun a hF=>?_
      refine c_nil (n_then ?_)
      have hP:=Option.some.inj hP
      subst hP
      exact ⟨true,rfl,hF.to ⟨rfl,rfl,rfl,rfl,rfl,trivial⟩,hM⟩
     have hP:=Fx.cF hb10073 hP
     refine g_val hF rfl rfl rfl hb10073 (r_fieldAddr (off':=1) Tryz.underlying156 rfl in3 rfl hF rfl rfl rfl) rfl rfl fun a hF=>?_
     refine g_val hF rfl rfl rfl hb10073 (r_load1 Tryz.isAgg3 hF rfl rfl (hM.cell (i:=0) rfl (RPiece.g_from_ _))) rfl rfl fun a hF=>?_
     refine g_val hF rfl rfl rfl hb10073 (r_fieldAddr (off':=2) Tryz.underlying156 rfl in23 rfl hF rfl rfl rfl) rfl rfl fun a hF=>?_
     refine g_val hF rfl rfl rfl hb10073 (r_load1 Tryz.isAgg23 hF rfl rfl (hM.cell (i:=0) rfl (RPiece.g_old _))) rfl rfl fun a hF=>?_
     refine g_val hF rfl rfl rfl hb10073 (r_lenL (f10019 _ (hsub _ (dropM hM 1))) Tryz.underlying23 hF rfl rfl) rfl rfl fun a hF=>?_
     refine g_val hF rfl rfl rfl hb10073 (r_add hF rfl rfl rfl) rfl rfl fun a hF=>?_
     refine g_val hF rfl rfl rfl hb10073 (r_gtr hF rfl rfl rfl) rfl rfl fun a hF=>?_
     refine s_val hF (r_pick0 hF rfl rfl hb10073 rfl) rfl rfl rfl fun a hF=>?_
     refine c_nil (n_then ?_)
     have hP:=Option.some.inj hP
     subst hP
     exact ⟨(decide (65535 < (IntKind.i64.wrap (x10017.from_ + (x10017.old.length:Int))))),rfl,hF.to ⟨rfl,rfl,rfl,rfl,rfl,trivial⟩,hM⟩
    rintro v10065 a w hP ⟨hF,hM⟩
    replace hP:Sh.ref23_pieces_j4 x0 v9638 x10017 v10065 = _:=hP
    unfold Sh.ref23_pieces_j4 at hP
    refine n_then ?_
    refine c_cond hF (c:=.tmp 50) rfl (fun hb10074=>?_) (fun hb10074=>?_)
    ·have hP:=Fx.cT hb10074 hP
     refine c_seq ?_
     refine c_region ?_
     refine s_val hF (r_assign hF rfl rfl) rfl rfl rfl fun a hF=>?_
     refine c_nil (n_then ?_)
     refine c_ret ?_
     have hP:=Option.some.inj hP
     subst hP
     have hP:=fin_inr hK_j3
     subst hP
     have hP:=hK_l2 _ rfl
     subst hP
     have hP:=fin_inr hK_j1
     subst hP
     refine e_ret1 Tryz.results198 hF rfl ?_
     exact ⟨rfl,selM hM [] 1 rfl⟩
    have hP:=Fx.cF hb10074 hP
    refine c_skip (n_then ?_)
    refine c_seq ?_
    refine c_joinX hF hM hP (fun F x a w=>match x with | _=>Fr 99 [(0,(s1).v),(2,.bool false),(3,.int .i64 v9638),(4,.pointer (some ⟨b_B198_4,0,none⟩))] a ∧ MemL w (pt b_B198_4 (RPiece.enc (RPiece.mk x10017.table x10017.from_ s10018 s10020)) 156 :: Lr)) (fun o_j5 hP hK_j5 hF hM=>?_) ?_
    ·refine c_seq ?_
     refine c_region ?_
     refine s_val hF (r_assign hF rfl rfl) rfl rfl rfl fun a hF=>?_
     refine c_nil (n_then ?_)
     refine c_block ?_
     refine c_loopX hF hM hP (fun F x a w=>match x with | v10176=>Fr 99 [(5,.int .i64 v10176),(0,(s1).v),(2,.bool false),(3,.int .i64 v9638),(4,.pointer (some ⟨b_B198_4,0,none⟩))] a ∧ MemL w (pt b_B198_4 (RPiece.enc (RPiece.mk x10017.table x10017.from_ s10018 s10020)) 156 :: Lr)) (fun hF hM=>⟨hF.to ⟨rfl,rfl,rfl,rfl,rfl,trivial⟩,hM⟩) ?_
     rintro v10176 a w o_l6 hP hK_l6 ⟨hF,hM⟩
     replace hP:Sh.ref23_pieces_l6 x10017 v10176 = _:=hP
     unfold Sh.ref23_pieces_l6 at hP
     refine c_seq ?_
     refine c_seq ?_
     refine c_region ?_
     refine s_val hF (r_move hF rfl rfl) rfl rfl rfl fun a hF=>?_
     refine s_val hF (r_fieldAddr (off':=2) Tryz.underlying156 rfl in23 rfl hF rfl rfl rfl) rfl rfl rfl fun a hF=>?_
     refine s_val hF (r_load1 Tryz.isAgg23 hF rfl rfl (hM.cell (i:=0) rfl (RPiece.g_old _))) rfl rfl rfl fun a hF=>?_
     refine s_val hF (r_lenL (f10019 _ (hsub _ (dropM hM 1))) Tryz.underlying23 hF rfl rfl) rfl rfl rfl fun a hF=>?_
     refine s_val hF (r_lss hF rfl rfl rfl) rfl rfl rfl fun a hF=>?_
     refine c_nil (n_then ?_)
     refine c_cond hF (c:=.tmp 55) rfl (fun hb10178=>?_) (fun hb10178=>?_)
     ·have hP:=Fx.cT hb10178 hP
      refine c_skip (n_then ?_)
      refine c_seq ?_
      refine c_block ?_
      refine c_seq ?_
      refine d_startT mixed (by kernel_rfl) hM [0] 1 rfl fun hch=>?_
      refine d_val hF hch 0 rfl (by kernel_rfl) rfl rfl rfl (fun w hM=>(r_fieldAddr (off':=2) Tryz.underlying156 rfl in23 rfl hF rfl rfl rfl)) fun a hF=>?_
      refine d_val hF hch 1 rfl (by kernel_rfl) rfl rfl rfl (fun w hM=>(r_load1 Tryz.isAgg23 hF rfl rfl (hM.cell (i:=0) rfl (RPiece.g_old _)))) fun a hF=>?_
      refine d_val hF hch 2 rfl (by kernel_rfl) rfl rfl rfl (fun w hM=>(r_move hF rfl rfl)) fun a hF=>?_
      obtain ⟨x10186,hx10186,hP⟩:=bind_some hP
      have h0x10186:=get_some hx10186
      refine d_val hF hch 3 rfl (by kernel_rfl) rfl rfl rfl (fun w hM=>(r_indexZ (sz:=1) (f10019 _ (hsub _ (dropM hM 1))) Tryz.underlying23 in5 rfl hF rfl rfl rfl (get_bd hx10186))) fun a hF=>?_
      refine d_val hF hch 4 rfl (by kernel_rfl) rfl rfl rfl (fun w hM=>(r_load1 Tryz.isAgg5 hF rfl rfl ((((f10019 _ (hsub _ (dropM hM 1))).elemS h0x10186.2)).get 0 rfl))) fun a hF=>?_
      refine d_val hF hch 5 rfl (by kernel_rfl) rfl rfl rfl (fun w hM=>(r_fieldAddr (off':=3) Tryz.underlying156 rfl in23 rfl hF rfl rfl rfl)) fun a hF=>?_
      refine d_val hF hch 6 rfl (by kernel_rfl) rfl rfl rfl (fun w hM=>(r_load1 Tryz.isAgg23 hF rfl rfl (hM.cell (i:=0) rfl (RPiece.g_new _)))) fun a hF=>?_
      refine d_val hF hch 7 rfl (by kernel_rfl) rfl rfl rfl (fun w hM=>(r_move hF rfl rfl)) fun a hF=>?_
      obtain ⟨x10187,hx10187,hP⟩:=bind_some hP
      have h0x10187:=get_some hx10187
      refine d_val hF hch 8 rfl (by kernel_rfl) rfl rfl rfl (fun w hM=>(r_indexZ (sz:=1) (f10021 _ (hsub _ (dropM hM 1))) Tryz.underlying23 in5 rfl hF rfl rfl rfl (get_bd hx10187))) fun a hF=>?_
      refine d_val hF hch 9 rfl (by kernel_rfl) rfl rfl rfl (fun w hM=>(r_load1 Tryz.isAgg5 hF rfl rfl ((((f10021 _ (hsub _ (dropM hM 1))).elemS h0x10187.2)).get 0 rfl))) fun a hF=>?_
      refine d_val hF hch 10 rfl (by kernel_rfl) rfl rfl rfl (fun w hM=>(r_eql hF rfl rfl rfl)) fun a hF=>?_
      refine d_end hch (by kernel_rfl) fun w hM=>?_
      refine n_then ?_
      refine c_cond hF (c:=.tmp 68) rfl (fun hb10188=>?_) (fun hb10188=>?_)
      ·have hP:=Fx.cT hb10188 hP
       refine c_seq ?_
       refine c_region ?_
       refine s_val hF (r_assign hF rfl rfl) rfl rfl rfl fun a hF=>?_
       refine c_nil (n_then ?_)
       refine c_ret ?_
       have hP:=Option.some.inj hP
       subst hP
       have hP:=hK_l6 _ rfl
       subst hP
       have hP:=fin_inr hK_j5
       subst hP
       have hP:=fin_inr hK_j3
       subst hP
       have hP:=hK_l2 _ rfl
       subst hP
       have hP:=fin_inr hK_j1
       subst hP
       refine e_ret1 Tryz.results198 hF rfl ?_
       exact ⟨rfl,selM hM [] 1 rfl⟩
      have hP:=Fx.cF hb10188 hP
      refine c_skip (n_block (n_then ?_))
      refine c_region ?_
      refine s_val hF (r_move hF rfl rfl) rfl rfl rfl fun a hF=>?_
      refine s_val hF (r_add hF rfl rfl rfl) rfl rfl rfl fun a hF=>?_
      refine s_val hF (r_assign hF rfl rfl) rfl rfl rfl fun a hF=>?_
      refine c_nil (n_then ?_)
      have hP:=Option.some.inj hP
      subst hP
      exact ⟨(IntKind.i64.wrap (v10176 + 1)),rfl,hF.to ⟨rfl,rfl,rfl,rfl,rfl,trivial⟩,hM⟩
     have hP:=Fx.cF hb10178 hP
     refine c_exit (x_then (x_then (x_hit ?_)))
     refine n_then ?_
     have hP:=Option.some.inj hP
     subst hP
     have hP:=hK_l6 _ rfl
     subst hP
     exact ⟨(),rfl,hF.to ⟨rfl,rfl,rfl,rfl,trivial⟩,hM⟩
    rintro ⟨⟩ a w hP ⟨hF,hM⟩
    replace hP:Sh.ref23_pieces_j5 x0 v9638 x10017 = _:=hP
    unfold Sh.ref23_pieces_j5 at hP
    refine n_then ?_
    refine c_seq ?_
    refine c_seq ?_
    refine c_region ?_
    refine s_val hF (r_move hF rfl rfl) rfl rfl rfl fun a hF=>?_
    refine s_val hF (r_eql hF rfl rfl rfl) rfl rfl rfl fun a hF=>?_
    refine c_nil (n_then ?_)
    refine c_cond hF (c:=.tmp 70) rfl (fun hb10190=>?_) (fun hb10190=>?_)
    ·have hP:=Fx.cT hb10190 hP
     refine c_exit (x_then (x_hit ?_))
     refine n_then ?_
     have hP:=Option.some.inj hP
     subst hP
     exact ⟨(),rfl,hF.to ⟨rfl,rfl,rfl,trivial⟩,selM hM [] 1 rfl⟩
    have hP:=Fx.cF hb10190 hP
    refine c_skip (n_then ?_)
    refine c_seq ?_
    refine c_region ?_
    refine s_val hF (r_move hF rfl rfl) rfl rfl rfl fun a hF=>?_
    refine s_val hF (r_move hF rfl rfl) rfl rfl rfl fun a hF=>?_
    refine s_val hF (r_sub hF rfl rfl rfl) rfl rfl rfl fun a hF=>?_
    obtain ⟨x10191,hx10191,hP⟩:=bind_some hP
    have h0x10191:=get_some hx10191
    obtain ⟨yx10191,hgx10191,hrx10191⟩:=Each.getr q4 h0x10191.2
    have hdx10191:=Each.bd q4 (get_bd hx10191)
    obtain ⟨s10192,s10194,rfl,f10193,f10195⟩:=hrx10191
    refine s_val hF (r_indexZ (sz:=4) (f3 _ (hsub _ (dropM hM 1))) Tryz.underlying58 in156 rfl hF rfl rfl rfl hdx10191) rfl rfl rfl fun a hF=>?_
    refine s_val hF (r_loadn Tryz.isAgg156 Tryz.sizeOf156 hF rfl rfl (RPiece.len _) (((f3 _ (hsub _ (dropM hM 1))).elemS hgx10191))) rfl rfl rfl fun a hF=>?_
    refine s_eff hF rfl rfl rfl (w_alloc z156 (zs:=RPiece.zero.enc) rfl rfl fun b_B198_6 w hzB198_6 hAB198_6=>?_)
    have hM:=hM.plus hAB198_6
    replace hM:MemL _ (pt b_B198_6 (RPiece.enc (RPiece.mk 0 0 SV.nil SV.nil)) 156 :: pt b_B198_4 (RPiece.enc (RPiece.mk x10017.table x10017.from_ s10018 s10020)) 156 :: Lr):=hM
    intro a hF
    refine s_eff0 rfl rfl (w_storen (vs:=_) Tryz.sizeOf156 (hM.obj (i:=0) rfl) hF rfl rfl rfl rfl (RPiece.len _) (RPiece.one _) (by first | (rw [RPiece.len,RPiece.len]; decide) | (rw [RPiece.len]; decide)) (put_all ((RPiece.len _).trans (RPiece.len _).symm)) fun w hU10196=>?_)
    have hM:=hM.chg hU10196 (i:=0) rfl
    replace hM:MemL _ (pt b_B198_6 (RPiece.enc (RPiece.mk x10191.table x10191.from_ s10192 s10194)) 156 :: pt b_B198_4 (RPiece.enc (RPiece.mk x10017.table x10017.from_ s10018 s10020)) 156 :: Lr):=hM
    refine c_nil (n_then ?_)
    refine c_seq ?_
    refine c_joinX hF hM hP (fun F x a w=>match x with | v10201=>Fr 99 [(98,.bool v10201),(0,(s1).v),(2,.bool false),(3,.int .i64 v9638)] a ∧ MemL w (Lr)) (fun o_j7 hP hK_j7 hF hM=>?_) ?_
    ·refine c_region ?_
     refine s_val hF (r_fieldAddr (off':=0) Tryz.underlying156 rfl in3 rfl hF rfl rfl rfl) rfl rfl rfl fun a hF=>?_
     refine s_val hF (r_load1 Tryz.isAgg3 hF rfl rfl (hM.cell (i:=1) rfl (RPiece.g_table _))) rfl rfl rfl fun a hF=>?_
     refine s_val hF (r_fieldAddr (off':=0) Tryz.underlying156 rfl in3 rfl hF rfl rfl rfl) rfl rfl rfl fun a hF=>?_
     refine s_val hF (r_load1 Tryz.isAgg3 hF rfl rfl (hM.cell (i:=0) rfl (RPiece.g_table _))) rfl rfl rfl fun a hF=>?_
     refine s_val hF (r_lss hF rfl rfl rfl) rfl rfl rfl fun a hF=>?_
     refine s_val hF (r_move hF rfl rfl) rfl rfl rfl fun a hF=>?_
     refine g_split 81 hF rfl (fun hb10202=>?_) (fun hb10202=>?_)
     ·have hP:=Fx.cT hb10202 hP
      refine g_skip hF rfl rfl rfl hb10202 rfl rfl fun a hF=>?_
      refine g_skip hF rfl rfl rfl hb10202 rfl rfl fun a hF=>?_
      refine g_skip hF rfl rfl rfl hb10202 rfl rfl fun a hF=>?_
      refine g_skip hF rfl rfl rfl hb10202 rfl rfl fun a hF=>?_
      refine g_skip hF rfl rfl rfl hb10202 rfl rfl fun a hF=>?_
      refine g_skip hF rfl rfl rfl hb10202 rfl rfl fun a hF=>?_
      refine g_skipU hF rfl rfl rfl rfl rfl fun a hF=>?_
      refine g_skipU hF rfl rfl rfl rfl rfl fun a hF=>?_
      refine g_skipU hF rfl rfl rfl rfl rfl fun a hF=>?_
      refine g_skipU hF rfl rfl rfl rfl rfl fun a hF=>?_
      refine g_skipU hF rfl rfl rfl rfl rfl fun a hF=>?_
      refine g_skipU hF rfl rfl rfl rfl rfl fun a hF=>?_
      refine g_skipU hF rfl rfl rfl rfl rfl fun a hF=>?_
      refine g_skipU hF rfl rfl rfl rfl rfl fun a hF=>?_
      refine g_skipU hF rfl rfl rfl rfl rfl fun a hF=>?_
      refine g_skip hF rfl rfl rfl hb10202 rfl rfl fun a hF=>?_
      refine s_val hF (r_pick1 hF rfl rfl hb10202 rfl) rfl rfl rfl fun a hF=>?_
      refine c_nil (n_then ?_)
      have hP:=Option.some.inj hP
      subst hP
      exact ⟨true,rfl,hF.to ⟨rfl,rfl,rfl,rfl,trivial⟩,selM hM [] 2 rfl⟩
     have hP:=Fx.cF hb10202 hP
     refine g_val hF rfl rfl rfl hb10202 (r_fieldAddr (off':=0) Tryz.underlying156 rfl in3 rfl hF rfl rfl rfl) rfl rfl fun a hF=>?_
     refine g_val hF rfl rfl rfl hb10202 (r_load1 Tryz.isAgg3 hF rfl rfl (hM.cell (i:=1) rfl (RPiece.g_table _))) rfl rfl fun a hF=>?_
     refine g_val hF rfl rfl rfl hb10202 (r_fieldAddr (off':=0) Tryz.underlying156 rfl in3 rfl hF rfl rfl rfl) rfl rfl fun a hF=>?_
     refine g_val hF rfl rfl rfl hb10202 (r_load1 Tryz.isAgg3 hF rfl rfl (hM.cell (i:=0) rfl (RPiece.g_table _))) rfl rfl fun a hF=>?_
     refine g_val hF rfl rfl rfl hb10202 (r_eql hF rfl rfl rfl) rfl rfl fun a hF=>?_
     refine g_val hF rfl rfl rfl hb10202 (r_move hF rfl rfl) rfl rfl fun a hF=>?_
     refine g_split 87 hF rfl (fun hb10203=>?_) (fun hb10203=>?_)
     ·have hP:=Fx.cT hb10203 hP
      refine g_val hF rfl rfl rfl hb10203 (r_fieldAddr (off':=1) Tryz.underlying156 rfl in3 rfl hF rfl rfl rfl) rfl rfl fun a hF=>?_
      refine g_val hF rfl rfl rfl hb10203 (r_load1 Tryz.isAgg3 hF rfl rfl (hM.cell (i:=1) rfl (RPiece.g_from_ _))) rfl rfl fun a hF=>?_
      refine g_val hF rfl rfl rfl hb10203 (r_fieldAddr (off':=1) Tryz.underlying156 rfl in3 rfl hF rfl rfl rfl) rfl rfl fun a hF=>?_
      refine g_val hF rfl rfl rfl hb10203 (r_load1 Tryz.isAgg3 hF rfl rfl (hM.cell (i:=0) rfl (RPiece.g_from_ _))) rfl rfl fun a hF=>?_
      refine g_val hF rfl rfl rfl hb10203 (r_fieldAddr (off':=2) Tryz.underlying156 rfl in23 rfl hF rfl rfl rfl) rfl rfl fun a hF=>?_
      refine g_val hF rfl rfl rfl hb10203 (r_load1 Tryz.isAgg23 hF rfl rfl (hM.cell (i:=0) rfl (RPiece.g_old _))) rfl rfl fun a hF=>?_
      refine g_val hF rfl rfl rfl hb10203 (r_lenL (f10193 _ (hsub _ (dropM hM 2))) Tryz.underlying23 hF rfl rfl) rfl rfl fun a hF=>?_
      refine g_val hF rfl rfl rfl hb10203 (r_add hF rfl rfl rfl) rfl rfl fun a hF=>?_
      refine g_val hF rfl rfl rfl hb10203 (r_leq hF rfl rfl rfl) rfl rfl fun a hF=>?_
      refine g_val hF rfl rfl rfl hb10202 (r_pick1 hF rfl rfl hb10203 rfl) rfl rfl fun a hF=>?_
      refine s_val hF (r_pick0 hF rfl rfl hb10202 rfl) rfl rfl rfl fun a hF=>?_
      refine c_nil (n_then ?_)
      have hP:=Option.some.inj hP
      subst hP
      exact ⟨(decide (x10017.from_ ≤ (IntKind.i64.wrap (x10191.from_ + (x10191.old.length:Int))))),rfl,hF.to ⟨rfl,rfl,rfl,rfl,trivial⟩,selM hM [] 2 rfl⟩
     have hP:=Fx.cF hb10203 hP
     refine g_skip hF rfl rfl rfl hb10203 rfl rfl fun a hF=>?_
     refine g_skip hF rfl rfl rfl hb10203 rfl rfl fun a hF=>?_
     refine g_skip hF rfl rfl rfl hb10203 rfl rfl fun a hF=>?_
     refine g_skip hF rfl rfl rfl hb10203 rfl rfl fun a hF=>?_
     refine g_skip hF rfl rfl rfl hb10203 rfl rfl fun a hF=>?_
     refine g_skip hF rfl rfl rfl hb10203 rfl rfl fun a hF=>?_
     refine g_skip hF rfl rfl rfl hb10203 rfl rfl fun a hF=>?_
     refine g_skip hF rfl rfl rfl hb10203 rfl rfl fun a hF=>?_
     refine g_skip hF rfl rfl rfl hb10203 rfl rfl fun a hF=>?_
     refine g_val hF rfl rfl rfl hb10202 (r_pick0 hF rfl rfl hb10203 rfl) rfl rfl fun a hF=>?_
     refine s_val hF (r_pick0 hF rfl rfl hb10202 rfl) rfl rfl rfl fun a hF=>?_
     refine c_nil (n_then ?_)
     have hP:=Option.some.inj hP
     subst hP
     exact ⟨false,rfl,hF.to ⟨rfl,rfl,rfl,rfl,trivial⟩,selM hM [] 2 rfl⟩
    rintro v10201 a w hP ⟨hF,hM⟩
    replace hP:Sh.ref23_pieces_j7 v10201 = _:=hP
    unfold Sh.ref23_pieces_j7 at hP
    refine n_then ?_
    refine c_cond hF (c:=.tmp 98) rfl (fun hb10204=>?_) (fun hb10204=>?_)
    ·have hP:=Fx.cT hb10204 hP
     refine c_seq ?_
     refine c_region ?_
     refine s_val hF (r_assign hF rfl rfl) rfl rfl rfl fun a hF=>?_
     refine c_nil (n_then ?_)
     refine c_ret ?_
     have hP:=Option.some.inj hP
     subst hP
     have hP:=fin_inr hK_j3
     subst hP
     have hP:=hK_l2 _ rfl
     subst hP
     have hP:=fin_inr hK_j1
     subst hP
     refine e_ret1 Tryz.results198 hF rfl ?_
     exact ⟨rfl,hM⟩
    have hP:=Fx.cF hb10204 hP
    refine c_skip (n_block (n_then ?_))
    have hP:=Option.some.inj hP
    subst hP
    exact ⟨(),rfl,hF.to ⟨rfl,rfl,rfl,trivial⟩,hM⟩
   rintro ⟨⟩ a w hP ⟨hF,hM⟩
   replace hP:Sh.ref23_pieces_j3 v9638 = _:=hP
   unfold Sh.ref23_pieces_j3 at hP
   refine n_then ?_
   refine c_region ?_
   refine s_val hF (r_move hF rfl rfl) rfl rfl rfl fun a hF=>?_
   refine s_val hF (r_add hF rfl rfl rfl) rfl rfl rfl fun a hF=>?_
   refine s_val hF (r_assign hF rfl rfl) rfl rfl rfl fun a hF=>?_
   refine c_nil (n_then ?_)
   have hP:=Option.some.inj hP
   subst hP
   exact ⟨(IntKind.i64.wrap (v9638 + 1)),rfl,hF.to ⟨rfl,rfl,rfl,trivial⟩,hM⟩
  have hP:=Fx.cF hb9640 hP
  refine c_exit (x_then (x_then (x_hit ?_)))
  refine n_then ?_
  have hP:=Option.some.inj hP
  subst hP
  have hP:=hK_l2 _ rfl
  subst hP
  exact ⟨(),rfl,hF.to ⟨rfl,trivial⟩,hM⟩
 rintro ⟨⟩ a w hP ⟨hF,hM⟩
 replace hP:Sh.ref23_pieces_j1 = _:=hP
 unfold Sh.ref23_pieces_j1 at hP
 refine n_then ?_
 refine c_seq ?_
 refine c_region ?_
 refine s_val hF (r_assign hF rfl rfl) rfl rfl rfl fun a hF=>?_
 refine c_nil (n_then ?_)
 refine c_ret ?_
 have hP:=Option.some.inj hP
 subst hP
 refine e_ret1 Tryz.results198 hF rfl ?_
 exact ⟨rfl,hM⟩
set_option maxHeartbeats 4000000 in
theorem ref23_Plain_calls {x0:QMark} {s1:SV} {s3:SV} {s5:SV} {hs6:List RPiece} {s9:SV} {out:Bool} {w0:World} {Bf:World → Prop} {Lr:List Res} (hP:Sh.ref23_Plain x0 = some out) (hM:MemL w0 (Lr)) (hsub:∀ w,MemL w Lr → Bf w) (f2:LIn Bf s1 x0.regs) (f4:LIn Bf s3 x0.slots) (f7:LIn Bf s5 hs6) (q8:Each (QPieceIn Bf) hs6 x0.pieces) (f10:LIn Bf s9 x0.sent):Calls Tryz.prog 135 #[.agg (RMark.enc (RMark.mk x0.at_ x0.next x0.done s1 s3 s5 s9)).toArray] w0 (Ret fun v w'=>v = .bool out ∧ MemL w' (Lr)):=by
 unfold Sh.ref23_Plain at hP
 refine calls_enter (vs:=[.agg (RMark.enc (RMark.mk x0.at_ x0.next x0.done s1 s3 s5 s9)).toArray]) Tryz.func135 rfl Tryz.ntmps135 rfl fun a hF=>?_
 refine c_seq ?_
 refine c_region ?_
 refine s_eff hF rfl rfl rfl (w_box hF rfl rfl rfl fun b_B135_1 w hzB135_1 hAB135_1=>?_)
 have hM:=hM.plus hAB135_1
 replace hM:MemL _ (pt b_B135_1 (RMark.enc (RMark.mk x0.at_ x0.next x0.done s1 s3 s5 s9)) 60 :: Lr):=hM
 intro a hF
 refine s_val hF (r_assign hF rfl rfl) rfl rfl rfl fun a hF=>?_
 refine c_nil (n_then ?_)
 refine c_seq ?_
 refine c_seq ?_
 refine c_joinX hF hM hP (fun F x a w=>match x with | v925=>Fr 104 [(22,.bool v925),(1,.pointer (some ⟨b_B135_1,0,none⟩)),(2,.bool false)] a ∧ MemL w (pt b_B135_1 (RMark.enc (RMark.mk x0.at_ x0.next x0.done s1 s3 s5 s9)) 60 :: Lr)) (fun o_j1 hP hK_j1 hF hM=>?_) ?_
 ·refine c_region ?_
  refine s_val hF (r_fieldAddr (off':=0) Tryz.underlying60 rfl in3 rfl hF rfl rfl rfl) rfl rfl rfl fun a hF=>?_
  refine s_val hF (r_load1 Tryz.isAgg3 hF rfl rfl (hM.cell (i:=0) rfl (RMark.g_at_ _))) rfl rfl rfl fun a hF=>?_
  obtain ⟨y927,hy927,hP⟩:=bind_some hP
  refine s_eff hF rfl rfl rfl (w_call (xs:=[.tmp 8,.const (.int .i64 (0)),.const (.int .i64 (4095))]) Tryz.call159 hF rfl rfl (ref23_within_calls hy927 hM ) fun v w hR=>?_)
  obtain ⟨rfl,hM⟩:=hR
  replace hM:MemL _ (pt b_B135_1 (RMark.enc (RMark.mk x0.at_ x0.next x0.done s1 s3 s5 s9)) 60 :: Lr):=hM
  intro a hF
  refine s_val hF (r_not hF rfl rfl) rfl rfl rfl fun a hF=>?_
  refine s_val hF (r_move hF rfl rfl) rfl rfl rfl fun a hF=>?_
  refine g_split 11 hF rfl (fun hb928=>?_) (fun hb928=>?_)
  ·have hP:=Fx.cT hb928 hP
   refine g_skip hF rfl rfl rfl hb928 rfl rfl fun a hF=>?_
   refine g_skip hF rfl rfl rfl hb928 rfl rfl fun a hF=>?_
   refine g_skip hF rfl rfl rfl hb928 rfl rfl fun a hF=>?_
   refine g_skip hF rfl rfl rfl hb928 rfl rfl fun a hF=>?_
   refine s_val hF (r_pick1 hF rfl rfl hb928 rfl) rfl rfl rfl fun a hF=>?_
   refine s_val hF (r_move hF rfl rfl) rfl rfl rfl fun a hF=>?_
   refine g_skip hF rfl rfl rfl rfl rfl rfl fun a hF=>?_
   refine g_skip hF rfl rfl rfl rfl rfl rfl fun a hF=>?_
   refine g_skip hF rfl rfl rfl rfl rfl rfl fun a hF=>?_
   refine g_skip hF rfl rfl rfl rfl rfl rfl fun a hF=>?_
   refine s_val hF (r_pick1 hF rfl rfl rfl rfl) rfl rfl rfl fun a hF=>?_
   refine c_nil (n_then ?_)
   have hP:=Option.some.inj hP
   subst hP
   exact ⟨true,rfl,hF.to ⟨rfl,rfl,rfl,trivial⟩,hM⟩
  have hP:=Fx.cF hb928 hP
  refine g_val hF rfl rfl rfl hb928 (r_fieldAddr (off':=1) Tryz.underlying60 rfl in3 rfl hF rfl rfl rfl) rfl rfl fun a hF=>?_
  refine g_val hF rfl rfl rfl hb928 (r_load1 Tryz.isAgg3 hF rfl rfl (hM.cell (i:=0) rfl (RMark.g_next _))) rfl rfl fun a hF=>?_
  obtain ⟨y930,hy930,hP⟩:=bind_some hP
  refine g_eff hF rfl rfl rfl hb928 rfl rfl (w_call (xs:=[.tmp 13,.const (.int .i64 (0)),.const (.int .i64 (4095))]) Tryz.call159 hF rfl rfl (ref23_within_calls hy930 hM ) fun v w hR=>?_)
  obtain ⟨rfl,hM⟩:=hR
  replace hM:MemL _ (pt b_B135_1 (RMark.enc (RMark.mk x0.at_ x0.next x0.done s1 s3 s5 s9)) 60 :: Lr):=hM
  intro a hF
  refine g_val hF rfl rfl rfl hb928 (r_not hF rfl rfl) rfl rfl fun a hF=>?_
  refine s_val hF (r_pick0 hF rfl rfl hb928 rfl) rfl rfl rfl fun a hF=>?_
  refine s_val hF (r_move hF rfl rfl) rfl rfl rfl fun a hF=>?_
  refine g_split 17 hF rfl (fun hb931=>?_) (fun hb931=>?_)
  ·have hP:=Fx.cT hb931 hP
   refine g_skip hF rfl rfl rfl hb931 rfl rfl fun a hF=>?_
   refine g_skip hF rfl rfl rfl hb931 rfl rfl fun a hF=>?_
   refine g_skip hF rfl rfl rfl hb931 rfl rfl fun a hF=>?_
   refine g_skip hF rfl rfl rfl hb931 rfl rfl fun a hF=>?_
   refine s_val hF (r_pick1 hF rfl rfl hb931 rfl) rfl rfl rfl fun a hF=>?_
   refine c_nil (n_then ?_)
   have hP:=Option.some.inj hP
   subst hP
   exact ⟨true,rfl,hF.to ⟨rfl,rfl,rfl,trivial⟩,hM⟩
  have hP:=Fx.cF hb931 hP
  refine g_val hF rfl rfl rfl hb931 (r_fieldAddr (off':=6) Tryz.underlying60 rfl in52 rfl hF rfl rfl rfl) rfl rfl fun a hF=>?_
  refine g_val hF rfl rfl rfl hb931 (r_load1 Tryz.isAgg52 hF rfl rfl (hM.cell (i:=0) rfl (RMark.g_sent _))) rfl rfl fun a hF=>?_
  refine g_val hF rfl rfl rfl hb931 (r_lenL (f10 _ (hsub _ (dropM hM 1))) Tryz.underlying52 hF rfl rfl) rfl rfl fun a hF=>?_
  refine g_val hF rfl rfl rfl hb931 (r_gtr hF rfl rfl rfl) rfl rfl fun a hF=>?_
  refine s_val hF (r_pick0 hF rfl rfl hb931 rfl) rfl rfl rfl fun a hF=>?_
  refine c_nil (n_then ?_)
  have hP:=Option.some.inj hP
  subst hP
  exact ⟨(decide (1 < (x0.sent.length:Int))),rfl,hF.to ⟨rfl,rfl,rfl,trivial⟩,hM⟩
 rintro v925 a w hP ⟨hF,hM⟩
 replace hP:Sh.ref23_Plain_j1 x0 v925 = _:=hP
 unfold Sh.ref23_Plain_j1 at hP
 refine n_then ?_
 refine c_cond hF (c:=.tmp 22) rfl (fun hb932=>?_) (fun hb932=>?_)
 ·have hP:=Fx.cT hb932 hP
  refine c_seq ?_
  refine c_region ?_
  refine s_val hF (r_assign hF rfl rfl) rfl rfl rfl fun a hF=>?_
  refine c_nil (n_then ?_)
  refine c_ret ?_
  have hP:=Option.some.inj hP
  subst hP
  refine e_ret1 Tryz.results135 hF rfl ?_
  exact ⟨rfl,selM hM [] 1 rfl⟩
 have hP:=Fx.cF hb932 hP
 refine c_skip (n_then ?_)
 refine c_seq ?_
 refine c_joinX hF hM hP (fun F x a w=>match x with | _=>Fr 104 [(1,.pointer (some ⟨b_B135_1,0,none⟩)),(2,.bool false)] a ∧ MemL w (pt b_B135_1 (RMark.enc (RMark.mk x0.at_ x0.next x0.done s1 s3 s5 s9)) 60 :: Lr)) (fun o_j2 hP hK_j2 hF hM=>?_) ?_
 ·refine c_seq ?_
  refine c_region ?_
  refine s_val hF (r_assign hF rfl rfl) rfl rfl rfl fun a hF=>?_
  refine c_nil (n_then ?_)
  refine c_block ?_
  refine c_loopX hF hM hP (fun F x a w=>match x with | v1306=>Fr 104 [(3,.int .i64 v1306),(1,.pointer (some ⟨b_B135_1,0,none⟩)),(2,.bool false)] a ∧ MemL w (pt b_B135_1 (RMark.enc (RMark.mk x0.at_ x0.next x0.done s1 s3 s5 s9)) 60 :: Lr)) (fun hF hM=>⟨hF.to ⟨rfl,rfl,rfl,trivial⟩,hM⟩) ?_
  rintro v1306 a w o_l3 hP hK_l3 ⟨hF,hM⟩
  replace hP:Sh.ref23_Plain_l3 x0 v1306 = _:=hP
  unfold Sh.ref23_Plain_l3 at hP
  refine c_seq ?_
  refine c_seq ?_
  refine c_region ?_
  refine s_val hF (r_move hF rfl rfl) rfl rfl rfl fun a hF=>?_
  refine s_val hF (r_fieldAddr (off':=3) Tryz.underlying60 rfl in56 rfl hF rfl rfl rfl) rfl rfl rfl fun a hF=>?_
  refine s_val hF (r_load1 Tryz.isAgg56 hF rfl rfl (hM.cell (i:=0) rfl (RMark.g_regs _))) rfl rfl rfl fun a hF=>?_
  refine s_val hF (r_lenL (f2 _ (hsub _ (dropM hM 1))) Tryz.underlying56 hF rfl rfl) rfl rfl rfl fun a hF=>?_
  refine s_val hF (r_lss hF rfl rfl rfl) rfl rfl rfl fun a hF=>?_
  refine c_nil (n_then ?_)
  refine c_cond hF (c:=.tmp 27) rfl (fun hb1308=>?_) (fun hb1308=>?_)
  ·have hP:=Fx.cT hb1308 hP
   refine c_skip (n_then ?_)
   refine c_seq ?_
   refine c_block ?_
   refine c_seq ?_
   refine c_region ?_
   refine s_val hF (r_fieldAddr (off':=3) Tryz.underlying60 rfl in56 rfl hF rfl rfl rfl) rfl rfl rfl fun a hF=>?_
   refine s_val hF (r_load1 Tryz.isAgg56 hF rfl rfl (hM.cell (i:=0) rfl (RMark.g_regs _))) rfl rfl rfl fun a hF=>?_
   refine s_val hF (r_move hF rfl rfl) rfl rfl rfl fun a hF=>?_
   obtain ⟨x1331,hx1331,hP⟩:=bind_some hP
   have h0x1331:=get_some hx1331
   refine s_val hF (r_indexZ (sz:=9) (f2 _ (hsub _ (dropM hM 1))) Tryz.underlying56 in128 rfl hF rfl rfl rfl (get_bd hx1331)) rfl rfl rfl fun a hF=>?_
   refine s_val hF (r_loadn Tryz.isAgg128 Tryz.sizeOf128 hF rfl rfl (LTurn.len _) (((f2 _ (hsub _ (dropM hM 1))).elemS h0x1331.2))) rfl rfl rfl fun a hF=>?_
   refine s_eff hF rfl rfl rfl (w_alloc z128 (zs:=LTurn.zero.enc) rfl rfl fun b_B135_4 w hzB135_4 hAB135_4=>?_)
   have hM:=hM.plus hAB135_4
   replace hM:MemL _ (pt b_B135_4 (LTurn.enc LTurn.zero) 128 :: pt b_B135_1 (RMark.enc (RMark.mk x0.at_ x0.next x0.done s1 s3 s5 s9)) 60 :: Lr):=hM
   intro a hF
   refine s_eff0 rfl rfl (w_storen (vs:=_) Tryz.sizeOf128 (hM.obj (i:=0) rfl) hF rfl rfl rfl rfl (LTurn.len _) (LTurn.one _) (by first | (rw [LTurn.len,LTurn.len]; decide) | (rw [LTurn.len]; decide)) (put_all ((LTurn.len _).trans (LTurn.len _).symm)) fun w hU1332=>?_)
   have hM:=hM.chg hU1332 (i:=0) rfl
   replace hM:MemL _ (pt b_B135_4 (LTurn.enc x1331) 128 :: pt b_B135_1 (RMark.enc (RMark.mk x0.at_ x0.next x0.done s1 s3 s5 s9)) 60 :: Lr):=hM
   refine c_nil (n_then ?_)
   refine c_seq ?_
   refine c_joinX hF hM hP (fun F x a w=>match x with | v1345=>Fr 104 [(61,.bool v1345),(1,.pointer (some ⟨b_B135_1,0,none⟩)),(2,.bool false),(3,.int .i64 v1306)] a ∧ MemL w (pt b_B135_1 (RMark.enc (RMark.mk x0.at_ x0.next x0.done s1 s3 s5 s9)) 60 :: Lr)) (fun o_j4 hP hK_j4 hF hM=>?_) ?_
   ·refine d_startT mixed (by kernel_rfl) hM [0,1] 2 rfl fun hch=>?_
    refine d_val hF hch 0 rfl (by kernel_rfl) rfl rfl rfl (fun w hM=>(r_fieldAddr (off':=0) Tryz.underlying128 rfl in3 rfl hF rfl rfl rfl)) fun a hF=>?_
    refine d_val hF hch 1 rfl (by kernel_rfl) rfl rfl rfl (fun w hM=>(r_load1 Tryz.isAgg3 hF rfl rfl (hM.cell (i:=0) rfl (LTurn.g_reg _)))) fun a hF=>?_
    refine d_one hch 2 (by kernel_rfl) rfl rfl ?_
    refine d_ex hF 2 rfl rfl rfl rfl rfl fun w hMs hM=>?_
    obtain ⟨y1347,hy1347,hP⟩:=bind_some hP
    refine (w_call (xs:=[.tmp 36,.const (.int .i64 (0)),.const (.int .i64 (10))]) Tryz.call159 hF rfl rfl (ref23_within_calls hy1347 hM ) fun v w hR=>?_)
    obtain ⟨rfl,hM⟩:=hR
    replace hM:MemL _ (pt b_B135_4 (LTurn.enc x1331) 128 :: pt b_B135_1 (RMark.enc (RMark.mk x0.at_ x0.next x0.done s1 s3 s5 s9)) 60 :: Lr):=hM
    have hMs:=selM hM [0,1] 2 rfl
    refine ⟨_,_,hMs,hM,.inl fun _ h=>h,fun a hF=>?_⟩
    refine d_val hF hch 3 rfl (by kernel_rfl) rfl rfl rfl (fun w hM=>(r_not hF rfl rfl)) fun a hF=>?_
    refine d_val hF hch 4 rfl (by kernel_rfl) rfl rfl rfl (fun w hM=>(r_move hF rfl rfl)) fun a hF=>?_
    refine g_split 39 hF rfl (fun hb1348=>?_) (fun hb1348=>?_)
    ·have hP:=Fx.cT hb1348 hP
     refine d_skip hF hch 5 rfl (by kernel_rfl) rfl rfl rfl hb1348 rfl rfl fun a hF=>?_
     refine d_skip hF hch 6 rfl (by kernel_rfl) rfl rfl rfl hb1348 rfl rfl fun a hF=>?_
     refine d_skip hF hch 7 rfl (by kernel_rfl) rfl rfl rfl hb1348 rfl rfl fun a hF=>?_
     refine d_skip hF hch 8 rfl (by kernel_rfl) rfl rfl rfl hb1348 rfl rfl fun a hF=>?_
     refine d_skip hF hch 9 rfl (by kernel_rfl) rfl rfl rfl hb1348 rfl rfl fun a hF=>?_
     refine d_val hF hch 10 rfl (by kernel_rfl) rfl rfl rfl (fun w hM=>(r_pick1 hF rfl rfl hb1348 rfl)) fun a hF=>?_
     refine d_val hF hch 11 rfl (by kernel_rfl) rfl rfl rfl (fun w hM=>(r_move hF rfl rfl)) fun a hF=>?_
     refine d_skip hF hch 12 rfl (by kernel_rfl) rfl rfl rfl rfl rfl rfl fun a hF=>?_
     refine d_skip hF hch 13 rfl (by kernel_rfl) rfl rfl rfl rfl rfl rfl fun a hF=>?_
     refine d_skip hF hch 14 rfl (by kernel_rfl) rfl rfl rfl rfl rfl rfl fun a hF=>?_
     refine d_skipU hF hch 15 rfl (by kernel_rfl) rfl rfl rfl rfl rfl fun a hF=>?_
     refine d_skipU hF hch 16 rfl (by kernel_rfl) rfl rfl rfl rfl rfl fun a hF=>?_
     refine d_skipU hF hch 17 rfl (by kernel_rfl) rfl rfl rfl rfl rfl fun a hF=>?_
     refine d_skipU hF hch 18 rfl (by kernel_rfl) rfl rfl rfl rfl rfl fun a hF=>?_
     refine d_skipU hF hch 19 rfl (by kernel_rfl) rfl rfl rfl rfl rfl fun a hF=>?_
     refine d_skipU hF hch 20 rfl (by kernel_rfl) rfl rfl rfl rfl rfl fun a hF=>?_
     refine d_skipU hF hch 21 rfl (by kernel_rfl) rfl rfl rfl rfl rfl fun a hF=>?_
     refine d_skipU hF hch 22 rfl (by kernel_rfl) rfl rfl rfl rfl rfl fun a hF=>?_
     refine d_skipU hF hch 23 rfl (by kernel_rfl) rfl rfl rfl rfl rfl fun a hF=>?_
     refine d_skipU hF hch 24 rfl (by kernel_rfl) rfl rfl rfl rfl rfl fun a hF=>?_
     refine d_skip hF hch 25 rfl (by kernel_rfl) rfl rfl rfl rfl rfl rfl fun a hF=>?_
     refine d_val hF hch 26 rfl (by kernel_rfl) rfl rfl rfl (fun w hM=>(r_pick1 hF rfl rfl rfl rfl)) fun a hF=>?_
     refine d_end hch (by kernel_rfl) fun w hM=>?_
     refine n_then ?_
     have hP:=Option.some.inj hP
     subst hP
     exact ⟨true,rfl,hF.to ⟨rfl,rfl,rfl,rfl,trivial⟩,selM hM [1] 2 rfl⟩
    have hP:=Fx.cF hb1348 hP
    refine d_valg hF hch 5 rfl (by kernel_rfl) rfl rfl rfl hb1348 rfl rfl (fun w hM=>(r_fieldAddr (off':=1) Tryz.underlying128 rfl in46 rfl hF rfl rfl rfl)) fun a hF=>?_
    refine d_valg hF hch 6 rfl (by kernel_rfl) rfl rfl rfl hb1348 rfl rfl (fun w hM=>(r_loadn Tryz.isAgg46 Tryz.sizeOf46 hF rfl rfl (LVal.len _) (hM.cells (i:=0) rfl (LTurn.c_old _)))) fun a hF=>?_
    refine d_valg hF hch 7 rfl (by kernel_rfl) rfl rfl rfl hb1348 rfl rfl (fun w hM=>(r_fieldAddr (off':=5) Tryz.underlying128 rfl in46 rfl hF rfl rfl rfl)) fun a hF=>?_
    refine d_valg hF hch 8 rfl (by kernel_rfl) rfl rfl rfl hb1348 rfl rfl (fun w hM=>(r_loadn Tryz.isAgg46 Tryz.sizeOf46 hF rfl rfl (LVal.len _) (hM.cells (i:=0) rfl (LTurn.c_new _)))) fun a hF=>?_
    refine d_valg hF hch 9 rfl (by kernel_rfl) rfl rfl rfl hb1348 rfl rfl (fun w hM=>(r_eqlA Tryz.eqGuardType46 (eq_LVal _ _ _ _ (by decide)) hF rfl rfl rfl)) fun a hF=>?_
    refine d_val hF hch 10 rfl (by kernel_rfl) rfl rfl rfl (fun w hM=>(r_pick0 hF rfl rfl hb1348 rfl)) fun a hF=>?_
    refine d_val hF hch 11 rfl (by kernel_rfl) rfl rfl rfl (fun w hM=>(r_move hF rfl rfl)) fun a hF=>?_
    refine g_split 46 hF rfl (fun hb1349=>?_) (fun hb1349=>?_)
    ·have hP:=Fx.cT hb1349 hP
     refine d_skip hF hch 12 rfl (by kernel_rfl) rfl rfl rfl hb1349 rfl rfl fun a hF=>?_
     refine d_skip hF hch 13 rfl (by kernel_rfl) rfl rfl rfl hb1349 rfl rfl fun a hF=>?_
     refine d_skip hF hch 14 rfl (by kernel_rfl) rfl rfl rfl hb1349 rfl rfl fun a hF=>?_
     refine d_skipU hF hch 15 rfl (by kernel_rfl) rfl rfl rfl rfl rfl fun a hF=>?_
     refine d_skipU hF hch 16 rfl (by kernel_rfl) rfl rfl rfl rfl rfl fun a hF=>?_
     refine d_skipU hF hch 17 rfl (by kernel_rfl) rfl rfl rfl rfl rfl fun a hF=>?_
     refine d_skipU hF hch 18 rfl (by kernel_rfl) rfl rfl rfl rfl rfl fun a hF=>?_
     refine d_skipU hF hch 19 rfl (by kernel_rfl) rfl rfl rfl rfl rfl fun a hF=>?_
     refine d_skipU hF hch 20 rfl (by kernel_rfl) rfl rfl rfl rfl rfl fun a hF=>?_
     refine d_skipU hF hch 21 rfl (by kernel_rfl) rfl rfl rfl rfl rfl fun a hF=>?_
     refine d_skipU hF hch 22 rfl (by kernel_rfl) rfl rfl rfl rfl rfl fun a hF=>?_
     refine d_skipU hF hch 23 rfl (by kernel_rfl) rfl rfl rfl rfl rfl fun a hF=>?_
     refine d_skipU hF hch 24 rfl (by kernel_rfl) rfl rfl rfl rfl rfl fun a hF=>?_
     refine d_skip hF hch 25 rfl (by kernel_rfl) rfl rfl rfl hb1349 rfl rfl fun a hF=>?_
     refine d_val hF hch 26 rfl (by kernel_rfl) rfl rfl rfl (fun w hM=>(r_pick1 hF rfl rfl hb1349 rfl)) fun a hF=>?_
     refine d_end hch (by kernel_rfl) fun w hM=>?_
     refine n_then ?_
     have hP:=Option.some.inj hP
     subst hP
     exact ⟨true,rfl,hF.to ⟨rfl,rfl,rfl,rfl,trivial⟩,selM hM [1] 2 rfl⟩
    have hP:=Fx.cF hb1349 hP
    refine d_valg hF hch 12 rfl (by kernel_rfl) rfl rfl rfl hb1349 rfl rfl (fun w hM=>(r_move hF rfl rfl)) fun a hF=>?_
    refine d_valg hF hch 13 rfl (by kernel_rfl) rfl rfl rfl hb1349 rfl rfl (fun w hM=>(r_gtr hF rfl rfl rfl)) fun a hF=>?_
    refine d_valg hF hch 14 rfl (by kernel_rfl) rfl rfl rfl hb1349 rfl rfl (fun w hM=>(r_move hF rfl rfl)) fun a hF=>?_
    refine g_split 49 hF rfl (fun hb1350=>?_) (fun hb1350=>?_)
    ·have hP:=Fx.cT hb1350 hP
     refine d_valg hF hch 15 rfl (by kernel_rfl) rfl rfl rfl hb1350 rfl rfl (fun w hM=>(r_fieldAddr (off':=0) Tryz.underlying128 rfl in3 rfl hF rfl rfl rfl)) fun a hF=>?_
     refine d_valg hF hch 16 rfl (by kernel_rfl) rfl rfl rfl hb1350 rfl rfl (fun w hM=>(r_load1 Tryz.isAgg3 hF rfl rfl (hM.cell (i:=0) rfl (LTurn.g_reg _)))) fun a hF=>?_
     refine d_valg hF hch 17 rfl (by kernel_rfl) rfl rfl rfl hb1350 rfl rfl (fun w hM=>(r_fieldAddr (off':=3) Tryz.underlying60 rfl in56 rfl hF rfl rfl rfl)) fun a hF=>?_
     refine d_valg hF hch 18 rfl (by kernel_rfl) rfl rfl rfl hb1350 rfl rfl (fun w hM=>(r_load1 Tryz.isAgg56 hF rfl rfl (hM.cell (i:=1) rfl (RMark.g_regs _)))) fun a hF=>?_
     refine d_valg hF hch 19 rfl (by kernel_rfl) rfl rfl rfl hb1350 rfl rfl (fun w hM=>(r_move hF rfl rfl)) fun a hF=>?_
     refine d_valg hF hch 20 rfl (by kernel_rfl) rfl rfl rfl hb1350 rfl rfl (fun w hM=>(r_sub hF rfl rfl rfl)) fun a hF=>?_
     obtain ⟨x1351,hx1351,hP⟩:=bind_some hP
     have h0x1351:=get_some hx1351
     refine d_valg hF hch 21 rfl (by kernel_rfl) rfl rfl rfl hb1350 rfl rfl (fun w hM=>(r_indexZ (sz:=9) (f2 _ (hsub _ (dropM hM 2))) Tryz.underlying56 in128 rfl hF rfl rfl rfl (get_bd hx1351))) fun a hF=>?_
     refine d_valg hF hch 22 rfl (by kernel_rfl) rfl rfl rfl hb1350 rfl rfl (fun w hM=>(r_fieldAddr Tryz.underlying128 rfl in3 rfl hF rfl rfl rfl)) fun a hF=>?_
     refine d_valg hF hch 23 rfl (by kernel_rfl) rfl rfl rfl hb1350 rfl rfl (fun w hM=>(r_load1 Tryz.isAgg3 hF rfl rfl ((((f2 _ (hsub _ (dropM hM 2))).elemS h0x1351.2)).get 0 (LTurn.g_reg _)))) fun a hF=>?_
     refine d_valg hF hch 24 rfl (by kernel_rfl) rfl rfl rfl hb1350 rfl rfl (fun w hM=>(r_leq hF rfl rfl rfl)) fun a hF=>?_
     refine d_valg hF hch 25 rfl (by kernel_rfl) rfl rfl rfl hb1349 rfl rfl (fun w hM=>(r_pick1 hF rfl rfl hb1350 rfl)) fun a hF=>?_
     refine d_val hF hch 26 rfl (by kernel_rfl) rfl rfl rfl (fun w hM=>(r_pick0 hF rfl rfl hb1349 rfl)) fun a hF=>?_
     refine d_end hch (by kernel_rfl) fun w hM=>?_
     refine n_then ?_
     have hP:=Option.some.inj hP
     subst hP
     exact ⟨(decide (x1331.reg ≤ x1351.reg)),rfl,hF.to ⟨rfl,rfl,rfl,rfl,trivial⟩,selM hM [1] 2 rfl⟩
    have hP:=Fx.cF hb1350 hP
    refine d_skip hF hch 15 rfl (by kernel_rfl) rfl rfl rfl hb1350 rfl rfl fun a hF=>?_
    refine d_skip hF hch 16 rfl (by kernel_rfl) rfl rfl rfl hb1350 rfl rfl fun a hF=>?_
    refine d_skip hF hch 17 rfl (by kernel_rfl) rfl rfl rfl hb1350 rfl rfl fun a hF=>?_
    refine d_skip hF hch 18 rfl (by kernel_rfl) rfl rfl rfl hb1350 rfl rfl fun a hF=>?_
    refine d_skip hF hch 19 rfl (by kernel_rfl) rfl rfl rfl hb1350 rfl rfl fun a hF=>?_
    refine d_skip hF hch 20 rfl (by kernel_rfl) rfl rfl rfl hb1350 rfl rfl fun a hF=>?_
    refine d_skip hF hch 21 rfl (by kernel_rfl) rfl rfl rfl hb1350 rfl rfl fun a hF=>?_
    refine d_skip hF hch 22 rfl (by kernel_rfl) rfl rfl rfl hb1350 rfl rfl fun a hF=>?_
    refine d_skip hF hch 23 rfl (by kernel_rfl) rfl rfl rfl hb1350 rfl rfl fun a hF=>?_
    refine d_skip hF hch 24 rfl (by kernel_rfl) rfl rfl rfl hb1350 rfl rfl fun a hF=>?_
    refine d_valg hF hch 25 rfl (by kernel_rfl) rfl rfl rfl hb1349 rfl rfl (fun w hM=>(r_pick0 hF rfl rfl hb1350 rfl)) fun a hF=>?_
    refine d_val hF hch 26 rfl (by kernel_rfl) rfl rfl rfl (fun w hM=>(r_pick0 hF rfl rfl hb1349 rfl)) fun a hF=>?_
    refine d_end hch (by kernel_rfl) fun w hM=>?_
    refine n_then ?_
    have hP:=Option.some.inj hP
    subst hP
    exact ⟨false,rfl,hF.to ⟨rfl,rfl,rfl,rfl,trivial⟩,selM hM [1] 2 rfl⟩
   rintro v1345 a w hP ⟨hF,hM⟩
   replace hP:Sh.ref23_Plain_j4 v1306 v1345 = _:=hP
   unfold Sh.ref23_Plain_j4 at hP
   refine n_then ?_
   refine c_cond hF (c:=.tmp 61) rfl (fun hb1352=>?_) (fun hb1352=>?_)
   ·have hP:=Fx.cT hb1352 hP
    refine c_seq ?_
    refine c_region ?_
    refine s_val hF (r_assign hF rfl rfl) rfl rfl rfl fun a hF=>?_
    refine c_nil (n_then ?_)
    refine c_ret ?_
    have hP:=Option.some.inj hP
    subst hP
    have hP:=hK_l3 _ rfl
    subst hP
    have hP:=fin_inr hK_j2
    subst hP
    refine e_ret1 Tryz.results135 hF rfl ?_
    exact ⟨rfl,selM hM [] 1 rfl⟩
   have hP:=Fx.cF hb1352 hP
   refine c_skip (n_block (n_then ?_))
   refine c_region ?_
   refine s_val hF (r_move hF rfl rfl) rfl rfl rfl fun a hF=>?_
   refine s_val hF (r_add hF rfl rfl rfl) rfl rfl rfl fun a hF=>?_
   refine s_val hF (r_assign hF rfl rfl) rfl rfl rfl fun a hF=>?_
   refine c_nil (n_then ?_)
   have hP:=Option.some.inj hP
   subst hP
   exact ⟨(IntKind.i64.wrap (v1306 + 1)),rfl,hF.to ⟨rfl,rfl,rfl,trivial⟩,hM⟩
  have hP:=Fx.cF hb1308 hP
  refine c_exit (x_then (x_then (x_hit ?_)))
  refine n_then ?_
  have hP:=Option.some.inj hP
  subst hP
  have hP:=hK_l3 _ rfl
  subst hP
  exact ⟨(),rfl,hF.to ⟨rfl,rfl,trivial⟩,hM⟩
 rintro ⟨⟩ a w hP ⟨hF,hM⟩
 replace hP:Sh.ref23_Plain_j2 x0 = _:=hP
 unfold Sh.ref23_Plain_j2 at hP
 refine n_then ?_
 refine c_seq ?_
 refine c_joinX hF hM hP (fun F x a w=>match x with | _=>Fr 104 [(1,.pointer (some ⟨b_B135_1,0,none⟩)),(2,.bool false)] a ∧ MemL w (pt b_B135_1 (RMark.enc (RMark.mk x0.at_ x0.next x0.done s1 s3 s5 s9)) 60 :: Lr)) (fun o_j5 hP hK_j5 hF hM=>?_) ?_
 ·refine c_seq ?_
  refine c_region ?_
  refine s_val hF (r_assign hF rfl rfl) rfl rfl rfl fun a hF=>?_
  refine c_nil (n_then ?_)
  refine c_block ?_
  refine c_loopX hF hM hP (fun F x a w=>match x with | v1726=>Fr 104 [(5,.int .i64 v1726),(1,.pointer (some ⟨b_B135_1,0,none⟩)),(2,.bool false)] a ∧ MemL w (pt b_B135_1 (RMark.enc (RMark.mk x0.at_ x0.next x0.done s1 s3 s5 s9)) 60 :: Lr)) (fun hF hM=>⟨hF.to ⟨rfl,rfl,rfl,trivial⟩,hM⟩) ?_
  rintro v1726 a w o_l6 hP hK_l6 ⟨hF,hM⟩
  replace hP:Sh.ref23_Plain_l6 x0 v1726 = _:=hP
  unfold Sh.ref23_Plain_l6 at hP
  refine c_seq ?_
  refine c_seq ?_
  refine c_region ?_
  refine s_val hF (r_move hF rfl rfl) rfl rfl rfl fun a hF=>?_
  refine s_val hF (r_fieldAddr (off':=4) Tryz.underlying60 rfl in57 rfl hF rfl rfl rfl) rfl rfl rfl fun a hF=>?_
  refine s_val hF (r_load1 Tryz.isAgg57 hF rfl rfl (hM.cell (i:=0) rfl (RMark.g_slots _))) rfl rfl rfl fun a hF=>?_
  refine s_val hF (r_lenL (f4 _ (hsub _ (dropM hM 1))) Tryz.underlying57 hF rfl rfl) rfl rfl rfl fun a hF=>?_
  refine s_val hF (r_lss hF rfl rfl rfl) rfl rfl rfl fun a hF=>?_
  refine c_nil (n_then ?_)
  refine c_cond hF (c:=.tmp 66) rfl (fun hb1728=>?_) (fun hb1728=>?_)
  ·have hP:=Fx.cT hb1728 hP
   refine c_skip (n_then ?_)
   refine c_seq ?_
   refine c_block ?_
   refine c_seq ?_
   refine c_region ?_
   refine s_val hF (r_fieldAddr (off':=4) Tryz.underlying60 rfl in57 rfl hF rfl rfl rfl) rfl rfl rfl fun a hF=>?_
   refine s_val hF (r_load1 Tryz.isAgg57 hF rfl rfl (hM.cell (i:=0) rfl (RMark.g_slots _))) rfl rfl rfl fun a hF=>?_
   refine s_val hF (r_move hF rfl rfl) rfl rfl rfl fun a hF=>?_
   obtain ⟨x1751,hx1751,hP⟩:=bind_some hP
   have h0x1751:=get_some hx1751
   refine s_val hF (r_indexZ (sz:=27) (f4 _ (hsub _ (dropM hM 1))) Tryz.underlying57 in151 rfl hF rfl rfl rfl (get_bd hx1751)) rfl rfl rfl fun a hF=>?_
   refine s_val hF (r_loadn Tryz.isAgg151 Tryz.sizeOf151 hF rfl rfl (LCell.len _) (((f4 _ (hsub _ (dropM hM 1))).elemS h0x1751.2))) rfl rfl rfl fun a hF=>?_
   refine s_eff hF rfl rfl rfl (w_alloc z151 (zs:=LCell.zero.enc) rfl rfl fun b_B135_6 w hzB135_6 hAB135_6=>?_)
   have hM:=hM.plus hAB135_6
   replace hM:MemL _ (pt b_B135_6 (LCell.enc LCell.zero) 151 :: pt b_B135_1 (RMark.enc (RMark.mk x0.at_ x0.next x0.done s1 s3 s5 s9)) 60 :: Lr):=hM
   intro a hF
   refine s_eff0 rfl rfl (w_storen (vs:=_) Tryz.sizeOf151 (hM.obj (i:=0) rfl) hF rfl rfl rfl rfl (LCell.len _) (LCell.one _) (by first | (rw [LCell.len,LCell.len]; decide) | (rw [LCell.len]; decide)) (put_all ((LCell.len _).trans (LCell.len _).symm)) fun w hU1752=>?_)
   have hM:=hM.chg hU1752 (i:=0) rfl
   replace hM:MemL _ (pt b_B135_6 (LCell.enc x1751) 151 :: pt b_B135_1 (RMark.enc (RMark.mk x0.at_ x0.next x0.done s1 s3 s5 s9)) 60 :: Lr):=hM
   refine c_nil (n_then ?_)
   refine c_seq ?_
   refine c_joinX hF hM hP (fun F x a w=>match x with | v1765=>Fr 104 [(100,.bool v1765),(1,.pointer (some ⟨b_B135_1,0,none⟩)),(2,.bool false),(5,.int .i64 v1726)] a ∧ MemL w (pt b_B135_1 (RMark.enc (RMark.mk x0.at_ x0.next x0.done s1 s3 s5 s9)) 60 :: Lr)) (fun o_j7 hP hK_j7 hF hM=>?_) ?_
   ·refine d_startT mixed (by kernel_rfl) hM [0,1] 2 rfl fun hch=>?_
    refine d_val hF hch 0 rfl (by kernel_rfl) rfl rfl rfl (fun w hM=>(r_fieldAddr (off':=0) Tryz.underlying151 rfl in3 rfl hF rfl rfl rfl)) fun a hF=>?_
    refine d_val hF hch 1 rfl (by kernel_rfl) rfl rfl rfl (fun w hM=>(r_load1 Tryz.isAgg3 hF rfl rfl (hM.cell (i:=0) rfl (LCell.g_slot _)))) fun a hF=>?_
    refine d_one hch 2 (by kernel_rfl) rfl rfl ?_
    refine d_ex hF 2 rfl rfl rfl rfl rfl fun w hMs hM=>?_
    obtain ⟨y1767,hy1767,hP⟩:=bind_some hP
    refine (w_call (xs:=[.tmp 75,.const (.int .i64 (0)),.const (.int .i64 (31))]) Tryz.call159 hF rfl rfl (ref23_within_calls hy1767 hM ) fun v w hR=>?_)
    obtain ⟨rfl,hM⟩:=hR
    replace hM:MemL _ (pt b_B135_6 (LCell.enc x1751) 151 :: pt b_B135_1 (RMark.enc (RMark.mk x0.at_ x0.next x0.done s1 s3 s5 s9)) 60 :: Lr):=hM
    have hMs:=selM hM [0,1] 2 rfl
    refine ⟨_,_,hMs,hM,.inl fun _ h=>h,fun a hF=>?_⟩
    refine d_val hF hch 3 rfl (by kernel_rfl) rfl rfl rfl (fun w hM=>(r_not hF rfl rfl)) fun a hF=>?_
    refine d_val hF hch 4 rfl (by kernel_rfl) rfl rfl rfl (fun w hM=>(r_move hF rfl rfl)) fun a hF=>?_
    refine g_split 78 hF rfl (fun hb1768=>?_) (fun hb1768=>?_)
    ·have hP:=Fx.cT hb1768 hP
     refine d_skip hF hch 5 rfl (by kernel_rfl) rfl rfl rfl hb1768 rfl rfl fun a hF=>?_
     refine d_skip hF hch 6 rfl (by kernel_rfl) rfl rfl rfl hb1768 rfl rfl fun a hF=>?_
     refine d_skip hF hch 7 rfl (by kernel_rfl) rfl rfl rfl hb1768 rfl rfl fun a hF=>?_
     refine d_skip hF hch 8 rfl (by kernel_rfl) rfl rfl rfl hb1768 rfl rfl fun a hF=>?_
     refine d_skip hF hch 9 rfl (by kernel_rfl) rfl rfl rfl hb1768 rfl rfl fun a hF=>?_
     refine d_val hF hch 10 rfl (by kernel_rfl) rfl rfl rfl (fun w hM=>(r_pick1 hF rfl rfl hb1768 rfl)) fun a hF=>?_
     refine d_val hF hch 11 rfl (by kernel_rfl) rfl rfl rfl (fun w hM=>(r_move hF rfl rfl)) fun a hF=>?_
     refine d_skip hF hch 12 rfl (by kernel_rfl) rfl rfl rfl rfl rfl rfl fun a hF=>?_
     refine d_skip hF hch 13 rfl (by kernel_rfl) rfl rfl rfl rfl rfl rfl fun a hF=>?_
     refine d_skip hF hch 14 rfl (by kernel_rfl) rfl rfl rfl rfl rfl rfl fun a hF=>?_
     refine d_skipU hF hch 15 rfl (by kernel_rfl) rfl rfl rfl rfl rfl fun a hF=>?_
     refine d_skipU hF hch 16 rfl (by kernel_rfl) rfl rfl rfl rfl rfl fun a hF=>?_
     refine d_skipU hF hch 17 rfl (by kernel_rfl) rfl rfl rfl rfl rfl fun a hF=>?_
     refine d_skipU hF hch 18 rfl (by kernel_rfl) rfl rfl rfl rfl rfl fun a hF=>?_
     refine d_skipU hF hch 19 rfl (by kernel_rfl) rfl rfl rfl rfl rfl fun a hF=>?_
     refine d_skipU hF hch 20 rfl (by kernel_rfl) rfl rfl rfl rfl rfl fun a hF=>?_
     refine d_skipU hF hch 21 rfl (by kernel_rfl) rfl rfl rfl rfl rfl fun a hF=>?_
     refine d_skipU hF hch 22 rfl (by kernel_rfl) rfl rfl rfl rfl rfl fun a hF=>?_
     refine d_skipU hF hch 23 rfl (by kernel_rfl) rfl rfl rfl rfl rfl fun a hF=>?_
     refine d_skipU hF hch 24 rfl (by kernel_rfl) rfl rfl rfl rfl rfl fun a hF=>?_
     refine d_skip hF hch 25 rfl (by kernel_rfl) rfl rfl rfl rfl rfl rfl fun a hF=>?_
     refine d_val hF hch 26 rfl (by kernel_rfl) rfl rfl rfl (fun w hM=>(r_pick1 hF rfl rfl rfl rfl)) fun a hF=>?_
     refine d_end hch (by kernel_rfl) fun w hM=>?_
     refine n_then ?_
     have hP:=Option.some.inj hP
     subst hP
     exact ⟨true,rfl,hF.to ⟨rfl,rfl,rfl,rfl,trivial⟩,selM hM [1] 2 rfl⟩
    have hP:=Fx.cF hb1768 hP
    refine d_valg hF hch 5 rfl (by kernel_rfl) rfl rfl rfl hb1768 rfl rfl (fun w hM=>(r_fieldAddr (off':=1) Tryz.underlying151 rfl in50 rfl hF rfl rfl rfl)) fun a hF=>?_
    refine d_valg hF hch 6 rfl (by kernel_rfl) rfl rfl rfl hb1768 rfl rfl (fun w hM=>(r_loadn Tryz.isAgg50 Tryz.sizeOf50 hF rfl rfl (LSlot.len _) (hM.cells (i:=0) rfl (LCell.c_old _)))) fun a hF=>?_
    refine d_valg hF hch 7 rfl (by kernel_rfl) rfl rfl rfl hb1768 rfl rfl (fun w hM=>(r_fieldAddr (off':=14) Tryz.underlying151 rfl in50 rfl hF rfl rfl rfl)) fun a hF=>?_
    refine d_valg hF hch 8 rfl (by kernel_rfl) rfl rfl rfl hb1768 rfl rfl (fun w hM=>(r_loadn Tryz.isAgg50 Tryz.sizeOf50 hF rfl rfl (LSlot.len _) (hM.cells (i:=0) rfl (LCell.c_new _)))) fun a hF=>?_
    refine d_valg hF hch 9 rfl (by kernel_rfl) rfl rfl rfl hb1768 rfl rfl (fun w hM=>(r_eqlA Tryz.eqGuardType50 (eq_LSlot _ _ _ _ (by decide)) hF rfl rfl rfl)) fun a hF=>?_
    refine d_val hF hch 10 rfl (by kernel_rfl) rfl rfl rfl (fun w hM=>(r_pick0 hF rfl rfl hb1768 rfl)) fun a hF=>?_
    refine d_val hF hch 11 rfl (by kernel_rfl) rfl rfl rfl (fun w hM=>(r_move hF rfl rfl)) fun a hF=>?_
    refine g_split 85 hF rfl (fun hb1769=>?_) (fun hb1769=>?_)
    ·have hP:=Fx.cT hb1769 hP
     refine d_skip hF hch 12 rfl (by kernel_rfl) rfl rfl rfl hb1769 rfl rfl fun a hF=>?_
     refine d_skip hF hch 13 rfl (by kernel_rfl) rfl rfl rfl hb1769 rfl rfl fun a hF=>?_
     refine d_skip hF hch 14 rfl (by kernel_rfl) rfl rfl rfl hb1769 rfl rfl fun a hF=>?_
     refine d_skipU hF hch 15 rfl (by kernel_rfl) rfl rfl rfl rfl rfl fun a hF=>?_
     refine d_skipU hF hch 16 rfl (by kernel_rfl) rfl rfl rfl rfl rfl fun a hF=>?_
     refine d_skipU hF hch 17 rfl (by kernel_rfl) rfl rfl rfl rfl rfl fun a hF=>?_
     refine d_skipU hF hch 18 rfl (by kernel_rfl) rfl rfl rfl rfl rfl fun a hF=>?_
     refine d_skipU hF hch 19 rfl (by kernel_rfl) rfl rfl rfl rfl rfl fun a hF=>?_
     refine d_skipU hF hch 20 rfl (by kernel_rfl) rfl rfl rfl rfl rfl fun a hF=>?_
     refine d_skipU hF hch 21 rfl (by kernel_rfl) rfl rfl rfl rfl rfl fun a hF=>?_
     refine d_skipU hF hch 22 rfl (by kernel_rfl) rfl rfl rfl rfl rfl fun a hF=>?_
     refine d_skipU hF hch 23 rfl (by kernel_rfl) rfl rfl rfl rfl rfl fun a hF=>?_
     refine d_skipU hF hch 24 rfl (by kernel_rfl) rfl rfl rfl rfl rfl fun a hF=>?_
     refine d_skip hF hch 25 rfl (by kernel_rfl) rfl rfl rfl hb1769 rfl rfl fun a hF=>?_
     refine d_val hF hch 26 rfl (by kernel_rfl) rfl rfl rfl (fun w hM=>(r_pick1 hF rfl rfl hb1769 rfl)) fun a hF=>?_
     refine d_end hch (by kernel_rfl) fun w hM=>?_
     refine n_then ?_
     have hP:=Option.some.inj hP
     subst hP
     exact ⟨true,rfl,hF.to ⟨rfl,rfl,rfl,rfl,trivial⟩,selM hM [1] 2 rfl⟩
    have hP:=Fx.cF hb1769 hP
    refine d_valg hF hch 12 rfl (by kernel_rfl) rfl rfl rfl hb1769 rfl rfl (fun w hM=>(r_move hF rfl rfl)) fun a hF=>?_
    refine d_valg hF hch 13 rfl (by kernel_rfl) rfl rfl rfl hb1769 rfl rfl (fun w hM=>(r_gtr hF rfl rfl rfl)) fun a hF=>?_
    refine d_valg hF hch 14 rfl (by kernel_rfl) rfl rfl rfl hb1769 rfl rfl (fun w hM=>(r_move hF rfl rfl)) fun a hF=>?_
    refine g_split 88 hF rfl (fun hb1770=>?_) (fun hb1770=>?_)
    ·have hP:=Fx.cT hb1770 hP
     refine d_valg hF hch 15 rfl (by kernel_rfl) rfl rfl rfl hb1770 rfl rfl (fun w hM=>(r_fieldAddr (off':=0) Tryz.underlying151 rfl in3 rfl hF rfl rfl rfl)) fun a hF=>?_
     refine d_valg hF hch 16 rfl (by kernel_rfl) rfl rfl rfl hb1770 rfl rfl (fun w hM=>(r_load1 Tryz.isAgg3 hF rfl rfl (hM.cell (i:=0) rfl (LCell.g_slot _)))) fun a hF=>?_
     refine d_valg hF hch 17 rfl (by kernel_rfl) rfl rfl rfl hb1770 rfl rfl (fun w hM=>(r_fieldAddr (off':=4) Tryz.underlying60 rfl in57 rfl hF rfl rfl rfl)) fun a hF=>?_
     refine d_valg hF hch 18 rfl (by kernel_rfl) rfl rfl rfl hb1770 rfl rfl (fun w hM=>(r_load1 Tryz.isAgg57 hF rfl rfl (hM.cell (i:=1) rfl (RMark.g_slots _)))) fun a hF=>?_
     refine d_valg hF hch 19 rfl (by kernel_rfl) rfl rfl rfl hb1770 rfl rfl (fun w hM=>(r_move hF rfl rfl)) fun a hF=>?_
     refine d_valg hF hch 20 rfl (by kernel_rfl) rfl rfl rfl hb1770 rfl rfl (fun w hM=>(r_sub hF rfl rfl rfl)) fun a hF=>?_
     obtain ⟨x1771,hx1771,hP⟩:=bind_some hP
     have h0x1771:=get_some hx1771
     refine d_valg hF hch 21 rfl (by kernel_rfl) rfl rfl rfl hb1770 rfl rfl (fun w hM=>(r_indexZ (sz:=27) (f4 _ (hsub _ (dropM hM 2))) Tryz.underlying57 in151 rfl hF rfl rfl rfl (get_bd hx1771))) fun a hF=>?_
     refine d_valg hF hch 22 rfl (by kernel_rfl) rfl rfl rfl hb1770 rfl rfl (fun w hM=>(r_fieldAddr Tryz.underlying151 rfl in3 rfl hF rfl rfl rfl)) fun a hF=>?_
     refine d_valg hF hch 23 rfl (by kernel_rfl) rfl rfl rfl hb1770 rfl rfl (fun w hM=>(r_load1 Tryz.isAgg3 hF rfl rfl ((((f4 _ (hsub _ (dropM hM 2))).elemS h0x1771.2)).get 0 (LCell.g_slot _)))) fun a hF=>?_
     refine d_valg hF hch 24 rfl (by kernel_rfl) rfl rfl rfl hb1770 rfl rfl (fun w hM=>(r_leq hF rfl rfl rfl)) fun a hF=>?_
     refine d_valg hF hch 25 rfl (by kernel_rfl) rfl rfl rfl hb1769 rfl rfl (fun w hM=>(r_pick1 hF rfl rfl hb1770 rfl)) fun a hF=>?_
     refine d_val hF hch 26 rfl (by kernel_rfl) rfl rfl rfl (fun w hM=>(r_pick0 hF rfl rfl hb1769 rfl)) fun a hF=>?_
     refine d_end hch (by kernel_rfl) fun w hM=>?_
     refine n_then ?_
     have hP:=Option.some.inj hP
     subst hP
     exact ⟨(decide (x1751.slot ≤ x1771.slot)),rfl,hF.to ⟨rfl,rfl,rfl,rfl,trivial⟩,selM hM [1] 2 rfl⟩
    have hP:=Fx.cF hb1770 hP
    refine d_skip hF hch 15 rfl (by kernel_rfl) rfl rfl rfl hb1770 rfl rfl fun a hF=>?_
    refine d_skip hF hch 16 rfl (by kernel_rfl) rfl rfl rfl hb1770 rfl rfl fun a hF=>?_
    refine d_skip hF hch 17 rfl (by kernel_rfl) rfl rfl rfl hb1770 rfl rfl fun a hF=>?_
    refine d_skip hF hch 18 rfl (by kernel_rfl) rfl rfl rfl hb1770 rfl rfl fun a hF=>?_
    refine d_skip hF hch 19 rfl (by kernel_rfl) rfl rfl rfl hb1770 rfl rfl fun a hF=>?_
    refine d_skip hF hch 20 rfl (by kernel_rfl) rfl rfl rfl hb1770 rfl rfl fun a hF=>?_
    refine d_skip hF hch 21 rfl (by kernel_rfl) rfl rfl rfl hb1770 rfl rfl fun a hF=>?_
    refine d_skip hF hch 22 rfl (by kernel_rfl) rfl rfl rfl hb1770 rfl rfl fun a hF=>?_
    refine d_skip hF hch 23 rfl (by kernel_rfl) rfl rfl rfl hb1770 rfl rfl fun a hF=>?_
    refine d_skip hF hch 24 rfl (by kernel_rfl) rfl rfl rfl hb1770 rfl rfl fun a hF=>?_
    refine d_valg hF hch 25 rfl (by kernel_rfl) rfl rfl rfl hb1769 rfl rfl (fun w hM=>(r_pick0 hF rfl rfl hb1770 rfl)) fun a hF=>?_
    refine d_val hF hch 26 rfl (by kernel_rfl) rfl rfl rfl (fun w hM=>(r_pick0 hF rfl rfl hb1769 rfl)) fun a hF=>?_
    refine d_end hch (by kernel_rfl) fun w hM=>?_
    refine n_then ?_
    have hP:=Option.some.inj hP
    subst hP
    exact ⟨false,rfl,hF.to ⟨rfl,rfl,rfl,rfl,trivial⟩,selM hM [1] 2 rfl⟩
   rintro v1765 a w hP ⟨hF,hM⟩
   replace hP:Sh.ref23_Plain_j7 v1726 v1765 = _:=hP
   unfold Sh.ref23_Plain_j7 at hP
   refine n_then ?_
   refine c_cond hF (c:=.tmp 100) rfl (fun hb1772=>?_) (fun hb1772=>?_)
   ·have hP:=Fx.cT hb1772 hP
    refine c_seq ?_
    refine c_region ?_
    refine s_val hF (r_assign hF rfl rfl) rfl rfl rfl fun a hF=>?_
    refine c_nil (n_then ?_)
    refine c_ret ?_
    have hP:=Option.some.inj hP
    subst hP
    have hP:=hK_l6 _ rfl
    subst hP
    have hP:=fin_inr hK_j5
    subst hP
    refine e_ret1 Tryz.results135 hF rfl ?_
    exact ⟨rfl,selM hM [] 1 rfl⟩
   have hP:=Fx.cF hb1772 hP
   refine c_skip (n_block (n_then ?_))
   refine c_region ?_
   refine s_val hF (r_move hF rfl rfl) rfl rfl rfl fun a hF=>?_
   refine s_val hF (r_add hF rfl rfl rfl) rfl rfl rfl fun a hF=>?_
   refine s_val hF (r_assign hF rfl rfl) rfl rfl rfl fun a hF=>?_
   refine c_nil (n_then ?_)
   have hP:=Option.some.inj hP
   subst hP
   exact ⟨(IntKind.i64.wrap (v1726 + 1)),rfl,hF.to ⟨rfl,rfl,rfl,trivial⟩,hM⟩
  have hP:=Fx.cF hb1728 hP
  refine c_exit (x_then (x_then (x_hit ?_)))
  refine n_then ?_
  have hP:=Option.some.inj hP
  subst hP
  have hP:=hK_l6 _ rfl
  subst hP
  exact ⟨(),rfl,hF.to ⟨rfl,rfl,trivial⟩,hM⟩
 rintro ⟨⟩ a w hP ⟨hF,hM⟩
 replace hP:Sh.ref23_Plain_j5 x0 = _:=hP
 unfold Sh.ref23_Plain_j5 at hP
 refine n_then ?_
 refine c_seq ?_
 refine c_region ?_
 refine s_val hF (r_fieldAddr (off':=5) Tryz.underlying60 rfl in58 rfl hF rfl rfl rfl) rfl rfl rfl fun a hF=>?_
 refine s_val hF (r_load1 Tryz.isAgg58 hF rfl rfl (hM.cell (i:=0) rfl (RMark.g_pieces _))) rfl rfl rfl fun a hF=>?_
 obtain ⟨y1774,hy1774,hP⟩:=bind_some hP
 refine s_eff hF rfl rfl rfl (w_call (xs:=[.tmp 102]) Tryz.call198 hF rfl rfl (ref23_pieces_calls hy1774 hM (Bf:=Bf) (fun w hM=>hsub _ (dropM hM 1)) f7 q8) fun v w hR=>?_)
 obtain ⟨rfl,hM⟩:=hR
 replace hM:MemL _ (pt b_B135_1 (RMark.enc (RMark.mk x0.at_ x0.next x0.done s1 s3 s5 s9)) 60 :: Lr):=hM
 intro a hF
 refine s_val hF (r_assign hF rfl rfl) rfl rfl rfl fun a hF=>?_
 refine c_nil (n_then ?_)
 refine c_ret ?_
 have hP:=Option.some.inj hP
 subst hP
 refine e_ret1 Tryz.results135 hF rfl ?_
 exact ⟨rfl,selM hM [] 1 rfl⟩
set_option maxHeartbeats 4000000 in
theorem ref23_goodValue_calls {x0:LVal} {out:Bool} {w0:World} {Lr:List Res} (hP:Sh.ref23_goodValue x0 = some out) (hM:MemL w0 (Lr)):Calls Tryz.prog 180 #[.agg (LVal.enc x0).toArray] w0 (Ret fun v w'=>v = .bool out ∧ MemL w' (Lr)):=by
 unfold Sh.ref23_goodValue at hP
 refine calls_enter (vs:=[.agg (LVal.enc x0).toArray]) Tryz.func180 rfl Tryz.ntmps180 rfl fun a hF=>?_
 refine c_seq ?_
 refine c_region ?_
 refine s_eff hF rfl rfl rfl (w_box hF rfl rfl rfl fun b_B180_1 w hzB180_1 hAB180_1=>?_)
 have hM:=hM.plus hAB180_1
 replace hM:MemL _ (pt b_B180_1 (LVal.enc x0) 46 :: Lr):=hM
 intro a hF
 refine s_val hF (r_assign hF rfl rfl) rfl rfl rfl fun a hF=>?_
 refine c_nil (n_then ?_)
 refine c_seq ?_
 refine c_seq ?_
 refine c_region ?_
 refine s_val hF (r_fieldAddr (off':=0) Tryz.underlying46 rfl in3 rfl hF rfl rfl rfl) rfl rfl rfl fun a hF=>?_
 refine s_val hF (r_load1 Tryz.isAgg3 hF rfl rfl (hM.cell (i:=0) rfl (LVal.g_kind _))) rfl rfl rfl fun a hF=>?_
 obtain ⟨y55,hy55,hP⟩:=bind_some hP
 refine s_eff hF rfl rfl rfl (w_call (xs:=[.tmp 4,.const (.int .i64 (0)),.const (.int .i64 (5))]) Tryz.call159 hF rfl rfl (ref23_within_calls hy55 hM ) fun v w hR=>?_)
 obtain ⟨rfl,hM⟩:=hR
 replace hM:MemL _ (pt b_B180_1 (LVal.enc x0) 46 :: Lr):=hM
 intro a hF
 refine s_val hF (r_not hF rfl rfl) rfl rfl rfl fun a hF=>?_
 refine c_nil (n_then ?_)
 refine c_cond hF (c:=.tmp 6) rfl (fun hb56=>?_) (fun hb56=>?_)
 ·have hP:=Fx.cT hb56 hP
  refine c_seq ?_
  refine c_region ?_
  refine s_val hF (r_assign hF rfl rfl) rfl rfl rfl fun a hF=>?_
  refine c_nil (n_then ?_)
  refine c_ret ?_
  have hP:=Option.some.inj hP
  subst hP
  refine e_ret1 Tryz.results180 hF rfl ?_
  exact ⟨rfl,selM hM [] 1 rfl⟩
 have hP:=Fx.cF hb56 hP
 refine c_skip (n_then ?_)
 refine c_seq ?_
 refine c_seq ?_
 refine c_region ?_
 refine s_val hF (r_fieldAddr (off':=0) Tryz.underlying46 rfl in3 rfl hF rfl rfl rfl) rfl rfl rfl fun a hF=>?_
 refine s_val hF (r_load1 Tryz.isAgg3 hF rfl rfl (hM.cell (i:=0) rfl (LVal.g_kind _))) rfl rfl rfl fun a hF=>?_
 refine s_val hF (r_eql hF rfl rfl rfl) rfl rfl rfl fun a hF=>?_
 refine c_nil (n_then ?_)
 refine c_cond hF (c:=.tmp 9) rfl (fun hb74=>?_) (fun hb74=>?_)
 ·have hP:=Fx.cT hb74 hP
  refine c_seq ?_
  refine c_joinX hF hM hP (fun F x a w=>match x with | v85=>Fr 36 [(2,.bool v85),(1,.pointer (some ⟨b_B180_1,0,none⟩))] a ∧ MemL w (pt b_B180_1 (LVal.enc x0) 46 :: Lr)) (fun o_j1 hP hK_j1 hF hM=>?_) ?_
  ·refine c_region ?_
   refine s_val hF (r_fieldAddr (off':=1) Tryz.underlying46 rfl in3 rfl hF rfl rfl rfl) rfl rfl rfl fun a hF=>?_
   refine s_val hF (r_load1 Tryz.isAgg3 hF rfl rfl (hM.cell (i:=0) rfl (LVal.g_table _))) rfl rfl rfl fun a hF=>?_
   obtain ⟨y87,hy87,hP⟩:=bind_some hP
   refine s_eff hF rfl rfl rfl (w_call (xs:=[.tmp 11,.const (.int .i64 (0)),.const (.int .i64 (7))]) Tryz.call159 hF rfl rfl (ref23_within_calls hy87 hM ) fun v w hR=>?_)
   obtain ⟨rfl,hM⟩:=hR
   replace hM:MemL _ (pt b_B180_1 (LVal.enc x0) 46 :: Lr):=hM
   intro a hF
   refine s_val hF (r_move hF rfl rfl) rfl rfl rfl fun a hF=>?_
   refine g_split 13 hF rfl (fun hb88=>?_) (fun hb88=>?_)
   ·have hP:=Fx.cT hb88 hP
    refine g_val hF rfl rfl rfl hb88 (r_fieldAddr (off':=2) Tryz.underlying46 rfl in3 rfl hF rfl rfl rfl) rfl rfl fun a hF=>?_
    refine g_val hF rfl rfl rfl hb88 (r_load1 Tryz.isAgg3 hF rfl rfl (hM.cell (i:=0) rfl (LVal.g_row _))) rfl rfl fun a hF=>?_
    obtain ⟨y90,hy90,hP⟩:=bind_some hP
    refine g_eff hF rfl rfl rfl hb88 rfl rfl (w_call (xs:=[.tmp 15,.const (.int .i64 (0)),.const (.int .i64 (63))]) Tryz.call159 hF rfl rfl (ref23_within_calls hy90 hM ) fun v w hR=>?_)
    obtain ⟨rfl,hM⟩:=hR
    replace hM:MemL _ (pt b_B180_1 (LVal.enc x0) 46 :: Lr):=hM
    intro a hF
    refine s_val hF (r_pick1 hF rfl rfl hb88 rfl) rfl rfl rfl fun a hF=>?_
    refine s_val hF (r_assign hF rfl rfl) rfl rfl rfl fun a hF=>?_
    refine c_nil (n_then ?_)
    have hP:=Option.some.inj hP
    subst hP
    exact ⟨y90,rfl,hF.to ⟨rfl,rfl,trivial⟩,hM⟩
   have hP:=Fx.cF hb88 hP
   refine g_skip hF rfl rfl rfl hb88 rfl rfl fun a hF=>?_
   refine g_skip hF rfl rfl rfl hb88 rfl rfl fun a hF=>?_
   refine g_skip hF rfl rfl rfl hb88 rfl rfl fun a hF=>?_
   refine s_val hF (r_pick0 hF rfl rfl hb88 rfl) rfl rfl rfl fun a hF=>?_
   refine s_val hF (r_assign hF rfl rfl) rfl rfl rfl fun a hF=>?_
   refine c_nil (n_then ?_)
   have hP:=Option.some.inj hP
   subst hP
   exact ⟨false,rfl,hF.to ⟨rfl,rfl,trivial⟩,hM⟩
  rintro v85 a w hP ⟨hF,hM⟩
  replace hP:Sh.ref23_goodValue_j1 v85 = _:=hP
  unfold Sh.ref23_goodValue_j1 at hP
  refine n_then ?_
  refine c_ret ?_
  have hP:=Option.some.inj hP
  subst hP
  refine e_ret1 Tryz.results180 hF rfl ?_
  exact ⟨rfl,selM hM [] 1 rfl⟩
 have hP:=Fx.cF hb74 hP
 refine c_skip (n_then ?_)
 refine c_seq ?_
 refine c_joinX hF hM hP (fun F x a w=>match x with | v97=>Fr 36 [(2,.bool v97)] a ∧ MemL w (Lr)) (fun o_j2 hP hK_j2 hF hM=>?_) ?_
 ·refine c_region ?_
  refine s_val hF (r_fieldAddr (off':=1) Tryz.underlying46 rfl in3 rfl hF rfl rfl rfl) rfl rfl rfl fun a hF=>?_
  refine s_val hF (r_load1 Tryz.isAgg3 hF rfl rfl (hM.cell (i:=0) rfl (LVal.g_table _))) rfl rfl rfl fun a hF=>?_
  refine s_val hF (r_eql hF rfl rfl rfl) rfl rfl rfl fun a hF=>?_
  refine s_val hF (r_move hF rfl rfl) rfl rfl rfl fun a hF=>?_
  refine g_split 21 hF rfl (fun hb98=>?_) (fun hb98=>?_)
  ·have hP:=Fx.cT hb98 hP
   refine g_val hF rfl rfl rfl hb98 (r_fieldAddr (off':=2) Tryz.underlying46 rfl in3 rfl hF rfl rfl rfl) rfl rfl fun a hF=>?_
   refine g_val hF rfl rfl rfl hb98 (r_load1 Tryz.isAgg3 hF rfl rfl (hM.cell (i:=0) rfl (LVal.g_row _))) rfl rfl fun a hF=>?_
   refine g_val hF rfl rfl rfl hb98 (r_eql hF rfl rfl rfl) rfl rfl fun a hF=>?_
   refine s_val hF (r_pick1 hF rfl rfl hb98 rfl) rfl rfl rfl fun a hF=>?_
   refine s_val hF (r_move hF rfl rfl) rfl rfl rfl fun a hF=>?_
   refine g_split 26 hF rfl (fun hb99=>?_) (fun hb99=>?_)
   ·have hP:=Fx.cT hb99 hP
    refine g_val hF rfl rfl rfl hb99 (r_fieldAddr (off':=0) Tryz.underlying46 rfl in3 rfl hF rfl rfl rfl) rfl rfl fun a hF=>?_
    refine g_val hF rfl rfl rfl hb99 (r_load1 Tryz.isAgg3 hF rfl rfl (hM.cell (i:=0) rfl (LVal.g_kind _))) rfl rfl fun a hF=>?_
    refine g_val hF rfl rfl rfl hb99 (r_neq hF rfl rfl rfl) rfl rfl fun a hF=>?_
    refine g_val hF rfl rfl rfl hb99 (r_move hF rfl rfl) rfl rfl fun a hF=>?_
    refine g_split 30 hF rfl (fun hb100=>?_) (fun hb100=>?_)
    ·have hP:=Fx.cT hb100 hP
     refine g_skip hF rfl rfl rfl hb100 rfl rfl fun a hF=>?_
     refine g_skip hF rfl rfl rfl hb100 rfl rfl fun a hF=>?_
     refine g_skip hF rfl rfl rfl hb100 rfl rfl fun a hF=>?_
     refine g_val hF rfl rfl rfl hb99 (r_pick1 hF rfl rfl hb100 rfl) rfl rfl fun a hF=>?_
     refine s_val hF (r_pick1 hF rfl rfl hb99 rfl) rfl rfl rfl fun a hF=>?_
     refine s_val hF (r_assign hF rfl rfl) rfl rfl rfl fun a hF=>?_
     refine c_nil (n_then ?_)
     have hP:=Option.some.inj hP
     subst hP
     exact ⟨true,rfl,hF.to ⟨rfl,trivial⟩,selM hM [] 1 rfl⟩
    have hP:=Fx.cF hb100 hP
    refine g_val hF rfl rfl rfl hb100 (r_fieldAddr (off':=3) Tryz.underlying46 rfl in3 rfl hF rfl rfl rfl) rfl rfl fun a hF=>?_
    refine g_val hF rfl rfl rfl hb100 (r_load1 Tryz.isAgg3 hF rfl rfl (hM.cell (i:=0) rfl (LVal.g_x _))) rfl rfl fun a hF=>?_
    refine g_val hF rfl rfl rfl hb100 (r_eql hF rfl rfl rfl) rfl rfl fun a hF=>?_
    refine g_val hF rfl rfl rfl hb99 (r_pick0 hF rfl rfl hb100 rfl) rfl rfl fun a hF=>?_
    refine s_val hF (r_pick1 hF rfl rfl hb99 rfl) rfl rfl rfl fun a hF=>?_
    refine s_val hF (r_assign hF rfl rfl) rfl rfl rfl fun a hF=>?_
    refine c_nil (n_then ?_)
    have hP:=Option.some.inj hP
    subst hP
    exact ⟨(decide (x0.x = 0)),rfl,hF.to ⟨rfl,trivial⟩,selM hM [] 1 rfl⟩
   have hP:=Fx.cF hb99 hP
   refine g_skip hF rfl rfl rfl hb99 rfl rfl fun a hF=>?_
   refine g_skip hF rfl rfl rfl hb99 rfl rfl fun a hF=>?_
   refine g_skip hF rfl rfl rfl hb99 rfl rfl fun a hF=>?_
   refine g_skip hF rfl rfl rfl hb99 rfl rfl fun a hF=>?_
   refine g_skipU hF rfl rfl rfl rfl rfl fun a hF=>?_
   refine g_skipU hF rfl rfl rfl rfl rfl fun a hF=>?_
   refine g_skipU hF rfl rfl rfl rfl rfl fun a hF=>?_
   refine g_skip hF rfl rfl rfl hb99 rfl rfl fun a hF=>?_
   refine s_val hF (r_pick0 hF rfl rfl hb99 rfl) rfl rfl rfl fun a hF=>?_
   refine s_val hF (r_assign hF rfl rfl) rfl rfl rfl fun a hF=>?_
   refine c_nil (n_then ?_)
   have hP:=Option.some.inj hP
   subst hP
   exact ⟨false,rfl,hF.to ⟨rfl,trivial⟩,selM hM [] 1 rfl⟩
  have hP:=Fx.cF hb98 hP
  refine g_skip hF rfl rfl rfl hb98 rfl rfl fun a hF=>?_
  refine g_skip hF rfl rfl rfl hb98 rfl rfl fun a hF=>?_
  refine g_skip hF rfl rfl rfl hb98 rfl rfl fun a hF=>?_
  refine s_val hF (r_pick0 hF rfl rfl hb98 rfl) rfl rfl rfl fun a hF=>?_
  refine s_val hF (r_move hF rfl rfl) rfl rfl rfl fun a hF=>?_
  refine g_skip hF rfl rfl rfl rfl rfl rfl fun a hF=>?_
  refine g_skip hF rfl rfl rfl rfl rfl rfl fun a hF=>?_
  refine g_skip hF rfl rfl rfl rfl rfl rfl fun a hF=>?_
  refine g_skip hF rfl rfl rfl rfl rfl rfl fun a hF=>?_
  refine g_skipU hF rfl rfl rfl rfl rfl fun a hF=>?_
  refine g_skipU hF rfl rfl rfl rfl rfl fun a hF=>?_
  refine g_skipU hF rfl rfl rfl rfl rfl fun a hF=>?_
  refine g_skip hF rfl rfl rfl rfl rfl rfl fun a hF=>?_
  refine s_val hF (r_pick0 hF rfl rfl rfl rfl) rfl rfl rfl fun a hF=>?_
  refine s_val hF (r_assign hF rfl rfl) rfl rfl rfl fun a hF=>?_
  refine c_nil (n_then ?_)
  have hP:=Option.some.inj hP
  subst hP
  exact ⟨false,rfl,hF.to ⟨rfl,trivial⟩,selM hM [] 1 rfl⟩
 rintro v97 a w hP ⟨hF,hM⟩
 replace hP:Sh.ref23_goodValue_j2 v97 = _:=hP
 unfold Sh.ref23_goodValue_j2 at hP
 refine n_then ?_
 refine c_ret ?_
 have hP:=Option.some.inj hP
 subst hP
 refine e_ret1 Tryz.results180 hF rfl ?_
 exact ⟨rfl,hM⟩
set_option maxHeartbeats 4000000 in
theorem ref23_goodSlot_calls {x0:LSlot} {out:Bool} {w0:World} {Lr:List Res} (hP:Sh.ref23_goodSlot x0 = some out) (hM:MemL w0 (Lr)):Calls Tryz.prog 181 #[.agg (LSlot.enc x0).toArray] w0 (Ret fun v w'=>v = .bool out ∧ MemL w' (Lr)):=by
 unfold Sh.ref23_goodSlot at hP
 refine calls_enter (vs:=[.agg (LSlot.enc x0).toArray]) Tryz.func181 rfl Tryz.ntmps181 rfl fun a hF=>?_
 refine c_seq ?_
 refine c_region ?_
 refine s_eff hF rfl rfl rfl (w_box hF rfl rfl rfl fun b_B181_1 w hzB181_1 hAB181_1=>?_)
 have hM:=hM.plus hAB181_1
 replace hM:MemL _ (pt b_B181_1 (LSlot.enc x0) 50 :: Lr):=hM
 intro a hF
 refine s_val hF (r_assign hF rfl rfl) rfl rfl rfl fun a hF=>?_
 refine c_nil (n_then ?_)
 refine c_seq ?_
 refine c_seq ?_
 refine c_region ?_
 refine s_val hF (r_fieldAddr (off':=0) Tryz.underlying50 rfl in46 rfl hF rfl rfl rfl) rfl rfl rfl fun a hF=>?_
 refine s_val hF (r_fieldAddr (off':=0) Tryz.underlying46 rfl in3 rfl hF rfl rfl rfl) rfl rfl rfl fun a hF=>?_
 refine s_val hF (r_load1 Tryz.isAgg3 hF rfl rfl ((hM.cells (i:=0) rfl (LSlot.c_ptr _)).get 0 (LVal.g_kind _))) rfl rfl rfl fun a hF=>?_
 refine s_val hF (r_neq hF rfl rfl rfl) rfl rfl rfl fun a hF=>?_
 refine c_nil (n_then ?_)
 refine c_cond hF (c:=.tmp 7) rfl (fun hb278=>?_) (fun hb278=>?_)
 ·have hP:=Fx.cT hb278 hP
  refine c_seq ?_
  refine c_joinX hF hM hP (fun F x a w=>match x with | v289=>Fr 55 [(2,.bool v289),(1,.pointer (some ⟨b_B181_1,0,none⟩))] a ∧ MemL w (pt b_B181_1 (LSlot.enc x0) 50 :: Lr)) (fun o_j1 hP hK_j1 hF hM=>?_) ?_
  ·refine c_region ?_
   refine s_val hF (r_fieldAddr (off':=0) Tryz.underlying50 rfl in46 rfl hF rfl rfl rfl) rfl rfl rfl fun a hF=>?_
   refine s_val hF (r_loadn Tryz.isAgg46 Tryz.sizeOf46 hF rfl rfl (LVal.len _) (hM.cells (i:=0) rfl (LSlot.c_ptr _))) rfl rfl rfl fun a hF=>?_
   obtain ⟨y291,hy291,hP⟩:=bind_some hP
   refine s_eff hF rfl rfl rfl (w_call (xs:=[.tmp 9]) Tryz.call180 hF rfl rfl (ref23_goodValue_calls hy291 hM ) fun v w hR=>?_)
   obtain ⟨rfl,hM⟩:=hR
   replace hM:MemL _ (pt b_B181_1 (LSlot.enc x0) 50 :: Lr):=hM
   intro a hF
   refine s_val hF (r_move hF rfl rfl) rfl rfl rfl fun a hF=>?_
   refine g_split 11 hF rfl (fun hb292=>?_) (fun hb292=>?_)
   ·have hP:=Fx.cT hb292 hP
    refine g_val hF rfl rfl rfl hb292 (r_fieldAddr (off':=0) Tryz.underlying50 rfl in46 rfl hF rfl rfl rfl) rfl rfl fun a hF=>?_
    refine g_val hF rfl rfl rfl hb292 (r_fieldAddr (off':=0) Tryz.underlying46 rfl in3 rfl hF rfl rfl rfl) rfl rfl fun a hF=>?_
    refine g_val hF rfl rfl rfl hb292 (r_load1 Tryz.isAgg3 hF rfl rfl ((hM.cells (i:=0) rfl (LSlot.c_ptr _)).get 0 (LVal.g_kind _))) rfl rfl fun a hF=>?_
    refine g_val hF rfl rfl rfl hb292 (r_neq hF rfl rfl rfl) rfl rfl fun a hF=>?_
    refine s_val hF (r_pick1 hF rfl rfl hb292 rfl) rfl rfl rfl fun a hF=>?_
    refine s_val hF (r_move hF rfl rfl) rfl rfl rfl fun a hF=>?_
    refine g_split 17 hF rfl (fun hb293=>?_) (fun hb293=>?_)
    ·have hP:=Fx.cT hb293 hP
     refine g_val hF rfl rfl rfl hb293 (r_fieldAddr (off':=12) Tryz.underlying50 rfl in3 rfl hF rfl rfl rfl) rfl rfl fun a hF=>?_
     refine g_val hF rfl rfl rfl hb293 (r_load1 Tryz.isAgg3 hF rfl rfl (hM.cell (i:=0) rfl (LSlot.g_mask _))) rfl rfl fun a hF=>?_
     refine g_val hF rfl rfl rfl hb293 (r_eql hF rfl rfl rfl) rfl rfl fun a hF=>?_
     refine s_val hF (r_pick1 hF rfl rfl hb293 rfl) rfl rfl rfl fun a hF=>?_
     refine s_val hF (r_move hF rfl rfl) rfl rfl rfl fun a hF=>?_
     refine g_split 22 hF rfl (fun hb294=>?_) (fun hb294=>?_)
     ·have hP:=Fx.cT hb294 hP
      refine g_val hF rfl rfl rfl hb294 (r_fieldAddr (off':=4) Tryz.underlying50 rfl in48 rfl hF rfl rfl rfl) rfl rfl fun a hF=>?_
      refine g_val hF rfl rfl rfl hb294 (r_loadn Tryz.isAgg48 Tryz.sizeOf48 hF rfl rfl (encs_vec _) (hM.cells (i:=0) rfl (LSlot.c_bytes _))) rfl rfl fun a hF=>?_
      refine g_val hF rfl rfl rfl hb294 (r_buildA0 (zs:=(encs (⟨List.replicate 8 0,rfl⟩ : Vec UInt8 8).l)) Tryz.zeroValue48 rfl Tryz.underlying48 in5 rfl) rfl rfl fun a hF=>?_
      refine g_val hF rfl rfl rfl hb294 (r_eqlA Tryz.eqGuardType48 (eq_arr48 _ _ _ _ (by decide)) hF rfl rfl rfl) rfl rfl fun a hF=>?_
      refine s_val hF (r_pick1 hF rfl rfl hb294 rfl) rfl rfl rfl fun a hF=>?_
      refine s_val hF (r_assign hF rfl rfl) rfl rfl rfl fun a hF=>?_
      refine c_nil (n_then ?_)
      have hP:=Option.some.inj hP
      subst hP
      exact ⟨(decide (x0.bytes = (⟨List.replicate 8 0,rfl⟩ : Vec UInt8 8))),rfl,hF.to ⟨rfl,rfl,trivial⟩,hM⟩
     have hP:=Fx.cF hb294 hP
     refine g_skip hF rfl rfl rfl hb294 rfl rfl fun a hF=>?_
     refine g_skip hF rfl rfl rfl hb294 rfl rfl fun a hF=>?_
     refine g_skip hF rfl rfl rfl hb294 rfl rfl fun a hF=>?_
     refine g_skip hF rfl rfl rfl hb294 rfl rfl fun a hF=>?_
     refine s_val hF (r_pick0 hF rfl rfl hb294 rfl) rfl rfl rfl fun a hF=>?_
     refine s_val hF (r_assign hF rfl rfl) rfl rfl rfl fun a hF=>?_
     refine c_nil (n_then ?_)
     have hP:=Option.some.inj hP
     subst hP
     exact ⟨false,rfl,hF.to ⟨rfl,rfl,trivial⟩,hM⟩
    have hP:=Fx.cF hb293 hP
    refine g_skip hF rfl rfl rfl hb293 rfl rfl fun a hF=>?_
    refine g_skip hF rfl rfl rfl hb293 rfl rfl fun a hF=>?_
    refine g_skip hF rfl rfl rfl hb293 rfl rfl fun a hF=>?_
    refine s_val hF (r_pick0 hF rfl rfl hb293 rfl) rfl rfl rfl fun a hF=>?_
    refine s_val hF (r_move hF rfl rfl) rfl rfl rfl fun a hF=>?_
    refine g_skip hF rfl rfl rfl rfl rfl rfl fun a hF=>?_
    refine g_skip hF rfl rfl rfl rfl rfl rfl fun a hF=>?_
    refine g_skip hF rfl rfl rfl rfl rfl rfl fun a hF=>?_
    refine g_skip hF rfl rfl rfl rfl rfl rfl fun a hF=>?_
    refine s_val hF (r_pick0 hF rfl rfl rfl rfl) rfl rfl rfl fun a hF=>?_
    refine s_val hF (r_assign hF rfl rfl) rfl rfl rfl fun a hF=>?_
    refine c_nil (n_then ?_)
    have hP:=Option.some.inj hP
    subst hP
    exact ⟨false,rfl,hF.to ⟨rfl,rfl,trivial⟩,hM⟩
   have hP:=Fx.cF hb292 hP
   refine g_skip hF rfl rfl rfl hb292 rfl rfl fun a hF=>?_
   refine g_skip hF rfl rfl rfl hb292 rfl rfl fun a hF=>?_
   refine g_skip hF rfl rfl rfl hb292 rfl rfl fun a hF=>?_
   refine g_skip hF rfl rfl rfl hb292 rfl rfl fun a hF=>?_
   refine s_val hF (r_pick0 hF rfl rfl hb292 rfl) rfl rfl rfl fun a hF=>?_
   refine s_val hF (r_move hF rfl rfl) rfl rfl rfl fun a hF=>?_
   refine g_skip hF rfl rfl rfl rfl rfl rfl fun a hF=>?_
   refine g_skip hF rfl rfl rfl rfl rfl rfl fun a hF=>?_
   refine g_skip hF rfl rfl rfl rfl rfl rfl fun a hF=>?_
   refine s_val hF (r_pick0 hF rfl rfl rfl rfl) rfl rfl rfl fun a hF=>?_
   refine s_val hF (r_move hF rfl rfl) rfl rfl rfl fun a hF=>?_
   refine g_skip hF rfl rfl rfl rfl rfl rfl fun a hF=>?_
   refine g_skip hF rfl rfl rfl rfl rfl rfl fun a hF=>?_
   refine g_skip hF rfl rfl rfl rfl rfl rfl fun a hF=>?_
   refine g_skip hF rfl rfl rfl rfl rfl rfl fun a hF=>?_
   refine s_val hF (r_pick0 hF rfl rfl rfl rfl) rfl rfl rfl fun a hF=>?_
   refine s_val hF (r_assign hF rfl rfl) rfl rfl rfl fun a hF=>?_
   refine c_nil (n_then ?_)
   have hP:=Option.some.inj hP
   subst hP
   exact ⟨false,rfl,hF.to ⟨rfl,rfl,trivial⟩,hM⟩
  rintro v289 a w hP ⟨hF,hM⟩
  replace hP:Sh.ref23_goodSlot_j1 v289 = _:=hP
  unfold Sh.ref23_goodSlot_j1 at hP
  refine n_then ?_
  refine c_ret ?_
  have hP:=Option.some.inj hP
  subst hP
  refine e_ret1 Tryz.results181 hF rfl ?_
  exact ⟨rfl,selM hM [] 1 rfl⟩
 have hP:=Fx.cF hb278 hP
 refine c_skip (n_then ?_)
 refine c_seq ?_
 refine c_seq ?_
 refine c_joinX hF hM hP (fun F x a w=>match x with | v312=>Fr 55 [(37,.bool v312),(1,.pointer (some ⟨b_B181_1,0,none⟩)),(2,.bool false)] a ∧ MemL w (pt b_B181_1 (LSlot.enc x0) 50 :: Lr)) (fun o_j2 hP hK_j2 hF hM=>?_) ?_
 ·refine c_region ?_
  refine s_val hF (r_fieldAddr (off':=0) Tryz.underlying50 rfl in46 rfl hF rfl rfl rfl) rfl rfl rfl fun a hF=>?_
  refine s_val hF (r_loadn Tryz.isAgg46 Tryz.sizeOf46 hF rfl rfl (LVal.len _) (hM.cells (i:=0) rfl (LSlot.c_ptr _))) rfl rfl rfl fun a hF=>?_
  refine s_val hF (r_build z46 Tryz.underlying46 pl46 hF (parts:=[]) rfl rfl fill_e) rfl rfl rfl fun a hF=>?_
  refine s_val hF (r_neqA Tryz.eqGuardType46 (eq_LVal _ _ _ _ (by decide)) hF rfl rfl rfl) rfl rfl rfl fun a hF=>?_
  refine s_val hF (r_move hF rfl rfl) rfl rfl rfl fun a hF=>?_
  refine g_split 32 hF rfl (fun hb313=>?_) (fun hb313=>?_)
  ·have hP:=Fx.cT hb313 hP
   refine g_skip hF rfl rfl rfl hb313 rfl rfl fun a hF=>?_
   refine g_skip hF rfl rfl rfl hb313 rfl rfl fun a hF=>?_
   refine g_skip hF rfl rfl rfl hb313 rfl rfl fun a hF=>?_
   refine g_skip hF rfl rfl rfl hb313 rfl rfl fun a hF=>?_
   refine s_val hF (r_pick1 hF rfl rfl hb313 rfl) rfl rfl rfl fun a hF=>?_
   refine c_nil (n_then ?_)
   have hP:=Option.some.inj hP
   subst hP
   exact ⟨true,rfl,hF.to ⟨rfl,rfl,rfl,trivial⟩,hM⟩
  have hP:=Fx.cF hb313 hP
  refine g_val hF rfl rfl rfl hb313 (r_fieldAddr (off':=12) Tryz.underlying50 rfl in3 rfl hF rfl rfl rfl) rfl rfl fun a hF=>?_
  refine g_val hF rfl rfl rfl hb313 (r_load1 Tryz.isAgg3 hF rfl rfl (hM.cell (i:=0) rfl (LSlot.g_mask _))) rfl rfl fun a hF=>?_
  obtain ⟨y315,hy315,hP⟩:=bind_some hP
  refine g_eff hF rfl rfl rfl hb313 rfl rfl (w_call (xs:=[.tmp 34,.const (.int .i64 (0)),.const (.int .i64 (255))]) Tryz.call159 hF rfl rfl (ref23_within_calls hy315 hM ) fun v w hR=>?_)
  obtain ⟨rfl,hM⟩:=hR
  replace hM:MemL _ (pt b_B181_1 (LSlot.enc x0) 50 :: Lr):=hM
  intro a hF
  refine g_val hF rfl rfl rfl hb313 (r_not hF rfl rfl) rfl rfl fun a hF=>?_
  refine s_val hF (r_pick0 hF rfl rfl hb313 rfl) rfl rfl rfl fun a hF=>?_
  refine c_nil (n_then ?_)
  have hP:=Option.some.inj hP
  subst hP
  exact ⟨(!y315),rfl,hF.to ⟨rfl,rfl,rfl,trivial⟩,hM⟩
 rintro v312 a w hP ⟨hF,hM⟩
 replace hP:Sh.ref23_goodSlot_j2 x0 v312 = _:=hP
 unfold Sh.ref23_goodSlot_j2 at hP
 refine n_then ?_
 refine c_cond hF (c:=.tmp 37) rfl (fun hb316=>?_) (fun hb316=>?_)
 ·have hP:=Fx.cT hb316 hP
  refine c_seq ?_
  refine c_region ?_
  refine s_val hF (r_assign hF rfl rfl) rfl rfl rfl fun a hF=>?_
  refine c_nil (n_then ?_)
  refine c_ret ?_
  have hP:=Option.some.inj hP
  subst hP
  refine e_ret1 Tryz.results181 hF rfl ?_
  exact ⟨rfl,selM hM [] 1 rfl⟩
 have hP:=Fx.cF hb316 hP
 refine c_skip (n_then ?_)
 refine c_seq ?_
 refine c_joinX hF hM hP (fun F x a w=>match x with | _=>Fr 55 [(2,.bool false)] a ∧ MemL w (Lr)) (fun o_j3 hP hK_j3 hF hM=>?_) ?_
 ·refine c_seq ?_
  refine c_region ?_
  refine s_val hF (r_assign hF rfl rfl) rfl rfl rfl fun a hF=>?_
  refine c_nil (n_then ?_)
  refine c_block ?_
  refine c_loopX hF hM hP (fun F x a w=>match x with | v496=>Fr 55 [(3,.int .i64 v496),(1,.pointer (some ⟨b_B181_1,0,none⟩)),(2,.bool false)] a ∧ MemL w (pt b_B181_1 (LSlot.enc x0) 50 :: Lr)) (fun hF hM=>⟨hF.to ⟨rfl,rfl,rfl,trivial⟩,hM⟩) ?_
  rintro v496 a w o_l4 hP hK_l4 ⟨hF,hM⟩
  replace hP:Sh.ref23_goodSlot_l4 x0 v496 = _:=hP
  unfold Sh.ref23_goodSlot_l4 at hP
  refine c_seq ?_
  refine c_seq ?_
  refine c_region ?_
  refine s_val hF (r_move hF rfl rfl) rfl rfl rfl fun a hF=>?_
  refine s_val hF (r_lss hF rfl rfl rfl) rfl rfl rfl fun a hF=>?_
  refine c_nil (n_then ?_)
  refine c_cond hF (c:=.tmp 39) rfl (fun hb498=>?_) (fun hb498=>?_)
  ·have hP:=Fx.cT hb498 hP
   refine c_skip (n_then ?_)
   refine c_seq ?_
   refine c_block ?_
   refine c_seq ?_
   refine c_joinX hF hM hP (fun F x a w=>match x with | v516=>Fr 55 [(54,.bool v516),(1,.pointer (some ⟨b_B181_1,0,none⟩)),(2,.bool false),(3,.int .i64 v496)] a ∧ MemL w (pt b_B181_1 (LSlot.enc x0) 50 :: Lr)) (fun o_j5 hP hK_j5 hF hM=>?_) ?_
   ·refine c_region ?_
    refine s_val hF (r_fieldAddr (off':=12) Tryz.underlying50 rfl in3 rfl hF rfl rfl rfl) rfl rfl rfl fun a hF=>?_
    refine s_val hF (r_load1 Tryz.isAgg3 hF rfl rfl (hM.cell (i:=0) rfl (LSlot.g_mask _))) rfl rfl rfl fun a hF=>?_
    refine s_val hF (r_move hF rfl rfl) rfl rfl rfl fun a hF=>?_
    obtain ⟨hc517,hP⟩:=must_some hP
    refine s_val hF (r_shr hF rfl rfl rfl (of_decide_eq_true hc517)) rfl rfl rfl fun a hF=>?_
    refine s_val hF (r_and hF rfl rfl rfl) rfl rfl rfl fun a hF=>?_
    refine s_val hF (r_eql hF rfl rfl rfl) rfl rfl rfl fun a hF=>?_
    refine s_val hF (r_move hF rfl rfl) rfl rfl rfl fun a hF=>?_
    refine g_split 48 hF rfl (fun hb518=>?_) (fun hb518=>?_)
    ·have hP:=Fx.cT hb518 hP
     refine g_val hF rfl rfl rfl hb518 (r_move hF rfl rfl) rfl rfl fun a hF=>?_
     refine g_val hF rfl rfl rfl hb518 (r_fieldAddr (off':=4) Tryz.underlying50 rfl in48 rfl hF rfl rfl rfl) rfl rfl fun a hF=>?_
     obtain ⟨x519,hx519,hP⟩:=bind_some hP
     have h0x519:=get_some hx519
     refine g_val hF rfl rfl rfl hb518 (r_indexAddrA (sz:=1) Tryz.underlying48 in5 rfl hF rfl rfl rfl (get_bdv hx519)) rfl rfl fun a hF=>?_
     refine g_val hF rfl rfl rfl hb518 (r_load1 Tryz.isAgg5 hF rfl rfl ((hM.cells (i:=0) rfl (LSlot.ci_bytes _ _ _ (get_some hx519).2)).get 0 rfl)) rfl rfl fun a hF=>?_
     refine g_val hF rfl rfl rfl hb518 (r_neq hF rfl rfl rfl) rfl rfl fun a hF=>?_
     refine s_val hF (r_pick1 hF rfl rfl hb518 rfl) rfl rfl rfl fun a hF=>?_
     refine c_nil (n_then ?_)
     have hP:=Option.some.inj hP
     subst hP
     exact ⟨(!decide ((x519.toNat:Int) = 0)),rfl,hF.to ⟨rfl,rfl,rfl,rfl,trivial⟩,hM⟩
    have hP:=Fx.cF hb518 hP
    refine g_skip hF rfl rfl rfl hb518 rfl rfl fun a hF=>?_
    refine g_skip hF rfl rfl rfl hb518 rfl rfl fun a hF=>?_
    refine g_skip hF rfl rfl rfl hb518 rfl rfl fun a hF=>?_
    refine g_skip hF rfl rfl rfl hb518 rfl rfl fun a hF=>?_
    refine g_skip hF rfl rfl rfl hb518 rfl rfl fun a hF=>?_
    refine s_val hF (r_pick0 hF rfl rfl hb518 rfl) rfl rfl rfl fun a hF=>?_
    refine c_nil (n_then ?_)
    have hP:=Option.some.inj hP
    subst hP
    exact ⟨false,rfl,hF.to ⟨rfl,rfl,rfl,rfl,trivial⟩,hM⟩
   rintro v516 a w hP ⟨hF,hM⟩
   replace hP:Sh.ref23_goodSlot_j5 v496 v516 = _:=hP
   unfold Sh.ref23_goodSlot_j5 at hP
   refine n_then ?_
   refine c_cond hF (c:=.tmp 54) rfl (fun hb520=>?_) (fun hb520=>?_)
   ·have hP:=Fx.cT hb520 hP
    refine c_seq ?_
    refine c_region ?_
    refine s_val hF (r_assign hF rfl rfl) rfl rfl rfl fun a hF=>?_
    refine c_nil (n_then ?_)
    refine c_ret ?_
    have hP:=Option.some.inj hP
    subst hP
    have hP:=hK_l4 _ rfl
    subst hP
    have hP:=fin_inr hK_j3
    subst hP
    refine e_ret1 Tryz.results181 hF rfl ?_
    exact ⟨rfl,selM hM [] 1 rfl⟩
   have hP:=Fx.cF hb520 hP
   refine c_skip (n_block (n_then ?_))
   refine c_region ?_
   refine s_val hF (r_move hF rfl rfl) rfl rfl rfl fun a hF=>?_
   refine s_val hF (r_add hF rfl rfl rfl) rfl rfl rfl fun a hF=>?_
   refine s_val hF (r_assign hF rfl rfl) rfl rfl rfl fun a hF=>?_
   refine c_nil (n_then ?_)
   have hP:=Option.some.inj hP
   subst hP
   exact ⟨(IntKind.i64.wrap (v496 + 1)),rfl,hF.to ⟨rfl,rfl,rfl,trivial⟩,hM⟩
  have hP:=Fx.cF hb498 hP
  refine c_exit (x_then (x_then (x_hit ?_)))
  refine n_then ?_
  have hP:=Option.some.inj hP
  subst hP
  have hP:=hK_l4 _ rfl
  subst hP
  exact ⟨(),rfl,hF.to ⟨rfl,trivial⟩,selM hM [] 1 rfl⟩
 rintro ⟨⟩ a w hP ⟨hF,hM⟩
 replace hP:Sh.ref23_goodSlot_j3 = _:=hP
 unfold Sh.ref23_goodSlot_j3 at hP
 refine n_then ?_
 refine c_seq ?_
 refine c_region ?_
 refine s_val hF (r_assign hF rfl rfl) rfl rfl rfl fun a hF=>?_
 refine c_nil (n_then ?_)
 refine c_ret ?_
 have hP:=Option.some.inj hP
 subst hP
 refine e_ret1 Tryz.results181 hF rfl ?_
 exact ⟨rfl,hM⟩
set_option maxHeartbeats 4000000 in
theorem ref23_goodMark_calls {x0:QMark} {s1:SV} {s3:SV} {s5:SV} {hs6:List RPiece} {s9:SV} {out:Bool} {w0:World} {Bf:World → Prop} {Lr:List Res} (hP:Sh.ref23_goodMark x0 = some out) (hM:MemL w0 (Lr)) (hsub:∀ w,MemL w Lr → Bf w) (f2:LIn Bf s1 x0.regs) (f4:LIn Bf s3 x0.slots) (f7:LIn Bf s5 hs6) (q8:Each (QPieceIn Bf) hs6 x0.pieces) (f10:LIn Bf s9 x0.sent):Calls Tryz.prog 106 #[.agg (RMark.enc (RMark.mk x0.at_ x0.next x0.done s1 s3 s5 s9)).toArray] w0 (Ret fun v w'=>v = .bool out ∧ MemL w' (Lr)):=by
 unfold Sh.ref23_goodMark at hP
 refine calls_enter (vs:=[.agg (RMark.enc (RMark.mk x0.at_ x0.next x0.done s1 s3 s5 s9)).toArray]) Tryz.func106 rfl Tryz.ntmps106 rfl fun a hF=>?_
 refine c_seq ?_
 refine c_region ?_
 refine s_eff hF rfl rfl rfl (w_box hF rfl rfl rfl fun b_B106_1 w hzB106_1 hAB106_1=>?_)
 have hM:=hM.plus hAB106_1
 replace hM:MemL _ (pt b_B106_1 (RMark.enc (RMark.mk x0.at_ x0.next x0.done s1 s3 s5 s9)) 60 :: Lr):=hM
 intro a hF
 refine s_val hF (r_assign hF rfl rfl) rfl rfl rfl fun a hF=>?_
 refine c_nil (n_then ?_)
 refine c_seq ?_
 refine c_region ?_
 refine s_val hF (r_loadn Tryz.isAgg60 Tryz.sizeOf60 hF rfl rfl (RMark.len _) (hM.cells (i:=0) rfl (cut_all (RMark.len _)))) rfl rfl rfl fun a hF=>?_
 obtain ⟨y526,hy526,hP⟩:=bind_some hP
 refine s_eff hF rfl rfl rfl (w_call (xs:=[.tmp 6]) Tryz.call135 hF rfl rfl (ref23_Plain_calls hy526 hM (Bf:=Bf) (fun w hM=>hsub _ (dropM hM 1)) f2 f4 f7 q8 f10) fun v w hR=>?_)
 obtain ⟨rfl,hM⟩:=hR
 replace hM:MemL _ (pt b_B106_1 (RMark.enc (RMark.mk x0.at_ x0.next x0.done s1 s3 s5 s9)) 60 :: Lr):=hM
 intro a hF
 refine s_val hF (r_assign hF rfl rfl) rfl rfl rfl fun a hF=>?_
 refine c_nil (n_then ?_)
 refine c_seq ?_
 refine c_joinX hF hM hP (fun F x a w=>match x with | v697=>Fr 61 [(3,.bool v697),(1,.pointer (some ⟨b_B106_1,0,none⟩)),(2,.bool false)] a ∧ MemL w (pt b_B106_1 (RMark.enc (RMark.mk x0.at_ x0.next x0.done s1 s3 s5 s9)) 60 :: Lr)) (fun o_j1 hP hK_j1 hF hM=>?_) ?_
 ·refine c_seq ?_
  refine c_region ?_
  refine s_val hF (r_assign hF rfl rfl) rfl rfl rfl fun a hF=>?_
  refine c_nil (n_then ?_)
  refine c_block ?_
  refine c_loopX hF hM hP (fun F x a w=>match x with | (v754,v755)=>Fr 61 [(3,.bool v754),(4,.int .i64 v755),(1,.pointer (some ⟨b_B106_1,0,none⟩)),(2,.bool false)] a ∧ MemL w (pt b_B106_1 (RMark.enc (RMark.mk x0.at_ x0.next x0.done s1 s3 s5 s9)) 60 :: Lr)) (fun hF hM=>⟨hF.to ⟨rfl,rfl,rfl,rfl,trivial⟩,hM⟩) ?_
  rintro ⟨v754,v755⟩ a w o_l2 hP hK_l2 ⟨hF,hM⟩
  replace hP:Sh.ref23_goodMark_l2 x0 v754 v755 = _:=hP
  unfold Sh.ref23_goodMark_l2 at hP
  refine c_seq ?_
  refine c_seq ?_
  refine c_region ?_
  refine s_val hF (r_move hF rfl rfl) rfl rfl rfl fun a hF=>?_
  refine s_val hF (r_fieldAddr (off':=3) Tryz.underlying60 rfl in56 rfl hF rfl rfl rfl) rfl rfl rfl fun a hF=>?_
  refine s_val hF (r_load1 Tryz.isAgg56 hF rfl rfl (hM.cell (i:=0) rfl (RMark.g_regs _))) rfl rfl rfl fun a hF=>?_
  refine s_val hF (r_lenL (f2 _ (hsub _ (dropM hM 1))) Tryz.underlying56 hF rfl rfl) rfl rfl rfl fun a hF=>?_
  refine s_val hF (r_lss hF rfl rfl rfl) rfl rfl rfl fun a hF=>?_
  refine c_nil (n_then ?_)
  refine c_cond hF (c:=.tmp 12) rfl (fun hb757=>?_) (fun hb757=>?_)
  ·have hP:=Fx.cT hb757 hP
   refine c_skip (n_then ?_)
   refine c_seq ?_
   refine c_joinX hF hM hP (fun F x a w=>match x with | v774=>Fr 61 [(3,.bool v774),(1,.pointer (some ⟨b_B106_1,0,none⟩)),(2,.bool false),(4,.int .i64 v755)] a ∧ MemL w (pt b_B106_1 (RMark.enc (RMark.mk x0.at_ x0.next x0.done s1 s3 s5 s9)) 60 :: Lr)) (fun o_j3 hP hK_j3 hF hM=>?_) ?_
   ·refine c_block ?_
    refine c_region ?_
    refine s_val hF (r_move hF rfl rfl) rfl rfl rfl fun a hF=>?_
    refine s_val hF (r_move hF rfl rfl) rfl rfl rfl fun a hF=>?_
    refine g_split 16 hF rfl (fun hb775=>?_) (fun hb775=>?_)
    ·have hP:=Fx.cT hb775 hP
     refine g_val hF rfl rfl rfl hb775 (r_fieldAddr (off':=3) Tryz.underlying60 rfl in56 rfl hF rfl rfl rfl) rfl rfl fun a hF=>?_
     refine g_val hF rfl rfl rfl hb775 (r_load1 Tryz.isAgg56 hF rfl rfl (hM.cell (i:=0) rfl (RMark.g_regs _))) rfl rfl fun a hF=>?_
     refine g_val hF rfl rfl rfl hb775 (r_move hF rfl rfl) rfl rfl fun a hF=>?_
     obtain ⟨x776,hx776,hP⟩:=bind_some hP
     have h0x776:=get_some hx776
     refine g_val hF rfl rfl rfl hb775 (r_indexZ (sz:=9) (f2 _ (hsub _ (dropM hM 1))) Tryz.underlying56 in128 rfl hF rfl rfl rfl (get_bd hx776)) rfl rfl fun a hF=>?_
     refine g_val hF rfl rfl rfl hb775 (r_fieldAddr Tryz.underlying128 rfl in46 rfl hF rfl rfl rfl) rfl rfl fun a hF=>?_
     refine g_val hF rfl rfl rfl hb775 (r_loadn Tryz.isAgg46 Tryz.sizeOf46 hF rfl rfl (LVal.len _) ((((f2 _ (hsub _ (dropM hM 1))).elemS h0x776.2)).sub 1 4 (LTurn.c_old _))) rfl rfl fun a hF=>?_
     obtain ⟨y778,hy778,hP⟩:=bind_some hP
     refine g_eff hF rfl rfl rfl hb775 rfl rfl (w_call (xs:=[.tmp 22]) Tryz.call180 hF rfl rfl (ref23_goodValue_calls hy778 hM ) fun v w hR=>?_)
     obtain ⟨rfl,hM⟩:=hR
     replace hM:MemL _ (pt b_B106_1 (RMark.enc (RMark.mk x0.at_ x0.next x0.done s1 s3 s5 s9)) 60 :: Lr):=hM
     intro a hF
     refine s_val hF (r_pick1 hF rfl rfl hb775 rfl) rfl rfl rfl fun a hF=>?_
     refine s_val hF (r_move hF rfl rfl) rfl rfl rfl fun a hF=>?_
     refine g_split 25 hF rfl (fun hb779=>?_) (fun hb779=>?_)
     ·have hP:=Fx.cT hb779 hP
      refine g_val hF rfl rfl rfl hb779 (r_fieldAddr (off':=3) Tryz.underlying60 rfl in56 rfl hF rfl rfl rfl) rfl rfl fun a hF=>?_
      refine g_val hF rfl rfl rfl hb779 (r_load1 Tryz.isAgg56 hF rfl rfl (hM.cell (i:=0) rfl (RMark.g_regs _))) rfl rfl fun a hF=>?_
      refine g_val hF rfl rfl rfl hb779 (r_move hF rfl rfl) rfl rfl fun a hF=>?_
      obtain ⟨x780,hx780,hP⟩:=bind_some hP
      have h0x780:=get_some hx780
      refine g_val hF rfl rfl rfl hb779 (r_indexZ (sz:=9) (f2 _ (hsub _ (dropM hM 1))) Tryz.underlying56 in128 rfl hF rfl rfl rfl (get_bd hx780)) rfl rfl fun a hF=>?_
      refine g_val hF rfl rfl rfl hb779 (r_fieldAddr Tryz.underlying128 rfl in46 rfl hF rfl rfl rfl) rfl rfl fun a hF=>?_
      refine g_val hF rfl rfl rfl hb779 (r_loadn Tryz.isAgg46 Tryz.sizeOf46 hF rfl rfl (LVal.len _) ((((f2 _ (hsub _ (dropM hM 1))).elemS h0x780.2)).sub 5 4 (LTurn.c_new _))) rfl rfl fun a hF=>?_
      obtain ⟨y782,hy782,hP⟩:=bind_some hP
      refine g_eff hF rfl rfl rfl hb779 rfl rfl (w_call (xs:=[.tmp 31]) Tryz.call180 hF rfl rfl (ref23_goodValue_calls hy782 hM ) fun v w hR=>?_)
      obtain ⟨rfl,hM⟩:=hR
      replace hM:MemL _ (pt b_B106_1 (RMark.enc (RMark.mk x0.at_ x0.next x0.done s1 s3 s5 s9)) 60 :: Lr):=hM
      intro a hF
      refine s_val hF (r_pick1 hF rfl rfl hb779 rfl) rfl rfl rfl fun a hF=>?_
      refine s_val hF (r_assign hF rfl rfl) rfl rfl rfl fun a hF=>?_
      refine c_nil (n_block (n_then ?_))
      have hP:=Option.some.inj hP
      subst hP
      exact ⟨y782,rfl,hF.to ⟨rfl,rfl,rfl,rfl,trivial⟩,hM⟩
     have hP:=Fx.cF hb779 hP
     refine g_skip hF rfl rfl rfl hb779 rfl rfl fun a hF=>?_
     refine g_skip hF rfl rfl rfl hb779 rfl rfl fun a hF=>?_
     refine g_skip hF rfl rfl rfl hb779 rfl rfl fun a hF=>?_
     refine g_skip hF rfl rfl rfl hb779 rfl rfl fun a hF=>?_
     refine g_skip hF rfl rfl rfl hb779 rfl rfl fun a hF=>?_
     refine g_skip hF rfl rfl rfl hb779 rfl rfl fun a hF=>?_
     refine g_skip hF rfl rfl rfl hb779 rfl rfl fun a hF=>?_
     refine s_val hF (r_pick0 hF rfl rfl hb779 rfl) rfl rfl rfl fun a hF=>?_
     refine s_val hF (r_assign hF rfl rfl) rfl rfl rfl fun a hF=>?_
     refine c_nil (n_block (n_then ?_))
     have hP:=Option.some.inj hP
     subst hP
     exact ⟨false,rfl,hF.to ⟨rfl,rfl,rfl,rfl,trivial⟩,hM⟩
    have hP:=Fx.cF hb775 hP
    refine g_skip hF rfl rfl rfl hb775 rfl rfl fun a hF=>?_
    refine g_skip hF rfl rfl rfl hb775 rfl rfl fun a hF=>?_
    refine g_skip hF rfl rfl rfl hb775 rfl rfl fun a hF=>?_
    refine g_skip hF rfl rfl rfl hb775 rfl rfl fun a hF=>?_
    refine g_skip hF rfl rfl rfl hb775 rfl rfl fun a hF=>?_
    refine g_skip hF rfl rfl rfl hb775 rfl rfl fun a hF=>?_
    refine g_skip hF rfl rfl rfl hb775 rfl rfl fun a hF=>?_
    refine s_val hF (r_pick0 hF rfl rfl hb775 rfl) rfl rfl rfl fun a hF=>?_
    refine s_val hF (r_move hF rfl rfl) rfl rfl rfl fun a hF=>?_
    refine g_skip hF rfl rfl rfl rfl rfl rfl fun a hF=>?_
    refine g_skip hF rfl rfl rfl rfl rfl rfl fun a hF=>?_
    refine g_skip hF rfl rfl rfl rfl rfl rfl fun a hF=>?_
    refine g_skip hF rfl rfl rfl rfl rfl rfl fun a hF=>?_
    refine g_skip hF rfl rfl rfl rfl rfl rfl fun a hF=>?_
    refine g_skip hF rfl rfl rfl rfl rfl rfl fun a hF=>?_
    refine g_skip hF rfl rfl rfl rfl rfl rfl fun a hF=>?_
    refine s_val hF (r_pick0 hF rfl rfl rfl rfl) rfl rfl rfl fun a hF=>?_
    refine s_val hF (r_assign hF rfl rfl) rfl rfl rfl fun a hF=>?_
    refine c_nil (n_block (n_then ?_))
    have hP:=Option.some.inj hP
    subst hP
    exact ⟨false,rfl,hF.to ⟨rfl,rfl,rfl,rfl,trivial⟩,hM⟩
   rintro v774 a w hP ⟨hF,hM⟩
   replace hP:Sh.ref23_goodMark_j3 v755 v774 = _:=hP
   unfold Sh.ref23_goodMark_j3 at hP
   refine n_then ?_
   refine c_region ?_
   refine s_val hF (r_move hF rfl rfl) rfl rfl rfl fun a hF=>?_
   refine s_val hF (r_add hF rfl rfl rfl) rfl rfl rfl fun a hF=>?_
   refine s_val hF (r_assign hF rfl rfl) rfl rfl rfl fun a hF=>?_
   refine c_nil (n_then ?_)
   have hP:=Option.some.inj hP
   subst hP
   exact ⟨(v774,(IntKind.i64.wrap (v755 + 1))),rfl,hF.to ⟨rfl,rfl,rfl,rfl,trivial⟩,hM⟩
  have hP:=Fx.cF hb757 hP
  refine c_exit (x_then (x_then (x_hit ?_)))
  refine n_then ?_
  have hP:=Option.some.inj hP
  subst hP
  have hP:=hK_l2 _ rfl
  subst hP
  exact ⟨v754,rfl,hF.to ⟨rfl,rfl,rfl,trivial⟩,hM⟩
 rintro v697 a w hP ⟨hF,hM⟩
 replace hP:Sh.ref23_goodMark_j1 x0 v697 = _:=hP
 unfold Sh.ref23_goodMark_j1 at hP
 refine n_then ?_
 refine c_seq ?_
 refine c_joinX hF hM hP (fun F x a w=>match x with | v953=>Fr 61 [(3,.bool v953),(2,.bool false)] a ∧ MemL w (Lr)) (fun o_j4 hP hK_j4 hF hM=>?_) ?_
 ·refine c_seq ?_
  refine c_region ?_
  refine s_val hF (r_assign hF rfl rfl) rfl rfl rfl fun a hF=>?_
  refine c_nil (n_then ?_)
  refine c_block ?_
  refine c_loopX hF hM hP (fun F x a w=>match x with | (v1010,v1011)=>Fr 61 [(3,.bool v1010),(5,.int .i64 v1011),(1,.pointer (some ⟨b_B106_1,0,none⟩)),(2,.bool false)] a ∧ MemL w (pt b_B106_1 (RMark.enc (RMark.mk x0.at_ x0.next x0.done s1 s3 s5 s9)) 60 :: Lr)) (fun hF hM=>⟨hF.to ⟨rfl,rfl,rfl,rfl,trivial⟩,hM⟩) ?_
  rintro ⟨v1010,v1011⟩ a w o_l5 hP hK_l5 ⟨hF,hM⟩
  replace hP:Sh.ref23_goodMark_l5 x0 v1010 v1011 = _:=hP
  unfold Sh.ref23_goodMark_l5 at hP
  refine c_seq ?_
  refine c_seq ?_
  refine c_region ?_
  refine s_val hF (r_move hF rfl rfl) rfl rfl rfl fun a hF=>?_
  refine s_val hF (r_fieldAddr (off':=4) Tryz.underlying60 rfl in57 rfl hF rfl rfl rfl) rfl rfl rfl fun a hF=>?_
  refine s_val hF (r_load1 Tryz.isAgg57 hF rfl rfl (hM.cell (i:=0) rfl (RMark.g_slots _))) rfl rfl rfl fun a hF=>?_
  refine s_val hF (r_lenL (f4 _ (hsub _ (dropM hM 1))) Tryz.underlying57 hF rfl rfl) rfl rfl rfl fun a hF=>?_
  refine s_val hF (r_lss hF rfl rfl rfl) rfl rfl rfl fun a hF=>?_
  refine c_nil (n_then ?_)
  refine c_cond hF (c:=.tmp 38) rfl (fun hb1013=>?_) (fun hb1013=>?_)
  ·have hP:=Fx.cT hb1013 hP
   refine c_skip (n_then ?_)
   refine c_seq ?_
   refine c_joinX hF hM hP (fun F x a w=>match x with | v1030=>Fr 61 [(3,.bool v1030),(1,.pointer (some ⟨b_B106_1,0,none⟩)),(2,.bool false),(5,.int .i64 v1011)] a ∧ MemL w (pt b_B106_1 (RMark.enc (RMark.mk x0.at_ x0.next x0.done s1 s3 s5 s9)) 60 :: Lr)) (fun o_j6 hP hK_j6 hF hM=>?_) ?_
   ·refine c_block ?_
    refine c_region ?_
    refine s_val hF (r_move hF rfl rfl) rfl rfl rfl fun a hF=>?_
    refine s_val hF (r_move hF rfl rfl) rfl rfl rfl fun a hF=>?_
    refine g_split 42 hF rfl (fun hb1031=>?_) (fun hb1031=>?_)
    ·have hP:=Fx.cT hb1031 hP
     refine g_val hF rfl rfl rfl hb1031 (r_fieldAddr (off':=4) Tryz.underlying60 rfl in57 rfl hF rfl rfl rfl) rfl rfl fun a hF=>?_
     refine g_val hF rfl rfl rfl hb1031 (r_load1 Tryz.isAgg57 hF rfl rfl (hM.cell (i:=0) rfl (RMark.g_slots _))) rfl rfl fun a hF=>?_
     refine g_val hF rfl rfl rfl hb1031 (r_move hF rfl rfl) rfl rfl fun a hF=>?_
     obtain ⟨x1032,hx1032,hP⟩:=bind_some hP
     have h0x1032:=get_some hx1032
     refine g_val hF rfl rfl rfl hb1031 (r_indexZ (sz:=27) (f4 _ (hsub _ (dropM hM 1))) Tryz.underlying57 in151 rfl hF rfl rfl rfl (get_bd hx1032)) rfl rfl fun a hF=>?_
     refine g_val hF rfl rfl rfl hb1031 (r_fieldAddr Tryz.underlying151 rfl in50 rfl hF rfl rfl rfl) rfl rfl fun a hF=>?_
     refine g_val hF rfl rfl rfl hb1031 (r_loadn Tryz.isAgg50 Tryz.sizeOf50 hF rfl rfl (LSlot.len _) ((((f4 _ (hsub _ (dropM hM 1))).elemS h0x1032.2)).sub 1 13 (LCell.c_old _))) rfl rfl fun a hF=>?_
     obtain ⟨y1034,hy1034,hP⟩:=bind_some hP
     refine g_eff hF rfl rfl rfl hb1031 rfl rfl (w_call (xs:=[.tmp 48]) Tryz.call181 hF rfl rfl (ref23_goodSlot_calls hy1034 hM ) fun v w hR=>?_)
     obtain ⟨rfl,hM⟩:=hR
     replace hM:MemL _ (pt b_B106_1 (RMark.enc (RMark.mk x0.at_ x0.next x0.done s1 s3 s5 s9)) 60 :: Lr):=hM
     intro a hF
     refine s_val hF (r_pick1 hF rfl rfl hb1031 rfl) rfl rfl rfl fun a hF=>?_
     refine s_val hF (r_move hF rfl rfl) rfl rfl rfl fun a hF=>?_
     refine g_split 51 hF rfl (fun hb1035=>?_) (fun hb1035=>?_)
     ·have hP:=Fx.cT hb1035 hP
      refine g_val hF rfl rfl rfl hb1035 (r_fieldAddr (off':=4) Tryz.underlying60 rfl in57 rfl hF rfl rfl rfl) rfl rfl fun a hF=>?_
      refine g_val hF rfl rfl rfl hb1035 (r_load1 Tryz.isAgg57 hF rfl rfl (hM.cell (i:=0) rfl (RMark.g_slots _))) rfl rfl fun a hF=>?_
      refine g_val hF rfl rfl rfl hb1035 (r_move hF rfl rfl) rfl rfl fun a hF=>?_
      obtain ⟨x1036,hx1036,hP⟩:=bind_some hP
      have h0x1036:=get_some hx1036
      refine g_val hF rfl rfl rfl hb1035 (r_indexZ (sz:=27) (f4 _ (hsub _ (dropM hM 1))) Tryz.underlying57 in151 rfl hF rfl rfl rfl (get_bd hx1036)) rfl rfl fun a hF=>?_
      refine g_val hF rfl rfl rfl hb1035 (r_fieldAddr Tryz.underlying151 rfl in50 rfl hF rfl rfl rfl) rfl rfl fun a hF=>?_
      refine g_val hF rfl rfl rfl hb1035 (r_loadn Tryz.isAgg50 Tryz.sizeOf50 hF rfl rfl (LSlot.len _) ((((f4 _ (hsub _ (dropM hM 1))).elemS h0x1036.2)).sub 14 13 (LCell.c_new _))) rfl rfl fun a hF=>?_
      obtain ⟨y1038,hy1038,hP⟩:=bind_some hP
      refine g_eff hF rfl rfl rfl hb1035 rfl rfl (w_call (xs:=[.tmp 57]) Tryz.call181 hF rfl rfl (ref23_goodSlot_calls hy1038 hM ) fun v w hR=>?_)
      obtain ⟨rfl,hM⟩:=hR
      replace hM:MemL _ (pt b_B106_1 (RMark.enc (RMark.mk x0.at_ x0.next x0.done s1 s3 s5 s9)) 60 :: Lr):=hM
      intro a hF
      refine s_val hF (r_pick1 hF rfl rfl hb1035 rfl) rfl rfl rfl fun a hF=>?_
      refine s_val hF (r_assign hF rfl rfl) rfl rfl rfl fun a hF=>?_
      refine c_nil (n_block (n_then ?_))
      have hP:=Option.some.inj hP
      subst hP
      exact ⟨y1038,rfl,hF.to ⟨rfl,rfl,rfl,rfl,trivial⟩,hM⟩
     have hP:=Fx.cF hb1035 hP
     refine g_skip hF rfl rfl rfl hb1035 rfl rfl fun a hF=>?_
     refine g_skip hF rfl rfl rfl hb1035 rfl rfl fun a hF=>?_
     refine g_skip hF rfl rfl rfl hb1035 rfl rfl fun a hF=>?_
     refine g_skip hF rfl rfl rfl hb1035 rfl rfl fun a hF=>?_
     refine g_skip hF rfl rfl rfl hb1035 rfl rfl fun a hF=>?_
     refine g_skip hF rfl rfl rfl hb1035 rfl rfl fun a hF=>?_
     refine g_skip hF rfl rfl rfl hb1035 rfl rfl fun a hF=>?_
     refine s_val hF (r_pick0 hF rfl rfl hb1035 rfl) rfl rfl rfl fun a hF=>?_
     refine s_val hF (r_assign hF rfl rfl) rfl rfl rfl fun a hF=>?_
     refine c_nil (n_block (n_then ?_))
     have hP:=Option.some.inj hP
     subst hP
     exact ⟨false,rfl,hF.to ⟨rfl,rfl,rfl,rfl,trivial⟩,hM⟩
    have hP:=Fx.cF hb1031 hP
    refine g_skip hF rfl rfl rfl hb1031 rfl rfl fun a hF=>?_
    refine g_skip hF rfl rfl rfl hb1031 rfl rfl fun a hF=>?_
    refine g_skip hF rfl rfl rfl hb1031 rfl rfl fun a hF=>?_
    refine g_skip hF rfl rfl rfl hb1031 rfl rfl fun a hF=>?_
    refine g_skip hF rfl rfl rfl hb1031 rfl rfl fun a hF=>?_
    refine g_skip hF rfl rfl rfl hb1031 rfl rfl fun a hF=>?_
    refine g_skip hF rfl rfl rfl hb1031 rfl rfl fun a hF=>?_
    refine s_val hF (r_pick0 hF rfl rfl hb1031 rfl) rfl rfl rfl fun a hF=>?_
    refine s_val hF (r_move hF rfl rfl) rfl rfl rfl fun a hF=>?_
    refine g_skip hF rfl rfl rfl rfl rfl rfl fun a hF=>?_
    refine g_skip hF rfl rfl rfl rfl rfl rfl fun a hF=>?_
    refine g_skip hF rfl rfl rfl rfl rfl rfl fun a hF=>?_
    refine g_skip hF rfl rfl rfl rfl rfl rfl fun a hF=>?_
    refine g_skip hF rfl rfl rfl rfl rfl rfl fun a hF=>?_
    refine g_skip hF rfl rfl rfl rfl rfl rfl fun a hF=>?_
    refine g_skip hF rfl rfl rfl rfl rfl rfl fun a hF=>?_
    refine s_val hF (r_pick0 hF rfl rfl rfl rfl) rfl rfl rfl fun a hF=>?_
    refine s_val hF (r_assign hF rfl rfl) rfl rfl rfl fun a hF=>?_
    refine c_nil (n_block (n_then ?_))
    have hP:=Option.some.inj hP
    subst hP
    exact ⟨false,rfl,hF.to ⟨rfl,rfl,rfl,rfl,trivial⟩,hM⟩
   rintro v1030 a w hP ⟨hF,hM⟩
   replace hP:Sh.ref23_goodMark_j6 v1011 v1030 = _:=hP
   unfold Sh.ref23_goodMark_j6 at hP
   refine n_then ?_
   refine c_region ?_
   refine s_val hF (r_move hF rfl rfl) rfl rfl rfl fun a hF=>?_
   refine s_val hF (r_add hF rfl rfl rfl) rfl rfl rfl fun a hF=>?_
   refine s_val hF (r_assign hF rfl rfl) rfl rfl rfl fun a hF=>?_
   refine c_nil (n_then ?_)
   have hP:=Option.some.inj hP
   subst hP
   exact ⟨(v1030,(IntKind.i64.wrap (v1011 + 1))),rfl,hF.to ⟨rfl,rfl,rfl,rfl,trivial⟩,hM⟩
  have hP:=Fx.cF hb1013 hP
  refine c_exit (x_then (x_then (x_hit ?_)))
  refine n_then ?_
  have hP:=Option.some.inj hP
  subst hP
  have hP:=hK_l5 _ rfl
  subst hP
  exact ⟨v1010,rfl,hF.to ⟨rfl,rfl,trivial⟩,selM hM [] 1 rfl⟩
 rintro v953 a w hP ⟨hF,hM⟩
 replace hP:Sh.ref23_goodMark_j4 v953 = _:=hP
 unfold Sh.ref23_goodMark_j4 at hP
 refine n_then ?_
 refine c_seq ?_
 refine c_region ?_
 refine s_val hF (r_move hF rfl rfl) rfl rfl rfl fun a hF=>?_
 refine s_val hF (r_assign hF rfl rfl) rfl rfl rfl fun a hF=>?_
 refine c_nil (n_then ?_)
 refine c_ret ?_
 have hP:=Option.some.inj hP
 subst hP
 refine e_ret1 Tryz.results106 hF rfl ?_
 exact ⟨rfl,hM⟩
set_option maxHeartbeats 4000000 in
theorem ref23_goodEnd_calls {x0:Int} {out:Bool} {w0:World} {Lr:List Res} (hP:Sh.ref23_goodEnd x0 = some out) (hM:MemL w0 (Lr)):Calls Tryz.prog 107 #[.int .i64 x0] w0 (Ret fun v w'=>v = .bool out ∧ MemL w' (Lr)):=by
 unfold Sh.ref23_goodEnd at hP
 refine calls_enter (vs:=[.int .i64 x0]) Tryz.func107 rfl Tryz.ntmps107 rfl fun a hF=>?_
 refine c_seq ?_
 refine c_region ?_
 refine s_val hF (r_assign hF rfl rfl) rfl rfl rfl fun a hF=>?_
 refine c_nil (n_then ?_)
 refine c_seq ?_
 refine c_joinX hF hM hP (fun F x a w=>match x with | v17=>Fr 9 [(2,.bool v17)] a ∧ MemL w (Lr)) (fun o_j1 hP hK_j1 hF hM=>?_) ?_
 ·refine c_region ?_
  refine s_val hF (r_move hF rfl rfl) rfl rfl rfl fun a hF=>?_
  refine s_val hF (r_eql hF rfl rfl rfl) rfl rfl rfl fun a hF=>?_
  refine s_val hF (r_move hF rfl rfl) rfl rfl rfl fun a hF=>?_
  refine g_split 5 hF rfl (fun hb18=>?_) (fun hb18=>?_)
  ·have hP:=Fx.cT hb18 hP
   refine g_skip hF rfl rfl rfl hb18 rfl rfl fun a hF=>?_
   refine g_skip hF rfl rfl rfl hb18 rfl rfl fun a hF=>?_
   refine s_val hF (r_pick1 hF rfl rfl hb18 rfl) rfl rfl rfl fun a hF=>?_
   refine s_val hF (r_assign hF rfl rfl) rfl rfl rfl fun a hF=>?_
   refine c_nil (n_then ?_)
   have hP:=Option.some.inj hP
   subst hP
   exact ⟨true,rfl,hF.to ⟨rfl,trivial⟩,hM⟩
  have hP:=Fx.cF hb18 hP
  refine g_val hF rfl rfl rfl hb18 (r_move hF rfl rfl) rfl rfl fun a hF=>?_
  obtain ⟨y20,hy20,hP⟩:=bind_some hP
  refine g_eff hF rfl rfl rfl hb18 rfl rfl (w_call (xs:=[.tmp 6,.const (.int .i64 (80)),.const (.int .i64 (89))]) Tryz.call159 hF rfl rfl (ref23_within_calls hy20 hM ) fun v w hR=>?_)
  obtain ⟨rfl,hM⟩:=hR
  replace hM:MemL _ (Lr):=hM
  intro a hF
  refine s_val hF (r_pick0 hF rfl rfl hb18 rfl) rfl rfl rfl fun a hF=>?_
  refine s_val hF (r_assign hF rfl rfl) rfl rfl rfl fun a hF=>?_
  refine c_nil (n_then ?_)
  have hP:=Option.some.inj hP
  subst hP
  exact ⟨y20,rfl,hF.to ⟨rfl,trivial⟩,hM⟩
 rintro v17 a w hP ⟨hF,hM⟩
 replace hP:Sh.ref23_goodEnd_j1 v17 = _:=hP
 unfold Sh.ref23_goodEnd_j1 at hP
 refine n_then ?_
 refine c_ret ?_
 have hP:=Option.some.inj hP
 subst hP
 refine e_ret1 Tryz.results107 hF rfl ?_
 exact ⟨rfl,hM⟩
set_option maxHeartbeats 4000000 in
theorem ref23_low_calls {x0:List UInt8} {x1:Int} {x2:Int} {s1:SV} {out:List UInt8} {w0:World} {Lr:List Res} (hP:Sh.ref23_low x0 x1 x2 = some out) (hM:MemL w0 (rowL 0 s1 5 x0 :: Lr)):Calls Tryz.prog 108 #[(s1).v,.int .i64 x1,.int .i64 x2] w0 (Ret fun v w'=>∃ (s90:SV),v = (s90).v ∧ MemL w' (rowL 0 s90 5 out :: Lr)):=by
 unfold Sh.ref23_low at hP
 refine calls_enter (vs:=[(s1).v,.int .i64 x1,.int .i64 x2]) Tryz.func108 rfl Tryz.ntmps108 rfl fun a hF=>?_
 refine c_seq ?_
 refine c_region ?_
 refine s_val hF (r_assign hF rfl rfl) rfl rfl rfl fun a hF=>?_
 refine c_nil (n_then ?_)
 refine c_seq ?_
 refine c_joinX hF hM hP (fun F x a w=>match x with | v148=>∃ (s149:SV),Fr 21 [(0,(s149).v),(6,(SV.nil).v)] a ∧ MemL w (rowL 0 s149 5 v148 :: Lr)) (fun o_j1 hP hK_j1 hF hM=>?_) ?_
 ·refine c_seq ?_
  refine c_region ?_
  refine s_val hF (r_assign hF rfl rfl) rfl rfl rfl fun a hF=>?_
  refine c_nil (n_then ?_)
  refine c_block ?_
  refine c_loopX hF hM hP (fun F x a w=>match x with | (v168,v171,v172)=>∃ (s169:SV),Fr 21 [(0,(s169).v),(1,.int .i64 v171),(7,.int .i64 v172),(2,.int .i64 x2),(6,(SV.nil).v)] a ∧ MemL w (rowL 0 s169 5 v168 :: Lr)) (fun hF hM=>⟨s1,hF.to ⟨rfl,rfl,rfl,rfl,rfl,trivial⟩,hM⟩) ?_
  rintro ⟨v168,v171,v172⟩ a w o_l2 hP hK_l2 ⟨s169,hF,hM⟩
  replace hP:Sh.ref23_low_l2 x2 v168 v171 v172 = _:=hP
  unfold Sh.ref23_low_l2 at hP
  refine c_seq ?_
  refine c_seq ?_
  refine c_region ?_
  refine s_val hF (r_move hF rfl rfl) rfl rfl rfl fun a hF=>?_
  refine s_val hF (r_move hF rfl rfl) rfl rfl rfl fun a hF=>?_
  refine s_val hF (r_lss hF rfl rfl rfl) rfl rfl rfl fun a hF=>?_
  refine c_nil (n_then ?_)
  refine c_cond hF (c:=.tmp 10) rfl (fun hb174=>?_) (fun hb174=>?_)
  ·have hP:=Fx.cT hb174 hP
   refine c_skip (n_then ?_)
   refine c_seq ?_
   refine c_block ?_
   refine c_seq ?_
   refine c_region ?_
   refine s_val hF (r_move hF rfl rfl) rfl rfl rfl fun a hF=>?_
   refine s_val hF (r_move hF rfl rfl) rfl rfl rfl fun a hF=>?_
   refine s_val hF (r_convB Tryz.underlying3 Tryz.underlying5 hF rfl rfl) rfl rfl rfl fun a hF=>?_
   refine s_eff hF rfl rfl rfl (w_slice1 (X:=UInt8) (y:=(Fw.byteOf v171)) Tryz.underlying23 in5 rfl rfl rfl rfl hF rfl rfl rfl fun b_B108_16 w hzB108_16 hAB108_16=>?_)
   have hM:=hM.plus hAB108_16
   replace hM:MemL _ (pt b_B108_16 (encs ([(Fw.byteOf v171)]:List UInt8)) 5 :: rowL 0 s169 5 v168 :: Lr):=hM
   intro a hF
   obtain ⟨x178,hx178,hP⟩:=bind_some hP
   refine s_eff hF rfl rfl rfl (w_appX (X:=UInt8) hx178 Tryz.underlying23 in5 rfl rfl rfl rfl hF rfl rfl rfl (hM.own (X:=UInt8) (i:=1) rfl) (hM.ptS (X:=UInt8) (i:=0) (n:=1) (c:=1) rfl rfl rfl (Nat.le_refl _)) fun s177 w hUs177=>?_)
   have hM:=hM.chg hUs177 (i:=1) rfl
   replace hM:MemL _ (pt b_B108_16 (encs ([(Fw.byteOf v171)]:List UInt8)) 5 :: rowL 0 s177 5 x178 :: Lr):=hM
   intro a hF
   refine s_val hF (r_assign hF rfl rfl) rfl rfl rfl fun a hF=>?_
   refine c_nil (n_then ?_)
   refine c_region ?_
   refine s_val hF (r_move hF rfl rfl) rfl rfl rfl fun a hF=>?_
   refine s_val hF (r_shr hF rfl rfl rfl (by decide)) rfl rfl rfl fun a hF=>?_
   refine s_val hF (r_assign hF rfl rfl) rfl rfl rfl fun a hF=>?_
   refine c_nil (n_block (n_then ?_))
   refine c_region ?_
   refine s_val hF (r_move hF rfl rfl) rfl rfl rfl fun a hF=>?_
   refine s_val hF (r_add hF rfl rfl rfl) rfl rfl rfl fun a hF=>?_
   refine s_val hF (r_assign hF rfl rfl) rfl rfl rfl fun a hF=>?_
   refine c_nil (n_then ?_)
   have hP:=Option.some.inj hP
   subst hP
   exact ⟨(x178,(shr .i64 v171 (8:Int).toNat),(IntKind.i64.wrap (v172 + 1))),rfl,s177,hF.to ⟨rfl,rfl,rfl,rfl,rfl,trivial⟩,selM hM [1] 2 rfl⟩
  have hP:=Fx.cF hb174 hP
  refine c_exit (x_then (x_then (x_hit ?_)))
  refine n_then ?_
  have hP:=Option.some.inj hP
  subst hP
  have hP:=hK_l2 _ rfl
  subst hP
  exact ⟨v168,rfl,s169,hF.to ⟨rfl,rfl,trivial⟩,hM⟩
 rintro v148 a w hP ⟨s149,hF,hM⟩
 replace hP:Sh.ref23_low_j1 v148 = _:=hP
 unfold Sh.ref23_low_j1 at hP
 refine n_then ?_
 refine c_seq ?_
 refine c_region ?_
 refine s_val hF (r_move hF rfl rfl) rfl rfl rfl fun a hF=>?_
 refine s_val hF (r_assign hF rfl rfl) rfl rfl rfl fun a hF=>?_
 refine c_nil (n_then ?_)
 refine c_ret ?_
 have hP:=Option.some.inj hP
 subst hP
 refine e_ret1 Tryz.results108 hF rfl ?_
 exact ⟨s149,rfl,hM⟩
set_option maxHeartbeats 4000000 in
theorem ref23_value2_calls {x0:List UInt8} {x1:LVal} {s1:SV} {out:List UInt8} {w0:World} {Lr:List Res} (hP:Sh.ref23_value2 x0 x1 = some out) (hM:MemL w0 (rowL 0 s1 5 x0 :: Lr)):Calls Tryz.prog 182 #[(s1).v,.agg (LVal.enc x1).toArray] w0 (Ret fun v w'=>∃ (s35:SV),v = (s35).v ∧ MemL w' (rowL 0 s35 5 out :: Lr)):=by
 unfold Sh.ref23_value2 at hP
 refine calls_enter (vs:=[(s1).v,.agg (LVal.enc x1).toArray]) Tryz.func182 rfl Tryz.ntmps182 rfl fun a hF=>?_
 refine c_seq ?_
 refine c_region ?_
 refine s_eff hF rfl rfl rfl (w_box hF rfl rfl rfl fun b_B182_3 w hzB182_3 hAB182_3=>?_)
 have hM:=hM.plus hAB182_3
 replace hM:MemL _ (pt b_B182_3 (LVal.enc x1) 46 :: rowL 0 s1 5 x0 :: Lr):=hM
 intro a hF
 refine s_val hF (r_assign hF rfl rfl) rfl rfl rfl fun a hF=>?_
 refine c_nil (n_then ?_)
 refine c_seq ?_
 refine c_region ?_
 refine s_val hF (r_move hF rfl rfl) rfl rfl rfl fun a hF=>?_
 refine s_val hF (r_fieldAddr (off':=0) Tryz.underlying46 rfl in3 rfl hF rfl rfl rfl) rfl rfl rfl fun a hF=>?_
 refine s_val hF (r_load1 Tryz.isAgg3 hF rfl rfl (hM.cell (i:=0) rfl (LVal.g_kind _))) rfl rfl rfl fun a hF=>?_
 refine s_val hF (r_convB Tryz.underlying3 Tryz.underlying5 hF rfl rfl) rfl rfl rfl fun a hF=>?_
 refine s_eff hF rfl rfl rfl (w_slice1 (X:=UInt8) (y:=(Fw.byteOf x1.kind)) Tryz.underlying23 in5 rfl rfl rfl rfl hF rfl rfl rfl fun b_B182_9 w hzB182_9 hAB182_9=>?_)
 have hM:=hM.plus hAB182_9
 replace hM:MemL _ (pt b_B182_9 (encs ([(Fw.byteOf x1.kind)]:List UInt8)) 5 :: pt b_B182_3 (LVal.enc x1) 46 :: rowL 0 s1 5 x0 :: Lr):=hM
 intro a hF
 obtain ⟨x38,hx38,hP⟩:=bind_some hP
 refine s_eff hF rfl rfl rfl (w_appX (X:=UInt8) hx38 Tryz.underlying23 in5 rfl rfl rfl rfl hF rfl rfl rfl (hM.own (X:=UInt8) (i:=2) rfl) (hM.ptS (X:=UInt8) (i:=0) (n:=1) (c:=1) rfl rfl rfl (Nat.le_refl _)) fun s37 w hUs37=>?_)
 have hM:=hM.chg hUs37 (i:=2) rfl
 replace hM:MemL _ (pt b_B182_9 (encs ([(Fw.byteOf x1.kind)]:List UInt8)) 5 :: pt b_B182_3 (LVal.enc x1) 46 :: rowL 0 s37 5 x38 :: Lr):=hM
 intro a hF
 refine s_val hF (r_assign hF rfl rfl) rfl rfl rfl fun a hF=>?_
 refine c_nil (n_then ?_)
 refine c_seq ?_
 refine c_joinX hF hM hP (fun F x a w=>match x with | v45=>∃ (s46:SV),Fr 31 [(0,(s46).v),(3,.pointer (some ⟨b_B182_3,0,none⟩)),(4,(SV.nil).v)] a ∧ MemL w (rowL 0 s46 5 v45 :: pt b_B182_3 (LVal.enc x1) 46 :: Lr)) (fun o_j1 hP hK_j1 hF hM=>?_) ?_
 ·refine c_seq ?_
  refine c_region ?_
  refine s_val hF (r_fieldAddr (off':=0) Tryz.underlying46 rfl in3 rfl hF rfl rfl rfl) rfl rfl rfl fun a hF=>?_
  refine s_val hF (r_load1 Tryz.isAgg3 hF rfl rfl (hM.cell (i:=1) rfl (LVal.g_kind _))) rfl rfl rfl fun a hF=>?_
  refine s_val hF (r_eql hF rfl rfl rfl) rfl rfl rfl fun a hF=>?_
  refine c_nil (n_then ?_)
  refine c_cond hF (c:=.tmp 13) rfl (fun hb48=>?_) (fun hb48=>?_)
  ·have hP:=Fx.cT hb48 hP
   refine c_region ?_
   refine s_val hF (r_move hF rfl rfl) rfl rfl rfl fun a hF=>?_
   refine s_val hF (r_fieldAddr (off':=1) Tryz.underlying46 rfl in3 rfl hF rfl rfl rfl) rfl rfl rfl fun a hF=>?_
   refine s_val hF (r_load1 Tryz.isAgg3 hF rfl rfl (hM.cell (i:=1) rfl (LVal.g_table _))) rfl rfl rfl fun a hF=>?_
   refine s_val hF (r_convB Tryz.underlying3 Tryz.underlying5 hF rfl rfl) rfl rfl rfl fun a hF=>?_
   refine s_val hF (r_fieldAddr (off':=2) Tryz.underlying46 rfl in3 rfl hF rfl rfl rfl) rfl rfl rfl fun a hF=>?_
   refine s_val hF (r_load1 Tryz.isAgg3 hF rfl rfl (hM.cell (i:=1) rfl (LVal.g_row _))) rfl rfl rfl fun a hF=>?_
   refine s_val hF (r_convB Tryz.underlying3 Tryz.underlying5 hF rfl rfl) rfl rfl rfl fun a hF=>?_
   refine s_eff hF rfl rfl rfl (w_sliceN (X:=UInt8) (ys:=[(Fw.byteOf x1.table),(Fw.byteOf x1.row)]) (m:=2) Tryz.underlying23 in5 rfl rfl rfl rfl (by decide) (by decide) hF rfl rfl (PartsE.cons rfl (PartsE.cons rfl PartsE.nil)) fun b_B182_21 w hzB182_21 hAB182_21=>?_)
   have hM:=hM.plus hAB182_21
   replace hM:MemL _ (pt b_B182_21 (encs ([(Fw.byteOf x1.table),(Fw.byteOf x1.row)]:List UInt8)) 5 :: pt b_B182_9 (encs ([(Fw.byteOf x1.kind)]:List UInt8)) 5 :: pt b_B182_3 (LVal.enc x1) 46 :: rowL 0 s37 5 x38 :: Lr):=hM
   intro a hF
   obtain ⟨x50,hx50,hP⟩:=bind_some hP
   refine s_eff hF rfl rfl rfl (w_appX (X:=UInt8) hx50 Tryz.underlying23 in5 rfl rfl rfl rfl hF rfl rfl rfl (hM.own (X:=UInt8) (i:=3) rfl) (hM.ptS (X:=UInt8) (i:=0) (n:=2) (c:=2) rfl rfl rfl (Nat.le_refl _)) fun s49 w hUs49=>?_)
   have hM:=hM.chg hUs49 (i:=3) rfl
   replace hM:MemL _ (pt b_B182_21 (encs ([(Fw.byteOf x1.table),(Fw.byteOf x1.row)]:List UInt8)) 5 :: pt b_B182_9 (encs ([(Fw.byteOf x1.kind)]:List UInt8)) 5 :: pt b_B182_3 (LVal.enc x1) 46 :: rowL 0 s49 5 x50 :: Lr):=hM
   intro a hF
   refine s_val hF (r_assign hF rfl rfl) rfl rfl rfl fun a hF=>?_
   refine c_nil (n_then ?_)
   have hP:=Option.some.inj hP
   subst hP
   exact ⟨x50,rfl,s49,hF.to ⟨rfl,rfl,rfl,trivial⟩,selM hM [3,2] 4 rfl⟩
  have hP:=Fx.cF hb48 hP
  refine c_skip (n_then ?_)
  have hP:=Option.some.inj hP
  subst hP
  exact ⟨x38,rfl,s37,hF.to ⟨rfl,rfl,rfl,trivial⟩,selM hM [2,1] 3 rfl⟩
 rintro v45 a w hP ⟨s46,hF,hM⟩
 replace hP:Sh.ref23_value2_j1 x1 v45 = _:=hP
 unfold Sh.ref23_value2_j1 at hP
 refine n_then ?_
 refine c_seq ?_
 refine c_joinX hF hM hP (fun F x a w=>match x with | v61=>∃ (s62:SV),Fr 31 [(0,(s62).v),(4,(SV.nil).v)] a ∧ MemL w (rowL 0 s62 5 v61 :: Lr)) (fun o_j2 hP hK_j2 hF hM=>?_) ?_
 ·refine c_seq ?_
  refine c_region ?_
  refine s_val hF (r_fieldAddr (off':=0) Tryz.underlying46 rfl in3 rfl hF rfl rfl rfl) rfl rfl rfl fun a hF=>?_
  refine s_val hF (r_load1 Tryz.isAgg3 hF rfl rfl (hM.cell (i:=1) rfl (LVal.g_kind _))) rfl rfl rfl fun a hF=>?_
  refine s_val hF (r_neq hF rfl rfl rfl) rfl rfl rfl fun a hF=>?_
  refine c_nil (n_then ?_)
  refine c_cond hF (c:=.tmp 25) rfl (fun hb64=>?_) (fun hb64=>?_)
  ·have hP:=Fx.cT hb64 hP
   refine c_region ?_
   refine s_val hF (r_move hF rfl rfl) rfl rfl rfl fun a hF=>?_
   refine s_val hF (r_fieldAddr (off':=3) Tryz.underlying46 rfl in3 rfl hF rfl rfl rfl) rfl rfl rfl fun a hF=>?_
   refine s_val hF (r_load1 Tryz.isAgg3 hF rfl rfl (hM.cell (i:=1) rfl (LVal.g_x _))) rfl rfl rfl fun a hF=>?_
   obtain ⟨y66,hy66,hP⟩:=bind_some hP
   refine s_eff hF rfl rfl rfl (w_call (xs:=[.tmp 26,.tmp 28,.const (.int .i64 (8))]) Tryz.call108 hF rfl rfl (ref23_low_calls hy66 hM ) fun v w hR=>?_)
   obtain ⟨s67,rfl,hM⟩:=hR
   replace hM:MemL _ (rowL 0 s67 5 y66 :: pt b_B182_3 (LVal.enc x1) 46 :: Lr):=hM
   intro a hF
   refine s_val hF (r_assign hF rfl rfl) rfl rfl rfl fun a hF=>?_
   refine c_nil (n_then ?_)
   have hP:=Option.some.inj hP
   subst hP
   exact ⟨y66,rfl,s67,hF.to ⟨rfl,rfl,trivial⟩,selM hM [0] 2 rfl⟩
  have hP:=Fx.cF hb64 hP
  refine c_skip (n_then ?_)
  have hP:=Option.some.inj hP
  subst hP
  exact ⟨v45,rfl,s46,hF.to ⟨rfl,rfl,trivial⟩,selM hM [0] 2 rfl⟩
 rintro v61 a w hP ⟨s62,hF,hM⟩
 replace hP:Sh.ref23_value2_j2 v61 = _:=hP
 unfold Sh.ref23_value2_j2 at hP
 refine n_then ?_
 refine c_seq ?_
 refine c_region ?_
 refine s_val hF (r_move hF rfl rfl) rfl rfl rfl fun a hF=>?_
 refine s_val hF (r_assign hF rfl rfl) rfl rfl rfl fun a hF=>?_
 refine c_nil (n_then ?_)
 refine c_ret ?_
 have hP:=Option.some.inj hP
 subst hP
 refine e_ret1 Tryz.results182 hF rfl ?_
 exact ⟨s62,rfl,hM⟩
set_option maxHeartbeats 4000000 in
theorem ref23_slot2_calls {x0:List UInt8} {x1:LSlot} {s1:SV} {out:List UInt8} {w0:World} {Lr:List Res} (hP:Sh.ref23_slot2 x0 x1 = some out) (hM:MemL w0 (rowL 0 s1 5 x0 :: Lr)):Calls Tryz.prog 183 #[(s1).v,.agg (LSlot.enc x1).toArray] w0 (Ret fun v w'=>∃ (s213:SV),v = (s213).v ∧ MemL w' (rowL 0 s213 5 out :: Lr)):=by
 unfold Sh.ref23_slot2 at hP
 refine calls_enter (vs:=[(s1).v,.agg (LSlot.enc x1).toArray]) Tryz.func183 rfl Tryz.ntmps183 rfl fun a hF=>?_
 refine c_seq ?_
 refine c_region ?_
 refine s_eff hF rfl rfl rfl (w_box hF rfl rfl rfl fun b_B183_3 w hzB183_3 hAB183_3=>?_)
 have hM:=hM.plus hAB183_3
 replace hM:MemL _ (pt b_B183_3 (LSlot.enc x1) 50 :: rowL 0 s1 5 x0 :: Lr):=hM
 intro a hF
 refine s_val hF (r_assign hF rfl rfl) rfl rfl rfl fun a hF=>?_
 refine c_nil (n_then ?_)
 refine c_seq ?_
 refine c_seq ?_
 refine c_region ?_
 refine s_val hF (r_fieldAddr (off':=0) Tryz.underlying50 rfl in46 rfl hF rfl rfl rfl) rfl rfl rfl fun a hF=>?_
 refine s_val hF (r_fieldAddr (off':=0) Tryz.underlying46 rfl in3 rfl hF rfl rfl rfl) rfl rfl rfl fun a hF=>?_
 refine s_val hF (r_load1 Tryz.isAgg3 hF rfl rfl ((hM.cells (i:=0) rfl (LSlot.c_ptr _)).get 0 (LVal.g_kind _))) rfl rfl rfl fun a hF=>?_
 refine s_val hF (r_neq hF rfl rfl rfl) rfl rfl rfl fun a hF=>?_
 refine c_nil (n_then ?_)
 refine c_cond hF (c:=.tmp 9) rfl (fun hb220=>?_) (fun hb220=>?_)
 ·have hP:=Fx.cT hb220 hP
  refine c_seq ?_
  refine c_region ?_
  refine s_val hF (r_move hF rfl rfl) rfl rfl rfl fun a hF=>?_
  refine s_val hF (r_fieldAddr (off':=0) Tryz.underlying50 rfl in46 rfl hF rfl rfl rfl) rfl rfl rfl fun a hF=>?_
  refine s_val hF (r_loadn Tryz.isAgg46 Tryz.sizeOf46 hF rfl rfl (LVal.len _) (hM.cells (i:=0) rfl (LSlot.c_ptr _))) rfl rfl rfl fun a hF=>?_
  obtain ⟨y222,hy222,hP⟩:=bind_some hP
  refine s_eff hF rfl rfl rfl (w_call (xs:=[.tmp 10,.tmp 12]) Tryz.call182 hF rfl rfl (ref23_value2_calls hy222 (selM hM [1,0] 2 rfl) ) fun v w hR=>?_)
  obtain ⟨s223,rfl,hM⟩:=hR
  replace hM:MemL _ (rowL 0 s223 5 y222 :: pt b_B183_3 (LSlot.enc x1) 50 :: Lr):=hM
  intro a hF
  refine s_val hF (r_assign hF rfl rfl) rfl rfl rfl fun a hF=>?_
  refine c_nil (n_then ?_)
  refine c_ret ?_
  have hP:=Option.some.inj hP
  subst hP
  refine e_ret1 Tryz.results183 hF rfl ?_
  exact ⟨s223,rfl,selM hM [0] 2 rfl⟩
 have hP:=Fx.cF hb220 hP
 refine c_skip (n_then ?_)
 refine c_seq ?_
 refine c_region ?_
 refine s_val hF (r_move hF rfl rfl) rfl rfl rfl fun a hF=>?_
 refine s_val hF (r_fieldAddr (off':=12) Tryz.underlying50 rfl in3 rfl hF rfl rfl rfl) rfl rfl rfl fun a hF=>?_
 refine s_val hF (r_load1 Tryz.isAgg3 hF rfl rfl (hM.cell (i:=0) rfl (LSlot.g_mask _))) rfl rfl rfl fun a hF=>?_
 refine s_val hF (r_convB Tryz.underlying3 Tryz.underlying5 hF rfl rfl) rfl rfl rfl fun a hF=>?_
 refine s_eff hF rfl rfl rfl (w_sliceN (X:=UInt8) (ys:=[0,(Fw.byteOf x1.mask)]) (m:=2) Tryz.underlying23 in5 rfl rfl rfl rfl (by decide) (by decide) hF rfl rfl (PartsE.cons rfl (PartsE.cons rfl PartsE.nil)) fun b_B183_18 w hzB183_18 hAB183_18=>?_)
 have hM:=hM.plus hAB183_18
 replace hM:MemL _ (pt b_B183_18 (encs ([0,(Fw.byteOf x1.mask)]:List UInt8)) 5 :: pt b_B183_3 (LSlot.enc x1) 50 :: rowL 0 s1 5 x0 :: Lr):=hM
 intro a hF
 obtain ⟨x226,hx226,hP⟩:=bind_some hP
 refine s_eff hF rfl rfl rfl (w_appX (X:=UInt8) hx226 Tryz.underlying23 in5 rfl rfl rfl rfl hF rfl rfl rfl (hM.own (X:=UInt8) (i:=2) rfl) (hM.ptS (X:=UInt8) (i:=0) (n:=2) (c:=2) rfl rfl rfl (Nat.le_refl _)) fun s225 w hUs225=>?_)
 have hM:=hM.chg hUs225 (i:=2) rfl
 replace hM:MemL _ (pt b_B183_18 (encs ([0,(Fw.byteOf x1.mask)]:List UInt8)) 5 :: pt b_B183_3 (LSlot.enc x1) 50 :: rowL 0 s225 5 x226 :: Lr):=hM
 intro a hF
 refine s_val hF (r_assign hF rfl rfl) rfl rfl rfl fun a hF=>?_
 refine c_nil (n_then ?_)
 refine c_seq ?_
 refine c_joinX hF hM hP (fun F x a w=>match x with | v357=>∃ (s358:SV),Fr 38 [(0,(s358).v),(4,(SV.nil).v)] a ∧ MemL w (rowL 0 s358 5 v357 :: Lr)) (fun o_j1 hP hK_j1 hF hM=>?_) ?_
 ·refine c_seq ?_
  refine c_region ?_
  refine s_val hF (r_assign hF rfl rfl) rfl rfl rfl fun a hF=>?_
  refine c_nil (n_then ?_)
  refine c_block ?_
  refine c_loopX hF hM hP (fun F x a w=>match x with | (v401,v404)=>∃ (s402:SV),Fr 38 [(0,(s402).v),(5,.int .i64 v404),(3,.pointer (some ⟨b_B183_3,0,none⟩)),(4,(SV.nil).v)] a ∧ MemL w (rowL 0 s402 5 v401 :: pt b_B183_3 (LSlot.enc x1) 50 :: Lr)) (fun hF hM=>⟨s225,hF.to ⟨rfl,rfl,rfl,rfl,trivial⟩,selM hM [2,1] 3 rfl⟩) ?_
  rintro ⟨v401,v404⟩ a w o_l2 hP hK_l2 ⟨s402,hF,hM⟩
  replace hP:Sh.ref23_slot2_l2 x1 v401 v404 = _:=hP
  unfold Sh.ref23_slot2_l2 at hP
  refine c_seq ?_
  refine c_seq ?_
  refine c_region ?_
  refine s_val hF (r_move hF rfl rfl) rfl rfl rfl fun a hF=>?_
  refine s_val hF (r_lss hF rfl rfl rfl) rfl rfl rfl fun a hF=>?_
  refine c_nil (n_then ?_)
  refine c_cond hF (c:=.tmp 21) rfl (fun hb406=>?_) (fun hb406=>?_)
  ·have hP:=Fx.cT hb406 hP
   refine c_skip (n_then ?_)
   refine c_seq ?_
   refine c_joinX hF hM hP (fun F x a w=>match x with | v417=>∃ (s418:SV),Fr 38 [(0,(s418).v),(3,.pointer (some ⟨b_B183_3,0,none⟩)),(4,(SV.nil).v),(5,.int .i64 v404)] a ∧ MemL w (rowL 0 s418 5 v417 :: pt b_B183_3 (LSlot.enc x1) 50 :: Lr)) (fun o_j3 hP hK_j3 hF hM=>?_) ?_
   ·refine c_block ?_
    refine c_seq ?_
    refine c_region ?_
    refine s_val hF (r_fieldAddr (off':=12) Tryz.underlying50 rfl in3 rfl hF rfl rfl rfl) rfl rfl rfl fun a hF=>?_
    refine s_val hF (r_load1 Tryz.isAgg3 hF rfl rfl (hM.cell (i:=1) rfl (LSlot.g_mask _))) rfl rfl rfl fun a hF=>?_
    refine s_val hF (r_move hF rfl rfl) rfl rfl rfl fun a hF=>?_
    obtain ⟨hc420,hP⟩:=must_some hP
    refine s_val hF (r_shr hF rfl rfl rfl (of_decide_eq_true hc420)) rfl rfl rfl fun a hF=>?_
    refine s_val hF (r_and hF rfl rfl rfl) rfl rfl rfl fun a hF=>?_
    refine s_val hF (r_eql hF rfl rfl rfl) rfl rfl rfl fun a hF=>?_
    refine c_nil (n_then ?_)
    refine c_cond hF (c:=.tmp 29) rfl (fun hb421=>?_) (fun hb421=>?_)
    ·have hP:=Fx.cT hb421 hP
     refine c_region ?_
     refine s_val hF (r_move hF rfl rfl) rfl rfl rfl fun a hF=>?_
     refine s_val hF (r_move hF rfl rfl) rfl rfl rfl fun a hF=>?_
     refine s_val hF (r_fieldAddr (off':=4) Tryz.underlying50 rfl in48 rfl hF rfl rfl rfl) rfl rfl rfl fun a hF=>?_
     obtain ⟨x422,hx422,hP⟩:=bind_some hP
     have h0x422:=get_some hx422
     refine s_val hF (r_indexAddrA (sz:=1) Tryz.underlying48 in5 rfl hF rfl rfl rfl (get_bdv hx422)) rfl rfl rfl fun a hF=>?_
     refine s_val hF (r_load1 Tryz.isAgg5 hF rfl rfl ((hM.cells (i:=1) rfl (LSlot.ci_bytes _ _ _ (get_some hx422).2)).get 0 rfl)) rfl rfl rfl fun a hF=>?_
     refine s_eff hF rfl rfl rfl (w_slice1 (X:=UInt8) (y:=x422) Tryz.underlying23 in5 rfl rfl rfl rfl hF rfl rfl rfl fun b_B183_35 w hzB183_35 hAB183_35=>?_)
     have hM:=hM.plus hAB183_35
     replace hM:MemL _ (pt b_B183_35 (encs ([x422]:List UInt8)) 5 :: rowL 0 s402 5 v401 :: pt b_B183_3 (LSlot.enc x1) 50 :: Lr):=hM
     intro a hF
     obtain ⟨x424,hx424,hP⟩:=bind_some hP
     refine s_eff hF rfl rfl rfl (w_appX (X:=UInt8) hx424 Tryz.underlying23 in5 rfl rfl rfl rfl hF rfl rfl rfl (hM.own (X:=UInt8) (i:=1) rfl) (hM.ptS (X:=UInt8) (i:=0) (n:=1) (c:=1) rfl rfl rfl (Nat.le_refl _)) fun s423 w hUs423=>?_)
     have hM:=hM.chg hUs423 (i:=1) rfl
     replace hM:MemL _ (pt b_B183_35 (encs ([x422]:List UInt8)) 5 :: rowL 0 s423 5 x424 :: pt b_B183_3 (LSlot.enc x1) 50 :: Lr):=hM
     intro a hF
     refine s_val hF (r_assign hF rfl rfl) rfl rfl rfl fun a hF=>?_
     refine c_nil (n_block (n_then ?_))
     have hP:=Option.some.inj hP
     subst hP
     exact ⟨x424,rfl,s423,hF.to ⟨rfl,rfl,rfl,rfl,trivial⟩,selM hM [1,2] 3 rfl⟩
    have hP:=Fx.cF hb421 hP
    refine c_skip (n_block (n_then ?_))
    have hP:=Option.some.inj hP
    subst hP
    exact ⟨v401,rfl,s402,hF.to ⟨rfl,rfl,rfl,rfl,trivial⟩,hM⟩
   rintro v417 a w hP ⟨s418,hF,hM⟩
   replace hP:Sh.ref23_slot2_j3 v404 v417 = _:=hP
   unfold Sh.ref23_slot2_j3 at hP
   refine n_then ?_
   refine c_region ?_
   refine s_val hF (r_move hF rfl rfl) rfl rfl rfl fun a hF=>?_
   refine s_val hF (r_add hF rfl rfl rfl) rfl rfl rfl fun a hF=>?_
   refine s_val hF (r_assign hF rfl rfl) rfl rfl rfl fun a hF=>?_
   refine c_nil (n_then ?_)
   have hP:=Option.some.inj hP
   subst hP
   exact ⟨(v417,(IntKind.i64.wrap (v404 + 1))),rfl,s418,hF.to ⟨rfl,rfl,rfl,rfl,trivial⟩,hM⟩
  have hP:=Fx.cF hb406 hP
  refine c_exit (x_then (x_then (x_hit ?_)))
  refine n_then ?_
  have hP:=Option.some.inj hP
  subst hP
  have hP:=hK_l2 _ rfl
  subst hP
  exact ⟨v401,rfl,s402,hF.to ⟨rfl,rfl,trivial⟩,selM hM [0] 2 rfl⟩
 rintro v357 a w hP ⟨s358,hF,hM⟩
 replace hP:Sh.ref23_slot2_j1 v357 = _:=hP
 unfold Sh.ref23_slot2_j1 at hP
 refine n_then ?_
 refine c_seq ?_
 refine c_region ?_
 refine s_val hF (r_move hF rfl rfl) rfl rfl rfl fun a hF=>?_
 refine s_val hF (r_assign hF rfl rfl) rfl rfl rfl fun a hF=>?_
 refine c_nil (n_then ?_)
 refine c_ret ?_
 have hP:=Option.some.inj hP
 subst hP
 refine e_ret1 Tryz.results183 hF rfl ?_
 exact ⟨s358,rfl,hM⟩
set_option maxHeartbeats 4000000 in
theorem ref23_mark_calls {x0:List UInt8} {x1:QMark} {s1:SV} {s3:SV} {s5:SV} {s7:SV} {hs8:List RPiece} {s11:SV} {out:List UInt8} {w0:World} {Bf:World → Prop} {Lr:List Res} (hP:Sh.ref23_mark x0 x1 = some out) (hM:MemL w0 (rowL 0 s1 5 x0 :: Lr)) (hsub:∀ w,MemL w Lr → Bf w) (f4:LIn Bf s3 x1.regs) (f6:LIn Bf s5 x1.slots) (f9:LIn Bf s7 hs8) (q10:Each (QPieceIn Bf) hs8 x1.pieces) (f12:LIn Bf s11 x1.sent):Calls Tryz.prog 109 #[(s1).v,.agg (RMark.enc (RMark.mk x1.at_ x1.next x1.done s3 s5 s7 s11)).toArray] w0 (Ret fun v w'=>∃ (s1285:SV),v = (s1285).v ∧ MemL w' (rowL 0 s1285 5 out :: Lr)):=by
 unfold Sh.ref23_mark at hP
 refine calls_enter (vs:=[(s1).v,.agg (RMark.enc (RMark.mk x1.at_ x1.next x1.done s3 s5 s7 s11)).toArray]) Tryz.func109 rfl Tryz.ntmps109 rfl fun a hF=>?_
 refine c_seq ?_
 refine c_region ?_
 refine s_eff hF rfl rfl rfl (w_box hF rfl rfl rfl fun b_B109_3 w hzB109_3 hAB109_3=>?_)
 have hM:=hM.plus hAB109_3
 replace hM:MemL _ (pt b_B109_3 (RMark.enc (RMark.mk x1.at_ x1.next x1.done s3 s5 s7 s11)) 60 :: rowL 0 s1 5 x0 :: Lr):=hM
 intro a hF
 refine s_val hF (r_assign hF rfl rfl) rfl rfl rfl fun a hF=>?_
 refine c_nil (n_then ?_)
 refine c_seq ?_
 refine d_startT mixed (by kernel_rfl) hM [0] 2 rfl fun hch=>?_
 refine d_val hF hch 0 rfl (by kernel_rfl) rfl rfl rfl (fun w hM=>(r_move hF rfl rfl)) fun a hF=>?_
 refine d_val hF hch 1 rfl (by kernel_rfl) rfl rfl rfl (fun w hM=>(r_fieldAddr (off':=0) Tryz.underlying60 rfl in3 rfl hF rfl rfl rfl)) fun a hF=>?_
 refine d_val hF hch 2 rfl (by kernel_rfl) rfl rfl rfl (fun w hM=>(r_load1 Tryz.isAgg3 hF rfl rfl (hM.cell (i:=0) rfl (RMark.g_at_ _)))) fun a hF=>?_
 refine d_val hF hch 4 rfl (by kernel_rfl) rfl rfl rfl (fun w hM=>(r_fieldAddr (off':=1) Tryz.underlying60 rfl in3 rfl hF rfl rfl rfl)) fun a hF=>?_
 refine d_val hF hch 5 rfl (by kernel_rfl) rfl rfl rfl (fun w hM=>(r_load1 Tryz.isAgg3 hF rfl rfl (hM.cell (i:=0) rfl (RMark.g_next _)))) fun a hF=>?_
 refine d_one hch 3 (by kernel_rfl) rfl rfl ?_
 refine d_ex hF 3 rfl rfl rfl rfl rfl fun w hMs hM=>?_
 obtain ⟨y1296,hy1296,hP⟩:=bind_some hP
 refine (w_call (xs:=[.tmp 11,.tmp 13,.const (.int .i64 (2))]) Tryz.call108 hF rfl rfl (ref23_low_calls hy1296 (selM hM [1,0] 2 rfl) ) fun v w hR=>?_)
 obtain ⟨s1297,rfl,hM⟩:=hR
 replace hM:MemL _ (rowL 0 s1297 5 y1296 :: pt b_B109_3 (RMark.enc (RMark.mk x1.at_ x1.next x1.done s3 s5 s7 s11)) 60 :: Lr):=hM
 have hMs:=selM hM [0,1] 2 rfl
 refine ⟨_,_,hMs,hM,.inl fun _ h=>dropM h 1,fun a hF=>?_⟩
 refine d_one hch 6 (by kernel_rfl) rfl rfl ?_
 refine d_ex hF 6 rfl rfl rfl rfl rfl fun w hMs hM=>?_
 obtain ⟨y1300,hy1300,hP⟩:=bind_some hP
 refine (w_call (xs:=[.tmp 14,.tmp 16,.const (.int .i64 (2))]) Tryz.call108 hF rfl rfl (ref23_low_calls hy1300 hM ) fun v w hR=>?_)
 obtain ⟨s1301,rfl,hM⟩:=hR
 replace hM:MemL _ (rowL 0 s1301 5 y1300 :: pt b_B109_3 (RMark.enc (RMark.mk x1.at_ x1.next x1.done s3 s5 s7 s11)) 60 :: Lr):=hM
 have hMs:=hM
 refine ⟨_,_,hMs,hM,.inr (by kernel_rfl),fun a hF=>?_⟩
 refine d_one hch 7 (by kernel_rfl) rfl rfl ?_
 refine d_ex hF 7 rfl rfl rfl rfl rfl fun w hMs hM=>Yd.val (r_assign hF rfl rfl) ?_
 refine ⟨_,_,hMs,hM,.inl fun _ h=>h,fun a hF=>?_⟩
 refine d_end hch (by kernel_rfl) fun w hM=>?_
 refine n_then ?_
 refine c_seq ?_
 refine c_region ?_
 refine s_val hF (r_assign hF rfl rfl) rfl rfl rfl fun a hF=>?_
 refine c_nil (n_then ?_)
 refine c_seq ?_
 refine c_joinX hF hM hP (fun F x a w=>match x with | v1305=>Fr 162 [(5,.int .i64 v1305),(0,(s1301).v),(3,.pointer (some ⟨b_B109_3,0,none⟩)),(4,(SV.nil).v)] a ∧ MemL w (pt b_B109_3 (RMark.enc (RMark.mk x1.at_ x1.next x1.done s3 s5 s7 s11)) 60 :: rowL 0 s1301 5 y1300 :: Lr)) (fun o_j1 hP hK_j1 hF hM=>?_) ?_
 ·refine c_seq ?_
  refine c_region ?_
  refine s_val hF (r_fieldAddr (off':=2) Tryz.underlying60 rfl in4 rfl hF rfl rfl rfl) rfl rfl rfl fun a hF=>?_
  refine s_val hF (r_load1 Tryz.isAgg4 hF rfl rfl (hM.cell (i:=1) rfl (RMark.g_done _))) rfl rfl rfl fun a hF=>?_
  refine c_nil (n_then ?_)
  refine c_cond hF (c:=.tmp 19) rfl (fun hb1306=>?_) (fun hb1306=>?_)
  ·have hP:=Fx.cT hb1306 hP
   refine c_region ?_
   refine s_val hF (r_assign hF rfl rfl) rfl rfl rfl fun a hF=>?_
   refine c_nil (n_then ?_)
   have hP:=Option.some.inj hP
   subst hP
   exact ⟨1,rfl,hF.to ⟨rfl,rfl,rfl,rfl,trivial⟩,selM hM [1,0] 2 rfl⟩
  have hP:=Fx.cF hb1306 hP
  refine c_skip (n_then ?_)
  have hP:=Option.some.inj hP
  subst hP
  exact ⟨0,rfl,hF.to ⟨rfl,rfl,rfl,rfl,trivial⟩,selM hM [1,0] 2 rfl⟩
 rintro v1305 a w hP ⟨hF,hM⟩
 replace hP:Sh.ref23_mark_j1 x1 y1300 v1305 = _:=hP
 unfold Sh.ref23_mark_j1 at hP
 refine n_then ?_
 refine c_seq ?_
 refine c_region ?_
 refine s_val hF (r_move hF rfl rfl) rfl rfl rfl fun a hF=>?_
 refine s_val hF (r_move hF rfl rfl) rfl rfl rfl fun a hF=>?_
 refine s_val hF (r_convB Tryz.underlying3 Tryz.underlying5 hF rfl rfl) rfl rfl rfl fun a hF=>?_
 refine s_val hF (r_fieldAddr (off':=3) Tryz.underlying60 rfl in56 rfl hF rfl rfl rfl) rfl rfl rfl fun a hF=>?_
 refine s_val hF (r_load1 Tryz.isAgg56 hF rfl rfl (hM.cell (i:=0) rfl (RMark.g_regs _))) rfl rfl rfl fun a hF=>?_
 refine s_val hF (r_lenL (f4 _ (hsub _ (dropM hM 2))) Tryz.underlying56 hF rfl rfl) rfl rfl rfl fun a hF=>?_
 refine s_val hF (r_convB Tryz.underlying3 Tryz.underlying5 hF rfl rfl) rfl rfl rfl fun a hF=>?_
 refine s_eff hF rfl rfl rfl (w_sliceN (X:=UInt8) (ys:=[(Fw.byteOf v1305),(Fw.byteOf (x1.regs.length:Int))]) (m:=2) Tryz.underlying23 in5 rfl rfl rfl rfl (by decide) (by decide) hF rfl rfl (PartsE.cons rfl (PartsE.cons rfl PartsE.nil)) fun b_B109_27 w hzB109_27 hAB109_27=>?_)
 have hM:=hM.plus hAB109_27
 replace hM:MemL _ (pt b_B109_27 (encs ([(Fw.byteOf v1305),(Fw.byteOf (x1.regs.length:Int))]:List UInt8)) 5 :: pt b_B109_3 (RMark.enc (RMark.mk x1.at_ x1.next x1.done s3 s5 s7 s11)) 60 :: rowL 0 s1301 5 y1300 :: Lr):=hM
 intro a hF
 obtain ⟨x1308,hx1308,hP⟩:=bind_some hP
 refine s_eff hF rfl rfl rfl (w_appX (X:=UInt8) hx1308 Tryz.underlying23 in5 rfl rfl rfl rfl hF rfl rfl rfl (hM.own (X:=UInt8) (i:=2) rfl) (hM.ptS (X:=UInt8) (i:=0) (n:=2) (c:=2) rfl rfl rfl (Nat.le_refl _)) fun s1307 w hUs1307=>?_)
 have hM:=hM.chg hUs1307 (i:=2) rfl
 replace hM:MemL _ (pt b_B109_27 (encs ([(Fw.byteOf v1305),(Fw.byteOf (x1.regs.length:Int))]:List UInt8)) 5 :: pt b_B109_3 (RMark.enc (RMark.mk x1.at_ x1.next x1.done s3 s5 s7 s11)) 60 :: rowL 0 s1307 5 x1308 :: Lr):=hM
 intro a hF
 refine s_val hF (r_assign hF rfl rfl) rfl rfl rfl fun a hF=>?_
 refine c_nil (n_then ?_)
 refine c_seq ?_
 refine c_joinX hF hM hP (fun F x a w=>match x with | v1493=>∃ (s1494:SV),Fr 162 [(0,(s1494).v),(3,.pointer (some ⟨b_B109_3,0,none⟩)),(4,(SV.nil).v)] a ∧ MemL w (rowL 0 s1494 5 v1493 :: pt b_B109_3 (RMark.enc (RMark.mk x1.at_ x1.next x1.done s3 s5 s7 s11)) 60 :: Lr)) (fun o_j2 hP hK_j2 hF hM=>?_) ?_
 ·refine c_seq ?_
  refine c_region ?_
  refine s_val hF (r_assign hF rfl rfl) rfl rfl rfl fun a hF=>?_
  refine c_nil (n_then ?_)
  refine c_block ?_
  refine c_loopX hF hM hP (fun F x a w=>match x with | (v1556,v1559)=>∃ (s1557:SV),Fr 162 [(0,(s1557).v),(6,.int .i64 v1559),(3,.pointer (some ⟨b_B109_3,0,none⟩)),(4,(SV.nil).v)] a ∧ MemL w (rowL 0 s1557 5 v1556 :: pt b_B109_3 (RMark.enc (RMark.mk x1.at_ x1.next x1.done s3 s5 s7 s11)) 60 :: Lr)) (fun hF hM=>⟨s1307,hF.to ⟨rfl,rfl,rfl,rfl,trivial⟩,selM hM [2,1] 3 rfl⟩) ?_
  rintro ⟨v1556,v1559⟩ a w o_l3 hP hK_l3 ⟨s1557,hF,hM⟩
  replace hP:Sh.ref23_mark_l3 x1 v1556 v1559 = _:=hP
  unfold Sh.ref23_mark_l3 at hP
  refine c_seq ?_
  refine c_seq ?_
  refine c_region ?_
  refine s_val hF (r_move hF rfl rfl) rfl rfl rfl fun a hF=>?_
  refine s_val hF (r_fieldAddr (off':=3) Tryz.underlying60 rfl in56 rfl hF rfl rfl rfl) rfl rfl rfl fun a hF=>?_
  refine s_val hF (r_load1 Tryz.isAgg56 hF rfl rfl (hM.cell (i:=1) rfl (RMark.g_regs _))) rfl rfl rfl fun a hF=>?_
  refine s_val hF (r_lenL (f4 _ (hsub _ (dropM hM 2))) Tryz.underlying56 hF rfl rfl) rfl rfl rfl fun a hF=>?_
  refine s_val hF (r_lss hF rfl rfl rfl) rfl rfl rfl fun a hF=>?_
  refine c_nil (n_then ?_)
  refine c_cond hF (c:=.tmp 33) rfl (fun hb1561=>?_) (fun hb1561=>?_)
  ·have hP:=Fx.cT hb1561 hP
   refine c_skip (n_then ?_)
   refine c_seq ?_
   refine c_block ?_
   refine c_seq ?_
   refine c_region ?_
   refine s_val hF (r_move hF rfl rfl) rfl rfl rfl fun a hF=>?_
   refine s_val hF (r_fieldAddr (off':=3) Tryz.underlying60 rfl in56 rfl hF rfl rfl rfl) rfl rfl rfl fun a hF=>?_
   refine s_val hF (r_load1 Tryz.isAgg56 hF rfl rfl (hM.cell (i:=1) rfl (RMark.g_regs _))) rfl rfl rfl fun a hF=>?_
   refine s_val hF (r_move hF rfl rfl) rfl rfl rfl fun a hF=>?_
   obtain ⟨x1575,hx1575,hP⟩:=bind_some hP
   have h0x1575:=get_some hx1575
   refine s_val hF (r_indexZ (sz:=9) (f4 _ (hsub _ (dropM hM 2))) Tryz.underlying56 in128 rfl hF rfl rfl rfl (get_bd hx1575)) rfl rfl rfl fun a hF=>?_
   refine s_val hF (r_fieldAddr Tryz.underlying128 rfl in3 rfl hF rfl rfl rfl) rfl rfl rfl fun a hF=>?_
   refine s_val hF (r_load1 Tryz.isAgg3 hF rfl rfl ((((f4 _ (hsub _ (dropM hM 2))).elemS h0x1575.2)).get 0 (LTurn.g_reg _))) rfl rfl rfl fun a hF=>?_
   refine s_val hF (r_convB Tryz.underlying3 Tryz.underlying5 hF rfl rfl) rfl rfl rfl fun a hF=>?_
   refine s_eff hF rfl rfl rfl (w_slice1 (X:=UInt8) (y:=(Fw.byteOf x1575.reg)) Tryz.underlying23 in5 rfl rfl rfl rfl hF rfl rfl rfl fun b_B109_44 w hzB109_44 hAB109_44=>?_)
   have hM:=hM.plus hAB109_44
   replace hM:MemL _ (pt b_B109_44 (encs ([(Fw.byteOf x1575.reg)]:List UInt8)) 5 :: rowL 0 s1557 5 v1556 :: pt b_B109_3 (RMark.enc (RMark.mk x1.at_ x1.next x1.done s3 s5 s7 s11)) 60 :: Lr):=hM
   intro a hF
   obtain ⟨x1577,hx1577,hP⟩:=bind_some hP
   refine s_eff hF rfl rfl rfl (w_appX (X:=UInt8) hx1577 Tryz.underlying23 in5 rfl rfl rfl rfl hF rfl rfl rfl (hM.own (X:=UInt8) (i:=1) rfl) (hM.ptS (X:=UInt8) (i:=0) (n:=1) (c:=1) rfl rfl rfl (Nat.le_refl _)) fun s1576 w hUs1576=>?_)
   have hM:=hM.chg hUs1576 (i:=1) rfl
   replace hM:MemL _ (pt b_B109_44 (encs ([(Fw.byteOf x1575.reg)]:List UInt8)) 5 :: rowL 0 s1576 5 x1577 :: pt b_B109_3 (RMark.enc (RMark.mk x1.at_ x1.next x1.done s3 s5 s7 s11)) 60 :: Lr):=hM
   intro a hF
   refine s_val hF (r_assign hF rfl rfl) rfl rfl rfl fun a hF=>?_
   refine c_nil (n_then ?_)
   refine d_startT mixed (by kernel_rfl) hM [0,2] 3 rfl fun hch=>?_
   refine d_val hF hch 0 rfl (by kernel_rfl) rfl rfl rfl (fun w hM=>(r_move hF rfl rfl)) fun a hF=>?_
   refine d_val hF hch 1 rfl (by kernel_rfl) rfl rfl rfl (fun w hM=>(r_fieldAddr (off':=3) Tryz.underlying60 rfl in56 rfl hF rfl rfl rfl)) fun a hF=>?_
   refine d_val hF hch 2 rfl (by kernel_rfl) rfl rfl rfl (fun w hM=>(r_load1 Tryz.isAgg56 hF rfl rfl (hM.cell (i:=1) rfl (RMark.g_regs _)))) fun a hF=>?_
   refine d_val hF hch 3 rfl (by kernel_rfl) rfl rfl rfl (fun w hM=>(r_move hF rfl rfl)) fun a hF=>?_
   obtain ⟨x1578,hx1578,hP⟩:=bind_some hP
   have h0x1578:=get_some hx1578
   refine d_val hF hch 4 rfl (by kernel_rfl) rfl rfl rfl (fun w hM=>(r_indexZ (sz:=9) (f4 _ (hsub _ (dropM hM 2))) Tryz.underlying56 in128 rfl hF rfl rfl rfl (get_bd hx1578))) fun a hF=>?_
   refine d_val hF hch 5 rfl (by kernel_rfl) rfl rfl rfl (fun w hM=>(r_fieldAddr Tryz.underlying128 rfl in46 rfl hF rfl rfl rfl)) fun a hF=>?_
   refine d_val hF hch 6 rfl (by kernel_rfl) rfl rfl rfl (fun w hM=>(r_loadn Tryz.isAgg46 Tryz.sizeOf46 hF rfl rfl (LVal.len _) ((((f4 _ (hsub _ (dropM hM 2))).elemS h0x1578.2)).sub 1 4 (LTurn.c_old _)))) fun a hF=>?_
   refine d_val hF hch 8 rfl (by kernel_rfl) rfl rfl rfl (fun w hM=>(r_fieldAddr (off':=3) Tryz.underlying60 rfl in56 rfl hF rfl rfl rfl)) fun a hF=>?_
   refine d_val hF hch 9 rfl (by kernel_rfl) rfl rfl rfl (fun w hM=>(r_load1 Tryz.isAgg56 hF rfl rfl (hM.cell (i:=1) rfl (RMark.g_regs _)))) fun a hF=>?_
   refine d_val hF hch 10 rfl (by kernel_rfl) rfl rfl rfl (fun w hM=>(r_move hF rfl rfl)) fun a hF=>?_
   obtain ⟨x1579,hx1579,hP⟩:=bind_some hP
   have h0x1579:=get_some hx1579
   refine d_val hF hch 11 rfl (by kernel_rfl) rfl rfl rfl (fun w hM=>(r_indexZ (sz:=9) (f4 _ (hsub _ (dropM hM 2))) Tryz.underlying56 in128 rfl hF rfl rfl rfl (get_bd hx1579))) fun a hF=>?_
   refine d_val hF hch 12 rfl (by kernel_rfl) rfl rfl rfl (fun w hM=>(r_fieldAddr Tryz.underlying128 rfl in46 rfl hF rfl rfl rfl)) fun a hF=>?_
   refine d_val hF hch 13 rfl (by kernel_rfl) rfl rfl rfl (fun w hM=>(r_loadn Tryz.isAgg46 Tryz.sizeOf46 hF rfl rfl (LVal.len _) ((((f4 _ (hsub _ (dropM hM 2))).elemS h0x1579.2)).sub 5 4 (LTurn.c_new _)))) fun a hF=>?_
   refine d_one hch 7 (by kernel_rfl) rfl rfl ?_
   refine d_ex hF 7 rfl rfl rfl rfl rfl fun w hMs hM=>?_
   obtain ⟨y1581,hy1581,hP⟩:=bind_some hP
   refine (w_call (xs:=[.tmp 46,.tmp 52]) Tryz.call182 hF rfl rfl (ref23_value2_calls hy1581 (selM hM [1,0,2] 3 rfl) ) fun v w hR=>?_)
   obtain ⟨s1582,rfl,hM⟩:=hR
   replace hM:MemL _ (rowL 0 s1582 5 y1581 :: pt b_B109_44 (encs ([(Fw.byteOf x1575.reg)]:List UInt8)) 5 :: pt b_B109_3 (RMark.enc (RMark.mk x1.at_ x1.next x1.done s3 s5 s7 s11)) 60 :: Lr):=hM
   have hMs:=selM hM [0,1,2] 3 rfl
   refine ⟨_,_,hMs,hM,.inl fun _ h=>dropM h 1,fun a hF=>?_⟩
   refine d_one hch 14 (by kernel_rfl) rfl rfl ?_
   refine d_ex hF 14 rfl rfl rfl rfl rfl fun w hMs hM=>?_
   obtain ⟨y1585,hy1585,hP⟩:=bind_some hP
   refine (w_call (xs:=[.tmp 53,.tmp 59]) Tryz.call182 hF rfl rfl (ref23_value2_calls hy1585 hM ) fun v w hR=>?_)
   obtain ⟨s1586,rfl,hM⟩:=hR
   replace hM:MemL _ (rowL 0 s1586 5 y1585 :: pt b_B109_44 (encs ([(Fw.byteOf x1575.reg)]:List UInt8)) 5 :: pt b_B109_3 (RMark.enc (RMark.mk x1.at_ x1.next x1.done s3 s5 s7 s11)) 60 :: Lr):=hM
   have hMs:=hM
   refine ⟨_,_,hMs,hM,.inr (by kernel_rfl),fun a hF=>?_⟩
   refine d_one hch 15 (by kernel_rfl) rfl rfl ?_
   refine d_ex hF 15 rfl rfl rfl rfl rfl fun w hMs hM=>Yd.val (r_assign hF rfl rfl) ?_
   refine ⟨_,_,hMs,hM,.inl fun _ h=>h,fun a hF=>?_⟩
   refine d_end hch (by kernel_rfl) fun w hM=>?_
   refine n_block (n_then ?_)
   refine c_region ?_
   refine s_val hF (r_move hF rfl rfl) rfl rfl rfl fun a hF=>?_
   refine s_val hF (r_add hF rfl rfl rfl) rfl rfl rfl fun a hF=>?_
   refine s_val hF (r_assign hF rfl rfl) rfl rfl rfl fun a hF=>?_
   refine c_nil (n_then ?_)
   have hP:=Option.some.inj hP
   subst hP
   exact ⟨(y1585,(IntKind.i64.wrap (v1559 + 1))),rfl,s1586,hF.to ⟨rfl,rfl,rfl,rfl,trivial⟩,selM hM [0,2] 3 rfl⟩
  have hP:=Fx.cF hb1561 hP
  refine c_exit (x_then (x_then (x_hit ?_)))
  refine n_then ?_
  have hP:=Option.some.inj hP
  subst hP
  have hP:=hK_l3 _ rfl
  subst hP
  exact ⟨v1556,rfl,s1557,hF.to ⟨rfl,rfl,rfl,trivial⟩,hM⟩
 rintro v1493 a w hP ⟨s1494,hF,hM⟩
 replace hP:Sh.ref23_mark_j2 x1 v1493 = _:=hP
 unfold Sh.ref23_mark_j2 at hP
 refine n_then ?_
 refine c_seq ?_
 refine c_region ?_
 refine s_val hF (r_move hF rfl rfl) rfl rfl rfl fun a hF=>?_
 refine s_val hF (r_fieldAddr (off':=4) Tryz.underlying60 rfl in57 rfl hF rfl rfl rfl) rfl rfl rfl fun a hF=>?_
 refine s_val hF (r_load1 Tryz.isAgg57 hF rfl rfl (hM.cell (i:=1) rfl (RMark.g_slots _))) rfl rfl rfl fun a hF=>?_
 refine s_val hF (r_lenL (f6 _ (hsub _ (dropM hM 2))) Tryz.underlying57 hF rfl rfl) rfl rfl rfl fun a hF=>?_
 refine s_val hF (r_convB Tryz.underlying3 Tryz.underlying5 hF rfl rfl) rfl rfl rfl fun a hF=>?_
 refine s_eff hF rfl rfl rfl (w_slice1 (X:=UInt8) (y:=(Fw.byteOf (x1.slots.length:Int))) Tryz.underlying23 in5 rfl rfl rfl rfl hF rfl rfl rfl fun b_B109_66 w hzB109_66 hAB109_66=>?_)
 have hM:=hM.plus hAB109_66
 replace hM:MemL _ (pt b_B109_66 (encs ([(Fw.byteOf (x1.slots.length:Int))]:List UInt8)) 5 :: rowL 0 s1494 5 v1493 :: pt b_B109_3 (RMark.enc (RMark.mk x1.at_ x1.next x1.done s3 s5 s7 s11)) 60 :: Lr):=hM
 intro a hF
 obtain ⟨x1589,hx1589,hP⟩:=bind_some hP
 refine s_eff hF rfl rfl rfl (w_appX (X:=UInt8) hx1589 Tryz.underlying23 in5 rfl rfl rfl rfl hF rfl rfl rfl (hM.own (X:=UInt8) (i:=1) rfl) (hM.ptS (X:=UInt8) (i:=0) (n:=1) (c:=1) rfl rfl rfl (Nat.le_refl _)) fun s1588 w hUs1588=>?_)
 have hM:=hM.chg hUs1588 (i:=1) rfl
 replace hM:MemL _ (pt b_B109_66 (encs ([(Fw.byteOf (x1.slots.length:Int))]:List UInt8)) 5 :: rowL 0 s1588 5 x1589 :: pt b_B109_3 (RMark.enc (RMark.mk x1.at_ x1.next x1.done s3 s5 s7 s11)) 60 :: Lr):=hM
 intro a hF
 refine s_val hF (r_assign hF rfl rfl) rfl rfl rfl fun a hF=>?_
 refine c_nil (n_then ?_)
 refine c_seq ?_
 refine c_joinX hF hM hP (fun F x a w=>match x with | v1774=>∃ (s1775:SV),Fr 162 [(0,(s1775).v),(3,.pointer (some ⟨b_B109_3,0,none⟩)),(4,(SV.nil).v)] a ∧ MemL w (rowL 0 s1775 5 v1774 :: pt b_B109_3 (RMark.enc (RMark.mk x1.at_ x1.next x1.done s3 s5 s7 s11)) 60 :: Lr)) (fun o_j4 hP hK_j4 hF hM=>?_) ?_
 ·refine c_seq ?_
  refine c_region ?_
  refine s_val hF (r_assign hF rfl rfl) rfl rfl rfl fun a hF=>?_
  refine c_nil (n_then ?_)
  refine c_block ?_
  refine c_loopX hF hM hP (fun F x a w=>match x with | (v1837,v1840)=>∃ (s1838:SV),Fr 162 [(0,(s1838).v),(7,.int .i64 v1840),(3,.pointer (some ⟨b_B109_3,0,none⟩)),(4,(SV.nil).v)] a ∧ MemL w (rowL 0 s1838 5 v1837 :: pt b_B109_3 (RMark.enc (RMark.mk x1.at_ x1.next x1.done s3 s5 s7 s11)) 60 :: Lr)) (fun hF hM=>⟨s1588,hF.to ⟨rfl,rfl,rfl,rfl,trivial⟩,selM hM [1,2] 3 rfl⟩) ?_
  rintro ⟨v1837,v1840⟩ a w o_l5 hP hK_l5 ⟨s1838,hF,hM⟩
  replace hP:Sh.ref23_mark_l5 x1 v1837 v1840 = _:=hP
  unfold Sh.ref23_mark_l5 at hP
  refine c_seq ?_
  refine c_seq ?_
  refine c_region ?_
  refine s_val hF (r_move hF rfl rfl) rfl rfl rfl fun a hF=>?_
  refine s_val hF (r_fieldAddr (off':=4) Tryz.underlying60 rfl in57 rfl hF rfl rfl rfl) rfl rfl rfl fun a hF=>?_
  refine s_val hF (r_load1 Tryz.isAgg57 hF rfl rfl (hM.cell (i:=1) rfl (RMark.g_slots _))) rfl rfl rfl fun a hF=>?_
  refine s_val hF (r_lenL (f6 _ (hsub _ (dropM hM 2))) Tryz.underlying57 hF rfl rfl) rfl rfl rfl fun a hF=>?_
  refine s_val hF (r_lss hF rfl rfl rfl) rfl rfl rfl fun a hF=>?_
  refine c_nil (n_then ?_)
  refine c_cond hF (c:=.tmp 72) rfl (fun hb1842=>?_) (fun hb1842=>?_)
  ·have hP:=Fx.cT hb1842 hP
   refine c_skip (n_then ?_)
   refine c_seq ?_
   refine c_block ?_
   refine c_seq ?_
   refine c_region ?_
   refine s_val hF (r_move hF rfl rfl) rfl rfl rfl fun a hF=>?_
   refine s_val hF (r_fieldAddr (off':=4) Tryz.underlying60 rfl in57 rfl hF rfl rfl rfl) rfl rfl rfl fun a hF=>?_
   refine s_val hF (r_load1 Tryz.isAgg57 hF rfl rfl (hM.cell (i:=1) rfl (RMark.g_slots _))) rfl rfl rfl fun a hF=>?_
   refine s_val hF (r_move hF rfl rfl) rfl rfl rfl fun a hF=>?_
   obtain ⟨x1856,hx1856,hP⟩:=bind_some hP
   have h0x1856:=get_some hx1856
   refine s_val hF (r_indexZ (sz:=27) (f6 _ (hsub _ (dropM hM 2))) Tryz.underlying57 in151 rfl hF rfl rfl rfl (get_bd hx1856)) rfl rfl rfl fun a hF=>?_
   refine s_val hF (r_fieldAddr Tryz.underlying151 rfl in3 rfl hF rfl rfl rfl) rfl rfl rfl fun a hF=>?_
   refine s_val hF (r_load1 Tryz.isAgg3 hF rfl rfl ((((f6 _ (hsub _ (dropM hM 2))).elemS h0x1856.2)).get 0 (LCell.g_slot _))) rfl rfl rfl fun a hF=>?_
   refine s_val hF (r_convB Tryz.underlying3 Tryz.underlying5 hF rfl rfl) rfl rfl rfl fun a hF=>?_
   refine s_eff hF rfl rfl rfl (w_slice1 (X:=UInt8) (y:=(Fw.byteOf x1856.slot)) Tryz.underlying23 in5 rfl rfl rfl rfl hF rfl rfl rfl fun b_B109_83 w hzB109_83 hAB109_83=>?_)
   have hM:=hM.plus hAB109_83
   replace hM:MemL _ (pt b_B109_83 (encs ([(Fw.byteOf x1856.slot)]:List UInt8)) 5 :: rowL 0 s1838 5 v1837 :: pt b_B109_3 (RMark.enc (RMark.mk x1.at_ x1.next x1.done s3 s5 s7 s11)) 60 :: Lr):=hM
   intro a hF
   obtain ⟨x1858,hx1858,hP⟩:=bind_some hP
   refine s_eff hF rfl rfl rfl (w_appX (X:=UInt8) hx1858 Tryz.underlying23 in5 rfl rfl rfl rfl hF rfl rfl rfl (hM.own (X:=UInt8) (i:=1) rfl) (hM.ptS (X:=UInt8) (i:=0) (n:=1) (c:=1) rfl rfl rfl (Nat.le_refl _)) fun s1857 w hUs1857=>?_)
   have hM:=hM.chg hUs1857 (i:=1) rfl
   replace hM:MemL _ (pt b_B109_83 (encs ([(Fw.byteOf x1856.slot)]:List UInt8)) 5 :: rowL 0 s1857 5 x1858 :: pt b_B109_3 (RMark.enc (RMark.mk x1.at_ x1.next x1.done s3 s5 s7 s11)) 60 :: Lr):=hM
   intro a hF
   refine s_val hF (r_assign hF rfl rfl) rfl rfl rfl fun a hF=>?_
   refine c_nil (n_then ?_)
   refine d_startT mixed (by kernel_rfl) hM [0,2] 3 rfl fun hch=>?_
   refine d_val hF hch 0 rfl (by kernel_rfl) rfl rfl rfl (fun w hM=>(r_move hF rfl rfl)) fun a hF=>?_
   refine d_val hF hch 1 rfl (by kernel_rfl) rfl rfl rfl (fun w hM=>(r_fieldAddr (off':=4) Tryz.underlying60 rfl in57 rfl hF rfl rfl rfl)) fun a hF=>?_
   refine d_val hF hch 2 rfl (by kernel_rfl) rfl rfl rfl (fun w hM=>(r_load1 Tryz.isAgg57 hF rfl rfl (hM.cell (i:=1) rfl (RMark.g_slots _)))) fun a hF=>?_
   refine d_val hF hch 3 rfl (by kernel_rfl) rfl rfl rfl (fun w hM=>(r_move hF rfl rfl)) fun a hF=>?_
   obtain ⟨x1859,hx1859,hP⟩:=bind_some hP
   have h0x1859:=get_some hx1859
   refine d_val hF hch 4 rfl (by kernel_rfl) rfl rfl rfl (fun w hM=>(r_indexZ (sz:=27) (f6 _ (hsub _ (dropM hM 2))) Tryz.underlying57 in151 rfl hF rfl rfl rfl (get_bd hx1859))) fun a hF=>?_
   refine d_val hF hch 5 rfl (by kernel_rfl) rfl rfl rfl (fun w hM=>(r_fieldAddr Tryz.underlying151 rfl in50 rfl hF rfl rfl rfl)) fun a hF=>?_
   refine d_val hF hch 6 rfl (by kernel_rfl) rfl rfl rfl (fun w hM=>(r_loadn Tryz.isAgg50 Tryz.sizeOf50 hF rfl rfl (LSlot.len _) ((((f6 _ (hsub _ (dropM hM 2))).elemS h0x1859.2)).sub 1 13 (LCell.c_old _)))) fun a hF=>?_
   refine d_val hF hch 8 rfl (by kernel_rfl) rfl rfl rfl (fun w hM=>(r_fieldAddr (off':=4) Tryz.underlying60 rfl in57 rfl hF rfl rfl rfl)) fun a hF=>?_
   refine d_val hF hch 9 rfl (by kernel_rfl) rfl rfl rfl (fun w hM=>(r_load1 Tryz.isAgg57 hF rfl rfl (hM.cell (i:=1) rfl (RMark.g_slots _)))) fun a hF=>?_
   refine d_val hF hch 10 rfl (by kernel_rfl) rfl rfl rfl (fun w hM=>(r_move hF rfl rfl)) fun a hF=>?_
   obtain ⟨x1860,hx1860,hP⟩:=bind_some hP
   have h0x1860:=get_some hx1860
   refine d_val hF hch 11 rfl (by kernel_rfl) rfl rfl rfl (fun w hM=>(r_indexZ (sz:=27) (f6 _ (hsub _ (dropM hM 2))) Tryz.underlying57 in151 rfl hF rfl rfl rfl (get_bd hx1860))) fun a hF=>?_
   refine d_val hF hch 12 rfl (by kernel_rfl) rfl rfl rfl (fun w hM=>(r_fieldAddr Tryz.underlying151 rfl in50 rfl hF rfl rfl rfl)) fun a hF=>?_
   refine d_val hF hch 13 rfl (by kernel_rfl) rfl rfl rfl (fun w hM=>(r_loadn Tryz.isAgg50 Tryz.sizeOf50 hF rfl rfl (LSlot.len _) ((((f6 _ (hsub _ (dropM hM 2))).elemS h0x1860.2)).sub 14 13 (LCell.c_new _)))) fun a hF=>?_
   refine d_one hch 7 (by kernel_rfl) rfl rfl ?_
   refine d_ex hF 7 rfl rfl rfl rfl rfl fun w hMs hM=>?_
   obtain ⟨y1862,hy1862,hP⟩:=bind_some hP
   refine (w_call (xs:=[.tmp 85,.tmp 91]) Tryz.call183 hF rfl rfl (ref23_slot2_calls hy1862 (selM hM [1,0,2] 3 rfl) ) fun v w hR=>?_)
   obtain ⟨s1863,rfl,hM⟩:=hR
   replace hM:MemL _ (rowL 0 s1863 5 y1862 :: pt b_B109_83 (encs ([(Fw.byteOf x1856.slot)]:List UInt8)) 5 :: pt b_B109_3 (RMark.enc (RMark.mk x1.at_ x1.next x1.done s3 s5 s7 s11)) 60 :: Lr):=hM
   have hMs:=selM hM [0,1,2] 3 rfl
   refine ⟨_,_,hMs,hM,.inl fun _ h=>dropM h 1,fun a hF=>?_⟩
   refine d_one hch 14 (by kernel_rfl) rfl rfl ?_
   refine d_ex hF 14 rfl rfl rfl rfl rfl fun w hMs hM=>?_
   obtain ⟨y1866,hy1866,hP⟩:=bind_some hP
   refine (w_call (xs:=[.tmp 92,.tmp 98]) Tryz.call183 hF rfl rfl (ref23_slot2_calls hy1866 hM ) fun v w hR=>?_)
   obtain ⟨s1867,rfl,hM⟩:=hR
   replace hM:MemL _ (rowL 0 s1867 5 y1866 :: pt b_B109_83 (encs ([(Fw.byteOf x1856.slot)]:List UInt8)) 5 :: pt b_B109_3 (RMark.enc (RMark.mk x1.at_ x1.next x1.done s3 s5 s7 s11)) 60 :: Lr):=hM
   have hMs:=hM
   refine ⟨_,_,hMs,hM,.inr (by kernel_rfl),fun a hF=>?_⟩
   refine d_one hch 15 (by kernel_rfl) rfl rfl ?_
   refine d_ex hF 15 rfl rfl rfl rfl rfl fun w hMs hM=>Yd.val (r_assign hF rfl rfl) ?_
   refine ⟨_,_,hMs,hM,.inl fun _ h=>h,fun a hF=>?_⟩
   refine d_end hch (by kernel_rfl) fun w hM=>?_
   refine n_block (n_then ?_)
   refine c_region ?_
   refine s_val hF (r_move hF rfl rfl) rfl rfl rfl fun a hF=>?_
   refine s_val hF (r_add hF rfl rfl rfl) rfl rfl rfl fun a hF=>?_
   refine s_val hF (r_assign hF rfl rfl) rfl rfl rfl fun a hF=>?_
   refine c_nil (n_then ?_)
   have hP:=Option.some.inj hP
   subst hP
   exact ⟨(y1866,(IntKind.i64.wrap (v1840 + 1))),rfl,s1867,hF.to ⟨rfl,rfl,rfl,rfl,trivial⟩,selM hM [0,2] 3 rfl⟩
  have hP:=Fx.cF hb1842 hP
  refine c_exit (x_then (x_then (x_hit ?_)))
  refine n_then ?_
  have hP:=Option.some.inj hP
  subst hP
  have hP:=hK_l5 _ rfl
  subst hP
  exact ⟨v1837,rfl,s1838,hF.to ⟨rfl,rfl,rfl,trivial⟩,hM⟩
 rintro v1774 a w hP ⟨s1775,hF,hM⟩
 replace hP:Sh.ref23_mark_j4 x1 v1774 = _:=hP
 unfold Sh.ref23_mark_j4 at hP
 refine n_then ?_
 refine c_seq ?_
 refine c_region ?_
 refine s_val hF (r_move hF rfl rfl) rfl rfl rfl fun a hF=>?_
 refine s_val hF (r_fieldAddr (off':=5) Tryz.underlying60 rfl in58 rfl hF rfl rfl rfl) rfl rfl rfl fun a hF=>?_
 refine s_val hF (r_load1 Tryz.isAgg58 hF rfl rfl (hM.cell (i:=1) rfl (RMark.g_pieces _))) rfl rfl rfl fun a hF=>?_
 refine s_val hF (r_lenD (f9 _ (hsub _ (dropM hM 2))) q10.len Tryz.underlying58 hF rfl rfl) rfl rfl rfl fun a hF=>?_
 obtain ⟨y1870,hy1870,hP⟩:=bind_some hP
 refine s_eff hF rfl rfl rfl (w_call (xs:=[.tmp 100,.tmp 103,.const (.int .i64 (4))]) Tryz.call108 hF rfl rfl (ref23_low_calls hy1870 hM ) fun v w hR=>?_)
 obtain ⟨s1871,rfl,hM⟩:=hR
 replace hM:MemL _ (rowL 0 s1871 5 y1870 :: pt b_B109_3 (RMark.enc (RMark.mk x1.at_ x1.next x1.done s3 s5 s7 s11)) 60 :: Lr):=hM
 intro a hF
 refine s_val hF (r_assign hF rfl rfl) rfl rfl rfl fun a hF=>?_
 refine c_nil (n_then ?_)
 refine c_seq ?_
 refine c_joinX hF hM hP (fun F x a w=>match x with | v2237=>∃ (s2238:SV),Fr 162 [(0,(s2238).v),(3,.pointer (some ⟨b_B109_3,0,none⟩)),(4,(SV.nil).v)] a ∧ MemL w (rowL 0 s2238 5 v2237 :: pt b_B109_3 (RMark.enc (RMark.mk x1.at_ x1.next x1.done s3 s5 s7 s11)) 60 :: Lr)) (fun o_j6 hP hK_j6 hF hM=>?_) ?_
 ·refine c_seq ?_
  refine c_region ?_
  refine s_val hF (r_assign hF rfl rfl) rfl rfl rfl fun a hF=>?_
  refine c_nil (n_then ?_)
  refine c_block ?_
  refine c_loopX hF hM hP (fun F x a w=>match x with | (v2360,v2363)=>∃ (s2361:SV),Fr 162 [(0,(s2361).v),(8,.int .i64 v2363),(3,.pointer (some ⟨b_B109_3,0,none⟩)),(4,(SV.nil).v)] a ∧ MemL w (rowL 0 s2361 5 v2360 :: pt b_B109_3 (RMark.enc (RMark.mk x1.at_ x1.next x1.done s3 s5 s7 s11)) 60 :: Lr)) (fun hF hM=>⟨s1871,hF.to ⟨rfl,rfl,rfl,rfl,trivial⟩,hM⟩) ?_
  rintro ⟨v2360,v2363⟩ a w o_l7 hP hK_l7 ⟨s2361,hF,hM⟩
  replace hP:Sh.ref23_mark_l7 x1 v2360 v2363 = _:=hP
  unfold Sh.ref23_mark_l7 at hP
  refine c_seq ?_
  refine c_seq ?_
  refine c_region ?_
  refine s_val hF (r_move hF rfl rfl) rfl rfl rfl fun a hF=>?_
  refine s_val hF (r_fieldAddr (off':=5) Tryz.underlying60 rfl in58 rfl hF rfl rfl rfl) rfl rfl rfl fun a hF=>?_
  refine s_val hF (r_load1 Tryz.isAgg58 hF rfl rfl (hM.cell (i:=1) rfl (RMark.g_pieces _))) rfl rfl rfl fun a hF=>?_
  refine s_val hF (r_lenD (f9 _ (hsub _ (dropM hM 2))) q10.len Tryz.underlying58 hF rfl rfl) rfl rfl rfl fun a hF=>?_
  refine s_val hF (r_lss hF rfl rfl rfl) rfl rfl rfl fun a hF=>?_
  refine c_nil (n_then ?_)
  refine c_cond hF (c:=.tmp 109) rfl (fun hb2365=>?_) (fun hb2365=>?_)
  ·have hP:=Fx.cT hb2365 hP
   refine c_skip (n_then ?_)
   refine c_seq ?_
   refine c_block ?_
   refine c_seq ?_
   refine c_region ?_
   refine s_val hF (r_fieldAddr (off':=5) Tryz.underlying60 rfl in58 rfl hF rfl rfl rfl) rfl rfl rfl fun a hF=>?_
   refine s_val hF (r_load1 Tryz.isAgg58 hF rfl rfl (hM.cell (i:=1) rfl (RMark.g_pieces _))) rfl rfl rfl fun a hF=>?_
   refine s_val hF (r_move hF rfl rfl) rfl rfl rfl fun a hF=>?_
   obtain ⟨x2394,hx2394,hP⟩:=bind_some hP
   have h0x2394:=get_some hx2394
   obtain ⟨yx2394,hgx2394,hrx2394⟩:=Each.getr q10 h0x2394.2
   have hdx2394:=Each.bd q10 (get_bd hx2394)
   obtain ⟨s2395,s2397,rfl,f2396,f2398⟩:=hrx2394
   refine s_val hF (r_indexZ (sz:=4) (f9 _ (hsub _ (dropM hM 2))) Tryz.underlying58 in156 rfl hF rfl rfl rfl hdx2394) rfl rfl rfl fun a hF=>?_
   refine s_val hF (r_loadn Tryz.isAgg156 Tryz.sizeOf156 hF rfl rfl (RPiece.len _) (((f9 _ (hsub _ (dropM hM 2))).elemS hgx2394))) rfl rfl rfl fun a hF=>?_
   refine s_eff hF rfl rfl rfl (w_alloc z156 (zs:=RPiece.zero.enc) rfl rfl fun b_B109_9 w hzB109_9 hAB109_9=>?_)
   have hM:=hM.plus hAB109_9
   replace hM:MemL _ (pt b_B109_9 (RPiece.enc (RPiece.mk 0 0 SV.nil SV.nil)) 156 :: rowL 0 s2361 5 v2360 :: pt b_B109_3 (RMark.enc (RMark.mk x1.at_ x1.next x1.done s3 s5 s7 s11)) 60 :: Lr):=hM
   intro a hF
   refine s_eff0 rfl rfl (w_storen (vs:=_) Tryz.sizeOf156 (hM.obj (i:=0) rfl) hF rfl rfl rfl rfl (RPiece.len _) (RPiece.one _) (by first | (rw [RPiece.len,RPiece.len]; decide) | (rw [RPiece.len]; decide)) (put_all ((RPiece.len _).trans (RPiece.len _).symm)) fun w hU2399=>?_)
   have hM:=hM.chg hU2399 (i:=0) rfl
   replace hM:MemL _ (pt b_B109_9 (RPiece.enc (RPiece.mk x2394.table x2394.from_ s2395 s2397)) 156 :: rowL 0 s2361 5 v2360 :: pt b_B109_3 (RMark.enc (RMark.mk x1.at_ x1.next x1.done s3 s5 s7 s11)) 60 :: Lr):=hM
   refine c_nil (n_then ?_)
   refine c_seq ?_
   refine c_region ?_
   refine s_val hF (r_move hF rfl rfl) rfl rfl rfl fun a hF=>?_
   refine s_val hF (r_fieldAddr (off':=0) Tryz.underlying156 rfl in3 rfl hF rfl rfl rfl) rfl rfl rfl fun a hF=>?_
   refine s_val hF (r_load1 Tryz.isAgg3 hF rfl rfl (hM.cell (i:=0) rfl (RPiece.g_table _))) rfl rfl rfl fun a hF=>?_
   refine s_val hF (r_add hF rfl rfl rfl) rfl rfl rfl fun a hF=>?_
   refine s_val hF (r_convB Tryz.underlying3 Tryz.underlying5 hF rfl rfl) rfl rfl rfl fun a hF=>?_
   refine s_eff hF rfl rfl rfl (w_slice1 (X:=UInt8) (y:=(Fw.byteOf (IntKind.i64.wrap (x2394.table + 1)))) Tryz.underlying23 in5 rfl rfl rfl rfl hF rfl rfl rfl fun b_B109_122 w hzB109_122 hAB109_122=>?_)
   have hM:=hM.plus hAB109_122
   replace hM:MemL _ (pt b_B109_122 (encs ([(Fw.byteOf (IntKind.i64.wrap (x2394.table + 1)))]:List UInt8)) 5 :: pt b_B109_9 (RPiece.enc (RPiece.mk x2394.table x2394.from_ s2395 s2397)) 156 :: rowL 0 s2361 5 v2360 :: pt b_B109_3 (RMark.enc (RMark.mk x1.at_ x1.next x1.done s3 s5 s7 s11)) 60 :: Lr):=hM
   intro a hF
   obtain ⟨x2401,hx2401,hP⟩:=bind_some hP
   refine s_eff hF rfl rfl rfl (w_appX (X:=UInt8) hx2401 Tryz.underlying23 in5 rfl rfl rfl rfl hF rfl rfl rfl (hM.own (X:=UInt8) (i:=2) rfl) (hM.ptS (X:=UInt8) (i:=0) (n:=1) (c:=1) rfl rfl rfl (Nat.le_refl _)) fun s2400 w hUs2400=>?_)
   have hM:=hM.chg hUs2400 (i:=2) rfl
   replace hM:MemL _ (pt b_B109_122 (encs ([(Fw.byteOf (IntKind.i64.wrap (x2394.table + 1)))]:List UInt8)) 5 :: pt b_B109_9 (RPiece.enc (RPiece.mk x2394.table x2394.from_ s2395 s2397)) 156 :: rowL 0 s2400 5 x2401 :: pt b_B109_3 (RMark.enc (RMark.mk x1.at_ x1.next x1.done s3 s5 s7 s11)) 60 :: Lr):=hM
   intro a hF
   refine s_val hF (r_assign hF rfl rfl) rfl rfl rfl fun a hF=>?_
   refine c_nil (n_then ?_)
   refine c_seq ?_
   refine d_startT mixed (by kernel_rfl) hM [0,1,3] 4 rfl fun hch=>?_
   refine d_val hF hch 0 rfl (by kernel_rfl) rfl rfl rfl (fun w hM=>(r_move hF rfl rfl)) fun a hF=>?_
   refine d_val hF hch 1 rfl (by kernel_rfl) rfl rfl rfl (fun w hM=>(r_fieldAddr (off':=1) Tryz.underlying156 rfl in3 rfl hF rfl rfl rfl)) fun a hF=>?_
   refine d_val hF hch 2 rfl (by kernel_rfl) rfl rfl rfl (fun w hM=>(r_load1 Tryz.isAgg3 hF rfl rfl (hM.cell (i:=1) rfl (RPiece.g_from_ _)))) fun a hF=>?_
   refine d_val hF hch 4 rfl (by kernel_rfl) rfl rfl rfl (fun w hM=>(r_fieldAddr (off':=2) Tryz.underlying156 rfl in23 rfl hF rfl rfl rfl)) fun a hF=>?_
   refine d_val hF hch 5 rfl (by kernel_rfl) rfl rfl rfl (fun w hM=>(r_load1 Tryz.isAgg23 hF rfl rfl (hM.cell (i:=1) rfl (RPiece.g_old _)))) fun a hF=>?_
   refine d_val hF hch 6 rfl (by kernel_rfl) rfl rfl rfl (fun w hM=>(r_lenL (f2396 _ (hsub _ (dropM hM 3))) Tryz.underlying23 hF rfl rfl)) fun a hF=>?_
   refine d_one hch 3 (by kernel_rfl) rfl rfl ?_
   refine d_ex hF 3 rfl rfl rfl rfl rfl fun w hMs hM=>?_
   obtain ⟨y2411,hy2411,hP⟩:=bind_some hP
   refine (w_call (xs:=[.tmp 124,.tmp 126,.const (.int .i64 (2))]) Tryz.call108 hF rfl rfl (ref23_low_calls hy2411 (selM hM [2,0,1,3] 4 rfl) ) fun v w hR=>?_)
   obtain ⟨s2412,rfl,hM⟩:=hR
   replace hM:MemL _ (rowL 0 s2412 5 y2411 :: pt b_B109_122 (encs ([(Fw.byteOf (IntKind.i64.wrap (x2394.table + 1)))]:List UInt8)) 5 :: pt b_B109_9 (RPiece.enc (RPiece.mk x2394.table x2394.from_ s2395 s2397)) 156 :: pt b_B109_3 (RMark.enc (RMark.mk x1.at_ x1.next x1.done s3 s5 s7 s11)) 60 :: Lr):=hM
   have hMs:=selM hM [0,1,2,3] 4 rfl
   refine ⟨_,_,hMs,hM,.inl fun _ h=>dropM h 1,fun a hF=>?_⟩
   refine d_one hch 7 (by kernel_rfl) rfl rfl ?_
   refine d_ex hF 7 rfl rfl rfl rfl rfl fun w hMs hM=>?_
   obtain ⟨y2415,hy2415,hP⟩:=bind_some hP
   refine (w_call (xs:=[.tmp 127,.tmp 130,.const (.int .i64 (2))]) Tryz.call108 hF rfl rfl (ref23_low_calls hy2415 hM ) fun v w hR=>?_)
   obtain ⟨s2416,rfl,hM⟩:=hR
   replace hM:MemL _ (rowL 0 s2416 5 y2415 :: pt b_B109_122 (encs ([(Fw.byteOf (IntKind.i64.wrap (x2394.table + 1)))]:List UInt8)) 5 :: pt b_B109_9 (RPiece.enc (RPiece.mk x2394.table x2394.from_ s2395 s2397)) 156 :: pt b_B109_3 (RMark.enc (RMark.mk x1.at_ x1.next x1.done s3 s5 s7 s11)) 60 :: Lr):=hM
   have hMs:=hM
   refine ⟨_,_,hMs,hM,.inr (by kernel_rfl),fun a hF=>?_⟩
   refine d_one hch 8 (by kernel_rfl) rfl rfl ?_
   refine d_ex hF 8 rfl rfl rfl rfl rfl fun w hMs hM=>Yd.val (r_assign hF rfl rfl) ?_
   refine ⟨_,_,hMs,hM,.inl fun _ h=>h,fun a hF=>?_⟩
   refine d_end hch (by kernel_rfl) fun w hM=>?_
   refine n_then ?_
   refine c_seq ?_
   refine c_region ?_
   refine s_val hF (r_move hF rfl rfl) rfl rfl rfl fun a hF=>?_
   refine s_val hF (r_fieldAddr (off':=2) Tryz.underlying156 rfl in23 rfl hF rfl rfl rfl) rfl rfl rfl fun a hF=>?_
   refine s_val hF (r_load1 Tryz.isAgg23 hF rfl rfl (hM.cell (i:=2) rfl (RPiece.g_old _))) rfl rfl rfl fun a hF=>?_
   obtain ⟨x2419,hx2419,hP⟩:=bind_some hP
   refine s_eff hF rfl rfl rfl (w_appX (X:=UInt8) hx2419 Tryz.underlying23 in5 rfl rfl rfl rfl hF rfl rfl rfl (hM.own (X:=UInt8) (i:=0) rfl) (f2396 _ (hsub _ (dropM hM 4))) fun s2418 w hUs2418=>?_)
   have hM:=hM.chg hUs2418 (i:=0) rfl
   replace hM:MemL _ (rowL 0 s2418 5 x2419 :: pt b_B109_122 (encs ([(Fw.byteOf (IntKind.i64.wrap (x2394.table + 1)))]:List UInt8)) 5 :: pt b_B109_9 (RPiece.enc (RPiece.mk x2394.table x2394.from_ s2395 s2397)) 156 :: pt b_B109_3 (RMark.enc (RMark.mk x1.at_ x1.next x1.done s3 s5 s7 s11)) 60 :: Lr):=hM
   intro a hF
   refine s_val hF (r_assign hF rfl rfl) rfl rfl rfl fun a hF=>?_
   refine c_nil (n_then ?_)
   refine c_region ?_
   refine s_val hF (r_move hF rfl rfl) rfl rfl rfl fun a hF=>?_
   refine s_val hF (r_fieldAddr (off':=3) Tryz.underlying156 rfl in23 rfl hF rfl rfl rfl) rfl rfl rfl fun a hF=>?_
   refine s_val hF (r_load1 Tryz.isAgg23 hF rfl rfl (hM.cell (i:=2) rfl (RPiece.g_new _))) rfl rfl rfl fun a hF=>?_
   obtain ⟨x2421,hx2421,hP⟩:=bind_some hP
   refine s_eff hF rfl rfl rfl (w_appX (X:=UInt8) hx2421 Tryz.underlying23 in5 rfl rfl rfl rfl hF rfl rfl rfl (hM.own (X:=UInt8) (i:=0) rfl) (f2398 _ (hsub _ (dropM hM 4))) fun s2420 w hUs2420=>?_)
   have hM:=hM.chg hUs2420 (i:=0) rfl
   replace hM:MemL _ (rowL 0 s2420 5 x2421 :: pt b_B109_122 (encs ([(Fw.byteOf (IntKind.i64.wrap (x2394.table + 1)))]:List UInt8)) 5 :: pt b_B109_9 (RPiece.enc (RPiece.mk x2394.table x2394.from_ s2395 s2397)) 156 :: pt b_B109_3 (RMark.enc (RMark.mk x1.at_ x1.next x1.done s3 s5 s7 s11)) 60 :: Lr):=hM
   intro a hF
   refine s_val hF (r_assign hF rfl rfl) rfl rfl rfl fun a hF=>?_
   refine c_nil (n_block (n_then ?_))
   refine c_region ?_
   refine s_val hF (r_move hF rfl rfl) rfl rfl rfl fun a hF=>?_
   refine s_val hF (r_add hF rfl rfl rfl) rfl rfl rfl fun a hF=>?_
   refine s_val hF (r_assign hF rfl rfl) rfl rfl rfl fun a hF=>?_
   refine c_nil (n_then ?_)
   have hP:=Option.some.inj hP
   subst hP
   exact ⟨(x2421,(IntKind.i64.wrap (v2363 + 1))),rfl,s2420,hF.to ⟨rfl,rfl,rfl,rfl,trivial⟩,selM hM [0,3] 4 rfl⟩
  have hP:=Fx.cF hb2365 hP
  refine c_exit (x_then (x_then (x_hit ?_)))
  refine n_then ?_
  have hP:=Option.some.inj hP
  subst hP
  have hP:=hK_l7 _ rfl
  subst hP
  exact ⟨v2360,rfl,s2361,hF.to ⟨rfl,rfl,rfl,trivial⟩,hM⟩
 rintro v2237 a w hP ⟨s2238,hF,hM⟩
 replace hP:Sh.ref23_mark_j6 x1 v2237 = _:=hP
 unfold Sh.ref23_mark_j6 at hP
 refine n_then ?_
 refine c_seq ?_
 refine c_region ?_
 refine s_val hF (r_move hF rfl rfl) rfl rfl rfl fun a hF=>?_
 refine s_val hF (r_fieldAddr (off':=6) Tryz.underlying60 rfl in52 rfl hF rfl rfl rfl) rfl rfl rfl fun a hF=>?_
 refine s_val hF (r_load1 Tryz.isAgg52 hF rfl rfl (hM.cell (i:=1) rfl (RMark.g_sent _))) rfl rfl rfl fun a hF=>?_
 refine s_val hF (r_lenL (f12 _ (hsub _ (dropM hM 2))) Tryz.underlying52 hF rfl rfl) rfl rfl rfl fun a hF=>?_
 refine s_val hF (r_convB Tryz.underlying3 Tryz.underlying5 hF rfl rfl) rfl rfl rfl fun a hF=>?_
 refine s_eff hF rfl rfl rfl (w_slice1 (X:=UInt8) (y:=(Fw.byteOf (x1.sent.length:Int))) Tryz.underlying23 in5 rfl rfl rfl rfl hF rfl rfl rfl fun b_B109_145 w hzB109_145 hAB109_145=>?_)
 have hM:=hM.plus hAB109_145
 replace hM:MemL _ (pt b_B109_145 (encs ([(Fw.byteOf (x1.sent.length:Int))]:List UInt8)) 5 :: rowL 0 s2238 5 v2237 :: pt b_B109_3 (RMark.enc (RMark.mk x1.at_ x1.next x1.done s3 s5 s7 s11)) 60 :: Lr):=hM
 intro a hF
 obtain ⟨x2423,hx2423,hP⟩:=bind_some hP
 refine s_eff hF rfl rfl rfl (w_appX (X:=UInt8) hx2423 Tryz.underlying23 in5 rfl rfl rfl rfl hF rfl rfl rfl (hM.own (X:=UInt8) (i:=1) rfl) (hM.ptS (X:=UInt8) (i:=0) (n:=1) (c:=1) rfl rfl rfl (Nat.le_refl _)) fun s2422 w hUs2422=>?_)
 have hM:=hM.chg hUs2422 (i:=1) rfl
 replace hM:MemL _ (pt b_B109_145 (encs ([(Fw.byteOf (x1.sent.length:Int))]:List UInt8)) 5 :: rowL 0 s2422 5 x2423 :: pt b_B109_3 (RMark.enc (RMark.mk x1.at_ x1.next x1.done s3 s5 s7 s11)) 60 :: Lr):=hM
 intro a hF
 refine s_val hF (r_assign hF rfl rfl) rfl rfl rfl fun a hF=>?_
 refine c_nil (n_then ?_)
 refine c_seq ?_
 refine c_joinX hF hM hP (fun F x a w=>match x with | v2512=>∃ (s2513:SV),Fr 162 [(0,(s2513).v),(4,(SV.nil).v)] a ∧ MemL w (rowL 0 s2513 5 v2512 :: Lr)) (fun o_j8 hP hK_j8 hF hM=>?_) ?_
 ·refine c_seq ?_
  refine c_region ?_
  refine s_val hF (r_assign hF rfl rfl) rfl rfl rfl fun a hF=>?_
  refine c_nil (n_then ?_)
  refine c_block ?_
  refine c_loopX hF hM hP (fun F x a w=>match x with | (v2543,v2546)=>∃ (s2544:SV),Fr 162 [(0,(s2544).v),(10,.int .i64 v2546),(3,.pointer (some ⟨b_B109_3,0,none⟩)),(4,(SV.nil).v)] a ∧ MemL w (rowL 0 s2544 5 v2543 :: pt b_B109_3 (RMark.enc (RMark.mk x1.at_ x1.next x1.done s3 s5 s7 s11)) 60 :: Lr)) (fun hF hM=>⟨s2422,hF.to ⟨rfl,rfl,rfl,rfl,trivial⟩,selM hM [1,2] 3 rfl⟩) ?_
  rintro ⟨v2543,v2546⟩ a w o_l9 hP hK_l9 ⟨s2544,hF,hM⟩
  replace hP:Sh.ref23_mark_l9 x1 v2543 v2546 = _:=hP
  unfold Sh.ref23_mark_l9 at hP
  refine c_seq ?_
  refine c_seq ?_
  refine c_region ?_
  refine s_val hF (r_move hF rfl rfl) rfl rfl rfl fun a hF=>?_
  refine s_val hF (r_fieldAddr (off':=6) Tryz.underlying60 rfl in52 rfl hF rfl rfl rfl) rfl rfl rfl fun a hF=>?_
  refine s_val hF (r_load1 Tryz.isAgg52 hF rfl rfl (hM.cell (i:=1) rfl (RMark.g_sent _))) rfl rfl rfl fun a hF=>?_
  refine s_val hF (r_lenL (f12 _ (hsub _ (dropM hM 2))) Tryz.underlying52 hF rfl rfl) rfl rfl rfl fun a hF=>?_
  refine s_val hF (r_lss hF rfl rfl rfl) rfl rfl rfl fun a hF=>?_
  refine c_nil (n_then ?_)
  refine c_cond hF (c:=.tmp 151) rfl (fun hb2548=>?_) (fun hb2548=>?_)
  ·have hP:=Fx.cT hb2548 hP
   refine c_skip (n_then ?_)
   refine c_seq ?_
   refine c_block ?_
   refine c_region ?_
   refine s_val hF (r_move hF rfl rfl) rfl rfl rfl fun a hF=>?_
   refine s_val hF (r_fieldAddr (off':=6) Tryz.underlying60 rfl in52 rfl hF rfl rfl rfl) rfl rfl rfl fun a hF=>?_
   refine s_val hF (r_load1 Tryz.isAgg52 hF rfl rfl (hM.cell (i:=1) rfl (RMark.g_sent _))) rfl rfl rfl fun a hF=>?_
   refine s_val hF (r_move hF rfl rfl) rfl rfl rfl fun a hF=>?_
   obtain ⟨x2554,hx2554,hP⟩:=bind_some hP
   have h0x2554:=get_some hx2554
   refine s_val hF (r_indexZ (sz:=1) (f12 _ (hsub _ (dropM hM 2))) Tryz.underlying52 in3 rfl hF rfl rfl rfl (get_bd hx2554)) rfl rfl rfl fun a hF=>?_
   refine s_val hF (r_load1 Tryz.isAgg3 hF rfl rfl ((((f12 _ (hsub _ (dropM hM 2))).elemS h0x2554.2)).get 0 rfl)) rfl rfl rfl fun a hF=>?_
   obtain ⟨y2556,hy2556,hP⟩:=bind_some hP
   refine s_eff hF rfl rfl rfl (w_call (xs:=[.tmp 154,.tmp 159,.const (.int .i64 (8))]) Tryz.call108 hF rfl rfl (ref23_low_calls hy2556 hM ) fun v w hR=>?_)
   obtain ⟨s2557,rfl,hM⟩:=hR
   replace hM:MemL _ (rowL 0 s2557 5 y2556 :: pt b_B109_3 (RMark.enc (RMark.mk x1.at_ x1.next x1.done s3 s5 s7 s11)) 60 :: Lr):=hM
   intro a hF
   refine s_val hF (r_assign hF rfl rfl) rfl rfl rfl fun a hF=>?_
   refine c_nil (n_block (n_then ?_))
   refine c_region ?_
   refine s_val hF (r_move hF rfl rfl) rfl rfl rfl fun a hF=>?_
   refine s_val hF (r_add hF rfl rfl rfl) rfl rfl rfl fun a hF=>?_
   refine s_val hF (r_assign hF rfl rfl) rfl rfl rfl fun a hF=>?_
   refine c_nil (n_then ?_)
   have hP:=Option.some.inj hP
   subst hP
   exact ⟨(y2556,(IntKind.i64.wrap (v2546 + 1))),rfl,s2557,hF.to ⟨rfl,rfl,rfl,rfl,trivial⟩,hM⟩
  have hP:=Fx.cF hb2548 hP
  refine c_exit (x_then (x_then (x_hit ?_)))
  refine n_then ?_
  have hP:=Option.some.inj hP
  subst hP
  have hP:=hK_l9 _ rfl
  subst hP
  exact ⟨v2543,rfl,s2544,hF.to ⟨rfl,rfl,trivial⟩,selM hM [0] 2 rfl⟩
 rintro v2512 a w hP ⟨s2513,hF,hM⟩
 replace hP:Sh.ref23_mark_j8 v2512 = _:=hP
 unfold Sh.ref23_mark_j8 at hP
 refine n_then ?_
 refine c_seq ?_
 refine c_region ?_
 refine s_val hF (r_move hF rfl rfl) rfl rfl rfl fun a hF=>?_
 refine s_val hF (r_assign hF rfl rfl) rfl rfl rfl fun a hF=>?_
 refine c_nil (n_then ?_)
 refine c_ret ?_
 have hP:=Option.some.inj hP
 subst hP
 refine e_ret1 Tryz.results109 hF rfl ?_
 exact ⟨s2513,rfl,hM⟩
set_option maxHeartbeats 4000000 in
theorem ref23_Encode_calls {x0:QRecord} {s1:SV} {s3:SV} {hs4:List SV} {s7:SV} {hs8:List RMark} {out:(List UInt8 × Int)} {w0:World} {Bf:World → Prop} {Lr:List Res} (hP:Sh.ref23_Encode x0 = some out) (hM:MemL w0 (Lr)) (hsub:∀ w,MemL w Lr → Bf w) (f2:LIn Bf s1 x0.in_.ctx) (f5:LIn Bf s3 hs4) (q6:Each (LIn (X:=UInt8) Bf) hs4 x0.in_.tables) (f9:LIn Bf s7 hs8) (q10:Each (QMarkIn Bf) hs8 x0.marks):Calls Tryz.prog 42 #[.agg (RRecord.enc (RRecord.mk (RInput.mk s1 s3) s7 x0.end_)).toArray] w0 (Ret fun v w'=>∃ (s819:SV),v = .tuple #[(s819).v,.int .i64 out.2] ∧ MemL w' (rowL 0 s819 5 out.1 :: Lr)):=by
 unfold Sh.ref23_Encode at hP
 refine calls_enter (vs:=[.agg (RRecord.enc (RRecord.mk (RInput.mk s1 s3) s7 x0.end_)).toArray]) Tryz.func42 rfl Tryz.ntmps42 rfl fun a hF=>?_
 refine c_seq ?_
 refine c_region ?_
 refine s_eff hF rfl rfl rfl (w_box hF rfl rfl rfl fun b_B42_1 w hzB42_1 hAB42_1=>?_)
 have hM:=hM.plus hAB42_1
 replace hM:MemL _ (pt b_B42_1 (RRecord.enc (RRecord.mk (RInput.mk s1 s3) s7 x0.end_)) 36 :: Lr):=hM
 intro a hF
 refine s_val hF (r_assign hF rfl rfl) rfl rfl rfl fun a hF=>?_
 refine s_val hF (r_assign hF rfl rfl) rfl rfl rfl fun a hF=>?_
 refine c_nil (n_then ?_)
 refine c_seq ?_
 refine c_seq ?_
 refine c_region ?_
 refine s_val hF (r_fieldAddr (off':=0) Tryz.underlying36 rfl in30 rfl hF rfl rfl rfl) rfl rfl rfl fun a hF=>?_
 refine s_val hF (r_loadn Tryz.isAgg30 Tryz.sizeOf30 hF rfl rfl (RInput.len _) (hM.cells (i:=0) rfl (RRecord.c_in_ _))) rfl rfl rfl fun a hF=>?_
 obtain ⟨y825,hy825,hP⟩:=bind_some hP
 refine s_eff hF rfl rfl rfl (w_call (xs:=[.tmp 9]) Tryz.call105 hF rfl rfl (ref23_inputPlain_calls hy825 hM (Bf:=Bf) (fun w hM=>hsub _ (dropM hM 1)) f2 f5 q6) fun v w hR=>?_)
 obtain ⟨rfl,hM⟩:=hR
 replace hM:MemL _ (pt b_B42_1 (RRecord.enc (RRecord.mk (RInput.mk s1 s3) s7 x0.end_)) 36 :: Lr):=hM
 intro a hF
 refine s_val hF (r_not hF rfl rfl) rfl rfl rfl fun a hF=>?_
 refine c_nil (n_then ?_)
 refine c_cond hF (c:=.tmp 11) rfl (fun hb826=>?_) (fun hb826=>?_)
 ·have hP:=Fx.cT hb826 hP
  refine c_seq ?_
  refine c_region ?_
  refine s_val hF (r_assign hF rfl rfl) rfl rfl rfl fun a hF=>?_
  refine s_val hF (r_assign hF rfl rfl) rfl rfl rfl fun a hF=>?_
  refine c_nil (n_then ?_)
  refine c_ret ?_
  have hM:=hM.rowNil (X:=UInt8) 0 5
  have hP:=Option.some.inj hP
  subst hP
  refine e_ret (rs:=[.tmp 2,.tmp 3]) Tryz.results42 hF (res_tmp hF rfl (res_tmp hF rfl res_nil)) rfl ?_
  exact ⟨SV.nil,rfl,selM hM [0] 2 rfl⟩
 have hP:=Fx.cF hb826 hP
 refine c_skip (n_then ?_)
 refine c_seq ?_
 refine c_joinX hF hM hP (fun F x a w=>match x with | _=>Fr 104 [(1,.pointer (some ⟨b_B42_1,0,none⟩)),(2,(SV.nil).v),(3,.int .i64 0)] a ∧ MemL w (pt b_B42_1 (RRecord.enc (RRecord.mk (RInput.mk s1 s3) s7 x0.end_)) 36 :: Lr)) (fun o_j1 hP hK_j1 hF hM=>?_) ?_
 ·refine c_seq ?_
  refine c_region ?_
  refine s_val hF (r_assign hF rfl rfl) rfl rfl rfl fun a hF=>?_
  refine c_nil (n_then ?_)
  refine c_block ?_
  refine c_loopX hF hM hP (fun F x a w=>match x with | v1073=>Fr 104 [(4,.int .i64 v1073),(1,.pointer (some ⟨b_B42_1,0,none⟩)),(2,(SV.nil).v),(3,.int .i64 0)] a ∧ MemL w (pt b_B42_1 (RRecord.enc (RRecord.mk (RInput.mk s1 s3) s7 x0.end_)) 36 :: Lr)) (fun hF hM=>⟨hF.to ⟨rfl,rfl,rfl,rfl,trivial⟩,hM⟩) ?_
  rintro v1073 a w o_l2 hP hK_l2 ⟨hF,hM⟩
  replace hP:Sh.ref23_Encode_l2 x0 v1073 = _:=hP
  unfold Sh.ref23_Encode_l2 at hP
  refine c_seq ?_
  refine c_seq ?_
  refine c_region ?_
  refine s_val hF (r_move hF rfl rfl) rfl rfl rfl fun a hF=>?_
  refine s_val hF (r_fieldAddr (off':=2) Tryz.underlying36 rfl in33 rfl hF rfl rfl rfl) rfl rfl rfl fun a hF=>?_
  refine s_val hF (r_load1 Tryz.isAgg33 hF rfl rfl (hM.cell (i:=0) rfl (RRecord.g_marks _))) rfl rfl rfl fun a hF=>?_
  refine s_val hF (r_lenD (f9 _ (hsub _ (dropM hM 1))) q10.len Tryz.underlying33 hF rfl rfl) rfl rfl rfl fun a hF=>?_
  refine s_val hF (r_lss hF rfl rfl rfl) rfl rfl rfl fun a hF=>?_
  refine c_nil (n_then ?_)
  refine c_cond hF (c:=.tmp 16) rfl (fun hb1075=>?_) (fun hb1075=>?_)
  ·have hP:=Fx.cT hb1075 hP
   refine c_skip (n_then ?_)
   refine c_seq ?_
   refine c_block ?_
   refine c_seq ?_
   refine c_region ?_
   refine s_val hF (r_fieldAddr (off':=2) Tryz.underlying36 rfl in33 rfl hF rfl rfl rfl) rfl rfl rfl fun a hF=>?_
   refine s_val hF (r_load1 Tryz.isAgg33 hF rfl rfl (hM.cell (i:=0) rfl (RRecord.g_marks _))) rfl rfl rfl fun a hF=>?_
   refine s_val hF (r_move hF rfl rfl) rfl rfl rfl fun a hF=>?_
   obtain ⟨x1090,hx1090,hP⟩:=bind_some hP
   have h0x1090:=get_some hx1090
   obtain ⟨yx1090,hgx1090,hrx1090⟩:=Each.getr q10 h0x1090.2
   have hdx1090:=Each.bd q10 (get_bd hx1090)
   obtain ⟨s1091,s1093,s1095,hs1096,s1099,rfl,f1092,f1094,f1097,q1098,f1100⟩:=hrx1090
   refine s_val hF (r_indexZ (sz:=7) (f9 _ (hsub _ (dropM hM 1))) Tryz.underlying33 in60 rfl hF rfl rfl rfl hdx1090) rfl rfl rfl fun a hF=>?_
   refine s_val hF (r_loadn Tryz.isAgg60 Tryz.sizeOf60 hF rfl rfl (RMark.len _) (((f9 _ (hsub _ (dropM hM 1))).elemS hgx1090))) rfl rfl rfl fun a hF=>?_
   obtain ⟨y1102,hy1102,hP⟩:=bind_some hP
   refine s_eff hF rfl rfl rfl (w_call (xs:=[.tmp 23]) Tryz.call106 hF rfl rfl (ref23_goodMark_calls hy1102 hM (Bf:=Bf) (fun w hM=>hsub _ (dropM hM 1)) f1092 f1094 f1097 q1098 f1100) fun v w hR=>?_)
   obtain ⟨rfl,hM⟩:=hR
   replace hM:MemL _ (pt b_B42_1 (RRecord.enc (RRecord.mk (RInput.mk s1 s3) s7 x0.end_)) 36 :: Lr):=hM
   intro a hF
   refine s_val hF (r_not hF rfl rfl) rfl rfl rfl fun a hF=>?_
   refine c_nil (n_then ?_)
   refine c_cond hF (c:=.tmp 25) rfl (fun hb1103=>?_) (fun hb1103=>?_)
   ·have hP:=Fx.cT hb1103 hP
    refine c_seq ?_
    refine c_region ?_
    refine s_val hF (r_assign hF rfl rfl) rfl rfl rfl fun a hF=>?_
    refine s_val hF (r_assign hF rfl rfl) rfl rfl rfl fun a hF=>?_
    refine c_nil (n_then ?_)
    refine c_ret ?_
    have hM:=hM.rowNil (X:=UInt8) 0 5
    have hP:=Option.some.inj hP
    subst hP
    have hP:=hK_l2 _ rfl
    subst hP
    have hP:=fin_inr hK_j1
    subst hP
    refine e_ret (rs:=[.tmp 2,.tmp 3]) Tryz.results42 hF (res_tmp hF rfl (res_tmp hF rfl res_nil)) rfl ?_
    exact ⟨SV.nil,rfl,selM hM [0] 2 rfl⟩
   have hP:=Fx.cF hb1103 hP
   refine c_skip (n_block (n_then ?_))
   refine c_region ?_
   refine s_val hF (r_move hF rfl rfl) rfl rfl rfl fun a hF=>?_
   refine s_val hF (r_add hF rfl rfl rfl) rfl rfl rfl fun a hF=>?_
   refine s_val hF (r_assign hF rfl rfl) rfl rfl rfl fun a hF=>?_
   refine c_nil (n_then ?_)
   have hP:=Option.some.inj hP
   subst hP
   exact ⟨(IntKind.i64.wrap (v1073 + 1)),rfl,hF.to ⟨rfl,rfl,rfl,rfl,trivial⟩,hM⟩
  have hP:=Fx.cF hb1075 hP
  refine c_exit (x_then (x_then (x_hit ?_)))
  refine n_then ?_
  have hP:=Option.some.inj hP
  subst hP
  have hP:=hK_l2 _ rfl
  subst hP
  exact ⟨(),rfl,hF.to ⟨rfl,rfl,rfl,trivial⟩,hM⟩
 rintro ⟨⟩ a w hP ⟨hF,hM⟩
 replace hP:Sh.ref23_Encode_j1 x0 = _:=hP
 unfold Sh.ref23_Encode_j1 at hP
 refine n_then ?_
 refine c_seq ?_
 refine c_seq ?_
 refine c_region ?_
 refine s_val hF (r_fieldAddr (off':=3) Tryz.underlying36 rfl in34 rfl hF rfl rfl rfl) rfl rfl rfl fun a hF=>?_
 refine s_val hF (r_load1 Tryz.isAgg34 hF rfl rfl (hM.cell (i:=0) rfl (RRecord.g_end_ _))) rfl rfl rfl fun a hF=>?_
 obtain ⟨y1109,hy1109,hP⟩:=bind_some hP
 refine s_eff hF rfl rfl rfl (w_call (xs:=[.tmp 27]) Tryz.call107 hF rfl rfl (ref23_goodEnd_calls hy1109 hM ) fun v w hR=>?_)
 obtain ⟨rfl,hM⟩:=hR
 replace hM:MemL _ (pt b_B42_1 (RRecord.enc (RRecord.mk (RInput.mk s1 s3) s7 x0.end_)) 36 :: Lr):=hM
 intro a hF
 refine s_val hF (r_not hF rfl rfl) rfl rfl rfl fun a hF=>?_
 refine c_nil (n_then ?_)
 refine c_cond hF (c:=.tmp 29) rfl (fun hb1110=>?_) (fun hb1110=>?_)
 ·have hP:=Fx.cT hb1110 hP
  refine c_seq ?_
  refine c_region ?_
  refine s_val hF (r_assign hF rfl rfl) rfl rfl rfl fun a hF=>?_
  refine s_val hF (r_assign hF rfl rfl) rfl rfl rfl fun a hF=>?_
  refine c_nil (n_then ?_)
  refine c_ret ?_
  have hM:=hM.rowNil (X:=UInt8) 0 5
  have hP:=Option.some.inj hP
  subst hP
  refine e_ret (rs:=[.tmp 2,.tmp 3]) Tryz.results42 hF (res_tmp hF rfl (res_tmp hF rfl res_nil)) rfl ?_
  exact ⟨SV.nil,rfl,selM hM [0] 2 rfl⟩
 have hP:=Fx.cF hb1110 hP
 refine c_skip (n_then ?_)
 refine c_seq ?_
 refine c_region ?_
 refine s_eff hF rfl rfl rfl (w_sliceN (X:=UInt8) (ys:=[84,82,67,49]) (m:=4) Tryz.underlying23 in5 rfl rfl rfl rfl (by decide) (by decide) hF rfl rfl (PartsE.cons rfl (PartsE.cons rfl (PartsE.cons rfl (PartsE.cons rfl PartsE.nil)))) fun b_B42_30 w hzB42_30 hAB42_30=>?_)
 have hM:=hM.plus hAB42_30
 replace hM:MemL _ (pt b_B42_30 (encs ([84,82,67,49]:List UInt8)) 5 :: pt b_B42_1 (RRecord.enc (RRecord.mk (RInput.mk s1 s3) s7 x0.end_)) 36 :: Lr):=hM
 intro a hF
 refine s_val hF (r_assign hF rfl rfl) rfl rfl rfl fun a hF=>?_
 refine c_nil (n_then ?_)
 refine c_seq ?_
 refine c_region ?_
 refine s_val hF (r_move hF rfl rfl) rfl rfl rfl fun a hF=>?_
 refine s_val hF (r_fieldAddr (off':=0) Tryz.underlying36 rfl in30 rfl hF rfl rfl rfl) rfl rfl rfl fun a hF=>?_
 refine s_val hF (r_fieldAddr (off':=0) Tryz.underlying30 rfl in23 rfl hF rfl rfl rfl) rfl rfl rfl fun a hF=>?_
 refine s_val hF (r_load1 Tryz.isAgg23 hF rfl rfl ((hM.cells (i:=1) rfl (RRecord.c_in_ _)).get 0 (RInput.g_ctx _))) rfl rfl rfl fun a hF=>?_
 refine s_val hF (r_lenL (f2 _ (hsub _ (dropM hM 2))) Tryz.underlying23 hF rfl rfl) rfl rfl rfl fun a hF=>?_
 have hM:=hM.ptRow (lo:=0) (i:=0) (n:=4) (c:=4) rfl rfl (Nat.zero_le _) rfl rfl (by decide)
 obtain ⟨y1113,hy1113,hP⟩:=bind_some hP
 refine s_eff hF rfl rfl rfl (w_call (xs:=[.tmp 31,.tmp 35,.const (.int .i64 (2))]) Tryz.call108 hF rfl rfl (ref23_low_calls hy1113 hM ) fun v w hR=>?_)
 obtain ⟨s1114,rfl,hM⟩:=hR
 replace hM:MemL _ (rowL 0 s1114 5 y1113 :: pt b_B42_1 (RRecord.enc (RRecord.mk (RInput.mk s1 s3) s7 x0.end_)) 36 :: Lr):=hM
 intro a hF
 refine s_val hF (r_assign hF rfl rfl) rfl rfl rfl fun a hF=>?_
 refine c_nil (n_then ?_)
 refine c_seq ?_
 refine c_region ?_
 refine s_val hF (r_move hF rfl rfl) rfl rfl rfl fun a hF=>?_
 refine s_val hF (r_fieldAddr (off':=0) Tryz.underlying36 rfl in30 rfl hF rfl rfl rfl) rfl rfl rfl fun a hF=>?_
 refine s_val hF (r_fieldAddr (off':=0) Tryz.underlying30 rfl in23 rfl hF rfl rfl rfl) rfl rfl rfl fun a hF=>?_
 refine s_val hF (r_load1 Tryz.isAgg23 hF rfl rfl ((hM.cells (i:=1) rfl (RRecord.c_in_ _)).get 0 (RInput.g_ctx _))) rfl rfl rfl fun a hF=>?_
 obtain ⟨x1117,hx1117,hP⟩:=bind_some hP
 refine s_eff hF rfl rfl rfl (w_appX (X:=UInt8) hx1117 Tryz.underlying23 in5 rfl rfl rfl rfl hF rfl rfl rfl (hM.own (X:=UInt8) (i:=0) rfl) (f2 _ (hsub _ (dropM hM 2))) fun s1116 w hUs1116=>?_)
 have hM:=hM.chg hUs1116 (i:=0) rfl
 replace hM:MemL _ (rowL 0 s1116 5 x1117 :: pt b_B42_1 (RRecord.enc (RRecord.mk (RInput.mk s1 s3) s7 x0.end_)) 36 :: Lr):=hM
 intro a hF
 refine s_val hF (r_assign hF rfl rfl) rfl rfl rfl fun a hF=>?_
 refine c_nil (n_then ?_)
 refine c_seq ?_
 refine c_region ?_
 refine s_val hF (r_move hF rfl rfl) rfl rfl rfl fun a hF=>?_
 refine s_val hF (r_fieldAddr (off':=0) Tryz.underlying36 rfl in30 rfl hF rfl rfl rfl) rfl rfl rfl fun a hF=>?_
 refine s_val hF (r_fieldAddr (off':=1) Tryz.underlying30 rfl in28 rfl hF rfl rfl rfl) rfl rfl rfl fun a hF=>?_
 refine s_val hF (r_load1 Tryz.isAgg28 hF rfl rfl ((hM.cells (i:=1) rfl (RRecord.c_in_ _)).get 1 (RInput.g_tables _))) rfl rfl rfl fun a hF=>?_
 refine s_val hF (r_lenD (f5 _ (hsub _ (dropM hM 2))) q6.len Tryz.underlying28 hF rfl rfl) rfl rfl rfl fun a hF=>?_
 refine s_val hF (r_convB Tryz.underlying3 Tryz.underlying5 hF rfl rfl) rfl rfl rfl fun a hF=>?_
 refine s_eff hF rfl rfl rfl (w_slice1 (X:=UInt8) (y:=(Fw.byteOf (x0.in_.tables.length:Int))) Tryz.underlying23 in5 rfl rfl rfl rfl hF rfl rfl rfl fun b_B42_48 w hzB42_48 hAB42_48=>?_)
 have hM:=hM.plus hAB42_48
 replace hM:MemL _ (pt b_B42_48 (encs ([(Fw.byteOf (x0.in_.tables.length:Int))]:List UInt8)) 5 :: rowL 0 s1116 5 x1117 :: pt b_B42_1 (RRecord.enc (RRecord.mk (RInput.mk s1 s3) s7 x0.end_)) 36 :: Lr):=hM
 intro a hF
 obtain ⟨x1119,hx1119,hP⟩:=bind_some hP
 refine s_eff hF rfl rfl rfl (w_appX (X:=UInt8) hx1119 Tryz.underlying23 in5 rfl rfl rfl rfl hF rfl rfl rfl (hM.own (X:=UInt8) (i:=1) rfl) (hM.ptS (X:=UInt8) (i:=0) (n:=1) (c:=1) rfl rfl rfl (Nat.le_refl _)) fun s1118 w hUs1118=>?_)
 have hM:=hM.chg hUs1118 (i:=1) rfl
 replace hM:MemL _ (pt b_B42_48 (encs ([(Fw.byteOf (x0.in_.tables.length:Int))]:List UInt8)) 5 :: rowL 0 s1118 5 x1119 :: pt b_B42_1 (RRecord.enc (RRecord.mk (RInput.mk s1 s3) s7 x0.end_)) 36 :: Lr):=hM
 intro a hF
 refine s_val hF (r_assign hF rfl rfl) rfl rfl rfl fun a hF=>?_
 refine c_nil (n_then ?_)
 refine c_seq ?_
 refine c_joinX hF hM hP (fun F x a w=>match x with | v1244=>∃ (s1245:SV),Fr 104 [(5,(s1245).v),(1,.pointer (some ⟨b_B42_1,0,none⟩)),(2,(SV.nil).v),(3,.int .i64 0)] a ∧ MemL w (rowL 0 s1245 5 v1244 :: pt b_B42_1 (RRecord.enc (RRecord.mk (RInput.mk s1 s3) s7 x0.end_)) 36 :: Lr)) (fun o_j3 hP hK_j3 hF hM=>?_) ?_
 ·refine c_seq ?_
  refine c_region ?_
  refine s_val hF (r_assign hF rfl rfl) rfl rfl rfl fun a hF=>?_
  refine c_nil (n_then ?_)
  refine c_block ?_
  refine c_loopX hF hM hP (fun F x a w=>match x with | (v1287,v1290)=>∃ (s1288:SV),Fr 104 [(5,(s1288).v),(6,.int .i64 v1290),(1,.pointer (some ⟨b_B42_1,0,none⟩)),(2,(SV.nil).v),(3,.int .i64 0)] a ∧ MemL w (rowL 0 s1288 5 v1287 :: pt b_B42_1 (RRecord.enc (RRecord.mk (RInput.mk s1 s3) s7 x0.end_)) 36 :: Lr)) (fun hF hM=>⟨s1118,hF.to ⟨rfl,rfl,rfl,rfl,rfl,trivial⟩,selM hM [1,2] 3 rfl⟩) ?_
  rintro ⟨v1287,v1290⟩ a w o_l4 hP hK_l4 ⟨s1288,hF,hM⟩
  replace hP:Sh.ref23_Encode_l4 x0 v1287 v1290 = _:=hP
  unfold Sh.ref23_Encode_l4 at hP
  refine c_seq ?_
  refine c_seq ?_
  refine c_region ?_
  refine s_val hF (r_move hF rfl rfl) rfl rfl rfl fun a hF=>?_
  refine s_val hF (r_fieldAddr (off':=0) Tryz.underlying36 rfl in30 rfl hF rfl rfl rfl) rfl rfl rfl fun a hF=>?_
  refine s_val hF (r_fieldAddr (off':=1) Tryz.underlying30 rfl in28 rfl hF rfl rfl rfl) rfl rfl rfl fun a hF=>?_
  refine s_val hF (r_load1 Tryz.isAgg28 hF rfl rfl ((hM.cells (i:=1) rfl (RRecord.c_in_ _)).get 1 (RInput.g_tables _))) rfl rfl rfl fun a hF=>?_
  refine s_val hF (r_lenD (f5 _ (hsub _ (dropM hM 2))) q6.len Tryz.underlying28 hF rfl rfl) rfl rfl rfl fun a hF=>?_
  refine s_val hF (r_lss hF rfl rfl rfl) rfl rfl rfl fun a hF=>?_
  refine c_nil (n_then ?_)
  refine c_cond hF (c:=.tmp 55) rfl (fun hb1292=>?_) (fun hb1292=>?_)
  ·have hP:=Fx.cT hb1292 hP
   refine c_skip (n_then ?_)
   refine c_seq ?_
   refine c_block ?_
   refine c_seq ?_
   refine c_region ?_
   refine s_val hF (r_move hF rfl rfl) rfl rfl rfl fun a hF=>?_
   refine s_val hF (r_fieldAddr (off':=0) Tryz.underlying36 rfl in30 rfl hF rfl rfl rfl) rfl rfl rfl fun a hF=>?_
   refine s_val hF (r_fieldAddr (off':=1) Tryz.underlying30 rfl in28 rfl hF rfl rfl rfl) rfl rfl rfl fun a hF=>?_
   refine s_val hF (r_load1 Tryz.isAgg28 hF rfl rfl ((hM.cells (i:=1) rfl (RRecord.c_in_ _)).get 1 (RInput.g_tables _))) rfl rfl rfl fun a hF=>?_
   refine s_val hF (r_move hF rfl rfl) rfl rfl rfl fun a hF=>?_
   obtain ⟨x1301,hx1301,hP⟩:=bind_some hP
   have h0x1301:=get_some hx1301
   obtain ⟨yx1301,hgx1301,hrx1301⟩:=Each.getr q6 h0x1301.2
   have hdx1301:=Each.bd q6 (get_bd hx1301)
   refine s_val hF (r_indexZ (sz:=1) (f5 _ (hsub _ (dropM hM 2))) Tryz.underlying28 in23 rfl hF rfl rfl rfl hdx1301) rfl rfl rfl fun a hF=>?_
   refine s_val hF (r_load1 Tryz.isAgg23 hF rfl rfl ((((f5 _ (hsub _ (dropM hM 2))).elemS hgx1301)).get 0 rfl)) rfl rfl rfl fun a hF=>?_
   refine s_val hF (r_lenL (hrx1301 _ (hsub _ (dropM hM 2))) Tryz.underlying23 hF rfl rfl) rfl rfl rfl fun a hF=>?_
   obtain ⟨y1303,hy1303,hP⟩:=bind_some hP
   refine s_eff hF rfl rfl rfl (w_call (xs:=[.tmp 58,.tmp 65,.const (.int .i64 (2))]) Tryz.call108 hF rfl rfl (ref23_low_calls hy1303 hM ) fun v w hR=>?_)
   obtain ⟨s1304,rfl,hM⟩:=hR
   replace hM:MemL _ (rowL 0 s1304 5 y1303 :: pt b_B42_1 (RRecord.enc (RRecord.mk (RInput.mk s1 s3) s7 x0.end_)) 36 :: Lr):=hM
   intro a hF
   refine s_val hF (r_assign hF rfl rfl) rfl rfl rfl fun a hF=>?_
   refine c_nil (n_then ?_)
   refine c_region ?_
   refine s_val hF (r_move hF rfl rfl) rfl rfl rfl fun a hF=>?_
   refine s_val hF (r_fieldAddr (off':=0) Tryz.underlying36 rfl in30 rfl hF rfl rfl rfl) rfl rfl rfl fun a hF=>?_
   refine s_val hF (r_fieldAddr (off':=1) Tryz.underlying30 rfl in28 rfl hF rfl rfl rfl) rfl rfl rfl fun a hF=>?_
   refine s_val hF (r_load1 Tryz.isAgg28 hF rfl rfl ((hM.cells (i:=1) rfl (RRecord.c_in_ _)).get 1 (RInput.g_tables _))) rfl rfl rfl fun a hF=>?_
   refine s_val hF (r_move hF rfl rfl) rfl rfl rfl fun a hF=>?_
   obtain ⟨x1306,hx1306,hP⟩:=bind_some hP
   have h0x1306:=get_some hx1306
   obtain ⟨yx1306,hgx1306,hrx1306⟩:=Each.getr q6 h0x1306.2
   have hdx1306:=Each.bd q6 (get_bd hx1306)
   refine s_val hF (r_indexZ (sz:=1) (f5 _ (hsub _ (dropM hM 2))) Tryz.underlying28 in23 rfl hF rfl rfl rfl hdx1306) rfl rfl rfl fun a hF=>?_
   refine s_val hF (r_load1 Tryz.isAgg23 hF rfl rfl ((((f5 _ (hsub _ (dropM hM 2))).elemS hgx1306)).get 0 rfl)) rfl rfl rfl fun a hF=>?_
   obtain ⟨x1308,hx1308,hP⟩:=bind_some hP
   refine s_eff hF rfl rfl rfl (w_appX (X:=UInt8) hx1308 Tryz.underlying23 in5 rfl rfl rfl rfl hF rfl rfl rfl (hM.own (X:=UInt8) (i:=0) rfl) (hrx1306 _ (hsub _ (dropM hM 2))) fun s1307 w hUs1307=>?_)
   have hM:=hM.chg hUs1307 (i:=0) rfl
   replace hM:MemL _ (rowL 0 s1307 5 x1308 :: pt b_B42_1 (RRecord.enc (RRecord.mk (RInput.mk s1 s3) s7 x0.end_)) 36 :: Lr):=hM
   intro a hF
   refine s_val hF (r_assign hF rfl rfl) rfl rfl rfl fun a hF=>?_
   refine c_nil (n_block (n_then ?_))
   refine c_region ?_
   refine s_val hF (r_move hF rfl rfl) rfl rfl rfl fun a hF=>?_
   refine s_val hF (r_add hF rfl rfl rfl) rfl rfl rfl fun a hF=>?_
   refine s_val hF (r_assign hF rfl rfl) rfl rfl rfl fun a hF=>?_
   refine c_nil (n_then ?_)
   have hP:=Option.some.inj hP
   subst hP
   exact ⟨(x1308,(IntKind.i64.wrap (v1290 + 1))),rfl,s1307,hF.to ⟨rfl,rfl,rfl,rfl,rfl,trivial⟩,hM⟩
  have hP:=Fx.cF hb1292 hP
  refine c_exit (x_then (x_then (x_hit ?_)))
  refine n_then ?_
  have hP:=Option.some.inj hP
  subst hP
  have hP:=hK_l4 _ rfl
  subst hP
  exact ⟨v1287,rfl,s1288,hF.to ⟨rfl,rfl,rfl,rfl,trivial⟩,hM⟩
 rintro v1244 a w hP ⟨s1245,hF,hM⟩
 replace hP:Sh.ref23_Encode_j3 x0 v1244 = _:=hP
 unfold Sh.ref23_Encode_j3 at hP
 refine n_then ?_
 refine c_seq ?_
 refine c_region ?_
 refine s_val hF (r_move hF rfl rfl) rfl rfl rfl fun a hF=>?_
 refine s_val hF (r_fieldAddr (off':=3) Tryz.underlying36 rfl in34 rfl hF rfl rfl rfl) rfl rfl rfl fun a hF=>?_
 refine s_val hF (r_load1 Tryz.isAgg34 hF rfl rfl (hM.cell (i:=1) rfl (RRecord.g_end_ _))) rfl rfl rfl fun a hF=>?_
 refine s_val hF (r_convB Tryz.underlying34 Tryz.underlying5 hF rfl rfl) rfl rfl rfl fun a hF=>?_
 refine s_eff hF rfl rfl rfl (w_slice1 (X:=UInt8) (y:=(Fw.byteOf x0.end_)) Tryz.underlying23 in5 rfl rfl rfl rfl hF rfl rfl rfl fun b_B42_79 w hzB42_79 hAB42_79=>?_)
 have hM:=hM.plus hAB42_79
 replace hM:MemL _ (pt b_B42_79 (encs ([(Fw.byteOf x0.end_)]:List UInt8)) 5 :: rowL 0 s1245 5 v1244 :: pt b_B42_1 (RRecord.enc (RRecord.mk (RInput.mk s1 s3) s7 x0.end_)) 36 :: Lr):=hM
 intro a hF
 obtain ⟨x1310,hx1310,hP⟩:=bind_some hP
 refine s_eff hF rfl rfl rfl (w_appX (X:=UInt8) hx1310 Tryz.underlying23 in5 rfl rfl rfl rfl hF rfl rfl rfl (hM.own (X:=UInt8) (i:=1) rfl) (hM.ptS (X:=UInt8) (i:=0) (n:=1) (c:=1) rfl rfl rfl (Nat.le_refl _)) fun s1309 w hUs1309=>?_)
 have hM:=hM.chg hUs1309 (i:=1) rfl
 replace hM:MemL _ (pt b_B42_79 (encs ([(Fw.byteOf x0.end_)]:List UInt8)) 5 :: rowL 0 s1309 5 x1310 :: pt b_B42_1 (RRecord.enc (RRecord.mk (RInput.mk s1 s3) s7 x0.end_)) 36 :: Lr):=hM
 intro a hF
 refine s_val hF (r_assign hF rfl rfl) rfl rfl rfl fun a hF=>?_
 refine c_nil (n_then ?_)
 refine c_seq ?_
 refine c_region ?_
 refine s_val hF (r_move hF rfl rfl) rfl rfl rfl fun a hF=>?_
 refine s_val hF (r_fieldAddr (off':=2) Tryz.underlying36 rfl in33 rfl hF rfl rfl rfl) rfl rfl rfl fun a hF=>?_
 refine s_val hF (r_load1 Tryz.isAgg33 hF rfl rfl (hM.cell (i:=2) rfl (RRecord.g_marks _))) rfl rfl rfl fun a hF=>?_
 refine s_val hF (r_lenD (f9 _ (hsub _ (dropM hM 3))) q10.len Tryz.underlying33 hF rfl rfl) rfl rfl rfl fun a hF=>?_
 obtain ⟨y1312,hy1312,hP⟩:=bind_some hP
 refine s_eff hF rfl rfl rfl (w_call (xs:=[.tmp 81,.tmp 84,.const (.int .i64 (4))]) Tryz.call108 hF rfl rfl (ref23_low_calls hy1312 (selM hM [1,0,2] 3 rfl) ) fun v w hR=>?_)
 obtain ⟨s1313,rfl,hM⟩:=hR
 replace hM:MemL _ (rowL 0 s1313 5 y1312 :: pt b_B42_79 (encs ([(Fw.byteOf x0.end_)]:List UInt8)) 5 :: pt b_B42_1 (RRecord.enc (RRecord.mk (RInput.mk s1 s3) s7 x0.end_)) 36 :: Lr):=hM
 intro a hF
 refine s_val hF (r_assign hF rfl rfl) rfl rfl rfl fun a hF=>?_
 refine c_nil (n_then ?_)
 refine c_seq ?_
 refine c_joinX hF hM hP (fun F x a w=>match x with | v1523=>∃ (s1524:SV),Fr 104 [(5,(s1524).v),(2,(SV.nil).v),(3,.int .i64 0)] a ∧ MemL w (rowL 0 s1524 5 v1523 :: Lr)) (fun o_j5 hP hK_j5 hF hM=>?_) ?_
 ·refine c_seq ?_
  refine c_region ?_
  refine s_val hF (r_assign hF rfl rfl) rfl rfl rfl fun a hF=>?_
  refine c_nil (n_then ?_)
  refine c_block ?_
  refine c_loopX hF hM hP (fun F x a w=>match x with | (v1594,v1597)=>∃ (s1595:SV),Fr 104 [(5,(s1595).v),(7,.int .i64 v1597),(1,.pointer (some ⟨b_B42_1,0,none⟩)),(2,(SV.nil).v),(3,.int .i64 0)] a ∧ MemL w (rowL 0 s1595 5 v1594 :: pt b_B42_1 (RRecord.enc (RRecord.mk (RInput.mk s1 s3) s7 x0.end_)) 36 :: Lr)) (fun hF hM=>⟨s1313,hF.to ⟨rfl,rfl,rfl,rfl,rfl,trivial⟩,selM hM [0,2] 3 rfl⟩) ?_
  rintro ⟨v1594,v1597⟩ a w o_l6 hP hK_l6 ⟨s1595,hF,hM⟩
  replace hP:Sh.ref23_Encode_l6 x0 v1594 v1597 = _:=hP
  unfold Sh.ref23_Encode_l6 at hP
  refine c_seq ?_
  refine c_seq ?_
  refine c_region ?_
  refine s_val hF (r_move hF rfl rfl) rfl rfl rfl fun a hF=>?_
  refine s_val hF (r_fieldAddr (off':=2) Tryz.underlying36 rfl in33 rfl hF rfl rfl rfl) rfl rfl rfl fun a hF=>?_
  refine s_val hF (r_load1 Tryz.isAgg33 hF rfl rfl (hM.cell (i:=1) rfl (RRecord.g_marks _))) rfl rfl rfl fun a hF=>?_
  refine s_val hF (r_lenD (f9 _ (hsub _ (dropM hM 2))) q10.len Tryz.underlying33 hF rfl rfl) rfl rfl rfl fun a hF=>?_
  refine s_val hF (r_lss hF rfl rfl rfl) rfl rfl rfl fun a hF=>?_
  refine c_nil (n_then ?_)
  refine c_cond hF (c:=.tmp 90) rfl (fun hb1599=>?_) (fun hb1599=>?_)
  ·have hP:=Fx.cT hb1599 hP
   refine c_skip (n_then ?_)
   refine c_seq ?_
   refine c_block ?_
   refine c_region ?_
   refine s_val hF (r_move hF rfl rfl) rfl rfl rfl fun a hF=>?_
   refine s_val hF (r_fieldAddr (off':=2) Tryz.underlying36 rfl in33 rfl hF rfl rfl rfl) rfl rfl rfl fun a hF=>?_
   refine s_val hF (r_load1 Tryz.isAgg33 hF rfl rfl (hM.cell (i:=1) rfl (RRecord.g_marks _))) rfl rfl rfl fun a hF=>?_
   refine s_val hF (r_move hF rfl rfl) rfl rfl rfl fun a hF=>?_
   obtain ⟨x1615,hx1615,hP⟩:=bind_some hP
   have h0x1615:=get_some hx1615
   obtain ⟨yx1615,hgx1615,hrx1615⟩:=Each.getr q10 h0x1615.2
   have hdx1615:=Each.bd q10 (get_bd hx1615)
   obtain ⟨s1616,s1618,s1620,hs1621,s1624,rfl,f1617,f1619,f1622,q1623,f1625⟩:=hrx1615
   refine s_val hF (r_indexZ (sz:=7) (f9 _ (hsub _ (dropM hM 2))) Tryz.underlying33 in60 rfl hF rfl rfl rfl hdx1615) rfl rfl rfl fun a hF=>?_
   refine s_val hF (r_loadn Tryz.isAgg60 Tryz.sizeOf60 hF rfl rfl (RMark.len _) (((f9 _ (hsub _ (dropM hM 2))).elemS hgx1615))) rfl rfl rfl fun a hF=>?_
   obtain ⟨y1627,hy1627,hP⟩:=bind_some hP
   refine s_eff hF rfl rfl rfl (w_call (xs:=[.tmp 93,.tmp 98]) Tryz.call109 hF rfl rfl (ref23_mark_calls hy1627 hM (Bf:=Bf) (fun w hM=>hsub _ (dropM hM 1)) f1617 f1619 f1622 q1623 f1625) fun v w hR=>?_)
   obtain ⟨s1628,rfl,hM⟩:=hR
   replace hM:MemL _ (rowL 0 s1628 5 y1627 :: pt b_B42_1 (RRecord.enc (RRecord.mk (RInput.mk s1 s3) s7 x0.end_)) 36 :: Lr):=hM
   intro a hF
   refine s_val hF (r_assign hF rfl rfl) rfl rfl rfl fun a hF=>?_
   refine c_nil (n_block (n_then ?_))
   refine c_region ?_
   refine s_val hF (r_move hF rfl rfl) rfl rfl rfl fun a hF=>?_
   refine s_val hF (r_add hF rfl rfl rfl) rfl rfl rfl fun a hF=>?_
   refine s_val hF (r_assign hF rfl rfl) rfl rfl rfl fun a hF=>?_
   refine c_nil (n_then ?_)
   have hP:=Option.some.inj hP
   subst hP
   exact ⟨(y1627,(IntKind.i64.wrap (v1597 + 1))),rfl,s1628,hF.to ⟨rfl,rfl,rfl,rfl,rfl,trivial⟩,hM⟩
  have hP:=Fx.cF hb1599 hP
  refine c_exit (x_then (x_then (x_hit ?_)))
  refine n_then ?_
  have hP:=Option.some.inj hP
  subst hP
  have hP:=hK_l6 _ rfl
  subst hP
  exact ⟨v1594,rfl,s1595,hF.to ⟨rfl,rfl,rfl,trivial⟩,selM hM [0] 2 rfl⟩
 rintro v1523 a w hP ⟨s1524,hF,hM⟩
 replace hP:Sh.ref23_Encode_j5 v1523 = _:=hP
 unfold Sh.ref23_Encode_j5 at hP
 refine n_then ?_
 refine c_seq ?_
 refine c_seq ?_
 refine c_region ?_
 refine s_val hF (r_move hF rfl rfl) rfl rfl rfl fun a hF=>?_
 refine s_val hF (r_lenL (hM.rowS (X:=UInt8) (i:=0) rfl) Tryz.underlying23 hF rfl rfl) rfl rfl rfl fun a hF=>?_
 refine s_val hF (r_gtr hF rfl rfl rfl) rfl rfl rfl fun a hF=>?_
 refine c_nil (n_then ?_)
 refine c_cond hF (c:=.tmp 102) rfl (fun hb1631=>?_) (fun hb1631=>?_)
 ·have hP:=Fx.cT hb1631 hP
  refine c_seq ?_
  refine c_region ?_
  refine s_val hF (r_assign hF rfl rfl) rfl rfl rfl fun a hF=>?_
  refine s_val hF (r_assign hF rfl rfl) rfl rfl rfl fun a hF=>?_
  refine c_nil (n_then ?_)
  refine c_ret ?_
  have hM:=hM.rowNil (X:=UInt8) 0 5
  have hP:=Option.some.inj hP
  subst hP
  refine e_ret (rs:=[.tmp 2,.tmp 3]) Tryz.results42 hF (res_tmp hF rfl (res_tmp hF rfl res_nil)) rfl ?_
  exact ⟨SV.nil,rfl,selM hM [0] 2 rfl⟩
 have hP:=Fx.cF hb1631 hP
 refine c_skip (n_then ?_)
 refine c_seq ?_
 refine c_region ?_
 refine s_val hF (r_move hF rfl rfl) rfl rfl rfl fun a hF=>?_
 refine s_val hF (r_assign hF rfl rfl) rfl rfl rfl fun a hF=>?_
 refine s_val hF (r_assign hF rfl rfl) rfl rfl rfl fun a hF=>?_
 refine c_nil (n_then ?_)
 refine c_ret ?_
 have hP:=Option.some.inj hP
 subst hP
 refine e_ret (rs:=[.tmp 2,.tmp 3]) Tryz.results42 hF (res_tmp hF rfl (res_tmp hF rfl res_nil)) rfl ?_
 exact ⟨s1524,rfl,hM⟩
end Go.Proofs
end
