/- Ground for this claim: The call of TraceEncodes returns true, and what is read reads as before. Condition: what is read is of bulk at most 1048576. -/
import Derived.Test.YtmgnkohlfbjjnaaGreatRProg
import Derived.KernelRfl
import Derived.Test.YtmgnkohlfbjjnaaGreatRTe7
section
namespace Go.Proofs
open Go.Fw Go.Fx
set_option maxRecDepth 10000
set_option linter.unusedVariables false
set_option linter.unusedSimpArgs false
set_option maxHeartbeats 4000000 in
theorem law00_SameBytes_calls {x0:List UInt8} {x1:List UInt8} {s1:SV} {s3:SV} {out:Bool} {w0:World} {Bf:World → Prop} {Lr:List Res} (hP:Sh.law00_SameBytes x0 x1 = some out) (hM:MemL w0 (Lr)) (hsub:∀ w,MemL w Lr → Bf w) (f2:LIn Bf s1 x0) (f4:LIn Bf s3 x1):Calls Tryz.prog 43 #[(s1).v,(s3).v] w0 (Ret fun v w'=>v = .bool out ∧ MemL w' (Lr)):=by
 unfold Sh.law00_SameBytes at hP
 refine calls_enter (vs:=[(s1).v,(s3).v]) Tryz.func43 rfl Tryz.ntmps43 rfl fun a hF=>?_
 refine c_seq ?_
 refine c_region ?_
 refine s_val hF (r_assign hF rfl rfl) rfl rfl rfl fun a hF=>?_
 refine c_nil (n_then ?_)
 refine c_seq ?_
 refine c_region ?_
 refine s_val hF (r_move hF rfl rfl) rfl rfl rfl fun a hF=>?_
 refine s_val hF (r_convStr0 (f2 _ (hsub _ (dropM hM 0))) Tryz.underlying23 Tryz.underlying5 Tryz.underlying9 hF rfl rfl) rfl rfl rfl fun a hF=>?_
 refine s_val hF (r_move hF rfl rfl) rfl rfl rfl fun a hF=>?_
 refine s_val hF (r_convStr0 (f4 _ (hsub _ (dropM hM 0))) Tryz.underlying23 Tryz.underlying5 Tryz.underlying9 hF rfl rfl) rfl rfl rfl fun a hF=>?_
 refine s_val hF (r_eqlStr (i:=x0) (j:=x1) hF rfl rfl rfl) rfl rfl rfl fun a hF=>?_
 refine s_val hF (r_assign hF rfl rfl) rfl rfl rfl fun a hF=>?_
 refine c_nil (n_then ?_)
 refine c_ret ?_
 have hP:=Option.some.inj hP
 subst hP
 refine e_ret1 Tryz.results43 hF rfl ?_
 exact ⟨rfl,hM⟩
set_option maxHeartbeats 4000000 in
theorem law00_SameInts_calls {x0:List Int} {x1:List Int} {s1:SV} {s3:SV} {out:Bool} {w0:World} {Bf:World → Prop} {Lr:List Res} (hP:Sh.law00_SameInts x0 x1 = some out) (hM:MemL w0 (Lr)) (hsub:∀ w,MemL w Lr → Bf w) (f2:LIn Bf s1 x0) (f4:LIn Bf s3 x1):Calls Tryz.prog 89 #[(s1).v,(s3).v] w0 (Ret fun v w'=>v = .bool out ∧ MemL w' (Lr)):=by
 unfold Sh.law00_SameInts at hP
 refine calls_enter (vs:=[(s1).v,(s3).v]) Tryz.func89 rfl Tryz.ntmps89 rfl fun a hF=>?_
 refine c_seq ?_
 refine c_region ?_
 refine s_val hF (r_assign hF rfl rfl) rfl rfl rfl fun a hF=>?_
 refine c_nil (n_then ?_)
 refine c_seq ?_
 refine c_seq ?_
 refine c_region ?_
 refine s_val hF (r_move hF rfl rfl) rfl rfl rfl fun a hF=>?_
 refine s_val hF (r_lenL (f2 _ (hsub _ (dropM hM 0))) Tryz.underlying52 hF rfl rfl) rfl rfl rfl fun a hF=>?_
 refine s_val hF (r_move hF rfl rfl) rfl rfl rfl fun a hF=>?_
 refine s_val hF (r_lenL (f4 _ (hsub _ (dropM hM 0))) Tryz.underlying52 hF rfl rfl) rfl rfl rfl fun a hF=>?_
 refine s_val hF (r_neq hF rfl rfl rfl) rfl rfl rfl fun a hF=>?_
 refine c_nil (n_then ?_)
 refine c_cond hF (c:=.tmp 10) rfl (fun hb122=>?_) (fun hb122=>?_)
 ·have hP:=Fx.cT hb122 hP
  refine c_seq ?_
  refine c_region ?_
  refine s_val hF (r_assign hF rfl rfl) rfl rfl rfl fun a hF=>?_
  refine c_nil (n_then ?_)
  refine c_ret ?_
  have hP:=Option.some.inj hP
  subst hP
  refine e_ret1 Tryz.results89 hF rfl ?_
  exact ⟨rfl,hM⟩
 have hP:=Fx.cF hb122 hP
 refine c_skip (n_then ?_)
 refine c_seq ?_
 refine c_joinX hF hM hP (fun F x a w=>match x with | _=>Fr 26 [(4,.bool false)] a ∧ MemL w (Lr)) (fun o_j1 hP hK_j1 hF hM=>?_) ?_
 ·refine c_seq ?_
  refine c_region ?_
  refine s_val hF (r_assign hF rfl rfl) rfl rfl rfl fun a hF=>?_
  refine c_nil (n_then ?_)
  refine c_block ?_
  refine c_loopX hF hM hP (fun F x a w=>match x with | v224=>Fr 26 [(5,.int .i64 v224),(0,(s1).v),(1,(s3).v),(4,.bool false)] a ∧ MemL w (Lr)) (fun hF hM=>⟨hF.to ⟨rfl,rfl,rfl,rfl,trivial⟩,hM⟩) ?_
  rintro v224 a w o_l2 hP hK_l2 ⟨hF,hM⟩
  replace hP:Sh.law00_SameInts_l2 x0 x1 v224 = _:=hP
  unfold Sh.law00_SameInts_l2 at hP
  refine c_seq ?_
  refine c_seq ?_
  refine c_region ?_
  refine s_val hF (r_move hF rfl rfl) rfl rfl rfl fun a hF=>?_
  refine s_val hF (r_move hF rfl rfl) rfl rfl rfl fun a hF=>?_
  refine s_val hF (r_lenL (f2 _ (hsub _ (dropM hM 0))) Tryz.underlying52 hF rfl rfl) rfl rfl rfl fun a hF=>?_
  refine s_val hF (r_lss hF rfl rfl rfl) rfl rfl rfl fun a hF=>?_
  refine c_nil (n_then ?_)
  refine c_cond hF (c:=.tmp 14) rfl (fun hb226=>?_) (fun hb226=>?_)
  ·have hP:=Fx.cT hb226 hP
   refine c_skip (n_then ?_)
   refine c_seq ?_
   refine c_block ?_
   refine c_seq ?_
   refine d_startT mixed (by kernel_rfl) hM [] 0 rfl fun hch=>?_
   refine d_val hF hch 0 rfl (by kernel_rfl) rfl rfl rfl (fun w hM=>(r_move hF rfl rfl)) fun a hF=>?_
   refine d_val hF hch 1 rfl (by kernel_rfl) rfl rfl rfl (fun w hM=>(r_move hF rfl rfl)) fun a hF=>?_
   obtain ⟨x234,hx234,hP⟩:=bind_some hP
   have h0x234:=get_some hx234
   refine d_val hF hch 2 rfl (by kernel_rfl) rfl rfl rfl (fun w hM=>(r_indexZ (sz:=1) (f2 _ (hsub _ (dropM hM 0))) Tryz.underlying52 in3 rfl hF rfl rfl rfl (get_bd hx234))) fun a hF=>?_
   refine d_val hF hch 3 rfl (by kernel_rfl) rfl rfl rfl (fun w hM=>(r_load1 Tryz.isAgg3 hF rfl rfl ((((f2 _ (hsub _ (dropM hM 0))).elemS h0x234.2)).get 0 rfl))) fun a hF=>?_
   refine d_val hF hch 4 rfl (by kernel_rfl) rfl rfl rfl (fun w hM=>(r_move hF rfl rfl)) fun a hF=>?_
   refine d_val hF hch 5 rfl (by kernel_rfl) rfl rfl rfl (fun w hM=>(r_move hF rfl rfl)) fun a hF=>?_
   obtain ⟨x235,hx235,hP⟩:=bind_some hP
   have h0x235:=get_some hx235
   refine d_val hF hch 6 rfl (by kernel_rfl) rfl rfl rfl (fun w hM=>(r_indexZ (sz:=1) (f4 _ (hsub _ (dropM hM 0))) Tryz.underlying52 in3 rfl hF rfl rfl rfl (get_bd hx235))) fun a hF=>?_
   refine d_val hF hch 7 rfl (by kernel_rfl) rfl rfl rfl (fun w hM=>(r_load1 Tryz.isAgg3 hF rfl rfl ((((f4 _ (hsub _ (dropM hM 0))).elemS h0x235.2)).get 0 rfl))) fun a hF=>?_
   refine d_val hF hch 8 rfl (by kernel_rfl) rfl rfl rfl (fun w hM=>(r_neq hF rfl rfl rfl)) fun a hF=>?_
   refine d_end hch (by kernel_rfl) fun w hM=>?_
   refine n_then ?_
   refine c_cond hF (c:=.tmp 25) rfl (fun hb236=>?_) (fun hb236=>?_)
   ·have hP:=Fx.cT hb236 hP
    refine c_seq ?_
    refine c_region ?_
    refine s_val hF (r_assign hF rfl rfl) rfl rfl rfl fun a hF=>?_
    refine c_nil (n_then ?_)
    refine c_ret ?_
    have hP:=Option.some.inj hP
    subst hP
    have hP:=hK_l2 _ rfl
    subst hP
    have hP:=fin_inr hK_j1
    subst hP
    refine e_ret1 Tryz.results89 hF rfl ?_
    exact ⟨rfl,hM⟩
   have hP:=Fx.cF hb236 hP
   refine c_skip (n_block (n_then ?_))
   refine c_region ?_
   refine s_val hF (r_move hF rfl rfl) rfl rfl rfl fun a hF=>?_
   refine s_val hF (r_add hF rfl rfl rfl) rfl rfl rfl fun a hF=>?_
   refine s_val hF (r_assign hF rfl rfl) rfl rfl rfl fun a hF=>?_
   refine c_nil (n_then ?_)
   have hP:=Option.some.inj hP
   subst hP
   exact ⟨(IntKind.i64.wrap (v224 + 1)),rfl,hF.to ⟨rfl,rfl,rfl,rfl,trivial⟩,hM⟩
  have hP:=Fx.cF hb226 hP
  refine c_exit (x_then (x_then (x_hit ?_)))
  refine n_then ?_
  have hP:=Option.some.inj hP
  subst hP
  have hP:=hK_l2 _ rfl
  subst hP
  exact ⟨(),rfl,hF.to ⟨rfl,trivial⟩,hM⟩
 rintro ⟨⟩ a w hP ⟨hF,hM⟩
 replace hP:Sh.law00_SameInts_j1 = _:=hP
 unfold Sh.law00_SameInts_j1 at hP
 refine n_then ?_
 refine c_seq ?_
 refine c_region ?_
 refine s_val hF (r_assign hF rfl rfl) rfl rfl rfl fun a hF=>?_
 refine c_nil (n_then ?_)
 refine c_ret ?_
 have hP:=Option.some.inj hP
 subst hP
 refine e_ret1 Tryz.results89 hF rfl ?_
 exact ⟨rfl,hM⟩
set_option maxHeartbeats 4000000 in
theorem law00_CopyBytes_calls {x0:List UInt8} {s1:SV} {out:List UInt8} {w0:World} {Bf:World → Prop} {Lr:List Res} (hP:Sh.law00_CopyBytes x0 = some out) (hM:MemL w0 (Lr)) (hsub:∀ w,MemL w Lr → Bf w) (f2:LIn Bf s1 x0):Calls Tryz.prog 50 #[(s1).v] w0 (Ret fun v w'=>∃ (s6:SV),v = (s6).v ∧ MemL w' (rowL 0 s6 5 out :: Lr)):=by
 unfold Sh.law00_CopyBytes at hP
 refine calls_enter (vs:=[(s1).v]) Tryz.func50 rfl Tryz.ntmps50 rfl fun a hF=>?_
 refine c_seq ?_
 refine c_region ?_
 refine s_val hF (r_assign hF rfl rfl) rfl rfl rfl fun a hF=>?_
 refine c_nil (n_then ?_)
 refine c_seq ?_
 refine c_region ?_
 refine s_val hF (r_move hF rfl rfl) rfl rfl rfl fun a hF=>?_
 have hM:=hM.rowNil (X:=UInt8) 0 5
 obtain ⟨x10,hx10,hP⟩:=bind_some hP
 refine s_eff hF rfl rfl rfl (w_appX (X:=UInt8) hx10 Tryz.underlying23 in5 rfl rfl rfl rfl hF rfl rfl rfl (hM.own (X:=UInt8) (i:=0) rfl) (f2 _ (hsub _ (dropM hM 1))) fun s8 w hUs8=>?_)
 have hM:=hM.chg hUs8 (i:=0) rfl
 replace hM:MemL _ (rowL 0 s8 5 x10 :: Lr):=hM
 intro a hF
 refine s_val hF (r_assign hF rfl rfl) rfl rfl rfl fun a hF=>?_
 refine c_nil (n_then ?_)
 refine c_ret ?_
 have hP:=Option.some.inj hP
 subst hP
 refine e_ret1 Tryz.results50 hF rfl ?_
 exact ⟨s8,rfl,hM⟩
set_option maxHeartbeats 4000000 in
theorem law00_CopyInts_calls {x0:List Int} {s1:SV} {out:List Int} {w0:World} {Bf:World → Prop} {Lr:List Res} (hP:Sh.law00_CopyInts x0 = some out) (hM:MemL w0 (Lr)) (hsub:∀ w,MemL w Lr → Bf w) (f2:LIn Bf s1 x0):Calls Tryz.prog 81 #[(s1).v] w0 (Ret fun v w'=>∃ (s6:SV),v = (s6).v ∧ MemL w' (rowL 0 s6 3 out :: Lr)):=by
 unfold Sh.law00_CopyInts at hP
 refine calls_enter (vs:=[(s1).v]) Tryz.func81 rfl Tryz.ntmps81 rfl fun a hF=>?_
 refine c_seq ?_
 refine c_region ?_
 refine s_val hF (r_assign hF rfl rfl) rfl rfl rfl fun a hF=>?_
 refine c_nil (n_then ?_)
 refine c_seq ?_
 refine c_region ?_
 refine s_val hF (r_move hF rfl rfl) rfl rfl rfl fun a hF=>?_
 have hM:=hM.rowNil (X:=Int) 0 3
 obtain ⟨x10,hx10,hP⟩:=bind_some hP
 refine s_eff hF rfl rfl rfl (w_appX (X:=Int) hx10 Tryz.underlying52 in3 rfl rfl rfl rfl hF rfl rfl rfl (hM.own (X:=Int) (i:=0) rfl) (f2 _ (hsub _ (dropM hM 1))) fun s8 w hUs8=>?_)
 have hM:=hM.chg hUs8 (i:=0) rfl
 replace hM:MemL _ (rowL 0 s8 3 x10 :: Lr):=hM
 intro a hF
 refine s_val hF (r_assign hF rfl rfl) rfl rfl rfl fun a hF=>?_
 refine c_nil (n_then ?_)
 refine c_ret ?_
 have hP:=Option.some.inj hP
 subst hP
 refine e_ret1 Tryz.results81 hF rfl ?_
 exact ⟨s8,rfl,hM⟩
set_option maxHeartbeats 4000000 in
theorem law00_SameRows_calls {x0:List (List UInt8)} {x1:List (List UInt8)} {s1:SV} {hs2:List SV} {s5:SV} {hs6:List SV} {out:Bool} {w0:World} {Bf:World → Prop} {Lr:List Res} (hP:Sh.law00_SameRows x0 x1 = some out) (hM:MemL w0 (Lr)) (hsub:∀ w,MemL w Lr → Bf w) (f3:LIn Bf s1 hs2) (q4:Each (LIn (X:=UInt8) Bf) hs2 x0) (f7:LIn Bf s5 hs6) (q8:Each (LIn (X:=UInt8) Bf) hs6 x1):Calls Tryz.prog 64 #[(s1).v,(s5).v] w0 (Ret fun v w'=>v = .bool out ∧ MemL w' (Lr)):=by
 unfold Sh.law00_SameRows at hP
 refine calls_enter (vs:=[(s1).v,(s5).v]) Tryz.func64 rfl Tryz.ntmps64 rfl fun a hF=>?_
 refine c_seq ?_
 refine c_region ?_
 refine s_val hF (r_assign hF rfl rfl) rfl rfl rfl fun a hF=>?_
 refine c_nil (n_then ?_)
 refine c_seq ?_
 refine c_seq ?_
 refine c_region ?_
 refine s_val hF (r_move hF rfl rfl) rfl rfl rfl fun a hF=>?_
 refine s_val hF (r_lenD (f3 _ (hsub _ (dropM hM 0))) q4.len Tryz.underlying28 hF rfl rfl) rfl rfl rfl fun a hF=>?_
 refine s_val hF (r_move hF rfl rfl) rfl rfl rfl fun a hF=>?_
 refine s_val hF (r_lenD (f7 _ (hsub _ (dropM hM 0))) q8.len Tryz.underlying28 hF rfl rfl) rfl rfl rfl fun a hF=>?_
 refine s_val hF (r_neq hF rfl rfl rfl) rfl rfl rfl fun a hF=>?_
 refine c_nil (n_then ?_)
 refine c_cond hF (c:=.tmp 10) rfl (fun hb198=>?_) (fun hb198=>?_)
 ·have hP:=Fx.cT hb198 hP
  refine c_seq ?_
  refine c_region ?_
  refine s_val hF (r_assign hF rfl rfl) rfl rfl rfl fun a hF=>?_
  refine c_nil (n_then ?_)
  refine c_ret ?_
  have hP:=Option.some.inj hP
  subst hP
  refine e_ret1 Tryz.results64 hF rfl ?_
  exact ⟨rfl,hM⟩
 have hP:=Fx.cF hb198 hP
 refine c_skip (n_then ?_)
 refine c_seq ?_
 refine c_joinX hF hM hP (fun F x a w=>match x with | _=>Fr 27 [(4,.bool false)] a ∧ MemL w (Lr)) (fun o_j1 hP hK_j1 hF hM=>?_) ?_
 ·refine c_seq ?_
  refine c_region ?_
  refine s_val hF (r_assign hF rfl rfl) rfl rfl rfl fun a hF=>?_
  refine c_nil (n_then ?_)
  refine c_block ?_
  refine c_loopX hF hM hP (fun F x a w=>match x with | v364=>Fr 27 [(5,.int .i64 v364),(0,(s1).v),(1,(s5).v),(4,.bool false)] a ∧ MemL w (Lr)) (fun hF hM=>⟨hF.to ⟨rfl,rfl,rfl,rfl,trivial⟩,hM⟩) ?_
  rintro v364 a w o_l2 hP hK_l2 ⟨hF,hM⟩
  replace hP:Sh.law00_SameRows_l2 x0 x1 v364 = _:=hP
  unfold Sh.law00_SameRows_l2 at hP
  refine c_seq ?_
  refine c_seq ?_
  refine c_region ?_
  refine s_val hF (r_move hF rfl rfl) rfl rfl rfl fun a hF=>?_
  refine s_val hF (r_move hF rfl rfl) rfl rfl rfl fun a hF=>?_
  refine s_val hF (r_lenD (f3 _ (hsub _ (dropM hM 0))) q4.len Tryz.underlying28 hF rfl rfl) rfl rfl rfl fun a hF=>?_
  refine s_val hF (r_lss hF rfl rfl rfl) rfl rfl rfl fun a hF=>?_
  refine c_nil (n_then ?_)
  refine c_cond hF (c:=.tmp 14) rfl (fun hb366=>?_) (fun hb366=>?_)
  ·have hP:=Fx.cT hb366 hP
   refine c_skip (n_then ?_)
   refine c_seq ?_
   refine c_block ?_
   refine c_seq ?_
   refine d_startT mixed (by kernel_rfl) hM [] 0 rfl fun hch=>?_
   refine d_val hF hch 0 rfl (by kernel_rfl) rfl rfl rfl (fun w hM=>(r_move hF rfl rfl)) fun a hF=>?_
   refine d_val hF hch 1 rfl (by kernel_rfl) rfl rfl rfl (fun w hM=>(r_move hF rfl rfl)) fun a hF=>?_
   obtain ⟨x380,hx380,hP⟩:=bind_some hP
   have h0x380:=get_some hx380
   obtain ⟨yx380,hgx380,hrx380⟩:=Each.getr q4 h0x380.2
   have hdx380:=Each.bd q4 (get_bd hx380)
   refine d_val hF hch 2 rfl (by kernel_rfl) rfl rfl rfl (fun w hM=>(r_indexZ (sz:=1) (f3 _ (hsub _ (dropM hM 0))) Tryz.underlying28 in23 rfl hF rfl rfl rfl hdx380)) fun a hF=>?_
   refine d_val hF hch 3 rfl (by kernel_rfl) rfl rfl rfl (fun w hM=>(r_load1 Tryz.isAgg23 hF rfl rfl ((((f3 _ (hsub _ (dropM hM 0))).elemS hgx380)).get 0 rfl))) fun a hF=>?_
   refine d_val hF hch 4 rfl (by kernel_rfl) rfl rfl rfl (fun w hM=>(r_move hF rfl rfl)) fun a hF=>?_
   refine d_val hF hch 5 rfl (by kernel_rfl) rfl rfl rfl (fun w hM=>(r_move hF rfl rfl)) fun a hF=>?_
   obtain ⟨x381,hx381,hP⟩:=bind_some hP
   have h0x381:=get_some hx381
   obtain ⟨yx381,hgx381,hrx381⟩:=Each.getr q8 h0x381.2
   have hdx381:=Each.bd q8 (get_bd hx381)
   refine d_val hF hch 6 rfl (by kernel_rfl) rfl rfl rfl (fun w hM=>(r_indexZ (sz:=1) (f7 _ (hsub _ (dropM hM 0))) Tryz.underlying28 in23 rfl hF rfl rfl rfl hdx381)) fun a hF=>?_
   refine d_val hF hch 7 rfl (by kernel_rfl) rfl rfl rfl (fun w hM=>(r_load1 Tryz.isAgg23 hF rfl rfl ((((f7 _ (hsub _ (dropM hM 0))).elemS hgx381)).get 0 rfl))) fun a hF=>?_
   refine d_one hch 8 (by kernel_rfl) rfl rfl ?_
   refine d_ex hF 8 rfl rfl rfl rfl rfl fun w hMs hM=>?_
   obtain ⟨y383,hy383,hP⟩:=bind_some hP
   refine (w_call (xs:=[.tmp 20,.tmp 24]) Tryz.call43 hF rfl rfl (law00_SameBytes_calls hy383 hM (Bf:=Bf) (fun w hM=>hsub _ (dropM hM 0)) hrx380 hrx381) fun v w hR=>?_)
   obtain ⟨rfl,hM⟩:=hR
   replace hM:MemL _ (Lr):=hM
   have hMs:=selM hM [] 0 rfl
   refine ⟨_,_,hMs,hM,.inl fun _ h=>h,fun a hF=>?_⟩
   refine d_val hF hch 9 rfl (by kernel_rfl) rfl rfl rfl (fun w hM=>(r_not hF rfl rfl)) fun a hF=>?_
   refine d_end hch (by kernel_rfl) fun w hM=>?_
   refine n_then ?_
   refine c_cond hF (c:=.tmp 26) rfl (fun hb384=>?_) (fun hb384=>?_)
   ·have hP:=Fx.cT hb384 hP
    refine c_seq ?_
    refine c_region ?_
    refine s_val hF (r_assign hF rfl rfl) rfl rfl rfl fun a hF=>?_
    refine c_nil (n_then ?_)
    refine c_ret ?_
    have hP:=Option.some.inj hP
    subst hP
    have hP:=hK_l2 _ rfl
    subst hP
    have hP:=fin_inr hK_j1
    subst hP
    refine e_ret1 Tryz.results64 hF rfl ?_
    exact ⟨rfl,hM⟩
   have hP:=Fx.cF hb384 hP
   refine c_skip (n_block (n_then ?_))
   refine c_region ?_
   refine s_val hF (r_move hF rfl rfl) rfl rfl rfl fun a hF=>?_
   refine s_val hF (r_add hF rfl rfl rfl) rfl rfl rfl fun a hF=>?_
   refine s_val hF (r_assign hF rfl rfl) rfl rfl rfl fun a hF=>?_
   refine c_nil (n_then ?_)
   have hP:=Option.some.inj hP
   subst hP
   exact ⟨(IntKind.i64.wrap (v364 + 1)),rfl,hF.to ⟨rfl,rfl,rfl,rfl,trivial⟩,hM⟩
  have hP:=Fx.cF hb366 hP
  refine c_exit (x_then (x_then (x_hit ?_)))
  refine n_then ?_
  have hP:=Option.some.inj hP
  subst hP
  have hP:=hK_l2 _ rfl
  subst hP
  exact ⟨(),rfl,hF.to ⟨rfl,trivial⟩,hM⟩
 rintro ⟨⟩ a w hP ⟨hF,hM⟩
 replace hP:Sh.law00_SameRows_j1 = _:=hP
 unfold Sh.law00_SameRows_j1 at hP
 refine n_then ?_
 refine c_seq ?_
 refine c_region ?_
 refine s_val hF (r_assign hF rfl rfl) rfl rfl rfl fun a hF=>?_
 refine c_nil (n_then ?_)
 refine c_ret ?_
 have hP:=Option.some.inj hP
 subst hP
 refine e_ret1 Tryz.results64 hF rfl ?_
 exact ⟨rfl,hM⟩
set_option maxHeartbeats 4000000 in
theorem law00_SameInput_calls {x0:QInput} {x1:QInput} {s1:SV} {s3:SV} {hs4:List SV} {s7:SV} {s9:SV} {hs10:List SV} {out:Bool} {w0:World} {Bf:World → Prop} {Lr:List Res} (hP:Sh.law00_SameInput x0 x1 = some out) (hM:MemL w0 (Lr)) (hsub:∀ w,MemL w Lr → Bf w) (f2:LIn Bf s1 x0.ctx) (f5:LIn Bf s3 hs4) (q6:Each (LIn (X:=UInt8) Bf) hs4 x0.tables) (f8:LIn Bf s7 x1.ctx) (f11:LIn Bf s9 hs10) (q12:Each (LIn (X:=UInt8) Bf) hs10 x1.tables):Calls Tryz.prog 29 #[.agg (RInput.enc (RInput.mk s1 s3)).toArray,.agg (RInput.enc (RInput.mk s7 s9)).toArray] w0 (Ret fun v w'=>v = .bool out ∧ MemL w' (Lr)):=by
 unfold Sh.law00_SameInput at hP
 refine calls_enter (vs:=[.agg (RInput.enc (RInput.mk s1 s3)).toArray,.agg (RInput.enc (RInput.mk s7 s9)).toArray]) Tryz.func29 rfl Tryz.ntmps29 rfl fun a hF=>?_
 refine c_seq ?_
 refine c_region ?_
 refine s_eff hF rfl rfl rfl (w_box hF rfl rfl rfl fun b_B29_2 w hzB29_2 hAB29_2=>?_)
 have hM:=hM.plus hAB29_2
 replace hM:MemL _ (pt b_B29_2 (RInput.enc (RInput.mk s1 s3)) 30 :: Lr):=hM
 intro a hF
 refine s_eff hF rfl rfl rfl (w_box hF rfl rfl rfl fun b_B29_3 w hzB29_3 hAB29_3=>?_)
 have hM:=hM.plus hAB29_3
 replace hM:MemL _ (pt b_B29_3 (RInput.enc (RInput.mk s7 s9)) 30 :: pt b_B29_2 (RInput.enc (RInput.mk s1 s3)) 30 :: Lr):=hM
 intro a hF
 refine s_val hF (r_assign hF rfl rfl) rfl rfl rfl fun a hF=>?_
 refine c_nil (n_then ?_)
 refine c_seq ?_
 refine c_joinX hF hM hP (fun F x a w=>match x with | v39=>Fr 17 [(4,.bool v39)] a ∧ MemL w (Lr)) (fun o_j1 hP hK_j1 hF hM=>?_) ?_
 ·refine c_region ?_
  refine s_val hF (r_fieldAddr (off':=0) Tryz.underlying30 rfl in23 rfl hF rfl rfl rfl) rfl rfl rfl fun a hF=>?_
  refine s_val hF (r_load1 Tryz.isAgg23 hF rfl rfl (hM.cell (i:=1) rfl (RInput.g_ctx _))) rfl rfl rfl fun a hF=>?_
  refine s_val hF (r_fieldAddr (off':=0) Tryz.underlying30 rfl in23 rfl hF rfl rfl rfl) rfl rfl rfl fun a hF=>?_
  refine s_val hF (r_load1 Tryz.isAgg23 hF rfl rfl (hM.cell (i:=0) rfl (RInput.g_ctx _))) rfl rfl rfl fun a hF=>?_
  obtain ⟨y41,hy41,hP⟩:=bind_some hP
  refine s_eff hF rfl rfl rfl (w_call (xs:=[.tmp 6,.tmp 8]) Tryz.call43 hF rfl rfl (law00_SameBytes_calls hy41 hM (Bf:=Bf) (fun w hM=>hsub _ (dropM hM 2)) f2 f8) fun v w hR=>?_)
  obtain ⟨rfl,hM⟩:=hR
  replace hM:MemL _ (pt b_B29_3 (RInput.enc (RInput.mk s7 s9)) 30 :: pt b_B29_2 (RInput.enc (RInput.mk s1 s3)) 30 :: Lr):=hM
  intro a hF
  refine s_val hF (r_move hF rfl rfl) rfl rfl rfl fun a hF=>?_
  refine g_split 10 hF rfl (fun hb42=>?_) (fun hb42=>?_)
  ·have hP:=Fx.cT hb42 hP
   refine g_val hF rfl rfl rfl hb42 (r_fieldAddr (off':=1) Tryz.underlying30 rfl in28 rfl hF rfl rfl rfl) rfl rfl fun a hF=>?_
   refine g_val hF rfl rfl rfl hb42 (r_load1 Tryz.isAgg28 hF rfl rfl (hM.cell (i:=1) rfl (RInput.g_tables _))) rfl rfl fun a hF=>?_
   refine g_val hF rfl rfl rfl hb42 (r_fieldAddr (off':=1) Tryz.underlying30 rfl in28 rfl hF rfl rfl rfl) rfl rfl fun a hF=>?_
   refine g_val hF rfl rfl rfl hb42 (r_load1 Tryz.isAgg28 hF rfl rfl (hM.cell (i:=0) rfl (RInput.g_tables _))) rfl rfl fun a hF=>?_
   obtain ⟨y44,hy44,hP⟩:=bind_some hP
   refine g_eff hF rfl rfl rfl hb42 rfl rfl (w_call (xs:=[.tmp 12,.tmp 14]) Tryz.call64 hF rfl rfl (law00_SameRows_calls hy44 hM (Bf:=Bf) (fun w hM=>hsub _ (dropM hM 2)) f5 q6 f11 q12) fun v w hR=>?_)
   obtain ⟨rfl,hM⟩:=hR
   replace hM:MemL _ (pt b_B29_3 (RInput.enc (RInput.mk s7 s9)) 30 :: pt b_B29_2 (RInput.enc (RInput.mk s1 s3)) 30 :: Lr):=hM
   intro a hF
   refine s_val hF (r_pick1 hF rfl rfl hb42 rfl) rfl rfl rfl fun a hF=>?_
   refine s_val hF (r_assign hF rfl rfl) rfl rfl rfl fun a hF=>?_
   refine c_nil (n_then ?_)
   have hP:=Option.some.inj hP
   subst hP
   exact ⟨y44,rfl,hF.to ⟨rfl,trivial⟩,selM hM [] 2 rfl⟩
  have hP:=Fx.cF hb42 hP
  refine g_skip hF rfl rfl rfl hb42 rfl rfl fun a hF=>?_
  refine g_skip hF rfl rfl rfl hb42 rfl rfl fun a hF=>?_
  refine g_skip hF rfl rfl rfl hb42 rfl rfl fun a hF=>?_
  refine g_skip hF rfl rfl rfl hb42 rfl rfl fun a hF=>?_
  refine g_skip hF rfl rfl rfl hb42 rfl rfl fun a hF=>?_
  refine s_val hF (r_pick0 hF rfl rfl hb42 rfl) rfl rfl rfl fun a hF=>?_
  refine s_val hF (r_assign hF rfl rfl) rfl rfl rfl fun a hF=>?_
  refine c_nil (n_then ?_)
  have hP:=Option.some.inj hP
  subst hP
  exact ⟨false,rfl,hF.to ⟨rfl,trivial⟩,selM hM [] 2 rfl⟩
 rintro v39 a w hP ⟨hF,hM⟩
 replace hP:Sh.law00_SameInput_j1 v39 = _:=hP
 unfold Sh.law00_SameInput_j1 at hP
 refine n_then ?_
 refine c_ret ?_
 have hP:=Option.some.inj hP
 subst hP
 refine e_ret1 Tryz.results29 hF rfl ?_
 exact ⟨rfl,hM⟩
set_option maxHeartbeats 4000000 in
theorem law23_sameMark_calls {x0:QMark} {x1:QMark} {s1:SV} {s3:SV} {s5:SV} {hs6:List RPiece} {s9:SV} {s11:SV} {s13:SV} {s15:SV} {hs16:List RPiece} {s19:SV} {out:Bool} {w0:World} {Bf:World → Prop} {Lr:List Res} (hP:Sh.law23_sameMark x0 x1 = some out) (hM:MemL w0 (Lr)) (hsub:∀ w,MemL w Lr → Bf w) (f2:LIn Bf s1 x0.regs) (f4:LIn Bf s3 x0.slots) (f7:LIn Bf s5 hs6) (q8:Each (QPieceIn Bf) hs6 x0.pieces) (f10:LIn Bf s9 x0.sent) (f12:LIn Bf s11 x1.regs) (f14:LIn Bf s13 x1.slots) (f17:LIn Bf s15 hs16) (q18:Each (QPieceIn Bf) hs16 x1.pieces) (f20:LIn Bf s19 x1.sent):Calls Tryz.prog 33 #[.agg (RMark.enc (RMark.mk x0.at_ x0.next x0.done s1 s3 s5 s9)).toArray,.agg (RMark.enc (RMark.mk x1.at_ x1.next x1.done s11 s13 s15 s19)).toArray] w0 (Ret fun v w'=>v = .bool out ∧ MemL w' (Lr)):=by
 unfold Sh.law23_sameMark at hP
 refine calls_enter (vs:=[.agg (RMark.enc (RMark.mk x0.at_ x0.next x0.done s1 s3 s5 s9)).toArray,.agg (RMark.enc (RMark.mk x1.at_ x1.next x1.done s11 s13 s15 s19)).toArray]) Tryz.func33 rfl Tryz.ntmps33 rfl fun a hF=>?_
 refine c_seq ?_
 refine c_region ?_
 refine s_eff hF rfl rfl rfl (w_box hF rfl rfl rfl fun b_B33_2 w hzB33_2 hAB33_2=>?_)
 have hM:=hM.plus hAB33_2
 replace hM:MemL _ (pt b_B33_2 (RMark.enc (RMark.mk x0.at_ x0.next x0.done s1 s3 s5 s9)) 60 :: Lr):=hM
 intro a hF
 refine s_eff hF rfl rfl rfl (w_box hF rfl rfl rfl fun b_B33_3 w hzB33_3 hAB33_3=>?_)
 have hM:=hM.plus hAB33_3
 replace hM:MemL _ (pt b_B33_3 (RMark.enc (RMark.mk x1.at_ x1.next x1.done s11 s13 s15 s19)) 60 :: pt b_B33_2 (RMark.enc (RMark.mk x0.at_ x0.next x0.done s1 s3 s5 s9)) 60 :: Lr):=hM
 intro a hF
 refine s_val hF (r_assign hF rfl rfl) rfl rfl rfl fun a hF=>?_
 refine c_nil (n_then ?_)
 refine c_seq ?_
 refine c_seq ?_
 refine c_joinX hF hM hP (fun F x a w=>match x with | v997=>Fr 145 [(63,.bool v997),(2,.pointer (some ⟨b_B33_2,0,none⟩)),(3,.pointer (some ⟨b_B33_3,0,none⟩)),(4,.bool false)] a ∧ MemL w (pt b_B33_3 (RMark.enc (RMark.mk x1.at_ x1.next x1.done s11 s13 s15 s19)) 60 :: pt b_B33_2 (RMark.enc (RMark.mk x0.at_ x0.next x0.done s1 s3 s5 s9)) 60 :: Lr)) (fun o_j1 hP hK_j1 hF hM=>?_) ?_
 ·refine c_region ?_
  refine s_val hF (r_fieldAddr (off':=0) Tryz.underlying60 rfl in3 rfl hF rfl rfl rfl) rfl rfl rfl fun a hF=>?_
  refine s_val hF (r_load1 Tryz.isAgg3 hF rfl rfl (hM.cell (i:=1) rfl (RMark.g_at_ _))) rfl rfl rfl fun a hF=>?_
  refine s_val hF (r_fieldAddr (off':=0) Tryz.underlying60 rfl in3 rfl hF rfl rfl rfl) rfl rfl rfl fun a hF=>?_
  refine s_val hF (r_load1 Tryz.isAgg3 hF rfl rfl (hM.cell (i:=0) rfl (RMark.g_at_ _))) rfl rfl rfl fun a hF=>?_
  refine s_val hF (r_neq hF rfl rfl rfl) rfl rfl rfl fun a hF=>?_
  refine s_val hF (r_move hF rfl rfl) rfl rfl rfl fun a hF=>?_
  refine g_split 15 hF rfl (fun hb998=>?_) (fun hb998=>?_)
  ·have hP:=Fx.cT hb998 hP
   refine g_skip hF rfl rfl rfl hb998 rfl rfl fun a hF=>?_
   refine g_skip hF rfl rfl rfl hb998 rfl rfl fun a hF=>?_
   refine g_skip hF rfl rfl rfl hb998 rfl rfl fun a hF=>?_
   refine g_skip hF rfl rfl rfl hb998 rfl rfl fun a hF=>?_
   refine g_skip hF rfl rfl rfl hb998 rfl rfl fun a hF=>?_
   refine s_val hF (r_pick1 hF rfl rfl hb998 rfl) rfl rfl rfl fun a hF=>?_
   refine s_val hF (r_move hF rfl rfl) rfl rfl rfl fun a hF=>?_
   refine g_skip hF rfl rfl rfl rfl rfl rfl fun a hF=>?_
   refine g_skip hF rfl rfl rfl rfl rfl rfl fun a hF=>?_
   refine g_skip hF rfl rfl rfl rfl rfl rfl fun a hF=>?_
   refine g_skip hF rfl rfl rfl rfl rfl rfl fun a hF=>?_
   refine g_skip hF rfl rfl rfl rfl rfl rfl fun a hF=>?_
   refine s_val hF (r_pick1 hF rfl rfl rfl rfl) rfl rfl rfl fun a hF=>?_
   refine s_val hF (r_move hF rfl rfl) rfl rfl rfl fun a hF=>?_
   refine g_skip hF rfl rfl rfl rfl rfl rfl fun a hF=>?_
   refine g_skip hF rfl rfl rfl rfl rfl rfl fun a hF=>?_
   refine g_skip hF rfl rfl rfl rfl rfl rfl fun a hF=>?_
   refine g_skip hF rfl rfl rfl rfl rfl rfl fun a hF=>?_
   refine g_skip hF rfl rfl rfl rfl rfl rfl fun a hF=>?_
   refine g_skip hF rfl rfl rfl rfl rfl rfl fun a hF=>?_
   refine g_skip hF rfl rfl rfl rfl rfl rfl fun a hF=>?_
   refine s_val hF (r_pick1 hF rfl rfl rfl rfl) rfl rfl rfl fun a hF=>?_
   refine s_val hF (r_move hF rfl rfl) rfl rfl rfl fun a hF=>?_
   refine g_skip hF rfl rfl rfl rfl rfl rfl fun a hF=>?_
   refine g_skip hF rfl rfl rfl rfl rfl rfl fun a hF=>?_
   refine g_skip hF rfl rfl rfl rfl rfl rfl fun a hF=>?_
   refine g_skip hF rfl rfl rfl rfl rfl rfl fun a hF=>?_
   refine g_skip hF rfl rfl rfl rfl rfl rfl fun a hF=>?_
   refine g_skip hF rfl rfl rfl rfl rfl rfl fun a hF=>?_
   refine g_skip hF rfl rfl rfl rfl rfl rfl fun a hF=>?_
   refine s_val hF (r_pick1 hF rfl rfl rfl rfl) rfl rfl rfl fun a hF=>?_
   refine s_val hF (r_move hF rfl rfl) rfl rfl rfl fun a hF=>?_
   refine g_skip hF rfl rfl rfl rfl rfl rfl fun a hF=>?_
   refine g_skip hF rfl rfl rfl rfl rfl rfl fun a hF=>?_
   refine g_skip hF rfl rfl rfl rfl rfl rfl fun a hF=>?_
   refine g_skip hF rfl rfl rfl rfl rfl rfl fun a hF=>?_
   refine g_skip hF rfl rfl rfl rfl rfl rfl fun a hF=>?_
   refine g_skip hF rfl rfl rfl rfl rfl rfl fun a hF=>?_
   refine g_skip hF rfl rfl rfl rfl rfl rfl fun a hF=>?_
   refine s_val hF (r_pick1 hF rfl rfl rfl rfl) rfl rfl rfl fun a hF=>?_
   refine s_val hF (r_move hF rfl rfl) rfl rfl rfl fun a hF=>?_
   refine g_skip hF rfl rfl rfl rfl rfl rfl fun a hF=>?_
   refine g_skip hF rfl rfl rfl rfl rfl rfl fun a hF=>?_
   refine g_skip hF rfl rfl rfl rfl rfl rfl fun a hF=>?_
   refine g_skip hF rfl rfl rfl rfl rfl rfl fun a hF=>?_
   refine g_skip hF rfl rfl rfl rfl rfl rfl fun a hF=>?_
   refine g_skip hF rfl rfl rfl rfl rfl rfl fun a hF=>?_
   refine s_val hF (r_pick1 hF rfl rfl rfl rfl) rfl rfl rfl fun a hF=>?_
   refine c_nil (n_then ?_)
   have hP:=Option.some.inj hP
   subst hP
   exact ⟨true,rfl,hF.to ⟨rfl,rfl,rfl,rfl,trivial⟩,hM⟩
  have hP:=Fx.cF hb998 hP
  refine g_val hF rfl rfl rfl hb998 (r_fieldAddr (off':=1) Tryz.underlying60 rfl in3 rfl hF rfl rfl rfl) rfl rfl fun a hF=>?_
  refine g_val hF rfl rfl rfl hb998 (r_load1 Tryz.isAgg3 hF rfl rfl (hM.cell (i:=1) rfl (RMark.g_next _))) rfl rfl fun a hF=>?_
  refine g_val hF rfl rfl rfl hb998 (r_fieldAddr (off':=1) Tryz.underlying60 rfl in3 rfl hF rfl rfl rfl) rfl rfl fun a hF=>?_
  refine g_val hF rfl rfl rfl hb998 (r_load1 Tryz.isAgg3 hF rfl rfl (hM.cell (i:=0) rfl (RMark.g_next _))) rfl rfl fun a hF=>?_
  refine g_val hF rfl rfl rfl hb998 (r_neq hF rfl rfl rfl) rfl rfl fun a hF=>?_
  refine s_val hF (r_pick0 hF rfl rfl hb998 rfl) rfl rfl rfl fun a hF=>?_
  refine s_val hF (r_move hF rfl rfl) rfl rfl rfl fun a hF=>?_
  refine g_split 22 hF rfl (fun hb999=>?_) (fun hb999=>?_)
  ·have hP:=Fx.cT hb999 hP
   refine g_skip hF rfl rfl rfl hb999 rfl rfl fun a hF=>?_
   refine g_skip hF rfl rfl rfl hb999 rfl rfl fun a hF=>?_
   refine g_skip hF rfl rfl rfl hb999 rfl rfl fun a hF=>?_
   refine g_skip hF rfl rfl rfl hb999 rfl rfl fun a hF=>?_
   refine g_skip hF rfl rfl rfl hb999 rfl rfl fun a hF=>?_
   refine s_val hF (r_pick1 hF rfl rfl hb999 rfl) rfl rfl rfl fun a hF=>?_
   refine s_val hF (r_move hF rfl rfl) rfl rfl rfl fun a hF=>?_
   refine g_skip hF rfl rfl rfl rfl rfl rfl fun a hF=>?_
   refine g_skip hF rfl rfl rfl rfl rfl rfl fun a hF=>?_
   refine g_skip hF rfl rfl rfl rfl rfl rfl fun a hF=>?_
   refine g_skip hF rfl rfl rfl rfl rfl rfl fun a hF=>?_
   refine g_skip hF rfl rfl rfl rfl rfl rfl fun a hF=>?_
   refine g_skip hF rfl rfl rfl rfl rfl rfl fun a hF=>?_
   refine g_skip hF rfl rfl rfl rfl rfl rfl fun a hF=>?_
   refine s_val hF (r_pick1 hF rfl rfl rfl rfl) rfl rfl rfl fun a hF=>?_
   refine s_val hF (r_move hF rfl rfl) rfl rfl rfl fun a hF=>?_
   refine g_skip hF rfl rfl rfl rfl rfl rfl fun a hF=>?_
   refine g_skip hF rfl rfl rfl rfl rfl rfl fun a hF=>?_
   refine g_skip hF rfl rfl rfl rfl rfl rfl fun a hF=>?_
   refine g_skip hF rfl rfl rfl rfl rfl rfl fun a hF=>?_
   refine g_skip hF rfl rfl rfl rfl rfl rfl fun a hF=>?_
   refine g_skip hF rfl rfl rfl rfl rfl rfl fun a hF=>?_
   refine g_skip hF rfl rfl rfl rfl rfl rfl fun a hF=>?_
   refine s_val hF (r_pick1 hF rfl rfl rfl rfl) rfl rfl rfl fun a hF=>?_
   refine s_val hF (r_move hF rfl rfl) rfl rfl rfl fun a hF=>?_
   refine g_skip hF rfl rfl rfl rfl rfl rfl fun a hF=>?_
   refine g_skip hF rfl rfl rfl rfl rfl rfl fun a hF=>?_
   refine g_skip hF rfl rfl rfl rfl rfl rfl fun a hF=>?_
   refine g_skip hF rfl rfl rfl rfl rfl rfl fun a hF=>?_
   refine g_skip hF rfl rfl rfl rfl rfl rfl fun a hF=>?_
   refine g_skip hF rfl rfl rfl rfl rfl rfl fun a hF=>?_
   refine g_skip hF rfl rfl rfl rfl rfl rfl fun a hF=>?_
   refine s_val hF (r_pick1 hF rfl rfl rfl rfl) rfl rfl rfl fun a hF=>?_
   refine s_val hF (r_move hF rfl rfl) rfl rfl rfl fun a hF=>?_
   refine g_skip hF rfl rfl rfl rfl rfl rfl fun a hF=>?_
   refine g_skip hF rfl rfl rfl rfl rfl rfl fun a hF=>?_
   refine g_skip hF rfl rfl rfl rfl rfl rfl fun a hF=>?_
   refine g_skip hF rfl rfl rfl rfl rfl rfl fun a hF=>?_
   refine g_skip hF rfl rfl rfl rfl rfl rfl fun a hF=>?_
   refine g_skip hF rfl rfl rfl rfl rfl rfl fun a hF=>?_
   refine s_val hF (r_pick1 hF rfl rfl rfl rfl) rfl rfl rfl fun a hF=>?_
   refine c_nil (n_then ?_)
   have hP:=Option.some.inj hP
   subst hP
   exact ⟨true,rfl,hF.to ⟨rfl,rfl,rfl,rfl,trivial⟩,hM⟩
  have hP:=Fx.cF hb999 hP
  refine g_val hF rfl rfl rfl hb999 (r_fieldAddr (off':=2) Tryz.underlying60 rfl in4 rfl hF rfl rfl rfl) rfl rfl fun a hF=>?_
  refine g_val hF rfl rfl rfl hb999 (r_load1 Tryz.isAgg4 hF rfl rfl (hM.cell (i:=1) rfl (RMark.g_done _))) rfl rfl fun a hF=>?_
  refine g_val hF rfl rfl rfl hb999 (r_fieldAddr (off':=2) Tryz.underlying60 rfl in4 rfl hF rfl rfl rfl) rfl rfl fun a hF=>?_
  refine g_val hF rfl rfl rfl hb999 (r_load1 Tryz.isAgg4 hF rfl rfl (hM.cell (i:=0) rfl (RMark.g_done _))) rfl rfl fun a hF=>?_
  refine g_val hF rfl rfl rfl hb999 (r_neqB Tryz.underlying4 hF rfl rfl rfl) rfl rfl fun a hF=>?_
  refine s_val hF (r_pick0 hF rfl rfl hb999 rfl) rfl rfl rfl fun a hF=>?_
  refine s_val hF (r_move hF rfl rfl) rfl rfl rfl fun a hF=>?_
  refine g_split 29 hF rfl (fun hb1000=>?_) (fun hb1000=>?_)
  ·have hP:=Fx.cT hb1000 hP
   refine g_skip hF rfl rfl rfl hb1000 rfl rfl fun a hF=>?_
   refine g_skip hF rfl rfl rfl hb1000 rfl rfl fun a hF=>?_
   refine g_skip hF rfl rfl rfl hb1000 rfl rfl fun a hF=>?_
   refine g_skip hF rfl rfl rfl hb1000 rfl rfl fun a hF=>?_
   refine g_skip hF rfl rfl rfl hb1000 rfl rfl fun a hF=>?_
   refine g_skip hF rfl rfl rfl hb1000 rfl rfl fun a hF=>?_
   refine g_skip hF rfl rfl rfl hb1000 rfl rfl fun a hF=>?_
   refine s_val hF (r_pick1 hF rfl rfl hb1000 rfl) rfl rfl rfl fun a hF=>?_
   refine s_val hF (r_move hF rfl rfl) rfl rfl rfl fun a hF=>?_
   refine g_skip hF rfl rfl rfl rfl rfl rfl fun a hF=>?_
   refine g_skip hF rfl rfl rfl rfl rfl rfl fun a hF=>?_
   refine g_skip hF rfl rfl rfl rfl rfl rfl fun a hF=>?_
   refine g_skip hF rfl rfl rfl rfl rfl rfl fun a hF=>?_
   refine g_skip hF rfl rfl rfl rfl rfl rfl fun a hF=>?_
   refine g_skip hF rfl rfl rfl rfl rfl rfl fun a hF=>?_
   refine g_skip hF rfl rfl rfl rfl rfl rfl fun a hF=>?_
   refine s_val hF (r_pick1 hF rfl rfl rfl rfl) rfl rfl rfl fun a hF=>?_
   refine s_val hF (r_move hF rfl rfl) rfl rfl rfl fun a hF=>?_
   refine g_skip hF rfl rfl rfl rfl rfl rfl fun a hF=>?_
   refine g_skip hF rfl rfl rfl rfl rfl rfl fun a hF=>?_
   refine g_skip hF rfl rfl rfl rfl rfl rfl fun a hF=>?_
   refine g_skip hF rfl rfl rfl rfl rfl rfl fun a hF=>?_
   refine g_skip hF rfl rfl rfl rfl rfl rfl fun a hF=>?_
   refine g_skip hF rfl rfl rfl rfl rfl rfl fun a hF=>?_
   refine g_skip hF rfl rfl rfl rfl rfl rfl fun a hF=>?_
   refine s_val hF (r_pick1 hF rfl rfl rfl rfl) rfl rfl rfl fun a hF=>?_
   refine s_val hF (r_move hF rfl rfl) rfl rfl rfl fun a hF=>?_
   refine g_skip hF rfl rfl rfl rfl rfl rfl fun a hF=>?_
   refine g_skip hF rfl rfl rfl rfl rfl rfl fun a hF=>?_
   refine g_skip hF rfl rfl rfl rfl rfl rfl fun a hF=>?_
   refine g_skip hF rfl rfl rfl rfl rfl rfl fun a hF=>?_
   refine g_skip hF rfl rfl rfl rfl rfl rfl fun a hF=>?_
   refine g_skip hF rfl rfl rfl rfl rfl rfl fun a hF=>?_
   refine s_val hF (r_pick1 hF rfl rfl rfl rfl) rfl rfl rfl fun a hF=>?_
   refine c_nil (n_then ?_)
   have hP:=Option.some.inj hP
   subst hP
   exact ⟨true,rfl,hF.to ⟨rfl,rfl,rfl,rfl,trivial⟩,hM⟩
  have hP:=Fx.cF hb1000 hP
  refine g_val hF rfl rfl rfl hb1000 (r_fieldAddr (off':=3) Tryz.underlying60 rfl in56 rfl hF rfl rfl rfl) rfl rfl fun a hF=>?_
  refine g_val hF rfl rfl rfl hb1000 (r_load1 Tryz.isAgg56 hF rfl rfl (hM.cell (i:=1) rfl (RMark.g_regs _))) rfl rfl fun a hF=>?_
  refine g_val hF rfl rfl rfl hb1000 (r_lenL (f2 _ (hsub _ (dropM hM 2))) Tryz.underlying56 hF rfl rfl) rfl rfl fun a hF=>?_
  refine g_val hF rfl rfl rfl hb1000 (r_fieldAddr (off':=3) Tryz.underlying60 rfl in56 rfl hF rfl rfl rfl) rfl rfl fun a hF=>?_
  refine g_val hF rfl rfl rfl hb1000 (r_load1 Tryz.isAgg56 hF rfl rfl (hM.cell (i:=0) rfl (RMark.g_regs _))) rfl rfl fun a hF=>?_
  refine g_val hF rfl rfl rfl hb1000 (r_lenL (f12 _ (hsub _ (dropM hM 2))) Tryz.underlying56 hF rfl rfl) rfl rfl fun a hF=>?_
  refine g_val hF rfl rfl rfl hb1000 (r_neq hF rfl rfl rfl) rfl rfl fun a hF=>?_
  refine s_val hF (r_pick0 hF rfl rfl hb1000 rfl) rfl rfl rfl fun a hF=>?_
  refine s_val hF (r_move hF rfl rfl) rfl rfl rfl fun a hF=>?_
  refine g_split 38 hF rfl (fun hb1001=>?_) (fun hb1001=>?_)
  ·have hP:=Fx.cT hb1001 hP
   refine g_skip hF rfl rfl rfl hb1001 rfl rfl fun a hF=>?_
   refine g_skip hF rfl rfl rfl hb1001 rfl rfl fun a hF=>?_
   refine g_skip hF rfl rfl rfl hb1001 rfl rfl fun a hF=>?_
   refine g_skip hF rfl rfl rfl hb1001 rfl rfl fun a hF=>?_
   refine g_skip hF rfl rfl rfl hb1001 rfl rfl fun a hF=>?_
   refine g_skip hF rfl rfl rfl hb1001 rfl rfl fun a hF=>?_
   refine g_skip hF rfl rfl rfl hb1001 rfl rfl fun a hF=>?_
   refine s_val hF (r_pick1 hF rfl rfl hb1001 rfl) rfl rfl rfl fun a hF=>?_
   refine s_val hF (r_move hF rfl rfl) rfl rfl rfl fun a hF=>?_
   refine g_skip hF rfl rfl rfl rfl rfl rfl fun a hF=>?_
   refine g_skip hF rfl rfl rfl rfl rfl rfl fun a hF=>?_
   refine g_skip hF rfl rfl rfl rfl rfl rfl fun a hF=>?_
   refine g_skip hF rfl rfl rfl rfl rfl rfl fun a hF=>?_
   refine g_skip hF rfl rfl rfl rfl rfl rfl fun a hF=>?_
   refine g_skip hF rfl rfl rfl rfl rfl rfl fun a hF=>?_
   refine g_skip hF rfl rfl rfl rfl rfl rfl fun a hF=>?_
   refine s_val hF (r_pick1 hF rfl rfl rfl rfl) rfl rfl rfl fun a hF=>?_
   refine s_val hF (r_move hF rfl rfl) rfl rfl rfl fun a hF=>?_
   refine g_skip hF rfl rfl rfl rfl rfl rfl fun a hF=>?_
   refine g_skip hF rfl rfl rfl rfl rfl rfl fun a hF=>?_
   refine g_skip hF rfl rfl rfl rfl rfl rfl fun a hF=>?_
   refine g_skip hF rfl rfl rfl rfl rfl rfl fun a hF=>?_
   refine g_skip hF rfl rfl rfl rfl rfl rfl fun a hF=>?_
   refine g_skip hF rfl rfl rfl rfl rfl rfl fun a hF=>?_
   refine s_val hF (r_pick1 hF rfl rfl rfl rfl) rfl rfl rfl fun a hF=>?_
   refine c_nil (n_then ?_)
   have hP:=Option.some.inj hP
   subst hP
   exact ⟨true,rfl,hF.to ⟨rfl,rfl,rfl,rfl,trivial⟩,hM⟩
  have hP:=Fx.cF hb1001 hP
  refine g_val hF rfl rfl rfl hb1001 (r_fieldAddr (off':=4) Tryz.underlying60 rfl in57 rfl hF rfl rfl rfl) rfl rfl fun a hF=>?_
  refine g_val hF rfl rfl rfl hb1001 (r_load1 Tryz.isAgg57 hF rfl rfl (hM.cell (i:=1) rfl (RMark.g_slots _))) rfl rfl fun a hF=>?_
  refine g_val hF rfl rfl rfl hb1001 (r_lenL (f4 _ (hsub _ (dropM hM 2))) Tryz.underlying57 hF rfl rfl) rfl rfl fun a hF=>?_
  refine g_val hF rfl rfl rfl hb1001 (r_fieldAddr (off':=4) Tryz.underlying60 rfl in57 rfl hF rfl rfl rfl) rfl rfl fun a hF=>?_
  refine g_val hF rfl rfl rfl hb1001 (r_load1 Tryz.isAgg57 hF rfl rfl (hM.cell (i:=0) rfl (RMark.g_slots _))) rfl rfl fun a hF=>?_
  refine g_val hF rfl rfl rfl hb1001 (r_lenL (f14 _ (hsub _ (dropM hM 2))) Tryz.underlying57 hF rfl rfl) rfl rfl fun a hF=>?_
  refine g_val hF rfl rfl rfl hb1001 (r_neq hF rfl rfl rfl) rfl rfl fun a hF=>?_
  refine s_val hF (r_pick0 hF rfl rfl hb1001 rfl) rfl rfl rfl fun a hF=>?_
  refine s_val hF (r_move hF rfl rfl) rfl rfl rfl fun a hF=>?_
  refine g_split 47 hF rfl (fun hb1002=>?_) (fun hb1002=>?_)
  ·have hP:=Fx.cT hb1002 hP
   refine g_skip hF rfl rfl rfl hb1002 rfl rfl fun a hF=>?_
   refine g_skip hF rfl rfl rfl hb1002 rfl rfl fun a hF=>?_
   refine g_skip hF rfl rfl rfl hb1002 rfl rfl fun a hF=>?_
   refine g_skip hF rfl rfl rfl hb1002 rfl rfl fun a hF=>?_
   refine g_skip hF rfl rfl rfl hb1002 rfl rfl fun a hF=>?_
   refine g_skip hF rfl rfl rfl hb1002 rfl rfl fun a hF=>?_
   refine g_skip hF rfl rfl rfl hb1002 rfl rfl fun a hF=>?_
   refine s_val hF (r_pick1 hF rfl rfl hb1002 rfl) rfl rfl rfl fun a hF=>?_
   refine s_val hF (r_move hF rfl rfl) rfl rfl rfl fun a hF=>?_
   refine g_skip hF rfl rfl rfl rfl rfl rfl fun a hF=>?_
   refine g_skip hF rfl rfl rfl rfl rfl rfl fun a hF=>?_
   refine g_skip hF rfl rfl rfl rfl rfl rfl fun a hF=>?_
   refine g_skip hF rfl rfl rfl rfl rfl rfl fun a hF=>?_
   refine g_skip hF rfl rfl rfl rfl rfl rfl fun a hF=>?_
   refine g_skip hF rfl rfl rfl rfl rfl rfl fun a hF=>?_
   refine s_val hF (r_pick1 hF rfl rfl rfl rfl) rfl rfl rfl fun a hF=>?_
   refine c_nil (n_then ?_)
   have hP:=Option.some.inj hP
   subst hP
   exact ⟨true,rfl,hF.to ⟨rfl,rfl,rfl,rfl,trivial⟩,hM⟩
  have hP:=Fx.cF hb1002 hP
  refine g_val hF rfl rfl rfl hb1002 (r_fieldAddr (off':=5) Tryz.underlying60 rfl in58 rfl hF rfl rfl rfl) rfl rfl fun a hF=>?_
  refine g_val hF rfl rfl rfl hb1002 (r_load1 Tryz.isAgg58 hF rfl rfl (hM.cell (i:=1) rfl (RMark.g_pieces _))) rfl rfl fun a hF=>?_
  refine g_val hF rfl rfl rfl hb1002 (r_lenD (f7 _ (hsub _ (dropM hM 2))) q8.len Tryz.underlying58 hF rfl rfl) rfl rfl fun a hF=>?_
  refine g_val hF rfl rfl rfl hb1002 (r_fieldAddr (off':=5) Tryz.underlying60 rfl in58 rfl hF rfl rfl rfl) rfl rfl fun a hF=>?_
  refine g_val hF rfl rfl rfl hb1002 (r_load1 Tryz.isAgg58 hF rfl rfl (hM.cell (i:=0) rfl (RMark.g_pieces _))) rfl rfl fun a hF=>?_
  refine g_val hF rfl rfl rfl hb1002 (r_lenD (f17 _ (hsub _ (dropM hM 2))) q18.len Tryz.underlying58 hF rfl rfl) rfl rfl fun a hF=>?_
  refine g_val hF rfl rfl rfl hb1002 (r_neq hF rfl rfl rfl) rfl rfl fun a hF=>?_
  refine s_val hF (r_pick0 hF rfl rfl hb1002 rfl) rfl rfl rfl fun a hF=>?_
  refine s_val hF (r_move hF rfl rfl) rfl rfl rfl fun a hF=>?_
  refine g_split 56 hF rfl (fun hb1003=>?_) (fun hb1003=>?_)
  ·have hP:=Fx.cT hb1003 hP
   refine g_skip hF rfl rfl rfl hb1003 rfl rfl fun a hF=>?_
   refine g_skip hF rfl rfl rfl hb1003 rfl rfl fun a hF=>?_
   refine g_skip hF rfl rfl rfl hb1003 rfl rfl fun a hF=>?_
   refine g_skip hF rfl rfl rfl hb1003 rfl rfl fun a hF=>?_
   refine g_skip hF rfl rfl rfl hb1003 rfl rfl fun a hF=>?_
   refine g_skip hF rfl rfl rfl hb1003 rfl rfl fun a hF=>?_
   refine s_val hF (r_pick1 hF rfl rfl hb1003 rfl) rfl rfl rfl fun a hF=>?_
   refine c_nil (n_then ?_)
   have hP:=Option.some.inj hP
   subst hP
   exact ⟨true,rfl,hF.to ⟨rfl,rfl,rfl,rfl,trivial⟩,hM⟩
  have hP:=Fx.cF hb1003 hP
  refine g_val hF rfl rfl rfl hb1003 (r_fieldAddr (off':=6) Tryz.underlying60 rfl in52 rfl hF rfl rfl rfl) rfl rfl fun a hF=>?_
  refine g_val hF rfl rfl rfl hb1003 (r_load1 Tryz.isAgg52 hF rfl rfl (hM.cell (i:=1) rfl (RMark.g_sent _))) rfl rfl fun a hF=>?_
  refine g_val hF rfl rfl rfl hb1003 (r_fieldAddr (off':=6) Tryz.underlying60 rfl in52 rfl hF rfl rfl rfl) rfl rfl fun a hF=>?_
  refine g_val hF rfl rfl rfl hb1003 (r_load1 Tryz.isAgg52 hF rfl rfl (hM.cell (i:=0) rfl (RMark.g_sent _))) rfl rfl fun a hF=>?_
  obtain ⟨y1005,hy1005,hP⟩:=bind_some hP
  refine g_eff hF rfl rfl rfl hb1003 rfl rfl (w_call (xs:=[.tmp 58,.tmp 60]) Tryz.call89 hF rfl rfl (law00_SameInts_calls hy1005 hM (Bf:=Bf) (fun w hM=>hsub _ (dropM hM 2)) f10 f20) fun v w hR=>?_)
  obtain ⟨rfl,hM⟩:=hR
  replace hM:MemL _ (pt b_B33_3 (RMark.enc (RMark.mk x1.at_ x1.next x1.done s11 s13 s15 s19)) 60 :: pt b_B33_2 (RMark.enc (RMark.mk x0.at_ x0.next x0.done s1 s3 s5 s9)) 60 :: Lr):=hM
  intro a hF
  refine g_val hF rfl rfl rfl hb1003 (r_not hF rfl rfl) rfl rfl fun a hF=>?_
  refine s_val hF (r_pick0 hF rfl rfl hb1003 rfl) rfl rfl rfl fun a hF=>?_
  refine c_nil (n_then ?_)
  have hP:=Option.some.inj hP
  subst hP
  exact ⟨(!y1005),rfl,hF.to ⟨rfl,rfl,rfl,rfl,trivial⟩,hM⟩
 rintro v997 a w hP ⟨hF,hM⟩
 replace hP:Sh.law23_sameMark_j1 x0 x1 v997 = _:=hP
 unfold Sh.law23_sameMark_j1 at hP
 refine n_then ?_
 refine c_cond hF (c:=.tmp 63) rfl (fun hb1006=>?_) (fun hb1006=>?_)
 ·have hP:=Fx.cT hb1006 hP
  refine c_seq ?_
  refine c_region ?_
  refine s_val hF (r_assign hF rfl rfl) rfl rfl rfl fun a hF=>?_
  refine c_nil (n_then ?_)
  refine c_ret ?_
  have hP:=Option.some.inj hP
  subst hP
  refine e_ret1 Tryz.results33 hF rfl ?_
  exact ⟨rfl,selM hM [] 2 rfl⟩
 have hP:=Fx.cF hb1006 hP
 refine c_skip (n_then ?_)
 refine c_seq ?_
 refine c_joinX hF hM hP (fun F x a w=>match x with | _=>Fr 145 [(2,.pointer (some ⟨b_B33_2,0,none⟩)),(3,.pointer (some ⟨b_B33_3,0,none⟩)),(4,.bool false)] a ∧ MemL w (pt b_B33_3 (RMark.enc (RMark.mk x1.at_ x1.next x1.done s11 s13 s15 s19)) 60 :: pt b_B33_2 (RMark.enc (RMark.mk x0.at_ x0.next x0.done s1 s3 s5 s9)) 60 :: Lr)) (fun o_j2 hP hK_j2 hF hM=>?_) ?_
 ·refine c_seq ?_
  refine c_region ?_
  refine s_val hF (r_assign hF rfl rfl) rfl rfl rfl fun a hF=>?_
  refine c_nil (n_then ?_)
  refine c_block ?_
  refine c_loopX hF hM hP (fun F x a w=>match x with | v1108=>Fr 145 [(5,.int .i64 v1108),(2,.pointer (some ⟨b_B33_2,0,none⟩)),(3,.pointer (some ⟨b_B33_3,0,none⟩)),(4,.bool false)] a ∧ MemL w (pt b_B33_3 (RMark.enc (RMark.mk x1.at_ x1.next x1.done s11 s13 s15 s19)) 60 :: pt b_B33_2 (RMark.enc (RMark.mk x0.at_ x0.next x0.done s1 s3 s5 s9)) 60 :: Lr)) (fun hF hM=>⟨hF.to ⟨rfl,rfl,rfl,rfl,trivial⟩,hM⟩) ?_
  rintro v1108 a w o_l3 hP hK_l3 ⟨hF,hM⟩
  replace hP:Sh.law23_sameMark_l3 x0 x1 v1108 = _:=hP
  unfold Sh.law23_sameMark_l3 at hP
  refine c_seq ?_
  refine c_seq ?_
  refine c_region ?_
  refine s_val hF (r_move hF rfl rfl) rfl rfl rfl fun a hF=>?_
  refine s_val hF (r_fieldAddr (off':=3) Tryz.underlying60 rfl in56 rfl hF rfl rfl rfl) rfl rfl rfl fun a hF=>?_
  refine s_val hF (r_load1 Tryz.isAgg56 hF rfl rfl (hM.cell (i:=1) rfl (RMark.g_regs _))) rfl rfl rfl fun a hF=>?_
  refine s_val hF (r_lenL (f2 _ (hsub _ (dropM hM 2))) Tryz.underlying56 hF rfl rfl) rfl rfl rfl fun a hF=>?_
  refine s_val hF (r_lss hF rfl rfl rfl) rfl rfl rfl fun a hF=>?_
  refine c_nil (n_then ?_)
  refine c_cond hF (c:=.tmp 68) rfl (fun hb1110=>?_) (fun hb1110=>?_)
  ·have hP:=Fx.cT hb1110 hP
   refine c_skip (n_then ?_)
   refine c_seq ?_
   refine c_block ?_
   refine c_seq ?_
   refine d_startT mixed (by kernel_rfl) hM [0,1] 2 rfl fun hch=>?_
   refine d_val hF hch 0 rfl (by kernel_rfl) rfl rfl rfl (fun w hM=>(r_fieldAddr (off':=3) Tryz.underlying60 rfl in56 rfl hF rfl rfl rfl)) fun a hF=>?_
   refine d_val hF hch 1 rfl (by kernel_rfl) rfl rfl rfl (fun w hM=>(r_load1 Tryz.isAgg56 hF rfl rfl (hM.cell (i:=1) rfl (RMark.g_regs _)))) fun a hF=>?_
   refine d_val hF hch 2 rfl (by kernel_rfl) rfl rfl rfl (fun w hM=>(r_move hF rfl rfl)) fun a hF=>?_
   obtain ⟨x1118,hx1118,hP⟩:=bind_some hP
   have h0x1118:=get_some hx1118
   refine d_val hF hch 3 rfl (by kernel_rfl) rfl rfl rfl (fun w hM=>(r_indexZ (sz:=9) (f2 _ (hsub _ (dropM hM 2))) Tryz.underlying56 in128 rfl hF rfl rfl rfl (get_bd hx1118))) fun a hF=>?_
   refine d_val hF hch 4 rfl (by kernel_rfl) rfl rfl rfl (fun w hM=>(r_loadn Tryz.isAgg128 Tryz.sizeOf128 hF rfl rfl (LTurn.len _) (((f2 _ (hsub _ (dropM hM 2))).elemS h0x1118.2)))) fun a hF=>?_
   refine d_val hF hch 5 rfl (by kernel_rfl) rfl rfl rfl (fun w hM=>(r_fieldAddr (off':=3) Tryz.underlying60 rfl in56 rfl hF rfl rfl rfl)) fun a hF=>?_
   refine d_val hF hch 6 rfl (by kernel_rfl) rfl rfl rfl (fun w hM=>(r_load1 Tryz.isAgg56 hF rfl rfl (hM.cell (i:=0) rfl (RMark.g_regs _)))) fun a hF=>?_
   refine d_val hF hch 7 rfl (by kernel_rfl) rfl rfl rfl (fun w hM=>(r_move hF rfl rfl)) fun a hF=>?_
   obtain ⟨x1119,hx1119,hP⟩:=bind_some hP
   have h0x1119:=get_some hx1119
   refine d_val hF hch 8 rfl (by kernel_rfl) rfl rfl rfl (fun w hM=>(r_indexZ (sz:=9) (f12 _ (hsub _ (dropM hM 2))) Tryz.underlying56 in128 rfl hF rfl rfl rfl (get_bd hx1119))) fun a hF=>?_
   refine d_val hF hch 9 rfl (by kernel_rfl) rfl rfl rfl (fun w hM=>(r_loadn Tryz.isAgg128 Tryz.sizeOf128 hF rfl rfl (LTurn.len _) (((f12 _ (hsub _ (dropM hM 2))).elemS h0x1119.2)))) fun a hF=>?_
   refine d_val hF hch 10 rfl (by kernel_rfl) rfl rfl rfl (fun w hM=>(r_neqA Tryz.eqGuardType128 (eq_LTurn _ _ _ _ (by decide)) hF rfl rfl rfl)) fun a hF=>?_
   refine d_end hch (by kernel_rfl) fun w hM=>?_
   refine n_then ?_
   refine c_cond hF (c:=.tmp 81) rfl (fun hb1120=>?_) (fun hb1120=>?_)
   ·have hP:=Fx.cT hb1120 hP
    refine c_seq ?_
    refine c_region ?_
    refine s_val hF (r_assign hF rfl rfl) rfl rfl rfl fun a hF=>?_
    refine c_nil (n_then ?_)
    refine c_ret ?_
    have hP:=Option.some.inj hP
    subst hP
    have hP:=hK_l3 _ rfl
    subst hP
    have hP:=fin_inr hK_j2
    subst hP
    refine e_ret1 Tryz.results33 hF rfl ?_
    exact ⟨rfl,selM hM [] 2 rfl⟩
   have hP:=Fx.cF hb1120 hP
   refine c_skip (n_block (n_then ?_))
   refine c_region ?_
   refine s_val hF (r_move hF rfl rfl) rfl rfl rfl fun a hF=>?_
   refine s_val hF (r_add hF rfl rfl rfl) rfl rfl rfl fun a hF=>?_
   refine s_val hF (r_assign hF rfl rfl) rfl rfl rfl fun a hF=>?_
   refine c_nil (n_then ?_)
   have hP:=Option.some.inj hP
   subst hP
   exact ⟨(IntKind.i64.wrap (v1108 + 1)),rfl,hF.to ⟨rfl,rfl,rfl,rfl,trivial⟩,hM⟩
  have hP:=Fx.cF hb1110 hP
  refine c_exit (x_then (x_then (x_hit ?_)))
  refine n_then ?_
  have hP:=Option.some.inj hP
  subst hP
  have hP:=hK_l3 _ rfl
  subst hP
  exact ⟨(),rfl,hF.to ⟨rfl,rfl,rfl,trivial⟩,hM⟩
 rintro ⟨⟩ a w hP ⟨hF,hM⟩
 replace hP:Sh.law23_sameMark_j2 x0 x1 = _:=hP
 unfold Sh.law23_sameMark_j2 at hP
 refine n_then ?_
 refine c_seq ?_
 refine c_joinX hF hM hP (fun F x a w=>match x with | _=>Fr 145 [(2,.pointer (some ⟨b_B33_2,0,none⟩)),(3,.pointer (some ⟨b_B33_3,0,none⟩)),(4,.bool false)] a ∧ MemL w (pt b_B33_3 (RMark.enc (RMark.mk x1.at_ x1.next x1.done s11 s13 s15 s19)) 60 :: pt b_B33_2 (RMark.enc (RMark.mk x0.at_ x0.next x0.done s1 s3 s5 s9)) 60 :: Lr)) (fun o_j4 hP hK_j4 hF hM=>?_) ?_
 ·refine c_seq ?_
  refine c_region ?_
  refine s_val hF (r_assign hF rfl rfl) rfl rfl rfl fun a hF=>?_
  refine c_nil (n_then ?_)
  refine c_block ?_
  refine c_loopX hF hM hP (fun F x a w=>match x with | v1222=>Fr 145 [(6,.int .i64 v1222),(2,.pointer (some ⟨b_B33_2,0,none⟩)),(3,.pointer (some ⟨b_B33_3,0,none⟩)),(4,.bool false)] a ∧ MemL w (pt b_B33_3 (RMark.enc (RMark.mk x1.at_ x1.next x1.done s11 s13 s15 s19)) 60 :: pt b_B33_2 (RMark.enc (RMark.mk x0.at_ x0.next x0.done s1 s3 s5 s9)) 60 :: Lr)) (fun hF hM=>⟨hF.to ⟨rfl,rfl,rfl,rfl,trivial⟩,hM⟩) ?_
  rintro v1222 a w o_l5 hP hK_l5 ⟨hF,hM⟩
  replace hP:Sh.law23_sameMark_l5 x0 x1 v1222 = _:=hP
  unfold Sh.law23_sameMark_l5 at hP
  refine c_seq ?_
  refine c_seq ?_
  refine c_region ?_
  refine s_val hF (r_move hF rfl rfl) rfl rfl rfl fun a hF=>?_
  refine s_val hF (r_fieldAddr (off':=4) Tryz.underlying60 rfl in57 rfl hF rfl rfl rfl) rfl rfl rfl fun a hF=>?_
  refine s_val hF (r_load1 Tryz.isAgg57 hF rfl rfl (hM.cell (i:=1) rfl (RMark.g_slots _))) rfl rfl rfl fun a hF=>?_
  refine s_val hF (r_lenL (f4 _ (hsub _ (dropM hM 2))) Tryz.underlying57 hF rfl rfl) rfl rfl rfl fun a hF=>?_
  refine s_val hF (r_lss hF rfl rfl rfl) rfl rfl rfl fun a hF=>?_
  refine c_nil (n_then ?_)
  refine c_cond hF (c:=.tmp 86) rfl (fun hb1224=>?_) (fun hb1224=>?_)
  ·have hP:=Fx.cT hb1224 hP
   refine c_skip (n_then ?_)
   refine c_seq ?_
   refine c_block ?_
   refine c_seq ?_
   refine d_startT mixed (by kernel_rfl) hM [0,1] 2 rfl fun hch=>?_
   refine d_val hF hch 0 rfl (by kernel_rfl) rfl rfl rfl (fun w hM=>(r_fieldAddr (off':=4) Tryz.underlying60 rfl in57 rfl hF rfl rfl rfl)) fun a hF=>?_
   refine d_val hF hch 1 rfl (by kernel_rfl) rfl rfl rfl (fun w hM=>(r_load1 Tryz.isAgg57 hF rfl rfl (hM.cell (i:=1) rfl (RMark.g_slots _)))) fun a hF=>?_
   refine d_val hF hch 2 rfl (by kernel_rfl) rfl rfl rfl (fun w hM=>(r_move hF rfl rfl)) fun a hF=>?_
   obtain ⟨x1232,hx1232,hP⟩:=bind_some hP
   have h0x1232:=get_some hx1232
   refine d_val hF hch 3 rfl (by kernel_rfl) rfl rfl rfl (fun w hM=>(r_indexZ (sz:=27) (f4 _ (hsub _ (dropM hM 2))) Tryz.underlying57 in151 rfl hF rfl rfl rfl (get_bd hx1232))) fun a hF=>?_
   refine d_val hF hch 4 rfl (by kernel_rfl) rfl rfl rfl (fun w hM=>(r_loadn Tryz.isAgg151 Tryz.sizeOf151 hF rfl rfl (LCell.len _) (((f4 _ (hsub _ (dropM hM 2))).elemS h0x1232.2)))) fun a hF=>?_
   refine d_val hF hch 5 rfl (by kernel_rfl) rfl rfl rfl (fun w hM=>(r_fieldAddr (off':=4) Tryz.underlying60 rfl in57 rfl hF rfl rfl rfl)) fun a hF=>?_
   refine d_val hF hch 6 rfl (by kernel_rfl) rfl rfl rfl (fun w hM=>(r_load1 Tryz.isAgg57 hF rfl rfl (hM.cell (i:=0) rfl (RMark.g_slots _)))) fun a hF=>?_
   refine d_val hF hch 7 rfl (by kernel_rfl) rfl rfl rfl (fun w hM=>(r_move hF rfl rfl)) fun a hF=>?_
   obtain ⟨x1233,hx1233,hP⟩:=bind_some hP
   have h0x1233:=get_some hx1233
   refine d_val hF hch 8 rfl (by kernel_rfl) rfl rfl rfl (fun w hM=>(r_indexZ (sz:=27) (f14 _ (hsub _ (dropM hM 2))) Tryz.underlying57 in151 rfl hF rfl rfl rfl (get_bd hx1233))) fun a hF=>?_
   refine d_val hF hch 9 rfl (by kernel_rfl) rfl rfl rfl (fun w hM=>(r_loadn Tryz.isAgg151 Tryz.sizeOf151 hF rfl rfl (LCell.len _) (((f14 _ (hsub _ (dropM hM 2))).elemS h0x1233.2)))) fun a hF=>?_
   refine d_val hF hch 10 rfl (by kernel_rfl) rfl rfl rfl (fun w hM=>(r_neqA Tryz.eqGuardType151 (eq_LCell _ _ _ _ (by decide)) hF rfl rfl rfl)) fun a hF=>?_
   refine d_end hch (by kernel_rfl) fun w hM=>?_
   refine n_then ?_
   refine c_cond hF (c:=.tmp 99) rfl (fun hb1234=>?_) (fun hb1234=>?_)
   ·have hP:=Fx.cT hb1234 hP
    refine c_seq ?_
    refine c_region ?_
    refine s_val hF (r_assign hF rfl rfl) rfl rfl rfl fun a hF=>?_
    refine c_nil (n_then ?_)
    refine c_ret ?_
    have hP:=Option.some.inj hP
    subst hP
    have hP:=hK_l5 _ rfl
    subst hP
    have hP:=fin_inr hK_j4
    subst hP
    refine e_ret1 Tryz.results33 hF rfl ?_
    exact ⟨rfl,selM hM [] 2 rfl⟩
   have hP:=Fx.cF hb1234 hP
   refine c_skip (n_block (n_then ?_))
   refine c_region ?_
   refine s_val hF (r_move hF rfl rfl) rfl rfl rfl fun a hF=>?_
   refine s_val hF (r_add hF rfl rfl rfl) rfl rfl rfl fun a hF=>?_
   refine s_val hF (r_assign hF rfl rfl) rfl rfl rfl fun a hF=>?_
   refine c_nil (n_then ?_)
   have hP:=Option.some.inj hP
   subst hP
   exact ⟨(IntKind.i64.wrap (v1222 + 1)),rfl,hF.to ⟨rfl,rfl,rfl,rfl,trivial⟩,hM⟩
  have hP:=Fx.cF hb1224 hP
  refine c_exit (x_then (x_then (x_hit ?_)))
  refine n_then ?_
  have hP:=Option.some.inj hP
  subst hP
  have hP:=hK_l5 _ rfl
  subst hP
  exact ⟨(),rfl,hF.to ⟨rfl,rfl,rfl,trivial⟩,hM⟩
 rintro ⟨⟩ a w hP ⟨hF,hM⟩
 replace hP:Sh.law23_sameMark_j4 x0 x1 = _:=hP
 unfold Sh.law23_sameMark_j4 at hP
 refine n_then ?_
 refine c_seq ?_
 refine c_joinX hF hM hP (fun F x a w=>match x with | _=>Fr 145 [(4,.bool false)] a ∧ MemL w (Lr)) (fun o_j6 hP hK_j6 hF hM=>?_) ?_
 ·refine c_seq ?_
  refine c_region ?_
  refine s_val hF (r_assign hF rfl rfl) rfl rfl rfl fun a hF=>?_
  refine c_nil (n_then ?_)
  refine c_block ?_
  refine c_loopX hF hM hP (fun F x a w=>match x with | v1816=>Fr 145 [(7,.int .i64 v1816),(2,.pointer (some ⟨b_B33_2,0,none⟩)),(3,.pointer (some ⟨b_B33_3,0,none⟩)),(4,.bool false)] a ∧ MemL w (pt b_B33_3 (RMark.enc (RMark.mk x1.at_ x1.next x1.done s11 s13 s15 s19)) 60 :: pt b_B33_2 (RMark.enc (RMark.mk x0.at_ x0.next x0.done s1 s3 s5 s9)) 60 :: Lr)) (fun hF hM=>⟨hF.to ⟨rfl,rfl,rfl,rfl,trivial⟩,hM⟩) ?_
  rintro v1816 a w o_l7 hP hK_l7 ⟨hF,hM⟩
  replace hP:Sh.law23_sameMark_l7 x0 x1 v1816 = _:=hP
  unfold Sh.law23_sameMark_l7 at hP
  refine c_seq ?_
  refine c_seq ?_
  refine c_region ?_
  refine s_val hF (r_move hF rfl rfl) rfl rfl rfl fun a hF=>?_
  refine s_val hF (r_fieldAddr (off':=5) Tryz.underlying60 rfl in58 rfl hF rfl rfl rfl) rfl rfl rfl fun a hF=>?_
  refine s_val hF (r_load1 Tryz.isAgg58 hF rfl rfl (hM.cell (i:=1) rfl (RMark.g_pieces _))) rfl rfl rfl fun a hF=>?_
  refine s_val hF (r_lenD (f7 _ (hsub _ (dropM hM 2))) q8.len Tryz.underlying58 hF rfl rfl) rfl rfl rfl fun a hF=>?_
  refine s_val hF (r_lss hF rfl rfl rfl) rfl rfl rfl fun a hF=>?_
  refine c_nil (n_then ?_)
  refine c_cond hF (c:=.tmp 104) rfl (fun hb1818=>?_) (fun hb1818=>?_)
  ·have hP:=Fx.cT hb1818 hP
   refine c_skip (n_then ?_)
   refine c_seq ?_
   refine c_block ?_
   refine c_seq ?_
   refine c_region ?_
   refine s_val hF (r_fieldAddr (off':=5) Tryz.underlying60 rfl in58 rfl hF rfl rfl rfl) rfl rfl rfl fun a hF=>?_
   refine s_val hF (r_load1 Tryz.isAgg58 hF rfl rfl (hM.cell (i:=1) rfl (RMark.g_pieces _))) rfl rfl rfl fun a hF=>?_
   refine s_val hF (r_move hF rfl rfl) rfl rfl rfl fun a hF=>?_
   obtain ⟨x1854,hx1854,hP⟩:=bind_some hP
   have h0x1854:=get_some hx1854
   obtain ⟨yx1854,hgx1854,hrx1854⟩:=Each.getr q8 h0x1854.2
   have hdx1854:=Each.bd q8 (get_bd hx1854)
   obtain ⟨s1855,s1857,rfl,f1856,f1858⟩:=hrx1854
   refine s_val hF (r_indexZ (sz:=4) (f7 _ (hsub _ (dropM hM 2))) Tryz.underlying58 in156 rfl hF rfl rfl rfl hdx1854) rfl rfl rfl fun a hF=>?_
   refine s_val hF (r_loadn Tryz.isAgg156 Tryz.sizeOf156 hF rfl rfl (RPiece.len _) (((f7 _ (hsub _ (dropM hM 2))).elemS hgx1854))) rfl rfl rfl fun a hF=>?_
   refine s_eff hF rfl rfl rfl (w_alloc z156 (zs:=RPiece.zero.enc) rfl rfl fun b_B33_8 w hzB33_8 hAB33_8=>?_)
   have hM:=hM.plus hAB33_8
   replace hM:MemL _ (pt b_B33_8 (RPiece.enc (RPiece.mk 0 0 SV.nil SV.nil)) 156 :: pt b_B33_3 (RMark.enc (RMark.mk x1.at_ x1.next x1.done s11 s13 s15 s19)) 60 :: pt b_B33_2 (RMark.enc (RMark.mk x0.at_ x0.next x0.done s1 s3 s5 s9)) 60 :: Lr):=hM
   intro a hF
   refine s_eff0 rfl rfl (w_storen (vs:=_) Tryz.sizeOf156 (hM.obj (i:=0) rfl) hF rfl rfl rfl rfl (RPiece.len _) (RPiece.one _) (by first | (rw [RPiece.len,RPiece.len]; decide) | (rw [RPiece.len]; decide)) (put_all ((RPiece.len _).trans (RPiece.len _).symm)) fun w hU1859=>?_)
   have hM:=hM.chg hU1859 (i:=0) rfl
   replace hM:MemL _ (pt b_B33_8 (RPiece.enc (RPiece.mk x1854.table x1854.from_ s1855 s1857)) 156 :: pt b_B33_3 (RMark.enc (RMark.mk x1.at_ x1.next x1.done s11 s13 s15 s19)) 60 :: pt b_B33_2 (RMark.enc (RMark.mk x0.at_ x0.next x0.done s1 s3 s5 s9)) 60 :: Lr):=hM
   refine c_nil (n_then ?_)
   refine c_seq ?_
   refine c_region ?_
   refine s_val hF (r_fieldAddr (off':=5) Tryz.underlying60 rfl in58 rfl hF rfl rfl rfl) rfl rfl rfl fun a hF=>?_
   refine s_val hF (r_load1 Tryz.isAgg58 hF rfl rfl (hM.cell (i:=1) rfl (RMark.g_pieces _))) rfl rfl rfl fun a hF=>?_
   refine s_val hF (r_move hF rfl rfl) rfl rfl rfl fun a hF=>?_
   obtain ⟨x1860,hx1860,hP⟩:=bind_some hP
   have h0x1860:=get_some hx1860
   obtain ⟨yx1860,hgx1860,hrx1860⟩:=Each.getr q18 h0x1860.2
   have hdx1860:=Each.bd q18 (get_bd hx1860)
   obtain ⟨s1861,s1863,rfl,f1862,f1864⟩:=hrx1860
   refine s_val hF (r_indexZ (sz:=4) (f17 _ (hsub _ (dropM hM 3))) Tryz.underlying58 in156 rfl hF rfl rfl rfl hdx1860) rfl rfl rfl fun a hF=>?_
   refine s_val hF (r_loadn Tryz.isAgg156 Tryz.sizeOf156 hF rfl rfl (RPiece.len _) (((f17 _ (hsub _ (dropM hM 3))).elemS hgx1860))) rfl rfl rfl fun a hF=>?_
   refine s_eff hF rfl rfl rfl (w_alloc z156 (zs:=RPiece.zero.enc) rfl rfl fun b_B33_9 w hzB33_9 hAB33_9=>?_)
   have hM:=hM.plus hAB33_9
   replace hM:MemL _ (pt b_B33_9 (RPiece.enc (RPiece.mk 0 0 SV.nil SV.nil)) 156 :: pt b_B33_8 (RPiece.enc (RPiece.mk x1854.table x1854.from_ s1855 s1857)) 156 :: pt b_B33_3 (RMark.enc (RMark.mk x1.at_ x1.next x1.done s11 s13 s15 s19)) 60 :: pt b_B33_2 (RMark.enc (RMark.mk x0.at_ x0.next x0.done s1 s3 s5 s9)) 60 :: Lr):=hM
   intro a hF
   refine s_eff0 rfl rfl (w_storen (vs:=_) Tryz.sizeOf156 (hM.obj (i:=0) rfl) hF rfl rfl rfl rfl (RPiece.len _) (RPiece.one _) (by first | (rw [RPiece.len,RPiece.len]; decide) | (rw [RPiece.len]; decide)) (put_all ((RPiece.len _).trans (RPiece.len _).symm)) fun w hU1865=>?_)
   have hM:=hM.chg hU1865 (i:=0) rfl
   replace hM:MemL _ (pt b_B33_9 (RPiece.enc (RPiece.mk x1860.table x1860.from_ s1861 s1863)) 156 :: pt b_B33_8 (RPiece.enc (RPiece.mk x1854.table x1854.from_ s1855 s1857)) 156 :: pt b_B33_3 (RMark.enc (RMark.mk x1.at_ x1.next x1.done s11 s13 s15 s19)) 60 :: pt b_B33_2 (RMark.enc (RMark.mk x0.at_ x0.next x0.done s1 s3 s5 s9)) 60 :: Lr):=hM
   refine c_nil (n_then ?_)
   refine c_seq ?_
   refine c_joinX hF hM hP (fun F x a w=>match x with | v1880=>Fr 145 [(144,.bool v1880),(2,.pointer (some ⟨b_B33_2,0,none⟩)),(3,.pointer (some ⟨b_B33_3,0,none⟩)),(4,.bool false),(7,.int .i64 v1816)] a ∧ MemL w (pt b_B33_3 (RMark.enc (RMark.mk x1.at_ x1.next x1.done s11 s13 s15 s19)) 60 :: pt b_B33_2 (RMark.enc (RMark.mk x0.at_ x0.next x0.done s1 s3 s5 s9)) 60 :: Lr)) (fun o_j8 hP hK_j8 hF hM=>?_) ?_
   ·refine c_region ?_
    refine s_val hF (r_fieldAddr (off':=0) Tryz.underlying156 rfl in3 rfl hF rfl rfl rfl) rfl rfl rfl fun a hF=>?_
    refine s_val hF (r_load1 Tryz.isAgg3 hF rfl rfl (hM.cell (i:=1) rfl (RPiece.g_table _))) rfl rfl rfl fun a hF=>?_
    refine s_val hF (r_fieldAddr (off':=0) Tryz.underlying156 rfl in3 rfl hF rfl rfl rfl) rfl rfl rfl fun a hF=>?_
    refine s_val hF (r_load1 Tryz.isAgg3 hF rfl rfl (hM.cell (i:=0) rfl (RPiece.g_table _))) rfl rfl rfl fun a hF=>?_
    refine s_val hF (r_neq hF rfl rfl rfl) rfl rfl rfl fun a hF=>?_
    refine s_val hF (r_move hF rfl rfl) rfl rfl rfl fun a hF=>?_
    refine g_split 122 hF rfl (fun hb1881=>?_) (fun hb1881=>?_)
    ·have hP:=Fx.cT hb1881 hP
     refine g_skip hF rfl rfl rfl hb1881 rfl rfl fun a hF=>?_
     refine g_skip hF rfl rfl rfl hb1881 rfl rfl fun a hF=>?_
     refine g_skip hF rfl rfl rfl hb1881 rfl rfl fun a hF=>?_
     refine g_skip hF rfl rfl rfl hb1881 rfl rfl fun a hF=>?_
     refine g_skip hF rfl rfl rfl hb1881 rfl rfl fun a hF=>?_
     refine s_val hF (r_pick1 hF rfl rfl hb1881 rfl) rfl rfl rfl fun a hF=>?_
     refine s_val hF (r_move hF rfl rfl) rfl rfl rfl fun a hF=>?_
     refine g_skip hF rfl rfl rfl rfl rfl rfl fun a hF=>?_
     refine g_skip hF rfl rfl rfl rfl rfl rfl fun a hF=>?_
     refine g_skip hF rfl rfl rfl rfl rfl rfl fun a hF=>?_
     refine g_skip hF rfl rfl rfl rfl rfl rfl fun a hF=>?_
     refine g_skip hF rfl rfl rfl rfl rfl rfl fun a hF=>?_
     refine g_skip hF rfl rfl rfl rfl rfl rfl fun a hF=>?_
     refine s_val hF (r_pick1 hF rfl rfl rfl rfl) rfl rfl rfl fun a hF=>?_
     refine s_val hF (r_move hF rfl rfl) rfl rfl rfl fun a hF=>?_
     refine g_skip hF rfl rfl rfl rfl rfl rfl fun a hF=>?_
     refine g_skip hF rfl rfl rfl rfl rfl rfl fun a hF=>?_
     refine g_skip hF rfl rfl rfl rfl rfl rfl fun a hF=>?_
     refine g_skip hF rfl rfl rfl rfl rfl rfl fun a hF=>?_
     refine g_skip hF rfl rfl rfl rfl rfl rfl fun a hF=>?_
     refine g_skip hF rfl rfl rfl rfl rfl rfl fun a hF=>?_
     refine s_val hF (r_pick1 hF rfl rfl rfl rfl) rfl rfl rfl fun a hF=>?_
     refine c_nil (n_then ?_)
     have hP:=Option.some.inj hP
     subst hP
     exact ⟨true,rfl,hF.to ⟨rfl,rfl,rfl,rfl,rfl,trivial⟩,selM hM [2,3] 4 rfl⟩
    have hP:=Fx.cF hb1881 hP
    refine g_val hF rfl rfl rfl hb1881 (r_fieldAddr (off':=1) Tryz.underlying156 rfl in3 rfl hF rfl rfl rfl) rfl rfl fun a hF=>?_
    refine g_val hF rfl rfl rfl hb1881 (r_load1 Tryz.isAgg3 hF rfl rfl (hM.cell (i:=1) rfl (RPiece.g_from_ _))) rfl rfl fun a hF=>?_
    refine g_val hF rfl rfl rfl hb1881 (r_fieldAddr (off':=1) Tryz.underlying156 rfl in3 rfl hF rfl rfl rfl) rfl rfl fun a hF=>?_
    refine g_val hF rfl rfl rfl hb1881 (r_load1 Tryz.isAgg3 hF rfl rfl (hM.cell (i:=0) rfl (RPiece.g_from_ _))) rfl rfl fun a hF=>?_
    refine g_val hF rfl rfl rfl hb1881 (r_neq hF rfl rfl rfl) rfl rfl fun a hF=>?_
    refine s_val hF (r_pick0 hF rfl rfl hb1881 rfl) rfl rfl rfl fun a hF=>?_
    refine s_val hF (r_move hF rfl rfl) rfl rfl rfl fun a hF=>?_
    refine g_split 129 hF rfl (fun hb1882=>?_) (fun hb1882=>?_)
    ·have hP:=Fx.cT hb1882 hP
     refine g_skip hF rfl rfl rfl hb1882 rfl rfl fun a hF=>?_
     refine g_skip hF rfl rfl rfl hb1882 rfl rfl fun a hF=>?_
     refine g_skip hF rfl rfl rfl hb1882 rfl rfl fun a hF=>?_
     refine g_skip hF rfl rfl rfl hb1882 rfl rfl fun a hF=>?_
     refine g_skip hF rfl rfl rfl hb1882 rfl rfl fun a hF=>?_
     refine g_skip hF rfl rfl rfl hb1882 rfl rfl fun a hF=>?_
     refine s_val hF (r_pick1 hF rfl rfl hb1882 rfl) rfl rfl rfl fun a hF=>?_
     refine s_val hF (r_move hF rfl rfl) rfl rfl rfl fun a hF=>?_
     refine g_skip hF rfl rfl rfl rfl rfl rfl fun a hF=>?_
     refine g_skip hF rfl rfl rfl rfl rfl rfl fun a hF=>?_
     refine g_skip hF rfl rfl rfl rfl rfl rfl fun a hF=>?_
     refine g_skip hF rfl rfl rfl rfl rfl rfl fun a hF=>?_
     refine g_skip hF rfl rfl rfl rfl rfl rfl fun a hF=>?_
     refine g_skip hF rfl rfl rfl rfl rfl rfl fun a hF=>?_
     refine s_val hF (r_pick1 hF rfl rfl rfl rfl) rfl rfl rfl fun a hF=>?_
     refine c_nil (n_then ?_)
     have hP:=Option.some.inj hP
     subst hP
     exact ⟨true,rfl,hF.to ⟨rfl,rfl,rfl,rfl,rfl,trivial⟩,selM hM [2,3] 4 rfl⟩
    have hP:=Fx.cF hb1882 hP
    refine g_val hF rfl rfl rfl hb1882 (r_fieldAddr (off':=2) Tryz.underlying156 rfl in23 rfl hF rfl rfl rfl) rfl rfl fun a hF=>?_
    refine g_val hF rfl rfl rfl hb1882 (r_load1 Tryz.isAgg23 hF rfl rfl (hM.cell (i:=1) rfl (RPiece.g_old _))) rfl rfl fun a hF=>?_
    refine g_val hF rfl rfl rfl hb1882 (r_fieldAddr (off':=2) Tryz.underlying156 rfl in23 rfl hF rfl rfl rfl) rfl rfl fun a hF=>?_
    refine g_val hF rfl rfl rfl hb1882 (r_load1 Tryz.isAgg23 hF rfl rfl (hM.cell (i:=0) rfl (RPiece.g_old _))) rfl rfl fun a hF=>?_
    obtain ⟨y1884,hy1884,hP⟩:=bind_some hP
    refine g_eff hF rfl rfl rfl hb1882 rfl rfl (w_call (xs:=[.tmp 131,.tmp 133]) Tryz.call43 hF rfl rfl (law00_SameBytes_calls hy1884 hM (Bf:=Bf) (fun w hM=>hsub _ (dropM hM 4)) f1856 f1862) fun v w hR=>?_)
    obtain ⟨rfl,hM⟩:=hR
    replace hM:MemL _ (pt b_B33_9 (RPiece.enc (RPiece.mk x1860.table x1860.from_ s1861 s1863)) 156 :: pt b_B33_8 (RPiece.enc (RPiece.mk x1854.table x1854.from_ s1855 s1857)) 156 :: pt b_B33_3 (RMark.enc (RMark.mk x1.at_ x1.next x1.done s11 s13 s15 s19)) 60 :: pt b_B33_2 (RMark.enc (RMark.mk x0.at_ x0.next x0.done s1 s3 s5 s9)) 60 :: Lr):=hM
    intro a hF
    refine g_val hF rfl rfl rfl hb1882 (r_not hF rfl rfl) rfl rfl fun a hF=>?_
    refine s_val hF (r_pick0 hF rfl rfl hb1882 rfl) rfl rfl rfl fun a hF=>?_
    refine s_val hF (r_move hF rfl rfl) rfl rfl rfl fun a hF=>?_
    refine g_split 137 hF rfl (fun hb1885=>?_) (fun hb1885=>?_)
    ·have hP:=Fx.cT hb1885 hP
     refine g_skip hF rfl rfl rfl hb1885 rfl rfl fun a hF=>?_
     refine g_skip hF rfl rfl rfl hb1885 rfl rfl fun a hF=>?_
     refine g_skip hF rfl rfl rfl hb1885 rfl rfl fun a hF=>?_
     refine g_skip hF rfl rfl rfl hb1885 rfl rfl fun a hF=>?_
     refine g_skip hF rfl rfl rfl hb1885 rfl rfl fun a hF=>?_
     refine g_skip hF rfl rfl rfl hb1885 rfl rfl fun a hF=>?_
     refine s_val hF (r_pick1 hF rfl rfl hb1885 rfl) rfl rfl rfl fun a hF=>?_
     refine c_nil (n_then ?_)
     have hP:=Option.some.inj hP
     subst hP
     exact ⟨true,rfl,hF.to ⟨rfl,rfl,rfl,rfl,rfl,trivial⟩,selM hM [2,3] 4 rfl⟩
    have hP:=Fx.cF hb1885 hP
    refine g_val hF rfl rfl rfl hb1885 (r_fieldAddr (off':=3) Tryz.underlying156 rfl in23 rfl hF rfl rfl rfl) rfl rfl fun a hF=>?_
    refine g_val hF rfl rfl rfl hb1885 (r_load1 Tryz.isAgg23 hF rfl rfl (hM.cell (i:=1) rfl (RPiece.g_new _))) rfl rfl fun a hF=>?_
    refine g_val hF rfl rfl rfl hb1885 (r_fieldAddr (off':=3) Tryz.underlying156 rfl in23 rfl hF rfl rfl rfl) rfl rfl fun a hF=>?_
    refine g_val hF rfl rfl rfl hb1885 (r_load1 Tryz.isAgg23 hF rfl rfl (hM.cell (i:=0) rfl (RPiece.g_new _))) rfl rfl fun a hF=>?_
    obtain ⟨y1887,hy1887,hP⟩:=bind_some hP
    refine g_eff hF rfl rfl rfl hb1885 rfl rfl (w_call (xs:=[.tmp 139,.tmp 141]) Tryz.call43 hF rfl rfl (law00_SameBytes_calls hy1887 hM (Bf:=Bf) (fun w hM=>hsub _ (dropM hM 4)) f1858 f1864) fun v w hR=>?_)
    obtain ⟨rfl,hM⟩:=hR
    replace hM:MemL _ (pt b_B33_9 (RPiece.enc (RPiece.mk x1860.table x1860.from_ s1861 s1863)) 156 :: pt b_B33_8 (RPiece.enc (RPiece.mk x1854.table x1854.from_ s1855 s1857)) 156 :: pt b_B33_3 (RMark.enc (RMark.mk x1.at_ x1.next x1.done s11 s13 s15 s19)) 60 :: pt b_B33_2 (RMark.enc (RMark.mk x0.at_ x0.next x0.done s1 s3 s5 s9)) 60 :: Lr):=hM
    intro a hF
    refine g_val hF rfl rfl rfl hb1885 (r_not hF rfl rfl) rfl rfl fun a hF=>?_
    refine s_val hF (r_pick0 hF rfl rfl hb1885 rfl) rfl rfl rfl fun a hF=>?_
    refine c_nil (n_then ?_)
    have hP:=Option.some.inj hP
    subst hP
    exact ⟨(!y1887),rfl,hF.to ⟨rfl,rfl,rfl,rfl,rfl,trivial⟩,selM hM [2,3] 4 rfl⟩
   rintro v1880 a w hP ⟨hF,hM⟩
   replace hP:Sh.law23_sameMark_j8 v1816 v1880 = _:=hP
   unfold Sh.law23_sameMark_j8 at hP
   refine n_then ?_
   refine c_cond hF (c:=.tmp 144) rfl (fun hb1888=>?_) (fun hb1888=>?_)
   ·have hP:=Fx.cT hb1888 hP
    refine c_seq ?_
    refine c_region ?_
    refine s_val hF (r_assign hF rfl rfl) rfl rfl rfl fun a hF=>?_
    refine c_nil (n_then ?_)
    refine c_ret ?_
    have hP:=Option.some.inj hP
    subst hP
    have hP:=hK_l7 _ rfl
    subst hP
    have hP:=fin_inr hK_j6
    subst hP
    refine e_ret1 Tryz.results33 hF rfl ?_
    exact ⟨rfl,selM hM [] 2 rfl⟩
   have hP:=Fx.cF hb1888 hP
   refine c_skip (n_block (n_then ?_))
   refine c_region ?_
   refine s_val hF (r_move hF rfl rfl) rfl rfl rfl fun a hF=>?_
   refine s_val hF (r_add hF rfl rfl rfl) rfl rfl rfl fun a hF=>?_
   refine s_val hF (r_assign hF rfl rfl) rfl rfl rfl fun a hF=>?_
   refine c_nil (n_then ?_)
   have hP:=Option.some.inj hP
   subst hP
   exact ⟨(IntKind.i64.wrap (v1816 + 1)),rfl,hF.to ⟨rfl,rfl,rfl,rfl,trivial⟩,hM⟩
  have hP:=Fx.cF hb1818 hP
  refine c_exit (x_then (x_then (x_hit ?_)))
  refine n_then ?_
  have hP:=Option.some.inj hP
  subst hP
  have hP:=hK_l7 _ rfl
  subst hP
  exact ⟨(),rfl,hF.to ⟨rfl,trivial⟩,selM hM [] 2 rfl⟩
 rintro ⟨⟩ a w hP ⟨hF,hM⟩
 replace hP:Sh.law23_sameMark_j6 = _:=hP
 unfold Sh.law23_sameMark_j6 at hP
 refine n_then ?_
 refine c_seq ?_
 refine c_region ?_
 refine s_val hF (r_assign hF rfl rfl) rfl rfl rfl fun a hF=>?_
 refine c_nil (n_then ?_)
 refine c_ret ?_
 have hP:=Option.some.inj hP
 subst hP
 refine e_ret1 Tryz.results33 hF rfl ?_
 exact ⟨rfl,hM⟩
set_option maxHeartbeats 4000000 in
theorem law23_sameRecord_calls {x0:QRecord} {x1:QRecord} {s1:SV} {s3:SV} {hs4:List SV} {s7:SV} {hs8:List RMark} {s11:SV} {s13:SV} {hs14:List SV} {s17:SV} {hs18:List RMark} {out:Bool} {w0:World} {Bf:World → Prop} {Lr:List Res} (hP:Sh.law23_sameRecord x0 x1 = some out) (hM:MemL w0 (Lr)) (hsub:∀ w,MemL w Lr → Bf w) (f2:LIn Bf s1 x0.in_.ctx) (f5:LIn Bf s3 hs4) (q6:Each (LIn (X:=UInt8) Bf) hs4 x0.in_.tables) (f9:LIn Bf s7 hs8) (q10:Each (QMarkIn Bf) hs8 x0.marks) (f12:LIn Bf s11 x1.in_.ctx) (f15:LIn Bf s13 hs14) (q16:Each (LIn (X:=UInt8) Bf) hs14 x1.in_.tables) (f19:LIn Bf s17 hs18) (q20:Each (QMarkIn Bf) hs18 x1.marks):Calls Tryz.prog 27 #[.agg (RRecord.enc (RRecord.mk (RInput.mk s1 s3) s7 x0.end_)).toArray,.agg (RRecord.enc (RRecord.mk (RInput.mk s11 s13) s17 x1.end_)).toArray] w0 (Ret fun v w'=>v = .bool out ∧ MemL w' (Lr)):=by
 unfold Sh.law23_sameRecord at hP
 refine calls_enter (vs:=[.agg (RRecord.enc (RRecord.mk (RInput.mk s1 s3) s7 x0.end_)).toArray,.agg (RRecord.enc (RRecord.mk (RInput.mk s11 s13) s17 x1.end_)).toArray]) Tryz.func27 rfl Tryz.ntmps27 rfl fun a hF=>?_
 refine c_seq ?_
 refine c_region ?_
 refine s_eff hF rfl rfl rfl (w_box hF rfl rfl rfl fun b_B27_2 w hzB27_2 hAB27_2=>?_)
 have hM:=hM.plus hAB27_2
 replace hM:MemL _ (pt b_B27_2 (RRecord.enc (RRecord.mk (RInput.mk s1 s3) s7 x0.end_)) 36 :: Lr):=hM
 intro a hF
 refine s_eff hF rfl rfl rfl (w_box hF rfl rfl rfl fun b_B27_3 w hzB27_3 hAB27_3=>?_)
 have hM:=hM.plus hAB27_3
 replace hM:MemL _ (pt b_B27_3 (RRecord.enc (RRecord.mk (RInput.mk s11 s13) s17 x1.end_)) 36 :: pt b_B27_2 (RRecord.enc (RRecord.mk (RInput.mk s1 s3) s7 x0.end_)) 36 :: Lr):=hM
 intro a hF
 refine s_val hF (r_assign hF rfl rfl) rfl rfl rfl fun a hF=>?_
 refine c_nil (n_then ?_)
 refine c_seq ?_
 refine c_seq ?_
 refine c_joinX hF hM hP (fun F x a w=>match x with | v977=>Fr 47 [(27,.bool v977),(2,.pointer (some ⟨b_B27_2,0,none⟩)),(3,.pointer (some ⟨b_B27_3,0,none⟩)),(4,.bool false)] a ∧ MemL w (pt b_B27_3 (RRecord.enc (RRecord.mk (RInput.mk s11 s13) s17 x1.end_)) 36 :: pt b_B27_2 (RRecord.enc (RRecord.mk (RInput.mk s1 s3) s7 x0.end_)) 36 :: Lr)) (fun o_j1 hP hK_j1 hF hM=>?_) ?_
 ·refine c_region ?_
  refine s_val hF (r_fieldAddr (off':=3) Tryz.underlying36 rfl in34 rfl hF rfl rfl rfl) rfl rfl rfl fun a hF=>?_
  refine s_val hF (r_load1 Tryz.isAgg34 hF rfl rfl (hM.cell (i:=1) rfl (RRecord.g_end_ _))) rfl rfl rfl fun a hF=>?_
  refine s_val hF (r_fieldAddr (off':=3) Tryz.underlying36 rfl in34 rfl hF rfl rfl rfl) rfl rfl rfl fun a hF=>?_
  refine s_val hF (r_load1 Tryz.isAgg34 hF rfl rfl (hM.cell (i:=0) rfl (RRecord.g_end_ _))) rfl rfl rfl fun a hF=>?_
  refine s_val hF (r_neq hF rfl rfl rfl) rfl rfl rfl fun a hF=>?_
  refine s_val hF (r_move hF rfl rfl) rfl rfl rfl fun a hF=>?_
  refine g_split 11 hF rfl (fun hb978=>?_) (fun hb978=>?_)
  ·have hP:=Fx.cT hb978 hP
   refine g_skip hF rfl rfl rfl hb978 rfl rfl fun a hF=>?_
   refine g_skip hF rfl rfl rfl hb978 rfl rfl fun a hF=>?_
   refine g_skip hF rfl rfl rfl hb978 rfl rfl fun a hF=>?_
   refine g_skip hF rfl rfl rfl hb978 rfl rfl fun a hF=>?_
   refine g_skip hF rfl rfl rfl hb978 rfl rfl fun a hF=>?_
   refine g_skip hF rfl rfl rfl hb978 rfl rfl fun a hF=>?_
   refine g_skip hF rfl rfl rfl hb978 rfl rfl fun a hF=>?_
   refine s_val hF (r_pick1 hF rfl rfl hb978 rfl) rfl rfl rfl fun a hF=>?_
   refine s_val hF (r_move hF rfl rfl) rfl rfl rfl fun a hF=>?_
   refine g_skip hF rfl rfl rfl rfl rfl rfl fun a hF=>?_
   refine g_skip hF rfl rfl rfl rfl rfl rfl fun a hF=>?_
   refine g_skip hF rfl rfl rfl rfl rfl rfl fun a hF=>?_
   refine g_skip hF rfl rfl rfl rfl rfl rfl fun a hF=>?_
   refine g_skip hF rfl rfl rfl rfl rfl rfl fun a hF=>?_
   refine g_skip hF rfl rfl rfl rfl rfl rfl fun a hF=>?_
   refine s_val hF (r_pick1 hF rfl rfl rfl rfl) rfl rfl rfl fun a hF=>?_
   refine c_nil (n_then ?_)
   have hP:=Option.some.inj hP
   subst hP
   exact ⟨true,rfl,hF.to ⟨rfl,rfl,rfl,rfl,trivial⟩,hM⟩
  have hP:=Fx.cF hb978 hP
  refine g_val hF rfl rfl rfl hb978 (r_fieldAddr (off':=2) Tryz.underlying36 rfl in33 rfl hF rfl rfl rfl) rfl rfl fun a hF=>?_
  refine g_val hF rfl rfl rfl hb978 (r_load1 Tryz.isAgg33 hF rfl rfl (hM.cell (i:=1) rfl (RRecord.g_marks _))) rfl rfl fun a hF=>?_
  refine g_val hF rfl rfl rfl hb978 (r_lenD (f9 _ (hsub _ (dropM hM 2))) q10.len Tryz.underlying33 hF rfl rfl) rfl rfl fun a hF=>?_
  refine g_val hF rfl rfl rfl hb978 (r_fieldAddr (off':=2) Tryz.underlying36 rfl in33 rfl hF rfl rfl rfl) rfl rfl fun a hF=>?_
  refine g_val hF rfl rfl rfl hb978 (r_load1 Tryz.isAgg33 hF rfl rfl (hM.cell (i:=0) rfl (RRecord.g_marks _))) rfl rfl fun a hF=>?_
  refine g_val hF rfl rfl rfl hb978 (r_lenD (f19 _ (hsub _ (dropM hM 2))) q20.len Tryz.underlying33 hF rfl rfl) rfl rfl fun a hF=>?_
  refine g_val hF rfl rfl rfl hb978 (r_neq hF rfl rfl rfl) rfl rfl fun a hF=>?_
  refine s_val hF (r_pick0 hF rfl rfl hb978 rfl) rfl rfl rfl fun a hF=>?_
  refine s_val hF (r_move hF rfl rfl) rfl rfl rfl fun a hF=>?_
  refine g_split 20 hF rfl (fun hb979=>?_) (fun hb979=>?_)
  ·have hP:=Fx.cT hb979 hP
   refine g_skip hF rfl rfl rfl hb979 rfl rfl fun a hF=>?_
   refine g_skip hF rfl rfl rfl hb979 rfl rfl fun a hF=>?_
   refine g_skip hF rfl rfl rfl hb979 rfl rfl fun a hF=>?_
   refine g_skip hF rfl rfl rfl hb979 rfl rfl fun a hF=>?_
   refine g_skip hF rfl rfl rfl hb979 rfl rfl fun a hF=>?_
   refine g_skip hF rfl rfl rfl hb979 rfl rfl fun a hF=>?_
   refine s_val hF (r_pick1 hF rfl rfl hb979 rfl) rfl rfl rfl fun a hF=>?_
   refine c_nil (n_then ?_)
   have hP:=Option.some.inj hP
   subst hP
   exact ⟨true,rfl,hF.to ⟨rfl,rfl,rfl,rfl,trivial⟩,hM⟩
  have hP:=Fx.cF hb979 hP
  refine g_val hF rfl rfl rfl hb979 (r_fieldAddr (off':=0) Tryz.underlying36 rfl in30 rfl hF rfl rfl rfl) rfl rfl fun a hF=>?_
  refine g_val hF rfl rfl rfl hb979 (r_loadn Tryz.isAgg30 Tryz.sizeOf30 hF rfl rfl (RInput.len _) (hM.cells (i:=1) rfl (RRecord.c_in_ _))) rfl rfl fun a hF=>?_
  refine g_val hF rfl rfl rfl hb979 (r_fieldAddr (off':=0) Tryz.underlying36 rfl in30 rfl hF rfl rfl rfl) rfl rfl fun a hF=>?_
  refine g_val hF rfl rfl rfl hb979 (r_loadn Tryz.isAgg30 Tryz.sizeOf30 hF rfl rfl (RInput.len _) (hM.cells (i:=0) rfl (RRecord.c_in_ _))) rfl rfl fun a hF=>?_
  obtain ⟨y981,hy981,hP⟩:=bind_some hP
  refine g_eff hF rfl rfl rfl hb979 rfl rfl (w_call (xs:=[.tmp 22,.tmp 24]) Tryz.call29 hF rfl rfl (law00_SameInput_calls hy981 hM (Bf:=Bf) (fun w hM=>hsub _ (dropM hM 2)) f2 f5 q6 f12 f15 q16) fun v w hR=>?_)
  obtain ⟨rfl,hM⟩:=hR
  replace hM:MemL _ (pt b_B27_3 (RRecord.enc (RRecord.mk (RInput.mk s11 s13) s17 x1.end_)) 36 :: pt b_B27_2 (RRecord.enc (RRecord.mk (RInput.mk s1 s3) s7 x0.end_)) 36 :: Lr):=hM
  intro a hF
  refine g_val hF rfl rfl rfl hb979 (r_not hF rfl rfl) rfl rfl fun a hF=>?_
  refine s_val hF (r_pick0 hF rfl rfl hb979 rfl) rfl rfl rfl fun a hF=>?_
  refine c_nil (n_then ?_)
  have hP:=Option.some.inj hP
  subst hP
  exact ⟨(!y981),rfl,hF.to ⟨rfl,rfl,rfl,rfl,trivial⟩,hM⟩
 rintro v977 a w hP ⟨hF,hM⟩
 replace hP:Sh.law23_sameRecord_j1 x0 x1 v977 = _:=hP
 unfold Sh.law23_sameRecord_j1 at hP
 refine n_then ?_
 refine c_cond hF (c:=.tmp 27) rfl (fun hb982=>?_) (fun hb982=>?_)
 ·have hP:=Fx.cT hb982 hP
  refine c_seq ?_
  refine c_region ?_
  refine s_val hF (r_assign hF rfl rfl) rfl rfl rfl fun a hF=>?_
  refine c_nil (n_then ?_)
  refine c_ret ?_
  have hP:=Option.some.inj hP
  subst hP
  refine e_ret1 Tryz.results27 hF rfl ?_
  exact ⟨rfl,selM hM [] 2 rfl⟩
 have hP:=Fx.cF hb982 hP
 refine c_skip (n_then ?_)
 refine c_seq ?_
 refine c_joinX hF hM hP (fun F x a w=>match x with | _=>Fr 47 [(4,.bool false)] a ∧ MemL w (Lr)) (fun o_j2 hP hK_j2 hF hM=>?_) ?_
 ·refine c_seq ?_
  refine c_region ?_
  refine s_val hF (r_assign hF rfl rfl) rfl rfl rfl fun a hF=>?_
  refine c_nil (n_then ?_)
  refine c_block ?_
  refine c_loopX hF hM hP (fun F x a w=>match x with | v1788=>Fr 47 [(5,.int .i64 v1788),(2,.pointer (some ⟨b_B27_2,0,none⟩)),(3,.pointer (some ⟨b_B27_3,0,none⟩)),(4,.bool false)] a ∧ MemL w (pt b_B27_3 (RRecord.enc (RRecord.mk (RInput.mk s11 s13) s17 x1.end_)) 36 :: pt b_B27_2 (RRecord.enc (RRecord.mk (RInput.mk s1 s3) s7 x0.end_)) 36 :: Lr)) (fun hF hM=>⟨hF.to ⟨rfl,rfl,rfl,rfl,trivial⟩,hM⟩) ?_
  rintro v1788 a w o_l3 hP hK_l3 ⟨hF,hM⟩
  replace hP:Sh.law23_sameRecord_l3 x0 x1 v1788 = _:=hP
  unfold Sh.law23_sameRecord_l3 at hP
  refine c_seq ?_
  refine c_seq ?_
  refine c_region ?_
  refine s_val hF (r_move hF rfl rfl) rfl rfl rfl fun a hF=>?_
  refine s_val hF (r_fieldAddr (off':=2) Tryz.underlying36 rfl in33 rfl hF rfl rfl rfl) rfl rfl rfl fun a hF=>?_
  refine s_val hF (r_load1 Tryz.isAgg33 hF rfl rfl (hM.cell (i:=1) rfl (RRecord.g_marks _))) rfl rfl rfl fun a hF=>?_
  refine s_val hF (r_lenD (f9 _ (hsub _ (dropM hM 2))) q10.len Tryz.underlying33 hF rfl rfl) rfl rfl rfl fun a hF=>?_
  refine s_val hF (r_lss hF rfl rfl rfl) rfl rfl rfl fun a hF=>?_
  refine c_nil (n_then ?_)
  refine c_cond hF (c:=.tmp 32) rfl (fun hb1790=>?_) (fun hb1790=>?_)
  ·have hP:=Fx.cT hb1790 hP
   refine c_skip (n_then ?_)
   refine c_seq ?_
   refine c_block ?_
   refine c_seq ?_
   refine d_startT mixed (by kernel_rfl) hM [0,1] 2 rfl fun hch=>?_
   refine d_val hF hch 0 rfl (by kernel_rfl) rfl rfl rfl (fun w hM=>(r_fieldAddr (off':=2) Tryz.underlying36 rfl in33 rfl hF rfl rfl rfl)) fun a hF=>?_
   refine d_val hF hch 1 rfl (by kernel_rfl) rfl rfl rfl (fun w hM=>(r_load1 Tryz.isAgg33 hF rfl rfl (hM.cell (i:=1) rfl (RRecord.g_marks _)))) fun a hF=>?_
   refine d_val hF hch 2 rfl (by kernel_rfl) rfl rfl rfl (fun w hM=>(r_move hF rfl rfl)) fun a hF=>?_
   obtain ⟨x1864,hx1864,hP⟩:=bind_some hP
   have h0x1864:=get_some hx1864
   obtain ⟨yx1864,hgx1864,hrx1864⟩:=Each.getr q10 h0x1864.2
   have hdx1864:=Each.bd q10 (get_bd hx1864)
   obtain ⟨s1865,s1867,s1869,hs1870,s1873,rfl,f1866,f1868,f1871,q1872,f1874⟩:=hrx1864
   refine d_val hF hch 3 rfl (by kernel_rfl) rfl rfl rfl (fun w hM=>(r_indexZ (sz:=7) (f9 _ (hsub _ (dropM hM 2))) Tryz.underlying33 in60 rfl hF rfl rfl rfl hdx1864)) fun a hF=>?_
   refine d_val hF hch 4 rfl (by kernel_rfl) rfl rfl rfl (fun w hM=>(r_loadn Tryz.isAgg60 Tryz.sizeOf60 hF rfl rfl (RMark.len _) (((f9 _ (hsub _ (dropM hM 2))).elemS hgx1864)))) fun a hF=>?_
   refine d_val hF hch 5 rfl (by kernel_rfl) rfl rfl rfl (fun w hM=>(r_fieldAddr (off':=2) Tryz.underlying36 rfl in33 rfl hF rfl rfl rfl)) fun a hF=>?_
   refine d_val hF hch 6 rfl (by kernel_rfl) rfl rfl rfl (fun w hM=>(r_load1 Tryz.isAgg33 hF rfl rfl (hM.cell (i:=0) rfl (RRecord.g_marks _)))) fun a hF=>?_
   refine d_val hF hch 7 rfl (by kernel_rfl) rfl rfl rfl (fun w hM=>(r_move hF rfl rfl)) fun a hF=>?_
   obtain ⟨x1875,hx1875,hP⟩:=bind_some hP
   have h0x1875:=get_some hx1875
   obtain ⟨yx1875,hgx1875,hrx1875⟩:=Each.getr q20 h0x1875.2
   have hdx1875:=Each.bd q20 (get_bd hx1875)
   obtain ⟨s1876,s1878,s1880,hs1881,s1884,rfl,f1877,f1879,f1882,q1883,f1885⟩:=hrx1875
   refine d_val hF hch 8 rfl (by kernel_rfl) rfl rfl rfl (fun w hM=>(r_indexZ (sz:=7) (f19 _ (hsub _ (dropM hM 2))) Tryz.underlying33 in60 rfl hF rfl rfl rfl hdx1875)) fun a hF=>?_
   refine d_val hF hch 9 rfl (by kernel_rfl) rfl rfl rfl (fun w hM=>(r_loadn Tryz.isAgg60 Tryz.sizeOf60 hF rfl rfl (RMark.len _) (((f19 _ (hsub _ (dropM hM 2))).elemS hgx1875)))) fun a hF=>?_
   refine d_one hch 10 (by kernel_rfl) rfl rfl ?_
   refine d_ex hF 10 rfl rfl rfl rfl rfl fun w hMs hM=>?_
   obtain ⟨y1887,hy1887,hP⟩:=bind_some hP
   refine (w_call (xs:=[.tmp 39,.tmp 44]) Tryz.call33 hF rfl rfl (law23_sameMark_calls hy1887 hM (Bf:=Bf) (fun w hM=>hsub _ (dropM hM 2)) f1866 f1868 f1871 q1872 f1874 f1877 f1879 f1882 q1883 f1885) fun v w hR=>?_)
   obtain ⟨rfl,hM⟩:=hR
   replace hM:MemL _ (pt b_B27_3 (RRecord.enc (RRecord.mk (RInput.mk s11 s13) s17 x1.end_)) 36 :: pt b_B27_2 (RRecord.enc (RRecord.mk (RInput.mk s1 s3) s7 x0.end_)) 36 :: Lr):=hM
   have hMs:=selM hM [0,1] 2 rfl
   refine ⟨_,_,hMs,hM,.inl fun _ h=>h,fun a hF=>?_⟩
   refine d_val hF hch 11 rfl (by kernel_rfl) rfl rfl rfl (fun w hM=>(r_not hF rfl rfl)) fun a hF=>?_
   refine d_end hch (by kernel_rfl) fun w hM=>?_
   refine n_then ?_
   refine c_cond hF (c:=.tmp 46) rfl (fun hb1888=>?_) (fun hb1888=>?_)
   ·have hP:=Fx.cT hb1888 hP
    refine c_seq ?_
    refine c_region ?_
    refine s_val hF (r_assign hF rfl rfl) rfl rfl rfl fun a hF=>?_
    refine c_nil (n_then ?_)
    refine c_ret ?_
    have hP:=Option.some.inj hP
    subst hP
    have hP:=hK_l3 _ rfl
    subst hP
    have hP:=fin_inr hK_j2
    subst hP
    refine e_ret1 Tryz.results27 hF rfl ?_
    exact ⟨rfl,selM hM [] 2 rfl⟩
   have hP:=Fx.cF hb1888 hP
   refine c_skip (n_block (n_then ?_))
   refine c_region ?_
   refine s_val hF (r_move hF rfl rfl) rfl rfl rfl fun a hF=>?_
   refine s_val hF (r_add hF rfl rfl rfl) rfl rfl rfl fun a hF=>?_
   refine s_val hF (r_assign hF rfl rfl) rfl rfl rfl fun a hF=>?_
   refine c_nil (n_then ?_)
   have hP:=Option.some.inj hP
   subst hP
   exact ⟨(IntKind.i64.wrap (v1788 + 1)),rfl,hF.to ⟨rfl,rfl,rfl,rfl,trivial⟩,hM⟩
  have hP:=Fx.cF hb1790 hP
  refine c_exit (x_then (x_then (x_hit ?_)))
  refine n_then ?_
  have hP:=Option.some.inj hP
  subst hP
  have hP:=hK_l3 _ rfl
  subst hP
  exact ⟨(),rfl,hF.to ⟨rfl,trivial⟩,selM hM [] 2 rfl⟩
 rintro ⟨⟩ a w hP ⟨hF,hM⟩
 replace hP:Sh.law23_sameRecord_j2 = _:=hP
 unfold Sh.law23_sameRecord_j2 at hP
 refine n_then ?_
 refine c_seq ?_
 refine c_region ?_
 refine s_val hF (r_assign hF rfl rfl) rfl rfl rfl fun a hF=>?_
 refine c_nil (n_then ?_)
 refine c_ret ?_
 have hP:=Option.some.inj hP
 subst hP
 refine e_ret1 Tryz.results27 hF rfl ?_
 exact ⟨rfl,hM⟩
end Go.Proofs
end
section
namespace Go.Proofs
open Go.Fw Go.Fx
set_option maxRecDepth 10000
set_option linter.unusedVariables false
set_option linter.unusedSimpArgs false
set_option maxHeartbeats 4000000 in
theorem trace_writer_byte_calls {x0:QWriter} {x1:Int} {s1:SV} {b0:Nat} {out:QWriter} {w0:World} {Lr:List Res} (hP:Sh.trace_writer_byte x0 x1 = some out) (hM:MemL w0 (pt b0 (RWriter.enc (RWriter.mk s1)) 167 :: fowL 5 s1 x0.b :: Lr)):Calls Tryz.prog 102 #[.pointer (some ⟨b0,0,none⟩),.int .i64 x1] w0 (Ret fun v w'=>∃ (s6:SV),v = .tuple #[] ∧ MemL w' (pt b0 (RWriter.enc (RWriter.mk s6)) 167 :: fowL 5 s6 out.b :: Lr)):=by
 unfold Sh.trace_writer_byte at hP
 refine calls_enter (vs:=[.pointer (some ⟨b0,0,none⟩),.int .i64 x1]) Tryz.func102 rfl Tryz.ntmps102 rfl fun a hF=>?_
 refine c_region ?_
 refine s_val hF (r_move hF rfl rfl) rfl rfl rfl fun a hF=>?_
 refine s_val hF (r_move hF rfl rfl) rfl rfl rfl fun a hF=>?_
 refine s_val hF (r_nilCheckP hF rfl rfl) rfl rfl rfl fun a hF=>?_
 refine s_val hF (r_fieldAddr (off':=0) Tryz.underlying167 rfl in23 rfl hF rfl rfl rfl) rfl rfl rfl fun a hF=>?_
 refine s_val hF (r_load1 Tryz.isAgg23 hF rfl rfl (hM.cell (i:=0) rfl (RWriter.g_b _))) rfl rfl rfl fun a hF=>?_
 refine s_val hF (r_move hF rfl rfl) rfl rfl rfl fun a hF=>?_
 refine s_val hF (r_convB Tryz.underlying3 Tryz.underlying5 hF rfl rfl) rfl rfl rfl fun a hF=>?_
 refine s_eff hF rfl rfl rfl (w_slice1 (X:=UInt8) (y:=(Fw.byteOf x1)) Tryz.underlying23 in5 rfl rfl rfl rfl hF rfl rfl rfl fun b_B102_11 w hzB102_11 hAB102_11=>?_)
 have hM:=hM.plus hAB102_11
 replace hM:MemL _ (pt b_B102_11 (encs ([(Fw.byteOf x1)]:List UInt8)) 5 :: pt b0 (RWriter.enc (RWriter.mk s1)) 167 :: fowL 5 s1 x0.b :: Lr):=hM
 intro a hF
 obtain ⟨x9,hx9,hP⟩:=bind_some hP
 refine s_eff hF rfl rfl rfl (w_appY hx9 Tryz.underlying23 in5 rfl rfl rfl rfl hF rfl rfl rfl (hM.hold 2 _ rfl) (hM.ptS (X:=UInt8) (i:=0) (n:=1) (c:=1) rfl rfl rfl (Nat.le_refl _)) fun s8 w hUs8=>?_)
 have hM:=hM.chg hUs8 (i:=2) rfl
 replace hM:MemL _ (pt b_B102_11 (encs ([(Fw.byteOf x1)]:List UInt8)) 5 :: pt b0 (RWriter.enc (RWriter.mk s1)) 167 :: fowL 5 s8 x9 :: Lr):=hM
 intro a hF
 refine s_val hF (r_nilCheckP hF rfl rfl) rfl rfl rfl fun a hF=>?_
 refine s_val hF (r_fieldAddr (off':=0) Tryz.underlying167 rfl in23 rfl hF rfl rfl rfl) rfl rfl rfl fun a hF=>?_
 refine s_eff0 rfl rfl (w_store1 Tryz.sizeOf23 (hM.obj (i:=1) rfl) hF rfl rfl rfl rfl (by rw [RWriter.len]; decide) (RWriter.s_b _ _) fun w hU10=>?_)
 have hM:=hM.chg hU10 (i:=1) rfl
 replace hM:MemL _ (pt b_B102_11 (encs ([(Fw.byteOf x1)]:List UInt8)) 5 :: pt b0 (RWriter.enc (RWriter.mk s8)) 167 :: fowL 5 s8 x9 :: Lr):=hM
 refine c_nil ?_
 have hP:=Option.some.inj hP
 subst hP
 refine e_end0 Tryz.results102 hF ?_
 exact ⟨s8,rfl,selM hM [1,2] 3 rfl⟩
set_option maxHeartbeats 4000000 in
theorem trace_writer_number_calls {x0:QWriter} {x1:Int} {x2:Int} {s1:SV} {b0:Nat} {out:QWriter} {w0:World} {Lr:List Res} (hP:Sh.trace_writer_number x0 x1 x2 = some out) (hM:MemL w0 (pt b0 (RWriter.enc (RWriter.mk s1)) 167 :: fowL 5 s1 x0.b :: Lr)):Calls Tryz.prog 176 #[.pointer (some ⟨b0,0,none⟩),.int .i64 x1,.int .i64 x2] w0 (Ret fun v w'=>∃ (s43:SV),v = .tuple #[] ∧ MemL w' (pt b0 (RWriter.enc (RWriter.mk s43)) 167 :: fowL 5 s43 out.b :: Lr)):=by
 unfold Sh.trace_writer_number at hP
 refine calls_enter (vs:=[.pointer (some ⟨b0,0,none⟩),.int .i64 x1,.int .i64 x2]) Tryz.func176 rfl Tryz.ntmps176 rfl fun a hF=>?_
 refine c_seq ?_
 refine c_region ?_
 refine s_val hF (r_move hF rfl rfl) rfl rfl rfl fun a hF=>?_
 refine s_val hF (r_move hF rfl rfl) rfl rfl rfl fun a hF=>?_
 refine c_nil (n_then ?_)
 refine c_block ?_
 refine c_loopX hF hM hP (fun F x a w=>match x with | (v70,v73,v74)=>∃ (s71:SV),Fr 16 [(1,.int .i64 v73),(7,.int .i64 v74),(0,.pointer (some ⟨b0,0,none⟩)),(6,.int .i64 x2)] a ∧ MemL w (pt b0 (RWriter.enc (RWriter.mk s71)) 167 :: fowL 5 s71 v70.b :: Lr)) (fun hF hM=>⟨s1,hF.to ⟨rfl,rfl,rfl,rfl,trivial⟩,hM⟩) ?_
 rintro ⟨v70,v73,v74⟩ a w o_l1 hP hK_l1 ⟨s71,hF,hM⟩
 replace hP:Sh.trace_writer_number_l1 x2 v70 v73 v74 = _:=hP
 unfold Sh.trace_writer_number_l1 at hP
 refine c_seq ?_
 refine c_region ?_
 refine s_val hF (r_lss hF rfl rfl rfl) rfl rfl rfl fun a hF=>?_
 refine c_nil (n_then ?_)
 refine c_seq ?_
 refine c_cond hF (c:=.tmp 8) rfl (fun hb76=>?_) (fun hb76=>?_)
 ·have hP:=Fx.cT hb76 hP
  refine c_skip (n_then ?_)
  refine c_seq ?_
  refine c_block ?_
  refine c_seq ?_
  refine c_region ?_
  refine s_val hF (r_move hF rfl rfl) rfl rfl rfl fun a hF=>?_
  refine s_val hF (r_move hF rfl rfl) rfl rfl rfl fun a hF=>?_
  refine s_val hF (r_and hF rfl rfl rfl) rfl rfl rfl fun a hF=>?_
  obtain ⟨y82,hy82,hP⟩:=bind_some hP
  refine s_eff hF rfl rfl rfl (w_call (xs:=[.tmp 9,.tmp 11]) Tryz.call102 hF rfl rfl (trace_writer_byte_calls hy82 hM ) fun v w hR=>?_)
  obtain ⟨s83,rfl,hM⟩:=hR
  replace hM:MemL _ (pt b0 (RWriter.enc (RWriter.mk s83)) 167 :: fowL 5 s83 y82.b :: Lr):=hM
  intro a hF
  refine c_nil (n_then ?_)
  refine c_region ?_
  refine s_val hF (r_move hF rfl rfl) rfl rfl rfl fun a hF=>?_
  refine s_val hF (r_shr hF rfl rfl rfl (by decide)) rfl rfl rfl fun a hF=>?_
  refine s_val hF (r_assign hF rfl rfl) rfl rfl rfl fun a hF=>?_
  refine c_nil (n_block (n_then ?_))
  refine c_region ?_
  refine s_val hF (r_add hF rfl rfl rfl) rfl rfl rfl fun a hF=>?_
  refine s_val hF (r_move hF rfl rfl) rfl rfl rfl fun a hF=>?_
  refine c_nil (n_then ?_)
  have hP:=Option.some.inj hP
  subst hP
  exact ⟨(y82,(shr .i64 v73 (8:Int).toNat),(IntKind.i64.wrap (v74 + 1))),rfl,s83,hF.to ⟨rfl,rfl,rfl,rfl,trivial⟩,hM⟩
 have hP:=Fx.cF hb76 hP
 refine c_exit (x_then (x_then (x_hit ?_)))
 have hP:=Option.some.inj hP
 subst hP
 have hP:=hK_l1 _ rfl
 subst hP
 refine e_end0 Tryz.results176 hF ?_
 exact ⟨s71,rfl,hM⟩
set_option maxHeartbeats 4000000 in
theorem trace_writer_two_calls {x0:QWriter} {x1:Int} {s1:SV} {b0:Nat} {out:QWriter} {w0:World} {Lr:List Res} (hP:Sh.trace_writer_two x0 x1 = some out) (hM:MemL w0 (pt b0 (RWriter.enc (RWriter.mk s1)) 167 :: fowL 5 s1 x0.b :: Lr)):Calls Tryz.prog 101 #[.pointer (some ⟨b0,0,none⟩),.int .i64 x1] w0 (Ret fun v w'=>∃ (s7:SV),v = .tuple #[] ∧ MemL w' (pt b0 (RWriter.enc (RWriter.mk s7)) 167 :: fowL 5 s7 out.b :: Lr)):=by
 unfold Sh.trace_writer_two at hP
 refine calls_enter (vs:=[.pointer (some ⟨b0,0,none⟩),.int .i64 x1]) Tryz.func101 rfl Tryz.ntmps101 rfl fun a hF=>?_
 refine c_region ?_
 refine s_val hF (r_move hF rfl rfl) rfl rfl rfl fun a hF=>?_
 refine s_val hF (r_move hF rfl rfl) rfl rfl rfl fun a hF=>?_
 obtain ⟨y10,hy10,hP⟩:=bind_some hP
 refine s_eff hF rfl rfl rfl (w_call (xs:=[.tmp 4,.tmp 5,.const (.int .i64 (2))]) Tryz.call176 hF rfl rfl (trace_writer_number_calls hy10 hM ) fun v w hR=>?_)
 obtain ⟨s11,rfl,hM⟩:=hR
 replace hM:MemL _ (pt b0 (RWriter.enc (RWriter.mk s11)) 167 :: fowL 5 s11 y10.b :: Lr):=hM
 intro a hF
 refine c_nil ?_
 have hP:=Option.some.inj hP
 subst hP
 refine e_end0 Tryz.results101 hF ?_
 exact ⟨s11,rfl,hM⟩
set_option maxHeartbeats 4000000 in
theorem trace_writer_four_calls {x0:QWriter} {x1:Int} {s1:SV} {b0:Nat} {out:QWriter} {w0:World} {Lr:List Res} (hP:Sh.trace_writer_four x0 x1 = some out) (hM:MemL w0 (pt b0 (RWriter.enc (RWriter.mk s1)) 167 :: fowL 5 s1 x0.b :: Lr)):Calls Tryz.prog 103 #[.pointer (some ⟨b0,0,none⟩),.int .i64 x1] w0 (Ret fun v w'=>∃ (s7:SV),v = .tuple #[] ∧ MemL w' (pt b0 (RWriter.enc (RWriter.mk s7)) 167 :: fowL 5 s7 out.b :: Lr)):=by
 unfold Sh.trace_writer_four at hP
 refine calls_enter (vs:=[.pointer (some ⟨b0,0,none⟩),.int .i64 x1]) Tryz.func103 rfl Tryz.ntmps103 rfl fun a hF=>?_
 refine c_region ?_
 refine s_val hF (r_move hF rfl rfl) rfl rfl rfl fun a hF=>?_
 refine s_val hF (r_move hF rfl rfl) rfl rfl rfl fun a hF=>?_
 obtain ⟨y10,hy10,hP⟩:=bind_some hP
 refine s_eff hF rfl rfl rfl (w_call (xs:=[.tmp 4,.tmp 5,.const (.int .i64 (4))]) Tryz.call176 hF rfl rfl (trace_writer_number_calls hy10 hM ) fun v w hR=>?_)
 obtain ⟨s11,rfl,hM⟩:=hR
 replace hM:MemL _ (pt b0 (RWriter.enc (RWriter.mk s11)) 167 :: fowL 5 s11 y10.b :: Lr):=hM
 intro a hF
 refine c_nil ?_
 have hP:=Option.some.inj hP
 subst hP
 refine e_end0 Tryz.results103 hF ?_
 exact ⟨s11,rfl,hM⟩
set_option maxHeartbeats 4000000 in
theorem trace_writer_eight_calls {x0:QWriter} {x1:Int} {s1:SV} {b0:Nat} {out:QWriter} {w0:World} {Lr:List Res} (hP:Sh.trace_writer_eight x0 x1 = some out) (hM:MemL w0 (pt b0 (RWriter.enc (RWriter.mk s1)) 167 :: fowL 5 s1 x0.b :: Lr)):Calls Tryz.prog 179 #[.pointer (some ⟨b0,0,none⟩),.int .i64 x1] w0 (Ret fun v w'=>∃ (s7:SV),v = .tuple #[] ∧ MemL w' (pt b0 (RWriter.enc (RWriter.mk s7)) 167 :: fowL 5 s7 out.b :: Lr)):=by
 unfold Sh.trace_writer_eight at hP
 refine calls_enter (vs:=[.pointer (some ⟨b0,0,none⟩),.int .i64 x1]) Tryz.func179 rfl Tryz.ntmps179 rfl fun a hF=>?_
 refine c_region ?_
 refine s_val hF (r_move hF rfl rfl) rfl rfl rfl fun a hF=>?_
 refine s_val hF (r_move hF rfl rfl) rfl rfl rfl fun a hF=>?_
 obtain ⟨y10,hy10,hP⟩:=bind_some hP
 refine s_eff hF rfl rfl rfl (w_call (xs:=[.tmp 4,.tmp 5,.const (.int .i64 (8))]) Tryz.call176 hF rfl rfl (trace_writer_number_calls hy10 hM ) fun v w hR=>?_)
 obtain ⟨s11,rfl,hM⟩:=hR
 replace hM:MemL _ (pt b0 (RWriter.enc (RWriter.mk s11)) 167 :: fowL 5 s11 y10.b :: Lr):=hM
 intro a hF
 refine c_nil ?_
 have hP:=Option.some.inj hP
 subst hP
 refine e_end0 Tryz.results179 hF ?_
 exact ⟨s11,rfl,hM⟩
set_option maxHeartbeats 4000000 in
theorem trace_writer_value_calls {x0:QWriter} {x1:LVal} {s1:SV} {b0:Nat} {out:QWriter} {w0:World} {Lr:List Res} (hP:Sh.trace_writer_value x0 x1 = some out) (hM:MemL w0 (pt b0 (RWriter.enc (RWriter.mk s1)) 167 :: fowL 5 s1 x0.b :: Lr)):Calls Tryz.prog 177 #[.pointer (some ⟨b0,0,none⟩),.agg (LVal.enc x1).toArray] w0 (Ret fun v w'=>∃ (s42:SV),v = .tuple #[] ∧ MemL w' (pt b0 (RWriter.enc (RWriter.mk s42)) 167 :: fowL 5 s42 out.b :: Lr)):=by
 unfold Sh.trace_writer_value at hP
 refine calls_enter (vs:=[.pointer (some ⟨b0,0,none⟩),.agg (LVal.enc x1).toArray]) Tryz.func177 rfl Tryz.ntmps177 rfl fun a hF=>?_
 refine c_seq ?_
 refine c_region ?_
 refine s_eff hF rfl rfl rfl (w_box hF rfl rfl rfl fun b_B177_3 w hzB177_3 hAB177_3=>?_)
 have hM:=hM.plus hAB177_3
 replace hM:MemL _ (pt b_B177_3 (LVal.enc x1) 46 :: pt b0 (RWriter.enc (RWriter.mk s1)) 167 :: fowL 5 s1 x0.b :: Lr):=hM
 intro a hF
 refine c_nil (n_then ?_)
 refine c_seq ?_
 refine c_region ?_
 refine s_val hF (r_move hF rfl rfl) rfl rfl rfl fun a hF=>?_
 refine s_val hF (r_fieldAddr (off':=0) Tryz.underlying46 rfl in3 rfl hF rfl rfl rfl) rfl rfl rfl fun a hF=>?_
 refine s_val hF (r_load1 Tryz.isAgg3 hF rfl rfl (hM.cell (i:=0) rfl (LVal.g_kind _))) rfl rfl rfl fun a hF=>?_
 obtain ⟨y45,hy45,hP⟩:=bind_some hP
 refine s_eff hF rfl rfl rfl (w_call (xs:=[.tmp 4,.tmp 6]) Tryz.call102 hF rfl rfl (trace_writer_byte_calls hy45 (selM hM [1,2,0] 3 rfl) ) fun v w hR=>?_)
 obtain ⟨s46,rfl,hM⟩:=hR
 replace hM:MemL _ (pt b0 (RWriter.enc (RWriter.mk s46)) 167 :: fowL 5 s46 y45.b :: pt b_B177_3 (LVal.enc x1) 46 :: Lr):=hM
 intro a hF
 refine c_nil (n_then ?_)
 refine c_seq ?_
 refine c_joinX hF hM hP (fun F x a w=>match x with | v66=>∃ (s67:SV),Fr 26 [(0,.pointer (some ⟨b0,0,none⟩)),(3,.pointer (some ⟨b_B177_3,0,none⟩))] a ∧ MemL w (pt b0 (RWriter.enc (RWriter.mk s67)) 167 :: fowL 5 s67 v66.b :: pt b_B177_3 (LVal.enc x1) 46 :: Lr)) (fun o_j1 hP hK_j1 hF hM=>?_) ?_
 ·refine c_seq ?_
  refine c_region ?_
  refine s_val hF (r_fieldAddr (off':=0) Tryz.underlying46 rfl in3 rfl hF rfl rfl rfl) rfl rfl rfl fun a hF=>?_
  refine s_val hF (r_load1 Tryz.isAgg3 hF rfl rfl (hM.cell (i:=2) rfl (LVal.g_kind _))) rfl rfl rfl fun a hF=>?_
  refine s_val hF (r_eql hF rfl rfl rfl) rfl rfl rfl fun a hF=>?_
  refine c_nil (n_then ?_)
  refine c_cond hF (c:=.tmp 10) rfl (fun hb69=>?_) (fun hb69=>?_)
  ·have hP:=Fx.cT hb69 hP
   refine c_seq ?_
   refine c_region ?_
   refine s_val hF (r_move hF rfl rfl) rfl rfl rfl fun a hF=>?_
   refine s_val hF (r_fieldAddr (off':=1) Tryz.underlying46 rfl in3 rfl hF rfl rfl rfl) rfl rfl rfl fun a hF=>?_
   refine s_val hF (r_load1 Tryz.isAgg3 hF rfl rfl (hM.cell (i:=2) rfl (LVal.g_table _))) rfl rfl rfl fun a hF=>?_
   obtain ⟨y71,hy71,hP⟩:=bind_some hP
   refine s_eff hF rfl rfl rfl (w_call (xs:=[.tmp 11,.tmp 13]) Tryz.call102 hF rfl rfl (trace_writer_byte_calls hy71 hM ) fun v w hR=>?_)
   obtain ⟨s72,rfl,hM⟩:=hR
   replace hM:MemL _ (pt b0 (RWriter.enc (RWriter.mk s72)) 167 :: fowL 5 s72 y71.b :: pt b_B177_3 (LVal.enc x1) 46 :: Lr):=hM
   intro a hF
   refine c_nil (n_then ?_)
   refine c_region ?_
   refine s_val hF (r_move hF rfl rfl) rfl rfl rfl fun a hF=>?_
   refine s_val hF (r_fieldAddr (off':=2) Tryz.underlying46 rfl in3 rfl hF rfl rfl rfl) rfl rfl rfl fun a hF=>?_
   refine s_val hF (r_load1 Tryz.isAgg3 hF rfl rfl (hM.cell (i:=2) rfl (LVal.g_row _))) rfl rfl rfl fun a hF=>?_
   obtain ⟨y75,hy75,hP⟩:=bind_some hP
   refine s_eff hF rfl rfl rfl (w_call (xs:=[.tmp 15,.tmp 17]) Tryz.call102 hF rfl rfl (trace_writer_byte_calls hy75 hM ) fun v w hR=>?_)
   obtain ⟨s76,rfl,hM⟩:=hR
   replace hM:MemL _ (pt b0 (RWriter.enc (RWriter.mk s76)) 167 :: fowL 5 s76 y75.b :: pt b_B177_3 (LVal.enc x1) 46 :: Lr):=hM
   intro a hF
   refine c_nil (n_then ?_)
   have hP:=Option.some.inj hP
   subst hP
   exact ⟨y75,rfl,s76,hF.to ⟨rfl,rfl,trivial⟩,hM⟩
  have hP:=Fx.cF hb69 hP
  refine c_skip (n_then ?_)
  have hP:=Option.some.inj hP
  subst hP
  exact ⟨y45,rfl,s46,hF.to ⟨rfl,rfl,trivial⟩,hM⟩
 rintro v66 a w hP ⟨s67,hF,hM⟩
 replace hP:Sh.trace_writer_value_j1 x1 v66 = _:=hP
 unfold Sh.trace_writer_value_j1 at hP
 refine n_then ?_
 refine c_seq ?_
 refine c_region ?_
 refine s_val hF (r_fieldAddr (off':=0) Tryz.underlying46 rfl in3 rfl hF rfl rfl rfl) rfl rfl rfl fun a hF=>?_
 refine s_val hF (r_load1 Tryz.isAgg3 hF rfl rfl (hM.cell (i:=2) rfl (LVal.g_kind _))) rfl rfl rfl fun a hF=>?_
 refine s_val hF (r_neq hF rfl rfl rfl) rfl rfl rfl fun a hF=>?_
 refine c_nil (n_then ?_)
 refine c_cond hF (c:=.tmp 21) rfl (fun hb78=>?_) (fun hb78=>?_)
 ·have hP:=Fx.cT hb78 hP
  refine c_region ?_
  refine s_val hF (r_move hF rfl rfl) rfl rfl rfl fun a hF=>?_
  refine s_val hF (r_fieldAddr (off':=3) Tryz.underlying46 rfl in3 rfl hF rfl rfl rfl) rfl rfl rfl fun a hF=>?_
  refine s_val hF (r_load1 Tryz.isAgg3 hF rfl rfl (hM.cell (i:=2) rfl (LVal.g_x _))) rfl rfl rfl fun a hF=>?_
  obtain ⟨y80,hy80,hP⟩:=bind_some hP
  refine s_eff hF rfl rfl rfl (w_call (xs:=[.tmp 22,.tmp 24]) Tryz.call179 hF rfl rfl (trace_writer_eight_calls hy80 hM ) fun v w hR=>?_)
  obtain ⟨s81,rfl,hM⟩:=hR
  replace hM:MemL _ (pt b0 (RWriter.enc (RWriter.mk s81)) 167 :: fowL 5 s81 y80.b :: pt b_B177_3 (LVal.enc x1) 46 :: Lr):=hM
  intro a hF
  refine c_nil ?_
  have hP:=Option.some.inj hP
  subst hP
  refine e_end0 Tryz.results177 hF ?_
  exact ⟨s81,rfl,selM hM [0,1] 3 rfl⟩
 have hP:=Fx.cF hb78 hP
 refine c_skip ?_
 have hP:=Option.some.inj hP
 subst hP
 refine e_end0 Tryz.results177 hF ?_
 exact ⟨s67,rfl,selM hM [0,1] 3 rfl⟩
set_option maxHeartbeats 4000000 in
theorem trace_writer_slot_calls {x0:QWriter} {x1:LSlot} {s1:SV} {b0:Nat} {out:QWriter} {w0:World} {Lr:List Res} (hP:Sh.trace_writer_slot x0 x1 = some out) (hM:MemL w0 (pt b0 (RWriter.enc (RWriter.mk s1)) 167 :: fowL 5 s1 x0.b :: Lr)):Calls Tryz.prog 178 #[.pointer (some ⟨b0,0,none⟩),.agg (LSlot.enc x1).toArray] w0 (Ret fun v w'=>∃ (s95:SV),v = .tuple #[] ∧ MemL w' (pt b0 (RWriter.enc (RWriter.mk s95)) 167 :: fowL 5 s95 out.b :: Lr)):=by
 unfold Sh.trace_writer_slot at hP
 refine calls_enter (vs:=[.pointer (some ⟨b0,0,none⟩),.agg (LSlot.enc x1).toArray]) Tryz.func178 rfl Tryz.ntmps178 rfl fun a hF=>?_
 refine c_seq ?_
 refine c_region ?_
 refine s_eff hF rfl rfl rfl (w_box hF rfl rfl rfl fun b_B178_3 w hzB178_3 hAB178_3=>?_)
 have hM:=hM.plus hAB178_3
 replace hM:MemL _ (pt b_B178_3 (LSlot.enc x1) 50 :: pt b0 (RWriter.enc (RWriter.mk s1)) 167 :: fowL 5 s1 x0.b :: Lr):=hM
 intro a hF
 refine c_nil (n_then ?_)
 refine c_seq ?_
 refine c_seq ?_
 refine c_region ?_
 refine s_val hF (r_fieldAddr (off':=0) Tryz.underlying50 rfl in46 rfl hF rfl rfl rfl) rfl rfl rfl fun a hF=>?_
 refine s_val hF (r_fieldAddr (off':=0) Tryz.underlying46 rfl in3 rfl hF rfl rfl rfl) rfl rfl rfl fun a hF=>?_
 refine s_val hF (r_load1 Tryz.isAgg3 hF rfl rfl ((hM.cells (i:=0) rfl (LSlot.c_ptr _)).get 0 (LVal.g_kind _))) rfl rfl rfl fun a hF=>?_
 refine s_val hF (r_neq hF rfl rfl rfl) rfl rfl rfl fun a hF=>?_
 refine c_nil (n_then ?_)
 refine c_cond hF (c:=.tmp 9) rfl (fun hb102=>?_) (fun hb102=>?_)
 ·have hP:=Fx.cT hb102 hP
  refine c_seq ?_
  refine c_region ?_
  refine s_val hF (r_move hF rfl rfl) rfl rfl rfl fun a hF=>?_
  refine s_val hF (r_fieldAddr (off':=0) Tryz.underlying50 rfl in46 rfl hF rfl rfl rfl) rfl rfl rfl fun a hF=>?_
  refine s_val hF (r_loadn Tryz.isAgg46 Tryz.sizeOf46 hF rfl rfl (LVal.len _) (hM.cells (i:=0) rfl (LSlot.c_ptr _))) rfl rfl rfl fun a hF=>?_
  obtain ⟨y104,hy104,hP⟩:=bind_some hP
  refine s_eff hF rfl rfl rfl (w_call (xs:=[.tmp 10,.tmp 12]) Tryz.call177 hF rfl rfl (trace_writer_value_calls hy104 (selM hM [1,2,0] 3 rfl) ) fun v w hR=>?_)
  obtain ⟨s105,rfl,hM⟩:=hR
  replace hM:MemL _ (pt b0 (RWriter.enc (RWriter.mk s105)) 167 :: fowL 5 s105 y104.b :: pt b_B178_3 (LSlot.enc x1) 50 :: Lr):=hM
  intro a hF
  refine c_nil (n_then ?_)
  refine c_ret ?_
  have hP:=Option.some.inj hP
  subst hP
  refine e_ret0 Tryz.results178 hF ?_
  exact ⟨s105,rfl,selM hM [0,1] 3 rfl⟩
 have hP:=Fx.cF hb102 hP
 refine c_skip (n_then ?_)
 refine c_seq ?_
 refine c_region ?_
 refine s_val hF (r_move hF rfl rfl) rfl rfl rfl fun a hF=>?_
 obtain ⟨y108,hy108,hP⟩:=bind_some hP
 refine s_eff hF rfl rfl rfl (w_call (xs:=[.tmp 14,.const (.int .i64 (0))]) Tryz.call102 hF rfl rfl (trace_writer_byte_calls hy108 (selM hM [1,2,0] 3 rfl) ) fun v w hR=>?_)
 obtain ⟨s109,rfl,hM⟩:=hR
 replace hM:MemL _ (pt b0 (RWriter.enc (RWriter.mk s109)) 167 :: fowL 5 s109 y108.b :: pt b_B178_3 (LSlot.enc x1) 50 :: Lr):=hM
 intro a hF
 refine c_nil (n_then ?_)
 refine c_seq ?_
 refine c_region ?_
 refine s_val hF (r_move hF rfl rfl) rfl rfl rfl fun a hF=>?_
 refine s_val hF (r_fieldAddr (off':=12) Tryz.underlying50 rfl in3 rfl hF rfl rfl rfl) rfl rfl rfl fun a hF=>?_
 refine s_val hF (r_load1 Tryz.isAgg3 hF rfl rfl (hM.cell (i:=2) rfl (LSlot.g_mask _))) rfl rfl rfl fun a hF=>?_
 obtain ⟨y112,hy112,hP⟩:=bind_some hP
 refine s_eff hF rfl rfl rfl (w_call (xs:=[.tmp 16,.tmp 18]) Tryz.call102 hF rfl rfl (trace_writer_byte_calls hy112 hM ) fun v w hR=>?_)
 obtain ⟨s113,rfl,hM⟩:=hR
 replace hM:MemL _ (pt b0 (RWriter.enc (RWriter.mk s113)) 167 :: fowL 5 s113 y112.b :: pt b_B178_3 (LSlot.enc x1) 50 :: Lr):=hM
 intro a hF
 refine c_nil (n_then ?_)
 refine c_seq ?_
 refine c_region ?_
 refine s_val hF (r_fieldAddr (off':=4) Tryz.underlying50 rfl in48 rfl hF rfl rfl rfl) rfl rfl rfl fun a hF=>?_
 refine s_val hF (r_loadn Tryz.isAgg48 Tryz.sizeOf48 hF rfl rfl (encs_vec _) (hM.cells (i:=2) rfl (LSlot.c_bytes _))) rfl rfl rfl fun a hF=>?_
 refine s_val hF (r_move hF rfl rfl) rfl rfl rfl fun a hF=>?_
 refine c_nil (n_then ?_)
 refine c_block ?_
 refine c_loopX hF hM hP (fun F x a w=>match x with | (v162,v165)=>∃ (s163:SV),Fr 43 [(22,.int .i64 v165),(0,.pointer (some ⟨b0,0,none⟩)),(21,.agg (encs x1.bytes.l).toArray),(3,.pointer (some ⟨b_B178_3,0,none⟩))] a ∧ MemL w (pt b0 (RWriter.enc (RWriter.mk s163)) 167 :: fowL 5 s163 v162.b :: pt b_B178_3 (LSlot.enc x1) 50 :: Lr)) (fun hF hM=>⟨s113,hF.to ⟨rfl,rfl,rfl,rfl,trivial⟩,hM⟩) ?_
 rintro ⟨v162,v165⟩ a w o_l1 hP hK_l1 ⟨s163,hF,hM⟩
 replace hP:Sh.trace_writer_slot_l1 x1 v162 v165 = _:=hP
 unfold Sh.trace_writer_slot_l1 at hP
 refine c_seq ?_
 refine c_region ?_
 refine s_val hF (r_lss hF rfl rfl rfl) rfl rfl rfl fun a hF=>?_
 refine c_nil (n_then ?_)
 refine c_seq ?_
 refine c_cond hF (c:=.tmp 23) rfl (fun hb167=>?_) (fun hb167=>?_)
 ·have hP:=Fx.cT hb167 hP
  refine c_skip (n_then ?_)
  refine c_seq ?_
  refine c_joinX hF hM hP (fun F x a w=>match x with | v180=>∃ (s181:SV),Fr 43 [(0,.pointer (some ⟨b0,0,none⟩)),(21,.agg (encs x1.bytes.l).toArray),(22,.int .i64 v165),(3,.pointer (some ⟨b_B178_3,0,none⟩))] a ∧ MemL w (pt b0 (RWriter.enc (RWriter.mk s181)) 167 :: fowL 5 s181 v180.b :: pt b_B178_3 (LSlot.enc x1) 50 :: Lr)) (fun o_j2 hP hK_j2 hF hM=>?_) ?_
  ·refine c_block ?_
   refine c_seq ?_
   refine c_region ?_
   refine s_val hF (r_move hF rfl rfl) rfl rfl rfl fun a hF=>?_
   obtain ⟨x183,hx183,hP⟩:=bind_some hP
   refine s_val hF (r_indexV1Z Tryz.underlying48 Tryz.sizeOf5 Tryz.isAgg5 hF rfl rfl rfl (get_bdv hx183) (encs_at (get_some hx183).2 rfl)) rfl rfl rfl fun a hF=>?_
   refine s_val hF (r_assign hF rfl rfl) rfl rfl rfl fun a hF=>?_
   refine s_val hF (r_assign hF rfl rfl) rfl rfl rfl fun a hF=>?_
   refine c_nil (n_then ?_)
   refine c_seq ?_
   refine c_region ?_
   refine s_val hF (r_fieldAddr (off':=12) Tryz.underlying50 rfl in3 rfl hF rfl rfl rfl) rfl rfl rfl fun a hF=>?_
   refine s_val hF (r_load1 Tryz.isAgg3 hF rfl rfl (hM.cell (i:=2) rfl (LSlot.g_mask _))) rfl rfl rfl fun a hF=>?_
   refine s_val hF (r_move hF rfl rfl) rfl rfl rfl fun a hF=>?_
   obtain ⟨hc184,hP⟩:=must_some hP
   refine s_val hF (r_shr hF rfl rfl rfl (of_decide_eq_true hc184)) rfl rfl rfl fun a hF=>?_
   refine s_val hF (r_and hF rfl rfl rfl) rfl rfl rfl fun a hF=>?_
   refine s_val hF (r_eql hF rfl rfl rfl) rfl rfl rfl fun a hF=>?_
   refine c_nil (n_then ?_)
   refine c_cond hF (c:=.tmp 31) rfl (fun hb185=>?_) (fun hb185=>?_)
   ·have hP:=Fx.cT hb185 hP
    refine c_region ?_
    refine s_val hF (r_move hF rfl rfl) rfl rfl rfl fun a hF=>?_
    refine s_val hF (r_move hF rfl rfl) rfl rfl rfl fun a hF=>?_
    refine s_val hF (r_nilCheckP hF rfl rfl) rfl rfl rfl fun a hF=>?_
    refine s_val hF (r_fieldAddr (off':=0) Tryz.underlying167 rfl in23 rfl hF rfl rfl rfl) rfl rfl rfl fun a hF=>?_
    refine s_val hF (r_load1 Tryz.isAgg23 hF rfl rfl (hM.cell (i:=0) rfl (RWriter.g_b _))) rfl rfl rfl fun a hF=>?_
    refine s_val hF (r_move hF rfl rfl) rfl rfl rfl fun a hF=>?_
    refine s_eff hF rfl rfl rfl (w_slice1 (X:=UInt8) (y:=x183) Tryz.underlying23 in5 rfl rfl rfl rfl hF rfl rfl rfl fun b_B178_38 w hzB178_38 hAB178_38=>?_)
    have hM:=hM.plus hAB178_38
    replace hM:MemL _ (pt b_B178_38 (encs ([x183]:List UInt8)) 5 :: pt b0 (RWriter.enc (RWriter.mk s163)) 167 :: fowL 5 s163 v162.b :: pt b_B178_3 (LSlot.enc x1) 50 :: Lr):=hM
    intro a hF
    obtain ⟨x187,hx187,hP⟩:=bind_some hP
    refine s_eff hF rfl rfl rfl (w_appY hx187 Tryz.underlying23 in5 rfl rfl rfl rfl hF rfl rfl rfl (hM.hold 2 _ rfl) (hM.ptS (X:=UInt8) (i:=0) (n:=1) (c:=1) rfl rfl rfl (Nat.le_refl _)) fun s186 w hUs186=>?_)
    have hM:=hM.chg hUs186 (i:=2) rfl
    replace hM:MemL _ (pt b_B178_38 (encs ([x183]:List UInt8)) 5 :: pt b0 (RWriter.enc (RWriter.mk s163)) 167 :: fowL 5 s186 x187 :: pt b_B178_3 (LSlot.enc x1) 50 :: Lr):=hM
    intro a hF
    refine s_val hF (r_nilCheckP hF rfl rfl) rfl rfl rfl fun a hF=>?_
    refine s_val hF (r_fieldAddr (off':=0) Tryz.underlying167 rfl in23 rfl hF rfl rfl rfl) rfl rfl rfl fun a hF=>?_
    refine s_eff0 rfl rfl (w_store1 Tryz.sizeOf23 (hM.obj (i:=1) rfl) hF rfl rfl rfl rfl (by rw [RWriter.len]; decide) (RWriter.s_b _ _) fun w hU188=>?_)
    have hM:=hM.chg hU188 (i:=1) rfl
    replace hM:MemL _ (pt b_B178_38 (encs ([x183]:List UInt8)) 5 :: pt b0 (RWriter.enc (RWriter.mk s186)) 167 :: fowL 5 s186 x187 :: pt b_B178_3 (LSlot.enc x1) 50 :: Lr):=hM
    refine c_nil (n_block (n_then ?_))
    have hP:=Option.some.inj hP
    subst hP
    exact ⟨(QWriter.mk x187),rfl,s186,hF.to ⟨rfl,rfl,rfl,rfl,trivial⟩,selM hM [1,2,3] 4 rfl⟩
   have hP:=Fx.cF hb185 hP
   refine c_skip (n_block (n_then ?_))
   have hP:=Option.some.inj hP
   subst hP
   exact ⟨v162,rfl,s163,hF.to ⟨rfl,rfl,rfl,rfl,trivial⟩,hM⟩
  rintro v180 a w hP ⟨s181,hF,hM⟩
  replace hP:Sh.trace_writer_slot_j2 v165 v180 = _:=hP
  unfold Sh.trace_writer_slot_j2 at hP
  refine n_then ?_
  refine c_region ?_
  refine s_val hF (r_add hF rfl rfl rfl) rfl rfl rfl fun a hF=>?_
  refine s_val hF (r_move hF rfl rfl) rfl rfl rfl fun a hF=>?_
  refine c_nil (n_then ?_)
  have hP:=Option.some.inj hP
  subst hP
  exact ⟨(v180,(IntKind.i64.wrap (v165 + 1))),rfl,s181,hF.to ⟨rfl,rfl,rfl,rfl,trivial⟩,hM⟩
 have hP:=Fx.cF hb167 hP
 refine c_exit (x_then (x_then (x_hit ?_)))
 have hP:=Option.some.inj hP
 subst hP
 have hP:=hK_l1 _ rfl
 subst hP
 refine e_end0 Tryz.results178 hF ?_
 exact ⟨s163,rfl,selM hM [0,1] 3 rfl⟩
set_option maxHeartbeats 4000000 in
theorem trace_writer_mark_calls {x0:QWriter} {x1:QMark} {s1:SV} {b0:Nat} {s3:SV} {s5:SV} {s7:SV} {hs8:List RPiece} {s11:SV} {out:QWriter} {w0:World} {Bf:World → Prop} {Lr:List Res} (hP:Sh.trace_writer_mark x0 x1 = some out) (hM:MemL w0 (pt b0 (RWriter.enc (RWriter.mk s1)) 167 :: fowL 5 s1 x0.b :: Lr)) (hsub:∀ w,MemL w Lr → Bf w) (f4:LIn Bf s3 x1.regs) (f6:LIn Bf s5 x1.slots) (f9:LIn Bf s7 hs8) (q10:Each (QPieceIn Bf) hs8 x1.pieces) (f12:LIn Bf s11 x1.sent):Calls Tryz.prog 104 #[.pointer (some ⟨b0,0,none⟩),.agg (RMark.enc (RMark.mk x1.at_ x1.next x1.done s3 s5 s7 s11)).toArray] w0 (Ret fun v w'=>∃ (s1164:SV),v = .tuple #[] ∧ MemL w' (pt b0 (RWriter.enc (RWriter.mk s1164)) 167 :: fowL 5 s1164 out.b :: Lr)):=by
 unfold Sh.trace_writer_mark at hP
 refine calls_enter (vs:=[.pointer (some ⟨b0,0,none⟩),.agg (RMark.enc (RMark.mk x1.at_ x1.next x1.done s3 s5 s7 s11)).toArray]) Tryz.func104 rfl Tryz.ntmps104 rfl fun a hF=>?_
 refine c_seq ?_
 refine c_region ?_
 refine s_eff hF rfl rfl rfl (w_box hF rfl rfl rfl fun b_B104_3 w hzB104_3 hAB104_3=>?_)
 have hM:=hM.plus hAB104_3
 replace hM:MemL _ (pt b_B104_3 (RMark.enc (RMark.mk x1.at_ x1.next x1.done s3 s5 s7 s11)) 60 :: pt b0 (RWriter.enc (RWriter.mk s1)) 167 :: fowL 5 s1 x0.b :: Lr):=hM
 intro a hF
 refine c_nil (n_then ?_)
 refine c_seq ?_
 refine c_region ?_
 refine s_val hF (r_move hF rfl rfl) rfl rfl rfl fun a hF=>?_
 refine s_val hF (r_fieldAddr (off':=0) Tryz.underlying60 rfl in3 rfl hF rfl rfl rfl) rfl rfl rfl fun a hF=>?_
 refine s_val hF (r_load1 Tryz.isAgg3 hF rfl rfl (hM.cell (i:=0) rfl (RMark.g_at_ _))) rfl rfl rfl fun a hF=>?_
 obtain ⟨y1167,hy1167,hP⟩:=bind_some hP
 refine s_eff hF rfl rfl rfl (w_call (xs:=[.tmp 12,.tmp 14]) Tryz.call101 hF rfl rfl (trace_writer_two_calls hy1167 (selM hM [1,2,0] 3 rfl) ) fun v w hR=>?_)
 obtain ⟨s1168,rfl,hM⟩:=hR
 replace hM:MemL _ (pt b0 (RWriter.enc (RWriter.mk s1168)) 167 :: fowL 5 s1168 y1167.b :: pt b_B104_3 (RMark.enc (RMark.mk x1.at_ x1.next x1.done s3 s5 s7 s11)) 60 :: Lr):=hM
 intro a hF
 refine c_nil (n_then ?_)
 refine c_seq ?_
 refine c_region ?_
 refine s_val hF (r_move hF rfl rfl) rfl rfl rfl fun a hF=>?_
 refine s_val hF (r_fieldAddr (off':=1) Tryz.underlying60 rfl in3 rfl hF rfl rfl rfl) rfl rfl rfl fun a hF=>?_
 refine s_val hF (r_load1 Tryz.isAgg3 hF rfl rfl (hM.cell (i:=2) rfl (RMark.g_next _))) rfl rfl rfl fun a hF=>?_
 obtain ⟨y1171,hy1171,hP⟩:=bind_some hP
 refine s_eff hF rfl rfl rfl (w_call (xs:=[.tmp 16,.tmp 18]) Tryz.call101 hF rfl rfl (trace_writer_two_calls hy1171 hM ) fun v w hR=>?_)
 obtain ⟨s1172,rfl,hM⟩:=hR
 replace hM:MemL _ (pt b0 (RWriter.enc (RWriter.mk s1172)) 167 :: fowL 5 s1172 y1171.b :: pt b_B104_3 (RMark.enc (RMark.mk x1.at_ x1.next x1.done s3 s5 s7 s11)) 60 :: Lr):=hM
 intro a hF
 refine c_nil (n_then ?_)
 refine c_seq ?_
 refine c_joinX hF hM hP (fun F x a w=>match x with | v1192=>∃ (s1193:SV),Fr 132 [(0,.pointer (some ⟨b0,0,none⟩)),(3,.pointer (some ⟨b_B104_3,0,none⟩))] a ∧ MemL w (pt b0 (RWriter.enc (RWriter.mk s1193)) 167 :: fowL 5 s1193 v1192.b :: pt b_B104_3 (RMark.enc (RMark.mk x1.at_ x1.next x1.done s3 s5 s7 s11)) 60 :: Lr)) (fun o_j1 hP hK_j1 hF hM=>?_) ?_
 ·refine c_seq ?_
  refine c_region ?_
  refine s_val hF (r_fieldAddr (off':=2) Tryz.underlying60 rfl in4 rfl hF rfl rfl rfl) rfl rfl rfl fun a hF=>?_
  refine s_val hF (r_load1 Tryz.isAgg4 hF rfl rfl (hM.cell (i:=2) rfl (RMark.g_done _))) rfl rfl rfl fun a hF=>?_
  refine c_nil (n_then ?_)
  refine c_cond hF (c:=.tmp 21) rfl (fun hb1195=>?_) (fun hb1195=>?_)
  ·have hP:=Fx.cT hb1195 hP
   refine c_region ?_
   refine s_val hF (r_move hF rfl rfl) rfl rfl rfl fun a hF=>?_
   obtain ⟨y1197,hy1197,hP⟩:=bind_some hP
   refine s_eff hF rfl rfl rfl (w_call (xs:=[.tmp 22,.const (.int .i64 (1))]) Tryz.call102 hF rfl rfl (trace_writer_byte_calls hy1197 hM ) fun v w hR=>?_)
   obtain ⟨s1198,rfl,hM⟩:=hR
   replace hM:MemL _ (pt b0 (RWriter.enc (RWriter.mk s1198)) 167 :: fowL 5 s1198 y1197.b :: pt b_B104_3 (RMark.enc (RMark.mk x1.at_ x1.next x1.done s3 s5 s7 s11)) 60 :: Lr):=hM
   intro a hF
   refine c_nil (n_then ?_)
   have hP:=Option.some.inj hP
   subst hP
   exact ⟨y1197,rfl,s1198,hF.to ⟨rfl,rfl,trivial⟩,hM⟩
  have hP:=Fx.cF hb1195 hP
  refine c_region ?_
  refine s_val hF (r_move hF rfl rfl) rfl rfl rfl fun a hF=>?_
  obtain ⟨y1201,hy1201,hP⟩:=bind_some hP
  refine s_eff hF rfl rfl rfl (w_call (xs:=[.tmp 24,.const (.int .i64 (0))]) Tryz.call102 hF rfl rfl (trace_writer_byte_calls hy1201 hM ) fun v w hR=>?_)
  obtain ⟨s1202,rfl,hM⟩:=hR
  replace hM:MemL _ (pt b0 (RWriter.enc (RWriter.mk s1202)) 167 :: fowL 5 s1202 y1201.b :: pt b_B104_3 (RMark.enc (RMark.mk x1.at_ x1.next x1.done s3 s5 s7 s11)) 60 :: Lr):=hM
  intro a hF
  refine c_nil (n_then ?_)
  have hP:=Option.some.inj hP
  subst hP
  exact ⟨y1201,rfl,s1202,hF.to ⟨rfl,rfl,trivial⟩,hM⟩
 rintro v1192 a w hP ⟨s1193,hF,hM⟩
 replace hP:Sh.trace_writer_mark_j1 x1 v1192 = _:=hP
 unfold Sh.trace_writer_mark_j1 at hP
 refine n_then ?_
 refine c_seq ?_
 refine c_region ?_
 refine s_val hF (r_move hF rfl rfl) rfl rfl rfl fun a hF=>?_
 refine s_val hF (r_fieldAddr (off':=3) Tryz.underlying60 rfl in56 rfl hF rfl rfl rfl) rfl rfl rfl fun a hF=>?_
 refine s_val hF (r_load1 Tryz.isAgg56 hF rfl rfl (hM.cell (i:=2) rfl (RMark.g_regs _))) rfl rfl rfl fun a hF=>?_
 refine s_val hF (r_lenL (f4 _ (hsub _ (dropM hM 3))) Tryz.underlying56 hF rfl rfl) rfl rfl rfl fun a hF=>?_
 obtain ⟨y1205,hy1205,hP⟩:=bind_some hP
 refine s_eff hF rfl rfl rfl (w_call (xs:=[.tmp 26,.tmp 29]) Tryz.call102 hF rfl rfl (trace_writer_byte_calls hy1205 hM ) fun v w hR=>?_)
 obtain ⟨s1206,rfl,hM⟩:=hR
 replace hM:MemL _ (pt b0 (RWriter.enc (RWriter.mk s1206)) 167 :: fowL 5 s1206 y1205.b :: pt b_B104_3 (RMark.enc (RMark.mk x1.at_ x1.next x1.done s3 s5 s7 s11)) 60 :: Lr):=hM
 intro a hF
 refine c_nil (n_then ?_)
 refine c_seq ?_
 refine c_joinX hF hM hP (fun F x a w=>match x with | v1404=>∃ (s1405:SV),Fr 132 [(0,.pointer (some ⟨b0,0,none⟩)),(3,.pointer (some ⟨b_B104_3,0,none⟩))] a ∧ MemL w (pt b0 (RWriter.enc (RWriter.mk s1405)) 167 :: fowL 5 s1405 v1404.b :: pt b_B104_3 (RMark.enc (RMark.mk x1.at_ x1.next x1.done s3 s5 s7 s11)) 60 :: Lr)) (fun o_j2 hP hK_j2 hF hM=>?_) ?_
 ·refine c_seq ?_
  refine c_region ?_
  refine s_val hF (r_fieldAddr (off':=3) Tryz.underlying60 rfl in56 rfl hF rfl rfl rfl) rfl rfl rfl fun a hF=>?_
  refine s_val hF (r_load1 Tryz.isAgg56 hF rfl rfl (hM.cell (i:=2) rfl (RMark.g_regs _))) rfl rfl rfl fun a hF=>?_
  refine s_val hF (r_lenL (f4 _ (hsub _ (dropM hM 3))) Tryz.underlying56 hF rfl rfl) rfl rfl rfl fun a hF=>?_
  refine s_val hF (r_move hF rfl rfl) rfl rfl rfl fun a hF=>?_
  refine c_nil (n_then ?_)
  refine c_block ?_
  refine c_loopX hF hM hP (fun F x a w=>match x with | (v1471,v1474)=>∃ (s1472:SV),Fr 132 [(34,.int .i64 v1474),(0,.pointer (some ⟨b0,0,none⟩)),(3,.pointer (some ⟨b_B104_3,0,none⟩)),(32,(s3).v),(33,.int .i64 (x1.regs.length:Int))] a ∧ MemL w (pt b0 (RWriter.enc (RWriter.mk s1472)) 167 :: fowL 5 s1472 v1471.b :: pt b_B104_3 (RMark.enc (RMark.mk x1.at_ x1.next x1.done s3 s5 s7 s11)) 60 :: Lr)) (fun hF hM=>⟨s1206,hF.to ⟨rfl,rfl,rfl,rfl,rfl,trivial⟩,hM⟩) ?_
  rintro ⟨v1471,v1474⟩ a w o_l3 hP hK_l3 ⟨s1472,hF,hM⟩
  replace hP:Sh.trace_writer_mark_l3 x1 v1471 v1474 = _:=hP
  unfold Sh.trace_writer_mark_l3 at hP
  refine c_seq ?_
  refine c_region ?_
  refine s_val hF (r_lss hF rfl rfl rfl) rfl rfl rfl fun a hF=>?_
  refine c_nil (n_then ?_)
  refine c_seq ?_
  refine c_cond hF (c:=.tmp 35) rfl (fun hb1476=>?_) (fun hb1476=>?_)
  ·have hP:=Fx.cT hb1476 hP
   refine c_skip (n_then ?_)
   refine c_seq ?_
   refine c_block ?_
   refine c_seq ?_
   refine c_region ?_
   obtain ⟨x1491,hx1491,hP⟩:=bind_some hP
   have h0x1491:=get_some hx1491
   refine s_val hF (r_indexZ (sz:=9) (f4 _ (hsub _ (dropM hM 3))) Tryz.underlying56 in128 rfl hF rfl rfl rfl (get_bd hx1491)) rfl rfl rfl fun a hF=>?_
   refine s_val hF (r_loadn Tryz.isAgg128 Tryz.sizeOf128 hF rfl rfl (LTurn.len _) (((f4 _ (hsub _ (dropM hM 3))).elemS h0x1491.2))) rfl rfl rfl fun a hF=>?_
   refine s_eff hF rfl rfl rfl (w_alloc z128 (zs:=LTurn.zero.enc) rfl rfl fun b_B104_5 w hzB104_5 hAB104_5=>?_)
   have hM:=hM.plus hAB104_5
   replace hM:MemL _ (pt b_B104_5 (LTurn.enc LTurn.zero) 128 :: pt b0 (RWriter.enc (RWriter.mk s1472)) 167 :: fowL 5 s1472 v1471.b :: pt b_B104_3 (RMark.enc (RMark.mk x1.at_ x1.next x1.done s3 s5 s7 s11)) 60 :: Lr):=hM
   intro a hF
   refine s_eff0 rfl rfl (w_storen (vs:=_) Tryz.sizeOf128 (hM.obj (i:=0) rfl) hF rfl rfl rfl rfl (LTurn.len _) (LTurn.one _) (by first | (rw [LTurn.len,LTurn.len]; decide) | (rw [LTurn.len]; decide)) (put_all ((LTurn.len _).trans (LTurn.len _).symm)) fun w hU1492=>?_)
   have hM:=hM.chg hU1492 (i:=0) rfl
   replace hM:MemL _ (pt b_B104_5 (LTurn.enc x1491) 128 :: pt b0 (RWriter.enc (RWriter.mk s1472)) 167 :: fowL 5 s1472 v1471.b :: pt b_B104_3 (RMark.enc (RMark.mk x1.at_ x1.next x1.done s3 s5 s7 s11)) 60 :: Lr):=hM
   refine c_nil (n_then ?_)
   refine c_seq ?_
   refine c_region ?_
   refine s_val hF (r_move hF rfl rfl) rfl rfl rfl fun a hF=>?_
   refine s_val hF (r_fieldAddr (off':=0) Tryz.underlying128 rfl in3 rfl hF rfl rfl rfl) rfl rfl rfl fun a hF=>?_
   refine s_val hF (r_load1 Tryz.isAgg3 hF rfl rfl (hM.cell (i:=0) rfl (LTurn.g_reg _))) rfl rfl rfl fun a hF=>?_
   obtain ⟨y1494,hy1494,hP⟩:=bind_some hP
   refine s_eff hF rfl rfl rfl (w_call (xs:=[.tmp 38,.tmp 40]) Tryz.call102 hF rfl rfl (trace_writer_byte_calls hy1494 (selM hM [1,2,0,3] 4 rfl) ) fun v w hR=>?_)
   obtain ⟨s1495,rfl,hM⟩:=hR
   replace hM:MemL _ (pt b0 (RWriter.enc (RWriter.mk s1495)) 167 :: fowL 5 s1495 y1494.b :: pt b_B104_5 (LTurn.enc x1491) 128 :: pt b_B104_3 (RMark.enc (RMark.mk x1.at_ x1.next x1.done s3 s5 s7 s11)) 60 :: Lr):=hM
   intro a hF
   refine c_nil (n_then ?_)
   refine c_seq ?_
   refine c_region ?_
   refine s_val hF (r_move hF rfl rfl) rfl rfl rfl fun a hF=>?_
   refine s_val hF (r_fieldAddr (off':=1) Tryz.underlying128 rfl in46 rfl hF rfl rfl rfl) rfl rfl rfl fun a hF=>?_
   refine s_val hF (r_loadn Tryz.isAgg46 Tryz.sizeOf46 hF rfl rfl (LVal.len _) (hM.cells (i:=2) rfl (LTurn.c_old _))) rfl rfl rfl fun a hF=>?_
   obtain ⟨y1498,hy1498,hP⟩:=bind_some hP
   refine s_eff hF rfl rfl rfl (w_call (xs:=[.tmp 42,.tmp 44]) Tryz.call177 hF rfl rfl (trace_writer_value_calls hy1498 hM ) fun v w hR=>?_)
   obtain ⟨s1499,rfl,hM⟩:=hR
   replace hM:MemL _ (pt b0 (RWriter.enc (RWriter.mk s1499)) 167 :: fowL 5 s1499 y1498.b :: pt b_B104_5 (LTurn.enc x1491) 128 :: pt b_B104_3 (RMark.enc (RMark.mk x1.at_ x1.next x1.done s3 s5 s7 s11)) 60 :: Lr):=hM
   intro a hF
   refine c_nil (n_then ?_)
   refine c_region ?_
   refine s_val hF (r_move hF rfl rfl) rfl rfl rfl fun a hF=>?_
   refine s_val hF (r_fieldAddr (off':=5) Tryz.underlying128 rfl in46 rfl hF rfl rfl rfl) rfl rfl rfl fun a hF=>?_
   refine s_val hF (r_loadn Tryz.isAgg46 Tryz.sizeOf46 hF rfl rfl (LVal.len _) (hM.cells (i:=2) rfl (LTurn.c_new _))) rfl rfl rfl fun a hF=>?_
   obtain ⟨y1502,hy1502,hP⟩:=bind_some hP
   refine s_eff hF rfl rfl rfl (w_call (xs:=[.tmp 46,.tmp 48]) Tryz.call177 hF rfl rfl (trace_writer_value_calls hy1502 hM ) fun v w hR=>?_)
   obtain ⟨s1503,rfl,hM⟩:=hR
   replace hM:MemL _ (pt b0 (RWriter.enc (RWriter.mk s1503)) 167 :: fowL 5 s1503 y1502.b :: pt b_B104_5 (LTurn.enc x1491) 128 :: pt b_B104_3 (RMark.enc (RMark.mk x1.at_ x1.next x1.done s3 s5 s7 s11)) 60 :: Lr):=hM
   intro a hF
   refine c_nil (n_block (n_then ?_))
   refine c_region ?_
   refine s_val hF (r_add hF rfl rfl rfl) rfl rfl rfl fun a hF=>?_
   refine s_val hF (r_move hF rfl rfl) rfl rfl rfl fun a hF=>?_
   refine c_nil (n_then ?_)
   have hP:=Option.some.inj hP
   subst hP
   exact ⟨(y1502,(IntKind.i64.wrap (v1474 + 1))),rfl,s1503,hF.to ⟨rfl,rfl,rfl,rfl,rfl,trivial⟩,selM hM [0,1,3] 4 rfl⟩
  have hP:=Fx.cF hb1476 hP
  refine c_exit (x_then (x_then (x_hit ?_)))
  refine n_then ?_
  have hP:=Option.some.inj hP
  subst hP
  have hP:=hK_l3 _ rfl
  subst hP
  exact ⟨v1471,rfl,s1472,hF.to ⟨rfl,rfl,trivial⟩,hM⟩
 rintro v1404 a w hP ⟨s1405,hF,hM⟩
 replace hP:Sh.trace_writer_mark_j2 x1 v1404 = _:=hP
 unfold Sh.trace_writer_mark_j2 at hP
 refine n_then ?_
 refine c_seq ?_
 refine c_region ?_
 refine s_val hF (r_move hF rfl rfl) rfl rfl rfl fun a hF=>?_
 refine s_val hF (r_fieldAddr (off':=4) Tryz.underlying60 rfl in57 rfl hF rfl rfl rfl) rfl rfl rfl fun a hF=>?_
 refine s_val hF (r_load1 Tryz.isAgg57 hF rfl rfl (hM.cell (i:=2) rfl (RMark.g_slots _))) rfl rfl rfl fun a hF=>?_
 refine s_val hF (r_lenL (f6 _ (hsub _ (dropM hM 3))) Tryz.underlying57 hF rfl rfl) rfl rfl rfl fun a hF=>?_
 obtain ⟨y1506,hy1506,hP⟩:=bind_some hP
 refine s_eff hF rfl rfl rfl (w_call (xs:=[.tmp 51,.tmp 54]) Tryz.call102 hF rfl rfl (trace_writer_byte_calls hy1506 hM ) fun v w hR=>?_)
 obtain ⟨s1507,rfl,hM⟩:=hR
 replace hM:MemL _ (pt b0 (RWriter.enc (RWriter.mk s1507)) 167 :: fowL 5 s1507 y1506.b :: pt b_B104_3 (RMark.enc (RMark.mk x1.at_ x1.next x1.done s3 s5 s7 s11)) 60 :: Lr):=hM
 intro a hF
 refine c_nil (n_then ?_)
 refine c_seq ?_
 refine c_joinX hF hM hP (fun F x a w=>match x with | v1705=>∃ (s1706:SV),Fr 132 [(0,.pointer (some ⟨b0,0,none⟩)),(3,.pointer (some ⟨b_B104_3,0,none⟩))] a ∧ MemL w (pt b0 (RWriter.enc (RWriter.mk s1706)) 167 :: fowL 5 s1706 v1705.b :: pt b_B104_3 (RMark.enc (RMark.mk x1.at_ x1.next x1.done s3 s5 s7 s11)) 60 :: Lr)) (fun o_j4 hP hK_j4 hF hM=>?_) ?_
 ·refine c_seq ?_
  refine c_region ?_
  refine s_val hF (r_fieldAddr (off':=4) Tryz.underlying60 rfl in57 rfl hF rfl rfl rfl) rfl rfl rfl fun a hF=>?_
  refine s_val hF (r_load1 Tryz.isAgg57 hF rfl rfl (hM.cell (i:=2) rfl (RMark.g_slots _))) rfl rfl rfl fun a hF=>?_
  refine s_val hF (r_lenL (f6 _ (hsub _ (dropM hM 3))) Tryz.underlying57 hF rfl rfl) rfl rfl rfl fun a hF=>?_
  refine s_val hF (r_move hF rfl rfl) rfl rfl rfl fun a hF=>?_
  refine c_nil (n_then ?_)
  refine c_block ?_
  refine c_loopX hF hM hP (fun F x a w=>match x with | (v1772,v1775)=>∃ (s1773:SV),Fr 132 [(59,.int .i64 v1775),(0,.pointer (some ⟨b0,0,none⟩)),(3,.pointer (some ⟨b_B104_3,0,none⟩)),(57,(s5).v),(58,.int .i64 (x1.slots.length:Int))] a ∧ MemL w (pt b0 (RWriter.enc (RWriter.mk s1773)) 167 :: fowL 5 s1773 v1772.b :: pt b_B104_3 (RMark.enc (RMark.mk x1.at_ x1.next x1.done s3 s5 s7 s11)) 60 :: Lr)) (fun hF hM=>⟨s1507,hF.to ⟨rfl,rfl,rfl,rfl,rfl,trivial⟩,hM⟩) ?_
  rintro ⟨v1772,v1775⟩ a w o_l5 hP hK_l5 ⟨s1773,hF,hM⟩
  replace hP:Sh.trace_writer_mark_l5 x1 v1772 v1775 = _:=hP
  unfold Sh.trace_writer_mark_l5 at hP
  refine c_seq ?_
  refine c_region ?_
  refine s_val hF (r_lss hF rfl rfl rfl) rfl rfl rfl fun a hF=>?_
  refine c_nil (n_then ?_)
  refine c_seq ?_
  refine c_cond hF (c:=.tmp 60) rfl (fun hb1777=>?_) (fun hb1777=>?_)
  ·have hP:=Fx.cT hb1777 hP
   refine c_skip (n_then ?_)
   refine c_seq ?_
   refine c_block ?_
   refine c_seq ?_
   refine c_region ?_
   obtain ⟨x1792,hx1792,hP⟩:=bind_some hP
   have h0x1792:=get_some hx1792
   refine s_val hF (r_indexZ (sz:=27) (f6 _ (hsub _ (dropM hM 3))) Tryz.underlying57 in151 rfl hF rfl rfl rfl (get_bd hx1792)) rfl rfl rfl fun a hF=>?_
   refine s_val hF (r_loadn Tryz.isAgg151 Tryz.sizeOf151 hF rfl rfl (LCell.len _) (((f6 _ (hsub _ (dropM hM 3))).elemS h0x1792.2))) rfl rfl rfl fun a hF=>?_
   refine s_eff hF rfl rfl rfl (w_alloc z151 (zs:=LCell.zero.enc) rfl rfl fun b_B104_7 w hzB104_7 hAB104_7=>?_)
   have hM:=hM.plus hAB104_7
   replace hM:MemL _ (pt b_B104_7 (LCell.enc LCell.zero) 151 :: pt b0 (RWriter.enc (RWriter.mk s1773)) 167 :: fowL 5 s1773 v1772.b :: pt b_B104_3 (RMark.enc (RMark.mk x1.at_ x1.next x1.done s3 s5 s7 s11)) 60 :: Lr):=hM
   intro a hF
   refine s_eff0 rfl rfl (w_storen (vs:=_) Tryz.sizeOf151 (hM.obj (i:=0) rfl) hF rfl rfl rfl rfl (LCell.len _) (LCell.one _) (by first | (rw [LCell.len,LCell.len]; decide) | (rw [LCell.len]; decide)) (put_all ((LCell.len _).trans (LCell.len _).symm)) fun w hU1793=>?_)
   have hM:=hM.chg hU1793 (i:=0) rfl
   replace hM:MemL _ (pt b_B104_7 (LCell.enc x1792) 151 :: pt b0 (RWriter.enc (RWriter.mk s1773)) 167 :: fowL 5 s1773 v1772.b :: pt b_B104_3 (RMark.enc (RMark.mk x1.at_ x1.next x1.done s3 s5 s7 s11)) 60 :: Lr):=hM
   refine c_nil (n_then ?_)
   refine c_seq ?_
   refine c_region ?_
   refine s_val hF (r_move hF rfl rfl) rfl rfl rfl fun a hF=>?_
   refine s_val hF (r_fieldAddr (off':=0) Tryz.underlying151 rfl in3 rfl hF rfl rfl rfl) rfl rfl rfl fun a hF=>?_
   refine s_val hF (r_load1 Tryz.isAgg3 hF rfl rfl (hM.cell (i:=0) rfl (LCell.g_slot _))) rfl rfl rfl fun a hF=>?_
   obtain ⟨y1795,hy1795,hP⟩:=bind_some hP
   refine s_eff hF rfl rfl rfl (w_call (xs:=[.tmp 63,.tmp 65]) Tryz.call102 hF rfl rfl (trace_writer_byte_calls hy1795 (selM hM [1,2,0,3] 4 rfl) ) fun v w hR=>?_)
   obtain ⟨s1796,rfl,hM⟩:=hR
   replace hM:MemL _ (pt b0 (RWriter.enc (RWriter.mk s1796)) 167 :: fowL 5 s1796 y1795.b :: pt b_B104_7 (LCell.enc x1792) 151 :: pt b_B104_3 (RMark.enc (RMark.mk x1.at_ x1.next x1.done s3 s5 s7 s11)) 60 :: Lr):=hM
   intro a hF
   refine c_nil (n_then ?_)
   refine c_seq ?_
   refine c_region ?_
   refine s_val hF (r_move hF rfl rfl) rfl rfl rfl fun a hF=>?_
   refine s_val hF (r_fieldAddr (off':=1) Tryz.underlying151 rfl in50 rfl hF rfl rfl rfl) rfl rfl rfl fun a hF=>?_
   refine s_val hF (r_loadn Tryz.isAgg50 Tryz.sizeOf50 hF rfl rfl (LSlot.len _) (hM.cells (i:=2) rfl (LCell.c_old _))) rfl rfl rfl fun a hF=>?_
   obtain ⟨y1799,hy1799,hP⟩:=bind_some hP
   refine s_eff hF rfl rfl rfl (w_call (xs:=[.tmp 67,.tmp 69]) Tryz.call178 hF rfl rfl (trace_writer_slot_calls hy1799 hM ) fun v w hR=>?_)
   obtain ⟨s1800,rfl,hM⟩:=hR
   replace hM:MemL _ (pt b0 (RWriter.enc (RWriter.mk s1800)) 167 :: fowL 5 s1800 y1799.b :: pt b_B104_7 (LCell.enc x1792) 151 :: pt b_B104_3 (RMark.enc (RMark.mk x1.at_ x1.next x1.done s3 s5 s7 s11)) 60 :: Lr):=hM
   intro a hF
   refine c_nil (n_then ?_)
   refine c_region ?_
   refine s_val hF (r_move hF rfl rfl) rfl rfl rfl fun a hF=>?_
   refine s_val hF (r_fieldAddr (off':=14) Tryz.underlying151 rfl in50 rfl hF rfl rfl rfl) rfl rfl rfl fun a hF=>?_
   refine s_val hF (r_loadn Tryz.isAgg50 Tryz.sizeOf50 hF rfl rfl (LSlot.len _) (hM.cells (i:=2) rfl (LCell.c_new _))) rfl rfl rfl fun a hF=>?_
   obtain ⟨y1803,hy1803,hP⟩:=bind_some hP
   refine s_eff hF rfl rfl rfl (w_call (xs:=[.tmp 71,.tmp 73]) Tryz.call178 hF rfl rfl (trace_writer_slot_calls hy1803 hM ) fun v w hR=>?_)
   obtain ⟨s1804,rfl,hM⟩:=hR
   replace hM:MemL _ (pt b0 (RWriter.enc (RWriter.mk s1804)) 167 :: fowL 5 s1804 y1803.b :: pt b_B104_7 (LCell.enc x1792) 151 :: pt b_B104_3 (RMark.enc (RMark.mk x1.at_ x1.next x1.done s3 s5 s7 s11)) 60 :: Lr):=hM
   intro a hF
   refine c_nil (n_block (n_then ?_))
   refine c_region ?_
   refine s_val hF (r_add hF rfl rfl rfl) rfl rfl rfl fun a hF=>?_
   refine s_val hF (r_move hF rfl rfl) rfl rfl rfl fun a hF=>?_
   refine c_nil (n_then ?_)
   have hP:=Option.some.inj hP
   subst hP
   exact ⟨(y1803,(IntKind.i64.wrap (v1775 + 1))),rfl,s1804,hF.to ⟨rfl,rfl,rfl,rfl,rfl,trivial⟩,selM hM [0,1,3] 4 rfl⟩
  have hP:=Fx.cF hb1777 hP
  refine c_exit (x_then (x_then (x_hit ?_)))
  refine n_then ?_
  have hP:=Option.some.inj hP
  subst hP
  have hP:=hK_l5 _ rfl
  subst hP
  exact ⟨v1772,rfl,s1773,hF.to ⟨rfl,rfl,trivial⟩,hM⟩
 rintro v1705 a w hP ⟨s1706,hF,hM⟩
 replace hP:Sh.trace_writer_mark_j4 x1 v1705 = _:=hP
 unfold Sh.trace_writer_mark_j4 at hP
 refine n_then ?_
 refine c_seq ?_
 refine c_region ?_
 refine s_val hF (r_move hF rfl rfl) rfl rfl rfl fun a hF=>?_
 refine s_val hF (r_fieldAddr (off':=5) Tryz.underlying60 rfl in58 rfl hF rfl rfl rfl) rfl rfl rfl fun a hF=>?_
 refine s_val hF (r_load1 Tryz.isAgg58 hF rfl rfl (hM.cell (i:=2) rfl (RMark.g_pieces _))) rfl rfl rfl fun a hF=>?_
 refine s_val hF (r_lenD (f9 _ (hsub _ (dropM hM 3))) q10.len Tryz.underlying58 hF rfl rfl) rfl rfl rfl fun a hF=>?_
 obtain ⟨y1807,hy1807,hP⟩:=bind_some hP
 refine s_eff hF rfl rfl rfl (w_call (xs:=[.tmp 76,.tmp 79]) Tryz.call103 hF rfl rfl (trace_writer_four_calls hy1807 hM ) fun v w hR=>?_)
 obtain ⟨s1808,rfl,hM⟩:=hR
 replace hM:MemL _ (pt b0 (RWriter.enc (RWriter.mk s1808)) 167 :: fowL 5 s1808 y1807.b :: pt b_B104_3 (RMark.enc (RMark.mk x1.at_ x1.next x1.done s3 s5 s7 s11)) 60 :: Lr):=hM
 intro a hF
 refine c_nil (n_then ?_)
 refine c_seq ?_
 refine c_joinX hF hM hP (fun F x a w=>match x with | v2114=>∃ (s2115:SV),Fr 132 [(0,.pointer (some ⟨b0,0,none⟩)),(3,.pointer (some ⟨b_B104_3,0,none⟩))] a ∧ MemL w (pt b0 (RWriter.enc (RWriter.mk s2115)) 167 :: fowL 5 s2115 v2114.b :: pt b_B104_3 (RMark.enc (RMark.mk x1.at_ x1.next x1.done s3 s5 s7 s11)) 60 :: Lr)) (fun o_j6 hP hK_j6 hF hM=>?_) ?_
 ·refine c_seq ?_
  refine c_region ?_
  refine s_val hF (r_fieldAddr (off':=5) Tryz.underlying60 rfl in58 rfl hF rfl rfl rfl) rfl rfl rfl fun a hF=>?_
  refine s_val hF (r_load1 Tryz.isAgg58 hF rfl rfl (hM.cell (i:=2) rfl (RMark.g_pieces _))) rfl rfl rfl fun a hF=>?_
  refine s_val hF (r_lenD (f9 _ (hsub _ (dropM hM 3))) q10.len Tryz.underlying58 hF rfl rfl) rfl rfl rfl fun a hF=>?_
  refine s_val hF (r_move hF rfl rfl) rfl rfl rfl fun a hF=>?_
  refine c_nil (n_then ?_)
  refine c_block ?_
  refine c_loopX hF hM hP (fun F x a w=>match x with | (v2217,v2220)=>∃ (s2218:SV),Fr 132 [(84,.int .i64 v2220),(0,.pointer (some ⟨b0,0,none⟩)),(3,.pointer (some ⟨b_B104_3,0,none⟩)),(82,(s7).v),(83,.int .i64 (x1.pieces.length:Int))] a ∧ MemL w (pt b0 (RWriter.enc (RWriter.mk s2218)) 167 :: fowL 5 s2218 v2217.b :: pt b_B104_3 (RMark.enc (RMark.mk x1.at_ x1.next x1.done s3 s5 s7 s11)) 60 :: Lr)) (fun hF hM=>⟨s1808,hF.to ⟨rfl,rfl,rfl,rfl,rfl,trivial⟩,hM⟩) ?_
  rintro ⟨v2217,v2220⟩ a w o_l7 hP hK_l7 ⟨s2218,hF,hM⟩
  replace hP:Sh.trace_writer_mark_l7 x1 v2217 v2220 = _:=hP
  unfold Sh.trace_writer_mark_l7 at hP
  refine c_seq ?_
  refine c_region ?_
  refine s_val hF (r_lss hF rfl rfl rfl) rfl rfl rfl fun a hF=>?_
  refine c_nil (n_then ?_)
  refine c_seq ?_
  refine c_cond hF (c:=.tmp 85) rfl (fun hb2222=>?_) (fun hb2222=>?_)
  ·have hP:=Fx.cT hb2222 hP
   refine c_skip (n_then ?_)
   refine c_seq ?_
   refine c_block ?_
   refine c_seq ?_
   refine c_region ?_
   obtain ⟨x2246,hx2246,hP⟩:=bind_some hP
   have h0x2246:=get_some hx2246
   obtain ⟨yx2246,hgx2246,hrx2246⟩:=Each.getr q10 h0x2246.2
   have hdx2246:=Each.bd q10 (get_bd hx2246)
   obtain ⟨s2247,s2249,rfl,f2248,f2250⟩:=hrx2246
   refine s_val hF (r_indexZ (sz:=4) (f9 _ (hsub _ (dropM hM 3))) Tryz.underlying58 in156 rfl hF rfl rfl rfl hdx2246) rfl rfl rfl fun a hF=>?_
   refine s_val hF (r_loadn Tryz.isAgg156 Tryz.sizeOf156 hF rfl rfl (RPiece.len _) (((f9 _ (hsub _ (dropM hM 3))).elemS hgx2246))) rfl rfl rfl fun a hF=>?_
   refine s_eff hF rfl rfl rfl (w_alloc z156 (zs:=RPiece.zero.enc) rfl rfl fun b_B104_9 w hzB104_9 hAB104_9=>?_)
   have hM:=hM.plus hAB104_9
   replace hM:MemL _ (pt b_B104_9 (RPiece.enc (RPiece.mk 0 0 SV.nil SV.nil)) 156 :: pt b0 (RWriter.enc (RWriter.mk s2218)) 167 :: fowL 5 s2218 v2217.b :: pt b_B104_3 (RMark.enc (RMark.mk x1.at_ x1.next x1.done s3 s5 s7 s11)) 60 :: Lr):=hM
   intro a hF
   refine s_eff0 rfl rfl (w_storen (vs:=_) Tryz.sizeOf156 (hM.obj (i:=0) rfl) hF rfl rfl rfl rfl (RPiece.len _) (RPiece.one _) (by first | (rw [RPiece.len,RPiece.len]; decide) | (rw [RPiece.len]; decide)) (put_all ((RPiece.len _).trans (RPiece.len _).symm)) fun w hU2251=>?_)
   have hM:=hM.chg hU2251 (i:=0) rfl
   replace hM:MemL _ (pt b_B104_9 (RPiece.enc (RPiece.mk x2246.table x2246.from_ s2247 s2249)) 156 :: pt b0 (RWriter.enc (RWriter.mk s2218)) 167 :: fowL 5 s2218 v2217.b :: pt b_B104_3 (RMark.enc (RMark.mk x1.at_ x1.next x1.done s3 s5 s7 s11)) 60 :: Lr):=hM
   refine c_nil (n_then ?_)
   refine c_seq ?_
   refine c_region ?_
   refine s_val hF (r_move hF rfl rfl) rfl rfl rfl fun a hF=>?_
   refine s_val hF (r_fieldAddr (off':=0) Tryz.underlying156 rfl in3 rfl hF rfl rfl rfl) rfl rfl rfl fun a hF=>?_
   refine s_val hF (r_load1 Tryz.isAgg3 hF rfl rfl (hM.cell (i:=0) rfl (RPiece.g_table _))) rfl rfl rfl fun a hF=>?_
   refine s_val hF (r_add hF rfl rfl rfl) rfl rfl rfl fun a hF=>?_
   obtain ⟨y2253,hy2253,hP⟩:=bind_some hP
   refine s_eff hF rfl rfl rfl (w_call (xs:=[.tmp 88,.tmp 91]) Tryz.call102 hF rfl rfl (trace_writer_byte_calls hy2253 (selM hM [1,2,0,3] 4 rfl) ) fun v w hR=>?_)
   obtain ⟨s2254,rfl,hM⟩:=hR
   replace hM:MemL _ (pt b0 (RWriter.enc (RWriter.mk s2254)) 167 :: fowL 5 s2254 y2253.b :: pt b_B104_9 (RPiece.enc (RPiece.mk x2246.table x2246.from_ s2247 s2249)) 156 :: pt b_B104_3 (RMark.enc (RMark.mk x1.at_ x1.next x1.done s3 s5 s7 s11)) 60 :: Lr):=hM
   intro a hF
   refine c_nil (n_then ?_)
   refine c_seq ?_
   refine c_region ?_
   refine s_val hF (r_move hF rfl rfl) rfl rfl rfl fun a hF=>?_
   refine s_val hF (r_fieldAddr (off':=1) Tryz.underlying156 rfl in3 rfl hF rfl rfl rfl) rfl rfl rfl fun a hF=>?_
   refine s_val hF (r_load1 Tryz.isAgg3 hF rfl rfl (hM.cell (i:=2) rfl (RPiece.g_from_ _))) rfl rfl rfl fun a hF=>?_
   obtain ⟨y2257,hy2257,hP⟩:=bind_some hP
   refine s_eff hF rfl rfl rfl (w_call (xs:=[.tmp 93,.tmp 95]) Tryz.call101 hF rfl rfl (trace_writer_two_calls hy2257 hM ) fun v w hR=>?_)
   obtain ⟨s2258,rfl,hM⟩:=hR
   replace hM:MemL _ (pt b0 (RWriter.enc (RWriter.mk s2258)) 167 :: fowL 5 s2258 y2257.b :: pt b_B104_9 (RPiece.enc (RPiece.mk x2246.table x2246.from_ s2247 s2249)) 156 :: pt b_B104_3 (RMark.enc (RMark.mk x1.at_ x1.next x1.done s3 s5 s7 s11)) 60 :: Lr):=hM
   intro a hF
   refine c_nil (n_then ?_)
   refine c_seq ?_
   refine c_region ?_
   refine s_val hF (r_move hF rfl rfl) rfl rfl rfl fun a hF=>?_
   refine s_val hF (r_fieldAddr (off':=2) Tryz.underlying156 rfl in23 rfl hF rfl rfl rfl) rfl rfl rfl fun a hF=>?_
   refine s_val hF (r_load1 Tryz.isAgg23 hF rfl rfl (hM.cell (i:=2) rfl (RPiece.g_old _))) rfl rfl rfl fun a hF=>?_
   refine s_val hF (r_lenL (f2248 _ (hsub _ (dropM hM 4))) Tryz.underlying23 hF rfl rfl) rfl rfl rfl fun a hF=>?_
   obtain ⟨y2261,hy2261,hP⟩:=bind_some hP
   refine s_eff hF rfl rfl rfl (w_call (xs:=[.tmp 97,.tmp 100]) Tryz.call101 hF rfl rfl (trace_writer_two_calls hy2261 hM ) fun v w hR=>?_)
   obtain ⟨s2262,rfl,hM⟩:=hR
   replace hM:MemL _ (pt b0 (RWriter.enc (RWriter.mk s2262)) 167 :: fowL 5 s2262 y2261.b :: pt b_B104_9 (RPiece.enc (RPiece.mk x2246.table x2246.from_ s2247 s2249)) 156 :: pt b_B104_3 (RMark.enc (RMark.mk x1.at_ x1.next x1.done s3 s5 s7 s11)) 60 :: Lr):=hM
   intro a hF
   refine c_nil (n_then ?_)
   refine d_startT mixed (by kernel_rfl) hM [0,2,3] 4 rfl fun hch=>?_
   refine d_val hF hch 0 rfl (by kernel_rfl) rfl rfl rfl (fun w hM=>(r_move hF rfl rfl)) fun a hF=>?_
   refine d_val hF hch 1 rfl (by kernel_rfl) rfl rfl rfl (fun w hM=>(r_move hF rfl rfl)) fun a hF=>?_
   refine d_val hF hch 2 rfl (by kernel_rfl) rfl rfl rfl (fun w hM=>(r_nilCheckP hF rfl rfl)) fun a hF=>?_
   refine d_val hF hch 3 rfl (by kernel_rfl) rfl rfl rfl (fun w hM=>(r_fieldAddr (off':=0) Tryz.underlying167 rfl in23 rfl hF rfl rfl rfl)) fun a hF=>?_
   refine d_val hF hch 4 rfl (by kernel_rfl) rfl rfl rfl (fun w hM=>(r_load1 Tryz.isAgg23 hF rfl rfl (hM.cell (i:=0) rfl (RWriter.g_b _)))) fun a hF=>?_
   refine d_val hF hch 5 rfl (by kernel_rfl) rfl rfl rfl (fun w hM=>(r_fieldAddr (off':=2) Tryz.underlying156 rfl in23 rfl hF rfl rfl rfl)) fun a hF=>?_
   refine d_val hF hch 6 rfl (by kernel_rfl) rfl rfl rfl (fun w hM=>(r_load1 Tryz.isAgg23 hF rfl rfl (hM.cell (i:=1) rfl (RPiece.g_old _)))) fun a hF=>?_
   refine d_val hF hch 8 rfl (by kernel_rfl) rfl rfl rfl (fun w hM=>(r_fieldAddr (off':=3) Tryz.underlying156 rfl in23 rfl hF rfl rfl rfl)) fun a hF=>?_
   refine d_val hF hch 9 rfl (by kernel_rfl) rfl rfl rfl (fun w hM=>(r_load1 Tryz.isAgg23 hF rfl rfl (hM.cell (i:=1) rfl (RPiece.g_new _)))) fun a hF=>?_
   refine d_one hch 7 (by kernel_rfl) rfl rfl ?_
   refine d_ex hF 7 rfl rfl rfl rfl rfl fun w hMs hM=>?_
   obtain ⟨x2265,hx2265,hP⟩:=bind_some hP
   refine (w_appY hx2265 Tryz.underlying23 in5 rfl rfl rfl rfl hF rfl rfl rfl (hM.hold 1 _ rfl) (f2248 _ (hsub _ (dropM hM 4))) fun s2264 w hUs2264=>?_)
   have hM:=hM.chg hUs2264 (i:=1) rfl
   replace hM:MemL _ (pt b0 (RWriter.enc (RWriter.mk s2262)) 167 :: fowL 5 s2264 x2265 :: pt b_B104_9 (RPiece.enc (RPiece.mk x2246.table x2246.from_ s2247 s2249)) 156 :: pt b_B104_3 (RMark.enc (RMark.mk x1.at_ x1.next x1.done s3 s5 s7 s11)) 60 :: Lr):=hM
   have hMs:=selM hM [0,2,3] 4 rfl
   refine ⟨_,_,hMs,hM,.inl fun _ h=>h,fun a hF=>?_⟩
   refine d_one hch 10 (by kernel_rfl) rfl rfl ?_
   refine d_ex hF 10 rfl rfl rfl rfl rfl fun w hMs hM=>?_
   obtain ⟨x2267,hx2267,hP⟩:=bind_some hP
   refine (w_appY hx2267 Tryz.underlying23 in5 rfl rfl rfl rfl hF rfl rfl rfl (hM.hold 1 _ rfl) (f2250 _ (hsub _ (dropM hM 4))) fun s2266 w hUs2266=>?_)
   have hM:=hM.chg hUs2266 (i:=1) rfl
   replace hM:MemL _ (pt b0 (RWriter.enc (RWriter.mk s2262)) 167 :: fowL 5 s2266 x2267 :: pt b_B104_9 (RPiece.enc (RPiece.mk x2246.table x2246.from_ s2247 s2249)) 156 :: pt b_B104_3 (RMark.enc (RMark.mk x1.at_ x1.next x1.done s3 s5 s7 s11)) 60 :: Lr):=hM
   have hMs:=selM hM [0,2,3] 4 rfl
   refine ⟨_,_,hMs,hM,.inl fun _ h=>h,fun a hF=>?_⟩
   refine d_val hF hch 11 rfl (by kernel_rfl) rfl rfl rfl (fun w hM=>(r_nilCheckP hF rfl rfl)) fun a hF=>?_
   refine d_val hF hch 12 rfl (by kernel_rfl) rfl rfl rfl (fun w hM=>(r_fieldAddr (off':=0) Tryz.underlying167 rfl in23 rfl hF rfl rfl rfl)) fun a hF=>?_
   refine d_one hch 13 (by kernel_rfl) rfl rfl ?_
   refine d_ex0 13 rfl rfl rfl rfl fun w hMs hM=>?_
   refine (w_store1 Tryz.sizeOf23 (hM.obj (i:=0) rfl) hF rfl rfl rfl rfl (by rw [RWriter.len]; decide) (RWriter.s_b _ _) fun w hU2268=>?_)
   have hM:=hM.chg hU2268 (i:=0) rfl
   replace hM:MemL _ (pt b0 (RWriter.enc (RWriter.mk s2266)) 167 :: fowL 5 s2266 x2267 :: pt b_B104_9 (RPiece.enc (RPiece.mk x2246.table x2246.from_ s2247 s2249)) 156 :: pt b_B104_3 (RMark.enc (RMark.mk x1.at_ x1.next x1.done s3 s5 s7 s11)) 60 :: Lr):=hM
   have hMs:=hM
   refine ⟨_,_,hMs,hM,.inr (by kernel_rfl),?_⟩
   refine d_end hch (by kernel_rfl) fun w hM=>?_
   refine n_block (n_then ?_)
   refine c_region ?_
   refine s_val hF (r_add hF rfl rfl rfl) rfl rfl rfl fun a hF=>?_
   refine s_val hF (r_move hF rfl rfl) rfl rfl rfl fun a hF=>?_
   refine c_nil (n_then ?_)
   have hP:=Option.some.inj hP
   subst hP
   exact ⟨((QWriter.mk x2267),(IntKind.i64.wrap (v2220 + 1))),rfl,s2266,hF.to ⟨rfl,rfl,rfl,rfl,rfl,trivial⟩,selM hM [0,1,3] 4 rfl⟩
  have hP:=Fx.cF hb2222 hP
  refine c_exit (x_then (x_then (x_hit ?_)))
  refine n_then ?_
  have hP:=Option.some.inj hP
  subst hP
  have hP:=hK_l7 _ rfl
  subst hP
  exact ⟨v2217,rfl,s2218,hF.to ⟨rfl,rfl,trivial⟩,hM⟩
 rintro v2114 a w hP ⟨s2115,hF,hM⟩
 replace hP:Sh.trace_writer_mark_j6 x1 v2114 = _:=hP
 unfold Sh.trace_writer_mark_j6 at hP
 refine n_then ?_
 refine c_seq ?_
 refine c_region ?_
 refine s_val hF (r_move hF rfl rfl) rfl rfl rfl fun a hF=>?_
 refine s_val hF (r_fieldAddr (off':=6) Tryz.underlying60 rfl in52 rfl hF rfl rfl rfl) rfl rfl rfl fun a hF=>?_
 refine s_val hF (r_load1 Tryz.isAgg52 hF rfl rfl (hM.cell (i:=2) rfl (RMark.g_sent _))) rfl rfl rfl fun a hF=>?_
 refine s_val hF (r_lenL (f12 _ (hsub _ (dropM hM 3))) Tryz.underlying52 hF rfl rfl) rfl rfl rfl fun a hF=>?_
 obtain ⟨y2270,hy2270,hP⟩:=bind_some hP
 refine s_eff hF rfl rfl rfl (w_call (xs:=[.tmp 116,.tmp 119]) Tryz.call102 hF rfl rfl (trace_writer_byte_calls hy2270 hM ) fun v w hR=>?_)
 obtain ⟨s2271,rfl,hM⟩:=hR
 replace hM:MemL _ (pt b0 (RWriter.enc (RWriter.mk s2271)) 167 :: fowL 5 s2271 y2270.b :: pt b_B104_3 (RMark.enc (RMark.mk x1.at_ x1.next x1.done s3 s5 s7 s11)) 60 :: Lr):=hM
 intro a hF
 refine c_nil (n_then ?_)
 refine c_seq ?_
 refine c_region ?_
 refine s_val hF (r_fieldAddr (off':=6) Tryz.underlying60 rfl in52 rfl hF rfl rfl rfl) rfl rfl rfl fun a hF=>?_
 refine s_val hF (r_load1 Tryz.isAgg52 hF rfl rfl (hM.cell (i:=2) rfl (RMark.g_sent _))) rfl rfl rfl fun a hF=>?_
 refine s_val hF (r_lenL (f12 _ (hsub _ (dropM hM 3))) Tryz.underlying52 hF rfl rfl) rfl rfl rfl fun a hF=>?_
 refine s_val hF (r_move hF rfl rfl) rfl rfl rfl fun a hF=>?_
 refine c_nil (n_then ?_)
 refine c_block ?_
 refine c_loopX hF hM hP (fun F x a w=>match x with | (v2301,v2304)=>∃ (s2302:SV),Fr 132 [(124,.int .i64 v2304),(0,.pointer (some ⟨b0,0,none⟩)),(122,(s11).v),(123,.int .i64 (x1.sent.length:Int))] a ∧ MemL w (pt b0 (RWriter.enc (RWriter.mk s2302)) 167 :: fowL 5 s2302 v2301.b :: Lr)) (fun hF hM=>⟨s2271,hF.to ⟨rfl,rfl,rfl,rfl,trivial⟩,selM hM [0,1] 3 rfl⟩) ?_
 rintro ⟨v2301,v2304⟩ a w o_l8 hP hK_l8 ⟨s2302,hF,hM⟩
 replace hP:Sh.trace_writer_mark_l8 x1 v2301 v2304 = _:=hP
 unfold Sh.trace_writer_mark_l8 at hP
 refine c_seq ?_
 refine c_region ?_
 refine s_val hF (r_lss hF rfl rfl rfl) rfl rfl rfl fun a hF=>?_
 refine c_nil (n_then ?_)
 refine c_seq ?_
 refine c_cond hF (c:=.tmp 125) rfl (fun hb2306=>?_) (fun hb2306=>?_)
 ·have hP:=Fx.cT hb2306 hP
  refine c_skip (n_then ?_)
  refine c_seq ?_
  refine c_block ?_
  refine c_seq ?_
  refine c_region ?_
  obtain ⟨x2312,hx2312,hP⟩:=bind_some hP
  have h0x2312:=get_some hx2312
  refine s_val hF (r_indexZ (sz:=1) (f12 _ (hsub _ (dropM hM 2))) Tryz.underlying52 in3 rfl hF rfl rfl rfl (get_bd hx2312)) rfl rfl rfl fun a hF=>?_
  refine s_val hF (r_load1 Tryz.isAgg3 hF rfl rfl ((((f12 _ (hsub _ (dropM hM 2))).elemS h0x2312.2)).get 0 rfl)) rfl rfl rfl fun a hF=>?_
  refine s_val hF (r_assign hF rfl rfl) rfl rfl rfl fun a hF=>?_
  refine c_nil (n_then ?_)
  refine c_region ?_
  refine s_val hF (r_move hF rfl rfl) rfl rfl rfl fun a hF=>?_
  refine s_val hF (r_move hF rfl rfl) rfl rfl rfl fun a hF=>?_
  obtain ⟨y2314,hy2314,hP⟩:=bind_some hP
  refine s_eff hF rfl rfl rfl (w_call (xs:=[.tmp 128,.tmp 129]) Tryz.call179 hF rfl rfl (trace_writer_eight_calls hy2314 hM ) fun v w hR=>?_)
  obtain ⟨s2315,rfl,hM⟩:=hR
  replace hM:MemL _ (pt b0 (RWriter.enc (RWriter.mk s2315)) 167 :: fowL 5 s2315 y2314.b :: Lr):=hM
  intro a hF
  refine c_nil (n_block (n_then ?_))
  refine c_region ?_
  refine s_val hF (r_add hF rfl rfl rfl) rfl rfl rfl fun a hF=>?_
  refine s_val hF (r_move hF rfl rfl) rfl rfl rfl fun a hF=>?_
  refine c_nil (n_then ?_)
  have hP:=Option.some.inj hP
  subst hP
  exact ⟨(y2314,(IntKind.i64.wrap (v2304 + 1))),rfl,s2315,hF.to ⟨rfl,rfl,rfl,rfl,trivial⟩,hM⟩
 have hP:=Fx.cF hb2306 hP
 refine c_exit (x_then (x_then (x_hit ?_)))
 have hP:=Option.some.inj hP
 subst hP
 have hP:=hK_l8 _ rfl
 subst hP
 refine e_end0 Tryz.results104 hF ?_
 exact ⟨s2302,rfl,hM⟩
set_option maxHeartbeats 4000000 in
theorem trace_goodInput_calls {x0:QInput} {s1:SV} {s3:SV} {hs4:List SV} {out:Bool} {w0:World} {Bf:World → Prop} {Lr:List Res} (hP:Sh.trace_goodInput x0 = some out) (hM:MemL w0 (Lr)) (hsub:∀ w,MemL w Lr → Bf w) (f2:LIn Bf s1 x0.ctx) (f5:LIn Bf s3 hs4) (q6:Each (LIn (X:=UInt8) Bf) hs4 x0.tables):Calls Tryz.prog 98 #[.agg (RInput.enc (RInput.mk s1 s3)).toArray] w0 (Ret fun v w'=>v = .bool out ∧ MemL w' (Lr)):=by
 unfold Sh.trace_goodInput at hP
 refine calls_enter (vs:=[.agg (RInput.enc (RInput.mk s1 s3)).toArray]) Tryz.func98 rfl Tryz.ntmps98 rfl fun a hF=>?_
 refine c_seq ?_
 refine c_region ?_
 refine s_eff hF rfl rfl rfl (w_box hF rfl rfl rfl fun b_B98_1 w hzB98_1 hAB98_1=>?_)
 have hM:=hM.plus hAB98_1
 replace hM:MemL _ (pt b_B98_1 (RInput.enc (RInput.mk s1 s3)) 30 :: Lr):=hM
 intro a hF
 refine s_val hF (r_assign hF rfl rfl) rfl rfl rfl fun a hF=>?_
 refine c_nil (n_then ?_)
 refine c_seq ?_
 refine c_region ?_
 refine s_val hF (r_assign hF rfl rfl) rfl rfl rfl fun a hF=>?_
 refine c_nil (n_then ?_)
 refine c_seq ?_
 refine c_joinX hF hM hP (fun F x a w=>match x with | v1598=>Fr 22 [(2,.bool v1598)] a ∧ MemL w (Lr)) (fun o_j1 hP hK_j1 hF hM=>?_) ?_
 ·refine c_region ?_
  refine s_val hF (r_move hF rfl rfl) rfl rfl rfl fun a hF=>?_
  refine s_val hF (r_fieldAddr (off':=0) Tryz.underlying30 rfl in23 rfl hF rfl rfl rfl) rfl rfl rfl fun a hF=>?_
  refine s_val hF (r_load1 Tryz.isAgg23 hF rfl rfl (hM.cell (i:=0) rfl (RInput.g_ctx _))) rfl rfl rfl fun a hF=>?_
  obtain ⟨o_c2,hP,hK_c2⟩:=seq_some hP
  refine s_eff hF rfl rfl rfl (w_callF (xs:=[.tmp 6]) Tryz.call171 hF rfl rfl rfl (R:=fun v w=>∃ x,o_c2 = .inl x ∧ match x with | v1599=>v = .bool v1599 ∧ MemL w (pt b_B98_1 (RInput.enc (RInput.mk s1 s3)) 30 :: Lr)) ?_ fun v w hR=>?_)
  ·refine calls_enter Tryz.func171 rfl Tryz.ntmps171 rfl fun a hF=>?_
   refine c_seq ?_
   refine c_region ?_
   refine s_val hF (r_assign hF rfl rfl) rfl rfl rfl fun a hF=>?_
   refine c_nil (n_then ?_)
   refine c_seq ?_
   refine c_region ?_
   refine s_val hF (r_move hF rfl rfl) rfl rfl rfl fun a hF=>?_
   refine s_val hF (r_lenL (f2 _ (hsub _ (dropM hM 1))) Tryz.underlying23 hF rfl rfl) rfl rfl rfl fun a hF=>?_
   refine s_val hF (r_gtr hF rfl rfl rfl) rfl rfl rfl fun a hF=>?_
   refine s_val hF (r_assign hF rfl rfl) rfl rfl rfl fun a hF=>?_
   refine c_nil (n_then ?_)
   refine c_ret ?_
   have hP:=Option.some.inj hP
   subst hP
   refine e_ret1 Tryz.results171 hF rfl ?_
   exact ⟨(decide (65535 < (x0.ctx.length:Int))),rfl,rfl,hM⟩
  obtain ⟨v1599,rfl,rfl,hM⟩:=hR
  replace hP:Sh.trace_goodInput_c2 x0 v1599 = _:=hK_c2
  unfold Sh.trace_goodInput_c2 at hP
  intro a hF
  refine s_val hF (r_not hF rfl rfl) rfl rfl rfl fun a hF=>?_
  refine s_val hF (r_move hF rfl rfl) rfl rfl rfl fun a hF=>?_
  refine g_split 9 hF rfl (fun hb1600=>?_) (fun hb1600=>?_)
  ·have hP:=Fx.cT hb1600 hP
   refine g_val hF rfl rfl rfl hb1600 (r_fieldAddr (off':=1) Tryz.underlying30 rfl in28 rfl hF rfl rfl rfl) rfl rfl fun a hF=>?_
   refine g_val hF rfl rfl rfl hb1600 (r_load1 Tryz.isAgg28 hF rfl rfl (hM.cell (i:=0) rfl (RInput.g_tables _))) rfl rfl fun a hF=>?_
   refine g_val hF rfl rfl rfl hb1600 (r_lenD (f5 _ (hsub _ (dropM hM 1))) q6.len Tryz.underlying28 hF rfl rfl) rfl rfl fun a hF=>?_
   refine g_val hF rfl rfl rfl hb1600 (r_leq hF rfl rfl rfl) rfl rfl fun a hF=>?_
   refine s_val hF (r_pick1 hF rfl rfl hb1600 rfl) rfl rfl rfl fun a hF=>?_
   refine s_val hF (r_move hF rfl rfl) rfl rfl rfl fun a hF=>?_
   refine g_split 15 hF rfl (fun hb1601=>?_) (fun hb1601=>?_)
   ·have hP:=Fx.cT hb1601 hP
    refine g_val hF rfl rfl rfl hb1601 (r_fieldAddr (off':=1) Tryz.underlying30 rfl in28 rfl hF rfl rfl rfl) rfl rfl fun a hF=>?_
    refine g_val hF rfl rfl rfl hb1601 (r_load1 Tryz.isAgg28 hF rfl rfl (hM.cell (i:=0) rfl (RInput.g_tables _))) rfl rfl fun a hF=>?_
    refine g_val hF rfl rfl rfl hb1601 (r_move hF rfl rfl) rfl rfl fun a hF=>?_
    obtain ⟨o_c3,hP,hK_c3⟩:=seq_some hP
    refine g_eff hF rfl rfl rfl hb1601 rfl rfl (w_call (xs:=[.tmp 17,.tmp 18]) Tryz.call172 hF rfl rfl (R:=fun v w=>∃ x,o_c3 = .inl x ∧ match x with | v1759=>v = .bool v1759 ∧ MemL w (pt b_B98_1 (RInput.enc (RInput.mk s1 s3)) 30 :: Lr)) ?_ fun v w hR=>?_)
    ·refine calls_enter Tryz.func172 rfl Tryz.ntmps172 rfl fun a hF=>?_
     refine c_seq ?_
     refine c_region ?_
     refine s_val hF (r_assign hF rfl rfl) rfl rfl rfl fun a hF=>?_
     refine c_nil (n_then ?_)
     refine c_seq ?_
     refine c_region ?_
     refine s_val hF (r_move hF rfl rfl) rfl rfl rfl fun a hF=>?_
     refine s_val hF (r_move hF rfl rfl) rfl rfl rfl fun a hF=>?_
     obtain ⟨o_c4,hP,hK_c4⟩:=seq_some hP
     refine s_eff hF rfl rfl rfl (w_call (xs:=[.tmp 5,.tmp 6]) Tryz.call226 hF rfl rfl (R:=fun v w=>∃ x,o_c4 = .inl x ∧ match x with | v1838=>v = .int .i64 v1838 ∧ MemL w (pt b_B98_1 (RInput.enc (RInput.mk s1 s3)) 30 :: Lr)) ?_ fun v w hR=>?_)
     ·refine calls_enter Tryz.func226 rfl Tryz.ntmps226 rfl fun a hF=>?_
      refine c_seq ?_
      refine c_region ?_
      refine s_val hF (r_assign hF rfl rfl) rfl rfl rfl fun a hF=>?_
      refine c_nil (n_then ?_)
      refine c_seq ?_
      refine c_joinX hF hM hP (fun F x a w=>match x with | _=>Fr 19 [(4,.int .i64 0)] a ∧ MemL w (pt b_B98_1 (RInput.enc (RInput.mk s1 s3)) 30 :: Lr)) (fun o_j5 hP hK_j5 hF hM=>?_) ?_
      ·refine c_seq ?_
       refine c_region ?_
       refine s_val hF (r_move hF rfl rfl) rfl rfl rfl fun a hF=>?_
       refine s_val hF (r_lenD (f5 _ (hsub _ (dropM hM 1))) q6.len Tryz.underlying28 hF rfl rfl) rfl rfl rfl fun a hF=>?_
       refine s_val hF (r_move hF rfl rfl) rfl rfl rfl fun a hF=>?_
       refine c_nil (n_then ?_)
       refine c_block ?_
       refine c_loopX hF hM hP (fun F x a w=>match x with | v1908=>Fr 19 [(8,.int .i64 v1908),(0,(s3).v),(1,.func (.func 171) [].toArray [].toArray),(4,.int .i64 0),(7,.int .i64 (x0.tables.length:Int))] a ∧ MemL w (pt b_B98_1 (RInput.enc (RInput.mk s1 s3)) 30 :: Lr)) (fun hF hM=>⟨hF.to ⟨rfl,rfl,rfl,rfl,rfl,trivial⟩,hM⟩) ?_
       rintro v1908 a w o_l6 hP hK_l6 ⟨hF,hM⟩
       replace hP:Sh.trace_goodInput_l6 x0 v1908 = _:=hP
       unfold Sh.trace_goodInput_l6 at hP
       refine c_seq ?_
       refine c_region ?_
       refine s_val hF (r_lss hF rfl rfl rfl) rfl rfl rfl fun a hF=>?_
       refine c_nil (n_then ?_)
       refine c_seq ?_
       refine c_cond hF (c:=.tmp 9) rfl (fun hb1910=>?_) (fun hb1910=>?_)
       ·have hP:=Fx.cT hb1910 hP
        refine c_skip (n_then ?_)
        refine c_seq ?_
        refine c_block ?_
        refine c_seq ?_
        refine c_region ?_
        refine s_val hF (r_move hF rfl rfl) rfl rfl rfl fun a hF=>?_
        refine s_val hF (r_assign hF rfl rfl) rfl rfl rfl fun a hF=>?_
        refine c_nil (n_then ?_)
        refine c_seq ?_
        refine c_region ?_
        refine s_val hF (r_move hF rfl rfl) rfl rfl rfl fun a hF=>?_
        refine s_val hF (r_move hF rfl rfl) rfl rfl rfl fun a hF=>?_
        refine s_val hF (r_move hF rfl rfl) rfl rfl rfl fun a hF=>?_
        obtain ⟨x1914,hx1914,hP⟩:=bind_some hP
        have h0x1914:=get_some hx1914
        obtain ⟨yx1914,hgx1914,hrx1914⟩:=Each.getr q6 h0x1914.2
        have hdx1914:=Each.bd q6 (get_bd hx1914)
        refine s_val hF (r_indexZ (sz:=1) (f5 _ (hsub _ (dropM hM 1))) Tryz.underlying28 in23 rfl hF rfl rfl rfl hdx1914) rfl rfl rfl fun a hF=>?_
        refine s_val hF (r_load1 Tryz.isAgg23 hF rfl rfl ((((f5 _ (hsub _ (dropM hM 1))).elemS hgx1914)).get 0 rfl)) rfl rfl rfl fun a hF=>?_
        obtain ⟨o_c7,hP,hK_c7⟩:=seq_some hP
        refine s_eff hF rfl rfl rfl (w_callF (xs:=[.tmp 15]) Tryz.call171 hF rfl rfl rfl (R:=fun v w=>∃ x,o_c7 = .inl x ∧ match x with | v1915=>v = .bool v1915 ∧ MemL w (pt b_B98_1 (RInput.enc (RInput.mk s1 s3)) 30 :: Lr)) ?_ fun v w hR=>?_)
        ·refine calls_enter Tryz.func171 rfl Tryz.ntmps171 rfl fun a hF=>?_
         refine c_seq ?_
         refine c_region ?_
         refine s_val hF (r_assign hF rfl rfl) rfl rfl rfl fun a hF=>?_
         refine c_nil (n_then ?_)
         refine c_seq ?_
         refine c_region ?_
         refine s_val hF (r_move hF rfl rfl) rfl rfl rfl fun a hF=>?_
         refine s_val hF (r_lenL (hrx1914 _ (hsub _ (dropM hM 1))) Tryz.underlying23 hF rfl rfl) rfl rfl rfl fun a hF=>?_
         refine s_val hF (r_gtr hF rfl rfl rfl) rfl rfl rfl fun a hF=>?_
         refine s_val hF (r_assign hF rfl rfl) rfl rfl rfl fun a hF=>?_
         refine c_nil (n_then ?_)
         refine c_ret ?_
         have hP:=Option.some.inj hP
         subst hP
         refine e_ret1 Tryz.results171 hF rfl ?_
         exact ⟨(decide (65535 < (x1914.length:Int))),rfl,rfl,hM⟩
        obtain ⟨v1915,rfl,rfl,hM⟩:=hR
        replace hP:Sh.trace_goodInput_c7 v1908 v1915 = _:=hK_c7
        unfold Sh.trace_goodInput_c7 at hP
        intro a hF
        refine c_nil (n_then ?_)
        refine c_cond hF (c:=.tmp 16) rfl (fun hb1916=>?_) (fun hb1916=>?_)
        ·have hP:=Fx.cT hb1916 hP
         refine c_seq ?_
         refine c_region ?_
         refine s_val hF (r_move hF rfl rfl) rfl rfl rfl fun a hF=>?_
         refine s_val hF (r_assign hF rfl rfl) rfl rfl rfl fun a hF=>?_
         refine c_nil (n_then ?_)
         refine c_ret ?_
         have hP:=Option.some.inj hP
         subst hP
         have hP:=hK_l6 _ rfl
         subst hP
         have hP:=fin_inr hK_j5
         subst hP
         refine e_ret1 Tryz.results226 hF rfl ?_
         exact ⟨v1908,rfl,rfl,hM⟩
        have hP:=Fx.cF hb1916 hP
        refine c_skip (n_block (n_then ?_))
        refine c_region ?_
        refine s_val hF (r_add hF rfl rfl rfl) rfl rfl rfl fun a hF=>?_
        refine s_val hF (r_move hF rfl rfl) rfl rfl rfl fun a hF=>?_
        refine c_nil (n_then ?_)
        have hP:=Option.some.inj hP
        subst hP
        exact ⟨(IntKind.i64.wrap (v1908 + 1)),rfl,hF.to ⟨rfl,rfl,rfl,rfl,rfl,trivial⟩,hM⟩
       have hP:=Fx.cF hb1910 hP
       refine c_exit (x_then (x_then (x_hit ?_)))
       refine n_then ?_
       have hP:=Option.some.inj hP
       subst hP
       have hP:=hK_l6 _ rfl
       subst hP
       exact ⟨(),rfl,hF.to ⟨rfl,trivial⟩,hM⟩
      rintro ⟨⟩ a w hP ⟨hF,hM⟩
      replace hP:Sh.trace_goodInput_j5 = _:=hP
      unfold Sh.trace_goodInput_j5 at hP
      refine n_then ?_
      refine c_seq ?_
      refine c_region ?_
      refine s_val hF (r_assign hF rfl rfl) rfl rfl rfl fun a hF=>?_
      refine c_nil (n_then ?_)
      refine c_ret ?_
      have hP:=Option.some.inj hP
      subst hP
      refine e_ret1 Tryz.results226 hF rfl ?_
      exact ⟨(-1),rfl,rfl,hM⟩
     obtain ⟨v1838,rfl,rfl,hM⟩:=hR
     replace hP:Sh.trace_goodInput_c4 v1838 = _:=hK_c4
     unfold Sh.trace_goodInput_c4 at hP
     intro a hF
     refine s_val hF (r_geq hF rfl rfl rfl) rfl rfl rfl fun a hF=>?_
     refine s_val hF (r_assign hF rfl rfl) rfl rfl rfl fun a hF=>?_
     refine c_nil (n_then ?_)
     refine c_ret ?_
     have hP:=Option.some.inj hP
     subst hP
     refine e_ret1 Tryz.results172 hF rfl ?_
     exact ⟨(decide (0 ≤ v1838)),rfl,rfl,hM⟩
    obtain ⟨v1759,rfl,rfl,hM⟩:=hR
    replace hP:Sh.trace_goodInput_c3 v1759 = _:=hK_c3
    unfold Sh.trace_goodInput_c3 at hP
    intro a hF
    refine g_val hF rfl rfl rfl hb1601 (r_not hF rfl rfl) rfl rfl fun a hF=>?_
    refine s_val hF (r_pick1 hF rfl rfl hb1601 rfl) rfl rfl rfl fun a hF=>?_
    refine s_val hF (r_assign hF rfl rfl) rfl rfl rfl fun a hF=>?_
    refine c_nil (n_then ?_)
    have hP:=Option.some.inj hP
    subst hP
    exact ⟨(!v1759),rfl,hF.to ⟨rfl,trivial⟩,selM hM [] 1 rfl⟩
   have hP:=Fx.cF hb1601 hP
   refine g_skip hF rfl rfl rfl hb1601 rfl rfl fun a hF=>?_
   refine g_skip hF rfl rfl rfl hb1601 rfl rfl fun a hF=>?_
   refine g_skip hF rfl rfl rfl hb1601 rfl rfl fun a hF=>?_
   refine g_skip hF rfl rfl rfl hb1601 rfl rfl fun a hF=>?_
   refine g_skip hF rfl rfl rfl hb1601 rfl rfl fun a hF=>?_
   refine s_val hF (r_pick0 hF rfl rfl hb1601 rfl) rfl rfl rfl fun a hF=>?_
   refine s_val hF (r_assign hF rfl rfl) rfl rfl rfl fun a hF=>?_
   refine c_nil (n_then ?_)
   have hP:=Option.some.inj hP
   subst hP
   exact ⟨false,rfl,hF.to ⟨rfl,trivial⟩,selM hM [] 1 rfl⟩
  have hP:=Fx.cF hb1600 hP
  refine g_skip hF rfl rfl rfl hb1600 rfl rfl fun a hF=>?_
  refine g_skip hF rfl rfl rfl hb1600 rfl rfl fun a hF=>?_
  refine g_skip hF rfl rfl rfl hb1600 rfl rfl fun a hF=>?_
  refine g_skip hF rfl rfl rfl hb1600 rfl rfl fun a hF=>?_
  refine s_val hF (r_pick0 hF rfl rfl hb1600 rfl) rfl rfl rfl fun a hF=>?_
  refine s_val hF (r_move hF rfl rfl) rfl rfl rfl fun a hF=>?_
  refine g_skip hF rfl rfl rfl rfl rfl rfl fun a hF=>?_
  refine g_skip hF rfl rfl rfl rfl rfl rfl fun a hF=>?_
  refine g_skip hF rfl rfl rfl rfl rfl rfl fun a hF=>?_
  refine g_skip hF rfl rfl rfl rfl rfl rfl fun a hF=>?_
  refine g_skip hF rfl rfl rfl rfl rfl rfl fun a hF=>?_
  refine s_val hF (r_pick0 hF rfl rfl rfl rfl) rfl rfl rfl fun a hF=>?_
  refine s_val hF (r_assign hF rfl rfl) rfl rfl rfl fun a hF=>?_
  refine c_nil (n_then ?_)
  have hP:=Option.some.inj hP
  subst hP
  exact ⟨false,rfl,hF.to ⟨rfl,trivial⟩,selM hM [] 1 rfl⟩
 rintro v1598 a w hP ⟨hF,hM⟩
 replace hP:Sh.trace_goodInput_j1 v1598 = _:=hP
 unfold Sh.trace_goodInput_j1 at hP
 refine n_then ?_
 refine c_ret ?_
 have hP:=Option.some.inj hP
 subst hP
 refine e_ret1 Tryz.results98 hF rfl ?_
 exact ⟨rfl,hM⟩
set_option maxHeartbeats 4000000 in
theorem trace_Encode_calls {x0:QRecord} {s1:SV} {s3:SV} {hs4:List SV} {s7:SV} {hs8:List RMark} {out:(List UInt8 × Int)} {w0:World} {Bf:World → Prop} {Lr:List Res} (hP:Sh.trace_Encode x0 = some out) (hM:MemL w0 (Lr)) (hsub:∀ w,MemL w Lr → Bf w) (f2:LIn Bf s1 x0.in_.ctx) (f5:LIn Bf s3 hs4) (q6:Each (LIn (X:=UInt8) Bf) hs4 x0.in_.tables) (f9:LIn Bf s7 hs8) (q10:Each (QMarkIn Bf) hs8 x0.marks):Calls Tryz.prog 41 #[.agg (RRecord.enc (RRecord.mk (RInput.mk s1 s3) s7 x0.end_)).toArray] w0 (Ret fun v w'=>∃ (s882:SV),v = .tuple #[(s882).v,.int .i64 out.2] ∧ MemL w' (fowL 5 s882 out.1 :: Lr)):=by
 unfold Sh.trace_Encode at hP
 refine calls_enter (vs:=[.agg (RRecord.enc (RRecord.mk (RInput.mk s1 s3) s7 x0.end_)).toArray]) Tryz.func41 rfl Tryz.ntmps41 rfl fun a hF=>?_
 refine c_seq ?_
 refine c_region ?_
 refine s_eff hF rfl rfl rfl (w_box hF rfl rfl rfl fun b_B41_1 w hzB41_1 hAB41_1=>?_)
 have hM:=hM.plus hAB41_1
 replace hM:MemL _ (pt b_B41_1 (RRecord.enc (RRecord.mk (RInput.mk s1 s3) s7 x0.end_)) 36 :: Lr):=hM
 intro a hF
 refine s_val hF (r_assign hF rfl rfl) rfl rfl rfl fun a hF=>?_
 refine s_val hF (r_assign hF rfl rfl) rfl rfl rfl fun a hF=>?_
 refine c_nil (n_then ?_)
 refine c_seq ?_
 refine c_seq ?_
 refine c_region ?_
 refine s_val hF (r_fieldAddr (off':=0) Tryz.underlying36 rfl in30 rfl hF rfl rfl rfl) rfl rfl rfl fun a hF=>?_
 refine s_val hF (r_loadn Tryz.isAgg30 Tryz.sizeOf30 hF rfl rfl (RInput.len _) (hM.cells (i:=0) rfl (RRecord.c_in_ _))) rfl rfl rfl fun a hF=>?_
 obtain ⟨y888,hy888,hP⟩:=bind_some hP
 refine s_eff hF rfl rfl rfl (w_call (xs:=[.tmp 12]) Tryz.call98 hF rfl rfl (trace_goodInput_calls hy888 hM (Bf:=Bf) (fun w hM=>hsub _ (dropM hM 1)) f2 f5 q6) fun v w hR=>?_)
 obtain ⟨rfl,hM⟩:=hR
 replace hM:MemL _ (pt b_B41_1 (RRecord.enc (RRecord.mk (RInput.mk s1 s3) s7 x0.end_)) 36 :: Lr):=hM
 intro a hF
 refine s_val hF (r_not hF rfl rfl) rfl rfl rfl fun a hF=>?_
 refine c_nil (n_then ?_)
 refine c_cond hF (c:=.tmp 14) rfl (fun hb889=>?_) (fun hb889=>?_)
 ·have hP:=Fx.cT hb889 hP
  refine c_seq ?_
  refine c_region ?_
  refine s_val hF (r_assign hF rfl rfl) rfl rfl rfl fun a hF=>?_
  refine s_val hF (r_assign hF rfl rfl) rfl rfl rfl fun a hF=>?_
  refine c_nil (n_then ?_)
  refine c_ret ?_
  have hM:=hM.rowNil (X:=UInt8) 0 5
  have hM:=rowFow hM (i:=0) rfl
  have hP:=Option.some.inj hP
  subst hP
  refine e_ret (rs:=[.tmp 2,.tmp 3]) Tryz.results41 hF (res_tmp hF rfl (res_tmp hF rfl res_nil)) rfl ?_
  exact ⟨SV.nil,rfl,selM hM [0] 2 rfl⟩
 have hP:=Fx.cF hb889 hP
 refine c_skip (n_then ?_)
 refine c_seq ?_
 refine c_joinX hF hM hP (fun F x a w=>match x with | _=>Fr 115 [(1,.pointer (some ⟨b_B41_1,0,none⟩)),(2,(SV.nil).v),(3,.int .i64 0)] a ∧ MemL w (pt b_B41_1 (RRecord.enc (RRecord.mk (RInput.mk s1 s3) s7 x0.end_)) 36 :: Lr)) (fun o_j1 hP hK_j1 hF hM=>?_) ?_
 ·refine c_seq ?_
  refine c_region ?_
  refine s_val hF (r_fieldAddr (off':=2) Tryz.underlying36 rfl in33 rfl hF rfl rfl rfl) rfl rfl rfl fun a hF=>?_
  refine s_val hF (r_load1 Tryz.isAgg33 hF rfl rfl (hM.cell (i:=0) rfl (RRecord.g_marks _))) rfl rfl rfl fun a hF=>?_
  refine s_val hF (r_lenD (f9 _ (hsub _ (dropM hM 1))) q10.len Tryz.underlying33 hF rfl rfl) rfl rfl rfl fun a hF=>?_
  refine s_val hF (r_move hF rfl rfl) rfl rfl rfl fun a hF=>?_
  refine c_nil (n_then ?_)
  refine c_block ?_
  refine c_loopX hF hM hP (fun F x a w=>match x with | v1152=>Fr 115 [(18,.int .i64 v1152),(1,.pointer (some ⟨b_B41_1,0,none⟩)),(16,(s7).v),(17,.int .i64 (x0.marks.length:Int)),(2,(SV.nil).v),(3,.int .i64 0)] a ∧ MemL w (pt b_B41_1 (RRecord.enc (RRecord.mk (RInput.mk s1 s3) s7 x0.end_)) 36 :: Lr)) (fun hF hM=>⟨hF.to ⟨rfl,rfl,rfl,rfl,rfl,rfl,trivial⟩,hM⟩) ?_
  rintro v1152 a w o_l2 hP hK_l2 ⟨hF,hM⟩
  replace hP:Sh.trace_Encode_l2 x0 v1152 = _:=hP
  unfold Sh.trace_Encode_l2 at hP
  refine c_seq ?_
  refine c_region ?_
  refine s_val hF (r_lss hF rfl rfl rfl) rfl rfl rfl fun a hF=>?_
  refine c_nil (n_then ?_)
  refine c_seq ?_
  refine c_cond hF (c:=.tmp 19) rfl (fun hb1154=>?_) (fun hb1154=>?_)
  ·have hP:=Fx.cT hb1154 hP
   refine c_skip (n_then ?_)
   refine c_seq ?_
   refine c_block ?_
   refine c_seq ?_
   refine c_region ?_
   obtain ⟨x1170,hx1170,hP⟩:=bind_some hP
   have h0x1170:=get_some hx1170
   obtain ⟨yx1170,hgx1170,hrx1170⟩:=Each.getr q10 h0x1170.2
   have hdx1170:=Each.bd q10 (get_bd hx1170)
   obtain ⟨s1171,s1173,s1175,hs1176,s1179,rfl,f1172,f1174,f1177,q1178,f1180⟩:=hrx1170
   refine s_val hF (r_indexZ (sz:=7) (f9 _ (hsub _ (dropM hM 1))) Tryz.underlying33 in60 rfl hF rfl rfl rfl hdx1170) rfl rfl rfl fun a hF=>?_
   refine s_val hF (r_loadn Tryz.isAgg60 Tryz.sizeOf60 hF rfl rfl (RMark.len _) (((f9 _ (hsub _ (dropM hM 1))).elemS hgx1170))) rfl rfl rfl fun a hF=>?_
   refine s_eff hF rfl rfl rfl (w_alloc z60 (zs:=RMark.zero.enc) rfl rfl fun b_B41_5 w hzB41_5 hAB41_5=>?_)
   have hM:=hM.plus hAB41_5
   replace hM:MemL _ (pt b_B41_5 (RMark.enc (RMark.mk 0 0 false SV.nil SV.nil SV.nil SV.nil)) 60 :: pt b_B41_1 (RRecord.enc (RRecord.mk (RInput.mk s1 s3) s7 x0.end_)) 36 :: Lr):=hM
   intro a hF
   refine s_eff0 rfl rfl (w_storen (vs:=_) Tryz.sizeOf60 (hM.obj (i:=0) rfl) hF rfl rfl rfl rfl (RMark.len _) (RMark.one _) (by first | (rw [RMark.len,RMark.len]; decide) | (rw [RMark.len]; decide)) (put_all ((RMark.len _).trans (RMark.len _).symm)) fun w hU1181=>?_)
   have hM:=hM.chg hU1181 (i:=0) rfl
   replace hM:MemL _ (pt b_B41_5 (RMark.enc (RMark.mk x1170.at_ x1170.next x1170.done s1171 s1173 s1175 s1179)) 60 :: pt b_B41_1 (RRecord.enc (RRecord.mk (RInput.mk s1 s3) s7 x0.end_)) 36 :: Lr):=hM
   refine c_nil (n_then ?_)
   refine c_seq ?_
   refine c_region ?_
   refine s_val hF (r_loadn Tryz.isAgg60 Tryz.sizeOf60 hF rfl rfl (RMark.len _) (hM.cells (i:=0) rfl (cut_all (RMark.len _)))) rfl rfl rfl fun a hF=>?_
   obtain ⟨y1183,hy1183,hP⟩:=bind_some hP
   refine s_eff hF rfl rfl rfl (w_call (xs:=[.tmp 22]) Tryz.call99 hF rfl rfl (trace_goodMark_calls hy1183 hM (Bf:=Bf) (fun w hM=>hsub _ (dropM hM 2)) f1172 f1174 f1177 q1178 f1180) fun v w hR=>?_)
   obtain ⟨rfl,hM⟩:=hR
   replace hM:MemL _ (pt b_B41_5 (RMark.enc (RMark.mk x1170.at_ x1170.next x1170.done s1171 s1173 s1175 s1179)) 60 :: pt b_B41_1 (RRecord.enc (RRecord.mk (RInput.mk s1 s3) s7 x0.end_)) 36 :: Lr):=hM
   intro a hF
   refine s_val hF (r_not hF rfl rfl) rfl rfl rfl fun a hF=>?_
   refine c_nil (n_then ?_)
   refine c_cond hF (c:=.tmp 24) rfl (fun hb1184=>?_) (fun hb1184=>?_)
   ·have hP:=Fx.cT hb1184 hP
    refine c_seq ?_
    refine c_region ?_
    refine s_val hF (r_assign hF rfl rfl) rfl rfl rfl fun a hF=>?_
    refine s_val hF (r_assign hF rfl rfl) rfl rfl rfl fun a hF=>?_
    refine c_nil (n_then ?_)
    refine c_ret ?_
    have hM:=hM.rowNil (X:=UInt8) 0 5
    have hM:=rowFow hM (i:=0) rfl
    have hP:=Option.some.inj hP
    subst hP
    have hP:=hK_l2 _ rfl
    subst hP
    have hP:=fin_inr hK_j1
    subst hP
    refine e_ret (rs:=[.tmp 2,.tmp 3]) Tryz.results41 hF (res_tmp hF rfl (res_tmp hF rfl res_nil)) rfl ?_
    exact ⟨SV.nil,rfl,selM hM [0] 3 rfl⟩
   have hP:=Fx.cF hb1184 hP
   refine c_skip (n_block (n_then ?_))
   refine c_region ?_
   refine s_val hF (r_add hF rfl rfl rfl) rfl rfl rfl fun a hF=>?_
   refine s_val hF (r_move hF rfl rfl) rfl rfl rfl fun a hF=>?_
   refine c_nil (n_then ?_)
   have hP:=Option.some.inj hP
   subst hP
   exact ⟨(IntKind.i64.wrap (v1152 + 1)),rfl,hF.to ⟨rfl,rfl,rfl,rfl,rfl,rfl,trivial⟩,selM hM [1] 2 rfl⟩
  have hP:=Fx.cF hb1154 hP
  refine c_exit (x_then (x_then (x_hit ?_)))
  refine n_then ?_
  have hP:=Option.some.inj hP
  subst hP
  have hP:=hK_l2 _ rfl
  subst hP
  exact ⟨(),rfl,hF.to ⟨rfl,rfl,rfl,trivial⟩,hM⟩
 rintro ⟨⟩ a w hP ⟨hF,hM⟩
 replace hP:Sh.trace_Encode_j1 x0 = _:=hP
 unfold Sh.trace_Encode_j1 at hP
 refine n_then ?_
 refine c_seq ?_
 refine c_seq ?_
 refine c_region ?_
 refine s_val hF (r_fieldAddr (off':=3) Tryz.underlying36 rfl in34 rfl hF rfl rfl rfl) rfl rfl rfl fun a hF=>?_
 refine s_val hF (r_load1 Tryz.isAgg34 hF rfl rfl (hM.cell (i:=0) rfl (RRecord.g_end_ _))) rfl rfl rfl fun a hF=>?_
 obtain ⟨y1190,hy1190,hP⟩:=bind_some hP
 refine s_eff hF rfl rfl rfl (w_call (xs:=[.tmp 27]) Tryz.call100 hF rfl rfl (trace_goodEnd_calls hy1190 hM ) fun v w hR=>?_)
 obtain ⟨rfl,hM⟩:=hR
 replace hM:MemL _ (pt b_B41_1 (RRecord.enc (RRecord.mk (RInput.mk s1 s3) s7 x0.end_)) 36 :: Lr):=hM
 intro a hF
 refine s_val hF (r_not hF rfl rfl) rfl rfl rfl fun a hF=>?_
 refine c_nil (n_then ?_)
 refine c_cond hF (c:=.tmp 29) rfl (fun hb1191=>?_) (fun hb1191=>?_)
 ·have hP:=Fx.cT hb1191 hP
  refine c_seq ?_
  refine c_region ?_
  refine s_val hF (r_assign hF rfl rfl) rfl rfl rfl fun a hF=>?_
  refine s_val hF (r_assign hF rfl rfl) rfl rfl rfl fun a hF=>?_
  refine c_nil (n_then ?_)
  refine c_ret ?_
  have hM:=hM.rowNil (X:=UInt8) 0 5
  have hM:=rowFow hM (i:=0) rfl
  have hP:=Option.some.inj hP
  subst hP
  refine e_ret (rs:=[.tmp 2,.tmp 3]) Tryz.results41 hF (res_tmp hF rfl (res_tmp hF rfl res_nil)) rfl ?_
  exact ⟨SV.nil,rfl,selM hM [0] 2 rfl⟩
 have hP:=Fx.cF hb1191 hP
 refine c_skip (n_then ?_)
 refine c_seq ?_
 refine c_region ?_
 refine s_eff hF rfl rfl rfl (w_sliceN (X:=UInt8) (ys:=[84,82,67,49]) (m:=4) Tryz.underlying23 in5 rfl rfl rfl rfl (by decide) (by decide) hF rfl rfl (PartsE.cons rfl (PartsE.cons rfl (PartsE.cons rfl (PartsE.cons rfl PartsE.nil)))) fun b_B41_30 w hzB41_30 hAB41_30=>?_)
 have hM:=hM.plus hAB41_30
 replace hM:MemL _ (pt b_B41_30 (encs ([84,82,67,49]:List UInt8)) 5 :: pt b_B41_1 (RRecord.enc (RRecord.mk (RInput.mk s1 s3) s7 x0.end_)) 36 :: Lr):=hM
 intro a hF
 refine s_eff hF rfl rfl rfl (w_convY (l:=[84,82,67,49]) Tryz.underlying23 Tryz.underlying5 hF rfl rfl rfl (hM.obj (i:=0) rfl) fun w hU1193=>?_)
 have hM:=hM.chg hU1193 (i:=0) rfl
 replace hM:MemL _ (fowL 5 (⟨some ⟨b_B41_30,0,none⟩,4,4⟩) [84,82,67,49] :: pt b_B41_1 (RRecord.enc (RRecord.mk (RInput.mk s1 s3) s7 x0.end_)) 36 :: Lr):=hM
 intro a hF
 refine s_val hF (r_build z167 Tryz.underlying167 pl167 hF (parts:=[(0,.tmp 31)]) rfl rfl (fill_s rfl rfl (by rw [RWriter.len]; decide) (RWriter.s_b _ _) fill_e)) rfl rfl rfl fun a hF=>?_
 refine s_eff hF rfl rfl rfl (w_box hF rfl rfl rfl fun b_B41_33 w hzB41_33 hAB41_33=>?_)
 have hM:=hM.plus hAB41_33
 replace hM:MemL _ (pt b_B41_33 (RWriter.enc (RWriter.mk (⟨some ⟨b_B41_30,0,none⟩,4,4⟩))) 167 :: fowL 5 (⟨some ⟨b_B41_30,0,none⟩,4,4⟩) [84,82,67,49] :: pt b_B41_1 (RRecord.enc (RRecord.mk (RInput.mk s1 s3) s7 x0.end_)) 36 :: Lr):=hM
 intro a hF
 refine s_val hF (r_assign hF rfl rfl) rfl rfl rfl fun a hF=>?_
 refine c_nil (n_then ?_)
 refine c_seq ?_
 refine c_region ?_
 refine s_val hF (r_move hF rfl rfl) rfl rfl rfl fun a hF=>?_
 refine s_val hF (r_fieldAddr (off':=0) Tryz.underlying36 rfl in30 rfl hF rfl rfl rfl) rfl rfl rfl fun a hF=>?_
 refine s_val hF (r_fieldAddr (off':=0) Tryz.underlying30 rfl in23 rfl hF rfl rfl rfl) rfl rfl rfl fun a hF=>?_
 refine s_val hF (r_load1 Tryz.isAgg23 hF rfl rfl ((hM.cells (i:=2) rfl (RRecord.c_in_ _)).get 0 (RInput.g_ctx _))) rfl rfl rfl fun a hF=>?_
 refine s_val hF (r_lenL (f2 _ (hsub _ (dropM hM 3))) Tryz.underlying23 hF rfl rfl) rfl rfl rfl fun a hF=>?_
 obtain ⟨y1195,hy1195,hP⟩:=bind_some hP
 refine s_eff hF rfl rfl rfl (w_call (xs:=[.tmp 34,.tmp 38]) Tryz.call101 hF rfl rfl (trace_writer_two_calls hy1195 hM ) fun v w hR=>?_)
 obtain ⟨s1196,rfl,hM⟩:=hR
 replace hM:MemL _ (pt b_B41_33 (RWriter.enc (RWriter.mk s1196)) 167 :: fowL 5 s1196 y1195.b :: pt b_B41_1 (RRecord.enc (RRecord.mk (RInput.mk s1 s3) s7 x0.end_)) 36 :: Lr):=hM
 intro a hF
 refine c_nil (n_then ?_)
 refine c_seq ?_
 refine d_startT mixed (by kernel_rfl) hM [0,2] 3 rfl fun hch=>?_
 refine d_val hF hch 0 rfl (by kernel_rfl) rfl rfl rfl (fun w hM=>(r_move hF rfl rfl)) fun a hF=>?_
 refine d_val hF hch 1 rfl (by kernel_rfl) rfl rfl rfl (fun w hM=>(r_move hF rfl rfl)) fun a hF=>?_
 refine d_val hF hch 2 rfl (by kernel_rfl) rfl rfl rfl (fun w hM=>(r_nilCheckP hF rfl rfl)) fun a hF=>?_
 refine d_val hF hch 3 rfl (by kernel_rfl) rfl rfl rfl (fun w hM=>(r_fieldAddr (off':=0) Tryz.underlying167 rfl in23 rfl hF rfl rfl rfl)) fun a hF=>?_
 refine d_val hF hch 4 rfl (by kernel_rfl) rfl rfl rfl (fun w hM=>(r_load1 Tryz.isAgg23 hF rfl rfl (hM.cell (i:=0) rfl (RWriter.g_b _)))) fun a hF=>?_
 refine d_val hF hch 5 rfl (by kernel_rfl) rfl rfl rfl (fun w hM=>(r_fieldAddr (off':=0) Tryz.underlying36 rfl in30 rfl hF rfl rfl rfl)) fun a hF=>?_
 refine d_val hF hch 6 rfl (by kernel_rfl) rfl rfl rfl (fun w hM=>(r_fieldAddr (off':=0) Tryz.underlying30 rfl in23 rfl hF rfl rfl rfl)) fun a hF=>?_
 refine d_val hF hch 7 rfl (by kernel_rfl) rfl rfl rfl (fun w hM=>(r_load1 Tryz.isAgg23 hF rfl rfl ((hM.cells (i:=1) rfl (RRecord.c_in_ _)).get 0 (RInput.g_ctx _)))) fun a hF=>?_
 refine d_one hch 8 (by kernel_rfl) rfl rfl ?_
 refine d_ex hF 8 rfl rfl rfl rfl rfl fun w hMs hM=>?_
 obtain ⟨x1202,hx1202,hP⟩:=bind_some hP
 refine (w_appY hx1202 Tryz.underlying23 in5 rfl rfl rfl rfl hF rfl rfl rfl (hM.hold 1 _ rfl) (f2 _ (hsub _ (dropM hM 3))) fun s1201 w hUs1201=>?_)
 have hM:=hM.chg hUs1201 (i:=1) rfl
 replace hM:MemL _ (pt b_B41_33 (RWriter.enc (RWriter.mk s1196)) 167 :: fowL 5 s1201 x1202 :: pt b_B41_1 (RRecord.enc (RRecord.mk (RInput.mk s1 s3) s7 x0.end_)) 36 :: Lr):=hM
 have hMs:=selM hM [0,2] 3 rfl
 refine ⟨_,_,hMs,hM,.inl fun _ h=>h,fun a hF=>?_⟩
 refine d_val hF hch 9 rfl (by kernel_rfl) rfl rfl rfl (fun w hM=>(r_nilCheckP hF rfl rfl)) fun a hF=>?_
 refine d_val hF hch 10 rfl (by kernel_rfl) rfl rfl rfl (fun w hM=>(r_fieldAddr (off':=0) Tryz.underlying167 rfl in23 rfl hF rfl rfl rfl)) fun a hF=>?_
 refine d_one hch 11 (by kernel_rfl) rfl rfl ?_
 refine d_ex0 11 rfl rfl rfl rfl fun w hMs hM=>?_
 refine (w_store1 Tryz.sizeOf23 (hM.obj (i:=0) rfl) hF rfl rfl rfl rfl (by rw [RWriter.len]; decide) (RWriter.s_b _ _) fun w hU1203=>?_)
 have hM:=hM.chg hU1203 (i:=0) rfl
 replace hM:MemL _ (pt b_B41_33 (RWriter.enc (RWriter.mk s1201)) 167 :: fowL 5 s1201 x1202 :: pt b_B41_1 (RRecord.enc (RRecord.mk (RInput.mk s1 s3) s7 x0.end_)) 36 :: Lr):=hM
 have hMs:=hM
 refine ⟨_,_,hMs,hM,.inr (by kernel_rfl),?_⟩
 refine d_end hch (by kernel_rfl) fun w hM=>?_
 refine n_then ?_
 refine c_seq ?_
 refine c_region ?_
 refine s_val hF (r_move hF rfl rfl) rfl rfl rfl fun a hF=>?_
 refine s_val hF (r_fieldAddr (off':=0) Tryz.underlying36 rfl in30 rfl hF rfl rfl rfl) rfl rfl rfl fun a hF=>?_
 refine s_val hF (r_fieldAddr (off':=1) Tryz.underlying30 rfl in28 rfl hF rfl rfl rfl) rfl rfl rfl fun a hF=>?_
 refine s_val hF (r_load1 Tryz.isAgg28 hF rfl rfl ((hM.cells (i:=2) rfl (RRecord.c_in_ _)).get 1 (RInput.g_tables _))) rfl rfl rfl fun a hF=>?_
 refine s_val hF (r_lenD (f5 _ (hsub _ (dropM hM 3))) q6.len Tryz.underlying28 hF rfl rfl) rfl rfl rfl fun a hF=>?_
 obtain ⟨y1205,hy1205,hP⟩:=bind_some hP
 refine s_eff hF rfl rfl rfl (w_call (xs:=[.tmp 51,.tmp 55]) Tryz.call102 hF rfl rfl (trace_writer_byte_calls hy1205 hM ) fun v w hR=>?_)
 obtain ⟨s1206,rfl,hM⟩:=hR
 replace hM:MemL _ (pt b_B41_33 (RWriter.enc (RWriter.mk s1206)) 167 :: fowL 5 s1206 y1205.b :: pt b_B41_1 (RRecord.enc (RRecord.mk (RInput.mk s1 s3) s7 x0.end_)) 36 :: Lr):=hM
 intro a hF
 refine c_nil (n_then ?_)
 refine c_seq ?_
 refine c_joinX hF hM hP (fun F x a w=>match x with | v1332=>∃ (s1333:SV),Fr 115 [(1,.pointer (some ⟨b_B41_1,0,none⟩)),(2,(SV.nil).v),(3,.int .i64 0),(6,.pointer (some ⟨b_B41_33,0,none⟩))] a ∧ MemL w (pt b_B41_33 (RWriter.enc (RWriter.mk s1333)) 167 :: fowL 5 s1333 v1332.b :: pt b_B41_1 (RRecord.enc (RRecord.mk (RInput.mk s1 s3) s7 x0.end_)) 36 :: Lr)) (fun o_j3 hP hK_j3 hF hM=>?_) ?_
 ·refine c_seq ?_
  refine c_region ?_
  refine s_val hF (r_fieldAddr (off':=0) Tryz.underlying36 rfl in30 rfl hF rfl rfl rfl) rfl rfl rfl fun a hF=>?_
  refine s_val hF (r_fieldAddr (off':=1) Tryz.underlying30 rfl in28 rfl hF rfl rfl rfl) rfl rfl rfl fun a hF=>?_
  refine s_val hF (r_load1 Tryz.isAgg28 hF rfl rfl ((hM.cells (i:=2) rfl (RRecord.c_in_ _)).get 1 (RInput.g_tables _))) rfl rfl rfl fun a hF=>?_
  refine s_val hF (r_lenD (f5 _ (hsub _ (dropM hM 3))) q6.len Tryz.underlying28 hF rfl rfl) rfl rfl rfl fun a hF=>?_
  refine s_val hF (r_move hF rfl rfl) rfl rfl rfl fun a hF=>?_
  refine c_nil (n_then ?_)
  refine c_block ?_
  refine c_loopX hF hM hP (fun F x a w=>match x with | (v1375,v1378)=>∃ (s1376:SV),Fr 115 [(61,.int .i64 v1378),(1,.pointer (some ⟨b_B41_1,0,none⟩)),(2,(SV.nil).v),(3,.int .i64 0),(59,(s3).v),(6,.pointer (some ⟨b_B41_33,0,none⟩)),(60,.int .i64 (x0.in_.tables.length:Int))] a ∧ MemL w (pt b_B41_33 (RWriter.enc (RWriter.mk s1376)) 167 :: fowL 5 s1376 v1375.b :: pt b_B41_1 (RRecord.enc (RRecord.mk (RInput.mk s1 s3) s7 x0.end_)) 36 :: Lr)) (fun hF hM=>⟨s1206,hF.to ⟨rfl,rfl,rfl,rfl,rfl,rfl,rfl,trivial⟩,hM⟩) ?_
  rintro ⟨v1375,v1378⟩ a w o_l4 hP hK_l4 ⟨s1376,hF,hM⟩
  replace hP:Sh.trace_Encode_l4 x0 v1375 v1378 = _:=hP
  unfold Sh.trace_Encode_l4 at hP
  refine c_seq ?_
  refine c_region ?_
  refine s_val hF (r_lss hF rfl rfl rfl) rfl rfl rfl fun a hF=>?_
  refine c_nil (n_then ?_)
  refine c_seq ?_
  refine c_cond hF (c:=.tmp 62) rfl (fun hb1380=>?_) (fun hb1380=>?_)
  ·have hP:=Fx.cT hb1380 hP
   refine c_skip (n_then ?_)
   refine c_seq ?_
   refine c_block ?_
   refine c_seq ?_
   refine c_region ?_
   obtain ⟨x1389,hx1389,hP⟩:=bind_some hP
   have h0x1389:=get_some hx1389
   obtain ⟨yx1389,hgx1389,hrx1389⟩:=Each.getr q6 h0x1389.2
   have hdx1389:=Each.bd q6 (get_bd hx1389)
   refine s_val hF (r_indexZ (sz:=1) (f5 _ (hsub _ (dropM hM 3))) Tryz.underlying28 in23 rfl hF rfl rfl rfl hdx1389) rfl rfl rfl fun a hF=>?_
   refine s_val hF (r_load1 Tryz.isAgg23 hF rfl rfl ((((f5 _ (hsub _ (dropM hM 3))).elemS hgx1389)).get 0 rfl)) rfl rfl rfl fun a hF=>?_
   refine s_val hF (r_assign hF rfl rfl) rfl rfl rfl fun a hF=>?_
   refine c_nil (n_then ?_)
   refine c_seq ?_
   refine c_region ?_
   refine s_val hF (r_move hF rfl rfl) rfl rfl rfl fun a hF=>?_
   refine s_val hF (r_move hF rfl rfl) rfl rfl rfl fun a hF=>?_
   refine s_val hF (r_lenL (hrx1389 _ (hsub _ (dropM hM 3))) Tryz.underlying23 hF rfl rfl) rfl rfl rfl fun a hF=>?_
   obtain ⟨y1391,hy1391,hP⟩:=bind_some hP
   refine s_eff hF rfl rfl rfl (w_call (xs:=[.tmp 65,.tmp 67]) Tryz.call101 hF rfl rfl (trace_writer_two_calls hy1391 hM ) fun v w hR=>?_)
   obtain ⟨s1392,rfl,hM⟩:=hR
   replace hM:MemL _ (pt b_B41_33 (RWriter.enc (RWriter.mk s1392)) 167 :: fowL 5 s1392 y1391.b :: pt b_B41_1 (RRecord.enc (RRecord.mk (RInput.mk s1 s3) s7 x0.end_)) 36 :: Lr):=hM
   intro a hF
   refine c_nil (n_then ?_)
   refine c_region ?_
   refine s_val hF (r_move hF rfl rfl) rfl rfl rfl fun a hF=>?_
   refine s_val hF (r_move hF rfl rfl) rfl rfl rfl fun a hF=>?_
   refine s_val hF (r_nilCheckP hF rfl rfl) rfl rfl rfl fun a hF=>?_
   refine s_val hF (r_fieldAddr (off':=0) Tryz.underlying167 rfl in23 rfl hF rfl rfl rfl) rfl rfl rfl fun a hF=>?_
   refine s_val hF (r_load1 Tryz.isAgg23 hF rfl rfl (hM.cell (i:=0) rfl (RWriter.g_b _))) rfl rfl rfl fun a hF=>?_
   refine s_val hF (r_move hF rfl rfl) rfl rfl rfl fun a hF=>?_
   obtain ⟨x1395,hx1395,hP⟩:=bind_some hP
   refine s_eff hF rfl rfl rfl (w_appY hx1395 Tryz.underlying23 in5 rfl rfl rfl rfl hF rfl rfl rfl (hM.hold 1 _ rfl) (hrx1389 _ (hsub _ (dropM hM 3))) fun s1394 w hUs1394=>?_)
   have hM:=hM.chg hUs1394 (i:=1) rfl
   replace hM:MemL _ (pt b_B41_33 (RWriter.enc (RWriter.mk s1392)) 167 :: fowL 5 s1394 x1395 :: pt b_B41_1 (RRecord.enc (RRecord.mk (RInput.mk s1 s3) s7 x0.end_)) 36 :: Lr):=hM
   intro a hF
   refine s_val hF (r_nilCheckP hF rfl rfl) rfl rfl rfl fun a hF=>?_
   refine s_val hF (r_fieldAddr (off':=0) Tryz.underlying167 rfl in23 rfl hF rfl rfl rfl) rfl rfl rfl fun a hF=>?_
   refine s_eff0 rfl rfl (w_store1 Tryz.sizeOf23 (hM.obj (i:=0) rfl) hF rfl rfl rfl rfl (by rw [RWriter.len]; decide) (RWriter.s_b _ _) fun w hU1396=>?_)
   have hM:=hM.chg hU1396 (i:=0) rfl
   replace hM:MemL _ (pt b_B41_33 (RWriter.enc (RWriter.mk s1394)) 167 :: fowL 5 s1394 x1395 :: pt b_B41_1 (RRecord.enc (RRecord.mk (RInput.mk s1 s3) s7 x0.end_)) 36 :: Lr):=hM
   refine c_nil (n_block (n_then ?_))
   refine c_region ?_
   refine s_val hF (r_add hF rfl rfl rfl) rfl rfl rfl fun a hF=>?_
   refine s_val hF (r_move hF rfl rfl) rfl rfl rfl fun a hF=>?_
   refine c_nil (n_then ?_)
   have hP:=Option.some.inj hP
   subst hP
   exact ⟨((QWriter.mk x1395),(IntKind.i64.wrap (v1378 + 1))),rfl,s1394,hF.to ⟨rfl,rfl,rfl,rfl,rfl,rfl,rfl,trivial⟩,hM⟩
  have hP:=Fx.cF hb1380 hP
  refine c_exit (x_then (x_then (x_hit ?_)))
  refine n_then ?_
  have hP:=Option.some.inj hP
  subst hP
  have hP:=hK_l4 _ rfl
  subst hP
  exact ⟨v1375,rfl,s1376,hF.to ⟨rfl,rfl,rfl,rfl,trivial⟩,hM⟩
 rintro v1332 a w hP ⟨s1333,hF,hM⟩
 replace hP:Sh.trace_Encode_j3 x0 v1332 = _:=hP
 unfold Sh.trace_Encode_j3 at hP
 refine n_then ?_
 refine c_seq ?_
 refine c_region ?_
 refine s_val hF (r_move hF rfl rfl) rfl rfl rfl fun a hF=>?_
 refine s_val hF (r_fieldAddr (off':=3) Tryz.underlying36 rfl in34 rfl hF rfl rfl rfl) rfl rfl rfl fun a hF=>?_
 refine s_val hF (r_load1 Tryz.isAgg34 hF rfl rfl (hM.cell (i:=2) rfl (RRecord.g_end_ _))) rfl rfl rfl fun a hF=>?_
 obtain ⟨y1398,hy1398,hP⟩:=bind_some hP
 refine s_eff hF rfl rfl rfl (w_call (xs:=[.tmp 79,.tmp 81]) Tryz.call102 hF rfl rfl (trace_writer_byte_calls hy1398 hM ) fun v w hR=>?_)
 obtain ⟨s1399,rfl,hM⟩:=hR
 replace hM:MemL _ (pt b_B41_33 (RWriter.enc (RWriter.mk s1399)) 167 :: fowL 5 s1399 y1398.b :: pt b_B41_1 (RRecord.enc (RRecord.mk (RInput.mk s1 s3) s7 x0.end_)) 36 :: Lr):=hM
 intro a hF
 refine c_nil (n_then ?_)
 refine c_seq ?_
 refine c_region ?_
 refine s_val hF (r_move hF rfl rfl) rfl rfl rfl fun a hF=>?_
 refine s_val hF (r_fieldAddr (off':=2) Tryz.underlying36 rfl in33 rfl hF rfl rfl rfl) rfl rfl rfl fun a hF=>?_
 refine s_val hF (r_load1 Tryz.isAgg33 hF rfl rfl (hM.cell (i:=2) rfl (RRecord.g_marks _))) rfl rfl rfl fun a hF=>?_
 refine s_val hF (r_lenD (f9 _ (hsub _ (dropM hM 3))) q10.len Tryz.underlying33 hF rfl rfl) rfl rfl rfl fun a hF=>?_
 obtain ⟨y1402,hy1402,hP⟩:=bind_some hP
 refine s_eff hF rfl rfl rfl (w_call (xs:=[.tmp 83,.tmp 86]) Tryz.call103 hF rfl rfl (trace_writer_four_calls hy1402 hM ) fun v w hR=>?_)
 obtain ⟨s1403,rfl,hM⟩:=hR
 replace hM:MemL _ (pt b_B41_33 (RWriter.enc (RWriter.mk s1403)) 167 :: fowL 5 s1403 y1402.b :: pt b_B41_1 (RRecord.enc (RRecord.mk (RInput.mk s1 s3) s7 x0.end_)) 36 :: Lr):=hM
 intro a hF
 refine c_nil (n_then ?_)
 refine c_seq ?_
 refine c_joinX hF hM hP (fun F x a w=>match x with | v1637=>∃ (s1638:SV),Fr 115 [(2,(SV.nil).v),(3,.int .i64 0),(6,.pointer (some ⟨b_B41_33,0,none⟩))] a ∧ MemL w (pt b_B41_33 (RWriter.enc (RWriter.mk s1638)) 167 :: fowL 5 s1638 v1637.b :: Lr)) (fun o_j5 hP hK_j5 hF hM=>?_) ?_
 ·refine c_seq ?_
  refine c_region ?_
  refine s_val hF (r_fieldAddr (off':=2) Tryz.underlying36 rfl in33 rfl hF rfl rfl rfl) rfl rfl rfl fun a hF=>?_
  refine s_val hF (r_load1 Tryz.isAgg33 hF rfl rfl (hM.cell (i:=2) rfl (RRecord.g_marks _))) rfl rfl rfl fun a hF=>?_
  refine s_val hF (r_lenD (f9 _ (hsub _ (dropM hM 3))) q10.len Tryz.underlying33 hF rfl rfl) rfl rfl rfl fun a hF=>?_
  refine s_val hF (r_move hF rfl rfl) rfl rfl rfl fun a hF=>?_
  refine c_nil (n_then ?_)
  refine c_block ?_
  refine c_loopX hF hM hP (fun F x a w=>match x with | (v1716,v1719)=>∃ (s1717:SV),Fr 115 [(91,.int .i64 v1719),(2,(SV.nil).v),(3,.int .i64 0),(6,.pointer (some ⟨b_B41_33,0,none⟩)),(89,(s7).v),(90,.int .i64 (x0.marks.length:Int))] a ∧ MemL w (pt b_B41_33 (RWriter.enc (RWriter.mk s1717)) 167 :: fowL 5 s1717 v1716.b :: Lr)) (fun hF hM=>⟨s1403,hF.to ⟨rfl,rfl,rfl,rfl,rfl,rfl,trivial⟩,selM hM [0,1] 3 rfl⟩) ?_
  rintro ⟨v1716,v1719⟩ a w o_l6 hP hK_l6 ⟨s1717,hF,hM⟩
  replace hP:Sh.trace_Encode_l6 x0 v1716 v1719 = _:=hP
  unfold Sh.trace_Encode_l6 at hP
  refine c_seq ?_
  refine c_region ?_
  refine s_val hF (r_lss hF rfl rfl rfl) rfl rfl rfl fun a hF=>?_
  refine c_nil (n_then ?_)
  refine c_seq ?_
  refine c_cond hF (c:=.tmp 92) rfl (fun hb1721=>?_) (fun hb1721=>?_)
  ·have hP:=Fx.cT hb1721 hP
   refine c_skip (n_then ?_)
   refine c_seq ?_
   refine c_block ?_
   refine c_seq ?_
   refine c_region ?_
   obtain ⟨x1739,hx1739,hP⟩:=bind_some hP
   have h0x1739:=get_some hx1739
   obtain ⟨yx1739,hgx1739,hrx1739⟩:=Each.getr q10 h0x1739.2
   have hdx1739:=Each.bd q10 (get_bd hx1739)
   obtain ⟨s1740,s1742,s1744,hs1745,s1748,rfl,f1741,f1743,f1746,q1747,f1749⟩:=hrx1739
   refine s_val hF (r_indexZ (sz:=7) (f9 _ (hsub _ (dropM hM 2))) Tryz.underlying33 in60 rfl hF rfl rfl rfl hdx1739) rfl rfl rfl fun a hF=>?_
   refine s_val hF (r_loadn Tryz.isAgg60 Tryz.sizeOf60 hF rfl rfl (RMark.len _) (((f9 _ (hsub _ (dropM hM 2))).elemS hgx1739))) rfl rfl rfl fun a hF=>?_
   refine s_eff hF rfl rfl rfl (w_alloc z60 (zs:=RMark.zero.enc) rfl rfl fun b_B41_10 w hzB41_10 hAB41_10=>?_)
   have hM:=hM.plus hAB41_10
   replace hM:MemL _ (pt b_B41_10 (RMark.enc (RMark.mk 0 0 false SV.nil SV.nil SV.nil SV.nil)) 60 :: pt b_B41_33 (RWriter.enc (RWriter.mk s1717)) 167 :: fowL 5 s1717 v1716.b :: Lr):=hM
   intro a hF
   refine s_eff0 rfl rfl (w_storen (vs:=_) Tryz.sizeOf60 (hM.obj (i:=0) rfl) hF rfl rfl rfl rfl (RMark.len _) (RMark.one _) (by first | (rw [RMark.len,RMark.len]; decide) | (rw [RMark.len]; decide)) (put_all ((RMark.len _).trans (RMark.len _).symm)) fun w hU1750=>?_)
   have hM:=hM.chg hU1750 (i:=0) rfl
   replace hM:MemL _ (pt b_B41_10 (RMark.enc (RMark.mk x1739.at_ x1739.next x1739.done s1740 s1742 s1744 s1748)) 60 :: pt b_B41_33 (RWriter.enc (RWriter.mk s1717)) 167 :: fowL 5 s1717 v1716.b :: Lr):=hM
   refine c_nil (n_then ?_)
   refine c_seq ?_
   refine c_region ?_
   refine s_val hF (r_move hF rfl rfl) rfl rfl rfl fun a hF=>?_
   refine s_val hF (r_loadn Tryz.isAgg60 Tryz.sizeOf60 hF rfl rfl (RMark.len _) (hM.cells (i:=0) rfl (cut_all (RMark.len _)))) rfl rfl rfl fun a hF=>?_
   obtain ⟨y1752,hy1752,hP⟩:=bind_some hP
   refine s_eff hF rfl rfl rfl (w_call (xs:=[.tmp 95,.tmp 96]) Tryz.call104 hF rfl rfl (trace_writer_mark_calls hy1752 (selM hM [1,2,0] 3 rfl) (Bf:=Bf) (fun w hM=>hsub _ (dropM hM 1)) f1741 f1743 f1746 q1747 f1749) fun v w hR=>?_)
   obtain ⟨s1753,rfl,hM⟩:=hR
   replace hM:MemL _ (pt b_B41_33 (RWriter.enc (RWriter.mk s1753)) 167 :: fowL 5 s1753 y1752.b :: pt b_B41_10 (RMark.enc (RMark.mk x1739.at_ x1739.next x1739.done s1740 s1742 s1744 s1748)) 60 :: Lr):=hM
   intro a hF
   refine c_nil (n_then ?_)
   refine c_seq ?_
   refine c_region ?_
   refine s_val hF (r_move hF rfl rfl) rfl rfl rfl fun a hF=>?_
   refine s_val hF (r_nilCheckP hF rfl rfl) rfl rfl rfl fun a hF=>?_
   refine s_val hF (r_fieldAddr (off':=0) Tryz.underlying167 rfl in23 rfl hF rfl rfl rfl) rfl rfl rfl fun a hF=>?_
   refine s_val hF (r_load1 Tryz.isAgg23 hF rfl rfl (hM.cell (i:=0) rfl (RWriter.g_b _))) rfl rfl rfl fun a hF=>?_
   refine s_val hF (r_lenL (fow_sl (hM.hold 1 _ rfl)) Tryz.underlying23 hF rfl rfl) rfl rfl rfl fun a hF=>?_
   refine s_val hF (r_gtr hF rfl rfl rfl) rfl rfl rfl fun a hF=>?_
   refine c_nil (n_then ?_)
   refine c_cond hF (c:=.tmp 103) rfl (fun hb1755=>?_) (fun hb1755=>?_)
   ·have hP:=Fx.cT hb1755 hP
    refine c_exit (x_miss rfl (x_then (x_then (x_hit ?_))))
    refine n_then ?_
    have hP:=Option.some.inj hP
    subst hP
    have hP:=hK_l6 _ rfl
    subst hP
    exact ⟨y1752,rfl,s1753,hF.to ⟨rfl,rfl,rfl,trivial⟩,selM hM [0,1] 3 rfl⟩
   have hP:=Fx.cF hb1755 hP
   refine c_skip (n_block (n_then ?_))
   refine c_region ?_
   refine s_val hF (r_add hF rfl rfl rfl) rfl rfl rfl fun a hF=>?_
   refine s_val hF (r_move hF rfl rfl) rfl rfl rfl fun a hF=>?_
   refine c_nil (n_then ?_)
   have hP:=Option.some.inj hP
   subst hP
   exact ⟨(y1752,(IntKind.i64.wrap (v1719 + 1))),rfl,s1753,hF.to ⟨rfl,rfl,rfl,rfl,rfl,rfl,trivial⟩,selM hM [0,1] 3 rfl⟩
  have hP:=Fx.cF hb1721 hP
  refine c_exit (x_then (x_then (x_hit ?_)))
  refine n_then ?_
  have hP:=Option.some.inj hP
  subst hP
  have hP:=hK_l6 _ rfl
  subst hP
  exact ⟨v1716,rfl,s1717,hF.to ⟨rfl,rfl,rfl,trivial⟩,hM⟩
 rintro v1637 a w hP ⟨s1638,hF,hM⟩
 replace hP:Sh.trace_Encode_j5 v1637 = _:=hP
 unfold Sh.trace_Encode_j5 at hP
 refine n_then ?_
 refine c_seq ?_
 refine c_seq ?_
 refine c_region ?_
 refine s_val hF (r_move hF rfl rfl) rfl rfl rfl fun a hF=>?_
 refine s_val hF (r_nilCheckP hF rfl rfl) rfl rfl rfl fun a hF=>?_
 refine s_val hF (r_fieldAddr (off':=0) Tryz.underlying167 rfl in23 rfl hF rfl rfl rfl) rfl rfl rfl fun a hF=>?_
 refine s_val hF (r_load1 Tryz.isAgg23 hF rfl rfl (hM.cell (i:=0) rfl (RWriter.g_b _))) rfl rfl rfl fun a hF=>?_
 refine s_val hF (r_lenL (fow_sl (hM.hold 1 _ rfl)) Tryz.underlying23 hF rfl rfl) rfl rfl rfl fun a hF=>?_
 refine s_val hF (r_gtr hF rfl rfl rfl) rfl rfl rfl fun a hF=>?_
 refine c_nil (n_then ?_)
 refine c_cond hF (c:=.tmp 110) rfl (fun hb1757=>?_) (fun hb1757=>?_)
 ·have hP:=Fx.cT hb1757 hP
  refine c_seq ?_
  refine c_region ?_
  refine s_val hF (r_assign hF rfl rfl) rfl rfl rfl fun a hF=>?_
  refine s_val hF (r_assign hF rfl rfl) rfl rfl rfl fun a hF=>?_
  refine c_nil (n_then ?_)
  refine c_ret ?_
  have hM:=hM.rowNil (X:=UInt8) 0 5
  have hM:=rowFow hM (i:=0) rfl
  have hP:=Option.some.inj hP
  subst hP
  refine e_ret (rs:=[.tmp 2,.tmp 3]) Tryz.results41 hF (res_tmp hF rfl (res_tmp hF rfl res_nil)) rfl ?_
  exact ⟨SV.nil,rfl,selM hM [0] 3 rfl⟩
 have hP:=Fx.cF hb1757 hP
 refine c_skip (n_then ?_)
 refine c_seq ?_
 refine c_region ?_
 refine s_val hF (r_move hF rfl rfl) rfl rfl rfl fun a hF=>?_
 refine s_val hF (r_nilCheckP hF rfl rfl) rfl rfl rfl fun a hF=>?_
 refine s_val hF (r_fieldAddr (off':=0) Tryz.underlying167 rfl in23 rfl hF rfl rfl rfl) rfl rfl rfl fun a hF=>?_
 refine s_val hF (r_load1 Tryz.isAgg23 hF rfl rfl (hM.cell (i:=0) rfl (RWriter.g_b _))) rfl rfl rfl fun a hF=>?_
 refine s_val hF (r_assign hF rfl rfl) rfl rfl rfl fun a hF=>?_
 refine s_val hF (r_assign hF rfl rfl) rfl rfl rfl fun a hF=>?_
 refine c_nil (n_then ?_)
 refine c_ret ?_
 have hP:=Option.some.inj hP
 subst hP
 refine e_ret (rs:=[.tmp 2,.tmp 3]) Tryz.results41 hF (res_tmp hF rfl (res_tmp hF rfl res_nil)) rfl ?_
 exact ⟨s1638,rfl,selM hM [1] 2 rfl⟩
end Go.Proofs
end
section
namespace Go.Ev
set_option linter.unusedVariables false
set_option linter.unusedSimpArgs false
open Go.Fw Go.Proofs
set_option maxRecDepth 1000000
theorem known_ev:okT (acall (tabOf Tryz.prog) 1000 40 [] (.f 22 [] []) [] { h:=.e,nx:=0 }) = true:=by kernel_rfl
end Go.Ev
end
section
namespace Go.Proofs
open Go.Fw Go.Fx
theorem law23_known_calls {out:Bool} {w0:World} {Lr:List Res} (hP:Sh.law23_known = some out) (hM:MemL w0 Lr):Calls Tryz.prog 22 #[] w0 (Ret fun v w'=>v = .bool out ∧ MemL w' Lr):=by
  cases hP
  refine Calls.mono (Go.Ev.closed_true (fuel:=1000) (k:=40) (by kernel_rfl) Go.Ev.known_ev w0) fun e w' he=>?_
  cases e <;> first
    | exact ⟨he.1,hM.keep he.2⟩
    | exact he
end Go.Proofs
end
