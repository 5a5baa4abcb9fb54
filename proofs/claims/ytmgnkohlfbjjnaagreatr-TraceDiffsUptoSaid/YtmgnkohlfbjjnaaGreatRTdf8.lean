/- Ground for this claim: The call of TraceDiffs returns true. Condition: the arguments are of bulk at most 1048576. -/
import Derived.Test.YtmgnkohlfbjjnaaGreatRTdf7
section
namespace Go.Proofs
open Go.Fw Go.Fx
set_option maxRecDepth 10000
set_option linter.unusedVariables false
set_option linter.unusedSimpArgs false
set_option maxHeartbeats 4000000 in
theorem trace_Diff_calls {x0 : QState} {x1 : QState} {s1 : SV} {s3 : SV} {hs4 : List SV} {s7 : SV} {s9 : SV} {s11 : SV} {hs12 : List SV} {s15 : SV} {out : (QMark × Int)} {w0 : World} {Bf : World → Prop} {Lr : List Res} (hP : Sh.trace_Diff x0 x1 = some out) (hM : MemL w0 (Lr)) (hsub : ∀ w, MemL w Lr → Bf w) (f2 : LIn Bf s1 x0.ctx) (f5 : LIn Bf s3 hs4) (q6 : Each (LIn (X := UInt8) Bf) hs4 x0.tables) (f8 : LIn Bf s7 x0.sent) (f10 : LIn Bf s9 x1.ctx) (f13 : LIn Bf s11 hs12) (q14 : Each (LIn (X := UInt8) Bf) hs12 x1.tables) (f16 : LIn Bf s15 x1.sent) : Calls Tryz.prog 31 #[.agg (RState.enc (RState.mk x0.regs x0.stack s1 s3 s7 x0.at_ x0.steps x0.done)).toArray, .agg (RState.enc (RState.mk x1.regs x1.stack s9 s11 s15 x1.at_ x1.steps x1.done)).toArray] w0 (Ret fun v w' => ∃ (s870 : SV) (s872 : SV) (s874 : SV) (hs875 : List RPiece) (r877 : Res) (s879 : SV), v = .tuple #[.agg (RMark.enc (RMark.mk out.1.at_ out.1.next out.1.done s870 s872 s874 s879)).toArray, .int .i64 out.2] ∧ Each (QPieceIn r877.holds') hs875 out.1.pieces ∧ MemL w' (rowL 0 s870 128 out.1.regs :: rowL 0 s872 151 out.1.slots :: rowL 0 s874 156 hs875 :: r877 :: rowL 0 s879 3 out.1.sent :: Lr)) := by
  unfold Sh.trace_Diff at hP
  refine calls_enter (vs := [.agg (RState.enc (RState.mk x0.regs x0.stack s1 s3 s7 x0.at_ x0.steps x0.done)).toArray, .agg (RState.enc (RState.mk x1.regs x1.stack s9 s11 s15 x1.at_ x1.steps x1.done)).toArray]) Tryz.func31 rfl Tryz.ntmps31 rfl fun a hF => ?_
  refine c_seq ?_
  refine c_region ?_
  refine s_eff hF rfl rfl rfl (w_box hF rfl rfl rfl fun b_B31_2 w hzB31_2 hAB31_2 => ?_)
  have hM := hM.plus hAB31_2
  replace hM : MemL _ (pt b_B31_2 (RState.enc (RState.mk x0.regs x0.stack s1 s3 s7 x0.at_ x0.steps x0.done)) 54 :: Lr) := hM
  intro a hF
  refine s_eff hF rfl rfl rfl (w_box hF rfl rfl rfl fun b_B31_3 w hzB31_3 hAB31_3 => ?_)
  have hM := hM.plus hAB31_3
  replace hM : MemL _ (pt b_B31_3 (RState.enc (RState.mk x1.regs x1.stack s9 s11 s15 x1.at_ x1.steps x1.done)) 54 :: pt b_B31_2 (RState.enc (RState.mk x0.regs x0.stack s1 s3 s7 x0.at_ x0.steps x0.done)) 54 :: Lr) := hM
  intro a hF
  refine s_eff hF rfl rfl rfl (w_alloc z60 (zs := RMark.zero.enc) rfl rfl fun b_B31_4 w hzB31_4 hAB31_4 => ?_)
  have hM := hM.plus hAB31_4
  replace hM : MemL _ (pt b_B31_4 (RMark.enc (RMark.mk 0 0 false SV.nil SV.nil SV.nil SV.nil)) 60 :: pt b_B31_3 (RState.enc (RState.mk x1.regs x1.stack s9 s11 s15 x1.at_ x1.steps x1.done)) 54 :: pt b_B31_2 (RState.enc (RState.mk x0.regs x0.stack s1 s3 s7 x0.at_ x0.steps x0.done)) 54 :: Lr) := hM
  intro a hF
  refine s_val hF (r_assign hF rfl rfl) rfl rfl rfl fun a hF => ?_
  refine c_nil (n_then ?_)
  refine c_seq ?_
  refine c_block ?_
  refine c_seq ?_
  refine c_joinX hF hM hP (fun F x a w => match x with | v913 => Fr 127 [(12, .bool v913), (2, .pointer (some ⟨b_B31_2, 0, none⟩)), (3, .pointer (some ⟨b_B31_3, 0, none⟩)), (4, .pointer (some ⟨b_B31_4, 0, none⟩)), (5, .int .i64 0)] a ∧ MemL w (pt b_B31_4 (RMark.enc (RMark.mk 0 0 false SV.nil SV.nil SV.nil SV.nil)) 60 :: pt b_B31_3 (RState.enc (RState.mk x1.regs x1.stack s9 s11 s15 x1.at_ x1.steps x1.done)) 54 :: pt b_B31_2 (RState.enc (RState.mk x0.regs x0.stack s1 s3 s7 x0.at_ x0.steps x0.done)) 54 :: Lr)) (fun o_j1 hP hK_j1 hF hM => ?_) ?_
  · refine c_region ?_
    refine s_val hF (r_loadn Tryz.isAgg54 Tryz.sizeOf54 hF rfl rfl (RState.len _) (hM.cells (i := 2) rfl (cut_all (RState.len _)))) rfl rfl rfl fun a hF => ?_
    obtain ⟨y915, hy915, hP⟩ := bind_some hP
    refine s_eff hF rfl rfl rfl (w_call (xs := [.tmp 13]) Tryz.call82 hF rfl rfl (trace_plainState_calls hy915 hM (Bf := Bf) (fun w hM => hsub _ (dropM hM 3)) f2 f5 q6 f8) fun v w hR => ?_)
    obtain ⟨rfl, hM⟩ := hR
    replace hM : MemL _ (pt b_B31_4 (RMark.enc (RMark.mk 0 0 false SV.nil SV.nil SV.nil SV.nil)) 60 :: pt b_B31_3 (RState.enc (RState.mk x1.regs x1.stack s9 s11 s15 x1.at_ x1.steps x1.done)) 54 :: pt b_B31_2 (RState.enc (RState.mk x0.regs x0.stack s1 s3 s7 x0.at_ x0.steps x0.done)) 54 :: Lr) := hM
    intro a hF
    refine s_val hF (r_not hF rfl rfl) rfl rfl rfl fun a hF => ?_
    refine s_val hF (r_move hF rfl rfl) rfl rfl rfl fun a hF => ?_
    refine g_split 16 hF rfl (fun hb916 => ?_) (fun hb916 => ?_)
    · have hP := Fx.cT hb916 hP
      refine g_skip hF rfl rfl rfl hb916 rfl rfl fun a hF => ?_
      refine g_skip hF rfl rfl rfl hb916 rfl rfl fun a hF => ?_
      refine g_skip hF rfl rfl rfl hb916 rfl rfl fun a hF => ?_
      refine s_val hF (r_pick1 hF rfl rfl hb916 rfl) rfl rfl rfl fun a hF => ?_
      refine s_val hF (r_assign hF rfl rfl) rfl rfl rfl fun a hF => ?_
      refine c_nil (n_then ?_)
      have hP := Option.some.inj hP
      subst hP
      exact ⟨true, rfl, hF.to ⟨rfl, rfl, rfl, rfl, rfl, trivial⟩, hM⟩
    have hP := Fx.cF hb916 hP
    refine g_val hF rfl rfl rfl hb916 (r_loadn Tryz.isAgg54 Tryz.sizeOf54 hF rfl rfl (RState.len _) (hM.cells (i := 1) rfl (cut_all (RState.len _)))) rfl rfl fun a hF => ?_
    obtain ⟨y918, hy918, hP⟩ := bind_some hP
    refine g_eff hF rfl rfl rfl hb916 rfl rfl (w_call (xs := [.tmp 17]) Tryz.call82 hF rfl rfl (trace_plainState_calls hy918 hM (Bf := Bf) (fun w hM => hsub _ (dropM hM 3)) f10 f13 q14 f16) fun v w hR => ?_)
    obtain ⟨rfl, hM⟩ := hR
    replace hM : MemL _ (pt b_B31_4 (RMark.enc (RMark.mk 0 0 false SV.nil SV.nil SV.nil SV.nil)) 60 :: pt b_B31_3 (RState.enc (RState.mk x1.regs x1.stack s9 s11 s15 x1.at_ x1.steps x1.done)) 54 :: pt b_B31_2 (RState.enc (RState.mk x0.regs x0.stack s1 s3 s7 x0.at_ x0.steps x0.done)) 54 :: Lr) := hM
    intro a hF
    refine g_val hF rfl rfl rfl hb916 (r_not hF rfl rfl) rfl rfl fun a hF => ?_
    refine s_val hF (r_pick0 hF rfl rfl hb916 rfl) rfl rfl rfl fun a hF => ?_
    refine s_val hF (r_assign hF rfl rfl) rfl rfl rfl fun a hF => ?_
    refine c_nil (n_then ?_)
    have hP := Option.some.inj hP
    subst hP
    exact ⟨(!y918), rfl, hF.to ⟨rfl, rfl, rfl, rfl, rfl, trivial⟩, hM⟩
  rintro v913 a w hP ⟨hF, hM⟩
  replace hP : Sh.trace_Diff_j1 x0 x1 v913 = _ := hP
  unfold Sh.trace_Diff_j1 at hP
  refine n_then ?_
  refine c_cond hF (c := .tmp 12) rfl (fun hb919 => ?_) (fun hb919 => ?_)
  · have hP := Fx.cT hb919 hP
    refine c_seq ?_
    refine c_region ?_
    refine s_val hF (r_build z60 Tryz.underlying60 pl60 hF (parts := []) rfl rfl fill_e) rfl rfl rfl fun a hF => ?_
    refine s_eff0 rfl rfl (w_storen (vs := _) Tryz.sizeOf60 (hM.obj (i := 0) rfl) hF rfl rfl rfl rfl (RMark.len _) (RMark.one _) (by first | (rw [RMark.len, RMark.len]; decide) | (rw [RMark.len]; decide)) (put_all ((RMark.len _).trans (RMark.len _).symm)) fun w hU920 => ?_)
    have hM := hM.chg hU920 (i := 0) rfl
    replace hM : MemL _ (pt b_B31_4 (RMark.enc (RMark.mk 0 0 false SV.nil SV.nil SV.nil SV.nil)) 60 :: pt b_B31_3 (RState.enc (RState.mk x1.regs x1.stack s9 s11 s15 x1.at_ x1.steps x1.done)) 54 :: pt b_B31_2 (RState.enc (RState.mk x0.regs x0.stack s1 s3 s7 x0.at_ x0.steps x0.done)) 54 :: Lr) := hM
    refine s_val hF (r_assign hF rfl rfl) rfl rfl rfl fun a hF => ?_
    refine c_nil (n_then ?_)
    refine c_ret ?_
    have hM := hM.rowNil (X := LTurn) 0 128
    have hM := hM.rowNil (X := LCell) 0 151
    obtain ⟨r924, hM⟩ := voidM hM
    have q925 : Each (QPieceIn r924.holds') ([] : List RPiece) ([] : List QPiece) := Each.nil
    have hM := hM.rowNil (X := RPiece) 0 156
    have hM := hM.rowNil (X := Int) 0 3
    have hP := Option.some.inj hP
    subst hP
    refine e_ret (rs := [.cell 4 60, .tmp 5]) Tryz.results31 hF (res_celln hF rfl Tryz.isAgg60 Tryz.sizeOf60 (RMark.len _) (hM.cells (i := 5) rfl (cut_all (RMark.len _))) (res_tmp hF rfl res_nil)) rfl ?_
    exact ⟨SV.nil, SV.nil, SV.nil, [], r924, SV.nil, rfl, q925, selM hM [4, 3, 1, 2, 0] 8 rfl⟩
  have hP := Fx.cF hb919 hP
  refine c_seq ?_
  refine c_region ?_
  refine s_val hF (r_loadn Tryz.isAgg54 Tryz.sizeOf54 hF rfl rfl (RState.len _) (hM.cells (i := 2) rfl (cut_all (RState.len _)))) rfl rfl rfl fun a hF => ?_
  refine s_val hF (r_loadn Tryz.isAgg54 Tryz.sizeOf54 hF rfl rfl (RState.len _) (hM.cells (i := 1) rfl (cut_all (RState.len _)))) rfl rfl rfl fun a hF => ?_
  obtain ⟨y928, hy928, hP⟩ := bind_some hP
  refine s_eff hF rfl rfl rfl (w_call (xs := [.tmp 23, .tmp 24]) Tryz.call83 hF rfl rfl (trace_behind_calls hy928 hM (Bf := Bf) (fun w hM => hsub _ (dropM hM 3)) f2 f5 q6 f8 f10 f13 q14 f16) fun v w hR => ?_)
  obtain ⟨rfl, hM⟩ := hR
  replace hM : MemL _ (pt b_B31_4 (RMark.enc (RMark.mk 0 0 false SV.nil SV.nil SV.nil SV.nil)) 60 :: pt b_B31_3 (RState.enc (RState.mk x1.regs x1.stack s9 s11 s15 x1.at_ x1.steps x1.done)) 54 :: pt b_B31_2 (RState.enc (RState.mk x0.regs x0.stack s1 s3 s7 x0.at_ x0.steps x0.done)) 54 :: Lr) := hM
  intro a hF
  refine s_val hF (r_not hF rfl rfl) rfl rfl rfl fun a hF => ?_
  refine s_val hF (r_assign hF rfl rfl) rfl rfl rfl fun a hF => ?_
  refine c_nil (n_then ?_)
  refine c_cond hF (c := .tmp 22) rfl (fun hb929 => ?_) (fun hb929 => ?_)
  · have hP := Fx.cT hb929 hP
    refine c_seq ?_
    refine c_region ?_
    refine s_val hF (r_build z60 Tryz.underlying60 pl60 hF (parts := []) rfl rfl fill_e) rfl rfl rfl fun a hF => ?_
    refine s_eff0 rfl rfl (w_storen (vs := _) Tryz.sizeOf60 (hM.obj (i := 0) rfl) hF rfl rfl rfl rfl (RMark.len _) (RMark.one _) (by first | (rw [RMark.len, RMark.len]; decide) | (rw [RMark.len]; decide)) (put_all ((RMark.len _).trans (RMark.len _).symm)) fun w hU930 => ?_)
    have hM := hM.chg hU930 (i := 0) rfl
    replace hM : MemL _ (pt b_B31_4 (RMark.enc (RMark.mk 0 0 false SV.nil SV.nil SV.nil SV.nil)) 60 :: pt b_B31_3 (RState.enc (RState.mk x1.regs x1.stack s9 s11 s15 x1.at_ x1.steps x1.done)) 54 :: pt b_B31_2 (RState.enc (RState.mk x0.regs x0.stack s1 s3 s7 x0.at_ x0.steps x0.done)) 54 :: Lr) := hM
    refine s_val hF (r_assign hF rfl rfl) rfl rfl rfl fun a hF => ?_
    refine c_nil (n_then ?_)
    refine c_ret ?_
    have hM := hM.rowNil (X := LTurn) 0 128
    have hM := hM.rowNil (X := LCell) 0 151
    obtain ⟨r934, hM⟩ := voidM hM
    have q935 : Each (QPieceIn r934.holds') ([] : List RPiece) ([] : List QPiece) := Each.nil
    have hM := hM.rowNil (X := RPiece) 0 156
    have hM := hM.rowNil (X := Int) 0 3
    have hP := Option.some.inj hP
    subst hP
    refine e_ret (rs := [.cell 4 60, .tmp 5]) Tryz.results31 hF (res_celln hF rfl Tryz.isAgg60 Tryz.sizeOf60 (RMark.len _) (hM.cells (i := 5) rfl (cut_all (RMark.len _))) (res_tmp hF rfl res_nil)) rfl ?_
    exact ⟨SV.nil, SV.nil, SV.nil, [], r934, SV.nil, rfl, q935, selM hM [4, 3, 1, 2, 0] 8 rfl⟩
  have hP := Fx.cF hb929 hP
  refine c_skip (n_block (n_then ?_))
  refine c_seq ?_
  refine c_region ?_
  refine s_val hF (r_fieldAddr (off' := 463) Tryz.underlying54 rfl in3 rfl hF rfl rfl rfl) rfl rfl rfl fun a hF => ?_
  refine s_val hF (r_load1 Tryz.isAgg3 hF rfl rfl (hM.cell (i := 2) rfl (RState.g_at_ _))) rfl rfl rfl fun a hF => ?_
  refine s_val hF (r_fieldAddr (off' := 463) Tryz.underlying54 rfl in3 rfl hF rfl rfl rfl) rfl rfl rfl fun a hF => ?_
  refine s_val hF (r_load1 Tryz.isAgg3 hF rfl rfl (hM.cell (i := 1) rfl (RState.g_at_ _))) rfl rfl rfl fun a hF => ?_
  refine s_val hF (r_fieldAddr (off' := 465) Tryz.underlying54 rfl in4 rfl hF rfl rfl rfl) rfl rfl rfl fun a hF => ?_
  refine s_val hF (r_load1 Tryz.isAgg4 hF rfl rfl (hM.cell (i := 1) rfl (RState.g_done _))) rfl rfl rfl fun a hF => ?_
  refine s_val hF (r_build z60 Tryz.underlying60 pl60 hF (parts := [(0, .tmp 29), (1, .tmp 31), (2, .tmp 33)]) rfl rfl (fill_s rfl rfl (by rw [RMark.len]; decide) (RMark.s_at_ _ _) (fill_s rfl rfl (by rw [RMark.len]; decide) (RMark.s_next _ _) (fill_s rfl rfl (by rw [RMark.len]; decide) (RMark.s_done _ _) fill_e)))) rfl rfl rfl fun a hF => ?_
  refine s_eff hF rfl rfl rfl (w_alloc z60 (zs := RMark.zero.enc) rfl rfl fun b_B31_6 w hzB31_6 hAB31_6 => ?_)
  have hM := hM.plus hAB31_6
  replace hM : MemL _ (pt b_B31_6 (RMark.enc (RMark.mk 0 0 false SV.nil SV.nil SV.nil SV.nil)) 60 :: pt b_B31_4 (RMark.enc (RMark.mk 0 0 false SV.nil SV.nil SV.nil SV.nil)) 60 :: pt b_B31_3 (RState.enc (RState.mk x1.regs x1.stack s9 s11 s15 x1.at_ x1.steps x1.done)) 54 :: pt b_B31_2 (RState.enc (RState.mk x0.regs x0.stack s1 s3 s7 x0.at_ x0.steps x0.done)) 54 :: Lr) := hM
  intro a hF
  refine s_eff0 rfl rfl (w_storen (vs := _) Tryz.sizeOf60 (hM.obj (i := 0) rfl) hF rfl rfl rfl rfl (RMark.len _) (RMark.one _) (by first | (rw [RMark.len, RMark.len]; decide) | (rw [RMark.len]; decide)) (put_all ((RMark.len _).trans (RMark.len _).symm)) fun w hU937 => ?_)
  have hM := hM.chg hU937 (i := 0) rfl
  replace hM : MemL _ (pt b_B31_6 (RMark.enc (RMark.mk x0.at_ x1.at_ x1.done SV.nil SV.nil SV.nil SV.nil)) 60 :: pt b_B31_4 (RMark.enc (RMark.mk 0 0 false SV.nil SV.nil SV.nil SV.nil)) 60 :: pt b_B31_3 (RState.enc (RState.mk x1.regs x1.stack s9 s11 s15 x1.at_ x1.steps x1.done)) 54 :: pt b_B31_2 (RState.enc (RState.mk x0.regs x0.stack s1 s3 s7 x0.at_ x0.steps x0.done)) 54 :: Lr) := hM
  refine c_nil (n_then ?_)
  refine c_seq ?_
  refine c_joinX hF hM hP (fun F x a w => match x with | v1060 => ∃ (s1061 : SV), Fr 127 [(2, .pointer (some ⟨b_B31_2, 0, none⟩)), (3, .pointer (some ⟨b_B31_3, 0, none⟩)), (4, .pointer (some ⟨b_B31_4, 0, none⟩)), (5, .int .i64 0), (6, .pointer (some ⟨b_B31_6, 0, none⟩))] a ∧ MemL w (pt b_B31_6 (RMark.enc (RMark.mk x0.at_ x1.at_ x1.done s1061 SV.nil SV.nil SV.nil)) 60 :: rowL 0 s1061 128 v1060 :: pt b_B31_4 (RMark.enc (RMark.mk 0 0 false SV.nil SV.nil SV.nil SV.nil)) 60 :: pt b_B31_3 (RState.enc (RState.mk x1.regs x1.stack s9 s11 s15 x1.at_ x1.steps x1.done)) 54 :: pt b_B31_2 (RState.enc (RState.mk x0.regs x0.stack s1 s3 s7 x0.at_ x0.steps x0.done)) 54 :: Lr)) (fun o_j2 hP hK_j2 hF hM => ?_) ?_
  · refine c_seq ?_
    refine d_startT mixed (by kernel_rfl) hM [0, 1, 2, 3] 4 rfl fun hch => ?_
    refine d_val hF hch 0 rfl (by kernel_rfl) rfl rfl rfl (fun w hM => (r_fieldAddr (off' := 0) Tryz.underlying54 rfl in47 rfl hF rfl rfl rfl)) fun a hF => ?_
    refine d_val hF hch 1 rfl (by kernel_rfl) rfl rfl rfl (fun w hM => (r_sliceArr Tryz.underlying47 in46 rfl hF rfl rfl)) fun a hF => ?_
    refine d_val hF hch 2 rfl (by kernel_rfl) rfl rfl rfl (fun w hM => (r_fieldAddr (off' := 0) Tryz.underlying54 rfl in47 rfl hF rfl rfl rfl)) fun a hF => ?_
    refine d_val hF hch 3 rfl (by kernel_rfl) rfl rfl rfl (fun w hM => (r_sliceArr Tryz.underlying47 in46 rfl hF rfl rfl)) fun a hF => ?_
    refine d_val hF hch 6 rfl (by kernel_rfl) rfl rfl rfl (fun w hM => (r_move hF rfl rfl)) fun a hF => ?_
    refine d_one hch 4 (by kernel_rfl) rfl rfl ?_
    refine d_ex hF 4 rfl rfl rfl rfl rfl fun w hMs hM => ?_
    obtain ⟨y1068, hy1068, hP⟩ := bind_some hP
    refine (w_call (xs := [.tmp 36, .tmp 38]) Tryz.call84 hF rfl rfl (trace_changed_api_Value_calls hy1068 hM (fun _ h => h) (fun w hM => (SliceOf.ofArr (lo := 0) (hM.cells (i := 3) rfl (RState.c_regs _)) (Nat.zero_le _) (Vec.len _))) (fun w hM => (SliceOf.ofArr (lo := 0) (hM.cells (i := 2) rfl (RState.c_regs _)) (Nat.zero_le _) (Vec.len _)))) fun v w hR => ?_)
    obtain ⟨s1069, rfl, hM⟩ := hR
    replace hM : MemL _ (rowL 0 s1069 3 y1068 :: pt b_B31_6 (RMark.enc (RMark.mk x0.at_ x1.at_ x1.done SV.nil SV.nil SV.nil SV.nil)) 60 :: pt b_B31_4 (RMark.enc (RMark.mk 0 0 false SV.nil SV.nil SV.nil SV.nil)) 60 :: pt b_B31_3 (RState.enc (RState.mk x1.regs x1.stack s9 s11 s15 x1.at_ x1.steps x1.done)) 54 :: pt b_B31_2 (RState.enc (RState.mk x0.regs x0.stack s1 s3 s7 x0.at_ x0.steps x0.done)) 54 :: Lr) := hM
    have hMs := selM hM [0, 1, 2, 3, 4] 5 rfl
    refine ⟨_, _, hMs, hM, .inl fun _ h => dropM h 1, fun a hF => ?_⟩
    refine d_val hF hch 5 rfl (by kernel_rfl) rfl rfl rfl (fun w hM => (r_lenL (hM.rowS (X := Int) (i := 0) rfl) Tryz.underlying52 hF rfl rfl)) fun a hF => ?_
    refine d_end hch (by kernel_rfl) fun w hM => ?_
    refine n_then ?_
    refine c_block ?_
    have hM := hM.rowNil (X := LTurn) 0 128
    refine c_loopX hF hM hP (fun F x a w => match x with | (v1105, v1108) => ∃ (s1106 : SV), Fr 127 [(41, .int .i64 v1108), (2, .pointer (some ⟨b_B31_2, 0, none⟩)), (3, .pointer (some ⟨b_B31_3, 0, none⟩)), (39, (s1069).v), (4, .pointer (some ⟨b_B31_4, 0, none⟩)), (40, .int .i64 (y1068.length : Int)), (5, .int .i64 0), (6, .pointer (some ⟨b_B31_6, 0, none⟩))] a ∧ MemL w (pt b_B31_6 (RMark.enc (RMark.mk x0.at_ x1.at_ x1.done s1106 SV.nil SV.nil SV.nil)) 60 :: rowL 0 s1106 128 v1105 :: pt b_B31_4 (RMark.enc (RMark.mk 0 0 false SV.nil SV.nil SV.nil SV.nil)) 60 :: pt b_B31_3 (RState.enc (RState.mk x1.regs x1.stack s9 s11 s15 x1.at_ x1.steps x1.done)) 54 :: pt b_B31_2 (RState.enc (RState.mk x0.regs x0.stack s1 s3 s7 x0.at_ x0.steps x0.done)) 54 :: rowL 0 s1069 3 y1068 :: Lr)) (fun hF hM => ⟨SV.nil, hF.to ⟨rfl, rfl, rfl, rfl, rfl, rfl, rfl, rfl, trivial⟩, selM hM [2, 0, 3, 4, 5, 1] 6 rfl⟩) ?_
    rintro ⟨v1105, v1108⟩ a w o_l3 hP hK_l3 ⟨s1106, hF, hM⟩
    replace hP : Sh.trace_Diff_l3 x0 x1 y1068 v1105 v1108 = _ := hP
    unfold Sh.trace_Diff_l3 at hP
    refine c_seq ?_
    refine c_region ?_
    refine s_val hF (r_lss hF rfl rfl rfl) rfl rfl rfl fun a hF => ?_
    refine c_nil (n_then ?_)
    refine c_seq ?_
    refine c_cond hF (c := .tmp 42) rfl (fun hb1111 => ?_) (fun hb1111 => ?_)
    · have hP := Fx.cT hb1111 hP
      refine c_skip (n_then ?_)
      refine c_seq ?_
      refine c_block ?_
      refine c_seq ?_
      refine c_region ?_
      obtain ⟨x1118, hx1118, hP⟩ := bind_some hP
      have h0x1118 := get_some hx1118
      refine s_val hF (r_indexZ (sz := 1) (hM.rowS (X := Int) (i := 5) rfl) Tryz.underlying52 in3 rfl hF rfl rfl rfl (get_bd hx1118)) rfl rfl rfl fun a hF => ?_
      refine s_val hF (r_load1 Tryz.isAgg3 hF rfl rfl ((((hM.rowS (X := Int) (i := 5) rfl).elemS h0x1118.2)).get 0 rfl)) rfl rfl rfl fun a hF => ?_
      refine s_val hF (r_assign hF rfl rfl) rfl rfl rfl fun a hF => ?_
      refine c_nil (n_then ?_)
      refine d_startT mixed (by kernel_rfl) hM [0, 1, 2, 3, 4, 5] 6 rfl fun hch => ?_
      refine d_val hF hch 0 rfl (by kernel_rfl) rfl rfl rfl (fun w hM => (r_fieldAddr (off' := 3) Tryz.underlying60 rfl in56 rfl hF rfl rfl rfl)) fun a hF => ?_
      refine d_val hF hch 1 rfl (by kernel_rfl) rfl rfl rfl (fun w hM => (r_load1 Tryz.isAgg56 hF rfl rfl (hM.cell (i := 0) rfl (RMark.g_regs _)))) fun a hF => ?_
      refine d_val hF hch 2 rfl (by kernel_rfl) rfl rfl rfl (fun w hM => (r_move hF rfl rfl)) fun a hF => ?_
      refine d_val hF hch 3 rfl (by kernel_rfl) rfl rfl rfl (fun w hM => (r_move hF rfl rfl)) fun a hF => ?_
      refine d_val hF hch 4 rfl (by kernel_rfl) rfl rfl rfl (fun w hM => (r_fieldAddr (off' := 0) Tryz.underlying54 rfl in47 rfl hF rfl rfl rfl)) fun a hF => ?_
      obtain ⟨x1119, hx1119, hP⟩ := bind_some hP
      have h0x1119 := get_some hx1119
      refine d_val hF hch 5 rfl (by kernel_rfl) rfl rfl rfl (fun w hM => (r_indexAddrA (sz := 4) Tryz.underlying47 in46 rfl hF rfl rfl rfl (get_bdv hx1119))) fun a hF => ?_
      refine d_val hF hch 6 rfl (by kernel_rfl) rfl rfl rfl (fun w hM => (r_loadn Tryz.isAgg46 Tryz.sizeOf46 hF rfl rfl (LVal.len _) (hM.cells (i := 4) rfl (RState.ci_regs _ _ _ (get_some hx1119).2)))) fun a hF => ?_
      refine d_val hF hch 7 rfl (by kernel_rfl) rfl rfl rfl (fun w hM => (r_move hF rfl rfl)) fun a hF => ?_
      refine d_val hF hch 8 rfl (by kernel_rfl) rfl rfl rfl (fun w hM => (r_fieldAddr (off' := 0) Tryz.underlying54 rfl in47 rfl hF rfl rfl rfl)) fun a hF => ?_
      obtain ⟨x1120, hx1120, hP⟩ := bind_some hP
      have h0x1120 := get_some hx1120
      refine d_val hF hch 9 rfl (by kernel_rfl) rfl rfl rfl (fun w hM => (r_indexAddrA (sz := 4) Tryz.underlying47 in46 rfl hF rfl rfl rfl (get_bdv hx1120))) fun a hF => ?_
      refine d_val hF hch 10 rfl (by kernel_rfl) rfl rfl rfl (fun w hM => (r_loadn Tryz.isAgg46 Tryz.sizeOf46 hF rfl rfl (LVal.len _) (hM.cells (i := 3) rfl (RState.ci_regs _ _ _ (get_some hx1120).2)))) fun a hF => ?_
      refine d_val hF hch 11 rfl (by kernel_rfl) rfl rfl rfl (fun w hM => (r_build z128 Tryz.underlying128 pl128 hF (parts := [(0, .tmp 47), (1, .tmp 51), (2, .tmp 55)]) rfl rfl (fill_s rfl rfl (by rw [LTurn.len]; decide) (LTurn.s_reg _ _) (fill_p rfl (LVal.len _) (by rw [LVal.len, LTurn.len]; decide) (LTurn.p_old _ _) (fill_p rfl (LVal.len _) (by rw [LVal.len, LTurn.len]; decide) (LTurn.p_new _ _) fill_e))))) fun a hF => ?_
      refine d_one hch 12 (by kernel_rfl) rfl rfl ?_
      refine d_ex hF 12 rfl rfl rfl rfl rfl fun w hMs hM => ?_
      refine (w_slice1 (X := LTurn) (y := (LTurn.mk x1118 x1119 x1120)) Tryz.underlying56 in128 rfl rfl rfl rfl hF rfl rfl rfl fun b_B31_57 w hzB31_57 hAB31_57 => ?_)
      have hM := hM.plus hAB31_57
      replace hM : MemL _ (pt b_B31_57 (encs ([(LTurn.mk x1118 x1119 x1120)] : List LTurn)) 128 :: pt b_B31_6 (RMark.enc (RMark.mk x0.at_ x1.at_ x1.done s1106 SV.nil SV.nil SV.nil)) 60 :: rowL 0 s1106 128 v1105 :: pt b_B31_4 (RMark.enc (RMark.mk 0 0 false SV.nil SV.nil SV.nil SV.nil)) 60 :: pt b_B31_3 (RState.enc (RState.mk x1.regs x1.stack s9 s11 s15 x1.at_ x1.steps x1.done)) 54 :: pt b_B31_2 (RState.enc (RState.mk x0.regs x0.stack s1 s3 s7 x0.at_ x0.steps x0.done)) 54 :: rowL 0 s1069 3 y1068 :: Lr) := hM
      have hMs := selM hM [0, 1, 2, 3, 4, 5, 6] 7 rfl
      refine ⟨_, _, hMs, hM, .inl fun _ h => dropM h 1, fun a hF => ?_⟩
      refine d_one hch 13 (by kernel_rfl) rfl rfl ?_
      refine d_ex hF 13 rfl rfl rfl rfl rfl fun w hMs hM => ?_
      obtain ⟨x1122, hx1122, hP⟩ := bind_some hP
      refine (w_appX (X := LTurn) hx1122 Tryz.underlying56 in128 rfl rfl rfl rfl hF rfl rfl rfl (hM.own (X := LTurn) (i := 2) rfl) (hM.ptS (X := LTurn) (i := 0) (n := 1) (c := 1) rfl rfl rfl (Nat.le_refl _)) fun s1121 w hUs1121 => ?_)
      have hM := hM.chg hUs1121 (i := 2) rfl
      replace hM : MemL _ (pt b_B31_57 (encs ([(LTurn.mk x1118 x1119 x1120)] : List LTurn)) 128 :: pt b_B31_6 (RMark.enc (RMark.mk x0.at_ x1.at_ x1.done s1106 SV.nil SV.nil SV.nil)) 60 :: rowL 0 s1121 128 x1122 :: pt b_B31_4 (RMark.enc (RMark.mk 0 0 false SV.nil SV.nil SV.nil SV.nil)) 60 :: pt b_B31_3 (RState.enc (RState.mk x1.regs x1.stack s9 s11 s15 x1.at_ x1.steps x1.done)) 54 :: pt b_B31_2 (RState.enc (RState.mk x0.regs x0.stack s1 s3 s7 x0.at_ x0.steps x0.done)) 54 :: rowL 0 s1069 3 y1068 :: Lr) := hM
      have hMs := hM
      refine ⟨_, _, hMs, hM, .inr (by kernel_rfl), fun a hF => ?_⟩
      refine d_val hF hch 14 rfl (by kernel_rfl) rfl rfl rfl (fun w hM => (r_fieldAddr (off' := 3) Tryz.underlying60 rfl in56 rfl hF rfl rfl rfl)) fun a hF => ?_
      refine d_one hch 15 (by kernel_rfl) rfl rfl ?_
      refine d_ex0 15 rfl rfl rfl rfl fun w hMs hM => ?_
      refine (w_store1 Tryz.sizeOf56 (hM.obj (i := 1) rfl) hF rfl rfl rfl rfl (by rw [RMark.len]; decide) (RMark.s_regs _ _) fun w hU1123 => ?_)
      have hM := hM.chg hU1123 (i := 1) rfl
      replace hM : MemL _ (pt b_B31_57 (encs ([(LTurn.mk x1118 x1119 x1120)] : List LTurn)) 128 :: pt b_B31_6 (RMark.enc (RMark.mk x0.at_ x1.at_ x1.done s1121 SV.nil SV.nil SV.nil)) 60 :: rowL 0 s1121 128 x1122 :: pt b_B31_4 (RMark.enc (RMark.mk 0 0 false SV.nil SV.nil SV.nil SV.nil)) 60 :: pt b_B31_3 (RState.enc (RState.mk x1.regs x1.stack s9 s11 s15 x1.at_ x1.steps x1.done)) 54 :: pt b_B31_2 (RState.enc (RState.mk x0.regs x0.stack s1 s3 s7 x0.at_ x0.steps x0.done)) 54 :: rowL 0 s1069 3 y1068 :: Lr) := hM
      have hMs := hM
      refine ⟨_, _, hMs, hM, .inr (by kernel_rfl), ?_⟩
      refine d_end hch (by kernel_rfl) fun w hM => ?_
      refine n_block (n_then ?_)
      refine c_region ?_
      refine s_val hF (r_add hF rfl rfl rfl) rfl rfl rfl fun a hF => ?_
      refine s_val hF (r_move hF rfl rfl) rfl rfl rfl fun a hF => ?_
      refine c_nil (n_then ?_)
      have hP := Option.some.inj hP
      subst hP
      exact ⟨(x1122, (IntKind.i64.wrap (v1108 + 1))), rfl, s1121, hF.to ⟨rfl, rfl, rfl, rfl, rfl, rfl, rfl, rfl, trivial⟩, selM hM [1, 2, 3, 4, 5, 6] 7 rfl⟩
    have hP := Fx.cF hb1111 hP
    refine c_exit (x_then (x_then (x_hit ?_)))
    refine n_then ?_
    have hP := Option.some.inj hP
    subst hP
    have hP := hK_l3 _ rfl
    subst hP
    exact ⟨v1105, rfl, s1106, hF.to ⟨rfl, rfl, rfl, rfl, rfl, trivial⟩, selM hM [0, 1, 2, 3, 4] 6 rfl⟩
  rintro v1060 a w hP ⟨s1061, hF, hM⟩
  replace hP : Sh.trace_Diff_j2 x0 x1 v1060 = _ := hP
  unfold Sh.trace_Diff_j2 at hP
  refine n_then ?_
  refine c_seq ?_
  refine c_joinX hF hM hP (fun F x a w => match x with | (v1258, v1261) => ∃ (s1259 : SV) (s1262 : SV), Fr 127 [(2, .pointer (some ⟨b_B31_2, 0, none⟩)), (3, .pointer (some ⟨b_B31_3, 0, none⟩)), (4, .pointer (some ⟨b_B31_4, 0, none⟩)), (5, .int .i64 0), (6, .pointer (some ⟨b_B31_6, 0, none⟩))] a ∧ MemL w (pt b_B31_6 (RMark.enc (RMark.mk x0.at_ x1.at_ x1.done s1259 s1262 SV.nil SV.nil)) 60 :: rowL 0 s1259 128 v1258 :: rowL 0 s1262 151 v1261 :: pt b_B31_4 (RMark.enc (RMark.mk 0 0 false SV.nil SV.nil SV.nil SV.nil)) 60 :: pt b_B31_3 (RState.enc (RState.mk x1.regs x1.stack s9 s11 s15 x1.at_ x1.steps x1.done)) 54 :: pt b_B31_2 (RState.enc (RState.mk x0.regs x0.stack s1 s3 s7 x0.at_ x0.steps x0.done)) 54 :: Lr)) (fun o_j4 hP hK_j4 hF hM => ?_) ?_
  · refine c_seq ?_
    refine d_startT mixed (by kernel_rfl) hM [0, 1, 2, 3, 4] 5 rfl fun hch => ?_
    refine d_val hF hch 0 rfl (by kernel_rfl) rfl rfl rfl (fun w hM => (r_fieldAddr (off' := 44) Tryz.underlying54 rfl in51 rfl hF rfl rfl rfl)) fun a hF => ?_
    refine d_val hF hch 1 rfl (by kernel_rfl) rfl rfl rfl (fun w hM => (r_sliceArr Tryz.underlying51 in50 rfl hF rfl rfl)) fun a hF => ?_
    refine d_val hF hch 2 rfl (by kernel_rfl) rfl rfl rfl (fun w hM => (r_fieldAddr (off' := 44) Tryz.underlying54 rfl in51 rfl hF rfl rfl rfl)) fun a hF => ?_
    refine d_val hF hch 3 rfl (by kernel_rfl) rfl rfl rfl (fun w hM => (r_sliceArr Tryz.underlying51 in50 rfl hF rfl rfl)) fun a hF => ?_
    refine d_val hF hch 6 rfl (by kernel_rfl) rfl rfl rfl (fun w hM => (r_move hF rfl rfl)) fun a hF => ?_
    refine d_one hch 4 (by kernel_rfl) rfl rfl ?_
    refine d_ex hF 4 rfl rfl rfl rfl rfl fun w hMs hM => ?_
    obtain ⟨y1269, hy1269, hP⟩ := bind_some hP
    refine (w_call (xs := [.tmp 62, .tmp 64]) Tryz.call85 hF rfl rfl (trace_changed_api_Slot_calls hy1269 hM (fun _ h => h) (fun w hM => (SliceOf.ofArr (lo := 0) (hM.cells (i := 4) rfl (RState.c_stack _)) (Nat.zero_le _) (Vec.len _))) (fun w hM => (SliceOf.ofArr (lo := 0) (hM.cells (i := 3) rfl (RState.c_stack _)) (Nat.zero_le _) (Vec.len _)))) fun v w hR => ?_)
    obtain ⟨s1270, rfl, hM⟩ := hR
    replace hM : MemL _ (rowL 0 s1270 3 y1269 :: pt b_B31_6 (RMark.enc (RMark.mk x0.at_ x1.at_ x1.done s1061 SV.nil SV.nil SV.nil)) 60 :: rowL 0 s1061 128 v1060 :: pt b_B31_4 (RMark.enc (RMark.mk 0 0 false SV.nil SV.nil SV.nil SV.nil)) 60 :: pt b_B31_3 (RState.enc (RState.mk x1.regs x1.stack s9 s11 s15 x1.at_ x1.steps x1.done)) 54 :: pt b_B31_2 (RState.enc (RState.mk x0.regs x0.stack s1 s3 s7 x0.at_ x0.steps x0.done)) 54 :: Lr) := hM
    have hMs := selM hM [0, 1, 2, 3, 4, 5] 6 rfl
    refine ⟨_, _, hMs, hM, .inl fun _ h => dropM h 1, fun a hF => ?_⟩
    refine d_val hF hch 5 rfl (by kernel_rfl) rfl rfl rfl (fun w hM => (r_lenL (hM.rowS (X := Int) (i := 0) rfl) Tryz.underlying52 hF rfl rfl)) fun a hF => ?_
    refine d_end hch (by kernel_rfl) fun w hM => ?_
    refine n_then ?_
    refine c_block ?_
    have hM := hM.rowNil (X := LCell) 0 151
    refine c_loopX hF hM hP (fun F x a w => match x with | (v1309, v1312, v1315) => ∃ (s1310 : SV) (s1313 : SV), Fr 127 [(67, .int .i64 v1315), (2, .pointer (some ⟨b_B31_2, 0, none⟩)), (3, .pointer (some ⟨b_B31_3, 0, none⟩)), (4, .pointer (some ⟨b_B31_4, 0, none⟩)), (5, .int .i64 0), (6, .pointer (some ⟨b_B31_6, 0, none⟩)), (65, (s1270).v), (66, .int .i64 (y1269.length : Int))] a ∧ MemL w (pt b_B31_6 (RMark.enc (RMark.mk x0.at_ x1.at_ x1.done s1310 s1313 SV.nil SV.nil)) 60 :: rowL 0 s1310 128 v1309 :: rowL 0 s1313 151 v1312 :: pt b_B31_4 (RMark.enc (RMark.mk 0 0 false SV.nil SV.nil SV.nil SV.nil)) 60 :: pt b_B31_3 (RState.enc (RState.mk x1.regs x1.stack s9 s11 s15 x1.at_ x1.steps x1.done)) 54 :: pt b_B31_2 (RState.enc (RState.mk x0.regs x0.stack s1 s3 s7 x0.at_ x0.steps x0.done)) 54 :: rowL 0 s1270 3 y1269 :: Lr)) (fun hF hM => ⟨s1061, SV.nil, hF.to ⟨rfl, rfl, rfl, rfl, rfl, rfl, rfl, rfl, trivial⟩, selM hM [2, 3, 0, 4, 5, 6, 1] 7 rfl⟩) ?_
    rintro ⟨v1309, v1312, v1315⟩ a w o_l5 hP hK_l5 ⟨s1310, s1313, hF, hM⟩
    replace hP : Sh.trace_Diff_l5 x0 x1 y1269 v1309 v1312 v1315 = _ := hP
    unfold Sh.trace_Diff_l5 at hP
    refine c_seq ?_
    refine c_region ?_
    refine s_val hF (r_lss hF rfl rfl rfl) rfl rfl rfl fun a hF => ?_
    refine c_nil (n_then ?_)
    refine c_seq ?_
    refine c_cond hF (c := .tmp 68) rfl (fun hb1318 => ?_) (fun hb1318 => ?_)
    · have hP := Fx.cT hb1318 hP
      refine c_skip (n_then ?_)
      refine c_seq ?_
      refine c_block ?_
      refine c_seq ?_
      refine c_region ?_
      obtain ⟨x1325, hx1325, hP⟩ := bind_some hP
      have h0x1325 := get_some hx1325
      refine s_val hF (r_indexZ (sz := 1) (hM.rowS (X := Int) (i := 6) rfl) Tryz.underlying52 in3 rfl hF rfl rfl rfl (get_bd hx1325)) rfl rfl rfl fun a hF => ?_
      refine s_val hF (r_load1 Tryz.isAgg3 hF rfl rfl ((((hM.rowS (X := Int) (i := 6) rfl).elemS h0x1325.2)).get 0 rfl)) rfl rfl rfl fun a hF => ?_
      refine s_val hF (r_assign hF rfl rfl) rfl rfl rfl fun a hF => ?_
      refine c_nil (n_then ?_)
      refine d_startT mixed (by kernel_rfl) hM [0, 1, 2, 3, 4, 5, 6] 7 rfl fun hch => ?_
      refine d_val hF hch 0 rfl (by kernel_rfl) rfl rfl rfl (fun w hM => (r_fieldAddr (off' := 4) Tryz.underlying60 rfl in57 rfl hF rfl rfl rfl)) fun a hF => ?_
      refine d_val hF hch 1 rfl (by kernel_rfl) rfl rfl rfl (fun w hM => (r_load1 Tryz.isAgg57 hF rfl rfl (hM.cell (i := 0) rfl (RMark.g_slots _)))) fun a hF => ?_
      refine d_val hF hch 2 rfl (by kernel_rfl) rfl rfl rfl (fun w hM => (r_move hF rfl rfl)) fun a hF => ?_
      refine d_val hF hch 3 rfl (by kernel_rfl) rfl rfl rfl (fun w hM => (r_move hF rfl rfl)) fun a hF => ?_
      refine d_val hF hch 4 rfl (by kernel_rfl) rfl rfl rfl (fun w hM => (r_fieldAddr (off' := 44) Tryz.underlying54 rfl in51 rfl hF rfl rfl rfl)) fun a hF => ?_
      obtain ⟨x1326, hx1326, hP⟩ := bind_some hP
      have h0x1326 := get_some hx1326
      refine d_val hF hch 5 rfl (by kernel_rfl) rfl rfl rfl (fun w hM => (r_indexAddrA (sz := 13) Tryz.underlying51 in50 rfl hF rfl rfl rfl (get_bdv hx1326))) fun a hF => ?_
      refine d_val hF hch 6 rfl (by kernel_rfl) rfl rfl rfl (fun w hM => (r_loadn Tryz.isAgg50 Tryz.sizeOf50 hF rfl rfl (LSlot.len _) (hM.cells (i := 5) rfl (RState.ci_stack _ _ _ (get_some hx1326).2)))) fun a hF => ?_
      refine d_val hF hch 7 rfl (by kernel_rfl) rfl rfl rfl (fun w hM => (r_move hF rfl rfl)) fun a hF => ?_
      refine d_val hF hch 8 rfl (by kernel_rfl) rfl rfl rfl (fun w hM => (r_fieldAddr (off' := 44) Tryz.underlying54 rfl in51 rfl hF rfl rfl rfl)) fun a hF => ?_
      obtain ⟨x1327, hx1327, hP⟩ := bind_some hP
      have h0x1327 := get_some hx1327
      refine d_val hF hch 9 rfl (by kernel_rfl) rfl rfl rfl (fun w hM => (r_indexAddrA (sz := 13) Tryz.underlying51 in50 rfl hF rfl rfl rfl (get_bdv hx1327))) fun a hF => ?_
      refine d_val hF hch 10 rfl (by kernel_rfl) rfl rfl rfl (fun w hM => (r_loadn Tryz.isAgg50 Tryz.sizeOf50 hF rfl rfl (LSlot.len _) (hM.cells (i := 4) rfl (RState.ci_stack _ _ _ (get_some hx1327).2)))) fun a hF => ?_
      refine d_val hF hch 11 rfl (by kernel_rfl) rfl rfl rfl (fun w hM => (r_build z151 Tryz.underlying151 pl151 hF (parts := [(0, .tmp 73), (1, .tmp 77), (2, .tmp 81)]) rfl rfl (fill_s rfl rfl (by rw [LCell.len]; decide) (LCell.s_slot _ _) (fill_p rfl (LSlot.len _) (by rw [LSlot.len, LCell.len]; decide) (LCell.p_old _ _) (fill_p rfl (LSlot.len _) (by rw [LSlot.len, LCell.len]; decide) (LCell.p_new _ _) fill_e))))) fun a hF => ?_
      refine d_one hch 12 (by kernel_rfl) rfl rfl ?_
      refine d_ex hF 12 rfl rfl rfl rfl rfl fun w hMs hM => ?_
      refine (w_slice1 (X := LCell) (y := (LCell.mk x1325 x1326 x1327)) Tryz.underlying57 in151 rfl rfl rfl rfl hF rfl rfl rfl fun b_B31_83 w hzB31_83 hAB31_83 => ?_)
      have hM := hM.plus hAB31_83
      replace hM : MemL _ (pt b_B31_83 (encs ([(LCell.mk x1325 x1326 x1327)] : List LCell)) 151 :: pt b_B31_6 (RMark.enc (RMark.mk x0.at_ x1.at_ x1.done s1310 s1313 SV.nil SV.nil)) 60 :: rowL 0 s1310 128 v1309 :: rowL 0 s1313 151 v1312 :: pt b_B31_4 (RMark.enc (RMark.mk 0 0 false SV.nil SV.nil SV.nil SV.nil)) 60 :: pt b_B31_3 (RState.enc (RState.mk x1.regs x1.stack s9 s11 s15 x1.at_ x1.steps x1.done)) 54 :: pt b_B31_2 (RState.enc (RState.mk x0.regs x0.stack s1 s3 s7 x0.at_ x0.steps x0.done)) 54 :: rowL 0 s1270 3 y1269 :: Lr) := hM
      have hMs := selM hM [0, 1, 2, 3, 4, 5, 6, 7] 8 rfl
      refine ⟨_, _, hMs, hM, .inl fun _ h => dropM h 1, fun a hF => ?_⟩
      refine d_one hch 13 (by kernel_rfl) rfl rfl ?_
      refine d_ex hF 13 rfl rfl rfl rfl rfl fun w hMs hM => ?_
      obtain ⟨x1329, hx1329, hP⟩ := bind_some hP
      refine (w_appX (X := LCell) hx1329 Tryz.underlying57 in151 rfl rfl rfl rfl hF rfl rfl rfl (hM.own (X := LCell) (i := 3) rfl) (hM.ptS (X := LCell) (i := 0) (n := 1) (c := 1) rfl rfl rfl (Nat.le_refl _)) fun s1328 w hUs1328 => ?_)
      have hM := hM.chg hUs1328 (i := 3) rfl
      replace hM : MemL _ (pt b_B31_83 (encs ([(LCell.mk x1325 x1326 x1327)] : List LCell)) 151 :: pt b_B31_6 (RMark.enc (RMark.mk x0.at_ x1.at_ x1.done s1310 s1313 SV.nil SV.nil)) 60 :: rowL 0 s1310 128 v1309 :: rowL 0 s1328 151 x1329 :: pt b_B31_4 (RMark.enc (RMark.mk 0 0 false SV.nil SV.nil SV.nil SV.nil)) 60 :: pt b_B31_3 (RState.enc (RState.mk x1.regs x1.stack s9 s11 s15 x1.at_ x1.steps x1.done)) 54 :: pt b_B31_2 (RState.enc (RState.mk x0.regs x0.stack s1 s3 s7 x0.at_ x0.steps x0.done)) 54 :: rowL 0 s1270 3 y1269 :: Lr) := hM
      have hMs := hM
      refine ⟨_, _, hMs, hM, .inr (by kernel_rfl), fun a hF => ?_⟩
      refine d_val hF hch 14 rfl (by kernel_rfl) rfl rfl rfl (fun w hM => (r_fieldAddr (off' := 4) Tryz.underlying60 rfl in57 rfl hF rfl rfl rfl)) fun a hF => ?_
      refine d_one hch 15 (by kernel_rfl) rfl rfl ?_
      refine d_ex0 15 rfl rfl rfl rfl fun w hMs hM => ?_
      refine (w_store1 Tryz.sizeOf57 (hM.obj (i := 1) rfl) hF rfl rfl rfl rfl (by rw [RMark.len]; decide) (RMark.s_slots _ _) fun w hU1330 => ?_)
      have hM := hM.chg hU1330 (i := 1) rfl
      replace hM : MemL _ (pt b_B31_83 (encs ([(LCell.mk x1325 x1326 x1327)] : List LCell)) 151 :: pt b_B31_6 (RMark.enc (RMark.mk x0.at_ x1.at_ x1.done s1310 s1328 SV.nil SV.nil)) 60 :: rowL 0 s1310 128 v1309 :: rowL 0 s1328 151 x1329 :: pt b_B31_4 (RMark.enc (RMark.mk 0 0 false SV.nil SV.nil SV.nil SV.nil)) 60 :: pt b_B31_3 (RState.enc (RState.mk x1.regs x1.stack s9 s11 s15 x1.at_ x1.steps x1.done)) 54 :: pt b_B31_2 (RState.enc (RState.mk x0.regs x0.stack s1 s3 s7 x0.at_ x0.steps x0.done)) 54 :: rowL 0 s1270 3 y1269 :: Lr) := hM
      have hMs := hM
      refine ⟨_, _, hMs, hM, .inr (by kernel_rfl), ?_⟩
      refine d_end hch (by kernel_rfl) fun w hM => ?_
      refine n_block (n_then ?_)
      refine c_region ?_
      refine s_val hF (r_add hF rfl rfl rfl) rfl rfl rfl fun a hF => ?_
      refine s_val hF (r_move hF rfl rfl) rfl rfl rfl fun a hF => ?_
      refine c_nil (n_then ?_)
      have hP := Option.some.inj hP
      subst hP
      exact ⟨(v1309, x1329, (IntKind.i64.wrap (v1315 + 1))), rfl, s1310, s1328, hF.to ⟨rfl, rfl, rfl, rfl, rfl, rfl, rfl, rfl, trivial⟩, selM hM [1, 2, 3, 4, 5, 6, 7] 8 rfl⟩
    have hP := Fx.cF hb1318 hP
    refine c_exit (x_then (x_then (x_hit ?_)))
    refine n_then ?_
    have hP := Option.some.inj hP
    subst hP
    have hP := hK_l5 _ rfl
    subst hP
    exact ⟨(v1309, v1312), rfl, s1310, s1313, hF.to ⟨rfl, rfl, rfl, rfl, rfl, trivial⟩, selM hM [0, 1, 2, 3, 4, 5] 7 rfl⟩
  rintro ⟨v1258, v1261⟩ a w hP ⟨s1259, s1262, hF, hM⟩
  replace hP : Sh.trace_Diff_j4 x0 x1 v1258 v1261 = _ := hP
  unfold Sh.trace_Diff_j4 at hP
  refine n_then ?_
  refine c_seq ?_
  refine c_region ?_
  refine s_val hF (r_fieldAddr (off' := 460) Tryz.underlying54 rfl in23 rfl hF rfl rfl rfl) rfl rfl rfl fun a hF => ?_
  refine s_val hF (r_load1 Tryz.isAgg23 hF rfl rfl (hM.cell (i := 5) rfl (RState.g_ctx _))) rfl rfl rfl fun a hF => ?_
  refine s_val hF (r_fieldAddr (off' := 460) Tryz.underlying54 rfl in23 rfl hF rfl rfl rfl) rfl rfl rfl fun a hF => ?_
  refine s_val hF (r_load1 Tryz.isAgg23 hF rfl rfl (hM.cell (i := 4) rfl (RState.g_ctx _))) rfl rfl rfl fun a hF => ?_
  obtain ⟨y1332, hy1332, hP⟩ := bind_some hP
  refine s_eff hF rfl rfl rfl (w_call (xs := [.const (.int .i64 (-1)), .tmp 88, .tmp 90]) Tryz.call86 hF rfl rfl (trace_pieces_calls hy1332 hM (Bf := Bf) (fun w hM => hsub _ (dropM hM 6)) f2 f10) fun v w hR => ?_)
  obtain ⟨s1333, hs1334, r1336, rfl, q1337, hM⟩ := hR
  replace hM : MemL _ (rowL 0 s1333 156 hs1334 :: r1336 :: pt b_B31_6 (RMark.enc (RMark.mk x0.at_ x1.at_ x1.done s1259 s1262 SV.nil SV.nil)) 60 :: rowL 0 s1259 128 v1258 :: rowL 0 s1262 151 v1261 :: pt b_B31_4 (RMark.enc (RMark.mk 0 0 false SV.nil SV.nil SV.nil SV.nil)) 60 :: pt b_B31_3 (RState.enc (RState.mk x1.regs x1.stack s9 s11 s15 x1.at_ x1.steps x1.done)) 54 :: pt b_B31_2 (RState.enc (RState.mk x0.regs x0.stack s1 s3 s7 x0.at_ x0.steps x0.done)) 54 :: Lr) := hM
  intro a hF
  refine s_val hF (r_fieldAddr (off' := 5) Tryz.underlying60 rfl in58 rfl hF rfl rfl rfl) rfl rfl rfl fun a hF => ?_
  refine s_eff0 rfl rfl (w_store1 Tryz.sizeOf58 (hM.obj (i := 2) rfl) hF rfl rfl rfl rfl (by rw [RMark.len]; decide) (RMark.s_pieces _ _) fun w hU1338 => ?_)
  have hM := hM.chg hU1338 (i := 2) rfl
  replace hM : MemL _ (rowL 0 s1333 156 hs1334 :: r1336 :: pt b_B31_6 (RMark.enc (RMark.mk x0.at_ x1.at_ x1.done s1259 s1262 s1333 SV.nil)) 60 :: rowL 0 s1259 128 v1258 :: rowL 0 s1262 151 v1261 :: pt b_B31_4 (RMark.enc (RMark.mk 0 0 false SV.nil SV.nil SV.nil SV.nil)) 60 :: pt b_B31_3 (RState.enc (RState.mk x1.regs x1.stack s9 s11 s15 x1.at_ x1.steps x1.done)) 54 :: pt b_B31_2 (RState.enc (RState.mk x0.regs x0.stack s1 s3 s7 x0.at_ x0.steps x0.done)) 54 :: Lr) := hM
  refine c_nil (n_then ?_)
  refine c_seq ?_
  refine c_joinX hF hM hP (fun F x a w => match x with | (v1595, v1598, v1601) => ∃ (s1596 : SV) (s1599 : SV) (s1602 : SV) (hs1603 : List RPiece) (r1605 : Res), Each (QPieceIn r1605.holds') hs1603 v1601 ∧ Fr 127 [(2, .pointer (some ⟨b_B31_2, 0, none⟩)), (3, .pointer (some ⟨b_B31_3, 0, none⟩)), (4, .pointer (some ⟨b_B31_4, 0, none⟩)), (5, .int .i64 0), (6, .pointer (some ⟨b_B31_6, 0, none⟩))] a ∧ MemL w (pt b_B31_6 (RMark.enc (RMark.mk x0.at_ x1.at_ x1.done s1596 s1599 s1602 SV.nil)) 60 :: rowL 0 s1596 128 v1595 :: rowL 0 s1599 151 v1598 :: rowL 0 s1602 156 hs1603 :: r1605 :: pt b_B31_4 (RMark.enc (RMark.mk 0 0 false SV.nil SV.nil SV.nil SV.nil)) 60 :: pt b_B31_3 (RState.enc (RState.mk x1.regs x1.stack s9 s11 s15 x1.at_ x1.steps x1.done)) 54 :: pt b_B31_2 (RState.enc (RState.mk x0.regs x0.stack s1 s3 s7 x0.at_ x0.steps x0.done)) 54 :: Lr)) (fun o_j6 hP hK_j6 hF hM => ?_) ?_
  · refine c_seq ?_
    refine c_region ?_
    refine s_val hF (r_fieldAddr (off' := 461) Tryz.underlying54 rfl in28 rfl hF rfl rfl rfl) rfl rfl rfl fun a hF => ?_
    refine s_val hF (r_load1 Tryz.isAgg28 hF rfl rfl (hM.cell (i := 7) rfl (RState.g_tables _))) rfl rfl rfl fun a hF => ?_
    refine s_val hF (r_lenD (f5 _ (hsub _ (dropM hM 8))) q6.len Tryz.underlying28 hF rfl rfl) rfl rfl rfl fun a hF => ?_
    refine s_val hF (r_move hF rfl rfl) rfl rfl rfl fun a hF => ?_
    refine c_nil (n_then ?_)
    refine c_block ?_
    refine c_loopX hF hM hP (fun F x a w => match x with | (v1688, v1691, v1694, v1700) => ∃ (s1689 : SV) (s1692 : SV) (s1695 : SV) (hs1696 : List RPiece) (r1698 : Res), Each (QPieceIn r1698.holds') hs1696 v1694 ∧ Fr 127 [(96, .int .i64 v1700), (2, .pointer (some ⟨b_B31_2, 0, none⟩)), (3, .pointer (some ⟨b_B31_3, 0, none⟩)), (4, .pointer (some ⟨b_B31_4, 0, none⟩)), (5, .int .i64 0), (6, .pointer (some ⟨b_B31_6, 0, none⟩)), (95, .int .i64 (x0.tables.length : Int))] a ∧ MemL w (pt b_B31_6 (RMark.enc (RMark.mk x0.at_ x1.at_ x1.done s1689 s1692 s1695 SV.nil)) 60 :: rowL 0 s1689 128 v1688 :: rowL 0 s1692 151 v1691 :: rowL 0 s1695 156 hs1696 :: r1698 :: pt b_B31_4 (RMark.enc (RMark.mk 0 0 false SV.nil SV.nil SV.nil SV.nil)) 60 :: pt b_B31_3 (RState.enc (RState.mk x1.regs x1.stack s9 s11 s15 x1.at_ x1.steps x1.done)) 54 :: pt b_B31_2 (RState.enc (RState.mk x0.regs x0.stack s1 s3 s7 x0.at_ x0.steps x0.done)) 54 :: Lr)) (fun hF hM => ⟨s1259, s1262, s1333, hs1334, r1336, q1337, hF.to ⟨rfl, rfl, rfl, rfl, rfl, rfl, rfl, trivial⟩, selM hM [2, 3, 4, 0, 1, 5, 6, 7] 8 rfl⟩) ?_
    rintro ⟨v1688, v1691, v1694, v1700⟩ a w o_l7 hP hK_l7 ⟨s1689, s1692, s1695, hs1696, r1698, q1699, hF, hM⟩
    replace hP : Sh.trace_Diff_l7 x0 x1 v1688 v1691 v1694 v1700 = _ := hP
    unfold Sh.trace_Diff_l7 at hP
    refine c_seq ?_
    refine c_region ?_
    refine s_val hF (r_lss hF rfl rfl rfl) rfl rfl rfl fun a hF => ?_
    refine c_nil (n_then ?_)
    refine c_seq ?_
    refine c_cond hF (c := .tmp 97) rfl (fun hb1702 => ?_) (fun hb1702 => ?_)
    · have hP := Fx.cT hb1702 hP
      refine c_skip (n_then ?_)
      refine c_seq ?_
      refine c_block ?_
      refine c_seq ?_
      refine c_region ?_
      refine s_val hF (r_move hF rfl rfl) rfl rfl rfl fun a hF => ?_
      refine s_val hF (r_assign hF rfl rfl) rfl rfl rfl fun a hF => ?_
      refine c_nil (n_then ?_)
      refine d_startT mixed (by kernel_rfl) hM [0, 1, 2, 3, 4, 5, 6, 7] 8 rfl fun hch => ?_
      refine d_val hF hch 0 rfl (by kernel_rfl) rfl rfl rfl (fun w hM => (r_fieldAddr (off' := 5) Tryz.underlying60 rfl in58 rfl hF rfl rfl rfl)) fun a hF => ?_
      refine d_val hF hch 1 rfl (by kernel_rfl) rfl rfl rfl (fun w hM => (r_load1 Tryz.isAgg58 hF rfl rfl (hM.cell (i := 0) rfl (RMark.g_pieces _)))) fun a hF => ?_
      refine d_val hF hch 2 rfl (by kernel_rfl) rfl rfl rfl (fun w hM => (r_move hF rfl rfl)) fun a hF => ?_
      refine d_val hF hch 3 rfl (by kernel_rfl) rfl rfl rfl (fun w hM => (r_fieldAddr (off' := 461) Tryz.underlying54 rfl in28 rfl hF rfl rfl rfl)) fun a hF => ?_
      refine d_val hF hch 4 rfl (by kernel_rfl) rfl rfl rfl (fun w hM => (r_load1 Tryz.isAgg28 hF rfl rfl (hM.cell (i := 7) rfl (RState.g_tables _)))) fun a hF => ?_
      refine d_val hF hch 5 rfl (by kernel_rfl) rfl rfl rfl (fun w hM => (r_move hF rfl rfl)) fun a hF => ?_
      obtain ⟨x1719, hx1719, hP⟩ := bind_some hP
      have h0x1719 := get_some hx1719
      obtain ⟨yx1719, hgx1719, hrx1719⟩ := Each.getr q6 h0x1719.2
      have hdx1719 := Each.bd q6 (get_bd hx1719)
      refine d_val hF hch 6 rfl (by kernel_rfl) rfl rfl rfl (fun w hM => (r_indexZ (sz := 1) (f5 _ (hsub _ (dropM hM 8))) Tryz.underlying28 in23 rfl hF rfl rfl rfl hdx1719)) fun a hF => ?_
      refine d_val hF hch 7 rfl (by kernel_rfl) rfl rfl rfl (fun w hM => (r_load1 Tryz.isAgg23 hF rfl rfl ((((f5 _ (hsub _ (dropM hM 8))).elemS hgx1719)).get 0 rfl))) fun a hF => ?_
      refine d_val hF hch 8 rfl (by kernel_rfl) rfl rfl rfl (fun w hM => (r_fieldAddr (off' := 461) Tryz.underlying54 rfl in28 rfl hF rfl rfl rfl)) fun a hF => ?_
      refine d_val hF hch 9 rfl (by kernel_rfl) rfl rfl rfl (fun w hM => (r_load1 Tryz.isAgg28 hF rfl rfl (hM.cell (i := 6) rfl (RState.g_tables _)))) fun a hF => ?_
      refine d_val hF hch 10 rfl (by kernel_rfl) rfl rfl rfl (fun w hM => (r_move hF rfl rfl)) fun a hF => ?_
      obtain ⟨x1720, hx1720, hP⟩ := bind_some hP
      have h0x1720 := get_some hx1720
      obtain ⟨yx1720, hgx1720, hrx1720⟩ := Each.getr q14 h0x1720.2
      have hdx1720 := Each.bd q14 (get_bd hx1720)
      refine d_val hF hch 11 rfl (by kernel_rfl) rfl rfl rfl (fun w hM => (r_indexZ (sz := 1) (f13 _ (hsub _ (dropM hM 8))) Tryz.underlying28 in23 rfl hF rfl rfl rfl hdx1720)) fun a hF => ?_
      refine d_val hF hch 12 rfl (by kernel_rfl) rfl rfl rfl (fun w hM => (r_load1 Tryz.isAgg23 hF rfl rfl ((((f13 _ (hsub _ (dropM hM 8))).elemS hgx1720)).get 0 rfl))) fun a hF => ?_
      refine d_one hch 13 (by kernel_rfl) rfl rfl ?_
      refine d_ex hF 13 rfl rfl rfl rfl rfl fun w hMs hM => ?_
      obtain ⟨y1722, hy1722, hP⟩ := bind_some hP
      refine (w_call (xs := [.tmp 101, .tmp 106, .tmp 111]) Tryz.call86 hF rfl rfl (trace_pieces_calls hy1722 hM (Bf := Bf) (fun w hM => hsub _ (dropM hM 8)) hrx1719 hrx1720) fun v w hR => ?_)
      obtain ⟨s1723, hs1724, r1726, rfl, q1727, hM⟩ := hR
      replace hM : MemL _ (rowL 0 s1723 156 hs1724 :: r1726 :: pt b_B31_6 (RMark.enc (RMark.mk x0.at_ x1.at_ x1.done s1689 s1692 s1695 SV.nil)) 60 :: rowL 0 s1689 128 v1688 :: rowL 0 s1692 151 v1691 :: rowL 0 s1695 156 hs1696 :: r1698 :: pt b_B31_4 (RMark.enc (RMark.mk 0 0 false SV.nil SV.nil SV.nil SV.nil)) 60 :: pt b_B31_3 (RState.enc (RState.mk x1.regs x1.stack s9 s11 s15 x1.at_ x1.steps x1.done)) 54 :: pt b_B31_2 (RState.enc (RState.mk x0.regs x0.stack s1 s3 s7 x0.at_ x0.steps x0.done)) 54 :: Lr) := hM
      have hMs := selM hM [0, 1, 2, 3, 4, 5, 6, 7, 8, 9] 10 rfl
      refine ⟨_, _, hMs, hM, .inl fun _ h => dropM h 2, fun a hF => ?_⟩
      refine d_one hch 14 (by kernel_rfl) rfl rfl ?_
      refine d_ex hF 14 rfl rfl rfl rfl rfl fun w hMs hM => ?_
      obtain ⟨x1729, hx1729, hP⟩ := bind_some hP
      refine (w_appD (X := RPiece) hx1729 q1699.len q1727.len Tryz.underlying58 in156 rfl rfl rfl rfl hF rfl rfl rfl (hM.own (X := RPiece) (i := 5) rfl) (hM.rowS (X := RPiece) (i := 0) rfl) fun s1728 w hUs1728 => ?_)
      have hM := hM.chg hUs1728 (i := 5) rfl
      replace hM : MemL _ (rowL 0 s1723 156 hs1724 :: r1726 :: pt b_B31_6 (RMark.enc (RMark.mk x0.at_ x1.at_ x1.done s1689 s1692 s1695 SV.nil)) 60 :: rowL 0 s1689 128 v1688 :: rowL 0 s1692 151 v1691 :: rowL 0 s1728 156 (hs1696 ++ hs1724) :: r1698 :: pt b_B31_4 (RMark.enc (RMark.mk 0 0 false SV.nil SV.nil SV.nil SV.nil)) 60 :: pt b_B31_3 (RState.enc (RState.mk x1.regs x1.stack s9 s11 s15 x1.at_ x1.steps x1.done)) 54 :: pt b_B31_2 (RState.enc (RState.mk x0.regs x0.stack s1 s3 s7 x0.at_ x0.steps x0.done)) 54 :: Lr) := hM
      obtain ⟨r1730, hj1731, hj1732, hM⟩ := joinM (selM hM [6, 1, 0, 2, 3, 4, 5, 7, 8, 9] 10 rfl)
      replace hM : MemL _ (r1730 :: rowL 0 s1723 156 hs1724 :: pt b_B31_6 (RMark.enc (RMark.mk x0.at_ x1.at_ x1.done s1689 s1692 s1695 SV.nil)) 60 :: rowL 0 s1689 128 v1688 :: rowL 0 s1692 151 v1691 :: rowL 0 s1728 156 (hs1696 ++ hs1724) :: pt b_B31_4 (RMark.enc (RMark.mk 0 0 false SV.nil SV.nil SV.nil SV.nil)) 60 :: pt b_B31_3 (RState.enc (RState.mk x1.regs x1.stack s9 s11 s15 x1.at_ x1.steps x1.done)) 54 :: pt b_B31_2 (RState.enc (RState.mk x0.regs x0.stack s1 s3 s7 x0.at_ x0.steps x0.done)) 54 :: Lr) := hM
      have q1733 : Each (QPieceIn r1730.holds') (hs1696 ++ hs1724) x1729 := by rw [(app_some hx1729).2]; exact (q1699.mono fun _ _ q => q.mono hj1731).append (q1727.mono fun _ _ q => q.mono hj1732)
      replace hM : MemL _ (r1730 :: rowL 0 s1723 156 hs1724 :: pt b_B31_6 (RMark.enc (RMark.mk x0.at_ x1.at_ x1.done s1689 s1692 s1695 SV.nil)) 60 :: rowL 0 s1689 128 v1688 :: rowL 0 s1692 151 v1691 :: rowL 0 s1728 156 (hs1696 ++ hs1724) :: pt b_B31_4 (RMark.enc (RMark.mk 0 0 false SV.nil SV.nil SV.nil SV.nil)) 60 :: pt b_B31_3 (RState.enc (RState.mk x1.regs x1.stack s9 s11 s15 x1.at_ x1.steps x1.done)) 54 :: pt b_B31_2 (RState.enc (RState.mk x0.regs x0.stack s1 s3 s7 x0.at_ x0.steps x0.done)) 54 :: Lr) := hM
      have hMs := hM
      refine ⟨_, _, hMs, hM, .inr (by kernel_rfl), fun a hF => ?_⟩
      refine d_val hF hch 15 rfl (by kernel_rfl) rfl rfl rfl (fun w hM => (r_fieldAddr (off' := 5) Tryz.underlying60 rfl in58 rfl hF rfl rfl rfl)) fun a hF => ?_
      refine d_one hch 16 (by kernel_rfl) rfl rfl ?_
      refine d_ex0 16 rfl rfl rfl rfl fun w hMs hM => ?_
      refine (w_store1 Tryz.sizeOf58 (hM.obj (i := 2) rfl) hF rfl rfl rfl rfl (by rw [RMark.len]; decide) (RMark.s_pieces _ _) fun w hU1734 => ?_)
      have hM := hM.chg hU1734 (i := 2) rfl
      replace hM : MemL _ (r1730 :: rowL 0 s1723 156 hs1724 :: pt b_B31_6 (RMark.enc (RMark.mk x0.at_ x1.at_ x1.done s1689 s1692 s1728 SV.nil)) 60 :: rowL 0 s1689 128 v1688 :: rowL 0 s1692 151 v1691 :: rowL 0 s1728 156 (hs1696 ++ hs1724) :: pt b_B31_4 (RMark.enc (RMark.mk 0 0 false SV.nil SV.nil SV.nil SV.nil)) 60 :: pt b_B31_3 (RState.enc (RState.mk x1.regs x1.stack s9 s11 s15 x1.at_ x1.steps x1.done)) 54 :: pt b_B31_2 (RState.enc (RState.mk x0.regs x0.stack s1 s3 s7 x0.at_ x0.steps x0.done)) 54 :: Lr) := hM
      have hMs := hM
      refine ⟨_, _, hMs, hM, .inr (by kernel_rfl), ?_⟩
      refine d_end hch (by kernel_rfl) fun w hM => ?_
      refine n_block (n_then ?_)
      refine c_region ?_
      refine s_val hF (r_add hF rfl rfl rfl) rfl rfl rfl fun a hF => ?_
      refine s_val hF (r_move hF rfl rfl) rfl rfl rfl fun a hF => ?_
      refine c_nil (n_then ?_)
      have hP := Option.some.inj hP
      subst hP
      exact ⟨(v1688, v1691, x1729, (IntKind.i64.wrap (v1700 + 1))), rfl, s1689, s1692, s1728, (hs1696 ++ hs1724), r1730, q1733, hF.to ⟨rfl, rfl, rfl, rfl, rfl, rfl, rfl, trivial⟩, selM hM [2, 3, 4, 5, 0, 6, 7, 8] 9 rfl⟩
    have hP := Fx.cF hb1702 hP
    refine c_exit (x_then (x_then (x_hit ?_)))
    refine n_then ?_
    have hP := Option.some.inj hP
    subst hP
    have hP := hK_l7 _ rfl
    subst hP
    exact ⟨(v1688, v1691, v1694), rfl, s1689, s1692, s1695, hs1696, r1698, q1699, hF.to ⟨rfl, rfl, rfl, rfl, rfl, trivial⟩, hM⟩
  rintro ⟨v1595, v1598, v1601⟩ a w hP ⟨s1596, s1599, s1602, hs1603, r1605, q1606, hF, hM⟩
  replace hP : Sh.trace_Diff_j6 x0 x1 v1595 v1598 v1601 = _ := hP
  unfold Sh.trace_Diff_j6 at hP
  refine n_then ?_
  refine c_seq ?_
  refine d_startT mixed (by kernel_rfl) hM [0, 1, 2, 3, 4, 5, 6, 7] 8 rfl fun hch => ?_
  refine d_val hF hch 0 rfl (by kernel_rfl) rfl rfl rfl (fun w hM => (r_fieldAddr (off' := 6) Tryz.underlying60 rfl in52 rfl hF rfl rfl rfl)) fun a hF => ?_
  refine d_val hF hch 1 rfl (by kernel_rfl) rfl rfl rfl (fun w hM => (r_load1 Tryz.isAgg52 hF rfl rfl (hM.cell (i := 0) rfl (RMark.g_sent _)))) fun a hF => ?_
  refine d_val hF hch 2 rfl (by kernel_rfl) rfl rfl rfl (fun w hM => (r_fieldAddr (off' := 462) Tryz.underlying54 rfl in52 rfl hF rfl rfl rfl)) fun a hF => ?_
  refine d_val hF hch 3 rfl (by kernel_rfl) rfl rfl rfl (fun w hM => (r_load1 Tryz.isAgg52 hF rfl rfl (hM.cell (i := 6) rfl (RState.g_sent _)))) fun a hF => ?_
  refine d_val hF hch 4 rfl (by kernel_rfl) rfl rfl rfl (fun w hM => (r_fieldAddr (off' := 462) Tryz.underlying54 rfl in52 rfl hF rfl rfl rfl)) fun a hF => ?_
  refine d_val hF hch 5 rfl (by kernel_rfl) rfl rfl rfl (fun w hM => (r_load1 Tryz.isAgg52 hF rfl rfl (hM.cell (i := 7) rfl (RState.g_sent _)))) fun a hF => ?_
  refine d_val hF hch 6 rfl (by kernel_rfl) rfl rfl rfl (fun w hM => (r_lenL (f8 _ (hsub _ (dropM hM 8))) Tryz.underlying52 hF rfl rfl)) fun a hF => ?_
  obtain ⟨x1740, hx1740, hP⟩ := bind_some hP
  refine d_val hF hch 7 rfl (by kernel_rfl) rfl rfl rfl (fun w hM => (r_cutZ (f16 _ (hsub _ (dropM hM 8))) hx1740 Tryz.underlying52 in3 rfl hF rfl rfl (.inr ⟨_, _, rfl, rfl⟩) (.inl ⟨rfl, rfl⟩))) fun a hF => ?_
  refine d_one hch 8 (by kernel_rfl) rfl rfl ?_
  refine d_ex hF 8 rfl rfl rfl rfl rfl fun w hMs hM => ?_
  have hM := hM.rowNil (X := Int) 0 3
  obtain ⟨x1743, hx1743, hP⟩ := bind_some hP
  refine (w_appX (X := Int) hx1743 Tryz.underlying52 in3 rfl rfl rfl rfl hF rfl rfl rfl (hM.own (X := Int) (i := 0) rfl) ((LIn.slc f16 hx1740 rfl) _ (hsub _ (dropM hM 9))) fun s1741 w hUs1741 => ?_)
  have hM := hM.chg hUs1741 (i := 0) rfl
  replace hM : MemL _ (rowL 0 s1741 3 x1743 :: pt b_B31_6 (RMark.enc (RMark.mk x0.at_ x1.at_ x1.done s1596 s1599 s1602 SV.nil)) 60 :: rowL 0 s1596 128 v1595 :: rowL 0 s1599 151 v1598 :: rowL 0 s1602 156 hs1603 :: r1605 :: pt b_B31_4 (RMark.enc (RMark.mk 0 0 false SV.nil SV.nil SV.nil SV.nil)) 60 :: pt b_B31_3 (RState.enc (RState.mk x1.regs x1.stack s9 s11 s15 x1.at_ x1.steps x1.done)) 54 :: pt b_B31_2 (RState.enc (RState.mk x0.regs x0.stack s1 s3 s7 x0.at_ x0.steps x0.done)) 54 :: Lr) := hM
  have hMs := selM hM [0, 1, 2, 3, 4, 5, 6, 7, 8] 9 rfl
  refine ⟨_, _, hMs, hM, .inl fun _ h => dropM h 1, fun a hF => ?_⟩
  refine d_val hF hch 9 rfl (by kernel_rfl) rfl rfl rfl (fun w hM => (r_fieldAddr (off' := 6) Tryz.underlying60 rfl in52 rfl hF rfl rfl rfl)) fun a hF => ?_
  refine d_one hch 10 (by kernel_rfl) rfl rfl ?_
  refine d_ex0 10 rfl rfl rfl rfl fun w hMs hM => ?_
  refine (w_store1 Tryz.sizeOf52 (hM.obj (i := 1) rfl) hF rfl rfl rfl rfl (by rw [RMark.len]; decide) (RMark.s_sent _ _) fun w hU1744 => ?_)
  have hM := hM.chg hU1744 (i := 1) rfl
  replace hM : MemL _ (rowL 0 s1741 3 x1743 :: pt b_B31_6 (RMark.enc (RMark.mk x0.at_ x1.at_ x1.done s1596 s1599 s1602 s1741)) 60 :: rowL 0 s1596 128 v1595 :: rowL 0 s1599 151 v1598 :: rowL 0 s1602 156 hs1603 :: r1605 :: pt b_B31_4 (RMark.enc (RMark.mk 0 0 false SV.nil SV.nil SV.nil SV.nil)) 60 :: pt b_B31_3 (RState.enc (RState.mk x1.regs x1.stack s9 s11 s15 x1.at_ x1.steps x1.done)) 54 :: pt b_B31_2 (RState.enc (RState.mk x0.regs x0.stack s1 s3 s7 x0.at_ x0.steps x0.done)) 54 :: Lr) := hM
  have hMs := hM
  refine ⟨_, _, hMs, hM, .inr (by kernel_rfl), ?_⟩
  refine d_end hch (by kernel_rfl) fun w hM => ?_
  refine n_then ?_
  refine c_seq ?_
  refine c_region ?_
  refine s_val hF (r_loadn Tryz.isAgg60 Tryz.sizeOf60 hF rfl rfl (RMark.len _) (hM.cells (i := 1) rfl (cut_all (RMark.len _)))) rfl rfl rfl fun a hF => ?_
  refine s_eff0 rfl rfl (w_storen (vs := _) Tryz.sizeOf60 (hM.obj (i := 6) rfl) hF rfl rfl rfl rfl (RMark.len _) (RMark.one _) (by first | (rw [RMark.len, RMark.len]; decide) | (rw [RMark.len]; decide)) (put_all ((RMark.len _).trans (RMark.len _).symm)) fun w hU1745 => ?_)
  have hM := hM.chg hU1745 (i := 6) rfl
  replace hM : MemL _ (rowL 0 s1741 3 x1743 :: pt b_B31_6 (RMark.enc (RMark.mk x0.at_ x1.at_ x1.done s1596 s1599 s1602 s1741)) 60 :: rowL 0 s1596 128 v1595 :: rowL 0 s1599 151 v1598 :: rowL 0 s1602 156 hs1603 :: r1605 :: pt b_B31_4 (RMark.enc (RMark.mk x0.at_ x1.at_ x1.done s1596 s1599 s1602 s1741)) 60 :: pt b_B31_3 (RState.enc (RState.mk x1.regs x1.stack s9 s11 s15 x1.at_ x1.steps x1.done)) 54 :: pt b_B31_2 (RState.enc (RState.mk x0.regs x0.stack s1 s3 s7 x0.at_ x0.steps x0.done)) 54 :: Lr) := hM
  refine s_val hF (r_assign hF rfl rfl) rfl rfl rfl fun a hF => ?_
  refine c_nil (n_then ?_)
  refine c_ret ?_
  have hP := Option.some.inj hP
  subst hP
  refine e_ret (rs := [.cell 4 60, .tmp 5]) Tryz.results31 hF (res_celln hF rfl Tryz.isAgg60 Tryz.sizeOf60 (RMark.len _) (hM.cells (i := 6) rfl (cut_all (RMark.len _))) (res_tmp hF rfl res_nil)) rfl ?_
  exact ⟨s1596, s1599, s1602, hs1603, r1605, s1741, rfl, q1606, selM hM [2, 3, 4, 5, 0] 9 rfl⟩
set_option maxHeartbeats 4000000 in
theorem ref23_Diff_calls {x0 : QState} {x1 : QState} {s1 : SV} {s3 : SV} {hs4 : List SV} {s7 : SV} {s9 : SV} {s11 : SV} {hs12 : List SV} {s15 : SV} {out : (QMark × Int)} {w0 : World} {Bf : World → Prop} {Lr : List Res} (hP : Sh.ref23_Diff x0 x1 = some out) (hM : MemL w0 (Lr)) (hsub : ∀ w, MemL w Lr → Bf w) (f2 : LIn Bf s1 x0.ctx) (f5 : LIn Bf s3 hs4) (q6 : Each (LIn (X := UInt8) Bf) hs4 x0.tables) (f8 : LIn Bf s7 x0.sent) (f10 : LIn Bf s9 x1.ctx) (f13 : LIn Bf s11 hs12) (q14 : Each (LIn (X := UInt8) Bf) hs12 x1.tables) (f16 : LIn Bf s15 x1.sent) : Calls Tryz.prog 32 #[.agg (RState.enc (RState.mk x0.regs x0.stack s1 s3 s7 x0.at_ x0.steps x0.done)).toArray, .agg (RState.enc (RState.mk x1.regs x1.stack s9 s11 s15 x1.at_ x1.steps x1.done)).toArray] w0 (Ret fun v w' => ∃ (s1426 : SV) (s1428 : SV) (s1430 : SV) (hs1431 : List RPiece) (r1433 : Res) (s1435 : SV), v = .tuple #[.agg (RMark.enc (RMark.mk out.1.at_ out.1.next out.1.done s1426 s1428 s1430 s1435)).toArray, .int .i64 out.2] ∧ Each (QPieceIn r1433.holds') hs1431 out.1.pieces ∧ MemL w' (rowL 0 s1426 128 out.1.regs :: rowL 0 s1428 151 out.1.slots :: rowL 0 s1430 156 hs1431 :: r1433 :: rowL 0 s1435 3 out.1.sent :: Lr)) := by
  unfold Sh.ref23_Diff at hP
  refine calls_enter (vs := [.agg (RState.enc (RState.mk x0.regs x0.stack s1 s3 s7 x0.at_ x0.steps x0.done)).toArray, .agg (RState.enc (RState.mk x1.regs x1.stack s9 s11 s15 x1.at_ x1.steps x1.done)).toArray]) Tryz.func32 rfl Tryz.ntmps32 rfl fun a hF => ?_
  refine c_seq ?_
  refine c_region ?_
  refine s_eff hF rfl rfl rfl (w_box hF rfl rfl rfl fun b_B32_2 w hzB32_2 hAB32_2 => ?_)
  have hM := hM.plus hAB32_2
  replace hM : MemL _ (pt b_B32_2 (RState.enc (RState.mk x0.regs x0.stack s1 s3 s7 x0.at_ x0.steps x0.done)) 54 :: Lr) := hM
  intro a hF
  refine s_eff hF rfl rfl rfl (w_box hF rfl rfl rfl fun b_B32_3 w hzB32_3 hAB32_3 => ?_)
  have hM := hM.plus hAB32_3
  replace hM : MemL _ (pt b_B32_3 (RState.enc (RState.mk x1.regs x1.stack s9 s11 s15 x1.at_ x1.steps x1.done)) 54 :: pt b_B32_2 (RState.enc (RState.mk x0.regs x0.stack s1 s3 s7 x0.at_ x0.steps x0.done)) 54 :: Lr) := hM
  intro a hF
  refine s_eff hF rfl rfl rfl (w_alloc z60 (zs := RMark.zero.enc) rfl rfl fun b_B32_4 w hzB32_4 hAB32_4 => ?_)
  have hM := hM.plus hAB32_4
  replace hM : MemL _ (pt b_B32_4 (RMark.enc (RMark.mk 0 0 false SV.nil SV.nil SV.nil SV.nil)) 60 :: pt b_B32_3 (RState.enc (RState.mk x1.regs x1.stack s9 s11 s15 x1.at_ x1.steps x1.done)) 54 :: pt b_B32_2 (RState.enc (RState.mk x0.regs x0.stack s1 s3 s7 x0.at_ x0.steps x0.done)) 54 :: Lr) := hM
  intro a hF
  refine s_val hF (r_assign hF rfl rfl) rfl rfl rfl fun a hF => ?_
  refine c_nil (n_then ?_)
  refine c_seq ?_
  refine c_seq ?_
  refine c_joinX hF hM hP (fun F x a w => match x with | v1465 => Fr 213 [(19, .bool v1465), (2, .pointer (some ⟨b_B32_2, 0, none⟩)), (3, .pointer (some ⟨b_B32_3, 0, none⟩)), (4, .pointer (some ⟨b_B32_4, 0, none⟩)), (5, .int .i64 0)] a ∧ MemL w (pt b_B32_4 (RMark.enc (RMark.mk 0 0 false SV.nil SV.nil SV.nil SV.nil)) 60 :: pt b_B32_3 (RState.enc (RState.mk x1.regs x1.stack s9 s11 s15 x1.at_ x1.steps x1.done)) 54 :: pt b_B32_2 (RState.enc (RState.mk x0.regs x0.stack s1 s3 s7 x0.at_ x0.steps x0.done)) 54 :: Lr)) (fun o_j1 hP hK_j1 hF hM => ?_) ?_
  · refine c_region ?_
    refine s_val hF (r_loadn Tryz.isAgg54 Tryz.sizeOf54 hF rfl rfl (RState.len _) (hM.cells (i := 2) rfl (cut_all (RState.len _)))) rfl rfl rfl fun a hF => ?_
    obtain ⟨y1467, hy1467, hP⟩ := bind_some hP
    refine s_eff hF rfl rfl rfl (w_call (xs := [.tmp 12]) Tryz.call87 hF rfl rfl (ref23_statePlain_calls hy1467 hM (Bf := Bf) (fun w hM => hsub _ (dropM hM 3)) f2 f5 q6 f8) fun v w hR => ?_)
    obtain ⟨rfl, hM⟩ := hR
    replace hM : MemL _ (pt b_B32_4 (RMark.enc (RMark.mk 0 0 false SV.nil SV.nil SV.nil SV.nil)) 60 :: pt b_B32_3 (RState.enc (RState.mk x1.regs x1.stack s9 s11 s15 x1.at_ x1.steps x1.done)) 54 :: pt b_B32_2 (RState.enc (RState.mk x0.regs x0.stack s1 s3 s7 x0.at_ x0.steps x0.done)) 54 :: Lr) := hM
    intro a hF
    refine s_val hF (r_not hF rfl rfl) rfl rfl rfl fun a hF => ?_
    refine s_val hF (r_move hF rfl rfl) rfl rfl rfl fun a hF => ?_
    refine g_split 15 hF rfl (fun hb1468 => ?_) (fun hb1468 => ?_)
    · have hP := Fx.cT hb1468 hP
      refine g_skip hF rfl rfl rfl hb1468 rfl rfl fun a hF => ?_
      refine g_skip hF rfl rfl rfl hb1468 rfl rfl fun a hF => ?_
      refine g_skip hF rfl rfl rfl hb1468 rfl rfl fun a hF => ?_
      refine s_val hF (r_pick1 hF rfl rfl hb1468 rfl) rfl rfl rfl fun a hF => ?_
      refine c_nil (n_then ?_)
      have hP := Option.some.inj hP
      subst hP
      exact ⟨true, rfl, hF.to ⟨rfl, rfl, rfl, rfl, rfl, trivial⟩, hM⟩
    have hP := Fx.cF hb1468 hP
    refine g_val hF rfl rfl rfl hb1468 (r_loadn Tryz.isAgg54 Tryz.sizeOf54 hF rfl rfl (RState.len _) (hM.cells (i := 1) rfl (cut_all (RState.len _)))) rfl rfl fun a hF => ?_
    obtain ⟨y1470, hy1470, hP⟩ := bind_some hP
    refine g_eff hF rfl rfl rfl hb1468 rfl rfl (w_call (xs := [.tmp 16]) Tryz.call87 hF rfl rfl (ref23_statePlain_calls hy1470 hM (Bf := Bf) (fun w hM => hsub _ (dropM hM 3)) f10 f13 q14 f16) fun v w hR => ?_)
    obtain ⟨rfl, hM⟩ := hR
    replace hM : MemL _ (pt b_B32_4 (RMark.enc (RMark.mk 0 0 false SV.nil SV.nil SV.nil SV.nil)) 60 :: pt b_B32_3 (RState.enc (RState.mk x1.regs x1.stack s9 s11 s15 x1.at_ x1.steps x1.done)) 54 :: pt b_B32_2 (RState.enc (RState.mk x0.regs x0.stack s1 s3 s7 x0.at_ x0.steps x0.done)) 54 :: Lr) := hM
    intro a hF
    refine g_val hF rfl rfl rfl hb1468 (r_not hF rfl rfl) rfl rfl fun a hF => ?_
    refine s_val hF (r_pick0 hF rfl rfl hb1468 rfl) rfl rfl rfl fun a hF => ?_
    refine c_nil (n_then ?_)
    have hP := Option.some.inj hP
    subst hP
    exact ⟨(!y1470), rfl, hF.to ⟨rfl, rfl, rfl, rfl, rfl, trivial⟩, hM⟩
  rintro v1465 a w hP ⟨hF, hM⟩
  replace hP : Sh.ref23_Diff_j1 x0 x1 v1465 = _ := hP
  unfold Sh.ref23_Diff_j1 at hP
  refine n_then ?_
  refine c_cond hF (c := .tmp 19) rfl (fun hb1471 => ?_) (fun hb1471 => ?_)
  · have hP := Fx.cT hb1471 hP
    refine c_seq ?_
    refine c_region ?_
    refine s_val hF (r_build z60 Tryz.underlying60 pl60 hF (parts := []) rfl rfl fill_e) rfl rfl rfl fun a hF => ?_
    refine s_eff0 rfl rfl (w_storen (vs := _) Tryz.sizeOf60 (hM.obj (i := 0) rfl) hF rfl rfl rfl rfl (RMark.len _) (RMark.one _) (by first | (rw [RMark.len, RMark.len]; decide) | (rw [RMark.len]; decide)) (put_all ((RMark.len _).trans (RMark.len _).symm)) fun w hU1472 => ?_)
    have hM := hM.chg hU1472 (i := 0) rfl
    replace hM : MemL _ (pt b_B32_4 (RMark.enc (RMark.mk 0 0 false SV.nil SV.nil SV.nil SV.nil)) 60 :: pt b_B32_3 (RState.enc (RState.mk x1.regs x1.stack s9 s11 s15 x1.at_ x1.steps x1.done)) 54 :: pt b_B32_2 (RState.enc (RState.mk x0.regs x0.stack s1 s3 s7 x0.at_ x0.steps x0.done)) 54 :: Lr) := hM
    refine s_val hF (r_assign hF rfl rfl) rfl rfl rfl fun a hF => ?_
    refine c_nil (n_then ?_)
    refine c_ret ?_
    have hM := hM.rowNil (X := LTurn) 0 128
    have hM := hM.rowNil (X := LCell) 0 151
    obtain ⟨r1476, hM⟩ := voidM hM
    have q1477 : Each (QPieceIn r1476.holds') ([] : List RPiece) ([] : List QPiece) := Each.nil
    have hM := hM.rowNil (X := RPiece) 0 156
    have hM := hM.rowNil (X := Int) 0 3
    have hP := Option.some.inj hP
    subst hP
    refine e_ret (rs := [.cell 4 60, .tmp 5]) Tryz.results32 hF (res_celln hF rfl Tryz.isAgg60 Tryz.sizeOf60 (RMark.len _) (hM.cells (i := 5) rfl (cut_all (RMark.len _))) (res_tmp hF rfl res_nil)) rfl ?_
    exact ⟨SV.nil, SV.nil, SV.nil, [], r1476, SV.nil, rfl, q1477, selM hM [4, 3, 1, 2, 0] 8 rfl⟩
  have hP := Fx.cF hb1471 hP
  refine c_skip (n_then ?_)
  refine c_seq ?_
  refine c_seq ?_
  refine c_joinX hF hM hP (fun F x a w => match x with | v1507 => Fr 213 [(67, .bool v1507), (2, .pointer (some ⟨b_B32_2, 0, none⟩)), (3, .pointer (some ⟨b_B32_3, 0, none⟩)), (4, .pointer (some ⟨b_B32_4, 0, none⟩)), (5, .int .i64 0)] a ∧ MemL w (pt b_B32_4 (RMark.enc (RMark.mk 0 0 false SV.nil SV.nil SV.nil SV.nil)) 60 :: pt b_B32_3 (RState.enc (RState.mk x1.regs x1.stack s9 s11 s15 x1.at_ x1.steps x1.done)) 54 :: pt b_B32_2 (RState.enc (RState.mk x0.regs x0.stack s1 s3 s7 x0.at_ x0.steps x0.done)) 54 :: Lr)) (fun o_j2 hP hK_j2 hF hM => ?_) ?_
  · refine c_region ?_
    refine s_val hF (r_fieldAddr (off' := 465) Tryz.underlying54 rfl in4 rfl hF rfl rfl rfl) rfl rfl rfl fun a hF => ?_
    refine s_val hF (r_load1 Tryz.isAgg4 hF rfl rfl (hM.cell (i := 2) rfl (RState.g_done _))) rfl rfl rfl fun a hF => ?_
    refine s_val hF (r_move hF rfl rfl) rfl rfl rfl fun a hF => ?_
    refine g_split 23 hF rfl (fun hb1508 => ?_) (fun hb1508 => ?_)
    · have hP := Fx.cT hb1508 hP
      refine g_skip hF rfl rfl rfl hb1508 rfl rfl fun a hF => ?_
      refine g_skip hF rfl rfl rfl hb1508 rfl rfl fun a hF => ?_
      refine g_skip hF rfl rfl rfl hb1508 rfl rfl fun a hF => ?_
      refine g_skip hF rfl rfl rfl hb1508 rfl rfl fun a hF => ?_
      refine g_skip hF rfl rfl rfl hb1508 rfl rfl fun a hF => ?_
      refine g_skip hF rfl rfl rfl hb1508 rfl rfl fun a hF => ?_
      refine s_val hF (r_pick1 hF rfl rfl hb1508 rfl) rfl rfl rfl fun a hF => ?_
      refine s_val hF (r_move hF rfl rfl) rfl rfl rfl fun a hF => ?_
      refine g_skip hF rfl rfl rfl rfl rfl rfl fun a hF => ?_
      refine g_skip hF rfl rfl rfl rfl rfl rfl fun a hF => ?_
      refine g_skip hF rfl rfl rfl rfl rfl rfl fun a hF => ?_
      refine g_skip hF rfl rfl rfl rfl rfl rfl fun a hF => ?_
      refine g_skip hF rfl rfl rfl rfl rfl rfl fun a hF => ?_
      refine g_skip hF rfl rfl rfl rfl rfl rfl fun a hF => ?_
      refine g_skip hF rfl rfl rfl rfl rfl rfl fun a hF => ?_
      refine s_val hF (r_pick1 hF rfl rfl rfl rfl) rfl rfl rfl fun a hF => ?_
      refine s_val hF (r_move hF rfl rfl) rfl rfl rfl fun a hF => ?_
      refine g_skip hF rfl rfl rfl rfl rfl rfl fun a hF => ?_
      refine g_skip hF rfl rfl rfl rfl rfl rfl fun a hF => ?_
      refine g_skip hF rfl rfl rfl rfl rfl rfl fun a hF => ?_
      refine g_skip hF rfl rfl rfl rfl rfl rfl fun a hF => ?_
      refine g_skip hF rfl rfl rfl rfl rfl rfl fun a hF => ?_
      refine g_skip hF rfl rfl rfl rfl rfl rfl fun a hF => ?_
      refine g_skip hF rfl rfl rfl rfl rfl rfl fun a hF => ?_
      refine s_val hF (r_pick1 hF rfl rfl rfl rfl) rfl rfl rfl fun a hF => ?_
      refine s_val hF (r_move hF rfl rfl) rfl rfl rfl fun a hF => ?_
      refine g_skip hF rfl rfl rfl rfl rfl rfl fun a hF => ?_
      refine g_skip hF rfl rfl rfl rfl rfl rfl fun a hF => ?_
      refine g_skip hF rfl rfl rfl rfl rfl rfl fun a hF => ?_
      refine g_skip hF rfl rfl rfl rfl rfl rfl fun a hF => ?_
      refine g_skip hF rfl rfl rfl rfl rfl rfl fun a hF => ?_
      refine g_skip hF rfl rfl rfl rfl rfl rfl fun a hF => ?_
      refine g_skip hF rfl rfl rfl rfl rfl rfl fun a hF => ?_
      refine s_val hF (r_pick1 hF rfl rfl rfl rfl) rfl rfl rfl fun a hF => ?_
      refine s_val hF (r_move hF rfl rfl) rfl rfl rfl fun a hF => ?_
      refine g_skip hF rfl rfl rfl rfl rfl rfl fun a hF => ?_
      refine g_skip hF rfl rfl rfl rfl rfl rfl fun a hF => ?_
      refine g_skip hF rfl rfl rfl rfl rfl rfl fun a hF => ?_
      refine g_skip hF rfl rfl rfl rfl rfl rfl fun a hF => ?_
      refine g_skip hF rfl rfl rfl rfl rfl rfl fun a hF => ?_
      refine g_skip hF rfl rfl rfl rfl rfl rfl fun a hF => ?_
      refine g_skip hF rfl rfl rfl rfl rfl rfl fun a hF => ?_
      refine g_skip hF rfl rfl rfl rfl rfl rfl fun a hF => ?_
      refine s_val hF (r_pick1 hF rfl rfl rfl rfl) rfl rfl rfl fun a hF => ?_
      refine c_nil (n_then ?_)
      have hP := Option.some.inj hP
      subst hP
      exact ⟨true, rfl, hF.to ⟨rfl, rfl, rfl, rfl, rfl, trivial⟩, hM⟩
    have hP := Fx.cF hb1508 hP
    refine g_val hF rfl rfl rfl hb1508 (r_fieldAddr (off' := 464) Tryz.underlying54 rfl in3 rfl hF rfl rfl rfl) rfl rfl fun a hF => ?_
    refine g_val hF rfl rfl rfl hb1508 (r_load1 Tryz.isAgg3 hF rfl rfl (hM.cell (i := 1) rfl (RState.g_steps _))) rfl rfl fun a hF => ?_
    refine g_val hF rfl rfl rfl hb1508 (r_fieldAddr (off' := 464) Tryz.underlying54 rfl in3 rfl hF rfl rfl rfl) rfl rfl fun a hF => ?_
    refine g_val hF rfl rfl rfl hb1508 (r_load1 Tryz.isAgg3 hF rfl rfl (hM.cell (i := 2) rfl (RState.g_steps _))) rfl rfl fun a hF => ?_
    refine g_val hF rfl rfl rfl hb1508 (r_add hF rfl rfl rfl) rfl rfl fun a hF => ?_
    refine g_val hF rfl rfl rfl hb1508 (r_neq hF rfl rfl rfl) rfl rfl fun a hF => ?_
    refine s_val hF (r_pick0 hF rfl rfl hb1508 rfl) rfl rfl rfl fun a hF => ?_
    refine s_val hF (r_move hF rfl rfl) rfl rfl rfl fun a hF => ?_
    refine g_split 31 hF rfl (fun hb1509 => ?_) (fun hb1509 => ?_)
    · have hP := Fx.cT hb1509 hP
      refine g_skip hF rfl rfl rfl hb1509 rfl rfl fun a hF => ?_
      refine g_skip hF rfl rfl rfl hb1509 rfl rfl fun a hF => ?_
      refine g_skip hF rfl rfl rfl hb1509 rfl rfl fun a hF => ?_
      refine g_skip hF rfl rfl rfl hb1509 rfl rfl fun a hF => ?_
      refine g_skip hF rfl rfl rfl hb1509 rfl rfl fun a hF => ?_
      refine g_skip hF rfl rfl rfl hb1509 rfl rfl fun a hF => ?_
      refine g_skip hF rfl rfl rfl hb1509 rfl rfl fun a hF => ?_
      refine s_val hF (r_pick1 hF rfl rfl hb1509 rfl) rfl rfl rfl fun a hF => ?_
      refine s_val hF (r_move hF rfl rfl) rfl rfl rfl fun a hF => ?_
      refine g_skip hF rfl rfl rfl rfl rfl rfl fun a hF => ?_
      refine g_skip hF rfl rfl rfl rfl rfl rfl fun a hF => ?_
      refine g_skip hF rfl rfl rfl rfl rfl rfl fun a hF => ?_
      refine g_skip hF rfl rfl rfl rfl rfl rfl fun a hF => ?_
      refine g_skip hF rfl rfl rfl rfl rfl rfl fun a hF => ?_
      refine g_skip hF rfl rfl rfl rfl rfl rfl fun a hF => ?_
      refine g_skip hF rfl rfl rfl rfl rfl rfl fun a hF => ?_
      refine s_val hF (r_pick1 hF rfl rfl rfl rfl) rfl rfl rfl fun a hF => ?_
      refine s_val hF (r_move hF rfl rfl) rfl rfl rfl fun a hF => ?_
      refine g_skip hF rfl rfl rfl rfl rfl rfl fun a hF => ?_
      refine g_skip hF rfl rfl rfl rfl rfl rfl fun a hF => ?_
      refine g_skip hF rfl rfl rfl rfl rfl rfl fun a hF => ?_
      refine g_skip hF rfl rfl rfl rfl rfl rfl fun a hF => ?_
      refine g_skip hF rfl rfl rfl rfl rfl rfl fun a hF => ?_
      refine g_skip hF rfl rfl rfl rfl rfl rfl fun a hF => ?_
      refine g_skip hF rfl rfl rfl rfl rfl rfl fun a hF => ?_
      refine s_val hF (r_pick1 hF rfl rfl rfl rfl) rfl rfl rfl fun a hF => ?_
      refine s_val hF (r_move hF rfl rfl) rfl rfl rfl fun a hF => ?_
      refine g_skip hF rfl rfl rfl rfl rfl rfl fun a hF => ?_
      refine g_skip hF rfl rfl rfl rfl rfl rfl fun a hF => ?_
      refine g_skip hF rfl rfl rfl rfl rfl rfl fun a hF => ?_
      refine g_skip hF rfl rfl rfl rfl rfl rfl fun a hF => ?_
      refine g_skip hF rfl rfl rfl rfl rfl rfl fun a hF => ?_
      refine g_skip hF rfl rfl rfl rfl rfl rfl fun a hF => ?_
      refine g_skip hF rfl rfl rfl rfl rfl rfl fun a hF => ?_
      refine g_skip hF rfl rfl rfl rfl rfl rfl fun a hF => ?_
      refine s_val hF (r_pick1 hF rfl rfl rfl rfl) rfl rfl rfl fun a hF => ?_
      refine c_nil (n_then ?_)
      have hP := Option.some.inj hP
      subst hP
      exact ⟨true, rfl, hF.to ⟨rfl, rfl, rfl, rfl, rfl, trivial⟩, hM⟩
    have hP := Fx.cF hb1509 hP
    refine g_val hF rfl rfl rfl hb1509 (r_fieldAddr (off' := 460) Tryz.underlying54 rfl in23 rfl hF rfl rfl rfl) rfl rfl fun a hF => ?_
    refine g_val hF rfl rfl rfl hb1509 (r_load1 Tryz.isAgg23 hF rfl rfl (hM.cell (i := 2) rfl (RState.g_ctx _))) rfl rfl fun a hF => ?_
    refine g_val hF rfl rfl rfl hb1509 (r_lenL (f2 _ (hsub _ (dropM hM 3))) Tryz.underlying23 hF rfl rfl) rfl rfl fun a hF => ?_
    refine g_val hF rfl rfl rfl hb1509 (r_fieldAddr (off' := 460) Tryz.underlying54 rfl in23 rfl hF rfl rfl rfl) rfl rfl fun a hF => ?_
    refine g_val hF rfl rfl rfl hb1509 (r_load1 Tryz.isAgg23 hF rfl rfl (hM.cell (i := 1) rfl (RState.g_ctx _))) rfl rfl fun a hF => ?_
    refine g_val hF rfl rfl rfl hb1509 (r_lenL (f10 _ (hsub _ (dropM hM 3))) Tryz.underlying23 hF rfl rfl) rfl rfl fun a hF => ?_
    refine g_val hF rfl rfl rfl hb1509 (r_neq hF rfl rfl rfl) rfl rfl fun a hF => ?_
    refine s_val hF (r_pick0 hF rfl rfl hb1509 rfl) rfl rfl rfl fun a hF => ?_
    refine s_val hF (r_move hF rfl rfl) rfl rfl rfl fun a hF => ?_
    refine g_split 40 hF rfl (fun hb1510 => ?_) (fun hb1510 => ?_)
    · have hP := Fx.cT hb1510 hP
      refine g_skip hF rfl rfl rfl hb1510 rfl rfl fun a hF => ?_
      refine g_skip hF rfl rfl rfl hb1510 rfl rfl fun a hF => ?_
      refine g_skip hF rfl rfl rfl hb1510 rfl rfl fun a hF => ?_
      refine g_skip hF rfl rfl rfl hb1510 rfl rfl fun a hF => ?_
      refine g_skip hF rfl rfl rfl hb1510 rfl rfl fun a hF => ?_
      refine g_skip hF rfl rfl rfl hb1510 rfl rfl fun a hF => ?_
      refine g_skip hF rfl rfl rfl hb1510 rfl rfl fun a hF => ?_
      refine s_val hF (r_pick1 hF rfl rfl hb1510 rfl) rfl rfl rfl fun a hF => ?_
      refine s_val hF (r_move hF rfl rfl) rfl rfl rfl fun a hF => ?_
      refine g_skip hF rfl rfl rfl rfl rfl rfl fun a hF => ?_
      refine g_skip hF rfl rfl rfl rfl rfl rfl fun a hF => ?_
      refine g_skip hF rfl rfl rfl rfl rfl rfl fun a hF => ?_
      refine g_skip hF rfl rfl rfl rfl rfl rfl fun a hF => ?_
      refine g_skip hF rfl rfl rfl rfl rfl rfl fun a hF => ?_
      refine g_skip hF rfl rfl rfl rfl rfl rfl fun a hF => ?_
      refine g_skip hF rfl rfl rfl rfl rfl rfl fun a hF => ?_
      refine s_val hF (r_pick1 hF rfl rfl rfl rfl) rfl rfl rfl fun a hF => ?_
      refine s_val hF (r_move hF rfl rfl) rfl rfl rfl fun a hF => ?_
      refine g_skip hF rfl rfl rfl rfl rfl rfl fun a hF => ?_
      refine g_skip hF rfl rfl rfl rfl rfl rfl fun a hF => ?_
      refine g_skip hF rfl rfl rfl rfl rfl rfl fun a hF => ?_
      refine g_skip hF rfl rfl rfl rfl rfl rfl fun a hF => ?_
      refine g_skip hF rfl rfl rfl rfl rfl rfl fun a hF => ?_
      refine g_skip hF rfl rfl rfl rfl rfl rfl fun a hF => ?_
      refine g_skip hF rfl rfl rfl rfl rfl rfl fun a hF => ?_
      refine g_skip hF rfl rfl rfl rfl rfl rfl fun a hF => ?_
      refine s_val hF (r_pick1 hF rfl rfl rfl rfl) rfl rfl rfl fun a hF => ?_
      refine c_nil (n_then ?_)
      have hP := Option.some.inj hP
      subst hP
      exact ⟨true, rfl, hF.to ⟨rfl, rfl, rfl, rfl, rfl, trivial⟩, hM⟩
    have hP := Fx.cF hb1510 hP
    refine g_val hF rfl rfl rfl hb1510 (r_fieldAddr (off' := 461) Tryz.underlying54 rfl in28 rfl hF rfl rfl rfl) rfl rfl fun a hF => ?_
    refine g_val hF rfl rfl rfl hb1510 (r_load1 Tryz.isAgg28 hF rfl rfl (hM.cell (i := 2) rfl (RState.g_tables _))) rfl rfl fun a hF => ?_
    refine g_val hF rfl rfl rfl hb1510 (r_lenD (f5 _ (hsub _ (dropM hM 3))) q6.len Tryz.underlying28 hF rfl rfl) rfl rfl fun a hF => ?_
    refine g_val hF rfl rfl rfl hb1510 (r_fieldAddr (off' := 461) Tryz.underlying54 rfl in28 rfl hF rfl rfl rfl) rfl rfl fun a hF => ?_
    refine g_val hF rfl rfl rfl hb1510 (r_load1 Tryz.isAgg28 hF rfl rfl (hM.cell (i := 1) rfl (RState.g_tables _))) rfl rfl fun a hF => ?_
    refine g_val hF rfl rfl rfl hb1510 (r_lenD (f13 _ (hsub _ (dropM hM 3))) q14.len Tryz.underlying28 hF rfl rfl) rfl rfl fun a hF => ?_
    refine g_val hF rfl rfl rfl hb1510 (r_neq hF rfl rfl rfl) rfl rfl fun a hF => ?_
    refine s_val hF (r_pick0 hF rfl rfl hb1510 rfl) rfl rfl rfl fun a hF => ?_
    refine s_val hF (r_move hF rfl rfl) rfl rfl rfl fun a hF => ?_
    refine g_split 49 hF rfl (fun hb1511 => ?_) (fun hb1511 => ?_)
    · have hP := Fx.cT hb1511 hP
      refine g_skip hF rfl rfl rfl hb1511 rfl rfl fun a hF => ?_
      refine g_skip hF rfl rfl rfl hb1511 rfl rfl fun a hF => ?_
      refine g_skip hF rfl rfl rfl hb1511 rfl rfl fun a hF => ?_
      refine g_skip hF rfl rfl rfl hb1511 rfl rfl fun a hF => ?_
      refine g_skip hF rfl rfl rfl hb1511 rfl rfl fun a hF => ?_
      refine g_skip hF rfl rfl rfl hb1511 rfl rfl fun a hF => ?_
      refine g_skip hF rfl rfl rfl hb1511 rfl rfl fun a hF => ?_
      refine s_val hF (r_pick1 hF rfl rfl hb1511 rfl) rfl rfl rfl fun a hF => ?_
      refine s_val hF (r_move hF rfl rfl) rfl rfl rfl fun a hF => ?_
      refine g_skip hF rfl rfl rfl rfl rfl rfl fun a hF => ?_
      refine g_skip hF rfl rfl rfl rfl rfl rfl fun a hF => ?_
      refine g_skip hF rfl rfl rfl rfl rfl rfl fun a hF => ?_
      refine g_skip hF rfl rfl rfl rfl rfl rfl fun a hF => ?_
      refine g_skip hF rfl rfl rfl rfl rfl rfl fun a hF => ?_
      refine g_skip hF rfl rfl rfl rfl rfl rfl fun a hF => ?_
      refine g_skip hF rfl rfl rfl rfl rfl rfl fun a hF => ?_
      refine g_skip hF rfl rfl rfl rfl rfl rfl fun a hF => ?_
      refine s_val hF (r_pick1 hF rfl rfl rfl rfl) rfl rfl rfl fun a hF => ?_
      refine c_nil (n_then ?_)
      have hP := Option.some.inj hP
      subst hP
      exact ⟨true, rfl, hF.to ⟨rfl, rfl, rfl, rfl, rfl, trivial⟩, hM⟩
    have hP := Fx.cF hb1511 hP
    refine g_val hF rfl rfl rfl hb1511 (r_fieldAddr (off' := 462) Tryz.underlying54 rfl in52 rfl hF rfl rfl rfl) rfl rfl fun a hF => ?_
    refine g_val hF rfl rfl rfl hb1511 (r_load1 Tryz.isAgg52 hF rfl rfl (hM.cell (i := 1) rfl (RState.g_sent _))) rfl rfl fun a hF => ?_
    refine g_val hF rfl rfl rfl hb1511 (r_lenL (f16 _ (hsub _ (dropM hM 3))) Tryz.underlying52 hF rfl rfl) rfl rfl fun a hF => ?_
    refine g_val hF rfl rfl rfl hb1511 (r_fieldAddr (off' := 462) Tryz.underlying54 rfl in52 rfl hF rfl rfl rfl) rfl rfl fun a hF => ?_
    refine g_val hF rfl rfl rfl hb1511 (r_load1 Tryz.isAgg52 hF rfl rfl (hM.cell (i := 2) rfl (RState.g_sent _))) rfl rfl fun a hF => ?_
    refine g_val hF rfl rfl rfl hb1511 (r_lenL (f8 _ (hsub _ (dropM hM 3))) Tryz.underlying52 hF rfl rfl) rfl rfl fun a hF => ?_
    refine g_val hF rfl rfl rfl hb1511 (r_lss hF rfl rfl rfl) rfl rfl fun a hF => ?_
    refine s_val hF (r_pick0 hF rfl rfl hb1511 rfl) rfl rfl rfl fun a hF => ?_
    refine s_val hF (r_move hF rfl rfl) rfl rfl rfl fun a hF => ?_
    refine g_split 58 hF rfl (fun hb1512 => ?_) (fun hb1512 => ?_)
    · have hP := Fx.cT hb1512 hP
      refine g_skip hF rfl rfl rfl hb1512 rfl rfl fun a hF => ?_
      refine g_skip hF rfl rfl rfl hb1512 rfl rfl fun a hF => ?_
      refine g_skip hF rfl rfl rfl hb1512 rfl rfl fun a hF => ?_
      refine g_skip hF rfl rfl rfl hb1512 rfl rfl fun a hF => ?_
      refine g_skip hF rfl rfl rfl hb1512 rfl rfl fun a hF => ?_
      refine g_skip hF rfl rfl rfl hb1512 rfl rfl fun a hF => ?_
      refine g_skip hF rfl rfl rfl hb1512 rfl rfl fun a hF => ?_
      refine g_skip hF rfl rfl rfl hb1512 rfl rfl fun a hF => ?_
      refine s_val hF (r_pick1 hF rfl rfl hb1512 rfl) rfl rfl rfl fun a hF => ?_
      refine c_nil (n_then ?_)
      have hP := Option.some.inj hP
      subst hP
      exact ⟨true, rfl, hF.to ⟨rfl, rfl, rfl, rfl, rfl, trivial⟩, hM⟩
    have hP := Fx.cF hb1512 hP
    refine g_val hF rfl rfl rfl hb1512 (r_fieldAddr (off' := 462) Tryz.underlying54 rfl in52 rfl hF rfl rfl rfl) rfl rfl fun a hF => ?_
    refine g_val hF rfl rfl rfl hb1512 (r_load1 Tryz.isAgg52 hF rfl rfl (hM.cell (i := 1) rfl (RState.g_sent _))) rfl rfl fun a hF => ?_
    refine g_val hF rfl rfl rfl hb1512 (r_lenL (f16 _ (hsub _ (dropM hM 3))) Tryz.underlying52 hF rfl rfl) rfl rfl fun a hF => ?_
    refine g_val hF rfl rfl rfl hb1512 (r_fieldAddr (off' := 462) Tryz.underlying54 rfl in52 rfl hF rfl rfl rfl) rfl rfl fun a hF => ?_
    refine g_val hF rfl rfl rfl hb1512 (r_load1 Tryz.isAgg52 hF rfl rfl (hM.cell (i := 2) rfl (RState.g_sent _))) rfl rfl fun a hF => ?_
    refine g_val hF rfl rfl rfl hb1512 (r_lenL (f8 _ (hsub _ (dropM hM 3))) Tryz.underlying52 hF rfl rfl) rfl rfl fun a hF => ?_
    refine g_val hF rfl rfl rfl hb1512 (r_add hF rfl rfl rfl) rfl rfl fun a hF => ?_
    refine g_val hF rfl rfl rfl hb1512 (r_gtr hF rfl rfl rfl) rfl rfl fun a hF => ?_
    refine s_val hF (r_pick0 hF rfl rfl hb1512 rfl) rfl rfl rfl fun a hF => ?_
    refine c_nil (n_then ?_)
    have hP := Option.some.inj hP
    subst hP
    exact ⟨(decide ((IntKind.i64.wrap ((x0.sent.length : Int) + 1)) < (x1.sent.length : Int))), rfl, hF.to ⟨rfl, rfl, rfl, rfl, rfl, trivial⟩, hM⟩
  rintro v1507 a w hP ⟨hF, hM⟩
  replace hP : Sh.ref23_Diff_j2 x0 x1 v1507 = _ := hP
  unfold Sh.ref23_Diff_j2 at hP
  refine n_then ?_
  refine c_cond hF (c := .tmp 67) rfl (fun hb1513 => ?_) (fun hb1513 => ?_)
  · have hP := Fx.cT hb1513 hP
    refine c_seq ?_
    refine c_region ?_
    refine s_val hF (r_build z60 Tryz.underlying60 pl60 hF (parts := []) rfl rfl fill_e) rfl rfl rfl fun a hF => ?_
    refine s_eff0 rfl rfl (w_storen (vs := _) Tryz.sizeOf60 (hM.obj (i := 0) rfl) hF rfl rfl rfl rfl (RMark.len _) (RMark.one _) (by first | (rw [RMark.len, RMark.len]; decide) | (rw [RMark.len]; decide)) (put_all ((RMark.len _).trans (RMark.len _).symm)) fun w hU1514 => ?_)
    have hM := hM.chg hU1514 (i := 0) rfl
    replace hM : MemL _ (pt b_B32_4 (RMark.enc (RMark.mk 0 0 false SV.nil SV.nil SV.nil SV.nil)) 60 :: pt b_B32_3 (RState.enc (RState.mk x1.regs x1.stack s9 s11 s15 x1.at_ x1.steps x1.done)) 54 :: pt b_B32_2 (RState.enc (RState.mk x0.regs x0.stack s1 s3 s7 x0.at_ x0.steps x0.done)) 54 :: Lr) := hM
    refine s_val hF (r_assign hF rfl rfl) rfl rfl rfl fun a hF => ?_
    refine c_nil (n_then ?_)
    refine c_ret ?_
    have hM := hM.rowNil (X := LTurn) 0 128
    have hM := hM.rowNil (X := LCell) 0 151
    obtain ⟨r1518, hM⟩ := voidM hM
    have q1519 : Each (QPieceIn r1518.holds') ([] : List RPiece) ([] : List QPiece) := Each.nil
    have hM := hM.rowNil (X := RPiece) 0 156
    have hM := hM.rowNil (X := Int) 0 3
    have hP := Option.some.inj hP
    subst hP
    refine e_ret (rs := [.cell 4 60, .tmp 5]) Tryz.results32 hF (res_celln hF rfl Tryz.isAgg60 Tryz.sizeOf60 (RMark.len _) (hM.cells (i := 5) rfl (cut_all (RMark.len _))) (res_tmp hF rfl res_nil)) rfl ?_
    exact ⟨SV.nil, SV.nil, SV.nil, [], r1518, SV.nil, rfl, q1519, selM hM [4, 3, 1, 2, 0] 8 rfl⟩
  have hP := Fx.cF hb1513 hP
  refine c_skip (n_then ?_)
  refine c_seq ?_
  refine c_joinX hF hM hP (fun F x a w => match x with | _ => Fr 213 [(2, .pointer (some ⟨b_B32_2, 0, none⟩)), (3, .pointer (some ⟨b_B32_3, 0, none⟩)), (4, .pointer (some ⟨b_B32_4, 0, none⟩)), (5, .int .i64 0)] a ∧ MemL w (pt b_B32_4 (RMark.enc (RMark.mk 0 0 false SV.nil SV.nil SV.nil SV.nil)) 60 :: pt b_B32_3 (RState.enc (RState.mk x1.regs x1.stack s9 s11 s15 x1.at_ x1.steps x1.done)) 54 :: pt b_B32_2 (RState.enc (RState.mk x0.regs x0.stack s1 s3 s7 x0.at_ x0.steps x0.done)) 54 :: Lr)) (fun o_j3 hP hK_j3 hF hM => ?_) ?_
  · refine c_seq ?_
    refine c_region ?_
    refine s_val hF (r_assign hF rfl rfl) rfl rfl rfl fun a hF => ?_
    refine c_nil (n_then ?_)
    refine c_block ?_
    refine c_loopX hF hM hP (fun F x a w => match x with | v1638 => Fr 213 [(6, .int .i64 v1638), (2, .pointer (some ⟨b_B32_2, 0, none⟩)), (3, .pointer (some ⟨b_B32_3, 0, none⟩)), (4, .pointer (some ⟨b_B32_4, 0, none⟩)), (5, .int .i64 0)] a ∧ MemL w (pt b_B32_4 (RMark.enc (RMark.mk 0 0 false SV.nil SV.nil SV.nil SV.nil)) 60 :: pt b_B32_3 (RState.enc (RState.mk x1.regs x1.stack s9 s11 s15 x1.at_ x1.steps x1.done)) 54 :: pt b_B32_2 (RState.enc (RState.mk x0.regs x0.stack s1 s3 s7 x0.at_ x0.steps x0.done)) 54 :: Lr)) (fun hF hM => ⟨hF.to ⟨rfl, rfl, rfl, rfl, rfl, trivial⟩, hM⟩) ?_
    rintro v1638 a w o_l4 hP hK_l4 ⟨hF, hM⟩
    replace hP : Sh.ref23_Diff_l4 x0 x1 v1638 = _ := hP
    unfold Sh.ref23_Diff_l4 at hP
    refine c_seq ?_
    refine c_seq ?_
    refine c_region ?_
    refine s_val hF (r_move hF rfl rfl) rfl rfl rfl fun a hF => ?_
    refine s_val hF (r_fieldAddr (off' := 461) Tryz.underlying54 rfl in28 rfl hF rfl rfl rfl) rfl rfl rfl fun a hF => ?_
    refine s_val hF (r_load1 Tryz.isAgg28 hF rfl rfl (hM.cell (i := 2) rfl (RState.g_tables _))) rfl rfl rfl fun a hF => ?_
    refine s_val hF (r_lenD (f5 _ (hsub _ (dropM hM 3))) q6.len Tryz.underlying28 hF rfl rfl) rfl rfl rfl fun a hF => ?_
    refine s_val hF (r_lss hF rfl rfl rfl) rfl rfl rfl fun a hF => ?_
    refine c_nil (n_then ?_)
    refine c_cond hF (c := .tmp 73) rfl (fun hb1640 => ?_) (fun hb1640 => ?_)
    · have hP := Fx.cT hb1640 hP
      refine c_skip (n_then ?_)
      refine c_seq ?_
      refine c_block ?_
      refine c_seq ?_
      refine d_startT mixed (by kernel_rfl) hM [0, 1, 2] 3 rfl fun hch => ?_
      refine d_val hF hch 0 rfl (by kernel_rfl) rfl rfl rfl (fun w hM => (r_fieldAddr (off' := 461) Tryz.underlying54 rfl in28 rfl hF rfl rfl rfl)) fun a hF => ?_
      refine d_val hF hch 1 rfl (by kernel_rfl) rfl rfl rfl (fun w hM => (r_load1 Tryz.isAgg28 hF rfl rfl (hM.cell (i := 2) rfl (RState.g_tables _)))) fun a hF => ?_
      refine d_val hF hch 2 rfl (by kernel_rfl) rfl rfl rfl (fun w hM => (r_move hF rfl rfl)) fun a hF => ?_
      obtain ⟨x1649, hx1649, hP⟩ := bind_some hP
      have h0x1649 := get_some hx1649
      obtain ⟨yx1649, hgx1649, hrx1649⟩ := Each.getr q6 h0x1649.2
      have hdx1649 := Each.bd q6 (get_bd hx1649)
      refine d_val hF hch 3 rfl (by kernel_rfl) rfl rfl rfl (fun w hM => (r_indexZ (sz := 1) (f5 _ (hsub _ (dropM hM 3))) Tryz.underlying28 in23 rfl hF rfl rfl rfl hdx1649)) fun a hF => ?_
      refine d_val hF hch 4 rfl (by kernel_rfl) rfl rfl rfl (fun w hM => (r_load1 Tryz.isAgg23 hF rfl rfl ((((f5 _ (hsub _ (dropM hM 3))).elemS hgx1649)).get 0 rfl))) fun a hF => ?_
      refine d_val hF hch 5 rfl (by kernel_rfl) rfl rfl rfl (fun w hM => (r_lenL (hrx1649 _ (hsub _ (dropM hM 3))) Tryz.underlying23 hF rfl rfl)) fun a hF => ?_
      refine d_val hF hch 6 rfl (by kernel_rfl) rfl rfl rfl (fun w hM => (r_fieldAddr (off' := 461) Tryz.underlying54 rfl in28 rfl hF rfl rfl rfl)) fun a hF => ?_
      refine d_val hF hch 7 rfl (by kernel_rfl) rfl rfl rfl (fun w hM => (r_load1 Tryz.isAgg28 hF rfl rfl (hM.cell (i := 1) rfl (RState.g_tables _)))) fun a hF => ?_
      refine d_val hF hch 8 rfl (by kernel_rfl) rfl rfl rfl (fun w hM => (r_move hF rfl rfl)) fun a hF => ?_
      obtain ⟨x1650, hx1650, hP⟩ := bind_some hP
      have h0x1650 := get_some hx1650
      obtain ⟨yx1650, hgx1650, hrx1650⟩ := Each.getr q14 h0x1650.2
      have hdx1650 := Each.bd q14 (get_bd hx1650)
      refine d_val hF hch 9 rfl (by kernel_rfl) rfl rfl rfl (fun w hM => (r_indexZ (sz := 1) (f13 _ (hsub _ (dropM hM 3))) Tryz.underlying28 in23 rfl hF rfl rfl rfl hdx1650)) fun a hF => ?_
      refine d_val hF hch 10 rfl (by kernel_rfl) rfl rfl rfl (fun w hM => (r_load1 Tryz.isAgg23 hF rfl rfl ((((f13 _ (hsub _ (dropM hM 3))).elemS hgx1650)).get 0 rfl))) fun a hF => ?_
      refine d_val hF hch 11 rfl (by kernel_rfl) rfl rfl rfl (fun w hM => (r_lenL (hrx1650 _ (hsub _ (dropM hM 3))) Tryz.underlying23 hF rfl rfl)) fun a hF => ?_
      refine d_val hF hch 12 rfl (by kernel_rfl) rfl rfl rfl (fun w hM => (r_neq hF rfl rfl rfl)) fun a hF => ?_
      refine d_end hch (by kernel_rfl) fun w hM => ?_
      refine n_then ?_
      refine c_cond hF (c := .tmp 88) rfl (fun hb1651 => ?_) (fun hb1651 => ?_)
      · have hP := Fx.cT hb1651 hP
        refine c_seq ?_
        refine c_region ?_
        refine s_val hF (r_build z60 Tryz.underlying60 pl60 hF (parts := []) rfl rfl fill_e) rfl rfl rfl fun a hF => ?_
        refine s_eff0 rfl rfl (w_storen (vs := _) Tryz.sizeOf60 (hM.obj (i := 0) rfl) hF rfl rfl rfl rfl (RMark.len _) (RMark.one _) (by first | (rw [RMark.len, RMark.len]; decide) | (rw [RMark.len]; decide)) (put_all ((RMark.len _).trans (RMark.len _).symm)) fun w hU1652 => ?_)
        have hM := hM.chg hU1652 (i := 0) rfl
        replace hM : MemL _ (pt b_B32_4 (RMark.enc (RMark.mk 0 0 false SV.nil SV.nil SV.nil SV.nil)) 60 :: pt b_B32_3 (RState.enc (RState.mk x1.regs x1.stack s9 s11 s15 x1.at_ x1.steps x1.done)) 54 :: pt b_B32_2 (RState.enc (RState.mk x0.regs x0.stack s1 s3 s7 x0.at_ x0.steps x0.done)) 54 :: Lr) := hM
        refine s_val hF (r_assign hF rfl rfl) rfl rfl rfl fun a hF => ?_
        refine c_nil (n_then ?_)
        refine c_ret ?_
        have hM := hM.rowNil (X := LTurn) 0 128
        have hM := hM.rowNil (X := LCell) 0 151
        obtain ⟨r1656, hM⟩ := voidM hM
        have q1657 : Each (QPieceIn r1656.holds') ([] : List RPiece) ([] : List QPiece) := Each.nil
        have hM := hM.rowNil (X := RPiece) 0 156
        have hM := hM.rowNil (X := Int) 0 3
        have hP := Option.some.inj hP
        subst hP
        have hP := hK_l4 _ rfl
        subst hP
        have hP := fin_inr hK_j3
        subst hP
        refine e_ret (rs := [.cell 4 60, .tmp 5]) Tryz.results32 hF (res_celln hF rfl Tryz.isAgg60 Tryz.sizeOf60 (RMark.len _) (hM.cells (i := 5) rfl (cut_all (RMark.len _))) (res_tmp hF rfl res_nil)) rfl ?_
        exact ⟨SV.nil, SV.nil, SV.nil, [], r1656, SV.nil, rfl, q1657, selM hM [4, 3, 1, 2, 0] 8 rfl⟩
      have hP := Fx.cF hb1651 hP
      refine c_skip (n_block (n_then ?_))
      refine c_region ?_
      refine s_val hF (r_move hF rfl rfl) rfl rfl rfl fun a hF => ?_
      refine s_val hF (r_add hF rfl rfl rfl) rfl rfl rfl fun a hF => ?_
      refine s_val hF (r_assign hF rfl rfl) rfl rfl rfl fun a hF => ?_
      refine c_nil (n_then ?_)
      have hP := Option.some.inj hP
      subst hP
      exact ⟨(IntKind.i64.wrap (v1638 + 1)), rfl, hF.to ⟨rfl, rfl, rfl, rfl, rfl, trivial⟩, hM⟩
    have hP := Fx.cF hb1640 hP
    refine c_exit (x_then (x_then (x_hit ?_)))
    refine n_then ?_
    have hP := Option.some.inj hP
    subst hP
    have hP := hK_l4 _ rfl
    subst hP
    exact ⟨(), rfl, hF.to ⟨rfl, rfl, rfl, rfl, trivial⟩, hM⟩
  rintro ⟨⟩ a w hP ⟨hF, hM⟩
  replace hP : Sh.ref23_Diff_j3 x0 x1 = _ := hP
  unfold Sh.ref23_Diff_j3 at hP
  refine n_then ?_
  refine c_seq ?_
  refine c_joinX hF hM hP (fun F x a w => match x with | _ => Fr 213 [(2, .pointer (some ⟨b_B32_2, 0, none⟩)), (3, .pointer (some ⟨b_B32_3, 0, none⟩)), (4, .pointer (some ⟨b_B32_4, 0, none⟩)), (5, .int .i64 0)] a ∧ MemL w (pt b_B32_4 (RMark.enc (RMark.mk 0 0 false SV.nil SV.nil SV.nil SV.nil)) 60 :: pt b_B32_3 (RState.enc (RState.mk x1.regs x1.stack s9 s11 s15 x1.at_ x1.steps x1.done)) 54 :: pt b_B32_2 (RState.enc (RState.mk x0.regs x0.stack s1 s3 s7 x0.at_ x0.steps x0.done)) 54 :: Lr)) (fun o_j5 hP hK_j5 hF hM => ?_) ?_
  · refine c_seq ?_
    refine c_region ?_
    refine s_val hF (r_assign hF rfl rfl) rfl rfl rfl fun a hF => ?_
    refine c_nil (n_then ?_)
    refine c_block ?_
    refine c_loopX hF hM hP (fun F x a w => match x with | v1776 => Fr 213 [(7, .int .i64 v1776), (2, .pointer (some ⟨b_B32_2, 0, none⟩)), (3, .pointer (some ⟨b_B32_3, 0, none⟩)), (4, .pointer (some ⟨b_B32_4, 0, none⟩)), (5, .int .i64 0)] a ∧ MemL w (pt b_B32_4 (RMark.enc (RMark.mk 0 0 false SV.nil SV.nil SV.nil SV.nil)) 60 :: pt b_B32_3 (RState.enc (RState.mk x1.regs x1.stack s9 s11 s15 x1.at_ x1.steps x1.done)) 54 :: pt b_B32_2 (RState.enc (RState.mk x0.regs x0.stack s1 s3 s7 x0.at_ x0.steps x0.done)) 54 :: Lr)) (fun hF hM => ⟨hF.to ⟨rfl, rfl, rfl, rfl, rfl, trivial⟩, hM⟩) ?_
    rintro v1776 a w o_l6 hP hK_l6 ⟨hF, hM⟩
    replace hP : Sh.ref23_Diff_l6 x0 x1 v1776 = _ := hP
    unfold Sh.ref23_Diff_l6 at hP
    refine c_seq ?_
    refine c_seq ?_
    refine c_region ?_
    refine s_val hF (r_move hF rfl rfl) rfl rfl rfl fun a hF => ?_
    refine s_val hF (r_fieldAddr (off' := 462) Tryz.underlying54 rfl in52 rfl hF rfl rfl rfl) rfl rfl rfl fun a hF => ?_
    refine s_val hF (r_load1 Tryz.isAgg52 hF rfl rfl (hM.cell (i := 2) rfl (RState.g_sent _))) rfl rfl rfl fun a hF => ?_
    refine s_val hF (r_lenL (f8 _ (hsub _ (dropM hM 3))) Tryz.underlying52 hF rfl rfl) rfl rfl rfl fun a hF => ?_
    refine s_val hF (r_lss hF rfl rfl rfl) rfl rfl rfl fun a hF => ?_
    refine c_nil (n_then ?_)
    refine c_cond hF (c := .tmp 94) rfl (fun hb1778 => ?_) (fun hb1778 => ?_)
    · have hP := Fx.cT hb1778 hP
      refine c_skip (n_then ?_)
      refine c_seq ?_
      refine c_block ?_
      refine c_seq ?_
      refine d_startT mixed (by kernel_rfl) hM [0, 1, 2] 3 rfl fun hch => ?_
      refine d_val hF hch 0 rfl (by kernel_rfl) rfl rfl rfl (fun w hM => (r_fieldAddr (off' := 462) Tryz.underlying54 rfl in52 rfl hF rfl rfl rfl)) fun a hF => ?_
      refine d_val hF hch 1 rfl (by kernel_rfl) rfl rfl rfl (fun w hM => (r_load1 Tryz.isAgg52 hF rfl rfl (hM.cell (i := 2) rfl (RState.g_sent _)))) fun a hF => ?_
      refine d_val hF hch 2 rfl (by kernel_rfl) rfl rfl rfl (fun w hM => (r_move hF rfl rfl)) fun a hF => ?_
      obtain ⟨x1787, hx1787, hP⟩ := bind_some hP
      have h0x1787 := get_some hx1787
      refine d_val hF hch 3 rfl (by kernel_rfl) rfl rfl rfl (fun w hM => (r_indexZ (sz := 1) (f8 _ (hsub _ (dropM hM 3))) Tryz.underlying52 in3 rfl hF rfl rfl rfl (get_bd hx1787))) fun a hF => ?_
      refine d_val hF hch 4 rfl (by kernel_rfl) rfl rfl rfl (fun w hM => (r_load1 Tryz.isAgg3 hF rfl rfl ((((f8 _ (hsub _ (dropM hM 3))).elemS h0x1787.2)).get 0 rfl))) fun a hF => ?_
      refine d_val hF hch 5 rfl (by kernel_rfl) rfl rfl rfl (fun w hM => (r_fieldAddr (off' := 462) Tryz.underlying54 rfl in52 rfl hF rfl rfl rfl)) fun a hF => ?_
      refine d_val hF hch 6 rfl (by kernel_rfl) rfl rfl rfl (fun w hM => (r_load1 Tryz.isAgg52 hF rfl rfl (hM.cell (i := 1) rfl (RState.g_sent _)))) fun a hF => ?_
      refine d_val hF hch 7 rfl (by kernel_rfl) rfl rfl rfl (fun w hM => (r_move hF rfl rfl)) fun a hF => ?_
      obtain ⟨x1788, hx1788, hP⟩ := bind_some hP
      have h0x1788 := get_some hx1788
      refine d_val hF hch 8 rfl (by kernel_rfl) rfl rfl rfl (fun w hM => (r_indexZ (sz := 1) (f16 _ (hsub _ (dropM hM 3))) Tryz.underlying52 in3 rfl hF rfl rfl rfl (get_bd hx1788))) fun a hF => ?_
      refine d_val hF hch 9 rfl (by kernel_rfl) rfl rfl rfl (fun w hM => (r_load1 Tryz.isAgg3 hF rfl rfl ((((f16 _ (hsub _ (dropM hM 3))).elemS h0x1788.2)).get 0 rfl))) fun a hF => ?_
      refine d_val hF hch 10 rfl (by kernel_rfl) rfl rfl rfl (fun w hM => (r_neq hF rfl rfl rfl)) fun a hF => ?_
      refine d_end hch (by kernel_rfl) fun w hM => ?_
      refine n_then ?_
      refine c_cond hF (c := .tmp 107) rfl (fun hb1789 => ?_) (fun hb1789 => ?_)
      · have hP := Fx.cT hb1789 hP
        refine c_seq ?_
        refine c_region ?_
        refine s_val hF (r_build z60 Tryz.underlying60 pl60 hF (parts := []) rfl rfl fill_e) rfl rfl rfl fun a hF => ?_
        refine s_eff0 rfl rfl (w_storen (vs := _) Tryz.sizeOf60 (hM.obj (i := 0) rfl) hF rfl rfl rfl rfl (RMark.len _) (RMark.one _) (by first | (rw [RMark.len, RMark.len]; decide) | (rw [RMark.len]; decide)) (put_all ((RMark.len _).trans (RMark.len _).symm)) fun w hU1790 => ?_)
        have hM := hM.chg hU1790 (i := 0) rfl
        replace hM : MemL _ (pt b_B32_4 (RMark.enc (RMark.mk 0 0 false SV.nil SV.nil SV.nil SV.nil)) 60 :: pt b_B32_3 (RState.enc (RState.mk x1.regs x1.stack s9 s11 s15 x1.at_ x1.steps x1.done)) 54 :: pt b_B32_2 (RState.enc (RState.mk x0.regs x0.stack s1 s3 s7 x0.at_ x0.steps x0.done)) 54 :: Lr) := hM
        refine s_val hF (r_assign hF rfl rfl) rfl rfl rfl fun a hF => ?_
        refine c_nil (n_then ?_)
        refine c_ret ?_
        have hM := hM.rowNil (X := LTurn) 0 128
        have hM := hM.rowNil (X := LCell) 0 151
        obtain ⟨r1794, hM⟩ := voidM hM
        have q1795 : Each (QPieceIn r1794.holds') ([] : List RPiece) ([] : List QPiece) := Each.nil
        have hM := hM.rowNil (X := RPiece) 0 156
        have hM := hM.rowNil (X := Int) 0 3
        have hP := Option.some.inj hP
        subst hP
        have hP := hK_l6 _ rfl
        subst hP
        have hP := fin_inr hK_j5
        subst hP
        refine e_ret (rs := [.cell 4 60, .tmp 5]) Tryz.results32 hF (res_celln hF rfl Tryz.isAgg60 Tryz.sizeOf60 (RMark.len _) (hM.cells (i := 5) rfl (cut_all (RMark.len _))) (res_tmp hF rfl res_nil)) rfl ?_
        exact ⟨SV.nil, SV.nil, SV.nil, [], r1794, SV.nil, rfl, q1795, selM hM [4, 3, 1, 2, 0] 8 rfl⟩
      have hP := Fx.cF hb1789 hP
      refine c_skip (n_block (n_then ?_))
      refine c_region ?_
      refine s_val hF (r_move hF rfl rfl) rfl rfl rfl fun a hF => ?_
      refine s_val hF (r_add hF rfl rfl rfl) rfl rfl rfl fun a hF => ?_
      refine s_val hF (r_assign hF rfl rfl) rfl rfl rfl fun a hF => ?_
      refine c_nil (n_then ?_)
      have hP := Option.some.inj hP
      subst hP
      exact ⟨(IntKind.i64.wrap (v1776 + 1)), rfl, hF.to ⟨rfl, rfl, rfl, rfl, rfl, trivial⟩, hM⟩
    have hP := Fx.cF hb1778 hP
    refine c_exit (x_then (x_then (x_hit ?_)))
    refine n_then ?_
    have hP := Option.some.inj hP
    subst hP
    have hP := hK_l6 _ rfl
    subst hP
    exact ⟨(), rfl, hF.to ⟨rfl, rfl, rfl, rfl, trivial⟩, hM⟩
  rintro ⟨⟩ a w hP ⟨hF, hM⟩
  replace hP : Sh.ref23_Diff_j5 x0 x1 = _ := hP
  unfold Sh.ref23_Diff_j5 at hP
  refine n_then ?_
  refine c_seq ?_
  refine c_region ?_
  refine s_val hF (r_fieldAddr (off' := 463) Tryz.underlying54 rfl in3 rfl hF rfl rfl rfl) rfl rfl rfl fun a hF => ?_
  refine s_val hF (r_load1 Tryz.isAgg3 hF rfl rfl (hM.cell (i := 2) rfl (RState.g_at_ _))) rfl rfl rfl fun a hF => ?_
  refine s_val hF (r_fieldAddr (off' := 463) Tryz.underlying54 rfl in3 rfl hF rfl rfl rfl) rfl rfl rfl fun a hF => ?_
  refine s_val hF (r_load1 Tryz.isAgg3 hF rfl rfl (hM.cell (i := 1) rfl (RState.g_at_ _))) rfl rfl rfl fun a hF => ?_
  refine s_val hF (r_fieldAddr (off' := 465) Tryz.underlying54 rfl in4 rfl hF rfl rfl rfl) rfl rfl rfl fun a hF => ?_
  refine s_val hF (r_load1 Tryz.isAgg4 hF rfl rfl (hM.cell (i := 1) rfl (RState.g_done _))) rfl rfl rfl fun a hF => ?_
  refine s_val hF (r_build z60 Tryz.underlying60 pl60 hF (parts := [(0, .tmp 110), (1, .tmp 112), (2, .tmp 114)]) rfl rfl (fill_s rfl rfl (by rw [RMark.len]; decide) (RMark.s_at_ _ _) (fill_s rfl rfl (by rw [RMark.len]; decide) (RMark.s_next _ _) (fill_s rfl rfl (by rw [RMark.len]; decide) (RMark.s_done _ _) fill_e)))) rfl rfl rfl fun a hF => ?_
  refine s_eff hF rfl rfl rfl (w_alloc z60 (zs := RMark.zero.enc) rfl rfl fun b_B32_8 w hzB32_8 hAB32_8 => ?_)
  have hM := hM.plus hAB32_8
  replace hM : MemL _ (pt b_B32_8 (RMark.enc (RMark.mk 0 0 false SV.nil SV.nil SV.nil SV.nil)) 60 :: pt b_B32_4 (RMark.enc (RMark.mk 0 0 false SV.nil SV.nil SV.nil SV.nil)) 60 :: pt b_B32_3 (RState.enc (RState.mk x1.regs x1.stack s9 s11 s15 x1.at_ x1.steps x1.done)) 54 :: pt b_B32_2 (RState.enc (RState.mk x0.regs x0.stack s1 s3 s7 x0.at_ x0.steps x0.done)) 54 :: Lr) := hM
  intro a hF
  refine s_eff0 rfl rfl (w_storen (vs := _) Tryz.sizeOf60 (hM.obj (i := 0) rfl) hF rfl rfl rfl rfl (RMark.len _) (RMark.one _) (by first | (rw [RMark.len, RMark.len]; decide) | (rw [RMark.len]; decide)) (put_all ((RMark.len _).trans (RMark.len _).symm)) fun w hU1797 => ?_)
  have hM := hM.chg hU1797 (i := 0) rfl
  replace hM : MemL _ (pt b_B32_8 (RMark.enc (RMark.mk x0.at_ x1.at_ x1.done SV.nil SV.nil SV.nil SV.nil)) 60 :: pt b_B32_4 (RMark.enc (RMark.mk 0 0 false SV.nil SV.nil SV.nil SV.nil)) 60 :: pt b_B32_3 (RState.enc (RState.mk x1.regs x1.stack s9 s11 s15 x1.at_ x1.steps x1.done)) 54 :: pt b_B32_2 (RState.enc (RState.mk x0.regs x0.stack s1 s3 s7 x0.at_ x0.steps x0.done)) 54 :: Lr) := hM
  refine c_nil (n_then ?_)
  refine c_seq ?_
  refine c_joinX hF hM hP (fun F x a w => match x with | v2034 => ∃ (s2035 : SV), Fr 213 [(2, .pointer (some ⟨b_B32_2, 0, none⟩)), (3, .pointer (some ⟨b_B32_3, 0, none⟩)), (4, .pointer (some ⟨b_B32_4, 0, none⟩)), (5, .int .i64 0), (8, .pointer (some ⟨b_B32_8, 0, none⟩))] a ∧ MemL w (pt b_B32_8 (RMark.enc (RMark.mk x0.at_ x1.at_ x1.done s2035 SV.nil SV.nil SV.nil)) 60 :: rowL 0 s2035 128 v2034 :: pt b_B32_4 (RMark.enc (RMark.mk 0 0 false SV.nil SV.nil SV.nil SV.nil)) 60 :: pt b_B32_3 (RState.enc (RState.mk x1.regs x1.stack s9 s11 s15 x1.at_ x1.steps x1.done)) 54 :: pt b_B32_2 (RState.enc (RState.mk x0.regs x0.stack s1 s3 s7 x0.at_ x0.steps x0.done)) 54 :: Lr)) (fun o_j7 hP hK_j7 hF hM => ?_) ?_
  · refine c_seq ?_
    refine c_region ?_
    refine s_val hF (r_assign hF rfl rfl) rfl rfl rfl fun a hF => ?_
    refine c_nil (n_then ?_)
    refine c_block ?_
    have hM := hM.rowNil (X := LTurn) 0 128
    refine c_loopX hF hM hP (fun F x a w => match x with | (v2115, v2118) => ∃ (s2116 : SV), Fr 213 [(9, .int .i64 v2118), (2, .pointer (some ⟨b_B32_2, 0, none⟩)), (3, .pointer (some ⟨b_B32_3, 0, none⟩)), (4, .pointer (some ⟨b_B32_4, 0, none⟩)), (5, .int .i64 0), (8, .pointer (some ⟨b_B32_8, 0, none⟩))] a ∧ MemL w (pt b_B32_8 (RMark.enc (RMark.mk x0.at_ x1.at_ x1.done s2116 SV.nil SV.nil SV.nil)) 60 :: rowL 0 s2116 128 v2115 :: pt b_B32_4 (RMark.enc (RMark.mk 0 0 false SV.nil SV.nil SV.nil SV.nil)) 60 :: pt b_B32_3 (RState.enc (RState.mk x1.regs x1.stack s9 s11 s15 x1.at_ x1.steps x1.done)) 54 :: pt b_B32_2 (RState.enc (RState.mk x0.regs x0.stack s1 s3 s7 x0.at_ x0.steps x0.done)) 54 :: Lr)) (fun hF hM => ⟨SV.nil, hF.to ⟨rfl, rfl, rfl, rfl, rfl, rfl, trivial⟩, selM hM [1, 0, 2, 3, 4] 5 rfl⟩) ?_
    rintro ⟨v2115, v2118⟩ a w o_l8 hP hK_l8 ⟨s2116, hF, hM⟩
    replace hP : Sh.ref23_Diff_l8 x0 x1 v2115 v2118 = _ := hP
    unfold Sh.ref23_Diff_l8 at hP
    refine c_seq ?_
    refine c_seq ?_
    refine c_region ?_
    refine s_val hF (r_move hF rfl rfl) rfl rfl rfl fun a hF => ?_
    refine s_val hF (r_lss hF rfl rfl rfl) rfl rfl rfl fun a hF => ?_
    refine c_nil (n_then ?_)
    refine c_cond hF (c := .tmp 117) rfl (fun hb2121 => ?_) (fun hb2121 => ?_)
    · have hP := Fx.cT hb2121 hP
      refine c_skip (n_then ?_)
      refine c_seq ?_
      refine c_joinX hF hM hP (fun F x a w => match x with | v2142 => ∃ (s2143 : SV), Fr 213 [(2, .pointer (some ⟨b_B32_2, 0, none⟩)), (3, .pointer (some ⟨b_B32_3, 0, none⟩)), (4, .pointer (some ⟨b_B32_4, 0, none⟩)), (5, .int .i64 0), (8, .pointer (some ⟨b_B32_8, 0, none⟩)), (9, .int .i64 v2118)] a ∧ MemL w (pt b_B32_8 (RMark.enc (RMark.mk x0.at_ x1.at_ x1.done s2143 SV.nil SV.nil SV.nil)) 60 :: rowL 0 s2143 128 v2142 :: pt b_B32_4 (RMark.enc (RMark.mk 0 0 false SV.nil SV.nil SV.nil SV.nil)) 60 :: pt b_B32_3 (RState.enc (RState.mk x1.regs x1.stack s9 s11 s15 x1.at_ x1.steps x1.done)) 54 :: pt b_B32_2 (RState.enc (RState.mk x0.regs x0.stack s1 s3 s7 x0.at_ x0.steps x0.done)) 54 :: Lr)) (fun o_j9 hP hK_j9 hF hM => ?_) ?_
      · refine c_block ?_
        refine c_seq ?_
        refine d_startT mixed (by kernel_rfl) hM [0, 1, 2, 3, 4] 5 rfl fun hch => ?_
        refine d_val hF hch 0 rfl (by kernel_rfl) rfl rfl rfl (fun w hM => (r_move hF rfl rfl)) fun a hF => ?_
        refine d_val hF hch 1 rfl (by kernel_rfl) rfl rfl rfl (fun w hM => (r_fieldAddr (off' := 0) Tryz.underlying54 rfl in47 rfl hF rfl rfl rfl)) fun a hF => ?_
        obtain ⟨x2147, hx2147, hP⟩ := bind_some hP
        have h0x2147 := get_some hx2147
        refine d_val hF hch 2 rfl (by kernel_rfl) rfl rfl rfl (fun w hM => (r_indexAddrA (sz := 4) Tryz.underlying47 in46 rfl hF rfl rfl rfl (get_bdv hx2147))) fun a hF => ?_
        refine d_val hF hch 3 rfl (by kernel_rfl) rfl rfl rfl (fun w hM => (r_loadn Tryz.isAgg46 Tryz.sizeOf46 hF rfl rfl (LVal.len _) (hM.cells (i := 4) rfl (RState.ci_regs _ _ _ (get_some hx2147).2)))) fun a hF => ?_
        refine d_val hF hch 4 rfl (by kernel_rfl) rfl rfl rfl (fun w hM => (r_move hF rfl rfl)) fun a hF => ?_
        refine d_val hF hch 5 rfl (by kernel_rfl) rfl rfl rfl (fun w hM => (r_fieldAddr (off' := 0) Tryz.underlying54 rfl in47 rfl hF rfl rfl rfl)) fun a hF => ?_
        obtain ⟨x2148, hx2148, hP⟩ := bind_some hP
        have h0x2148 := get_some hx2148
        refine d_val hF hch 6 rfl (by kernel_rfl) rfl rfl rfl (fun w hM => (r_indexAddrA (sz := 4) Tryz.underlying47 in46 rfl hF rfl rfl rfl (get_bdv hx2148))) fun a hF => ?_
        refine d_val hF hch 7 rfl (by kernel_rfl) rfl rfl rfl (fun w hM => (r_loadn Tryz.isAgg46 Tryz.sizeOf46 hF rfl rfl (LVal.len _) (hM.cells (i := 3) rfl (RState.ci_regs _ _ _ (get_some hx2148).2)))) fun a hF => ?_
        refine d_val hF hch 8 rfl (by kernel_rfl) rfl rfl rfl (fun w hM => (r_neqA Tryz.eqGuardType46 (eq_LVal _ _ _ _ (by decide)) hF rfl rfl rfl)) fun a hF => ?_
        refine d_end hch (by kernel_rfl) fun w hM => ?_
        refine n_then ?_
        refine c_cond hF (c := .tmp 128) rfl (fun hb2149 => ?_) (fun hb2149 => ?_)
        · have hP := Fx.cT hb2149 hP
          refine d_startT mixed (by kernel_rfl) hM [0, 1, 2, 3, 4] 5 rfl fun hch => ?_
          refine d_val hF hch 0 rfl (by kernel_rfl) rfl rfl rfl (fun w hM => (r_fieldAddr (off' := 3) Tryz.underlying60 rfl in56 rfl hF rfl rfl rfl)) fun a hF => ?_
          refine d_val hF hch 1 rfl (by kernel_rfl) rfl rfl rfl (fun w hM => (r_load1 Tryz.isAgg56 hF rfl rfl (hM.cell (i := 0) rfl (RMark.g_regs _)))) fun a hF => ?_
          refine d_val hF hch 2 rfl (by kernel_rfl) rfl rfl rfl (fun w hM => (r_move hF rfl rfl)) fun a hF => ?_
          refine d_val hF hch 3 rfl (by kernel_rfl) rfl rfl rfl (fun w hM => (r_move hF rfl rfl)) fun a hF => ?_
          refine d_val hF hch 4 rfl (by kernel_rfl) rfl rfl rfl (fun w hM => (r_fieldAddr (off' := 0) Tryz.underlying54 rfl in47 rfl hF rfl rfl rfl)) fun a hF => ?_
          obtain ⟨x2150, hx2150, hP⟩ := bind_some hP
          have h0x2150 := get_some hx2150
          refine d_val hF hch 5 rfl (by kernel_rfl) rfl rfl rfl (fun w hM => (r_indexAddrA (sz := 4) Tryz.underlying47 in46 rfl hF rfl rfl rfl (get_bdv hx2150))) fun a hF => ?_
          refine d_val hF hch 6 rfl (by kernel_rfl) rfl rfl rfl (fun w hM => (r_loadn Tryz.isAgg46 Tryz.sizeOf46 hF rfl rfl (LVal.len _) (hM.cells (i := 4) rfl (RState.ci_regs _ _ _ (get_some hx2150).2)))) fun a hF => ?_
          refine d_val hF hch 7 rfl (by kernel_rfl) rfl rfl rfl (fun w hM => (r_move hF rfl rfl)) fun a hF => ?_
          refine d_val hF hch 8 rfl (by kernel_rfl) rfl rfl rfl (fun w hM => (r_fieldAddr (off' := 0) Tryz.underlying54 rfl in47 rfl hF rfl rfl rfl)) fun a hF => ?_
          obtain ⟨x2151, hx2151, hP⟩ := bind_some hP
          have h0x2151 := get_some hx2151
          refine d_val hF hch 9 rfl (by kernel_rfl) rfl rfl rfl (fun w hM => (r_indexAddrA (sz := 4) Tryz.underlying47 in46 rfl hF rfl rfl rfl (get_bdv hx2151))) fun a hF => ?_
          refine d_val hF hch 10 rfl (by kernel_rfl) rfl rfl rfl (fun w hM => (r_loadn Tryz.isAgg46 Tryz.sizeOf46 hF rfl rfl (LVal.len _) (hM.cells (i := 3) rfl (RState.ci_regs _ _ _ (get_some hx2151).2)))) fun a hF => ?_
          refine d_val hF hch 11 rfl (by kernel_rfl) rfl rfl rfl (fun w hM => (r_build z128 Tryz.underlying128 pl128 hF (parts := [(0, .tmp 131), (1, .tmp 135), (2, .tmp 139)]) rfl rfl (fill_s rfl rfl (by rw [LTurn.len]; decide) (LTurn.s_reg _ _) (fill_p rfl (LVal.len _) (by rw [LVal.len, LTurn.len]; decide) (LTurn.p_old _ _) (fill_p rfl (LVal.len _) (by rw [LVal.len, LTurn.len]; decide) (LTurn.p_new _ _) fill_e))))) fun a hF => ?_
          refine d_one hch 12 (by kernel_rfl) rfl rfl ?_
          refine d_ex hF 12 rfl rfl rfl rfl rfl fun w hMs hM => ?_
          refine (w_slice1 (X := LTurn) (y := (LTurn.mk v2118 x2150 x2151)) Tryz.underlying56 in128 rfl rfl rfl rfl hF rfl rfl rfl fun b_B32_141 w hzB32_141 hAB32_141 => ?_)
          have hM := hM.plus hAB32_141
          replace hM : MemL _ (pt b_B32_141 (encs ([(LTurn.mk v2118 x2150 x2151)] : List LTurn)) 128 :: pt b_B32_8 (RMark.enc (RMark.mk x0.at_ x1.at_ x1.done s2116 SV.nil SV.nil SV.nil)) 60 :: rowL 0 s2116 128 v2115 :: pt b_B32_4 (RMark.enc (RMark.mk 0 0 false SV.nil SV.nil SV.nil SV.nil)) 60 :: pt b_B32_3 (RState.enc (RState.mk x1.regs x1.stack s9 s11 s15 x1.at_ x1.steps x1.done)) 54 :: pt b_B32_2 (RState.enc (RState.mk x0.regs x0.stack s1 s3 s7 x0.at_ x0.steps x0.done)) 54 :: Lr) := hM
          have hMs := selM hM [0, 1, 2, 3, 4, 5] 6 rfl
          refine ⟨_, _, hMs, hM, .inl fun _ h => dropM h 1, fun a hF => ?_⟩
          refine d_one hch 13 (by kernel_rfl) rfl rfl ?_
          refine d_ex hF 13 rfl rfl rfl rfl rfl fun w hMs hM => ?_
          obtain ⟨x2153, hx2153, hP⟩ := bind_some hP
          refine (w_appX (X := LTurn) hx2153 Tryz.underlying56 in128 rfl rfl rfl rfl hF rfl rfl rfl (hM.own (X := LTurn) (i := 2) rfl) (hM.ptS (X := LTurn) (i := 0) (n := 1) (c := 1) rfl rfl rfl (Nat.le_refl _)) fun s2152 w hUs2152 => ?_)
          have hM := hM.chg hUs2152 (i := 2) rfl
          replace hM : MemL _ (pt b_B32_141 (encs ([(LTurn.mk v2118 x2150 x2151)] : List LTurn)) 128 :: pt b_B32_8 (RMark.enc (RMark.mk x0.at_ x1.at_ x1.done s2116 SV.nil SV.nil SV.nil)) 60 :: rowL 0 s2152 128 x2153 :: pt b_B32_4 (RMark.enc (RMark.mk 0 0 false SV.nil SV.nil SV.nil SV.nil)) 60 :: pt b_B32_3 (RState.enc (RState.mk x1.regs x1.stack s9 s11 s15 x1.at_ x1.steps x1.done)) 54 :: pt b_B32_2 (RState.enc (RState.mk x0.regs x0.stack s1 s3 s7 x0.at_ x0.steps x0.done)) 54 :: Lr) := hM
          have hMs := hM
          refine ⟨_, _, hMs, hM, .inr (by kernel_rfl), fun a hF => ?_⟩
          refine d_val hF hch 14 rfl (by kernel_rfl) rfl rfl rfl (fun w hM => (r_fieldAddr (off' := 3) Tryz.underlying60 rfl in56 rfl hF rfl rfl rfl)) fun a hF => ?_
          refine d_one hch 15 (by kernel_rfl) rfl rfl ?_
          refine d_ex0 15 rfl rfl rfl rfl fun w hMs hM => ?_
          refine (w_store1 Tryz.sizeOf56 (hM.obj (i := 1) rfl) hF rfl rfl rfl rfl (by rw [RMark.len]; decide) (RMark.s_regs _ _) fun w hU2154 => ?_)
          have hM := hM.chg hU2154 (i := 1) rfl
          replace hM : MemL _ (pt b_B32_141 (encs ([(LTurn.mk v2118 x2150 x2151)] : List LTurn)) 128 :: pt b_B32_8 (RMark.enc (RMark.mk x0.at_ x1.at_ x1.done s2152 SV.nil SV.nil SV.nil)) 60 :: rowL 0 s2152 128 x2153 :: pt b_B32_4 (RMark.enc (RMark.mk 0 0 false SV.nil SV.nil SV.nil SV.nil)) 60 :: pt b_B32_3 (RState.enc (RState.mk x1.regs x1.stack s9 s11 s15 x1.at_ x1.steps x1.done)) 54 :: pt b_B32_2 (RState.enc (RState.mk x0.regs x0.stack s1 s3 s7 x0.at_ x0.steps x0.done)) 54 :: Lr) := hM
          have hMs := hM
          refine ⟨_, _, hMs, hM, .inr (by kernel_rfl), ?_⟩
          refine d_end hch (by kernel_rfl) fun w hM => ?_
          refine n_block (n_then ?_)
          have hP := Option.some.inj hP
          subst hP
          exact ⟨x2153, rfl, s2152, hF.to ⟨rfl, rfl, rfl, rfl, rfl, rfl, trivial⟩, selM hM [1, 2, 3, 4, 5] 6 rfl⟩
        have hP := Fx.cF hb2149 hP
        refine c_skip (n_block (n_then ?_))
        have hP := Option.some.inj hP
        subst hP
        exact ⟨v2115, rfl, s2116, hF.to ⟨rfl, rfl, rfl, rfl, rfl, rfl, trivial⟩, hM⟩
      rintro v2142 a w hP ⟨s2143, hF, hM⟩
      replace hP : Sh.ref23_Diff_j9 v2118 v2142 = _ := hP
      unfold Sh.ref23_Diff_j9 at hP
      refine n_then ?_
      refine c_region ?_
      refine s_val hF (r_move hF rfl rfl) rfl rfl rfl fun a hF => ?_
      refine s_val hF (r_add hF rfl rfl rfl) rfl rfl rfl fun a hF => ?_
      refine s_val hF (r_assign hF rfl rfl) rfl rfl rfl fun a hF => ?_
      refine c_nil (n_then ?_)
      have hP := Option.some.inj hP
      subst hP
      exact ⟨(v2142, (IntKind.i64.wrap (v2118 + 1))), rfl, s2143, hF.to ⟨rfl, rfl, rfl, rfl, rfl, rfl, trivial⟩, hM⟩
    have hP := Fx.cF hb2121 hP
    refine c_exit (x_then (x_then (x_hit ?_)))
    refine n_then ?_
    have hP := Option.some.inj hP
    subst hP
    have hP := hK_l8 _ rfl
    subst hP
    exact ⟨v2115, rfl, s2116, hF.to ⟨rfl, rfl, rfl, rfl, rfl, trivial⟩, hM⟩
  rintro v2034 a w hP ⟨s2035, hF, hM⟩
  replace hP : Sh.ref23_Diff_j7 x0 x1 v2034 = _ := hP
  unfold Sh.ref23_Diff_j7 at hP
  refine n_then ?_
  refine c_seq ?_
  refine c_joinX hF hM hP (fun F x a w => match x with | (v2421, v2424) => ∃ (s2422 : SV) (s2425 : SV), Fr 213 [(2, .pointer (some ⟨b_B32_2, 0, none⟩)), (3, .pointer (some ⟨b_B32_3, 0, none⟩)), (4, .pointer (some ⟨b_B32_4, 0, none⟩)), (5, .int .i64 0), (8, .pointer (some ⟨b_B32_8, 0, none⟩))] a ∧ MemL w (pt b_B32_8 (RMark.enc (RMark.mk x0.at_ x1.at_ x1.done s2422 s2425 SV.nil SV.nil)) 60 :: rowL 0 s2422 128 v2421 :: rowL 0 s2425 151 v2424 :: pt b_B32_4 (RMark.enc (RMark.mk 0 0 false SV.nil SV.nil SV.nil SV.nil)) 60 :: pt b_B32_3 (RState.enc (RState.mk x1.regs x1.stack s9 s11 s15 x1.at_ x1.steps x1.done)) 54 :: pt b_B32_2 (RState.enc (RState.mk x0.regs x0.stack s1 s3 s7 x0.at_ x0.steps x0.done)) 54 :: Lr)) (fun o_j10 hP hK_j10 hF hM => ?_) ?_
  · refine c_seq ?_
    refine c_region ?_
    refine s_val hF (r_assign hF rfl rfl) rfl rfl rfl fun a hF => ?_
    refine c_nil (n_then ?_)
    refine c_block ?_
    have hM := hM.rowNil (X := LCell) 0 151
    refine c_loopX hF hM hP (fun F x a w => match x with | (v2514, v2517, v2520) => ∃ (s2515 : SV) (s2518 : SV), Fr 213 [(10, .int .i64 v2520), (2, .pointer (some ⟨b_B32_2, 0, none⟩)), (3, .pointer (some ⟨b_B32_3, 0, none⟩)), (4, .pointer (some ⟨b_B32_4, 0, none⟩)), (5, .int .i64 0), (8, .pointer (some ⟨b_B32_8, 0, none⟩))] a ∧ MemL w (pt b_B32_8 (RMark.enc (RMark.mk x0.at_ x1.at_ x1.done s2515 s2518 SV.nil SV.nil)) 60 :: rowL 0 s2515 128 v2514 :: rowL 0 s2518 151 v2517 :: pt b_B32_4 (RMark.enc (RMark.mk 0 0 false SV.nil SV.nil SV.nil SV.nil)) 60 :: pt b_B32_3 (RState.enc (RState.mk x1.regs x1.stack s9 s11 s15 x1.at_ x1.steps x1.done)) 54 :: pt b_B32_2 (RState.enc (RState.mk x0.regs x0.stack s1 s3 s7 x0.at_ x0.steps x0.done)) 54 :: Lr)) (fun hF hM => ⟨s2035, SV.nil, hF.to ⟨rfl, rfl, rfl, rfl, rfl, rfl, trivial⟩, selM hM [1, 2, 0, 3, 4, 5] 6 rfl⟩) ?_
    rintro ⟨v2514, v2517, v2520⟩ a w o_l11 hP hK_l11 ⟨s2515, s2518, hF, hM⟩
    replace hP : Sh.ref23_Diff_l11 x0 x1 v2514 v2517 v2520 = _ := hP
    unfold Sh.ref23_Diff_l11 at hP
    refine c_seq ?_
    refine c_seq ?_
    refine c_region ?_
    refine s_val hF (r_move hF rfl rfl) rfl rfl rfl fun a hF => ?_
    refine s_val hF (r_lss hF rfl rfl rfl) rfl rfl rfl fun a hF => ?_
    refine c_nil (n_then ?_)
    refine c_cond hF (c := .tmp 145) rfl (fun hb2523 => ?_) (fun hb2523 => ?_)
    · have hP := Fx.cT hb2523 hP
      refine c_skip (n_then ?_)
      refine c_seq ?_
      refine c_joinX hF hM hP (fun F x a w => match x with | (v2544, v2547) => ∃ (s2545 : SV) (s2548 : SV), Fr 213 [(10, .int .i64 v2520), (2, .pointer (some ⟨b_B32_2, 0, none⟩)), (3, .pointer (some ⟨b_B32_3, 0, none⟩)), (4, .pointer (some ⟨b_B32_4, 0, none⟩)), (5, .int .i64 0), (8, .pointer (some ⟨b_B32_8, 0, none⟩))] a ∧ MemL w (pt b_B32_8 (RMark.enc (RMark.mk x0.at_ x1.at_ x1.done s2545 s2548 SV.nil SV.nil)) 60 :: rowL 0 s2545 128 v2544 :: rowL 0 s2548 151 v2547 :: pt b_B32_4 (RMark.enc (RMark.mk 0 0 false SV.nil SV.nil SV.nil SV.nil)) 60 :: pt b_B32_3 (RState.enc (RState.mk x1.regs x1.stack s9 s11 s15 x1.at_ x1.steps x1.done)) 54 :: pt b_B32_2 (RState.enc (RState.mk x0.regs x0.stack s1 s3 s7 x0.at_ x0.steps x0.done)) 54 :: Lr)) (fun o_j12 hP hK_j12 hF hM => ?_) ?_
      · refine c_block ?_
        refine c_seq ?_
        refine d_startT mixed (by kernel_rfl) hM [0, 1, 2, 3, 4, 5] 6 rfl fun hch => ?_
        refine d_val hF hch 0 rfl (by kernel_rfl) rfl rfl rfl (fun w hM => (r_move hF rfl rfl)) fun a hF => ?_
        refine d_val hF hch 1 rfl (by kernel_rfl) rfl rfl rfl (fun w hM => (r_fieldAddr (off' := 44) Tryz.underlying54 rfl in51 rfl hF rfl rfl rfl)) fun a hF => ?_
        obtain ⟨x2552, hx2552, hP⟩ := bind_some hP
        have h0x2552 := get_some hx2552
        refine d_val hF hch 2 rfl (by kernel_rfl) rfl rfl rfl (fun w hM => (r_indexAddrA (sz := 13) Tryz.underlying51 in50 rfl hF rfl rfl rfl (get_bdv hx2552))) fun a hF => ?_
        refine d_val hF hch 3 rfl (by kernel_rfl) rfl rfl rfl (fun w hM => (r_loadn Tryz.isAgg50 Tryz.sizeOf50 hF rfl rfl (LSlot.len _) (hM.cells (i := 5) rfl (RState.ci_stack _ _ _ (get_some hx2552).2)))) fun a hF => ?_
        refine d_val hF hch 4 rfl (by kernel_rfl) rfl rfl rfl (fun w hM => (r_move hF rfl rfl)) fun a hF => ?_
        refine d_val hF hch 5 rfl (by kernel_rfl) rfl rfl rfl (fun w hM => (r_fieldAddr (off' := 44) Tryz.underlying54 rfl in51 rfl hF rfl rfl rfl)) fun a hF => ?_
        obtain ⟨x2553, hx2553, hP⟩ := bind_some hP
        have h0x2553 := get_some hx2553
        refine d_val hF hch 6 rfl (by kernel_rfl) rfl rfl rfl (fun w hM => (r_indexAddrA (sz := 13) Tryz.underlying51 in50 rfl hF rfl rfl rfl (get_bdv hx2553))) fun a hF => ?_
        refine d_val hF hch 7 rfl (by kernel_rfl) rfl rfl rfl (fun w hM => (r_loadn Tryz.isAgg50 Tryz.sizeOf50 hF rfl rfl (LSlot.len _) (hM.cells (i := 4) rfl (RState.ci_stack _ _ _ (get_some hx2553).2)))) fun a hF => ?_
        refine d_val hF hch 8 rfl (by kernel_rfl) rfl rfl rfl (fun w hM => (r_neqA Tryz.eqGuardType50 (eq_LSlot _ _ _ _ (by decide)) hF rfl rfl rfl)) fun a hF => ?_
        refine d_end hch (by kernel_rfl) fun w hM => ?_
        refine n_then ?_
        refine c_cond hF (c := .tmp 156) rfl (fun hb2554 => ?_) (fun hb2554 => ?_)
        · have hP := Fx.cT hb2554 hP
          refine d_startT mixed (by kernel_rfl) hM [0, 1, 2, 3, 4, 5] 6 rfl fun hch => ?_
          refine d_val hF hch 0 rfl (by kernel_rfl) rfl rfl rfl (fun w hM => (r_fieldAddr (off' := 4) Tryz.underlying60 rfl in57 rfl hF rfl rfl rfl)) fun a hF => ?_
          refine d_val hF hch 1 rfl (by kernel_rfl) rfl rfl rfl (fun w hM => (r_load1 Tryz.isAgg57 hF rfl rfl (hM.cell (i := 0) rfl (RMark.g_slots _)))) fun a hF => ?_
          refine d_val hF hch 2 rfl (by kernel_rfl) rfl rfl rfl (fun w hM => (r_move hF rfl rfl)) fun a hF => ?_
          refine d_val hF hch 3 rfl (by kernel_rfl) rfl rfl rfl (fun w hM => (r_move hF rfl rfl)) fun a hF => ?_
          refine d_val hF hch 4 rfl (by kernel_rfl) rfl rfl rfl (fun w hM => (r_fieldAddr (off' := 44) Tryz.underlying54 rfl in51 rfl hF rfl rfl rfl)) fun a hF => ?_
          obtain ⟨x2555, hx2555, hP⟩ := bind_some hP
          have h0x2555 := get_some hx2555
          refine d_val hF hch 5 rfl (by kernel_rfl) rfl rfl rfl (fun w hM => (r_indexAddrA (sz := 13) Tryz.underlying51 in50 rfl hF rfl rfl rfl (get_bdv hx2555))) fun a hF => ?_
          refine d_val hF hch 6 rfl (by kernel_rfl) rfl rfl rfl (fun w hM => (r_loadn Tryz.isAgg50 Tryz.sizeOf50 hF rfl rfl (LSlot.len _) (hM.cells (i := 5) rfl (RState.ci_stack _ _ _ (get_some hx2555).2)))) fun a hF => ?_
          refine d_val hF hch 7 rfl (by kernel_rfl) rfl rfl rfl (fun w hM => (r_move hF rfl rfl)) fun a hF => ?_
          refine d_val hF hch 8 rfl (by kernel_rfl) rfl rfl rfl (fun w hM => (r_fieldAddr (off' := 44) Tryz.underlying54 rfl in51 rfl hF rfl rfl rfl)) fun a hF => ?_
          obtain ⟨x2556, hx2556, hP⟩ := bind_some hP
          have h0x2556 := get_some hx2556
          refine d_val hF hch 9 rfl (by kernel_rfl) rfl rfl rfl (fun w hM => (r_indexAddrA (sz := 13) Tryz.underlying51 in50 rfl hF rfl rfl rfl (get_bdv hx2556))) fun a hF => ?_
          refine d_val hF hch 10 rfl (by kernel_rfl) rfl rfl rfl (fun w hM => (r_loadn Tryz.isAgg50 Tryz.sizeOf50 hF rfl rfl (LSlot.len _) (hM.cells (i := 4) rfl (RState.ci_stack _ _ _ (get_some hx2556).2)))) fun a hF => ?_
          refine d_val hF hch 11 rfl (by kernel_rfl) rfl rfl rfl (fun w hM => (r_build z151 Tryz.underlying151 pl151 hF (parts := [(0, .tmp 159), (1, .tmp 163), (2, .tmp 167)]) rfl rfl (fill_s rfl rfl (by rw [LCell.len]; decide) (LCell.s_slot _ _) (fill_p rfl (LSlot.len _) (by rw [LSlot.len, LCell.len]; decide) (LCell.p_old _ _) (fill_p rfl (LSlot.len _) (by rw [LSlot.len, LCell.len]; decide) (LCell.p_new _ _) fill_e))))) fun a hF => ?_
          refine d_one hch 12 (by kernel_rfl) rfl rfl ?_
          refine d_ex hF 12 rfl rfl rfl rfl rfl fun w hMs hM => ?_
          refine (w_slice1 (X := LCell) (y := (LCell.mk v2520 x2555 x2556)) Tryz.underlying57 in151 rfl rfl rfl rfl hF rfl rfl rfl fun b_B32_169 w hzB32_169 hAB32_169 => ?_)
          have hM := hM.plus hAB32_169
          replace hM : MemL _ (pt b_B32_169 (encs ([(LCell.mk v2520 x2555 x2556)] : List LCell)) 151 :: pt b_B32_8 (RMark.enc (RMark.mk x0.at_ x1.at_ x1.done s2515 s2518 SV.nil SV.nil)) 60 :: rowL 0 s2515 128 v2514 :: rowL 0 s2518 151 v2517 :: pt b_B32_4 (RMark.enc (RMark.mk 0 0 false SV.nil SV.nil SV.nil SV.nil)) 60 :: pt b_B32_3 (RState.enc (RState.mk x1.regs x1.stack s9 s11 s15 x1.at_ x1.steps x1.done)) 54 :: pt b_B32_2 (RState.enc (RState.mk x0.regs x0.stack s1 s3 s7 x0.at_ x0.steps x0.done)) 54 :: Lr) := hM
          have hMs := selM hM [0, 1, 2, 3, 4, 5, 6] 7 rfl
          refine ⟨_, _, hMs, hM, .inl fun _ h => dropM h 1, fun a hF => ?_⟩
          refine d_one hch 13 (by kernel_rfl) rfl rfl ?_
          refine d_ex hF 13 rfl rfl rfl rfl rfl fun w hMs hM => ?_
          obtain ⟨x2558, hx2558, hP⟩ := bind_some hP
          refine (w_appX (X := LCell) hx2558 Tryz.underlying57 in151 rfl rfl rfl rfl hF rfl rfl rfl (hM.own (X := LCell) (i := 3) rfl) (hM.ptS (X := LCell) (i := 0) (n := 1) (c := 1) rfl rfl rfl (Nat.le_refl _)) fun s2557 w hUs2557 => ?_)
          have hM := hM.chg hUs2557 (i := 3) rfl
          replace hM : MemL _ (pt b_B32_169 (encs ([(LCell.mk v2520 x2555 x2556)] : List LCell)) 151 :: pt b_B32_8 (RMark.enc (RMark.mk x0.at_ x1.at_ x1.done s2515 s2518 SV.nil SV.nil)) 60 :: rowL 0 s2515 128 v2514 :: rowL 0 s2557 151 x2558 :: pt b_B32_4 (RMark.enc (RMark.mk 0 0 false SV.nil SV.nil SV.nil SV.nil)) 60 :: pt b_B32_3 (RState.enc (RState.mk x1.regs x1.stack s9 s11 s15 x1.at_ x1.steps x1.done)) 54 :: pt b_B32_2 (RState.enc (RState.mk x0.regs x0.stack s1 s3 s7 x0.at_ x0.steps x0.done)) 54 :: Lr) := hM
          have hMs := hM
          refine ⟨_, _, hMs, hM, .inr (by kernel_rfl), fun a hF => ?_⟩
          refine d_val hF hch 14 rfl (by kernel_rfl) rfl rfl rfl (fun w hM => (r_fieldAddr (off' := 4) Tryz.underlying60 rfl in57 rfl hF rfl rfl rfl)) fun a hF => ?_
          refine d_one hch 15 (by kernel_rfl) rfl rfl ?_
          refine d_ex0 15 rfl rfl rfl rfl fun w hMs hM => ?_
          refine (w_store1 Tryz.sizeOf57 (hM.obj (i := 1) rfl) hF rfl rfl rfl rfl (by rw [RMark.len]; decide) (RMark.s_slots _ _) fun w hU2559 => ?_)
          have hM := hM.chg hU2559 (i := 1) rfl
          replace hM : MemL _ (pt b_B32_169 (encs ([(LCell.mk v2520 x2555 x2556)] : List LCell)) 151 :: pt b_B32_8 (RMark.enc (RMark.mk x0.at_ x1.at_ x1.done s2515 s2557 SV.nil SV.nil)) 60 :: rowL 0 s2515 128 v2514 :: rowL 0 s2557 151 x2558 :: pt b_B32_4 (RMark.enc (RMark.mk 0 0 false SV.nil SV.nil SV.nil SV.nil)) 60 :: pt b_B32_3 (RState.enc (RState.mk x1.regs x1.stack s9 s11 s15 x1.at_ x1.steps x1.done)) 54 :: pt b_B32_2 (RState.enc (RState.mk x0.regs x0.stack s1 s3 s7 x0.at_ x0.steps x0.done)) 54 :: Lr) := hM
          have hMs := hM
          refine ⟨_, _, hMs, hM, .inr (by kernel_rfl), ?_⟩
          refine d_end hch (by kernel_rfl) fun w hM => ?_
          refine n_block (n_then ?_)
          have hP := Option.some.inj hP
          subst hP
          exact ⟨(v2514, x2558), rfl, s2515, s2557, hF.to ⟨rfl, rfl, rfl, rfl, rfl, rfl, trivial⟩, selM hM [1, 2, 3, 4, 5, 6] 7 rfl⟩
        have hP := Fx.cF hb2554 hP
        refine c_skip (n_block (n_then ?_))
        have hP := Option.some.inj hP
        subst hP
        exact ⟨(v2514, v2517), rfl, s2515, s2518, hF.to ⟨rfl, rfl, rfl, rfl, rfl, rfl, trivial⟩, hM⟩
      rintro ⟨v2544, v2547⟩ a w hP ⟨s2545, s2548, hF, hM⟩
      replace hP : Sh.ref23_Diff_j12 v2520 v2544 v2547 = _ := hP
      unfold Sh.ref23_Diff_j12 at hP
      refine n_then ?_
      refine c_region ?_
      refine s_val hF (r_move hF rfl rfl) rfl rfl rfl fun a hF => ?_
      refine s_val hF (r_add hF rfl rfl rfl) rfl rfl rfl fun a hF => ?_
      refine s_val hF (r_assign hF rfl rfl) rfl rfl rfl fun a hF => ?_
      refine c_nil (n_then ?_)
      have hP := Option.some.inj hP
      subst hP
      exact ⟨(v2544, v2547, (IntKind.i64.wrap (v2520 + 1))), rfl, s2545, s2548, hF.to ⟨rfl, rfl, rfl, rfl, rfl, rfl, trivial⟩, hM⟩
    have hP := Fx.cF hb2523 hP
    refine c_exit (x_then (x_then (x_hit ?_)))
    refine n_then ?_
    have hP := Option.some.inj hP
    subst hP
    have hP := hK_l11 _ rfl
    subst hP
    exact ⟨(v2514, v2517), rfl, s2515, s2518, hF.to ⟨rfl, rfl, rfl, rfl, rfl, trivial⟩, hM⟩
  rintro ⟨v2421, v2424⟩ a w hP ⟨s2422, s2425, hF, hM⟩
  replace hP : Sh.ref23_Diff_j10 x0 x1 v2421 v2424 = _ := hP
  unfold Sh.ref23_Diff_j10 at hP
  refine n_then ?_
  refine c_seq ?_
  refine c_region ?_
  refine s_val hF (r_fieldAddr (off' := 5) Tryz.underlying60 rfl in58 rfl hF rfl rfl rfl) rfl rfl rfl fun a hF => ?_
  refine s_val hF (r_load1 Tryz.isAgg58 hF rfl rfl (hM.cell (i := 0) rfl (RMark.g_pieces _))) rfl rfl rfl fun a hF => ?_
  refine s_val hF (r_fieldAddr (off' := 460) Tryz.underlying54 rfl in23 rfl hF rfl rfl rfl) rfl rfl rfl fun a hF => ?_
  refine s_val hF (r_load1 Tryz.isAgg23 hF rfl rfl (hM.cell (i := 5) rfl (RState.g_ctx _))) rfl rfl rfl fun a hF => ?_
  refine s_val hF (r_fieldAddr (off' := 460) Tryz.underlying54 rfl in23 rfl hF rfl rfl rfl) rfl rfl rfl fun a hF => ?_
  refine s_val hF (r_load1 Tryz.isAgg23 hF rfl rfl (hM.cell (i := 4) rfl (RState.g_ctx _))) rfl rfl rfl fun a hF => ?_
  obtain ⟨r2562, hM⟩ := voidM hM
  have q2563 : Each (QPieceIn r2562.holds') ([] : List RPiece) ([] : List QPiece) := Each.nil
  have hM := hM.rowNil (X := RPiece) 0 156
  obtain ⟨y2564, hy2564, hP⟩ := bind_some hP
  refine s_eff hF rfl rfl rfl (w_call (xs := [.tmp 173, .const (.int .i64 (-1)), .tmp 175, .tmp 177]) Tryz.call88 hF rfl rfl (ref23_unlike_calls hy2564 hM (Bf := Bf) (fun w hM => hsub _ (dropM hM 6)) q2563 f2 f10) fun v w hR => ?_)
  obtain ⟨s2565, hs2566, r2568, rfl, q2569, hM⟩ := hR
  replace hM : MemL _ (rowL 0 s2565 156 hs2566 :: r2568 :: pt b_B32_8 (RMark.enc (RMark.mk x0.at_ x1.at_ x1.done s2422 s2425 SV.nil SV.nil)) 60 :: rowL 0 s2422 128 v2421 :: rowL 0 s2425 151 v2424 :: pt b_B32_4 (RMark.enc (RMark.mk 0 0 false SV.nil SV.nil SV.nil SV.nil)) 60 :: pt b_B32_3 (RState.enc (RState.mk x1.regs x1.stack s9 s11 s15 x1.at_ x1.steps x1.done)) 54 :: pt b_B32_2 (RState.enc (RState.mk x0.regs x0.stack s1 s3 s7 x0.at_ x0.steps x0.done)) 54 :: Lr) := hM
  intro a hF
  refine s_val hF (r_fieldAddr (off' := 5) Tryz.underlying60 rfl in58 rfl hF rfl rfl rfl) rfl rfl rfl fun a hF => ?_
  refine s_eff0 rfl rfl (w_store1 Tryz.sizeOf58 (hM.obj (i := 2) rfl) hF rfl rfl rfl rfl (by rw [RMark.len]; decide) (RMark.s_pieces _ _) fun w hU2570 => ?_)
  have hM := hM.chg hU2570 (i := 2) rfl
  replace hM : MemL _ (rowL 0 s2565 156 hs2566 :: r2568 :: pt b_B32_8 (RMark.enc (RMark.mk x0.at_ x1.at_ x1.done s2422 s2425 s2565 SV.nil)) 60 :: rowL 0 s2422 128 v2421 :: rowL 0 s2425 151 v2424 :: pt b_B32_4 (RMark.enc (RMark.mk 0 0 false SV.nil SV.nil SV.nil SV.nil)) 60 :: pt b_B32_3 (RState.enc (RState.mk x1.regs x1.stack s9 s11 s15 x1.at_ x1.steps x1.done)) 54 :: pt b_B32_2 (RState.enc (RState.mk x0.regs x0.stack s1 s3 s7 x0.at_ x0.steps x0.done)) 54 :: Lr) := hM
  refine c_nil (n_then ?_)
  refine c_seq ?_
  refine c_joinX hF hM hP (fun F x a w => match x with | (v2755, v2758, v2761) => ∃ (s2756 : SV) (s2759 : SV) (s2762 : SV) (hs2763 : List RPiece) (r2765 : Res), Each (QPieceIn r2765.holds') hs2763 v2761 ∧ Fr 213 [(2, .pointer (some ⟨b_B32_2, 0, none⟩)), (3, .pointer (some ⟨b_B32_3, 0, none⟩)), (4, .pointer (some ⟨b_B32_4, 0, none⟩)), (5, .int .i64 0), (8, .pointer (some ⟨b_B32_8, 0, none⟩))] a ∧ MemL w (pt b_B32_8 (RMark.enc (RMark.mk x0.at_ x1.at_ x1.done s2756 s2759 s2762 SV.nil)) 60 :: rowL 0 s2756 128 v2755 :: rowL 0 s2759 151 v2758 :: rowL 0 s2762 156 hs2763 :: r2765 :: pt b_B32_4 (RMark.enc (RMark.mk 0 0 false SV.nil SV.nil SV.nil SV.nil)) 60 :: pt b_B32_3 (RState.enc (RState.mk x1.regs x1.stack s9 s11 s15 x1.at_ x1.steps x1.done)) 54 :: pt b_B32_2 (RState.enc (RState.mk x0.regs x0.stack s1 s3 s7 x0.at_ x0.steps x0.done)) 54 :: Lr)) (fun o_j13 hP hK_j13 hF hM => ?_) ?_
  · refine c_seq ?_
    refine c_region ?_
    refine s_val hF (r_assign hF rfl rfl) rfl rfl rfl fun a hF => ?_
    refine c_nil (n_then ?_)
    refine c_block ?_
    refine c_loopX hF hM hP (fun F x a w => match x with | (v2824, v2827, v2830, v2836) => ∃ (s2825 : SV) (s2828 : SV) (s2831 : SV) (hs2832 : List RPiece) (r2834 : Res), Each (QPieceIn r2834.holds') hs2832 v2830 ∧ Fr 213 [(11, .int .i64 v2836), (2, .pointer (some ⟨b_B32_2, 0, none⟩)), (3, .pointer (some ⟨b_B32_3, 0, none⟩)), (4, .pointer (some ⟨b_B32_4, 0, none⟩)), (5, .int .i64 0), (8, .pointer (some ⟨b_B32_8, 0, none⟩))] a ∧ MemL w (pt b_B32_8 (RMark.enc (RMark.mk x0.at_ x1.at_ x1.done s2825 s2828 s2831 SV.nil)) 60 :: rowL 0 s2825 128 v2824 :: rowL 0 s2828 151 v2827 :: rowL 0 s2831 156 hs2832 :: r2834 :: pt b_B32_4 (RMark.enc (RMark.mk 0 0 false SV.nil SV.nil SV.nil SV.nil)) 60 :: pt b_B32_3 (RState.enc (RState.mk x1.regs x1.stack s9 s11 s15 x1.at_ x1.steps x1.done)) 54 :: pt b_B32_2 (RState.enc (RState.mk x0.regs x0.stack s1 s3 s7 x0.at_ x0.steps x0.done)) 54 :: Lr)) (fun hF hM => ⟨s2422, s2425, s2565, hs2566, r2568, q2569, hF.to ⟨rfl, rfl, rfl, rfl, rfl, rfl, trivial⟩, selM hM [2, 3, 4, 0, 1, 5, 6, 7] 8 rfl⟩) ?_
    rintro ⟨v2824, v2827, v2830, v2836⟩ a w o_l14 hP hK_l14 ⟨s2825, s2828, s2831, hs2832, r2834, q2835, hF, hM⟩
    replace hP : Sh.ref23_Diff_l14 x0 x1 v2824 v2827 v2830 v2836 = _ := hP
    unfold Sh.ref23_Diff_l14 at hP
    refine c_seq ?_
    refine c_seq ?_
    refine c_region ?_
    refine s_val hF (r_move hF rfl rfl) rfl rfl rfl fun a hF => ?_
    refine s_val hF (r_fieldAddr (off' := 461) Tryz.underlying54 rfl in28 rfl hF rfl rfl rfl) rfl rfl rfl fun a hF => ?_
    refine s_val hF (r_load1 Tryz.isAgg28 hF rfl rfl (hM.cell (i := 7) rfl (RState.g_tables _))) rfl rfl rfl fun a hF => ?_
    refine s_val hF (r_lenD (f5 _ (hsub _ (dropM hM 8))) q6.len Tryz.underlying28 hF rfl rfl) rfl rfl rfl fun a hF => ?_
    refine s_val hF (r_lss hF rfl rfl rfl) rfl rfl rfl fun a hF => ?_
    refine c_nil (n_then ?_)
    refine c_cond hF (c := .tmp 184) rfl (fun hb2838 => ?_) (fun hb2838 => ?_)
    · have hP := Fx.cT hb2838 hP
      refine c_skip (n_then ?_)
      refine c_seq ?_
      refine c_block ?_
      refine d_startT mixed (by kernel_rfl) hM [0, 1, 2, 3, 4, 5, 6, 7] 8 rfl fun hch => ?_
      refine d_val hF hch 0 rfl (by kernel_rfl) rfl rfl rfl (fun w hM => (r_fieldAddr (off' := 5) Tryz.underlying60 rfl in58 rfl hF rfl rfl rfl)) fun a hF => ?_
      refine d_val hF hch 1 rfl (by kernel_rfl) rfl rfl rfl (fun w hM => (r_load1 Tryz.isAgg58 hF rfl rfl (hM.cell (i := 0) rfl (RMark.g_pieces _)))) fun a hF => ?_
      refine d_val hF hch 2 rfl (by kernel_rfl) rfl rfl rfl (fun w hM => (r_move hF rfl rfl)) fun a hF => ?_
      refine d_val hF hch 3 rfl (by kernel_rfl) rfl rfl rfl (fun w hM => (r_fieldAddr (off' := 461) Tryz.underlying54 rfl in28 rfl hF rfl rfl rfl)) fun a hF => ?_
      refine d_val hF hch 4 rfl (by kernel_rfl) rfl rfl rfl (fun w hM => (r_load1 Tryz.isAgg28 hF rfl rfl (hM.cell (i := 7) rfl (RState.g_tables _)))) fun a hF => ?_
      refine d_val hF hch 5 rfl (by kernel_rfl) rfl rfl rfl (fun w hM => (r_move hF rfl rfl)) fun a hF => ?_
      obtain ⟨x2849, hx2849, hP⟩ := bind_some hP
      have h0x2849 := get_some hx2849
      obtain ⟨yx2849, hgx2849, hrx2849⟩ := Each.getr q6 h0x2849.2
      have hdx2849 := Each.bd q6 (get_bd hx2849)
      refine d_val hF hch 6 rfl (by kernel_rfl) rfl rfl rfl (fun w hM => (r_indexZ (sz := 1) (f5 _ (hsub _ (dropM hM 8))) Tryz.underlying28 in23 rfl hF rfl rfl rfl hdx2849)) fun a hF => ?_
      refine d_val hF hch 7 rfl (by kernel_rfl) rfl rfl rfl (fun w hM => (r_load1 Tryz.isAgg23 hF rfl rfl ((((f5 _ (hsub _ (dropM hM 8))).elemS hgx2849)).get 0 rfl))) fun a hF => ?_
      refine d_val hF hch 8 rfl (by kernel_rfl) rfl rfl rfl (fun w hM => (r_fieldAddr (off' := 461) Tryz.underlying54 rfl in28 rfl hF rfl rfl rfl)) fun a hF => ?_
      refine d_val hF hch 9 rfl (by kernel_rfl) rfl rfl rfl (fun w hM => (r_load1 Tryz.isAgg28 hF rfl rfl (hM.cell (i := 6) rfl (RState.g_tables _)))) fun a hF => ?_
      refine d_val hF hch 10 rfl (by kernel_rfl) rfl rfl rfl (fun w hM => (r_move hF rfl rfl)) fun a hF => ?_
      obtain ⟨x2850, hx2850, hP⟩ := bind_some hP
      have h0x2850 := get_some hx2850
      obtain ⟨yx2850, hgx2850, hrx2850⟩ := Each.getr q14 h0x2850.2
      have hdx2850 := Each.bd q14 (get_bd hx2850)
      refine d_val hF hch 11 rfl (by kernel_rfl) rfl rfl rfl (fun w hM => (r_indexZ (sz := 1) (f13 _ (hsub _ (dropM hM 8))) Tryz.underlying28 in23 rfl hF rfl rfl rfl hdx2850)) fun a hF => ?_
      refine d_val hF hch 12 rfl (by kernel_rfl) rfl rfl rfl (fun w hM => (r_load1 Tryz.isAgg23 hF rfl rfl ((((f13 _ (hsub _ (dropM hM 8))).elemS hgx2850)).get 0 rfl))) fun a hF => ?_
      refine d_one hch 13 (by kernel_rfl) rfl rfl ?_
      refine d_ex hF 13 rfl rfl rfl rfl rfl fun w hMs hM => ?_
      obtain ⟨y2852, hy2852, hP⟩ := bind_some hP
      refine (w_call (xs := [.tmp 188, .tmp 189, .tmp 194, .tmp 199]) Tryz.call88 hF rfl rfl (ref23_unlike_calls hy2852 (selM hM [3, 4, 0, 1, 2, 5, 6, 7] 8 rfl) (Bf := Bf) (fun w hM => hsub _ (dropM hM 6)) q2835 hrx2849 hrx2850) fun v w hR => ?_)
      obtain ⟨s2853, hs2854, r2856, rfl, q2857, hM⟩ := hR
      replace hM : MemL _ (rowL 0 s2853 156 hs2854 :: r2856 :: pt b_B32_8 (RMark.enc (RMark.mk x0.at_ x1.at_ x1.done s2825 s2828 s2831 SV.nil)) 60 :: rowL 0 s2825 128 v2824 :: rowL 0 s2828 151 v2827 :: pt b_B32_4 (RMark.enc (RMark.mk 0 0 false SV.nil SV.nil SV.nil SV.nil)) 60 :: pt b_B32_3 (RState.enc (RState.mk x1.regs x1.stack s9 s11 s15 x1.at_ x1.steps x1.done)) 54 :: pt b_B32_2 (RState.enc (RState.mk x0.regs x0.stack s1 s3 s7 x0.at_ x0.steps x0.done)) 54 :: Lr) := hM
      have hMs := hM
      refine ⟨_, _, hMs, hM, .inr (by kernel_rfl), fun a hF => ?_⟩
      refine d_val hF hch 14 rfl (by kernel_rfl) rfl rfl rfl (fun w hM => (r_fieldAddr (off' := 5) Tryz.underlying60 rfl in58 rfl hF rfl rfl rfl)) fun a hF => ?_
      refine d_one hch 15 (by kernel_rfl) rfl rfl ?_
      refine d_ex0 15 rfl rfl rfl rfl fun w hMs hM => ?_
      refine (w_store1 Tryz.sizeOf58 (hM.obj (i := 2) rfl) hF rfl rfl rfl rfl (by rw [RMark.len]; decide) (RMark.s_pieces _ _) fun w hU2858 => ?_)
      have hM := hM.chg hU2858 (i := 2) rfl
      replace hM : MemL _ (rowL 0 s2853 156 hs2854 :: r2856 :: pt b_B32_8 (RMark.enc (RMark.mk x0.at_ x1.at_ x1.done s2825 s2828 s2853 SV.nil)) 60 :: rowL 0 s2825 128 v2824 :: rowL 0 s2828 151 v2827 :: pt b_B32_4 (RMark.enc (RMark.mk 0 0 false SV.nil SV.nil SV.nil SV.nil)) 60 :: pt b_B32_3 (RState.enc (RState.mk x1.regs x1.stack s9 s11 s15 x1.at_ x1.steps x1.done)) 54 :: pt b_B32_2 (RState.enc (RState.mk x0.regs x0.stack s1 s3 s7 x0.at_ x0.steps x0.done)) 54 :: Lr) := hM
      have hMs := hM
      refine ⟨_, _, hMs, hM, .inr (by kernel_rfl), ?_⟩
      refine d_end hch (by kernel_rfl) fun w hM => ?_
      refine n_block (n_then ?_)
      refine c_region ?_
      refine s_val hF (r_move hF rfl rfl) rfl rfl rfl fun a hF => ?_
      refine s_val hF (r_add hF rfl rfl rfl) rfl rfl rfl fun a hF => ?_
      refine s_val hF (r_assign hF rfl rfl) rfl rfl rfl fun a hF => ?_
      refine c_nil (n_then ?_)
      have hP := Option.some.inj hP
      subst hP
      exact ⟨(v2824, v2827, y2852, (IntKind.i64.wrap (v2836 + 1))), rfl, s2825, s2828, s2853, hs2854, r2856, q2857, hF.to ⟨rfl, rfl, rfl, rfl, rfl, rfl, trivial⟩, selM hM [2, 3, 4, 0, 1, 5, 6, 7] 8 rfl⟩
    have hP := Fx.cF hb2838 hP
    refine c_exit (x_then (x_then (x_hit ?_)))
    refine n_then ?_
    have hP := Option.some.inj hP
    subst hP
    have hP := hK_l14 _ rfl
    subst hP
    exact ⟨(v2824, v2827, v2830), rfl, s2825, s2828, s2831, hs2832, r2834, q2835, hF.to ⟨rfl, rfl, rfl, rfl, rfl, trivial⟩, hM⟩
  rintro ⟨v2755, v2758, v2761⟩ a w hP ⟨s2756, s2759, s2762, hs2763, r2765, q2766, hF, hM⟩
  replace hP : Sh.ref23_Diff_j13 x0 x1 v2755 v2758 v2761 = _ := hP
  unfold Sh.ref23_Diff_j13 at hP
  refine n_then ?_
  refine c_seq ?_
  refine d_startT mixed (by kernel_rfl) hM [0, 1, 2, 3, 4, 5, 6, 7] 8 rfl fun hch => ?_
  refine d_val hF hch 0 rfl (by kernel_rfl) rfl rfl rfl (fun w hM => (r_fieldAddr (off' := 6) Tryz.underlying60 rfl in52 rfl hF rfl rfl rfl)) fun a hF => ?_
  refine d_val hF hch 1 rfl (by kernel_rfl) rfl rfl rfl (fun w hM => (r_load1 Tryz.isAgg52 hF rfl rfl (hM.cell (i := 0) rfl (RMark.g_sent _)))) fun a hF => ?_
  refine d_val hF hch 2 rfl (by kernel_rfl) rfl rfl rfl (fun w hM => (r_fieldAddr (off' := 462) Tryz.underlying54 rfl in52 rfl hF rfl rfl rfl)) fun a hF => ?_
  refine d_val hF hch 3 rfl (by kernel_rfl) rfl rfl rfl (fun w hM => (r_load1 Tryz.isAgg52 hF rfl rfl (hM.cell (i := 6) rfl (RState.g_sent _)))) fun a hF => ?_
  refine d_val hF hch 4 rfl (by kernel_rfl) rfl rfl rfl (fun w hM => (r_fieldAddr (off' := 462) Tryz.underlying54 rfl in52 rfl hF rfl rfl rfl)) fun a hF => ?_
  refine d_val hF hch 5 rfl (by kernel_rfl) rfl rfl rfl (fun w hM => (r_load1 Tryz.isAgg52 hF rfl rfl (hM.cell (i := 7) rfl (RState.g_sent _)))) fun a hF => ?_
  refine d_val hF hch 6 rfl (by kernel_rfl) rfl rfl rfl (fun w hM => (r_lenL (f8 _ (hsub _ (dropM hM 8))) Tryz.underlying52 hF rfl rfl)) fun a hF => ?_
  obtain ⟨x2864, hx2864, hP⟩ := bind_some hP
  refine d_val hF hch 7 rfl (by kernel_rfl) rfl rfl rfl (fun w hM => (r_cutZ (f16 _ (hsub _ (dropM hM 8))) hx2864 Tryz.underlying52 in3 rfl hF rfl rfl (.inr ⟨_, _, rfl, rfl⟩) (.inl ⟨rfl, rfl⟩))) fun a hF => ?_
  refine d_one hch 8 (by kernel_rfl) rfl rfl ?_
  refine d_ex hF 8 rfl rfl rfl rfl rfl fun w hMs hM => ?_
  have hM := hM.rowNil (X := Int) 0 3
  obtain ⟨x2867, hx2867, hP⟩ := bind_some hP
  refine (w_appX (X := Int) hx2867 Tryz.underlying52 in3 rfl rfl rfl rfl hF rfl rfl rfl (hM.own (X := Int) (i := 0) rfl) ((LIn.slc f16 hx2864 rfl) _ (hsub _ (dropM hM 9))) fun s2865 w hUs2865 => ?_)
  have hM := hM.chg hUs2865 (i := 0) rfl
  replace hM : MemL _ (rowL 0 s2865 3 x2867 :: pt b_B32_8 (RMark.enc (RMark.mk x0.at_ x1.at_ x1.done s2756 s2759 s2762 SV.nil)) 60 :: rowL 0 s2756 128 v2755 :: rowL 0 s2759 151 v2758 :: rowL 0 s2762 156 hs2763 :: r2765 :: pt b_B32_4 (RMark.enc (RMark.mk 0 0 false SV.nil SV.nil SV.nil SV.nil)) 60 :: pt b_B32_3 (RState.enc (RState.mk x1.regs x1.stack s9 s11 s15 x1.at_ x1.steps x1.done)) 54 :: pt b_B32_2 (RState.enc (RState.mk x0.regs x0.stack s1 s3 s7 x0.at_ x0.steps x0.done)) 54 :: Lr) := hM
  have hMs := selM hM [0, 1, 2, 3, 4, 5, 6, 7, 8] 9 rfl
  refine ⟨_, _, hMs, hM, .inl fun _ h => dropM h 1, fun a hF => ?_⟩
  refine d_val hF hch 9 rfl (by kernel_rfl) rfl rfl rfl (fun w hM => (r_fieldAddr (off' := 6) Tryz.underlying60 rfl in52 rfl hF rfl rfl rfl)) fun a hF => ?_
  refine d_one hch 10 (by kernel_rfl) rfl rfl ?_
  refine d_ex0 10 rfl rfl rfl rfl fun w hMs hM => ?_
  refine (w_store1 Tryz.sizeOf52 (hM.obj (i := 1) rfl) hF rfl rfl rfl rfl (by rw [RMark.len]; decide) (RMark.s_sent _ _) fun w hU2868 => ?_)
  have hM := hM.chg hU2868 (i := 1) rfl
  replace hM : MemL _ (rowL 0 s2865 3 x2867 :: pt b_B32_8 (RMark.enc (RMark.mk x0.at_ x1.at_ x1.done s2756 s2759 s2762 s2865)) 60 :: rowL 0 s2756 128 v2755 :: rowL 0 s2759 151 v2758 :: rowL 0 s2762 156 hs2763 :: r2765 :: pt b_B32_4 (RMark.enc (RMark.mk 0 0 false SV.nil SV.nil SV.nil SV.nil)) 60 :: pt b_B32_3 (RState.enc (RState.mk x1.regs x1.stack s9 s11 s15 x1.at_ x1.steps x1.done)) 54 :: pt b_B32_2 (RState.enc (RState.mk x0.regs x0.stack s1 s3 s7 x0.at_ x0.steps x0.done)) 54 :: Lr) := hM
  have hMs := hM
  refine ⟨_, _, hMs, hM, .inr (by kernel_rfl), ?_⟩
  refine d_end hch (by kernel_rfl) fun w hM => ?_
  refine n_then ?_
  refine c_seq ?_
  refine c_region ?_
  refine s_val hF (r_loadn Tryz.isAgg60 Tryz.sizeOf60 hF rfl rfl (RMark.len _) (hM.cells (i := 1) rfl (cut_all (RMark.len _)))) rfl rfl rfl fun a hF => ?_
  refine s_eff0 rfl rfl (w_storen (vs := _) Tryz.sizeOf60 (hM.obj (i := 6) rfl) hF rfl rfl rfl rfl (RMark.len _) (RMark.one _) (by first | (rw [RMark.len, RMark.len]; decide) | (rw [RMark.len]; decide)) (put_all ((RMark.len _).trans (RMark.len _).symm)) fun w hU2869 => ?_)
  have hM := hM.chg hU2869 (i := 6) rfl
  replace hM : MemL _ (rowL 0 s2865 3 x2867 :: pt b_B32_8 (RMark.enc (RMark.mk x0.at_ x1.at_ x1.done s2756 s2759 s2762 s2865)) 60 :: rowL 0 s2756 128 v2755 :: rowL 0 s2759 151 v2758 :: rowL 0 s2762 156 hs2763 :: r2765 :: pt b_B32_4 (RMark.enc (RMark.mk x0.at_ x1.at_ x1.done s2756 s2759 s2762 s2865)) 60 :: pt b_B32_3 (RState.enc (RState.mk x1.regs x1.stack s9 s11 s15 x1.at_ x1.steps x1.done)) 54 :: pt b_B32_2 (RState.enc (RState.mk x0.regs x0.stack s1 s3 s7 x0.at_ x0.steps x0.done)) 54 :: Lr) := hM
  refine s_val hF (r_assign hF rfl rfl) rfl rfl rfl fun a hF => ?_
  refine c_nil (n_then ?_)
  refine c_ret ?_
  have hP := Option.some.inj hP
  subst hP
  refine e_ret (rs := [.cell 4 60, .tmp 5]) Tryz.results32 hF (res_celln hF rfl Tryz.isAgg60 Tryz.sizeOf60 (RMark.len _) (hM.cells (i := 6) rfl (cut_all (RMark.len _))) (res_tmp hF rfl res_nil)) rfl ?_
  exact ⟨s2756, s2759, s2762, hs2763, r2765, s2865, rfl, q2766, selM hM [2, 3, 4, 5, 0] 9 rfl⟩
set_option maxHeartbeats 4000000 in
theorem law23_TraceDiffs_calls {x0 : QState} {x1 : QState} {s1 : SV} {s3 : SV} {hs4 : List SV} {s7 : SV} {s9 : SV} {s11 : SV} {hs12 : List SV} {s15 : SV} {out : Bool} {w0 : World} {Bf : World → Prop} {Lr : List Res} (hP : Sh.law23_TraceDiffs x0 x1 = some out) (hM : MemL w0 (Lr)) (hsub : ∀ w, MemL w Lr → Bf w) (f2 : LIn Bf s1 x0.ctx) (f5 : LIn Bf s3 hs4) (q6 : Each (LIn (X := UInt8) Bf) hs4 x0.tables) (f8 : LIn Bf s7 x0.sent) (f10 : LIn Bf s9 x1.ctx) (f13 : LIn Bf s11 hs12) (q14 : Each (LIn (X := UInt8) Bf) hs12 x1.tables) (f16 : LIn Bf s15 x1.sent) : Calls Tryz.prog 5 #[.agg (RState.enc (RState.mk x0.regs x0.stack s1 s3 s7 x0.at_ x0.steps x0.done)).toArray, .agg (RState.enc (RState.mk x1.regs x1.stack s9 s11 s15 x1.at_ x1.steps x1.done)).toArray] w0 (Ret fun v w' => v = .bool out ∧ MemL w' (Lr)) := by
  unfold Sh.law23_TraceDiffs at hP
  refine calls_enter (vs := [.agg (RState.enc (RState.mk x0.regs x0.stack s1 s3 s7 x0.at_ x0.steps x0.done)).toArray, .agg (RState.enc (RState.mk x1.regs x1.stack s9 s11 s15 x1.at_ x1.steps x1.done)).toArray]) Tryz.func5 rfl Tryz.ntmps5 rfl fun a hF => ?_
  refine c_seq ?_
  refine c_region ?_
  refine s_eff hF rfl rfl rfl (w_box hF rfl rfl rfl fun b_B5_2 w hzB5_2 hAB5_2 => ?_)
  have hM := hM.plus hAB5_2
  replace hM : MemL _ (pt b_B5_2 (RState.enc (RState.mk x0.regs x0.stack s1 s3 s7 x0.at_ x0.steps x0.done)) 54 :: Lr) := hM
  intro a hF
  refine s_eff hF rfl rfl rfl (w_box hF rfl rfl rfl fun b_B5_3 w hzB5_3 hAB5_3 => ?_)
  have hM := hM.plus hAB5_3
  replace hM : MemL _ (pt b_B5_3 (RState.enc (RState.mk x1.regs x1.stack s9 s11 s15 x1.at_ x1.steps x1.done)) 54 :: pt b_B5_2 (RState.enc (RState.mk x0.regs x0.stack s1 s3 s7 x0.at_ x0.steps x0.done)) 54 :: Lr) := hM
  intro a hF
  refine s_val hF (r_assign hF rfl rfl) rfl rfl rfl fun a hF => ?_
  refine c_nil (n_then ?_)
  refine c_seq ?_
  refine c_seq ?_
  refine c_region ?_
  obtain ⟨y562, hy562, hP⟩ := bind_some hP
  refine s_eff hF rfl rfl rfl (w_call (xs := []) Tryz.call22 hF rfl rfl (law23_known_calls hy562 hM ) fun v w hR => ?_)
  obtain ⟨rfl, hM⟩ := hR
  replace hM : MemL _ (pt b_B5_3 (RState.enc (RState.mk x1.regs x1.stack s9 s11 s15 x1.at_ x1.steps x1.done)) 54 :: pt b_B5_2 (RState.enc (RState.mk x0.regs x0.stack s1 s3 s7 x0.at_ x0.steps x0.done)) 54 :: Lr) := hM
  intro a hF
  refine s_val hF (r_not hF rfl rfl) rfl rfl rfl fun a hF => ?_
  refine c_nil (n_then ?_)
  refine c_cond hF (c := .tmp 14) rfl (fun hb563 => ?_) (fun hb563 => ?_)
  · have hP := Fx.cT hb563 hP
    refine c_seq ?_
    refine c_region ?_
    refine s_val hF (r_assign hF rfl rfl) rfl rfl rfl fun a hF => ?_
    refine c_nil (n_then ?_)
    refine c_ret ?_
    have hP := Option.some.inj hP
    subst hP
    refine e_ret1 Tryz.results5 hF rfl ?_
    exact ⟨rfl, selM hM [] 2 rfl⟩
  have hP := Fx.cF hb563 hP
  refine c_skip (n_then ?_)
  refine c_seq ?_
  refine c_joinX hF hM hP (fun F x a w => match x with | (v613, v624) => ∃ (b612 : Nat) (s614 : SV) (s616 : SV) (hs617 : List SV) (r619 : Res) (s621 : SV) (b623 : Nat) (s625 : SV) (s627 : SV) (hs628 : List SV) (r630 : Res) (s632 : SV), Each (LIn (X := UInt8) r619.holds') hs617 v613.tables ∧ Each (LIn (X := UInt8) r630.holds') hs628 v624.tables ∧ Fr 89 [(5, .pointer (some ⟨b612, 0, none⟩)), (6, .pointer (some ⟨b623, 0, none⟩)), (2, .pointer (some ⟨b_B5_2, 0, none⟩)), (3, .pointer (some ⟨b_B5_3, 0, none⟩)), (4, .bool false)] a ∧ MemL w (pt b612 (RState.enc (RState.mk v613.regs v613.stack s614 s616 s621 v613.at_ v613.steps v613.done)) 54 :: rowL 0 s614 5 v613.ctx :: rowL 0 s616 23 hs617 :: r619 :: rowL 0 s621 3 v613.sent :: pt b623 (RState.enc (RState.mk v624.regs v624.stack s625 s627 s632 v624.at_ v624.steps v624.done)) 54 :: rowL 0 s625 5 v624.ctx :: rowL 0 s627 23 hs628 :: r630 :: rowL 0 s632 3 v624.sent :: pt b_B5_3 (RState.enc (RState.mk x1.regs x1.stack s9 s11 s15 x1.at_ x1.steps x1.done)) 54 :: pt b_B5_2 (RState.enc (RState.mk x0.regs x0.stack s1 s3 s7 x0.at_ x0.steps x0.done)) 54 :: Lr)) (fun o_j1 hP hK_j1 hF hM => ?_) ?_
  · refine d_startT mixed (by kernel_rfl) hM [0, 1] 2 rfl fun hch => ?_
    refine d_val hF hch 0 rfl (by kernel_rfl) rfl rfl rfl (fun w hM => (r_loadn Tryz.isAgg54 Tryz.sizeOf54 hF rfl rfl (RState.len _) (hM.cells (i := 1) rfl (cut_all (RState.len _))))) fun a hF => ?_
    refine d_val hF hch 2 rfl (by kernel_rfl) rfl rfl rfl (fun w hM => (r_loadn Tryz.isAgg54 Tryz.sizeOf54 hF rfl rfl (RState.len _) (hM.cells (i := 0) rfl (cut_all (RState.len _))))) fun a hF => ?_
    refine d_three hch 1 4 5 (by kernel_rfl) rfl rfl ?_ ?_ ?_
    · refine d_ex hF 1 rfl rfl rfl rfl rfl fun w hMs hM => ?_
      obtain ⟨y635, hy635, hP⟩ := bind_some hP
      refine (w_call (xs := [.tmp 15]) Tryz.call30 hF rfl rfl (law23_copyState_calls hy635 hM (Bf := Bf) (fun w hM => hsub _ (dropM hM 2)) f2 f5 q6 f8) fun v w hR => ?_)
      obtain ⟨s636, s638, hs639, r641, s643, rfl, q642, hM⟩ := hR
      replace hM : MemL _ (rowL 0 s636 5 y635.ctx :: rowL 0 s638 23 hs639 :: r641 :: rowL 0 s643 3 y635.sent :: pt b_B5_3 (RState.enc (RState.mk x1.regs x1.stack s9 s11 s15 x1.at_ x1.steps x1.done)) 54 :: pt b_B5_2 (RState.enc (RState.mk x0.regs x0.stack s1 s3 s7 x0.at_ x0.steps x0.done)) 54 :: Lr) := hM
      have hMs := selM hM [0, 1, 2, 3, 4, 5] 6 rfl
      refine ⟨_, _, hMs, hM, .inl fun _ h => dropM h 4, fun a hF => ?_⟩
      refine d_three hch 3 4 5 (by kernel_rfl) rfl rfl ?_ ?_ ?_
      · refine d_ex hF 3 rfl rfl rfl rfl rfl fun w hMs hM => ?_
        obtain ⟨y646, hy646, hP⟩ := bind_some hP
        refine (w_call (xs := [.tmp 17]) Tryz.call30 hF rfl rfl (law23_copyState_calls hy646 hM (Bf := Bf) (fun w hM => hsub _ (dropM hM 6)) f10 f13 q14 f16) fun v w hR => ?_)
        obtain ⟨s647, s649, hs650, r652, s654, rfl, q653, hM⟩ := hR
        replace hM : MemL _ (rowL 0 s647 5 y646.ctx :: rowL 0 s649 23 hs650 :: r652 :: rowL 0 s654 3 y646.sent :: rowL 0 s636 5 y635.ctx :: rowL 0 s638 23 hs639 :: r641 :: rowL 0 s643 3 y635.sent :: pt b_B5_3 (RState.enc (RState.mk x1.regs x1.stack s9 s11 s15 x1.at_ x1.steps x1.done)) 54 :: pt b_B5_2 (RState.enc (RState.mk x0.regs x0.stack s1 s3 s7 x0.at_ x0.steps x0.done)) 54 :: Lr) := hM
        have hMs := selM hM [0, 1, 2, 3, 4, 5, 6, 7, 8, 9] 10 rfl
        refine ⟨_, _, hMs, hM, .inl fun _ h => dropM h 4, fun a hF => ?_⟩
        refine d_two hch 4 5 (by kernel_rfl) rfl rfl ?_ ?_
        · refine d_ex hF 4 rfl rfl rfl rfl rfl fun w hMs hM => ?_
          refine (w_alloc z54 (zs := RState.zero.enc) rfl rfl fun b_B5_5 w hzB5_5 hAB5_5 => ?_)
          have hM := hM.plus hAB5_5
          replace hM : MemL _ (pt b_B5_5 (RState.enc (RState.mk (⟨List.replicate 11 LVal.zero, rfl⟩ : Vec LVal 11) (⟨List.replicate 32 LSlot.zero, rfl⟩ : Vec LSlot 32) SV.nil SV.nil SV.nil 0 0 false)) 54 :: rowL 0 s647 5 y646.ctx :: rowL 0 s649 23 hs650 :: r652 :: rowL 0 s654 3 y646.sent :: rowL 0 s636 5 y635.ctx :: rowL 0 s638 23 hs639 :: r641 :: rowL 0 s643 3 y635.sent :: pt b_B5_3 (RState.enc (RState.mk x1.regs x1.stack s9 s11 s15 x1.at_ x1.steps x1.done)) 54 :: pt b_B5_2 (RState.enc (RState.mk x0.regs x0.stack s1 s3 s7 x0.at_ x0.steps x0.done)) 54 :: Lr) := hM
          have hMs := selM hM [0, 1, 2, 3, 4, 5, 6, 7, 8, 9, 10] 11 rfl
          refine ⟨_, _, hMs, hM, .inl fun _ h => dropM h 1, fun a hF => ?_⟩
          refine d_one hch 5 (by kernel_rfl) rfl rfl ?_
          refine d_ex hF 5 rfl rfl rfl rfl rfl fun w hMs hM => ?_
          refine (w_alloc z54 (zs := RState.zero.enc) rfl rfl fun b_B5_6 w hzB5_6 hAB5_6 => ?_)
          have hM := hM.plus hAB5_6
          replace hM : MemL _ (pt b_B5_6 (RState.enc (RState.mk (⟨List.replicate 11 LVal.zero, rfl⟩ : Vec LVal 11) (⟨List.replicate 32 LSlot.zero, rfl⟩ : Vec LSlot 32) SV.nil SV.nil SV.nil 0 0 false)) 54 :: pt b_B5_5 (RState.enc (RState.mk (⟨List.replicate 11 LVal.zero, rfl⟩ : Vec LVal 11) (⟨List.replicate 32 LSlot.zero, rfl⟩ : Vec LSlot 32) SV.nil SV.nil SV.nil 0 0 false)) 54 :: rowL 0 s647 5 y646.ctx :: rowL 0 s649 23 hs650 :: r652 :: rowL 0 s654 3 y646.sent :: rowL 0 s636 5 y635.ctx :: rowL 0 s638 23 hs639 :: r641 :: rowL 0 s643 3 y635.sent :: pt b_B5_3 (RState.enc (RState.mk x1.regs x1.stack s9 s11 s15 x1.at_ x1.steps x1.done)) 54 :: pt b_B5_2 (RState.enc (RState.mk x0.regs x0.stack s1 s3 s7 x0.at_ x0.steps x0.done)) 54 :: Lr) := hM
          have hMs := selM hM [0, 1, 2, 3, 4, 5, 6, 7, 8, 9, 10, 11] 12 rfl
          refine ⟨_, _, hMs, hM, .inl fun _ h => dropM h 1, fun a hF => ?_⟩
          refine d_one hch 6 (by kernel_rfl) rfl rfl ?_
          refine d_ex0 6 rfl rfl rfl rfl fun w hMs hM => ?_
          refine (w_storen (vs := _) Tryz.sizeOf54 (hM.obj (i := 1) rfl) hF rfl rfl rfl rfl (RState.len _) (RState.one _) (by first | (rw [RState.len, RState.len]; decide) | (rw [RState.len]; decide)) (put_all ((RState.len _).trans (RState.len _).symm)) fun w hU656 => ?_)
          have hM := hM.chg hU656 (i := 1) rfl
          replace hM : MemL _ (pt b_B5_6 (RState.enc (RState.mk (⟨List.replicate 11 LVal.zero, rfl⟩ : Vec LVal 11) (⟨List.replicate 32 LSlot.zero, rfl⟩ : Vec LSlot 32) SV.nil SV.nil SV.nil 0 0 false)) 54 :: pt b_B5_5 (RState.enc (RState.mk y635.regs y635.stack s636 s638 s643 y635.at_ y635.steps y635.done)) 54 :: rowL 0 s647 5 y646.ctx :: rowL 0 s649 23 hs650 :: r652 :: rowL 0 s654 3 y646.sent :: rowL 0 s636 5 y635.ctx :: rowL 0 s638 23 hs639 :: r641 :: rowL 0 s643 3 y635.sent :: pt b_B5_3 (RState.enc (RState.mk x1.regs x1.stack s9 s11 s15 x1.at_ x1.steps x1.done)) 54 :: pt b_B5_2 (RState.enc (RState.mk x0.regs x0.stack s1 s3 s7 x0.at_ x0.steps x0.done)) 54 :: Lr) := hM
          have hMs := hM
          refine ⟨_, _, hMs, hM, .inr (by kernel_rfl), ?_⟩
          refine d_one hch 7 (by kernel_rfl) rfl rfl ?_
          refine d_ex0 7 rfl rfl rfl rfl fun w hMs hM => ?_
          refine (w_storen (vs := _) Tryz.sizeOf54 (hM.obj (i := 0) rfl) hF rfl rfl rfl rfl (RState.len _) (RState.one _) (by first | (rw [RState.len, RState.len]; decide) | (rw [RState.len]; decide)) (put_all ((RState.len _).trans (RState.len _).symm)) fun w hU657 => ?_)
          have hM := hM.chg hU657 (i := 0) rfl
          replace hM : MemL _ (pt b_B5_6 (RState.enc (RState.mk y646.regs y646.stack s647 s649 s654 y646.at_ y646.steps y646.done)) 54 :: pt b_B5_5 (RState.enc (RState.mk y635.regs y635.stack s636 s638 s643 y635.at_ y635.steps y635.done)) 54 :: rowL 0 s647 5 y646.ctx :: rowL 0 s649 23 hs650 :: r652 :: rowL 0 s654 3 y646.sent :: rowL 0 s636 5 y635.ctx :: rowL 0 s638 23 hs639 :: r641 :: rowL 0 s643 3 y635.sent :: pt b_B5_3 (RState.enc (RState.mk x1.regs x1.stack s9 s11 s15 x1.at_ x1.steps x1.done)) 54 :: pt b_B5_2 (RState.enc (RState.mk x0.regs x0.stack s1 s3 s7 x0.at_ x0.steps x0.done)) 54 :: Lr) := hM
          have hMs := hM
          refine ⟨_, _, hMs, hM, .inr (by kernel_rfl), ?_⟩
          refine d_end hch (by kernel_rfl) fun w hM => ?_
          refine n_then ?_
          have hP := Option.some.inj hP
          subst hP
          exact ⟨(y635, y646), rfl, b_B5_5, s636, s638, hs639, r641, s643, b_B5_6, s647, s649, hs650, r652, s654, q642, q653, hF.to ⟨rfl, rfl, rfl, rfl, rfl, trivial⟩, selM hM [1, 6, 7, 8, 9, 0, 2, 3, 4, 5, 10, 11] 12 rfl⟩
        refine d_ex hF 5 rfl rfl rfl rfl rfl fun w hMs hM => ?_
        refine (w_alloc z54 (zs := RState.zero.enc) rfl rfl fun b_B5_6 w hzB5_6 hAB5_6 => ?_)
        have hM := hM.plus hAB5_6
        replace hM : MemL _ (pt b_B5_6 (RState.enc (RState.mk (⟨List.replicate 11 LVal.zero, rfl⟩ : Vec LVal 11) (⟨List.replicate 32 LSlot.zero, rfl⟩ : Vec LSlot 32) SV.nil SV.nil SV.nil 0 0 false)) 54 :: rowL 0 s647 5 y646.ctx :: rowL 0 s649 23 hs650 :: r652 :: rowL 0 s654 3 y646.sent :: rowL 0 s636 5 y635.ctx :: rowL 0 s638 23 hs639 :: r641 :: rowL 0 s643 3 y635.sent :: pt b_B5_3 (RState.enc (RState.mk x1.regs x1.stack s9 s11 s15 x1.at_ x1.steps x1.done)) 54 :: pt b_B5_2 (RState.enc (RState.mk x0.regs x0.stack s1 s3 s7 x0.at_ x0.steps x0.done)) 54 :: Lr) := hM
        have hMs := selM hM [0, 1, 2, 3, 4, 5, 6, 7, 8, 9, 10] 11 rfl
        refine ⟨_, _, hMs, hM, .inl fun _ h => dropM h 1, fun a hF => ?_⟩
        refine d_one hch 4 (by kernel_rfl) rfl rfl ?_
        refine d_ex hF 4 rfl rfl rfl rfl rfl fun w hMs hM => ?_
        refine (w_alloc z54 (zs := RState.zero.enc) rfl rfl fun b_B5_5 w hzB5_5 hAB5_5 => ?_)
        have hM := hM.plus hAB5_5
        replace hM : MemL _ (pt b_B5_5 (RState.enc (RState.mk (⟨List.replicate 11 LVal.zero, rfl⟩ : Vec LVal 11) (⟨List.replicate 32 LSlot.zero, rfl⟩ : Vec LSlot 32) SV.nil SV.nil SV.nil 0 0 false)) 54 :: pt b_B5_6 (RState.enc (RState.mk (⟨List.replicate 11 LVal.zero, rfl⟩ : Vec LVal 11) (⟨List.replicate 32 LSlot.zero, rfl⟩ : Vec LSlot 32) SV.nil SV.nil SV.nil 0 0 false)) 54 :: rowL 0 s647 5 y646.ctx :: rowL 0 s649 23 hs650 :: r652 :: rowL 0 s654 3 y646.sent :: rowL 0 s636 5 y635.ctx :: rowL 0 s638 23 hs639 :: r641 :: rowL 0 s643 3 y635.sent :: pt b_B5_3 (RState.enc (RState.mk x1.regs x1.stack s9 s11 s15 x1.at_ x1.steps x1.done)) 54 :: pt b_B5_2 (RState.enc (RState.mk x0.regs x0.stack s1 s3 s7 x0.at_ x0.steps x0.done)) 54 :: Lr) := hM
        have hMs := selM hM [0, 1, 2, 3, 4, 5, 6, 7, 8, 9, 10, 11] 12 rfl
        refine ⟨_, _, hMs, hM, .inl fun _ h => dropM h 1, fun a hF => ?_⟩
        refine d_one hch 6 (by kernel_rfl) rfl rfl ?_
        refine d_ex0 6 rfl rfl rfl rfl fun w hMs hM => ?_
        refine (w_storen (vs := _) Tryz.sizeOf54 (hM.obj (i := 0) rfl) hF rfl rfl rfl rfl (RState.len _) (RState.one _) (by first | (rw [RState.len, RState.len]; decide) | (rw [RState.len]; decide)) (put_all ((RState.len _).trans (RState.len _).symm)) fun w hU656 => ?_)
        have hM := hM.chg hU656 (i := 0) rfl
        replace hM : MemL _ (pt b_B5_5 (RState.enc (RState.mk y635.regs y635.stack s636 s638 s643 y635.at_ y635.steps y635.done)) 54 :: pt b_B5_6 (RState.enc (RState.mk (⟨List.replicate 11 LVal.zero, rfl⟩ : Vec LVal 11) (⟨List.replicate 32 LSlot.zero, rfl⟩ : Vec LSlot 32) SV.nil SV.nil SV.nil 0 0 false)) 54 :: rowL 0 s647 5 y646.ctx :: rowL 0 s649 23 hs650 :: r652 :: rowL 0 s654 3 y646.sent :: rowL 0 s636 5 y635.ctx :: rowL 0 s638 23 hs639 :: r641 :: rowL 0 s643 3 y635.sent :: pt b_B5_3 (RState.enc (RState.mk x1.regs x1.stack s9 s11 s15 x1.at_ x1.steps x1.done)) 54 :: pt b_B5_2 (RState.enc (RState.mk x0.regs x0.stack s1 s3 s7 x0.at_ x0.steps x0.done)) 54 :: Lr) := hM
        have hMs := hM
        refine ⟨_, _, hMs, hM, .inr (by kernel_rfl), ?_⟩
        refine d_one hch 7 (by kernel_rfl) rfl rfl ?_
        refine d_ex0 7 rfl rfl rfl rfl fun w hMs hM => ?_
        refine (w_storen (vs := _) Tryz.sizeOf54 (hM.obj (i := 1) rfl) hF rfl rfl rfl rfl (RState.len _) (RState.one _) (by first | (rw [RState.len, RState.len]; decide) | (rw [RState.len]; decide)) (put_all ((RState.len _).trans (RState.len _).symm)) fun w hU657 => ?_)
        have hM := hM.chg hU657 (i := 1) rfl
        replace hM : MemL _ (pt b_B5_5 (RState.enc (RState.mk y635.regs y635.stack s636 s638 s643 y635.at_ y635.steps y635.done)) 54 :: pt b_B5_6 (RState.enc (RState.mk y646.regs y646.stack s647 s649 s654 y646.at_ y646.steps y646.done)) 54 :: rowL 0 s647 5 y646.ctx :: rowL 0 s649 23 hs650 :: r652 :: rowL 0 s654 3 y646.sent :: rowL 0 s636 5 y635.ctx :: rowL 0 s638 23 hs639 :: r641 :: rowL 0 s643 3 y635.sent :: pt b_B5_3 (RState.enc (RState.mk x1.regs x1.stack s9 s11 s15 x1.at_ x1.steps x1.done)) 54 :: pt b_B5_2 (RState.enc (RState.mk x0.regs x0.stack s1 s3 s7 x0.at_ x0.steps x0.done)) 54 :: Lr) := hM
        have hMs := hM
        refine ⟨_, _, hMs, hM, .inr (by kernel_rfl), ?_⟩
        refine d_end hch (by kernel_rfl) fun w hM => ?_
        refine n_then ?_
        have hP := Option.some.inj hP
        subst hP
        exact ⟨(y635, y646), rfl, b_B5_5, s636, s638, hs639, r641, s643, b_B5_6, s647, s649, hs650, r652, s654, q642, q653, hF.to ⟨rfl, rfl, rfl, rfl, rfl, trivial⟩, selM hM [0, 6, 7, 8, 9, 1, 2, 3, 4, 5, 10, 11] 12 rfl⟩
      · refine d_ex hF 4 rfl rfl rfl rfl rfl fun w hMs hM => ?_
        refine (w_alloc z54 (zs := RState.zero.enc) rfl rfl fun b_B5_5 w hzB5_5 hAB5_5 => ?_)
        have hM := hM.plus hAB5_5
        replace hM : MemL _ (pt b_B5_5 (RState.enc (RState.mk (⟨List.replicate 11 LVal.zero, rfl⟩ : Vec LVal 11) (⟨List.replicate 32 LSlot.zero, rfl⟩ : Vec LSlot 32) SV.nil SV.nil SV.nil 0 0 false)) 54 :: rowL 0 s636 5 y635.ctx :: rowL 0 s638 23 hs639 :: r641 :: rowL 0 s643 3 y635.sent :: pt b_B5_3 (RState.enc (RState.mk x1.regs x1.stack s9 s11 s15 x1.at_ x1.steps x1.done)) 54 :: pt b_B5_2 (RState.enc (RState.mk x0.regs x0.stack s1 s3 s7 x0.at_ x0.steps x0.done)) 54 :: Lr) := hM
        have hMs := selM hM [0, 1, 2, 3, 4, 5, 6] 7 rfl
        refine ⟨_, _, hMs, hM, .inl fun _ h => dropM h 1, fun a hF => ?_⟩
        refine d_two hch 3 5 (by kernel_rfl) rfl rfl ?_ ?_
        · refine d_ex hF 3 rfl rfl rfl rfl rfl fun w hMs hM => ?_
          obtain ⟨y646, hy646, hP⟩ := bind_some hP
          refine (w_call (xs := [.tmp 17]) Tryz.call30 hF rfl rfl (law23_copyState_calls hy646 hM (Bf := Bf) (fun w hM => hsub _ (dropM hM 7)) f10 f13 q14 f16) fun v w hR => ?_)
          obtain ⟨s647, s649, hs650, r652, s654, rfl, q653, hM⟩ := hR
          replace hM : MemL _ (rowL 0 s647 5 y646.ctx :: rowL 0 s649 23 hs650 :: r652 :: rowL 0 s654 3 y646.sent :: pt b_B5_5 (RState.enc (RState.mk (⟨List.replicate 11 LVal.zero, rfl⟩ : Vec LVal 11) (⟨List.replicate 32 LSlot.zero, rfl⟩ : Vec LSlot 32) SV.nil SV.nil SV.nil 0 0 false)) 54 :: rowL 0 s636 5 y635.ctx :: rowL 0 s638 23 hs639 :: r641 :: rowL 0 s643 3 y635.sent :: pt b_B5_3 (RState.enc (RState.mk x1.regs x1.stack s9 s11 s15 x1.at_ x1.steps x1.done)) 54 :: pt b_B5_2 (RState.enc (RState.mk x0.regs x0.stack s1 s3 s7 x0.at_ x0.steps x0.done)) 54 :: Lr) := hM
          have hMs := selM hM [0, 1, 2, 3, 4, 5, 6, 7, 8, 9, 10] 11 rfl
          refine ⟨_, _, hMs, hM, .inl fun _ h => dropM h 4, fun a hF => ?_⟩
          refine d_one hch 5 (by kernel_rfl) rfl rfl ?_
          refine d_ex hF 5 rfl rfl rfl rfl rfl fun w hMs hM => ?_
          refine (w_alloc z54 (zs := RState.zero.enc) rfl rfl fun b_B5_6 w hzB5_6 hAB5_6 => ?_)
          have hM := hM.plus hAB5_6
          replace hM : MemL _ (pt b_B5_6 (RState.enc (RState.mk (⟨List.replicate 11 LVal.zero, rfl⟩ : Vec LVal 11) (⟨List.replicate 32 LSlot.zero, rfl⟩ : Vec LSlot 32) SV.nil SV.nil SV.nil 0 0 false)) 54 :: rowL 0 s647 5 y646.ctx :: rowL 0 s649 23 hs650 :: r652 :: rowL 0 s654 3 y646.sent :: pt b_B5_5 (RState.enc (RState.mk (⟨List.replicate 11 LVal.zero, rfl⟩ : Vec LVal 11) (⟨List.replicate 32 LSlot.zero, rfl⟩ : Vec LSlot 32) SV.nil SV.nil SV.nil 0 0 false)) 54 :: rowL 0 s636 5 y635.ctx :: rowL 0 s638 23 hs639 :: r641 :: rowL 0 s643 3 y635.sent :: pt b_B5_3 (RState.enc (RState.mk x1.regs x1.stack s9 s11 s15 x1.at_ x1.steps x1.done)) 54 :: pt b_B5_2 (RState.enc (RState.mk x0.regs x0.stack s1 s3 s7 x0.at_ x0.steps x0.done)) 54 :: Lr) := hM
          have hMs := selM hM [0, 1, 2, 3, 4, 5, 6, 7, 8, 9, 10, 11] 12 rfl
          refine ⟨_, _, hMs, hM, .inl fun _ h => dropM h 1, fun a hF => ?_⟩
          refine d_one hch 6 (by kernel_rfl) rfl rfl ?_
          refine d_ex0 6 rfl rfl rfl rfl fun w hMs hM => ?_
          refine (w_storen (vs := _) Tryz.sizeOf54 (hM.obj (i := 5) rfl) hF rfl rfl rfl rfl (RState.len _) (RState.one _) (by first | (rw [RState.len, RState.len]; decide) | (rw [RState.len]; decide)) (put_all ((RState.len _).trans (RState.len _).symm)) fun w hU656 => ?_)
          have hM := hM.chg hU656 (i := 5) rfl
          replace hM : MemL _ (pt b_B5_6 (RState.enc (RState.mk (⟨List.replicate 11 LVal.zero, rfl⟩ : Vec LVal 11) (⟨List.replicate 32 LSlot.zero, rfl⟩ : Vec LSlot 32) SV.nil SV.nil SV.nil 0 0 false)) 54 :: rowL 0 s647 5 y646.ctx :: rowL 0 s649 23 hs650 :: r652 :: rowL 0 s654 3 y646.sent :: pt b_B5_5 (RState.enc (RState.mk y635.regs y635.stack s636 s638 s643 y635.at_ y635.steps y635.done)) 54 :: rowL 0 s636 5 y635.ctx :: rowL 0 s638 23 hs639 :: r641 :: rowL 0 s643 3 y635.sent :: pt b_B5_3 (RState.enc (RState.mk x1.regs x1.stack s9 s11 s15 x1.at_ x1.steps x1.done)) 54 :: pt b_B5_2 (RState.enc (RState.mk x0.regs x0.stack s1 s3 s7 x0.at_ x0.steps x0.done)) 54 :: Lr) := hM
          have hMs := hM
          refine ⟨_, _, hMs, hM, .inr (by kernel_rfl), ?_⟩
          refine d_one hch 7 (by kernel_rfl) rfl rfl ?_
          refine d_ex0 7 rfl rfl rfl rfl fun w hMs hM => ?_
          refine (w_storen (vs := _) Tryz.sizeOf54 (hM.obj (i := 0) rfl) hF rfl rfl rfl rfl (RState.len _) (RState.one _) (by first | (rw [RState.len, RState.len]; decide) | (rw [RState.len]; decide)) (put_all ((RState.len _).trans (RState.len _).symm)) fun w hU657 => ?_)
          have hM := hM.chg hU657 (i := 0) rfl
          replace hM : MemL _ (pt b_B5_6 (RState.enc (RState.mk y646.regs y646.stack s647 s649 s654 y646.at_ y646.steps y646.done)) 54 :: rowL 0 s647 5 y646.ctx :: rowL 0 s649 23 hs650 :: r652 :: rowL 0 s654 3 y646.sent :: pt b_B5_5 (RState.enc (RState.mk y635.regs y635.stack s636 s638 s643 y635.at_ y635.steps y635.done)) 54 :: rowL 0 s636 5 y635.ctx :: rowL 0 s638 23 hs639 :: r641 :: rowL 0 s643 3 y635.sent :: pt b_B5_3 (RState.enc (RState.mk x1.regs x1.stack s9 s11 s15 x1.at_ x1.steps x1.done)) 54 :: pt b_B5_2 (RState.enc (RState.mk x0.regs x0.stack s1 s3 s7 x0.at_ x0.steps x0.done)) 54 :: Lr) := hM
          have hMs := hM
          refine ⟨_, _, hMs, hM, .inr (by kernel_rfl), ?_⟩
          refine d_end hch (by kernel_rfl) fun w hM => ?_
          refine n_then ?_
          have hP := Option.some.inj hP
          subst hP
          exact ⟨(y635, y646), rfl, b_B5_5, s636, s638, hs639, r641, s643, b_B5_6, s647, s649, hs650, r652, s654, q642, q653, hF.to ⟨rfl, rfl, rfl, rfl, rfl, trivial⟩, selM hM [5, 6, 7, 8, 9, 0, 1, 2, 3, 4, 10, 11] 12 rfl⟩
        refine d_ex hF 5 rfl rfl rfl rfl rfl fun w hMs hM => ?_
        refine (w_alloc z54 (zs := RState.zero.enc) rfl rfl fun b_B5_6 w hzB5_6 hAB5_6 => ?_)
        have hM := hM.plus hAB5_6
        replace hM : MemL _ (pt b_B5_6 (RState.enc (RState.mk (⟨List.replicate 11 LVal.zero, rfl⟩ : Vec LVal 11) (⟨List.replicate 32 LSlot.zero, rfl⟩ : Vec LSlot 32) SV.nil SV.nil SV.nil 0 0 false)) 54 :: pt b_B5_5 (RState.enc (RState.mk (⟨List.replicate 11 LVal.zero, rfl⟩ : Vec LVal 11) (⟨List.replicate 32 LSlot.zero, rfl⟩ : Vec LSlot 32) SV.nil SV.nil SV.nil 0 0 false)) 54 :: rowL 0 s636 5 y635.ctx :: rowL 0 s638 23 hs639 :: r641 :: rowL 0 s643 3 y635.sent :: pt b_B5_3 (RState.enc (RState.mk x1.regs x1.stack s9 s11 s15 x1.at_ x1.steps x1.done)) 54 :: pt b_B5_2 (RState.enc (RState.mk x0.regs x0.stack s1 s3 s7 x0.at_ x0.steps x0.done)) 54 :: Lr) := hM
        have hMs := selM hM [0, 1, 2, 3, 4, 5, 6, 7] 8 rfl
        refine ⟨_, _, hMs, hM, .inl fun _ h => dropM h 1, fun a hF => ?_⟩
        refine d_one hch 3 (by kernel_rfl) rfl rfl ?_
        refine d_ex hF 3 rfl rfl rfl rfl rfl fun w hMs hM => ?_
        obtain ⟨y646, hy646, hP⟩ := bind_some hP
        refine (w_call (xs := [.tmp 17]) Tryz.call30 hF rfl rfl (law23_copyState_calls hy646 hM (Bf := Bf) (fun w hM => hsub _ (dropM hM 8)) f10 f13 q14 f16) fun v w hR => ?_)
        obtain ⟨s647, s649, hs650, r652, s654, rfl, q653, hM⟩ := hR
        replace hM : MemL _ (rowL 0 s647 5 y646.ctx :: rowL 0 s649 23 hs650 :: r652 :: rowL 0 s654 3 y646.sent :: pt b_B5_6 (RState.enc (RState.mk (⟨List.replicate 11 LVal.zero, rfl⟩ : Vec LVal 11) (⟨List.replicate 32 LSlot.zero, rfl⟩ : Vec LSlot 32) SV.nil SV.nil SV.nil 0 0 false)) 54 :: pt b_B5_5 (RState.enc (RState.mk (⟨List.replicate 11 LVal.zero, rfl⟩ : Vec LVal 11) (⟨List.replicate 32 LSlot.zero, rfl⟩ : Vec LSlot 32) SV.nil SV.nil SV.nil 0 0 false)) 54 :: rowL 0 s636 5 y635.ctx :: rowL 0 s638 23 hs639 :: r641 :: rowL 0 s643 3 y635.sent :: pt b_B5_3 (RState.enc (RState.mk x1.regs x1.stack s9 s11 s15 x1.at_ x1.steps x1.done)) 54 :: pt b_B5_2 (RState.enc (RState.mk x0.regs x0.stack s1 s3 s7 x0.at_ x0.steps x0.done)) 54 :: Lr) := hM
        have hMs := selM hM [0, 1, 2, 3, 4, 5, 6, 7, 8, 9, 10, 11] 12 rfl
        refine ⟨_, _, hMs, hM, .inl fun _ h => dropM h 4, fun a hF => ?_⟩
        refine d_one hch 6 (by kernel_rfl) rfl rfl ?_
        refine d_ex0 6 rfl rfl rfl rfl fun w hMs hM => ?_
        refine (w_storen (vs := _) Tryz.sizeOf54 (hM.obj (i := 5) rfl) hF rfl rfl rfl rfl (RState.len _) (RState.one _) (by first | (rw [RState.len, RState.len]; decide) | (rw [RState.len]; decide)) (put_all ((RState.len _).trans (RState.len _).symm)) fun w hU656 => ?_)
        have hM := hM.chg hU656 (i := 5) rfl
        replace hM : MemL _ (rowL 0 s647 5 y646.ctx :: rowL 0 s649 23 hs650 :: r652 :: rowL 0 s654 3 y646.sent :: pt b_B5_6 (RState.enc (RState.mk (⟨List.replicate 11 LVal.zero, rfl⟩ : Vec LVal 11) (⟨List.replicate 32 LSlot.zero, rfl⟩ : Vec LSlot 32) SV.nil SV.nil SV.nil 0 0 false)) 54 :: pt b_B5_5 (RState.enc (RState.mk y635.regs y635.stack s636 s638 s643 y635.at_ y635.steps y635.done)) 54 :: rowL 0 s636 5 y635.ctx :: rowL 0 s638 23 hs639 :: r641 :: rowL 0 s643 3 y635.sent :: pt b_B5_3 (RState.enc (RState.mk x1.regs x1.stack s9 s11 s15 x1.at_ x1.steps x1.done)) 54 :: pt b_B5_2 (RState.enc (RState.mk x0.regs x0.stack s1 s3 s7 x0.at_ x0.steps x0.done)) 54 :: Lr) := hM
        have hMs := hM
        refine ⟨_, _, hMs, hM, .inr (by kernel_rfl), ?_⟩
        refine d_one hch 7 (by kernel_rfl) rfl rfl ?_
        refine d_ex0 7 rfl rfl rfl rfl fun w hMs hM => ?_
        refine (w_storen (vs := _) Tryz.sizeOf54 (hM.obj (i := 4) rfl) hF rfl rfl rfl rfl (RState.len _) (RState.one _) (by first | (rw [RState.len, RState.len]; decide) | (rw [RState.len]; decide)) (put_all ((RState.len _).trans (RState.len _).symm)) fun w hU657 => ?_)
        have hM := hM.chg hU657 (i := 4) rfl
        replace hM : MemL _ (rowL 0 s647 5 y646.ctx :: rowL 0 s649 23 hs650 :: r652 :: rowL 0 s654 3 y646.sent :: pt b_B5_6 (RState.enc (RState.mk y646.regs y646.stack s647 s649 s654 y646.at_ y646.steps y646.done)) 54 :: pt b_B5_5 (RState.enc (RState.mk y635.regs y635.stack s636 s638 s643 y635.at_ y635.steps y635.done)) 54 :: rowL 0 s636 5 y635.ctx :: rowL 0 s638 23 hs639 :: r641 :: rowL 0 s643 3 y635.sent :: pt b_B5_3 (RState.enc (RState.mk x1.regs x1.stack s9 s11 s15 x1.at_ x1.steps x1.done)) 54 :: pt b_B5_2 (RState.enc (RState.mk x0.regs x0.stack s1 s3 s7 x0.at_ x0.steps x0.done)) 54 :: Lr) := hM
        have hMs := hM
        refine ⟨_, _, hMs, hM, .inr (by kernel_rfl), ?_⟩
        refine d_end hch (by kernel_rfl) fun w hM => ?_
        refine n_then ?_
        have hP := Option.some.inj hP
        subst hP
        exact ⟨(y635, y646), rfl, b_B5_5, s636, s638, hs639, r641, s643, b_B5_6, s647, s649, hs650, r652, s654, q642, q653, hF.to ⟨rfl, rfl, rfl, rfl, rfl, trivial⟩, selM hM [5, 6, 7, 8, 9, 4, 0, 1, 2, 3, 10, 11] 12 rfl⟩
      refine d_ex hF 5 rfl rfl rfl rfl rfl fun w hMs hM => ?_
      refine (w_alloc z54 (zs := RState.zero.enc) rfl rfl fun b_B5_6 w hzB5_6 hAB5_6 => ?_)
      have hM := hM.plus hAB5_6
      replace hM : MemL _ (pt b_B5_6 (RState.enc (RState.mk (⟨List.replicate 11 LVal.zero, rfl⟩ : Vec LVal 11) (⟨List.replicate 32 LSlot.zero, rfl⟩ : Vec LSlot 32) SV.nil SV.nil SV.nil 0 0 false)) 54 :: rowL 0 s636 5 y635.ctx :: rowL 0 s638 23 hs639 :: r641 :: rowL 0 s643 3 y635.sent :: pt b_B5_3 (RState.enc (RState.mk x1.regs x1.stack s9 s11 s15 x1.at_ x1.steps x1.done)) 54 :: pt b_B5_2 (RState.enc (RState.mk x0.regs x0.stack s1 s3 s7 x0.at_ x0.steps x0.done)) 54 :: Lr) := hM
      have hMs := selM hM [0, 1, 2, 3, 4, 5, 6] 7 rfl
      refine ⟨_, _, hMs, hM, .inl fun _ h => dropM h 1, fun a hF => ?_⟩
      refine d_two hch 3 4 (by kernel_rfl) rfl rfl ?_ ?_
      · refine d_ex hF 3 rfl rfl rfl rfl rfl fun w hMs hM => ?_
        obtain ⟨y646, hy646, hP⟩ := bind_some hP
        refine (w_call (xs := [.tmp 17]) Tryz.call30 hF rfl rfl (law23_copyState_calls hy646 hM (Bf := Bf) (fun w hM => hsub _ (dropM hM 7)) f10 f13 q14 f16) fun v w hR => ?_)
        obtain ⟨s647, s649, hs650, r652, s654, rfl, q653, hM⟩ := hR
        replace hM : MemL _ (rowL 0 s647 5 y646.ctx :: rowL 0 s649 23 hs650 :: r652 :: rowL 0 s654 3 y646.sent :: pt b_B5_6 (RState.enc (RState.mk (⟨List.replicate 11 LVal.zero, rfl⟩ : Vec LVal 11) (⟨List.replicate 32 LSlot.zero, rfl⟩ : Vec LSlot 32) SV.nil SV.nil SV.nil 0 0 false)) 54 :: rowL 0 s636 5 y635.ctx :: rowL 0 s638 23 hs639 :: r641 :: rowL 0 s643 3 y635.sent :: pt b_B5_3 (RState.enc (RState.mk x1.regs x1.stack s9 s11 s15 x1.at_ x1.steps x1.done)) 54 :: pt b_B5_2 (RState.enc (RState.mk x0.regs x0.stack s1 s3 s7 x0.at_ x0.steps x0.done)) 54 :: Lr) := hM
        have hMs := selM hM [0, 1, 2, 3, 4, 5, 6, 7, 8, 9, 10] 11 rfl
        refine ⟨_, _, hMs, hM, .inl fun _ h => dropM h 4, fun a hF => ?_⟩
        refine d_one hch 4 (by kernel_rfl) rfl rfl ?_
        refine d_ex hF 4 rfl rfl rfl rfl rfl fun w hMs hM => ?_
        refine (w_alloc z54 (zs := RState.zero.enc) rfl rfl fun b_B5_5 w hzB5_5 hAB5_5 => ?_)
        have hM := hM.plus hAB5_5
        replace hM : MemL _ (pt b_B5_5 (RState.enc (RState.mk (⟨List.replicate 11 LVal.zero, rfl⟩ : Vec LVal 11) (⟨List.replicate 32 LSlot.zero, rfl⟩ : Vec LSlot 32) SV.nil SV.nil SV.nil 0 0 false)) 54 :: rowL 0 s647 5 y646.ctx :: rowL 0 s649 23 hs650 :: r652 :: rowL 0 s654 3 y646.sent :: pt b_B5_6 (RState.enc (RState.mk (⟨List.replicate 11 LVal.zero, rfl⟩ : Vec LVal 11) (⟨List.replicate 32 LSlot.zero, rfl⟩ : Vec LSlot 32) SV.nil SV.nil SV.nil 0 0 false)) 54 :: rowL 0 s636 5 y635.ctx :: rowL 0 s638 23 hs639 :: r641 :: rowL 0 s643 3 y635.sent :: pt b_B5_3 (RState.enc (RState.mk x1.regs x1.stack s9 s11 s15 x1.at_ x1.steps x1.done)) 54 :: pt b_B5_2 (RState.enc (RState.mk x0.regs x0.stack s1 s3 s7 x0.at_ x0.steps x0.done)) 54 :: Lr) := hM
        have hMs := selM hM [0, 1, 2, 3, 4, 5, 6, 7, 8, 9, 10, 11] 12 rfl
        refine ⟨_, _, hMs, hM, .inl fun _ h => dropM h 1, fun a hF => ?_⟩
        refine d_one hch 6 (by kernel_rfl) rfl rfl ?_
        refine d_ex0 6 rfl rfl rfl rfl fun w hMs hM => ?_
        refine (w_storen (vs := _) Tryz.sizeOf54 (hM.obj (i := 0) rfl) hF rfl rfl rfl rfl (RState.len _) (RState.one _) (by first | (rw [RState.len, RState.len]; decide) | (rw [RState.len]; decide)) (put_all ((RState.len _).trans (RState.len _).symm)) fun w hU656 => ?_)
        have hM := hM.chg hU656 (i := 0) rfl
        replace hM : MemL _ (pt b_B5_5 (RState.enc (RState.mk y635.regs y635.stack s636 s638 s643 y635.at_ y635.steps y635.done)) 54 :: rowL 0 s647 5 y646.ctx :: rowL 0 s649 23 hs650 :: r652 :: rowL 0 s654 3 y646.sent :: pt b_B5_6 (RState.enc (RState.mk (⟨List.replicate 11 LVal.zero, rfl⟩ : Vec LVal 11) (⟨List.replicate 32 LSlot.zero, rfl⟩ : Vec LSlot 32) SV.nil SV.nil SV.nil 0 0 false)) 54 :: rowL 0 s636 5 y635.ctx :: rowL 0 s638 23 hs639 :: r641 :: rowL 0 s643 3 y635.sent :: pt b_B5_3 (RState.enc (RState.mk x1.regs x1.stack s9 s11 s15 x1.at_ x1.steps x1.done)) 54 :: pt b_B5_2 (RState.enc (RState.mk x0.regs x0.stack s1 s3 s7 x0.at_ x0.steps x0.done)) 54 :: Lr) := hM
        have hMs := hM
        refine ⟨_, _, hMs, hM, .inr (by kernel_rfl), ?_⟩
        refine d_one hch 7 (by kernel_rfl) rfl rfl ?_
        refine d_ex0 7 rfl rfl rfl rfl fun w hMs hM => ?_
        refine (w_storen (vs := _) Tryz.sizeOf54 (hM.obj (i := 5) rfl) hF rfl rfl rfl rfl (RState.len _) (RState.one _) (by first | (rw [RState.len, RState.len]; decide) | (rw [RState.len]; decide)) (put_all ((RState.len _).trans (RState.len _).symm)) fun w hU657 => ?_)
        have hM := hM.chg hU657 (i := 5) rfl
        replace hM : MemL _ (pt b_B5_5 (RState.enc (RState.mk y635.regs y635.stack s636 s638 s643 y635.at_ y635.steps y635.done)) 54 :: rowL 0 s647 5 y646.ctx :: rowL 0 s649 23 hs650 :: r652 :: rowL 0 s654 3 y646.sent :: pt b_B5_6 (RState.enc (RState.mk y646.regs y646.stack s647 s649 s654 y646.at_ y646.steps y646.done)) 54 :: rowL 0 s636 5 y635.ctx :: rowL 0 s638 23 hs639 :: r641 :: rowL 0 s643 3 y635.sent :: pt b_B5_3 (RState.enc (RState.mk x1.regs x1.stack s9 s11 s15 x1.at_ x1.steps x1.done)) 54 :: pt b_B5_2 (RState.enc (RState.mk x0.regs x0.stack s1 s3 s7 x0.at_ x0.steps x0.done)) 54 :: Lr) := hM
        have hMs := hM
        refine ⟨_, _, hMs, hM, .inr (by kernel_rfl), ?_⟩
        refine d_end hch (by kernel_rfl) fun w hM => ?_
        refine n_then ?_
        have hP := Option.some.inj hP
        subst hP
        exact ⟨(y635, y646), rfl, b_B5_5, s636, s638, hs639, r641, s643, b_B5_6, s647, s649, hs650, r652, s654, q642, q653, hF.to ⟨rfl, rfl, rfl, rfl, rfl, trivial⟩, selM hM [0, 6, 7, 8, 9, 5, 1, 2, 3, 4, 10, 11] 12 rfl⟩
      refine d_ex hF 4 rfl rfl rfl rfl rfl fun w hMs hM => ?_
      refine (w_alloc z54 (zs := RState.zero.enc) rfl rfl fun b_B5_5 w hzB5_5 hAB5_5 => ?_)
      have hM := hM.plus hAB5_5
      replace hM : MemL _ (pt b_B5_5 (RState.enc (RState.mk (⟨List.replicate 11 LVal.zero, rfl⟩ : Vec LVal 11) (⟨List.replicate 32 LSlot.zero, rfl⟩ : Vec LSlot 32) SV.nil SV.nil SV.nil 0 0 false)) 54 :: pt b_B5_6 (RState.enc (RState.mk (⟨List.replicate 11 LVal.zero, rfl⟩ : Vec LVal 11) (⟨List.replicate 32 LSlot.zero, rfl⟩ : Vec LSlot 32) SV.nil SV.nil SV.nil 0 0 false)) 54 :: rowL 0 s636 5 y635.ctx :: rowL 0 s638 23 hs639 :: r641 :: rowL 0 s643 3 y635.sent :: pt b_B5_3 (RState.enc (RState.mk x1.regs x1.stack s9 s11 s15 x1.at_ x1.steps x1.done)) 54 :: pt b_B5_2 (RState.enc (RState.mk x0.regs x0.stack s1 s3 s7 x0.at_ x0.steps x0.done)) 54 :: Lr) := hM
      have hMs := selM hM [0, 1, 2, 3, 4, 5, 6, 7] 8 rfl
      refine ⟨_, _, hMs, hM, .inl fun _ h => dropM h 1, fun a hF => ?_⟩
      refine d_one hch 3 (by kernel_rfl) rfl rfl ?_
      refine d_ex hF 3 rfl rfl rfl rfl rfl fun w hMs hM => ?_
      obtain ⟨y646, hy646, hP⟩ := bind_some hP
      refine (w_call (xs := [.tmp 17]) Tryz.call30 hF rfl rfl (law23_copyState_calls hy646 hM (Bf := Bf) (fun w hM => hsub _ (dropM hM 8)) f10 f13 q14 f16) fun v w hR => ?_)
      obtain ⟨s647, s649, hs650, r652, s654, rfl, q653, hM⟩ := hR
      replace hM : MemL _ (rowL 0 s647 5 y646.ctx :: rowL 0 s649 23 hs650 :: r652 :: rowL 0 s654 3 y646.sent :: pt b_B5_5 (RState.enc (RState.mk (⟨List.replicate 11 LVal.zero, rfl⟩ : Vec LVal 11) (⟨List.replicate 32 LSlot.zero, rfl⟩ : Vec LSlot 32) SV.nil SV.nil SV.nil 0 0 false)) 54 :: pt b_B5_6 (RState.enc (RState.mk (⟨List.replicate 11 LVal.zero, rfl⟩ : Vec LVal 11) (⟨List.replicate 32 LSlot.zero, rfl⟩ : Vec LSlot 32) SV.nil SV.nil SV.nil 0 0 false)) 54 :: rowL 0 s636 5 y635.ctx :: rowL 0 s638 23 hs639 :: r641 :: rowL 0 s643 3 y635.sent :: pt b_B5_3 (RState.enc (RState.mk x1.regs x1.stack s9 s11 s15 x1.at_ x1.steps x1.done)) 54 :: pt b_B5_2 (RState.enc (RState.mk x0.regs x0.stack s1 s3 s7 x0.at_ x0.steps x0.done)) 54 :: Lr) := hM
      have hMs := selM hM [0, 1, 2, 3, 4, 5, 6, 7, 8, 9, 10, 11] 12 rfl
      refine ⟨_, _, hMs, hM, .inl fun _ h => dropM h 4, fun a hF => ?_⟩
      refine d_one hch 6 (by kernel_rfl) rfl rfl ?_
      refine d_ex0 6 rfl rfl rfl rfl fun w hMs hM => ?_
      refine (w_storen (vs := _) Tryz.sizeOf54 (hM.obj (i := 4) rfl) hF rfl rfl rfl rfl (RState.len _) (RState.one _) (by first | (rw [RState.len, RState.len]; decide) | (rw [RState.len]; decide)) (put_all ((RState.len _).trans (RState.len _).symm)) fun w hU656 => ?_)
      have hM := hM.chg hU656 (i := 4) rfl
      replace hM : MemL _ (rowL 0 s647 5 y646.ctx :: rowL 0 s649 23 hs650 :: r652 :: rowL 0 s654 3 y646.sent :: pt b_B5_5 (RState.enc (RState.mk y635.regs y635.stack s636 s638 s643 y635.at_ y635.steps y635.done)) 54 :: pt b_B5_6 (RState.enc (RState.mk (⟨List.replicate 11 LVal.zero, rfl⟩ : Vec LVal 11) (⟨List.replicate 32 LSlot.zero, rfl⟩ : Vec LSlot 32) SV.nil SV.nil SV.nil 0 0 false)) 54 :: rowL 0 s636 5 y635.ctx :: rowL 0 s638 23 hs639 :: r641 :: rowL 0 s643 3 y635.sent :: pt b_B5_3 (RState.enc (RState.mk x1.regs x1.stack s9 s11 s15 x1.at_ x1.steps x1.done)) 54 :: pt b_B5_2 (RState.enc (RState.mk x0.regs x0.stack s1 s3 s7 x0.at_ x0.steps x0.done)) 54 :: Lr) := hM
      have hMs := hM
      refine ⟨_, _, hMs, hM, .inr (by kernel_rfl), ?_⟩
      refine d_one hch 7 (by kernel_rfl) rfl rfl ?_
      refine d_ex0 7 rfl rfl rfl rfl fun w hMs hM => ?_
      refine (w_storen (vs := _) Tryz.sizeOf54 (hM.obj (i := 5) rfl) hF rfl rfl rfl rfl (RState.len _) (RState.one _) (by first | (rw [RState.len, RState.len]; decide) | (rw [RState.len]; decide)) (put_all ((RState.len _).trans (RState.len _).symm)) fun w hU657 => ?_)
      have hM := hM.chg hU657 (i := 5) rfl
      replace hM : MemL _ (rowL 0 s647 5 y646.ctx :: rowL 0 s649 23 hs650 :: r652 :: rowL 0 s654 3 y646.sent :: pt b_B5_5 (RState.enc (RState.mk y635.regs y635.stack s636 s638 s643 y635.at_ y635.steps y635.done)) 54 :: pt b_B5_6 (RState.enc (RState.mk y646.regs y646.stack s647 s649 s654 y646.at_ y646.steps y646.done)) 54 :: rowL 0 s636 5 y635.ctx :: rowL 0 s638 23 hs639 :: r641 :: rowL 0 s643 3 y635.sent :: pt b_B5_3 (RState.enc (RState.mk x1.regs x1.stack s9 s11 s15 x1.at_ x1.steps x1.done)) 54 :: pt b_B5_2 (RState.enc (RState.mk x0.regs x0.stack s1 s3 s7 x0.at_ x0.steps x0.done)) 54 :: Lr) := hM
      have hMs := hM
      refine ⟨_, _, hMs, hM, .inr (by kernel_rfl), ?_⟩
      refine d_end hch (by kernel_rfl) fun w hM => ?_
      refine n_then ?_
      have hP := Option.some.inj hP
      subst hP
      exact ⟨(y635, y646), rfl, b_B5_5, s636, s638, hs639, r641, s643, b_B5_6, s647, s649, hs650, r652, s654, q642, q653, hF.to ⟨rfl, rfl, rfl, rfl, rfl, trivial⟩, selM hM [4, 6, 7, 8, 9, 5, 0, 1, 2, 3, 10, 11] 12 rfl⟩
    · refine d_ex hF 4 rfl rfl rfl rfl rfl fun w hMs hM => ?_
      refine (w_alloc z54 (zs := RState.zero.enc) rfl rfl fun b_B5_5 w hzB5_5 hAB5_5 => ?_)
      have hM := hM.plus hAB5_5
      replace hM : MemL _ (pt b_B5_5 (RState.enc (RState.mk (⟨List.replicate 11 LVal.zero, rfl⟩ : Vec LVal 11) (⟨List.replicate 32 LSlot.zero, rfl⟩ : Vec LSlot 32) SV.nil SV.nil SV.nil 0 0 false)) 54 :: pt b_B5_3 (RState.enc (RState.mk x1.regs x1.stack s9 s11 s15 x1.at_ x1.steps x1.done)) 54 :: pt b_B5_2 (RState.enc (RState.mk x0.regs x0.stack s1 s3 s7 x0.at_ x0.steps x0.done)) 54 :: Lr) := hM
      have hMs := selM hM [0, 1, 2] 3 rfl
      refine ⟨_, _, hMs, hM, .inl fun _ h => dropM h 1, fun a hF => ?_⟩
      refine d_two hch 1 5 (by kernel_rfl) rfl rfl ?_ ?_
      · refine d_ex hF 1 rfl rfl rfl rfl rfl fun w hMs hM => ?_
        obtain ⟨y635, hy635, hP⟩ := bind_some hP
        refine (w_call (xs := [.tmp 15]) Tryz.call30 hF rfl rfl (law23_copyState_calls hy635 hM (Bf := Bf) (fun w hM => hsub _ (dropM hM 3)) f2 f5 q6 f8) fun v w hR => ?_)
        obtain ⟨s636, s638, hs639, r641, s643, rfl, q642, hM⟩ := hR
        replace hM : MemL _ (rowL 0 s636 5 y635.ctx :: rowL 0 s638 23 hs639 :: r641 :: rowL 0 s643 3 y635.sent :: pt b_B5_5 (RState.enc (RState.mk (⟨List.replicate 11 LVal.zero, rfl⟩ : Vec LVal 11) (⟨List.replicate 32 LSlot.zero, rfl⟩ : Vec LSlot 32) SV.nil SV.nil SV.nil 0 0 false)) 54 :: pt b_B5_3 (RState.enc (RState.mk x1.regs x1.stack s9 s11 s15 x1.at_ x1.steps x1.done)) 54 :: pt b_B5_2 (RState.enc (RState.mk x0.regs x0.stack s1 s3 s7 x0.at_ x0.steps x0.done)) 54 :: Lr) := hM
        have hMs := selM hM [0, 1, 2, 3, 4, 5, 6] 7 rfl
        refine ⟨_, _, hMs, hM, .inl fun _ h => dropM h 4, fun a hF => ?_⟩
        refine d_two hch 3 5 (by kernel_rfl) rfl rfl ?_ ?_
        · refine d_ex hF 3 rfl rfl rfl rfl rfl fun w hMs hM => ?_
          obtain ⟨y646, hy646, hP⟩ := bind_some hP
          refine (w_call (xs := [.tmp 17]) Tryz.call30 hF rfl rfl (law23_copyState_calls hy646 hM (Bf := Bf) (fun w hM => hsub _ (dropM hM 7)) f10 f13 q14 f16) fun v w hR => ?_)
          obtain ⟨s647, s649, hs650, r652, s654, rfl, q653, hM⟩ := hR
          replace hM : MemL _ (rowL 0 s647 5 y646.ctx :: rowL 0 s649 23 hs650 :: r652 :: rowL 0 s654 3 y646.sent :: rowL 0 s636 5 y635.ctx :: rowL 0 s638 23 hs639 :: r641 :: rowL 0 s643 3 y635.sent :: pt b_B5_5 (RState.enc (RState.mk (⟨List.replicate 11 LVal.zero, rfl⟩ : Vec LVal 11) (⟨List.replicate 32 LSlot.zero, rfl⟩ : Vec LSlot 32) SV.nil SV.nil SV.nil 0 0 false)) 54 :: pt b_B5_3 (RState.enc (RState.mk x1.regs x1.stack s9 s11 s15 x1.at_ x1.steps x1.done)) 54 :: pt b_B5_2 (RState.enc (RState.mk x0.regs x0.stack s1 s3 s7 x0.at_ x0.steps x0.done)) 54 :: Lr) := hM
          have hMs := selM hM [0, 1, 2, 3, 4, 5, 6, 7, 8, 9, 10] 11 rfl
          refine ⟨_, _, hMs, hM, .inl fun _ h => dropM h 4, fun a hF => ?_⟩
          refine d_one hch 5 (by kernel_rfl) rfl rfl ?_
          refine d_ex hF 5 rfl rfl rfl rfl rfl fun w hMs hM => ?_
          refine (w_alloc z54 (zs := RState.zero.enc) rfl rfl fun b_B5_6 w hzB5_6 hAB5_6 => ?_)
          have hM := hM.plus hAB5_6
          replace hM : MemL _ (pt b_B5_6 (RState.enc (RState.mk (⟨List.replicate 11 LVal.zero, rfl⟩ : Vec LVal 11) (⟨List.replicate 32 LSlot.zero, rfl⟩ : Vec LSlot 32) SV.nil SV.nil SV.nil 0 0 false)) 54 :: rowL 0 s647 5 y646.ctx :: rowL 0 s649 23 hs650 :: r652 :: rowL 0 s654 3 y646.sent :: rowL 0 s636 5 y635.ctx :: rowL 0 s638 23 hs639 :: r641 :: rowL 0 s643 3 y635.sent :: pt b_B5_5 (RState.enc (RState.mk (⟨List.replicate 11 LVal.zero, rfl⟩ : Vec LVal 11) (⟨List.replicate 32 LSlot.zero, rfl⟩ : Vec LSlot 32) SV.nil SV.nil SV.nil 0 0 false)) 54 :: pt b_B5_3 (RState.enc (RState.mk x1.regs x1.stack s9 s11 s15 x1.at_ x1.steps x1.done)) 54 :: pt b_B5_2 (RState.enc (RState.mk x0.regs x0.stack s1 s3 s7 x0.at_ x0.steps x0.done)) 54 :: Lr) := hM
          have hMs := selM hM [0, 1, 2, 3, 4, 5, 6, 7, 8, 9, 10, 11] 12 rfl
          refine ⟨_, _, hMs, hM, .inl fun _ h => dropM h 1, fun a hF => ?_⟩
          refine d_one hch 6 (by kernel_rfl) rfl rfl ?_
          refine d_ex0 6 rfl rfl rfl rfl fun w hMs hM => ?_
          refine (w_storen (vs := _) Tryz.sizeOf54 (hM.obj (i := 9) rfl) hF rfl rfl rfl rfl (RState.len _) (RState.one _) (by first | (rw [RState.len, RState.len]; decide) | (rw [RState.len]; decide)) (put_all ((RState.len _).trans (RState.len _).symm)) fun w hU656 => ?_)
          have hM := hM.chg hU656 (i := 9) rfl
          replace hM : MemL _ (pt b_B5_6 (RState.enc (RState.mk (⟨List.replicate 11 LVal.zero, rfl⟩ : Vec LVal 11) (⟨List.replicate 32 LSlot.zero, rfl⟩ : Vec LSlot 32) SV.nil SV.nil SV.nil 0 0 false)) 54 :: rowL 0 s647 5 y646.ctx :: rowL 0 s649 23 hs650 :: r652 :: rowL 0 s654 3 y646.sent :: rowL 0 s636 5 y635.ctx :: rowL 0 s638 23 hs639 :: r641 :: rowL 0 s643 3 y635.sent :: pt b_B5_5 (RState.enc (RState.mk y635.regs y635.stack s636 s638 s643 y635.at_ y635.steps y635.done)) 54 :: pt b_B5_3 (RState.enc (RState.mk x1.regs x1.stack s9 s11 s15 x1.at_ x1.steps x1.done)) 54 :: pt b_B5_2 (RState.enc (RState.mk x0.regs x0.stack s1 s3 s7 x0.at_ x0.steps x0.done)) 54 :: Lr) := hM
          have hMs := hM
          refine ⟨_, _, hMs, hM, .inr (by kernel_rfl), ?_⟩
          refine d_one hch 7 (by kernel_rfl) rfl rfl ?_
          refine d_ex0 7 rfl rfl rfl rfl fun w hMs hM => ?_
          refine (w_storen (vs := _) Tryz.sizeOf54 (hM.obj (i := 0) rfl) hF rfl rfl rfl rfl (RState.len _) (RState.one _) (by first | (rw [RState.len, RState.len]; decide) | (rw [RState.len]; decide)) (put_all ((RState.len _).trans (RState.len _).symm)) fun w hU657 => ?_)
          have hM := hM.chg hU657 (i := 0) rfl
          replace hM : MemL _ (pt b_B5_6 (RState.enc (RState.mk y646.regs y646.stack s647 s649 s654 y646.at_ y646.steps y646.done)) 54 :: rowL 0 s647 5 y646.ctx :: rowL 0 s649 23 hs650 :: r652 :: rowL 0 s654 3 y646.sent :: rowL 0 s636 5 y635.ctx :: rowL 0 s638 23 hs639 :: r641 :: rowL 0 s643 3 y635.sent :: pt b_B5_5 (RState.enc (RState.mk y635.regs y635.stack s636 s638 s643 y635.at_ y635.steps y635.done)) 54 :: pt b_B5_3 (RState.enc (RState.mk x1.regs x1.stack s9 s11 s15 x1.at_ x1.steps x1.done)) 54 :: pt b_B5_2 (RState.enc (RState.mk x0.regs x0.stack s1 s3 s7 x0.at_ x0.steps x0.done)) 54 :: Lr) := hM
          have hMs := hM
          refine ⟨_, _, hMs, hM, .inr (by kernel_rfl), ?_⟩
          refine d_end hch (by kernel_rfl) fun w hM => ?_
          refine n_then ?_
          have hP := Option.some.inj hP
          subst hP
          exact ⟨(y635, y646), rfl, b_B5_5, s636, s638, hs639, r641, s643, b_B5_6, s647, s649, hs650, r652, s654, q642, q653, hF.to ⟨rfl, rfl, rfl, rfl, rfl, trivial⟩, selM hM [9, 5, 6, 7, 8, 0, 1, 2, 3, 4, 10, 11] 12 rfl⟩
        refine d_ex hF 5 rfl rfl rfl rfl rfl fun w hMs hM => ?_
        refine (w_alloc z54 (zs := RState.zero.enc) rfl rfl fun b_B5_6 w hzB5_6 hAB5_6 => ?_)
        have hM := hM.plus hAB5_6
        replace hM : MemL _ (pt b_B5_6 (RState.enc (RState.mk (⟨List.replicate 11 LVal.zero, rfl⟩ : Vec LVal 11) (⟨List.replicate 32 LSlot.zero, rfl⟩ : Vec LSlot 32) SV.nil SV.nil SV.nil 0 0 false)) 54 :: rowL 0 s636 5 y635.ctx :: rowL 0 s638 23 hs639 :: r641 :: rowL 0 s643 3 y635.sent :: pt b_B5_5 (RState.enc (RState.mk (⟨List.replicate 11 LVal.zero, rfl⟩ : Vec LVal 11) (⟨List.replicate 32 LSlot.zero, rfl⟩ : Vec LSlot 32) SV.nil SV.nil SV.nil 0 0 false)) 54 :: pt b_B5_3 (RState.enc (RState.mk x1.regs x1.stack s9 s11 s15 x1.at_ x1.steps x1.done)) 54 :: pt b_B5_2 (RState.enc (RState.mk x0.regs x0.stack s1 s3 s7 x0.at_ x0.steps x0.done)) 54 :: Lr) := hM
        have hMs := selM hM [0, 1, 2, 3, 4, 5, 6, 7] 8 rfl
        refine ⟨_, _, hMs, hM, .inl fun _ h => dropM h 1, fun a hF => ?_⟩
        refine d_one hch 3 (by kernel_rfl) rfl rfl ?_
        refine d_ex hF 3 rfl rfl rfl rfl rfl fun w hMs hM => ?_
        obtain ⟨y646, hy646, hP⟩ := bind_some hP
        refine (w_call (xs := [.tmp 17]) Tryz.call30 hF rfl rfl (law23_copyState_calls hy646 hM (Bf := Bf) (fun w hM => hsub _ (dropM hM 8)) f10 f13 q14 f16) fun v w hR => ?_)
        obtain ⟨s647, s649, hs650, r652, s654, rfl, q653, hM⟩ := hR
        replace hM : MemL _ (rowL 0 s647 5 y646.ctx :: rowL 0 s649 23 hs650 :: r652 :: rowL 0 s654 3 y646.sent :: pt b_B5_6 (RState.enc (RState.mk (⟨List.replicate 11 LVal.zero, rfl⟩ : Vec LVal 11) (⟨List.replicate 32 LSlot.zero, rfl⟩ : Vec LSlot 32) SV.nil SV.nil SV.nil 0 0 false)) 54 :: rowL 0 s636 5 y635.ctx :: rowL 0 s638 23 hs639 :: r641 :: rowL 0 s643 3 y635.sent :: pt b_B5_5 (RState.enc (RState.mk (⟨List.replicate 11 LVal.zero, rfl⟩ : Vec LVal 11) (⟨List.replicate 32 LSlot.zero, rfl⟩ : Vec LSlot 32) SV.nil SV.nil SV.nil 0 0 false)) 54 :: pt b_B5_3 (RState.enc (RState.mk x1.regs x1.stack s9 s11 s15 x1.at_ x1.steps x1.done)) 54 :: pt b_B5_2 (RState.enc (RState.mk x0.regs x0.stack s1 s3 s7 x0.at_ x0.steps x0.done)) 54 :: Lr) := hM
        have hMs := selM hM [0, 1, 2, 3, 4, 5, 6, 7, 8, 9, 10, 11] 12 rfl
        refine ⟨_, _, hMs, hM, .inl fun _ h => dropM h 4, fun a hF => ?_⟩
        refine d_one hch 6 (by kernel_rfl) rfl rfl ?_
        refine d_ex0 6 rfl rfl rfl rfl fun w hMs hM => ?_
        refine (w_storen (vs := _) Tryz.sizeOf54 (hM.obj (i := 9) rfl) hF rfl rfl rfl rfl (RState.len _) (RState.one _) (by first | (rw [RState.len, RState.len]; decide) | (rw [RState.len]; decide)) (put_all ((RState.len _).trans (RState.len _).symm)) fun w hU656 => ?_)
        have hM := hM.chg hU656 (i := 9) rfl
        replace hM : MemL _ (rowL 0 s647 5 y646.ctx :: rowL 0 s649 23 hs650 :: r652 :: rowL 0 s654 3 y646.sent :: pt b_B5_6 (RState.enc (RState.mk (⟨List.replicate 11 LVal.zero, rfl⟩ : Vec LVal 11) (⟨List.replicate 32 LSlot.zero, rfl⟩ : Vec LSlot 32) SV.nil SV.nil SV.nil 0 0 false)) 54 :: rowL 0 s636 5 y635.ctx :: rowL 0 s638 23 hs639 :: r641 :: rowL 0 s643 3 y635.sent :: pt b_B5_5 (RState.enc (RState.mk y635.regs y635.stack s636 s638 s643 y635.at_ y635.steps y635.done)) 54 :: pt b_B5_3 (RState.enc (RState.mk x1.regs x1.stack s9 s11 s15 x1.at_ x1.steps x1.done)) 54 :: pt b_B5_2 (RState.enc (RState.mk x0.regs x0.stack s1 s3 s7 x0.at_ x0.steps x0.done)) 54 :: Lr) := hM
        have hMs := hM
        refine ⟨_, _, hMs, hM, .inr (by kernel_rfl), ?_⟩
        refine d_one hch 7 (by kernel_rfl) rfl rfl ?_
        refine d_ex0 7 rfl rfl rfl rfl fun w hMs hM => ?_
        refine (w_storen (vs := _) Tryz.sizeOf54 (hM.obj (i := 4) rfl) hF rfl rfl rfl rfl (RState.len _) (RState.one _) (by first | (rw [RState.len, RState.len]; decide) | (rw [RState.len]; decide)) (put_all ((RState.len _).trans (RState.len _).symm)) fun w hU657 => ?_)
        have hM := hM.chg hU657 (i := 4) rfl
        replace hM : MemL _ (rowL 0 s647 5 y646.ctx :: rowL 0 s649 23 hs650 :: r652 :: rowL 0 s654 3 y646.sent :: pt b_B5_6 (RState.enc (RState.mk y646.regs y646.stack s647 s649 s654 y646.at_ y646.steps y646.done)) 54 :: rowL 0 s636 5 y635.ctx :: rowL 0 s638 23 hs639 :: r641 :: rowL 0 s643 3 y635.sent :: pt b_B5_5 (RState.enc (RState.mk y635.regs y635.stack s636 s638 s643 y635.at_ y635.steps y635.done)) 54 :: pt b_B5_3 (RState.enc (RState.mk x1.regs x1.stack s9 s11 s15 x1.at_ x1.steps x1.done)) 54 :: pt b_B5_2 (RState.enc (RState.mk x0.regs x0.stack s1 s3 s7 x0.at_ x0.steps x0.done)) 54 :: Lr) := hM
        have hMs := hM
        refine ⟨_, _, hMs, hM, .inr (by kernel_rfl), ?_⟩
        refine d_end hch (by kernel_rfl) fun w hM => ?_
        refine n_then ?_
        have hP := Option.some.inj hP
        subst hP
        exact ⟨(y635, y646), rfl, b_B5_5, s636, s638, hs639, r641, s643, b_B5_6, s647, s649, hs650, r652, s654, q642, q653, hF.to ⟨rfl, rfl, rfl, rfl, rfl, trivial⟩, selM hM [9, 5, 6, 7, 8, 4, 0, 1, 2, 3, 10, 11] 12 rfl⟩
      refine d_ex hF 5 rfl rfl rfl rfl rfl fun w hMs hM => ?_
      refine (w_alloc z54 (zs := RState.zero.enc) rfl rfl fun b_B5_6 w hzB5_6 hAB5_6 => ?_)
      have hM := hM.plus hAB5_6
      replace hM : MemL _ (pt b_B5_6 (RState.enc (RState.mk (⟨List.replicate 11 LVal.zero, rfl⟩ : Vec LVal 11) (⟨List.replicate 32 LSlot.zero, rfl⟩ : Vec LSlot 32) SV.nil SV.nil SV.nil 0 0 false)) 54 :: pt b_B5_5 (RState.enc (RState.mk (⟨List.replicate 11 LVal.zero, rfl⟩ : Vec LVal 11) (⟨List.replicate 32 LSlot.zero, rfl⟩ : Vec LSlot 32) SV.nil SV.nil SV.nil 0 0 false)) 54 :: pt b_B5_3 (RState.enc (RState.mk x1.regs x1.stack s9 s11 s15 x1.at_ x1.steps x1.done)) 54 :: pt b_B5_2 (RState.enc (RState.mk x0.regs x0.stack s1 s3 s7 x0.at_ x0.steps x0.done)) 54 :: Lr) := hM
      have hMs := selM hM [0, 1, 2, 3] 4 rfl
      refine ⟨_, _, hMs, hM, .inl fun _ h => dropM h 1, fun a hF => ?_⟩
      refine d_one hch 1 (by kernel_rfl) rfl rfl ?_
      refine d_ex hF 1 rfl rfl rfl rfl rfl fun w hMs hM => ?_
      obtain ⟨y635, hy635, hP⟩ := bind_some hP
      refine (w_call (xs := [.tmp 15]) Tryz.call30 hF rfl rfl (law23_copyState_calls hy635 hM (Bf := Bf) (fun w hM => hsub _ (dropM hM 4)) f2 f5 q6 f8) fun v w hR => ?_)
      obtain ⟨s636, s638, hs639, r641, s643, rfl, q642, hM⟩ := hR
      replace hM : MemL _ (rowL 0 s636 5 y635.ctx :: rowL 0 s638 23 hs639 :: r641 :: rowL 0 s643 3 y635.sent :: pt b_B5_6 (RState.enc (RState.mk (⟨List.replicate 11 LVal.zero, rfl⟩ : Vec LVal 11) (⟨List.replicate 32 LSlot.zero, rfl⟩ : Vec LSlot 32) SV.nil SV.nil SV.nil 0 0 false)) 54 :: pt b_B5_5 (RState.enc (RState.mk (⟨List.replicate 11 LVal.zero, rfl⟩ : Vec LVal 11) (⟨List.replicate 32 LSlot.zero, rfl⟩ : Vec LSlot 32) SV.nil SV.nil SV.nil 0 0 false)) 54 :: pt b_B5_3 (RState.enc (RState.mk x1.regs x1.stack s9 s11 s15 x1.at_ x1.steps x1.done)) 54 :: pt b_B5_2 (RState.enc (RState.mk x0.regs x0.stack s1 s3 s7 x0.at_ x0.steps x0.done)) 54 :: Lr) := hM
      have hMs := selM hM [0, 1, 2, 3, 4, 5, 6, 7] 8 rfl
      refine ⟨_, _, hMs, hM, .inl fun _ h => dropM h 4, fun a hF => ?_⟩
      refine d_one hch 3 (by kernel_rfl) rfl rfl ?_
      refine d_ex hF 3 rfl rfl rfl rfl rfl fun w hMs hM => ?_
      obtain ⟨y646, hy646, hP⟩ := bind_some hP
      refine (w_call (xs := [.tmp 17]) Tryz.call30 hF rfl rfl (law23_copyState_calls hy646 hM (Bf := Bf) (fun w hM => hsub _ (dropM hM 8)) f10 f13 q14 f16) fun v w hR => ?_)
      obtain ⟨s647, s649, hs650, r652, s654, rfl, q653, hM⟩ := hR
      replace hM : MemL _ (rowL 0 s647 5 y646.ctx :: rowL 0 s649 23 hs650 :: r652 :: rowL 0 s654 3 y646.sent :: rowL 0 s636 5 y635.ctx :: rowL 0 s638 23 hs639 :: r641 :: rowL 0 s643 3 y635.sent :: pt b_B5_6 (RState.enc (RState.mk (⟨List.replicate 11 LVal.zero, rfl⟩ : Vec LVal 11) (⟨List.replicate 32 LSlot.zero, rfl⟩ : Vec LSlot 32) SV.nil SV.nil SV.nil 0 0 false)) 54 :: pt b_B5_5 (RState.enc (RState.mk (⟨List.replicate 11 LVal.zero, rfl⟩ : Vec LVal 11) (⟨List.replicate 32 LSlot.zero, rfl⟩ : Vec LSlot 32) SV.nil SV.nil SV.nil 0 0 false)) 54 :: pt b_B5_3 (RState.enc (RState.mk x1.regs x1.stack s9 s11 s15 x1.at_ x1.steps x1.done)) 54 :: pt b_B5_2 (RState.enc (RState.mk x0.regs x0.stack s1 s3 s7 x0.at_ x0.steps x0.done)) 54 :: Lr) := hM
      have hMs := selM hM [0, 1, 2, 3, 4, 5, 6, 7, 8, 9, 10, 11] 12 rfl
      refine ⟨_, _, hMs, hM, .inl fun _ h => dropM h 4, fun a hF => ?_⟩
      refine d_one hch 6 (by kernel_rfl) rfl rfl ?_
      refine d_ex0 6 rfl rfl rfl rfl fun w hMs hM => ?_
      refine (w_storen (vs := _) Tryz.sizeOf54 (hM.obj (i := 9) rfl) hF rfl rfl rfl rfl (RState.len _) (RState.one _) (by first | (rw [RState.len, RState.len]; decide) | (rw [RState.len]; decide)) (put_all ((RState.len _).trans (RState.len _).symm)) fun w hU656 => ?_)
      have hM := hM.chg hU656 (i := 9) rfl
      replace hM : MemL _ (rowL 0 s647 5 y646.ctx :: rowL 0 s649 23 hs650 :: r652 :: rowL 0 s654 3 y646.sent :: rowL 0 s636 5 y635.ctx :: rowL 0 s638 23 hs639 :: r641 :: rowL 0 s643 3 y635.sent :: pt b_B5_6 (RState.enc (RState.mk (⟨List.replicate 11 LVal.zero, rfl⟩ : Vec LVal 11) (⟨List.replicate 32 LSlot.zero, rfl⟩ : Vec LSlot 32) SV.nil SV.nil SV.nil 0 0 false)) 54 :: pt b_B5_5 (RState.enc (RState.mk y635.regs y635.stack s636 s638 s643 y635.at_ y635.steps y635.done)) 54 :: pt b_B5_3 (RState.enc (RState.mk x1.regs x1.stack s9 s11 s15 x1.at_ x1.steps x1.done)) 54 :: pt b_B5_2 (RState.enc (RState.mk x0.regs x0.stack s1 s3 s7 x0.at_ x0.steps x0.done)) 54 :: Lr) := hM
      have hMs := hM
      refine ⟨_, _, hMs, hM, .inr (by kernel_rfl), ?_⟩
      refine d_one hch 7 (by kernel_rfl) rfl rfl ?_
      refine d_ex0 7 rfl rfl rfl rfl fun w hMs hM => ?_
      refine (w_storen (vs := _) Tryz.sizeOf54 (hM.obj (i := 8) rfl) hF rfl rfl rfl rfl (RState.len _) (RState.one _) (by first | (rw [RState.len, RState.len]; decide) | (rw [RState.len]; decide)) (put_all ((RState.len _).trans (RState.len _).symm)) fun w hU657 => ?_)
      have hM := hM.chg hU657 (i := 8) rfl
      replace hM : MemL _ (rowL 0 s647 5 y646.ctx :: rowL 0 s649 23 hs650 :: r652 :: rowL 0 s654 3 y646.sent :: rowL 0 s636 5 y635.ctx :: rowL 0 s638 23 hs639 :: r641 :: rowL 0 s643 3 y635.sent :: pt b_B5_6 (RState.enc (RState.mk y646.regs y646.stack s647 s649 s654 y646.at_ y646.steps y646.done)) 54 :: pt b_B5_5 (RState.enc (RState.mk y635.regs y635.stack s636 s638 s643 y635.at_ y635.steps y635.done)) 54 :: pt b_B5_3 (RState.enc (RState.mk x1.regs x1.stack s9 s11 s15 x1.at_ x1.steps x1.done)) 54 :: pt b_B5_2 (RState.enc (RState.mk x0.regs x0.stack s1 s3 s7 x0.at_ x0.steps x0.done)) 54 :: Lr) := hM
      have hMs := hM
      refine ⟨_, _, hMs, hM, .inr (by kernel_rfl), ?_⟩
      refine d_end hch (by kernel_rfl) fun w hM => ?_
      refine n_then ?_
      have hP := Option.some.inj hP
      subst hP
      exact ⟨(y635, y646), rfl, b_B5_5, s636, s638, hs639, r641, s643, b_B5_6, s647, s649, hs650, r652, s654, q642, q653, hF.to ⟨rfl, rfl, rfl, rfl, rfl, trivial⟩, selM hM [9, 4, 5, 6, 7, 8, 0, 1, 2, 3, 10, 11] 12 rfl⟩
    refine d_ex hF 5 rfl rfl rfl rfl rfl fun w hMs hM => ?_
    refine (w_alloc z54 (zs := RState.zero.enc) rfl rfl fun b_B5_6 w hzB5_6 hAB5_6 => ?_)
    have hM := hM.plus hAB5_6
    replace hM : MemL _ (pt b_B5_6 (RState.enc (RState.mk (⟨List.replicate 11 LVal.zero, rfl⟩ : Vec LVal 11) (⟨List.replicate 32 LSlot.zero, rfl⟩ : Vec LSlot 32) SV.nil SV.nil SV.nil 0 0 false)) 54 :: pt b_B5_3 (RState.enc (RState.mk x1.regs x1.stack s9 s11 s15 x1.at_ x1.steps x1.done)) 54 :: pt b_B5_2 (RState.enc (RState.mk x0.regs x0.stack s1 s3 s7 x0.at_ x0.steps x0.done)) 54 :: Lr) := hM
    have hMs := selM hM [0, 1, 2] 3 rfl
    refine ⟨_, _, hMs, hM, .inl fun _ h => dropM h 1, fun a hF => ?_⟩
    refine d_two hch 1 4 (by kernel_rfl) rfl rfl ?_ ?_
    · refine d_ex hF 1 rfl rfl rfl rfl rfl fun w hMs hM => ?_
      obtain ⟨y635, hy635, hP⟩ := bind_some hP
      refine (w_call (xs := [.tmp 15]) Tryz.call30 hF rfl rfl (law23_copyState_calls hy635 hM (Bf := Bf) (fun w hM => hsub _ (dropM hM 3)) f2 f5 q6 f8) fun v w hR => ?_)
      obtain ⟨s636, s638, hs639, r641, s643, rfl, q642, hM⟩ := hR
      replace hM : MemL _ (rowL 0 s636 5 y635.ctx :: rowL 0 s638 23 hs639 :: r641 :: rowL 0 s643 3 y635.sent :: pt b_B5_6 (RState.enc (RState.mk (⟨List.replicate 11 LVal.zero, rfl⟩ : Vec LVal 11) (⟨List.replicate 32 LSlot.zero, rfl⟩ : Vec LSlot 32) SV.nil SV.nil SV.nil 0 0 false)) 54 :: pt b_B5_3 (RState.enc (RState.mk x1.regs x1.stack s9 s11 s15 x1.at_ x1.steps x1.done)) 54 :: pt b_B5_2 (RState.enc (RState.mk x0.regs x0.stack s1 s3 s7 x0.at_ x0.steps x0.done)) 54 :: Lr) := hM
      have hMs := selM hM [0, 1, 2, 3, 4, 5, 6] 7 rfl
      refine ⟨_, _, hMs, hM, .inl fun _ h => dropM h 4, fun a hF => ?_⟩
      refine d_two hch 3 4 (by kernel_rfl) rfl rfl ?_ ?_
      · refine d_ex hF 3 rfl rfl rfl rfl rfl fun w hMs hM => ?_
        obtain ⟨y646, hy646, hP⟩ := bind_some hP
        refine (w_call (xs := [.tmp 17]) Tryz.call30 hF rfl rfl (law23_copyState_calls hy646 hM (Bf := Bf) (fun w hM => hsub _ (dropM hM 7)) f10 f13 q14 f16) fun v w hR => ?_)
        obtain ⟨s647, s649, hs650, r652, s654, rfl, q653, hM⟩ := hR
        replace hM : MemL _ (rowL 0 s647 5 y646.ctx :: rowL 0 s649 23 hs650 :: r652 :: rowL 0 s654 3 y646.sent :: rowL 0 s636 5 y635.ctx :: rowL 0 s638 23 hs639 :: r641 :: rowL 0 s643 3 y635.sent :: pt b_B5_6 (RState.enc (RState.mk (⟨List.replicate 11 LVal.zero, rfl⟩ : Vec LVal 11) (⟨List.replicate 32 LSlot.zero, rfl⟩ : Vec LSlot 32) SV.nil SV.nil SV.nil 0 0 false)) 54 :: pt b_B5_3 (RState.enc (RState.mk x1.regs x1.stack s9 s11 s15 x1.at_ x1.steps x1.done)) 54 :: pt b_B5_2 (RState.enc (RState.mk x0.regs x0.stack s1 s3 s7 x0.at_ x0.steps x0.done)) 54 :: Lr) := hM
        have hMs := selM hM [0, 1, 2, 3, 4, 5, 6, 7, 8, 9, 10] 11 rfl
        refine ⟨_, _, hMs, hM, .inl fun _ h => dropM h 4, fun a hF => ?_⟩
        refine d_one hch 4 (by kernel_rfl) rfl rfl ?_
        refine d_ex hF 4 rfl rfl rfl rfl rfl fun w hMs hM => ?_
        refine (w_alloc z54 (zs := RState.zero.enc) rfl rfl fun b_B5_5 w hzB5_5 hAB5_5 => ?_)
        have hM := hM.plus hAB5_5
        replace hM : MemL _ (pt b_B5_5 (RState.enc (RState.mk (⟨List.replicate 11 LVal.zero, rfl⟩ : Vec LVal 11) (⟨List.replicate 32 LSlot.zero, rfl⟩ : Vec LSlot 32) SV.nil SV.nil SV.nil 0 0 false)) 54 :: rowL 0 s647 5 y646.ctx :: rowL 0 s649 23 hs650 :: r652 :: rowL 0 s654 3 y646.sent :: rowL 0 s636 5 y635.ctx :: rowL 0 s638 23 hs639 :: r641 :: rowL 0 s643 3 y635.sent :: pt b_B5_6 (RState.enc (RState.mk (⟨List.replicate 11 LVal.zero, rfl⟩ : Vec LVal 11) (⟨List.replicate 32 LSlot.zero, rfl⟩ : Vec LSlot 32) SV.nil SV.nil SV.nil 0 0 false)) 54 :: pt b_B5_3 (RState.enc (RState.mk x1.regs x1.stack s9 s11 s15 x1.at_ x1.steps x1.done)) 54 :: pt b_B5_2 (RState.enc (RState.mk x0.regs x0.stack s1 s3 s7 x0.at_ x0.steps x0.done)) 54 :: Lr) := hM
        have hMs := selM hM [0, 1, 2, 3, 4, 5, 6, 7, 8, 9, 10, 11] 12 rfl
        refine ⟨_, _, hMs, hM, .inl fun _ h => dropM h 1, fun a hF => ?_⟩
        refine d_one hch 6 (by kernel_rfl) rfl rfl ?_
        refine d_ex0 6 rfl rfl rfl rfl fun w hMs hM => ?_
        refine (w_storen (vs := _) Tryz.sizeOf54 (hM.obj (i := 0) rfl) hF rfl rfl rfl rfl (RState.len _) (RState.one _) (by first | (rw [RState.len, RState.len]; decide) | (rw [RState.len]; decide)) (put_all ((RState.len _).trans (RState.len _).symm)) fun w hU656 => ?_)
        have hM := hM.chg hU656 (i := 0) rfl
        replace hM : MemL _ (pt b_B5_5 (RState.enc (RState.mk y635.regs y635.stack s636 s638 s643 y635.at_ y635.steps y635.done)) 54 :: rowL 0 s647 5 y646.ctx :: rowL 0 s649 23 hs650 :: r652 :: rowL 0 s654 3 y646.sent :: rowL 0 s636 5 y635.ctx :: rowL 0 s638 23 hs639 :: r641 :: rowL 0 s643 3 y635.sent :: pt b_B5_6 (RState.enc (RState.mk (⟨List.replicate 11 LVal.zero, rfl⟩ : Vec LVal 11) (⟨List.replicate 32 LSlot.zero, rfl⟩ : Vec LSlot 32) SV.nil SV.nil SV.nil 0 0 false)) 54 :: pt b_B5_3 (RState.enc (RState.mk x1.regs x1.stack s9 s11 s15 x1.at_ x1.steps x1.done)) 54 :: pt b_B5_2 (RState.enc (RState.mk x0.regs x0.stack s1 s3 s7 x0.at_ x0.steps x0.done)) 54 :: Lr) := hM
        have hMs := hM
        refine ⟨_, _, hMs, hM, .inr (by kernel_rfl), ?_⟩
        refine d_one hch 7 (by kernel_rfl) rfl rfl ?_
        refine d_ex0 7 rfl rfl rfl rfl fun w hMs hM => ?_
        refine (w_storen (vs := _) Tryz.sizeOf54 (hM.obj (i := 9) rfl) hF rfl rfl rfl rfl (RState.len _) (RState.one _) (by first | (rw [RState.len, RState.len]; decide) | (rw [RState.len]; decide)) (put_all ((RState.len _).trans (RState.len _).symm)) fun w hU657 => ?_)
        have hM := hM.chg hU657 (i := 9) rfl
        replace hM : MemL _ (pt b_B5_5 (RState.enc (RState.mk y635.regs y635.stack s636 s638 s643 y635.at_ y635.steps y635.done)) 54 :: rowL 0 s647 5 y646.ctx :: rowL 0 s649 23 hs650 :: r652 :: rowL 0 s654 3 y646.sent :: rowL 0 s636 5 y635.ctx :: rowL 0 s638 23 hs639 :: r641 :: rowL 0 s643 3 y635.sent :: pt b_B5_6 (RState.enc (RState.mk y646.regs y646.stack s647 s649 s654 y646.at_ y646.steps y646.done)) 54 :: pt b_B5_3 (RState.enc (RState.mk x1.regs x1.stack s9 s11 s15 x1.at_ x1.steps x1.done)) 54 :: pt b_B5_2 (RState.enc (RState.mk x0.regs x0.stack s1 s3 s7 x0.at_ x0.steps x0.done)) 54 :: Lr) := hM
        have hMs := hM
        refine ⟨_, _, hMs, hM, .inr (by kernel_rfl), ?_⟩
        refine d_end hch (by kernel_rfl) fun w hM => ?_
        refine n_then ?_
        have hP := Option.some.inj hP
        subst hP
        exact ⟨(y635, y646), rfl, b_B5_5, s636, s638, hs639, r641, s643, b_B5_6, s647, s649, hs650, r652, s654, q642, q653, hF.to ⟨rfl, rfl, rfl, rfl, rfl, trivial⟩, selM hM [0, 5, 6, 7, 8, 9, 1, 2, 3, 4, 10, 11] 12 rfl⟩
      refine d_ex hF 4 rfl rfl rfl rfl rfl fun w hMs hM => ?_
      refine (w_alloc z54 (zs := RState.zero.enc) rfl rfl fun b_B5_5 w hzB5_5 hAB5_5 => ?_)
      have hM := hM.plus hAB5_5
      replace hM : MemL _ (pt b_B5_5 (RState.enc (RState.mk (⟨List.replicate 11 LVal.zero, rfl⟩ : Vec LVal 11) (⟨List.replicate 32 LSlot.zero, rfl⟩ : Vec LSlot 32) SV.nil SV.nil SV.nil 0 0 false)) 54 :: rowL 0 s636 5 y635.ctx :: rowL 0 s638 23 hs639 :: r641 :: rowL 0 s643 3 y635.sent :: pt b_B5_6 (RState.enc (RState.mk (⟨List.replicate 11 LVal.zero, rfl⟩ : Vec LVal 11) (⟨List.replicate 32 LSlot.zero, rfl⟩ : Vec LSlot 32) SV.nil SV.nil SV.nil 0 0 false)) 54 :: pt b_B5_3 (RState.enc (RState.mk x1.regs x1.stack s9 s11 s15 x1.at_ x1.steps x1.done)) 54 :: pt b_B5_2 (RState.enc (RState.mk x0.regs x0.stack s1 s3 s7 x0.at_ x0.steps x0.done)) 54 :: Lr) := hM
      have hMs := selM hM [0, 1, 2, 3, 4, 5, 6, 7] 8 rfl
      refine ⟨_, _, hMs, hM, .inl fun _ h => dropM h 1, fun a hF => ?_⟩
      refine d_one hch 3 (by kernel_rfl) rfl rfl ?_
      refine d_ex hF 3 rfl rfl rfl rfl rfl fun w hMs hM => ?_
      obtain ⟨y646, hy646, hP⟩ := bind_some hP
      refine (w_call (xs := [.tmp 17]) Tryz.call30 hF rfl rfl (law23_copyState_calls hy646 hM (Bf := Bf) (fun w hM => hsub _ (dropM hM 8)) f10 f13 q14 f16) fun v w hR => ?_)
      obtain ⟨s647, s649, hs650, r652, s654, rfl, q653, hM⟩ := hR
      replace hM : MemL _ (rowL 0 s647 5 y646.ctx :: rowL 0 s649 23 hs650 :: r652 :: rowL 0 s654 3 y646.sent :: pt b_B5_5 (RState.enc (RState.mk (⟨List.replicate 11 LVal.zero, rfl⟩ : Vec LVal 11) (⟨List.replicate 32 LSlot.zero, rfl⟩ : Vec LSlot 32) SV.nil SV.nil SV.nil 0 0 false)) 54 :: rowL 0 s636 5 y635.ctx :: rowL 0 s638 23 hs639 :: r641 :: rowL 0 s643 3 y635.sent :: pt b_B5_6 (RState.enc (RState.mk (⟨List.replicate 11 LVal.zero, rfl⟩ : Vec LVal 11) (⟨List.replicate 32 LSlot.zero, rfl⟩ : Vec LSlot 32) SV.nil SV.nil SV.nil 0 0 false)) 54 :: pt b_B5_3 (RState.enc (RState.mk x1.regs x1.stack s9 s11 s15 x1.at_ x1.steps x1.done)) 54 :: pt b_B5_2 (RState.enc (RState.mk x0.regs x0.stack s1 s3 s7 x0.at_ x0.steps x0.done)) 54 :: Lr) := hM
      have hMs := selM hM [0, 1, 2, 3, 4, 5, 6, 7, 8, 9, 10, 11] 12 rfl
      refine ⟨_, _, hMs, hM, .inl fun _ h => dropM h 4, fun a hF => ?_⟩
      refine d_one hch 6 (by kernel_rfl) rfl rfl ?_
      refine d_ex0 6 rfl rfl rfl rfl fun w hMs hM => ?_
      refine (w_storen (vs := _) Tryz.sizeOf54 (hM.obj (i := 4) rfl) hF rfl rfl rfl rfl (RState.len _) (RState.one _) (by first | (rw [RState.len, RState.len]; decide) | (rw [RState.len]; decide)) (put_all ((RState.len _).trans (RState.len _).symm)) fun w hU656 => ?_)
      have hM := hM.chg hU656 (i := 4) rfl
      replace hM : MemL _ (rowL 0 s647 5 y646.ctx :: rowL 0 s649 23 hs650 :: r652 :: rowL 0 s654 3 y646.sent :: pt b_B5_5 (RState.enc (RState.mk y635.regs y635.stack s636 s638 s643 y635.at_ y635.steps y635.done)) 54 :: rowL 0 s636 5 y635.ctx :: rowL 0 s638 23 hs639 :: r641 :: rowL 0 s643 3 y635.sent :: pt b_B5_6 (RState.enc (RState.mk (⟨List.replicate 11 LVal.zero, rfl⟩ : Vec LVal 11) (⟨List.replicate 32 LSlot.zero, rfl⟩ : Vec LSlot 32) SV.nil SV.nil SV.nil 0 0 false)) 54 :: pt b_B5_3 (RState.enc (RState.mk x1.regs x1.stack s9 s11 s15 x1.at_ x1.steps x1.done)) 54 :: pt b_B5_2 (RState.enc (RState.mk x0.regs x0.stack s1 s3 s7 x0.at_ x0.steps x0.done)) 54 :: Lr) := hM
      have hMs := hM
      refine ⟨_, _, hMs, hM, .inr (by kernel_rfl), ?_⟩
      refine d_one hch 7 (by kernel_rfl) rfl rfl ?_
      refine d_ex0 7 rfl rfl rfl rfl fun w hMs hM => ?_
      refine (w_storen (vs := _) Tryz.sizeOf54 (hM.obj (i := 9) rfl) hF rfl rfl rfl rfl (RState.len _) (RState.one _) (by first | (rw [RState.len, RState.len]; decide) | (rw [RState.len]; decide)) (put_all ((RState.len _).trans (RState.len _).symm)) fun w hU657 => ?_)
      have hM := hM.chg hU657 (i := 9) rfl
      replace hM : MemL _ (rowL 0 s647 5 y646.ctx :: rowL 0 s649 23 hs650 :: r652 :: rowL 0 s654 3 y646.sent :: pt b_B5_5 (RState.enc (RState.mk y635.regs y635.stack s636 s638 s643 y635.at_ y635.steps y635.done)) 54 :: rowL 0 s636 5 y635.ctx :: rowL 0 s638 23 hs639 :: r641 :: rowL 0 s643 3 y635.sent :: pt b_B5_6 (RState.enc (RState.mk y646.regs y646.stack s647 s649 s654 y646.at_ y646.steps y646.done)) 54 :: pt b_B5_3 (RState.enc (RState.mk x1.regs x1.stack s9 s11 s15 x1.at_ x1.steps x1.done)) 54 :: pt b_B5_2 (RState.enc (RState.mk x0.regs x0.stack s1 s3 s7 x0.at_ x0.steps x0.done)) 54 :: Lr) := hM
      have hMs := hM
      refine ⟨_, _, hMs, hM, .inr (by kernel_rfl), ?_⟩
      refine d_end hch (by kernel_rfl) fun w hM => ?_
      refine n_then ?_
      have hP := Option.some.inj hP
      subst hP
      exact ⟨(y635, y646), rfl, b_B5_5, s636, s638, hs639, r641, s643, b_B5_6, s647, s649, hs650, r652, s654, q642, q653, hF.to ⟨rfl, rfl, rfl, rfl, rfl, trivial⟩, selM hM [4, 5, 6, 7, 8, 9, 0, 1, 2, 3, 10, 11] 12 rfl⟩
    refine d_ex hF 4 rfl rfl rfl rfl rfl fun w hMs hM => ?_
    refine (w_alloc z54 (zs := RState.zero.enc) rfl rfl fun b_B5_5 w hzB5_5 hAB5_5 => ?_)
    have hM := hM.plus hAB5_5
    replace hM : MemL _ (pt b_B5_5 (RState.enc (RState.mk (⟨List.replicate 11 LVal.zero, rfl⟩ : Vec LVal 11) (⟨List.replicate 32 LSlot.zero, rfl⟩ : Vec LSlot 32) SV.nil SV.nil SV.nil 0 0 false)) 54 :: pt b_B5_6 (RState.enc (RState.mk (⟨List.replicate 11 LVal.zero, rfl⟩ : Vec LVal 11) (⟨List.replicate 32 LSlot.zero, rfl⟩ : Vec LSlot 32) SV.nil SV.nil SV.nil 0 0 false)) 54 :: pt b_B5_3 (RState.enc (RState.mk x1.regs x1.stack s9 s11 s15 x1.at_ x1.steps x1.done)) 54 :: pt b_B5_2 (RState.enc (RState.mk x0.regs x0.stack s1 s3 s7 x0.at_ x0.steps x0.done)) 54 :: Lr) := hM
    have hMs := selM hM [0, 1, 2, 3] 4 rfl
    refine ⟨_, _, hMs, hM, .inl fun _ h => dropM h 1, fun a hF => ?_⟩
    refine d_one hch 1 (by kernel_rfl) rfl rfl ?_
    refine d_ex hF 1 rfl rfl rfl rfl rfl fun w hMs hM => ?_
    obtain ⟨y635, hy635, hP⟩ := bind_some hP
    refine (w_call (xs := [.tmp 15]) Tryz.call30 hF rfl rfl (law23_copyState_calls hy635 hM (Bf := Bf) (fun w hM => hsub _ (dropM hM 4)) f2 f5 q6 f8) fun v w hR => ?_)
    obtain ⟨s636, s638, hs639, r641, s643, rfl, q642, hM⟩ := hR
    replace hM : MemL _ (rowL 0 s636 5 y635.ctx :: rowL 0 s638 23 hs639 :: r641 :: rowL 0 s643 3 y635.sent :: pt b_B5_5 (RState.enc (RState.mk (⟨List.replicate 11 LVal.zero, rfl⟩ : Vec LVal 11) (⟨List.replicate 32 LSlot.zero, rfl⟩ : Vec LSlot 32) SV.nil SV.nil SV.nil 0 0 false)) 54 :: pt b_B5_6 (RState.enc (RState.mk (⟨List.replicate 11 LVal.zero, rfl⟩ : Vec LVal 11) (⟨List.replicate 32 LSlot.zero, rfl⟩ : Vec LSlot 32) SV.nil SV.nil SV.nil 0 0 false)) 54 :: pt b_B5_3 (RState.enc (RState.mk x1.regs x1.stack s9 s11 s15 x1.at_ x1.steps x1.done)) 54 :: pt b_B5_2 (RState.enc (RState.mk x0.regs x0.stack s1 s3 s7 x0.at_ x0.steps x0.done)) 54 :: Lr) := hM
    have hMs := selM hM [0, 1, 2, 3, 4, 5, 6, 7] 8 rfl
    refine ⟨_, _, hMs, hM, .inl fun _ h => dropM h 4, fun a hF => ?_⟩
    refine d_one hch 3 (by kernel_rfl) rfl rfl ?_
    refine d_ex hF 3 rfl rfl rfl rfl rfl fun w hMs hM => ?_
    obtain ⟨y646, hy646, hP⟩ := bind_some hP
    refine (w_call (xs := [.tmp 17]) Tryz.call30 hF rfl rfl (law23_copyState_calls hy646 hM (Bf := Bf) (fun w hM => hsub _ (dropM hM 8)) f10 f13 q14 f16) fun v w hR => ?_)
    obtain ⟨s647, s649, hs650, r652, s654, rfl, q653, hM⟩ := hR
    replace hM : MemL _ (rowL 0 s647 5 y646.ctx :: rowL 0 s649 23 hs650 :: r652 :: rowL 0 s654 3 y646.sent :: rowL 0 s636 5 y635.ctx :: rowL 0 s638 23 hs639 :: r641 :: rowL 0 s643 3 y635.sent :: pt b_B5_5 (RState.enc (RState.mk (⟨List.replicate 11 LVal.zero, rfl⟩ : Vec LVal 11) (⟨List.replicate 32 LSlot.zero, rfl⟩ : Vec LSlot 32) SV.nil SV.nil SV.nil 0 0 false)) 54 :: pt b_B5_6 (RState.enc (RState.mk (⟨List.replicate 11 LVal.zero, rfl⟩ : Vec LVal 11) (⟨List.replicate 32 LSlot.zero, rfl⟩ : Vec LSlot 32) SV.nil SV.nil SV.nil 0 0 false)) 54 :: pt b_B5_3 (RState.enc (RState.mk x1.regs x1.stack s9 s11 s15 x1.at_ x1.steps x1.done)) 54 :: pt b_B5_2 (RState.enc (RState.mk x0.regs x0.stack s1 s3 s7 x0.at_ x0.steps x0.done)) 54 :: Lr) := hM
    have hMs := selM hM [0, 1, 2, 3, 4, 5, 6, 7, 8, 9, 10, 11] 12 rfl
    refine ⟨_, _, hMs, hM, .inl fun _ h => dropM h 4, fun a hF => ?_⟩
    refine d_one hch 6 (by kernel_rfl) rfl rfl ?_
    refine d_ex0 6 rfl rfl rfl rfl fun w hMs hM => ?_
    refine (w_storen (vs := _) Tryz.sizeOf54 (hM.obj (i := 8) rfl) hF rfl rfl rfl rfl (RState.len _) (RState.one _) (by first | (rw [RState.len, RState.len]; decide) | (rw [RState.len]; decide)) (put_all ((RState.len _).trans (RState.len _).symm)) fun w hU656 => ?_)
    have hM := hM.chg hU656 (i := 8) rfl
    replace hM : MemL _ (rowL 0 s647 5 y646.ctx :: rowL 0 s649 23 hs650 :: r652 :: rowL 0 s654 3 y646.sent :: rowL 0 s636 5 y635.ctx :: rowL 0 s638 23 hs639 :: r641 :: rowL 0 s643 3 y635.sent :: pt b_B5_5 (RState.enc (RState.mk y635.regs y635.stack s636 s638 s643 y635.at_ y635.steps y635.done)) 54 :: pt b_B5_6 (RState.enc (RState.mk (⟨List.replicate 11 LVal.zero, rfl⟩ : Vec LVal 11) (⟨List.replicate 32 LSlot.zero, rfl⟩ : Vec LSlot 32) SV.nil SV.nil SV.nil 0 0 false)) 54 :: pt b_B5_3 (RState.enc (RState.mk x1.regs x1.stack s9 s11 s15 x1.at_ x1.steps x1.done)) 54 :: pt b_B5_2 (RState.enc (RState.mk x0.regs x0.stack s1 s3 s7 x0.at_ x0.steps x0.done)) 54 :: Lr) := hM
    have hMs := hM
    refine ⟨_, _, hMs, hM, .inr (by kernel_rfl), ?_⟩
    refine d_one hch 7 (by kernel_rfl) rfl rfl ?_
    refine d_ex0 7 rfl rfl rfl rfl fun w hMs hM => ?_
    refine (w_storen (vs := _) Tryz.sizeOf54 (hM.obj (i := 9) rfl) hF rfl rfl rfl rfl (RState.len _) (RState.one _) (by first | (rw [RState.len, RState.len]; decide) | (rw [RState.len]; decide)) (put_all ((RState.len _).trans (RState.len _).symm)) fun w hU657 => ?_)
    have hM := hM.chg hU657 (i := 9) rfl
    replace hM : MemL _ (rowL 0 s647 5 y646.ctx :: rowL 0 s649 23 hs650 :: r652 :: rowL 0 s654 3 y646.sent :: rowL 0 s636 5 y635.ctx :: rowL 0 s638 23 hs639 :: r641 :: rowL 0 s643 3 y635.sent :: pt b_B5_5 (RState.enc (RState.mk y635.regs y635.stack s636 s638 s643 y635.at_ y635.steps y635.done)) 54 :: pt b_B5_6 (RState.enc (RState.mk y646.regs y646.stack s647 s649 s654 y646.at_ y646.steps y646.done)) 54 :: pt b_B5_3 (RState.enc (RState.mk x1.regs x1.stack s9 s11 s15 x1.at_ x1.steps x1.done)) 54 :: pt b_B5_2 (RState.enc (RState.mk x0.regs x0.stack s1 s3 s7 x0.at_ x0.steps x0.done)) 54 :: Lr) := hM
    have hMs := hM
    refine ⟨_, _, hMs, hM, .inr (by kernel_rfl), ?_⟩
    refine d_end hch (by kernel_rfl) fun w hM => ?_
    refine n_then ?_
    have hP := Option.some.inj hP
    subst hP
    exact ⟨(y635, y646), rfl, b_B5_5, s636, s638, hs639, r641, s643, b_B5_6, s647, s649, hs650, r652, s654, q642, q653, hF.to ⟨rfl, rfl, rfl, rfl, rfl, trivial⟩, selM hM [8, 4, 5, 6, 7, 9, 0, 1, 2, 3, 10, 11] 12 rfl⟩
  rintro ⟨v613, v624⟩ a w hP ⟨b612, s614, s616, hs617, r619, s621, b623, s625, s627, hs628, r630, s632, q620, q631, hF, hM⟩
  replace hP : Sh.law23_TraceDiffs_j1 x0 x1 v613 v624 = _ := hP
  unfold Sh.law23_TraceDiffs_j1 at hP
  refine n_then ?_
  refine c_seq ?_
  refine c_region ?_
  refine s_val hF (r_loadn Tryz.isAgg54 Tryz.sizeOf54 hF rfl rfl (RState.len _) (hM.cells (i := 0) rfl (cut_all (RState.len _)))) rfl rfl rfl fun a hF => ?_
  refine s_val hF (r_loadn Tryz.isAgg54 Tryz.sizeOf54 hF rfl rfl (RState.len _) (hM.cells (i := 5) rfl (cut_all (RState.len _)))) rfl rfl rfl fun a hF => ?_
  obtain ⟨y659, hy659, hP⟩ := bind_some hP
  refine s_eff hF rfl rfl rfl (w_call (xs := [.tmp 20, .tmp 21]) Tryz.call31 hF rfl rfl (trace_Diff_calls hy659 hM (fun _ h => h) (fun w hM => (hM.rowS (X := UInt8) (i := 1) rfl)) (fun w hM => (hM.rowS (X := SV) (i := 2) rfl)) (q620.mono fun _ _ q => q.mono fun w hM => hM.hold 3 _ rfl) (fun w hM => (hM.rowS (X := Int) (i := 4) rfl)) (fun w hM => (hM.rowS (X := UInt8) (i := 6) rfl)) (fun w hM => (hM.rowS (X := SV) (i := 7) rfl)) (q631.mono fun _ _ q => q.mono fun w hM => hM.hold 8 _ rfl) (fun w hM => (hM.rowS (X := Int) (i := 9) rfl))) fun v w hR => ?_)
  obtain ⟨s660, s662, s664, hs665, r667, s669, rfl, q668, hM⟩ := hR
  replace hM : MemL _ (rowL 0 s660 128 y659.1.regs :: rowL 0 s662 151 y659.1.slots :: rowL 0 s664 156 hs665 :: r667 :: rowL 0 s669 3 y659.1.sent :: pt b612 (RState.enc (RState.mk v613.regs v613.stack s614 s616 s621 v613.at_ v613.steps v613.done)) 54 :: rowL 0 s614 5 v613.ctx :: rowL 0 s616 23 hs617 :: r619 :: rowL 0 s621 3 v613.sent :: pt b623 (RState.enc (RState.mk v624.regs v624.stack s625 s627 s632 v624.at_ v624.steps v624.done)) 54 :: rowL 0 s625 5 v624.ctx :: rowL 0 s627 23 hs628 :: r630 :: rowL 0 s632 3 v624.sent :: pt b_B5_3 (RState.enc (RState.mk x1.regs x1.stack s9 s11 s15 x1.at_ x1.steps x1.done)) 54 :: pt b_B5_2 (RState.enc (RState.mk x0.regs x0.stack s1 s3 s7 x0.at_ x0.steps x0.done)) 54 :: Lr) := hM
  intro a hF
  refine s_val hF (r_move hF rfl rfl) rfl rfl rfl fun a hF => ?_
  refine s_val hF (r_extract hF rfl rfl rfl) rfl rfl rfl fun a hF => ?_
  refine s_val hF (r_extract hF rfl rfl rfl) rfl rfl rfl fun a hF => ?_
  refine s_eff hF rfl rfl rfl (w_alloc z60 (zs := RMark.zero.enc) rfl rfl fun b_B5_7 w hzB5_7 hAB5_7 => ?_)
  have hM := hM.plus hAB5_7
  replace hM : MemL _ (pt b_B5_7 (RMark.enc (RMark.mk 0 0 false SV.nil SV.nil SV.nil SV.nil)) 60 :: rowL 0 s660 128 y659.1.regs :: rowL 0 s662 151 y659.1.slots :: rowL 0 s664 156 hs665 :: r667 :: rowL 0 s669 3 y659.1.sent :: pt b612 (RState.enc (RState.mk v613.regs v613.stack s614 s616 s621 v613.at_ v613.steps v613.done)) 54 :: rowL 0 s614 5 v613.ctx :: rowL 0 s616 23 hs617 :: r619 :: rowL 0 s621 3 v613.sent :: pt b623 (RState.enc (RState.mk v624.regs v624.stack s625 s627 s632 v624.at_ v624.steps v624.done)) 54 :: rowL 0 s625 5 v624.ctx :: rowL 0 s627 23 hs628 :: r630 :: rowL 0 s632 3 v624.sent :: pt b_B5_3 (RState.enc (RState.mk x1.regs x1.stack s9 s11 s15 x1.at_ x1.steps x1.done)) 54 :: pt b_B5_2 (RState.enc (RState.mk x0.regs x0.stack s1 s3 s7 x0.at_ x0.steps x0.done)) 54 :: Lr) := hM
  intro a hF
  refine s_eff0 rfl rfl (w_storen (vs := _) Tryz.sizeOf60 (hM.obj (i := 0) rfl) hF rfl rfl rfl rfl (RMark.len _) (RMark.one _) (by first | (rw [RMark.len, RMark.len]; decide) | (rw [RMark.len]; decide)) (put_all ((RMark.len _).trans (RMark.len _).symm)) fun w hU671 => ?_)
  have hM := hM.chg hU671 (i := 0) rfl
  replace hM : MemL _ (pt b_B5_7 (RMark.enc (RMark.mk y659.1.at_ y659.1.next y659.1.done s660 s662 s664 s669)) 60 :: rowL 0 s660 128 y659.1.regs :: rowL 0 s662 151 y659.1.slots :: rowL 0 s664 156 hs665 :: r667 :: rowL 0 s669 3 y659.1.sent :: pt b612 (RState.enc (RState.mk v613.regs v613.stack s614 s616 s621 v613.at_ v613.steps v613.done)) 54 :: rowL 0 s614 5 v613.ctx :: rowL 0 s616 23 hs617 :: r619 :: rowL 0 s621 3 v613.sent :: pt b623 (RState.enc (RState.mk v624.regs v624.stack s625 s627 s632 v624.at_ v624.steps v624.done)) 54 :: rowL 0 s625 5 v624.ctx :: rowL 0 s627 23 hs628 :: r630 :: rowL 0 s632 3 v624.sent :: pt b_B5_3 (RState.enc (RState.mk x1.regs x1.stack s9 s11 s15 x1.at_ x1.steps x1.done)) 54 :: pt b_B5_2 (RState.enc (RState.mk x0.regs x0.stack s1 s3 s7 x0.at_ x0.steps x0.done)) 54 :: Lr) := hM
  refine s_val hF (r_assign hF rfl rfl) rfl rfl rfl fun a hF => ?_
  refine c_nil (n_then ?_)
  refine c_seq ?_
  refine c_region ?_
  refine s_val hF (r_loadn Tryz.isAgg54 Tryz.sizeOf54 hF rfl rfl (RState.len _) (hM.cells (i := 17) rfl (cut_all (RState.len _)))) rfl rfl rfl fun a hF => ?_
  refine s_val hF (r_loadn Tryz.isAgg54 Tryz.sizeOf54 hF rfl rfl (RState.len _) (hM.cells (i := 16) rfl (cut_all (RState.len _)))) rfl rfl rfl fun a hF => ?_
  obtain ⟨y673, hy673, hP⟩ := bind_some hP
  refine s_eff hF rfl rfl rfl (w_call (xs := [.tmp 26, .tmp 27]) Tryz.call32 hF rfl rfl (ref23_Diff_calls hy673 hM (Bf := Bf) (fun w hM => hsub _ (dropM hM 18)) f2 f5 q6 f8 f10 f13 q14 f16) fun v w hR => ?_)
  obtain ⟨s674, s676, s678, hs679, r681, s683, rfl, q682, hM⟩ := hR
  replace hM : MemL _ (rowL 0 s674 128 y673.1.regs :: rowL 0 s676 151 y673.1.slots :: rowL 0 s678 156 hs679 :: r681 :: rowL 0 s683 3 y673.1.sent :: pt b_B5_7 (RMark.enc (RMark.mk y659.1.at_ y659.1.next y659.1.done s660 s662 s664 s669)) 60 :: rowL 0 s660 128 y659.1.regs :: rowL 0 s662 151 y659.1.slots :: rowL 0 s664 156 hs665 :: r667 :: rowL 0 s669 3 y659.1.sent :: pt b612 (RState.enc (RState.mk v613.regs v613.stack s614 s616 s621 v613.at_ v613.steps v613.done)) 54 :: rowL 0 s614 5 v613.ctx :: rowL 0 s616 23 hs617 :: r619 :: rowL 0 s621 3 v613.sent :: pt b623 (RState.enc (RState.mk v624.regs v624.stack s625 s627 s632 v624.at_ v624.steps v624.done)) 54 :: rowL 0 s625 5 v624.ctx :: rowL 0 s627 23 hs628 :: r630 :: rowL 0 s632 3 v624.sent :: pt b_B5_3 (RState.enc (RState.mk x1.regs x1.stack s9 s11 s15 x1.at_ x1.steps x1.done)) 54 :: pt b_B5_2 (RState.enc (RState.mk x0.regs x0.stack s1 s3 s7 x0.at_ x0.steps x0.done)) 54 :: Lr) := hM
  intro a hF
  refine s_val hF (r_move hF rfl rfl) rfl rfl rfl fun a hF => ?_
  refine s_val hF (r_extract hF rfl rfl rfl) rfl rfl rfl fun a hF => ?_
  refine s_val hF (r_extract hF rfl rfl rfl) rfl rfl rfl fun a hF => ?_
  refine s_eff hF rfl rfl rfl (w_alloc z60 (zs := RMark.zero.enc) rfl rfl fun b_B5_9 w hzB5_9 hAB5_9 => ?_)
  have hM := hM.plus hAB5_9
  replace hM : MemL _ (pt b_B5_9 (RMark.enc (RMark.mk 0 0 false SV.nil SV.nil SV.nil SV.nil)) 60 :: rowL 0 s674 128 y673.1.regs :: rowL 0 s676 151 y673.1.slots :: rowL 0 s678 156 hs679 :: r681 :: rowL 0 s683 3 y673.1.sent :: pt b_B5_7 (RMark.enc (RMark.mk y659.1.at_ y659.1.next y659.1.done s660 s662 s664 s669)) 60 :: rowL 0 s660 128 y659.1.regs :: rowL 0 s662 151 y659.1.slots :: rowL 0 s664 156 hs665 :: r667 :: rowL 0 s669 3 y659.1.sent :: pt b612 (RState.enc (RState.mk v613.regs v613.stack s614 s616 s621 v613.at_ v613.steps v613.done)) 54 :: rowL 0 s614 5 v613.ctx :: rowL 0 s616 23 hs617 :: r619 :: rowL 0 s621 3 v613.sent :: pt b623 (RState.enc (RState.mk v624.regs v624.stack s625 s627 s632 v624.at_ v624.steps v624.done)) 54 :: rowL 0 s625 5 v624.ctx :: rowL 0 s627 23 hs628 :: r630 :: rowL 0 s632 3 v624.sent :: pt b_B5_3 (RState.enc (RState.mk x1.regs x1.stack s9 s11 s15 x1.at_ x1.steps x1.done)) 54 :: pt b_B5_2 (RState.enc (RState.mk x0.regs x0.stack s1 s3 s7 x0.at_ x0.steps x0.done)) 54 :: Lr) := hM
  intro a hF
  refine s_eff0 rfl rfl (w_storen (vs := _) Tryz.sizeOf60 (hM.obj (i := 0) rfl) hF rfl rfl rfl rfl (RMark.len _) (RMark.one _) (by first | (rw [RMark.len, RMark.len]; decide) | (rw [RMark.len]; decide)) (put_all ((RMark.len _).trans (RMark.len _).symm)) fun w hU685 => ?_)
  have hM := hM.chg hU685 (i := 0) rfl
  replace hM : MemL _ (pt b_B5_9 (RMark.enc (RMark.mk y673.1.at_ y673.1.next y673.1.done s674 s676 s678 s683)) 60 :: rowL 0 s674 128 y673.1.regs :: rowL 0 s676 151 y673.1.slots :: rowL 0 s678 156 hs679 :: r681 :: rowL 0 s683 3 y673.1.sent :: pt b_B5_7 (RMark.enc (RMark.mk y659.1.at_ y659.1.next y659.1.done s660 s662 s664 s669)) 60 :: rowL 0 s660 128 y659.1.regs :: rowL 0 s662 151 y659.1.slots :: rowL 0 s664 156 hs665 :: r667 :: rowL 0 s669 3 y659.1.sent :: pt b612 (RState.enc (RState.mk v613.regs v613.stack s614 s616 s621 v613.at_ v613.steps v613.done)) 54 :: rowL 0 s614 5 v613.ctx :: rowL 0 s616 23 hs617 :: r619 :: rowL 0 s621 3 v613.sent :: pt b623 (RState.enc (RState.mk v624.regs v624.stack s625 s627 s632 v624.at_ v624.steps v624.done)) 54 :: rowL 0 s625 5 v624.ctx :: rowL 0 s627 23 hs628 :: r630 :: rowL 0 s632 3 v624.sent :: pt b_B5_3 (RState.enc (RState.mk x1.regs x1.stack s9 s11 s15 x1.at_ x1.steps x1.done)) 54 :: pt b_B5_2 (RState.enc (RState.mk x0.regs x0.stack s1 s3 s7 x0.at_ x0.steps x0.done)) 54 :: Lr) := hM
  refine s_val hF (r_assign hF rfl rfl) rfl rfl rfl fun a hF => ?_
  refine c_nil (n_then ?_)
  refine c_seq ?_
  refine c_seq ?_
  refine c_joinX hF hM hP (fun F x a w => match x with | v733 => Fr 89 [(51, .bool v733), (4, .bool false), (5, .pointer (some ⟨b612, 0, none⟩)), (6, .pointer (some ⟨b623, 0, none⟩)), (7, .pointer (some ⟨b_B5_7, 0, none⟩)), (9, .pointer (some ⟨b_B5_9, 0, none⟩))] a ∧ MemL w (pt b_B5_9 (RMark.enc (RMark.mk y673.1.at_ y673.1.next y673.1.done s674 s676 s678 s683)) 60 :: pt b_B5_7 (RMark.enc (RMark.mk y659.1.at_ y659.1.next y659.1.done s660 s662 s664 s669)) 60 :: pt b612 (RState.enc (RState.mk v613.regs v613.stack s614 s616 s621 v613.at_ v613.steps v613.done)) 54 :: pt b623 (RState.enc (RState.mk v624.regs v624.stack s625 s627 s632 v624.at_ v624.steps v624.done)) 54 :: rowL 0 s674 128 y673.1.regs :: rowL 0 s676 151 y673.1.slots :: rowL 0 s678 156 hs679 :: r681 :: rowL 0 s683 3 y673.1.sent :: rowL 0 s660 128 y659.1.regs :: rowL 0 s662 151 y659.1.slots :: rowL 0 s664 156 hs665 :: r667 :: rowL 0 s669 3 y659.1.sent :: rowL 0 s614 5 v613.ctx :: rowL 0 s616 23 hs617 :: r619 :: rowL 0 s621 3 v613.sent :: rowL 0 s625 5 v624.ctx :: rowL 0 s627 23 hs628 :: r630 :: rowL 0 s632 3 v624.sent :: Lr)) (fun o_j2 hP hK_j2 hF hM => ?_) ?_
  · refine c_region ?_
    refine s_val hF (r_move hF rfl rfl) rfl rfl rfl fun a hF => ?_
    refine s_val hF (r_move hF rfl rfl) rfl rfl rfl fun a hF => ?_
    refine s_val hF (r_neq hF rfl rfl rfl) rfl rfl rfl fun a hF => ?_
    refine s_val hF (r_move hF rfl rfl) rfl rfl rfl fun a hF => ?_
    refine g_split 34 hF rfl (fun hb734 => ?_) (fun hb734 => ?_)
    · have hP := Fx.cT hb734 hP
      refine g_skip hF rfl rfl rfl hb734 rfl rfl fun a hF => ?_
      refine g_skip hF rfl rfl rfl hb734 rfl rfl fun a hF => ?_
      refine g_skip hF rfl rfl rfl hb734 rfl rfl fun a hF => ?_
      refine g_skip hF rfl rfl rfl hb734 rfl rfl fun a hF => ?_
      refine s_val hF (r_pick1 hF rfl rfl hb734 rfl) rfl rfl rfl fun a hF => ?_
      refine s_val hF (r_move hF rfl rfl) rfl rfl rfl fun a hF => ?_
      refine g_skip hF rfl rfl rfl rfl rfl rfl fun a hF => ?_
      refine g_skip hF rfl rfl rfl rfl rfl rfl fun a hF => ?_
      refine g_skip hF rfl rfl rfl rfl rfl rfl fun a hF => ?_
      refine g_skip hF rfl rfl rfl rfl rfl rfl fun a hF => ?_
      refine s_val hF (r_pick1 hF rfl rfl rfl rfl) rfl rfl rfl fun a hF => ?_
      refine s_val hF (r_move hF rfl rfl) rfl rfl rfl fun a hF => ?_
      refine g_skip hF rfl rfl rfl rfl rfl rfl fun a hF => ?_
      refine g_skip hF rfl rfl rfl rfl rfl rfl fun a hF => ?_
      refine g_skip hF rfl rfl rfl rfl rfl rfl fun a hF => ?_
      refine g_skip hF rfl rfl rfl rfl rfl rfl fun a hF => ?_
      refine s_val hF (r_pick1 hF rfl rfl rfl rfl) rfl rfl rfl fun a hF => ?_
      refine c_nil (n_then ?_)
      have hP := Option.some.inj hP
      subst hP
      exact ⟨true, rfl, hF.to ⟨rfl, rfl, rfl, rfl, rfl, rfl, trivial⟩, selM hM [0, 6, 12, 17, 1, 2, 3, 4, 5, 7, 8, 9, 10, 11, 13, 14, 15, 16, 18, 19, 20, 21] 24 rfl⟩
    have hP := Fx.cF hb734 hP
    refine g_val hF rfl rfl rfl hb734 (r_loadn Tryz.isAgg60 Tryz.sizeOf60 hF rfl rfl (RMark.len _) (hM.cells (i := 6) rfl (cut_all (RMark.len _)))) rfl rfl fun a hF => ?_
    refine g_val hF rfl rfl rfl hb734 (r_loadn Tryz.isAgg60 Tryz.sizeOf60 hF rfl rfl (RMark.len _) (hM.cells (i := 0) rfl (cut_all (RMark.len _)))) rfl rfl fun a hF => ?_
    obtain ⟨y736, hy736, hP⟩ := bind_some hP
    refine g_eff hF rfl rfl rfl hb734 rfl rfl (w_call (xs := [.tmp 35, .tmp 36]) Tryz.call33 hF rfl rfl (law23_sameMark_calls hy736 hM (fun _ h => h) (fun w hM => (hM.rowS (X := LTurn) (i := 7) rfl)) (fun w hM => (hM.rowS (X := LCell) (i := 8) rfl)) (fun w hM => (hM.rowS (X := RPiece) (i := 9) rfl)) (q668.mono fun _ _ q => q.mono fun w hM => hM.hold 10 _ rfl) (fun w hM => (hM.rowS (X := Int) (i := 11) rfl)) (fun w hM => (hM.rowS (X := LTurn) (i := 1) rfl)) (fun w hM => (hM.rowS (X := LCell) (i := 2) rfl)) (fun w hM => (hM.rowS (X := RPiece) (i := 3) rfl)) (q682.mono fun _ _ q => q.mono fun w hM => hM.hold 4 _ rfl) (fun w hM => (hM.rowS (X := Int) (i := 5) rfl))) fun v w hR => ?_)
    obtain ⟨rfl, hM⟩ := hR
    replace hM : MemL _ (pt b_B5_9 (RMark.enc (RMark.mk y673.1.at_ y673.1.next y673.1.done s674 s676 s678 s683)) 60 :: rowL 0 s674 128 y673.1.regs :: rowL 0 s676 151 y673.1.slots :: rowL 0 s678 156 hs679 :: r681 :: rowL 0 s683 3 y673.1.sent :: pt b_B5_7 (RMark.enc (RMark.mk y659.1.at_ y659.1.next y659.1.done s660 s662 s664 s669)) 60 :: rowL 0 s660 128 y659.1.regs :: rowL 0 s662 151 y659.1.slots :: rowL 0 s664 156 hs665 :: r667 :: rowL 0 s669 3 y659.1.sent :: pt b612 (RState.enc (RState.mk v613.regs v613.stack s614 s616 s621 v613.at_ v613.steps v613.done)) 54 :: rowL 0 s614 5 v613.ctx :: rowL 0 s616 23 hs617 :: r619 :: rowL 0 s621 3 v613.sent :: pt b623 (RState.enc (RState.mk v624.regs v624.stack s625 s627 s632 v624.at_ v624.steps v624.done)) 54 :: rowL 0 s625 5 v624.ctx :: rowL 0 s627 23 hs628 :: r630 :: rowL 0 s632 3 v624.sent :: pt b_B5_3 (RState.enc (RState.mk x1.regs x1.stack s9 s11 s15 x1.at_ x1.steps x1.done)) 54 :: pt b_B5_2 (RState.enc (RState.mk x0.regs x0.stack s1 s3 s7 x0.at_ x0.steps x0.done)) 54 :: Lr) := hM
    intro a hF
    refine g_val hF rfl rfl rfl hb734 (r_not hF rfl rfl) rfl rfl fun a hF => ?_
    refine s_val hF (r_pick0 hF rfl rfl hb734 rfl) rfl rfl rfl fun a hF => ?_
    refine s_val hF (r_move hF rfl rfl) rfl rfl rfl fun a hF => ?_
    refine g_split 40 hF rfl (fun hb737 => ?_) (fun hb737 => ?_)
    · have hP := Fx.cT hb737 hP
      refine g_skip hF rfl rfl rfl hb737 rfl rfl fun a hF => ?_
      refine g_skip hF rfl rfl rfl hb737 rfl rfl fun a hF => ?_
      refine g_skip hF rfl rfl rfl hb737 rfl rfl fun a hF => ?_
      refine g_skip hF rfl rfl rfl hb737 rfl rfl fun a hF => ?_
      refine s_val hF (r_pick1 hF rfl rfl hb737 rfl) rfl rfl rfl fun a hF => ?_
      refine s_val hF (r_move hF rfl rfl) rfl rfl rfl fun a hF => ?_
      refine g_skip hF rfl rfl rfl rfl rfl rfl fun a hF => ?_
      refine g_skip hF rfl rfl rfl rfl rfl rfl fun a hF => ?_
      refine g_skip hF rfl rfl rfl rfl rfl rfl fun a hF => ?_
      refine g_skip hF rfl rfl rfl rfl rfl rfl fun a hF => ?_
      refine s_val hF (r_pick1 hF rfl rfl rfl rfl) rfl rfl rfl fun a hF => ?_
      refine c_nil (n_then ?_)
      have hP := Option.some.inj hP
      subst hP
      exact ⟨true, rfl, hF.to ⟨rfl, rfl, rfl, rfl, rfl, rfl, trivial⟩, selM hM [0, 6, 12, 17, 1, 2, 3, 4, 5, 7, 8, 9, 10, 11, 13, 14, 15, 16, 18, 19, 20, 21] 24 rfl⟩
    have hP := Fx.cF hb737 hP
    refine g_val hF rfl rfl rfl hb737 (r_loadn Tryz.isAgg54 Tryz.sizeOf54 hF rfl rfl (RState.len _) (hM.cells (i := 12) rfl (cut_all (RState.len _)))) rfl rfl fun a hF => ?_
    refine g_val hF rfl rfl rfl hb737 (r_loadn Tryz.isAgg54 Tryz.sizeOf54 hF rfl rfl (RState.len _) (hM.cells (i := 23) rfl (cut_all (RState.len _)))) rfl rfl fun a hF => ?_
    obtain ⟨y739, hy739, hP⟩ := bind_some hP
    refine g_eff hF rfl rfl rfl hb737 rfl rfl (w_call (xs := [.tmp 41, .tmp 42]) Tryz.call34 hF rfl rfl (law00_SameState_calls hy739 hM (fun _ h => h) (fun w hM => (hM.rowS (X := UInt8) (i := 13) rfl)) (fun w hM => (hM.rowS (X := SV) (i := 14) rfl)) (q620.mono fun _ _ q => q.mono fun w hM => hM.hold 15 _ rfl) (fun w hM => (hM.rowS (X := Int) (i := 16) rfl)) (fun w hM => (f2 _ (hsub _ (dropM hM 24)))) (fun w hM => (f5 _ (hsub _ (dropM hM 24)))) (q6.mono fun _ _ q => q.mono fun w hM => hsub _ (dropM hM 24)) (fun w hM => (f8 _ (hsub _ (dropM hM 24))))) fun v w hR => ?_)
    obtain ⟨rfl, hM⟩ := hR
    replace hM : MemL _ (pt b_B5_9 (RMark.enc (RMark.mk y673.1.at_ y673.1.next y673.1.done s674 s676 s678 s683)) 60 :: rowL 0 s674 128 y673.1.regs :: rowL 0 s676 151 y673.1.slots :: rowL 0 s678 156 hs679 :: r681 :: rowL 0 s683 3 y673.1.sent :: pt b_B5_7 (RMark.enc (RMark.mk y659.1.at_ y659.1.next y659.1.done s660 s662 s664 s669)) 60 :: rowL 0 s660 128 y659.1.regs :: rowL 0 s662 151 y659.1.slots :: rowL 0 s664 156 hs665 :: r667 :: rowL 0 s669 3 y659.1.sent :: pt b612 (RState.enc (RState.mk v613.regs v613.stack s614 s616 s621 v613.at_ v613.steps v613.done)) 54 :: rowL 0 s614 5 v613.ctx :: rowL 0 s616 23 hs617 :: r619 :: rowL 0 s621 3 v613.sent :: pt b623 (RState.enc (RState.mk v624.regs v624.stack s625 s627 s632 v624.at_ v624.steps v624.done)) 54 :: rowL 0 s625 5 v624.ctx :: rowL 0 s627 23 hs628 :: r630 :: rowL 0 s632 3 v624.sent :: pt b_B5_3 (RState.enc (RState.mk x1.regs x1.stack s9 s11 s15 x1.at_ x1.steps x1.done)) 54 :: pt b_B5_2 (RState.enc (RState.mk x0.regs x0.stack s1 s3 s7 x0.at_ x0.steps x0.done)) 54 :: Lr) := hM
    intro a hF
    refine g_val hF rfl rfl rfl hb737 (r_not hF rfl rfl) rfl rfl fun a hF => ?_
    refine s_val hF (r_pick0 hF rfl rfl hb737 rfl) rfl rfl rfl fun a hF => ?_
    refine s_val hF (r_move hF rfl rfl) rfl rfl rfl fun a hF => ?_
    refine g_split 46 hF rfl (fun hb740 => ?_) (fun hb740 => ?_)
    · have hP := Fx.cT hb740 hP
      refine g_skip hF rfl rfl rfl hb740 rfl rfl fun a hF => ?_
      refine g_skip hF rfl rfl rfl hb740 rfl rfl fun a hF => ?_
      refine g_skip hF rfl rfl rfl hb740 rfl rfl fun a hF => ?_
      refine g_skip hF rfl rfl rfl hb740 rfl rfl fun a hF => ?_
      refine s_val hF (r_pick1 hF rfl rfl hb740 rfl) rfl rfl rfl fun a hF => ?_
      refine c_nil (n_then ?_)
      have hP := Option.some.inj hP
      subst hP
      exact ⟨true, rfl, hF.to ⟨rfl, rfl, rfl, rfl, rfl, rfl, trivial⟩, selM hM [0, 6, 12, 17, 1, 2, 3, 4, 5, 7, 8, 9, 10, 11, 13, 14, 15, 16, 18, 19, 20, 21] 24 rfl⟩
    have hP := Fx.cF hb740 hP
    refine g_val hF rfl rfl rfl hb740 (r_loadn Tryz.isAgg54 Tryz.sizeOf54 hF rfl rfl (RState.len _) (hM.cells (i := 17) rfl (cut_all (RState.len _)))) rfl rfl fun a hF => ?_
    refine g_val hF rfl rfl rfl hb740 (r_loadn Tryz.isAgg54 Tryz.sizeOf54 hF rfl rfl (RState.len _) (hM.cells (i := 22) rfl (cut_all (RState.len _)))) rfl rfl fun a hF => ?_
    obtain ⟨y742, hy742, hP⟩ := bind_some hP
    refine g_eff hF rfl rfl rfl hb740 rfl rfl (w_call (xs := [.tmp 47, .tmp 48]) Tryz.call34 hF rfl rfl (law00_SameState_calls hy742 hM (fun _ h => h) (fun w hM => (hM.rowS (X := UInt8) (i := 18) rfl)) (fun w hM => (hM.rowS (X := SV) (i := 19) rfl)) (q631.mono fun _ _ q => q.mono fun w hM => hM.hold 20 _ rfl) (fun w hM => (hM.rowS (X := Int) (i := 21) rfl)) (fun w hM => (f10 _ (hsub _ (dropM hM 24)))) (fun w hM => (f13 _ (hsub _ (dropM hM 24)))) (q14.mono fun _ _ q => q.mono fun w hM => hsub _ (dropM hM 24)) (fun w hM => (f16 _ (hsub _ (dropM hM 24))))) fun v w hR => ?_)
    obtain ⟨rfl, hM⟩ := hR
    replace hM : MemL _ (pt b_B5_9 (RMark.enc (RMark.mk y673.1.at_ y673.1.next y673.1.done s674 s676 s678 s683)) 60 :: rowL 0 s674 128 y673.1.regs :: rowL 0 s676 151 y673.1.slots :: rowL 0 s678 156 hs679 :: r681 :: rowL 0 s683 3 y673.1.sent :: pt b_B5_7 (RMark.enc (RMark.mk y659.1.at_ y659.1.next y659.1.done s660 s662 s664 s669)) 60 :: rowL 0 s660 128 y659.1.regs :: rowL 0 s662 151 y659.1.slots :: rowL 0 s664 156 hs665 :: r667 :: rowL 0 s669 3 y659.1.sent :: pt b612 (RState.enc (RState.mk v613.regs v613.stack s614 s616 s621 v613.at_ v613.steps v613.done)) 54 :: rowL 0 s614 5 v613.ctx :: rowL 0 s616 23 hs617 :: r619 :: rowL 0 s621 3 v613.sent :: pt b623 (RState.enc (RState.mk v624.regs v624.stack s625 s627 s632 v624.at_ v624.steps v624.done)) 54 :: rowL 0 s625 5 v624.ctx :: rowL 0 s627 23 hs628 :: r630 :: rowL 0 s632 3 v624.sent :: pt b_B5_3 (RState.enc (RState.mk x1.regs x1.stack s9 s11 s15 x1.at_ x1.steps x1.done)) 54 :: pt b_B5_2 (RState.enc (RState.mk x0.regs x0.stack s1 s3 s7 x0.at_ x0.steps x0.done)) 54 :: Lr) := hM
    intro a hF
    refine g_val hF rfl rfl rfl hb740 (r_not hF rfl rfl) rfl rfl fun a hF => ?_
    refine s_val hF (r_pick0 hF rfl rfl hb740 rfl) rfl rfl rfl fun a hF => ?_
    refine c_nil (n_then ?_)
    have hP := Option.some.inj hP
    subst hP
    exact ⟨(!y742), rfl, hF.to ⟨rfl, rfl, rfl, rfl, rfl, rfl, trivial⟩, selM hM [0, 6, 12, 17, 1, 2, 3, 4, 5, 7, 8, 9, 10, 11, 13, 14, 15, 16, 18, 19, 20, 21] 24 rfl⟩
  rintro v733 a w hP ⟨hF, hM⟩
  replace hP : Sh.law23_TraceDiffs_j2 v613 v624 y659 y673 v733 = _ := hP
  unfold Sh.law23_TraceDiffs_j2 at hP
  refine n_then ?_
  refine c_cond hF (c := .tmp 51) rfl (fun hb743 => ?_) (fun hb743 => ?_)
  · have hP := Fx.cT hb743 hP
    refine c_seq ?_
    refine c_region ?_
    refine s_val hF (r_assign hF rfl rfl) rfl rfl rfl fun a hF => ?_
    refine c_nil (n_then ?_)
    refine c_ret ?_
    have hP := Option.some.inj hP
    subst hP
    refine e_ret1 Tryz.results5 hF rfl ?_
    exact ⟨rfl, selM hM [] 22 rfl⟩
  have hP := Fx.cF hb743 hP
  refine c_skip (n_then ?_)
  refine c_seq ?_
  refine c_joinX hF hM hP (fun F x a w => match x with | v836 => ∃ (s837 : SV) (s839 : SV) (hs840 : List SV) (r842 : Res) (s844 : SV), Each (LIn (X := UInt8) r842.holds') hs840 v836.tables ∧ Fr 89 [(4, .bool false), (6, .pointer (some ⟨b623, 0, none⟩)), (7, .pointer (some ⟨b_B5_7, 0, none⟩)), (9, .pointer (some ⟨b_B5_9, 0, none⟩))] a ∧ MemL w (pt b612 (RState.enc (RState.mk v836.regs v836.stack s837 s839 s844 v836.at_ v836.steps v836.done)) 54 :: rowL 0 s837 5 v836.ctx :: rowL 0 s839 23 hs840 :: r842 :: rowL 0 s844 3 v836.sent :: pt b_B5_9 (RMark.enc (RMark.mk y673.1.at_ y673.1.next y673.1.done s674 s676 s678 s683)) 60 :: pt b_B5_7 (RMark.enc (RMark.mk y659.1.at_ y659.1.next y659.1.done s660 s662 s664 s669)) 60 :: pt b623 (RState.enc (RState.mk v624.regs v624.stack s625 s627 s632 v624.at_ v624.steps v624.done)) 54 :: rowL 0 s674 128 y673.1.regs :: rowL 0 s676 151 y673.1.slots :: rowL 0 s678 156 hs679 :: r681 :: rowL 0 s683 3 y673.1.sent :: rowL 0 s660 128 y659.1.regs :: rowL 0 s662 151 y659.1.slots :: rowL 0 s664 156 hs665 :: r667 :: rowL 0 s669 3 y659.1.sent :: rowL 0 s625 5 v624.ctx :: rowL 0 s627 23 hs628 :: r630 :: rowL 0 s632 3 v624.sent :: Lr)) (fun o_j3 hP hK_j3 hF hM => ?_) ?_
  · refine c_seq ?_
    refine c_region ?_
    refine s_val hF (r_assign hF rfl rfl) rfl rfl rfl fun a hF => ?_
    refine c_nil (n_then ?_)
    refine c_block ?_
    refine c_loopX hF hM hP (fun F x a w => match x with | (v873, v883) => ∃ (s874 : SV) (s876 : SV) (hs877 : List SV) (r879 : Res) (s881 : SV), Each (LIn (X := UInt8) r879.holds') hs877 v873.tables ∧ Fr 89 [(11, .int .i64 v883), (4, .bool false), (5, .pointer (some ⟨b612, 0, none⟩)), (6, .pointer (some ⟨b623, 0, none⟩)), (7, .pointer (some ⟨b_B5_7, 0, none⟩)), (9, .pointer (some ⟨b_B5_9, 0, none⟩))] a ∧ MemL w (pt b612 (RState.enc (RState.mk v873.regs v873.stack s874 s876 s881 v873.at_ v873.steps v873.done)) 54 :: rowL 0 s874 5 v873.ctx :: rowL 0 s876 23 hs877 :: r879 :: rowL 0 s881 3 v873.sent :: pt b_B5_9 (RMark.enc (RMark.mk y673.1.at_ y673.1.next y673.1.done s674 s676 s678 s683)) 60 :: pt b_B5_7 (RMark.enc (RMark.mk y659.1.at_ y659.1.next y659.1.done s660 s662 s664 s669)) 60 :: pt b623 (RState.enc (RState.mk v624.regs v624.stack s625 s627 s632 v624.at_ v624.steps v624.done)) 54 :: rowL 0 s674 128 y673.1.regs :: rowL 0 s676 151 y673.1.slots :: rowL 0 s678 156 hs679 :: r681 :: rowL 0 s683 3 y673.1.sent :: rowL 0 s660 128 y659.1.regs :: rowL 0 s662 151 y659.1.slots :: rowL 0 s664 156 hs665 :: r667 :: rowL 0 s669 3 y659.1.sent :: rowL 0 s625 5 v624.ctx :: rowL 0 s627 23 hs628 :: r630 :: rowL 0 s632 3 v624.sent :: Lr)) (fun hF hM => ⟨s614, s616, hs617, r619, s621, q620, hF.to ⟨rfl, rfl, rfl, rfl, rfl, rfl, trivial⟩, selM hM [2, 14, 15, 16, 17, 0, 1, 3, 4, 5, 6, 7, 8, 9, 10, 11, 12, 13, 18, 19, 20, 21] 22 rfl⟩) ?_
    rintro ⟨v873, v883⟩ a w o_l4 hP hK_l4 ⟨s874, s876, hs877, r879, s881, q880, hF, hM⟩
    replace hP : Sh.law23_TraceDiffs_l4 v873 v883 = _ := hP
    unfold Sh.law23_TraceDiffs_l4 at hP
    refine c_seq ?_
    refine c_seq ?_
    refine c_region ?_
    refine s_val hF (r_move hF rfl rfl) rfl rfl rfl fun a hF => ?_
    refine s_val hF (r_fieldAddr (off' := 460) Tryz.underlying54 rfl in23 rfl hF rfl rfl rfl) rfl rfl rfl fun a hF => ?_
    refine s_val hF (r_load1 Tryz.isAgg23 hF rfl rfl (hM.cell (i := 0) rfl (RState.g_ctx _))) rfl rfl rfl fun a hF => ?_
    refine s_val hF (r_lenL (hM.rowS (X := UInt8) (i := 1) rfl) Tryz.underlying23 hF rfl rfl) rfl rfl rfl fun a hF => ?_
    refine s_val hF (r_lss hF rfl rfl rfl) rfl rfl rfl fun a hF => ?_
    refine c_nil (n_then ?_)
    refine c_cond hF (c := .tmp 56) rfl (fun hb885 => ?_) (fun hb885 => ?_)
    · have hP := Fx.cT hb885 hP
      refine c_skip (n_then ?_)
      refine c_seq ?_
      refine c_block ?_
      refine d_startT mixed (by kernel_rfl) hM [0, 1, 2, 3, 4, 5, 6, 7, 8, 9, 10, 11, 12, 13, 14, 15, 16, 17, 18, 19, 20, 21] 22 rfl fun hch => ?_
      refine d_val hF hch 0 rfl (by kernel_rfl) rfl rfl rfl (fun w hM => (r_fieldAddr (off' := 460) Tryz.underlying54 rfl in23 rfl hF rfl rfl rfl)) fun a hF => ?_
      refine d_val hF hch 1 rfl (by kernel_rfl) rfl rfl rfl (fun w hM => (r_load1 Tryz.isAgg23 hF rfl rfl (hM.cell (i := 0) rfl (RState.g_ctx _)))) fun a hF => ?_
      refine d_val hF hch 2 rfl (by kernel_rfl) rfl rfl rfl (fun w hM => (r_move hF rfl rfl)) fun a hF => ?_
      refine d_val hF hch 3 rfl (by kernel_rfl) rfl rfl rfl (fun w hM => (r_fieldAddr (off' := 460) Tryz.underlying54 rfl in23 rfl hF rfl rfl rfl)) fun a hF => ?_
      refine d_val hF hch 4 rfl (by kernel_rfl) rfl rfl rfl (fun w hM => (r_load1 Tryz.isAgg23 hF rfl rfl (hM.cell (i := 0) rfl (RState.g_ctx _)))) fun a hF => ?_
      refine d_val hF hch 5 rfl (by kernel_rfl) rfl rfl rfl (fun w hM => (r_move hF rfl rfl)) fun a hF => ?_
      obtain ⟨x889, hx889, hP⟩ := bind_some hP
      have h0x889 := get_some hx889
      refine d_val hF hch 6 rfl (by kernel_rfl) rfl rfl rfl (fun w hM => (r_indexZ (sz := 1) (hM.rowS (X := UInt8) (i := 1) rfl) Tryz.underlying23 in5 rfl hF rfl rfl rfl (get_bd hx889))) fun a hF => ?_
      refine d_val hF hch 7 rfl (by kernel_rfl) rfl rfl rfl (fun w hM => (r_load1 Tryz.isAgg5 hF rfl rfl ((((hM.rowS (X := UInt8) (i := 1) rfl).elemS h0x889.2)).get 0 rfl))) fun a hF => ?_
      refine d_val hF hch 8 rfl (by kernel_rfl) rfl rfl rfl (fun w hM => (r_add8 hF rfl rfl rfl)) fun a hF => ?_
      obtain ⟨x890, hx890, hP⟩ := bind_some hP
      have h0x890 := get_some hx890
      refine d_val hF hch 9 rfl (by kernel_rfl) rfl rfl rfl (fun w hM => (r_indexZ (sz := 1) (hM.rowS (X := UInt8) (i := 1) rfl) Tryz.underlying23 in5 rfl hF rfl rfl rfl (get_bd hx890))) fun a hF => ?_
      refine d_one hch 10 (by kernel_rfl) rfl rfl ?_
      refine d_ex0 10 rfl rfl rfl rfl fun w hMs hM => ?_
      refine (w_storeRow1 (d := 0) (q := (Fw.byteOf ((x889.toNat : Int) + 1))) Tryz.sizeOf5 (hM.own (X := UInt8) (i := 1) rfl) h0x890.2 hF rfl rfl rfl rfl rfl (by decide) rfl fun w hU891 => ?_)
      have hM := hM.chg hU891 (i := 1) rfl
      replace hM : MemL _ (pt b612 (RState.enc (RState.mk v873.regs v873.stack s874 s876 s881 v873.at_ v873.steps v873.done)) 54 :: rowL 0 s874 5 (v873.ctx.set (v883 : Int).toNat (Fw.byteOf ((x889.toNat : Int) + 1))) :: rowL 0 s876 23 hs877 :: r879 :: rowL 0 s881 3 v873.sent :: pt b_B5_9 (RMark.enc (RMark.mk y673.1.at_ y673.1.next y673.1.done s674 s676 s678 s683)) 60 :: pt b_B5_7 (RMark.enc (RMark.mk y659.1.at_ y659.1.next y659.1.done s660 s662 s664 s669)) 60 :: pt b623 (RState.enc (RState.mk v624.regs v624.stack s625 s627 s632 v624.at_ v624.steps v624.done)) 54 :: rowL 0 s674 128 y673.1.regs :: rowL 0 s676 151 y673.1.slots :: rowL 0 s678 156 hs679 :: r681 :: rowL 0 s683 3 y673.1.sent :: rowL 0 s660 128 y659.1.regs :: rowL 0 s662 151 y659.1.slots :: rowL 0 s664 156 hs665 :: r667 :: rowL 0 s669 3 y659.1.sent :: rowL 0 s625 5 v624.ctx :: rowL 0 s627 23 hs628 :: r630 :: rowL 0 s632 3 v624.sent :: Lr) := hM
      have hMs := hM
      refine ⟨_, _, hMs, hM, .inr (by kernel_rfl), ?_⟩
      refine d_end hch (by kernel_rfl) fun w hM => ?_
      refine n_block (n_then ?_)
      refine c_region ?_
      refine s_val hF (r_move hF rfl rfl) rfl rfl rfl fun a hF => ?_
      refine s_val hF (r_add hF rfl rfl rfl) rfl rfl rfl fun a hF => ?_
      refine s_val hF (r_assign hF rfl rfl) rfl rfl rfl fun a hF => ?_
      refine c_nil (n_then ?_)
      have hP := Option.some.inj hP
      subst hP
      exact ⟨((QState.mk v873.regs v873.stack (v873.ctx.set (v883 : Int).toNat (Fw.byteOf ((x889.toNat : Int) + 1))) v873.tables v873.sent v873.at_ v873.steps v873.done), (IntKind.i64.wrap (v883 + 1))), rfl, s874, s876, hs877, r879, s881, q880, hF.to ⟨rfl, rfl, rfl, rfl, rfl, rfl, trivial⟩, hM⟩
    have hP := Fx.cF hb885 hP
    refine c_exit (x_then (x_then (x_hit ?_)))
    refine n_then ?_
    have hP := Option.some.inj hP
    subst hP
    have hP := hK_l4 _ rfl
    subst hP
    exact ⟨v873, rfl, s874, s876, hs877, r879, s881, q880, hF.to ⟨rfl, rfl, rfl, rfl, trivial⟩, hM⟩
  rintro v836 a w hP ⟨s837, s839, hs840, r842, s844, q843, hF, hM⟩
  replace hP : Sh.law23_TraceDiffs_j3 v624 y659 y673 v836 = _ := hP
  unfold Sh.law23_TraceDiffs_j3 at hP
  refine n_then ?_
  refine c_seq ?_
  refine c_joinX hF hM hP (fun F x a w => match x with | v1022 => ∃ (s1023 : SV) (s1025 : SV) (hs1026 : List SV) (r1028 : Res) (s1030 : SV), Each (LIn (X := UInt8) r1028.holds') hs1026 v1022.tables ∧ Fr 89 [(4, .bool false), (7, .pointer (some ⟨b_B5_7, 0, none⟩)), (9, .pointer (some ⟨b_B5_9, 0, none⟩))] a ∧ MemL w (pt b623 (RState.enc (RState.mk v1022.regs v1022.stack s1023 s1025 s1030 v1022.at_ v1022.steps v1022.done)) 54 :: rowL 0 s1023 5 v1022.ctx :: rowL 0 s1025 23 hs1026 :: r1028 :: rowL 0 s1030 3 v1022.sent :: pt b_B5_9 (RMark.enc (RMark.mk y673.1.at_ y673.1.next y673.1.done s674 s676 s678 s683)) 60 :: pt b_B5_7 (RMark.enc (RMark.mk y659.1.at_ y659.1.next y659.1.done s660 s662 s664 s669)) 60 :: rowL 0 s674 128 y673.1.regs :: rowL 0 s676 151 y673.1.slots :: rowL 0 s678 156 hs679 :: r681 :: rowL 0 s683 3 y673.1.sent :: rowL 0 s660 128 y659.1.regs :: rowL 0 s662 151 y659.1.slots :: rowL 0 s664 156 hs665 :: r667 :: rowL 0 s669 3 y659.1.sent :: Lr)) (fun o_j5 hP hK_j5 hF hM => ?_) ?_
  · refine c_seq ?_
    refine c_region ?_
    refine s_val hF (r_assign hF rfl rfl) rfl rfl rfl fun a hF => ?_
    refine c_nil (n_then ?_)
    refine c_block ?_
    refine c_loopX hF hM hP (fun F x a w => match x with | (v1078, v1088) => ∃ (s1079 : SV) (s1081 : SV) (hs1082 : List SV) (r1084 : Res) (s1086 : SV), Each (LIn (X := UInt8) r1084.holds') hs1082 v1078.tables ∧ Fr 89 [(12, .int .i64 v1088), (4, .bool false), (6, .pointer (some ⟨b623, 0, none⟩)), (7, .pointer (some ⟨b_B5_7, 0, none⟩)), (9, .pointer (some ⟨b_B5_9, 0, none⟩))] a ∧ MemL w (pt b623 (RState.enc (RState.mk v1078.regs v1078.stack s1079 s1081 s1086 v1078.at_ v1078.steps v1078.done)) 54 :: rowL 0 s1079 5 v1078.ctx :: rowL 0 s1081 23 hs1082 :: r1084 :: rowL 0 s1086 3 v1078.sent :: pt b_B5_9 (RMark.enc (RMark.mk y673.1.at_ y673.1.next y673.1.done s674 s676 s678 s683)) 60 :: pt b_B5_7 (RMark.enc (RMark.mk y659.1.at_ y659.1.next y659.1.done s660 s662 s664 s669)) 60 :: rowL 0 s674 128 y673.1.regs :: rowL 0 s676 151 y673.1.slots :: rowL 0 s678 156 hs679 :: r681 :: rowL 0 s683 3 y673.1.sent :: rowL 0 s660 128 y659.1.regs :: rowL 0 s662 151 y659.1.slots :: rowL 0 s664 156 hs665 :: r667 :: rowL 0 s669 3 y659.1.sent :: Lr)) (fun hF hM => ⟨s625, s627, hs628, r630, s632, q631, hF.to ⟨rfl, rfl, rfl, rfl, rfl, trivial⟩, selM hM [7, 18, 19, 20, 21, 5, 6, 8, 9, 10, 11, 12, 13, 14, 15, 16, 17] 22 rfl⟩) ?_
    rintro ⟨v1078, v1088⟩ a w o_l6 hP hK_l6 ⟨s1079, s1081, hs1082, r1084, s1086, q1085, hF, hM⟩
    replace hP : Sh.law23_TraceDiffs_l6 v1078 v1088 = _ := hP
    unfold Sh.law23_TraceDiffs_l6 at hP
    refine c_seq ?_
    refine c_seq ?_
    refine c_region ?_
    refine s_val hF (r_move hF rfl rfl) rfl rfl rfl fun a hF => ?_
    refine s_val hF (r_fieldAddr (off' := 460) Tryz.underlying54 rfl in23 rfl hF rfl rfl rfl) rfl rfl rfl fun a hF => ?_
    refine s_val hF (r_load1 Tryz.isAgg23 hF rfl rfl (hM.cell (i := 0) rfl (RState.g_ctx _))) rfl rfl rfl fun a hF => ?_
    refine s_val hF (r_lenL (hM.rowS (X := UInt8) (i := 1) rfl) Tryz.underlying23 hF rfl rfl) rfl rfl rfl fun a hF => ?_
    refine s_val hF (r_lss hF rfl rfl rfl) rfl rfl rfl fun a hF => ?_
    refine c_nil (n_then ?_)
    refine c_cond hF (c := .tmp 73) rfl (fun hb1090 => ?_) (fun hb1090 => ?_)
    · have hP := Fx.cT hb1090 hP
      refine c_skip (n_then ?_)
      refine c_seq ?_
      refine c_block ?_
      refine d_startT mixed (by kernel_rfl) hM [0, 1, 2, 3, 4, 5, 6, 7, 8, 9, 10, 11, 12, 13, 14, 15, 16] 17 rfl fun hch => ?_
      refine d_val hF hch 0 rfl (by kernel_rfl) rfl rfl rfl (fun w hM => (r_fieldAddr (off' := 460) Tryz.underlying54 rfl in23 rfl hF rfl rfl rfl)) fun a hF => ?_
      refine d_val hF hch 1 rfl (by kernel_rfl) rfl rfl rfl (fun w hM => (r_load1 Tryz.isAgg23 hF rfl rfl (hM.cell (i := 0) rfl (RState.g_ctx _)))) fun a hF => ?_
      refine d_val hF hch 2 rfl (by kernel_rfl) rfl rfl rfl (fun w hM => (r_move hF rfl rfl)) fun a hF => ?_
      refine d_val hF hch 3 rfl (by kernel_rfl) rfl rfl rfl (fun w hM => (r_fieldAddr (off' := 460) Tryz.underlying54 rfl in23 rfl hF rfl rfl rfl)) fun a hF => ?_
      refine d_val hF hch 4 rfl (by kernel_rfl) rfl rfl rfl (fun w hM => (r_load1 Tryz.isAgg23 hF rfl rfl (hM.cell (i := 0) rfl (RState.g_ctx _)))) fun a hF => ?_
      refine d_val hF hch 5 rfl (by kernel_rfl) rfl rfl rfl (fun w hM => (r_move hF rfl rfl)) fun a hF => ?_
      obtain ⟨x1094, hx1094, hP⟩ := bind_some hP
      have h0x1094 := get_some hx1094
      refine d_val hF hch 6 rfl (by kernel_rfl) rfl rfl rfl (fun w hM => (r_indexZ (sz := 1) (hM.rowS (X := UInt8) (i := 1) rfl) Tryz.underlying23 in5 rfl hF rfl rfl rfl (get_bd hx1094))) fun a hF => ?_
      refine d_val hF hch 7 rfl (by kernel_rfl) rfl rfl rfl (fun w hM => (r_load1 Tryz.isAgg5 hF rfl rfl ((((hM.rowS (X := UInt8) (i := 1) rfl).elemS h0x1094.2)).get 0 rfl))) fun a hF => ?_
      refine d_val hF hch 8 rfl (by kernel_rfl) rfl rfl rfl (fun w hM => (r_add8 hF rfl rfl rfl)) fun a hF => ?_
      obtain ⟨x1095, hx1095, hP⟩ := bind_some hP
      have h0x1095 := get_some hx1095
      refine d_val hF hch 9 rfl (by kernel_rfl) rfl rfl rfl (fun w hM => (r_indexZ (sz := 1) (hM.rowS (X := UInt8) (i := 1) rfl) Tryz.underlying23 in5 rfl hF rfl rfl rfl (get_bd hx1095))) fun a hF => ?_
      refine d_one hch 10 (by kernel_rfl) rfl rfl ?_
      refine d_ex0 10 rfl rfl rfl rfl fun w hMs hM => ?_
      refine (w_storeRow1 (d := 0) (q := (Fw.byteOf ((x1094.toNat : Int) + 1))) Tryz.sizeOf5 (hM.own (X := UInt8) (i := 1) rfl) h0x1095.2 hF rfl rfl rfl rfl rfl (by decide) rfl fun w hU1096 => ?_)
      have hM := hM.chg hU1096 (i := 1) rfl
      replace hM : MemL _ (pt b623 (RState.enc (RState.mk v1078.regs v1078.stack s1079 s1081 s1086 v1078.at_ v1078.steps v1078.done)) 54 :: rowL 0 s1079 5 (v1078.ctx.set (v1088 : Int).toNat (Fw.byteOf ((x1094.toNat : Int) + 1))) :: rowL 0 s1081 23 hs1082 :: r1084 :: rowL 0 s1086 3 v1078.sent :: pt b_B5_9 (RMark.enc (RMark.mk y673.1.at_ y673.1.next y673.1.done s674 s676 s678 s683)) 60 :: pt b_B5_7 (RMark.enc (RMark.mk y659.1.at_ y659.1.next y659.1.done s660 s662 s664 s669)) 60 :: rowL 0 s674 128 y673.1.regs :: rowL 0 s676 151 y673.1.slots :: rowL 0 s678 156 hs679 :: r681 :: rowL 0 s683 3 y673.1.sent :: rowL 0 s660 128 y659.1.regs :: rowL 0 s662 151 y659.1.slots :: rowL 0 s664 156 hs665 :: r667 :: rowL 0 s669 3 y659.1.sent :: Lr) := hM
      have hMs := hM
      refine ⟨_, _, hMs, hM, .inr (by kernel_rfl), ?_⟩
      refine d_end hch (by kernel_rfl) fun w hM => ?_
      refine n_block (n_then ?_)
      refine c_region ?_
      refine s_val hF (r_move hF rfl rfl) rfl rfl rfl fun a hF => ?_
      refine s_val hF (r_add hF rfl rfl rfl) rfl rfl rfl fun a hF => ?_
      refine s_val hF (r_assign hF rfl rfl) rfl rfl rfl fun a hF => ?_
      refine c_nil (n_then ?_)
      have hP := Option.some.inj hP
      subst hP
      exact ⟨((QState.mk v1078.regs v1078.stack (v1078.ctx.set (v1088 : Int).toNat (Fw.byteOf ((x1094.toNat : Int) + 1))) v1078.tables v1078.sent v1078.at_ v1078.steps v1078.done), (IntKind.i64.wrap (v1088 + 1))), rfl, s1079, s1081, hs1082, r1084, s1086, q1085, hF.to ⟨rfl, rfl, rfl, rfl, rfl, trivial⟩, hM⟩
    have hP := Fx.cF hb1090 hP
    refine c_exit (x_then (x_then (x_hit ?_)))
    refine n_then ?_
    have hP := Option.some.inj hP
    subst hP
    have hP := hK_l6 _ rfl
    subst hP
    exact ⟨v1078, rfl, s1079, s1081, hs1082, r1084, s1086, q1085, hF.to ⟨rfl, rfl, rfl, trivial⟩, hM⟩
  rintro v1022 a w hP ⟨s1023, s1025, hs1026, r1028, s1030, q1029, hF, hM⟩
  replace hP : Sh.law23_TraceDiffs_j5 y659 y673 v1022 = _ := hP
  unfold Sh.law23_TraceDiffs_j5 at hP
  refine n_then ?_
  refine c_seq ?_
  refine c_region ?_
  refine s_val hF (r_loadn Tryz.isAgg60 Tryz.sizeOf60 hF rfl rfl (RMark.len _) (hM.cells (i := 6) rfl (cut_all (RMark.len _)))) rfl rfl rfl fun a hF => ?_
  refine s_val hF (r_loadn Tryz.isAgg60 Tryz.sizeOf60 hF rfl rfl (RMark.len _) (hM.cells (i := 5) rfl (cut_all (RMark.len _)))) rfl rfl rfl fun a hF => ?_
  obtain ⟨y1098, hy1098, hP⟩ := bind_some hP
  refine s_eff hF rfl rfl rfl (w_call (xs := [.tmp 86, .tmp 87]) Tryz.call33 hF rfl rfl (law23_sameMark_calls hy1098 hM (fun _ h => h) (fun w hM => (hM.rowS (X := LTurn) (i := 12) rfl)) (fun w hM => (hM.rowS (X := LCell) (i := 13) rfl)) (fun w hM => (hM.rowS (X := RPiece) (i := 14) rfl)) (q668.mono fun _ _ q => q.mono fun w hM => hM.hold 15 _ rfl) (fun w hM => (hM.rowS (X := Int) (i := 16) rfl)) (fun w hM => (hM.rowS (X := LTurn) (i := 7) rfl)) (fun w hM => (hM.rowS (X := LCell) (i := 8) rfl)) (fun w hM => (hM.rowS (X := RPiece) (i := 9) rfl)) (q682.mono fun _ _ q => q.mono fun w hM => hM.hold 10 _ rfl) (fun w hM => (hM.rowS (X := Int) (i := 11) rfl))) fun v w hR => ?_)
  obtain ⟨rfl, hM⟩ := hR
  replace hM : MemL _ (pt b623 (RState.enc (RState.mk v1022.regs v1022.stack s1023 s1025 s1030 v1022.at_ v1022.steps v1022.done)) 54 :: rowL 0 s1023 5 v1022.ctx :: rowL 0 s1025 23 hs1026 :: r1028 :: rowL 0 s1030 3 v1022.sent :: pt b_B5_9 (RMark.enc (RMark.mk y673.1.at_ y673.1.next y673.1.done s674 s676 s678 s683)) 60 :: pt b_B5_7 (RMark.enc (RMark.mk y659.1.at_ y659.1.next y659.1.done s660 s662 s664 s669)) 60 :: rowL 0 s674 128 y673.1.regs :: rowL 0 s676 151 y673.1.slots :: rowL 0 s678 156 hs679 :: r681 :: rowL 0 s683 3 y673.1.sent :: rowL 0 s660 128 y659.1.regs :: rowL 0 s662 151 y659.1.slots :: rowL 0 s664 156 hs665 :: r667 :: rowL 0 s669 3 y659.1.sent :: Lr) := hM
  intro a hF
  refine s_val hF (r_assign hF rfl rfl) rfl rfl rfl fun a hF => ?_
  refine c_nil (n_then ?_)
  refine c_ret ?_
  have hP := Option.some.inj hP
  subst hP
  refine e_ret1 Tryz.results5 hF rfl ?_
  exact ⟨rfl, selM hM [] 17 rfl⟩
end Go.Proofs
end
