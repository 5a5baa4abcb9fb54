/- Ground for this claim: The call of TraceDecodes returns true, and the bytes read as before. Condition: what is read is of bulk at most 1048576. -/
import Derived.Test.YtmgnkohlfbjjnaaGreatRTd6
section
namespace Go.Proofs
open Go.Fw Go.Fx
set_option maxRecDepth 10000
set_option linter.unusedVariables false
set_option linter.unusedSimpArgs false
set_option maxHeartbeats 4000000 in
theorem ref23_cursor_mark_calls {x0 : QCursor} {s1 : SV} {b0 : Nat} {out : (QMark × QCursor)} {w0 : World} {Bf : World → Prop} {Lr : List Res} (hP : Sh.ref23_cursor_mark x0 = some out) (hM : MemL w0 (pt b0 (RCursor.enc (RCursor.mk s1 x0.at_ x0.place x0.e)) 184 :: Lr)) (hsub : ∀ w, MemL w Lr → Bf w) (f2 : LIn Bf s1 x0.b) : Calls Tryz.prog 123 #[.pointer (some ⟨b0, 0, none⟩)] w0 (Ret fun v w' => ∃ (s2294 : SV) (s2296 : SV) (s2298 : SV) (hs2299 : List RPiece) (r2301 : Res) (s2303 : SV) (s2305 : SV), v = .agg (RMark.enc (RMark.mk out.1.at_ out.1.next out.1.done s2294 s2296 s2298 s2303)).toArray ∧ Each (QPieceIn r2301.holds') hs2299 out.1.pieces ∧ LIn Bf s2305 out.2.b ∧ MemL w' (rowL 0 s2294 128 out.1.regs :: rowL 0 s2296 151 out.1.slots :: rowL 0 s2298 156 hs2299 :: r2301 :: rowL 0 s2303 3 out.1.sent :: pt b0 (RCursor.enc (RCursor.mk s2305 out.2.at_ out.2.place out.2.e)) 184 :: Lr)) := by
  unfold Sh.ref23_cursor_mark at hP
  refine calls_enter (vs := [.pointer (some ⟨b0, 0, none⟩)]) Tryz.func123 rfl Tryz.ntmps123 rfl fun a hF => ?_
  refine c_seq ?_
  refine c_region ?_
  refine s_eff hF rfl rfl rfl (w_alloc z60 (zs := RMark.zero.enc) rfl rfl fun b_B123_2 w hzB123_2 hAB123_2 => ?_)
  have hM := hM.plus hAB123_2
  replace hM : MemL _ (pt b_B123_2 (RMark.enc (RMark.mk 0 0 false SV.nil SV.nil SV.nil SV.nil)) 60 :: pt b0 (RCursor.enc (RCursor.mk s1 x0.at_ x0.place x0.e)) 184 :: Lr) := hM
  intro a hF
  refine c_nil (n_then ?_)
  refine c_seq ?_
  refine c_region ?_
  refine s_val hF (r_move hF rfl rfl) rfl rfl rfl fun a hF => ?_
  refine s_val hF (r_nilCheckP hF rfl rfl) rfl rfl rfl fun a hF => ?_
  refine s_val hF (r_fieldAddr (off' := 1) Tryz.underlying184 rfl in3 rfl hF rfl rfl rfl) rfl rfl rfl fun a hF => ?_
  refine s_val hF (r_load1 Tryz.isAgg3 hF rfl rfl (hM.cell (i := 1) rfl (RCursor.g_at_ _))) rfl rfl rfl fun a hF => ?_
  refine s_val hF (r_assign hF rfl rfl) rfl rfl rfl fun a hF => ?_
  refine c_nil (n_then ?_)
  refine c_seq ?_
  refine c_region ?_
  refine s_eff hF rfl rfl rfl (w_alloc z60 (zs := RMark.zero.enc) rfl rfl fun b_B123_4 w hzB123_4 hAB123_4 => ?_)
  have hM := hM.plus hAB123_4
  replace hM : MemL _ (pt b_B123_4 (RMark.enc (RMark.mk 0 0 false SV.nil SV.nil SV.nil SV.nil)) 60 :: pt b_B123_2 (RMark.enc (RMark.mk 0 0 false SV.nil SV.nil SV.nil SV.nil)) 60 :: pt b0 (RCursor.enc (RCursor.mk s1 x0.at_ x0.place x0.e)) 184 :: Lr) := hM
  intro a hF
  refine c_nil (n_then ?_)
  refine c_seq ?_
  refine c_region ?_
  refine s_val hF (r_move hF rfl rfl) rfl rfl rfl fun a hF => ?_
  obtain ⟨y2308, hy2308, hP⟩ := bind_some hP
  refine s_eff hF rfl rfl rfl (w_call (xs := [.tmp 18, .const (.int .i64 (2))]) Tryz.call121 hF rfl rfl (ref23_cursor_number_calls hy2308 (selM hM [2, 0, 1] 3 rfl) (Bf := Bf) (fun w hM => hsub _ (dropM hM 2)) f2) fun v w hR => ?_)
  obtain ⟨s2309, rfl, f2310, hM⟩ := hR
  replace hM : MemL _ (pt b0 (RCursor.enc (RCursor.mk s2309 y2308.2.at_ y2308.2.place y2308.2.e)) 184 :: pt b_B123_4 (RMark.enc (RMark.mk 0 0 false SV.nil SV.nil SV.nil SV.nil)) 60 :: pt b_B123_2 (RMark.enc (RMark.mk 0 0 false SV.nil SV.nil SV.nil SV.nil)) 60 :: Lr) := hM
  intro a hF
  refine s_val hF (r_fieldAddr (off' := 0) Tryz.underlying60 rfl in3 rfl hF rfl rfl rfl) rfl rfl rfl fun a hF => ?_
  refine s_eff0 rfl rfl (w_store1 Tryz.sizeOf3 (hM.obj (i := 1) rfl) hF rfl rfl rfl rfl (by rw [RMark.len]; decide) (RMark.s_at_ _ _) fun w hU2311 => ?_)
  have hM := hM.chg hU2311 (i := 1) rfl
  replace hM : MemL _ (pt b0 (RCursor.enc (RCursor.mk s2309 y2308.2.at_ y2308.2.place y2308.2.e)) 184 :: pt b_B123_4 (RMark.enc (RMark.mk y2308.1 0 false SV.nil SV.nil SV.nil SV.nil)) 60 :: pt b_B123_2 (RMark.enc (RMark.mk 0 0 false SV.nil SV.nil SV.nil SV.nil)) 60 :: Lr) := hM
  refine c_nil (n_then ?_)
  refine c_seq ?_
  refine c_region ?_
  refine s_val hF (r_move hF rfl rfl) rfl rfl rfl fun a hF => ?_
  obtain ⟨y2313, hy2313, hP⟩ := bind_some hP
  refine s_eff hF rfl rfl rfl (w_call (xs := [.tmp 21, .const (.int .i64 (2))]) Tryz.call121 hF rfl rfl (ref23_cursor_number_calls hy2313 hM (Bf := Bf) (fun w hM => hsub _ (dropM hM 2)) f2310) fun v w hR => ?_)
  obtain ⟨s2314, rfl, f2315, hM⟩ := hR
  replace hM : MemL _ (pt b0 (RCursor.enc (RCursor.mk s2314 y2313.2.at_ y2313.2.place y2313.2.e)) 184 :: pt b_B123_4 (RMark.enc (RMark.mk y2308.1 0 false SV.nil SV.nil SV.nil SV.nil)) 60 :: pt b_B123_2 (RMark.enc (RMark.mk 0 0 false SV.nil SV.nil SV.nil SV.nil)) 60 :: Lr) := hM
  intro a hF
  refine s_val hF (r_fieldAddr (off' := 1) Tryz.underlying60 rfl in3 rfl hF rfl rfl rfl) rfl rfl rfl fun a hF => ?_
  refine s_eff0 rfl rfl (w_store1 Tryz.sizeOf3 (hM.obj (i := 1) rfl) hF rfl rfl rfl rfl (by rw [RMark.len]; decide) (RMark.s_next _ _) fun w hU2316 => ?_)
  have hM := hM.chg hU2316 (i := 1) rfl
  replace hM : MemL _ (pt b0 (RCursor.enc (RCursor.mk s2314 y2313.2.at_ y2313.2.place y2313.2.e)) 184 :: pt b_B123_4 (RMark.enc (RMark.mk y2308.1 y2313.1 false SV.nil SV.nil SV.nil SV.nil)) 60 :: pt b_B123_2 (RMark.enc (RMark.mk 0 0 false SV.nil SV.nil SV.nil SV.nil)) 60 :: Lr) := hM
  refine c_nil (n_then ?_)
  refine c_seq ?_
  refine c_region ?_
  refine s_val hF (r_move hF rfl rfl) rfl rfl rfl fun a hF => ?_
  obtain ⟨y2318, hy2318, hP⟩ := bind_some hP
  refine s_eff hF rfl rfl rfl (w_call (xs := [.tmp 24, .const (.int .i64 (1)), .const (.int .i64 (1))]) Tryz.call122 hF rfl rfl (ref23_cursor_most_calls hy2318 hM (Bf := Bf) (fun w hM => hsub _ (dropM hM 2)) f2315) fun v w hR => ?_)
  obtain ⟨s2319, rfl, f2320, hM⟩ := hR
  replace hM : MemL _ (pt b0 (RCursor.enc (RCursor.mk s2319 y2318.2.at_ y2318.2.place y2318.2.e)) 184 :: pt b_B123_4 (RMark.enc (RMark.mk y2308.1 y2313.1 false SV.nil SV.nil SV.nil SV.nil)) 60 :: pt b_B123_2 (RMark.enc (RMark.mk 0 0 false SV.nil SV.nil SV.nil SV.nil)) 60 :: Lr) := hM
  intro a hF
  refine s_val hF (r_eql hF rfl rfl rfl) rfl rfl rfl fun a hF => ?_
  refine s_val hF (r_fieldAddr (off' := 2) Tryz.underlying60 rfl in4 rfl hF rfl rfl rfl) rfl rfl rfl fun a hF => ?_
  refine s_eff0 rfl rfl (w_store1 Tryz.sizeOf4 (hM.obj (i := 1) rfl) hF rfl rfl rfl rfl (by rw [RMark.len]; decide) (RMark.s_done _ _) fun w hU2321 => ?_)
  have hM := hM.chg hU2321 (i := 1) rfl
  replace hM : MemL _ (pt b0 (RCursor.enc (RCursor.mk s2319 y2318.2.at_ y2318.2.place y2318.2.e)) 184 :: pt b_B123_4 (RMark.enc (RMark.mk y2308.1 y2313.1 (decide (y2318.1 = 1)) SV.nil SV.nil SV.nil SV.nil)) 60 :: pt b_B123_2 (RMark.enc (RMark.mk 0 0 false SV.nil SV.nil SV.nil SV.nil)) 60 :: Lr) := hM
  refine c_nil (n_then ?_)
  refine c_seq ?_
  refine c_region ?_
  refine s_val hF (r_move hF rfl rfl) rfl rfl rfl fun a hF => ?_
  obtain ⟨y2323, hy2323, hP⟩ := bind_some hP
  refine s_eff hF rfl rfl rfl (w_call (xs := [.tmp 28, .const (.int .i64 (1))]) Tryz.call121 hF rfl rfl (ref23_cursor_number_calls hy2323 hM (Bf := Bf) (fun w hM => hsub _ (dropM hM 2)) f2320) fun v w hR => ?_)
  obtain ⟨s2324, rfl, f2325, hM⟩ := hR
  replace hM : MemL _ (pt b0 (RCursor.enc (RCursor.mk s2324 y2323.2.at_ y2323.2.place y2323.2.e)) 184 :: pt b_B123_4 (RMark.enc (RMark.mk y2308.1 y2313.1 (decide (y2318.1 = 1)) SV.nil SV.nil SV.nil SV.nil)) 60 :: pt b_B123_2 (RMark.enc (RMark.mk 0 0 false SV.nil SV.nil SV.nil SV.nil)) 60 :: Lr) := hM
  intro a hF
  refine s_val hF (r_assign hF rfl rfl) rfl rfl rfl fun a hF => ?_
  refine c_nil (n_then ?_)
  refine c_seq ?_
  refine c_joinX hF hM hP (fun F x a w => match x with | (v2636, v2639) => ∃ (s2637 : SV) (s2640 : SV), LIn Bf s2640 v2639.b ∧ Fr 158 [(0, .pointer (some ⟨b0, 0, none⟩)), (2, .pointer (some ⟨b_B123_2, 0, none⟩)), (3, .int .i64 x0.at_), (4, .pointer (some ⟨b_B123_4, 0, none⟩))] a ∧ MemL w (pt b_B123_4 (RMark.enc (RMark.mk y2308.1 y2313.1 (decide (y2318.1 = 1)) s2637 SV.nil SV.nil SV.nil)) 60 :: rowL 0 s2637 128 v2636 :: pt b0 (RCursor.enc (RCursor.mk s2640 v2639.at_ v2639.place v2639.e)) 184 :: pt b_B123_2 (RMark.enc (RMark.mk 0 0 false SV.nil SV.nil SV.nil SV.nil)) 60 :: Lr)) (fun o_j1 hP hK_j1 hF hM => ?_) ?_
  · refine c_seq ?_
    refine c_region ?_
    refine s_val hF (r_assign hF rfl rfl) rfl rfl rfl fun a hF => ?_
    refine c_nil (n_then ?_)
    refine c_block ?_
    have hM := hM.rowNil (X := LTurn) 0 128
    refine c_loopX hF hM hP (fun F x a w => match x with | (v2743, v2746, v2749) => ∃ (s2744 : SV) (s2747 : SV), LIn Bf s2747 v2746.b ∧ Fr 158 [(6, .int .i64 v2749), (0, .pointer (some ⟨b0, 0, none⟩)), (2, .pointer (some ⟨b_B123_2, 0, none⟩)), (3, .int .i64 x0.at_), (4, .pointer (some ⟨b_B123_4, 0, none⟩)), (5, .int .i64 y2323.1)] a ∧ MemL w (pt b_B123_4 (RMark.enc (RMark.mk y2308.1 y2313.1 (decide (y2318.1 = 1)) s2744 SV.nil SV.nil SV.nil)) 60 :: rowL 0 s2744 128 v2743 :: pt b0 (RCursor.enc (RCursor.mk s2747 v2746.at_ v2746.place v2746.e)) 184 :: pt b_B123_2 (RMark.enc (RMark.mk 0 0 false SV.nil SV.nil SV.nil SV.nil)) 60 :: Lr)) (fun hF hM => ⟨SV.nil, s2324, f2325, hF.to ⟨rfl, rfl, rfl, rfl, rfl, rfl, trivial⟩, selM hM [2, 0, 1, 3] 4 rfl⟩) ?_
    rintro ⟨v2743, v2746, v2749⟩ a w o_l2 hP hK_l2 ⟨s2744, s2747, f2748, hF, hM⟩
    replace hP : Sh.ref23_cursor_mark_l2 y2323 v2743 v2746 v2749 = _ := hP
    unfold Sh.ref23_cursor_mark_l2 at hP
    refine c_seq ?_
    refine c_seq ?_
    refine c_joinX hF hM hP (fun F x a w => match x with | v2758 => Fr 158 [(39, .bool v2758), (0, .pointer (some ⟨b0, 0, none⟩)), (2, .pointer (some ⟨b_B123_2, 0, none⟩)), (3, .int .i64 x0.at_), (4, .pointer (some ⟨b_B123_4, 0, none⟩)), (5, .int .i64 y2323.1), (6, .int .i64 v2749)] a ∧ MemL w (pt b_B123_4 (RMark.enc (RMark.mk y2308.1 y2313.1 (decide (y2318.1 = 1)) s2744 SV.nil SV.nil SV.nil)) 60 :: pt b0 (RCursor.enc (RCursor.mk s2747 v2746.at_ v2746.place v2746.e)) 184 :: pt b_B123_2 (RMark.enc (RMark.mk 0 0 false SV.nil SV.nil SV.nil SV.nil)) 60 :: rowL 0 s2744 128 v2743 :: Lr)) (fun o_j3 hP hK_j3 hF hM => ?_) ?_
    · refine c_region ?_
      refine s_val hF (r_move hF rfl rfl) rfl rfl rfl fun a hF => ?_
      refine s_val hF (r_move hF rfl rfl) rfl rfl rfl fun a hF => ?_
      refine s_val hF (r_lss hF rfl rfl rfl) rfl rfl rfl fun a hF => ?_
      refine s_val hF (r_move hF rfl rfl) rfl rfl rfl fun a hF => ?_
      refine g_split 33 hF rfl (fun hb2759 => ?_) (fun hb2759 => ?_)
      · have hP := Fx.cT hb2759 hP
        refine g_val hF rfl rfl rfl hb2759 (r_move hF rfl rfl) rfl rfl fun a hF => ?_
        refine g_val hF rfl rfl rfl hb2759 (r_nilCheckP hF rfl rfl) rfl rfl fun a hF => ?_
        refine g_val hF rfl rfl rfl hb2759 (r_fieldAddr (off' := 3) Tryz.underlying184 rfl in3 rfl hF rfl rfl rfl) rfl rfl fun a hF => ?_
        refine g_val hF rfl rfl rfl hb2759 (r_load1 Tryz.isAgg3 hF rfl rfl (hM.cell (i := 2) rfl (RCursor.g_e _))) rfl rfl fun a hF => ?_
        refine g_val hF rfl rfl rfl hb2759 (r_eql hF rfl rfl rfl) rfl rfl fun a hF => ?_
        refine s_val hF (r_pick1 hF rfl rfl hb2759 rfl) rfl rfl rfl fun a hF => ?_
        refine c_nil (n_then ?_)
        have hP := Option.some.inj hP
        subst hP
        exact ⟨(decide (v2746.e = 0)), rfl, hF.to ⟨rfl, rfl, rfl, rfl, rfl, rfl, rfl, trivial⟩, selM hM [0, 2, 3, 1] 4 rfl⟩
      have hP := Fx.cF hb2759 hP
      refine g_skip hF rfl rfl rfl hb2759 rfl rfl fun a hF => ?_
      refine g_skip hF rfl rfl rfl hb2759 rfl rfl fun a hF => ?_
      refine g_skip hF rfl rfl rfl hb2759 rfl rfl fun a hF => ?_
      refine g_skip hF rfl rfl rfl hb2759 rfl rfl fun a hF => ?_
      refine g_skip hF rfl rfl rfl hb2759 rfl rfl fun a hF => ?_
      refine s_val hF (r_pick0 hF rfl rfl hb2759 rfl) rfl rfl rfl fun a hF => ?_
      refine c_nil (n_then ?_)
      have hP := Option.some.inj hP
      subst hP
      exact ⟨false, rfl, hF.to ⟨rfl, rfl, rfl, rfl, rfl, rfl, rfl, trivial⟩, selM hM [0, 2, 3, 1] 4 rfl⟩
    rintro v2758 a w hP ⟨hF, hM⟩
    replace hP : Sh.ref23_cursor_mark_j3 v2743 v2746 v2749 v2758 = _ := hP
    unfold Sh.ref23_cursor_mark_j3 at hP
    refine n_then ?_
    refine c_cond hF (c := .tmp 39) rfl (fun hb2760 => ?_) (fun hb2760 => ?_)
    · have hP := Fx.cT hb2760 hP
      refine c_skip (n_then ?_)
      refine c_seq ?_
      refine c_block ?_
      refine c_seq ?_
      refine c_region ?_
      refine s_val hF (r_move hF rfl rfl) rfl rfl rfl fun a hF => ?_
      obtain ⟨y2780, hy2780, hP⟩ := bind_some hP
      refine s_eff hF rfl rfl rfl (w_call (xs := [.tmp 42, .const (.int .i64 (1))]) Tryz.call121 hF rfl rfl (ref23_cursor_number_calls hy2780 (selM hM [1, 0, 2, 3] 4 rfl) (Bf := Bf) (fun w hM => hsub _ (dropM hM 3)) f2748) fun v w hR => ?_)
      obtain ⟨s2781, rfl, f2782, hM⟩ := hR
      replace hM : MemL _ (pt b0 (RCursor.enc (RCursor.mk s2781 y2780.2.at_ y2780.2.place y2780.2.e)) 184 :: pt b_B123_4 (RMark.enc (RMark.mk y2308.1 y2313.1 (decide (y2318.1 = 1)) s2744 SV.nil SV.nil SV.nil)) 60 :: pt b_B123_2 (RMark.enc (RMark.mk 0 0 false SV.nil SV.nil SV.nil SV.nil)) 60 :: rowL 0 s2744 128 v2743 :: Lr) := hM
      intro a hF
      refine s_val hF (r_build z128 Tryz.underlying128 pl128 hF (parts := [(0, .tmp 43)]) rfl rfl (fill_s rfl rfl (by rw [LTurn.len]; decide) (LTurn.s_reg _ _) fill_e)) rfl rfl rfl fun a hF => ?_
      refine s_eff hF rfl rfl rfl (w_alloc z128 (zs := LTurn.zero.enc) rfl rfl fun b_B123_7 w hzB123_7 hAB123_7 => ?_)
      have hM := hM.plus hAB123_7
      replace hM : MemL _ (pt b_B123_7 (LTurn.enc LTurn.zero) 128 :: pt b0 (RCursor.enc (RCursor.mk s2781 y2780.2.at_ y2780.2.place y2780.2.e)) 184 :: pt b_B123_4 (RMark.enc (RMark.mk y2308.1 y2313.1 (decide (y2318.1 = 1)) s2744 SV.nil SV.nil SV.nil)) 60 :: pt b_B123_2 (RMark.enc (RMark.mk 0 0 false SV.nil SV.nil SV.nil SV.nil)) 60 :: rowL 0 s2744 128 v2743 :: Lr) := hM
      intro a hF
      refine s_eff0 rfl rfl (w_storen (vs := _) Tryz.sizeOf128 (hM.obj (i := 0) rfl) hF rfl rfl rfl rfl (LTurn.len _) (LTurn.one _) (by first | (rw [LTurn.len, LTurn.len]; decide) | (rw [LTurn.len]; decide)) (put_all ((LTurn.len _).trans (LTurn.len _).symm)) fun w hU2783 => ?_)
      have hM := hM.chg hU2783 (i := 0) rfl
      replace hM : MemL _ (pt b_B123_7 (LTurn.enc (LTurn.mk y2780.1 LVal.zero LVal.zero)) 128 :: pt b0 (RCursor.enc (RCursor.mk s2781 y2780.2.at_ y2780.2.place y2780.2.e)) 184 :: pt b_B123_4 (RMark.enc (RMark.mk y2308.1 y2313.1 (decide (y2318.1 = 1)) s2744 SV.nil SV.nil SV.nil)) 60 :: pt b_B123_2 (RMark.enc (RMark.mk 0 0 false SV.nil SV.nil SV.nil SV.nil)) 60 :: rowL 0 s2744 128 v2743 :: Lr) := hM
      refine c_nil (n_then ?_)
      refine c_seq ?_
      refine c_region ?_
      refine s_val hF (r_move hF rfl rfl) rfl rfl rfl fun a hF => ?_
      obtain ⟨y2785, hy2785, hP⟩ := bind_some hP
      refine s_eff hF rfl rfl rfl (w_call (xs := [.tmp 45]) Tryz.call190 hF rfl rfl (ref23_cursor_value_calls hy2785 (selM hM [1, 0, 2, 3, 4] 5 rfl) (Bf := Bf) (fun w hM => hsub _ (dropM hM 4)) f2782) fun v w hR => ?_)
      obtain ⟨s2786, rfl, f2787, hM⟩ := hR
      replace hM : MemL _ (pt b0 (RCursor.enc (RCursor.mk s2786 y2785.2.at_ y2785.2.place y2785.2.e)) 184 :: pt b_B123_7 (LTurn.enc (LTurn.mk y2780.1 LVal.zero LVal.zero)) 128 :: pt b_B123_4 (RMark.enc (RMark.mk y2308.1 y2313.1 (decide (y2318.1 = 1)) s2744 SV.nil SV.nil SV.nil)) 60 :: pt b_B123_2 (RMark.enc (RMark.mk 0 0 false SV.nil SV.nil SV.nil SV.nil)) 60 :: rowL 0 s2744 128 v2743 :: Lr) := hM
      intro a hF
      refine s_val hF (r_fieldAddr (off' := 1) Tryz.underlying128 rfl in46 rfl hF rfl rfl rfl) rfl rfl rfl fun a hF => ?_
      refine s_eff0 rfl rfl (w_storen (vs := _) Tryz.sizeOf46 (hM.obj (i := 1) rfl) hF rfl rfl rfl rfl (LVal.len _) (LVal.one _) (by rw [LVal.len, LTurn.len]; decide) (LTurn.p_old _ _) fun w hU2788 => ?_)
      have hM := hM.chg hU2788 (i := 1) rfl
      replace hM : MemL _ (pt b0 (RCursor.enc (RCursor.mk s2786 y2785.2.at_ y2785.2.place y2785.2.e)) 184 :: pt b_B123_7 (LTurn.enc (LTurn.mk y2780.1 y2785.1 LVal.zero)) 128 :: pt b_B123_4 (RMark.enc (RMark.mk y2308.1 y2313.1 (decide (y2318.1 = 1)) s2744 SV.nil SV.nil SV.nil)) 60 :: pt b_B123_2 (RMark.enc (RMark.mk 0 0 false SV.nil SV.nil SV.nil SV.nil)) 60 :: rowL 0 s2744 128 v2743 :: Lr) := hM
      refine c_nil (n_then ?_)
      refine c_seq ?_
      refine c_region ?_
      refine s_val hF (r_move hF rfl rfl) rfl rfl rfl fun a hF => ?_
      obtain ⟨y2790, hy2790, hP⟩ := bind_some hP
      refine s_eff hF rfl rfl rfl (w_call (xs := [.tmp 48]) Tryz.call190 hF rfl rfl (ref23_cursor_value_calls hy2790 hM (Bf := Bf) (fun w hM => hsub _ (dropM hM 4)) f2787) fun v w hR => ?_)
      obtain ⟨s2791, rfl, f2792, hM⟩ := hR
      replace hM : MemL _ (pt b0 (RCursor.enc (RCursor.mk s2791 y2790.2.at_ y2790.2.place y2790.2.e)) 184 :: pt b_B123_7 (LTurn.enc (LTurn.mk y2780.1 y2785.1 LVal.zero)) 128 :: pt b_B123_4 (RMark.enc (RMark.mk y2308.1 y2313.1 (decide (y2318.1 = 1)) s2744 SV.nil SV.nil SV.nil)) 60 :: pt b_B123_2 (RMark.enc (RMark.mk 0 0 false SV.nil SV.nil SV.nil SV.nil)) 60 :: rowL 0 s2744 128 v2743 :: Lr) := hM
      intro a hF
      refine s_val hF (r_fieldAddr (off' := 5) Tryz.underlying128 rfl in46 rfl hF rfl rfl rfl) rfl rfl rfl fun a hF => ?_
      refine s_eff0 rfl rfl (w_storen (vs := _) Tryz.sizeOf46 (hM.obj (i := 1) rfl) hF rfl rfl rfl rfl (LVal.len _) (LVal.one _) (by rw [LVal.len, LTurn.len]; decide) (LTurn.p_new _ _) fun w hU2793 => ?_)
      have hM := hM.chg hU2793 (i := 1) rfl
      replace hM : MemL _ (pt b0 (RCursor.enc (RCursor.mk s2791 y2790.2.at_ y2790.2.place y2790.2.e)) 184 :: pt b_B123_7 (LTurn.enc (LTurn.mk y2780.1 y2785.1 y2790.1)) 128 :: pt b_B123_4 (RMark.enc (RMark.mk y2308.1 y2313.1 (decide (y2318.1 = 1)) s2744 SV.nil SV.nil SV.nil)) 60 :: pt b_B123_2 (RMark.enc (RMark.mk 0 0 false SV.nil SV.nil SV.nil SV.nil)) 60 :: rowL 0 s2744 128 v2743 :: Lr) := hM
      refine c_nil (n_then ?_)
      refine c_region ?_
      refine s_val hF (r_fieldAddr (off' := 3) Tryz.underlying60 rfl in56 rfl hF rfl rfl rfl) rfl rfl rfl fun a hF => ?_
      refine s_val hF (r_load1 Tryz.isAgg56 hF rfl rfl (hM.cell (i := 2) rfl (RMark.g_regs _))) rfl rfl rfl fun a hF => ?_
      refine s_val hF (r_loadn Tryz.isAgg128 Tryz.sizeOf128 hF rfl rfl (LTurn.len _) (hM.cells (i := 1) rfl (cut_all (LTurn.len _)))) rfl rfl rfl fun a hF => ?_
      refine s_eff hF rfl rfl rfl (w_slice1 (X := LTurn) (y := (LTurn.mk y2780.1 y2785.1 y2790.1)) Tryz.underlying56 in128 rfl rfl rfl rfl hF rfl rfl rfl fun b_B123_54 w hzB123_54 hAB123_54 => ?_)
      have hM := hM.plus hAB123_54
      replace hM : MemL _ (pt b_B123_54 (encs ([(LTurn.mk y2780.1 y2785.1 y2790.1)] : List LTurn)) 128 :: pt b0 (RCursor.enc (RCursor.mk s2791 y2790.2.at_ y2790.2.place y2790.2.e)) 184 :: pt b_B123_7 (LTurn.enc (LTurn.mk y2780.1 y2785.1 y2790.1)) 128 :: pt b_B123_4 (RMark.enc (RMark.mk y2308.1 y2313.1 (decide (y2318.1 = 1)) s2744 SV.nil SV.nil SV.nil)) 60 :: pt b_B123_2 (RMark.enc (RMark.mk 0 0 false SV.nil SV.nil SV.nil SV.nil)) 60 :: rowL 0 s2744 128 v2743 :: Lr) := hM
      intro a hF
      obtain ⟨x2795, hx2795, hP⟩ := bind_some hP
      refine s_eff hF rfl rfl rfl (w_appX (X := LTurn) hx2795 Tryz.underlying56 in128 rfl rfl rfl rfl hF rfl rfl rfl (hM.own (X := LTurn) (i := 5) rfl) (hM.ptS (X := LTurn) (i := 0) (n := 1) (c := 1) rfl rfl rfl (Nat.le_refl _)) fun s2794 w hUs2794 => ?_)
      have hM := hM.chg hUs2794 (i := 5) rfl
      replace hM : MemL _ (pt b_B123_54 (encs ([(LTurn.mk y2780.1 y2785.1 y2790.1)] : List LTurn)) 128 :: pt b0 (RCursor.enc (RCursor.mk s2791 y2790.2.at_ y2790.2.place y2790.2.e)) 184 :: pt b_B123_7 (LTurn.enc (LTurn.mk y2780.1 y2785.1 y2790.1)) 128 :: pt b_B123_4 (RMark.enc (RMark.mk y2308.1 y2313.1 (decide (y2318.1 = 1)) s2744 SV.nil SV.nil SV.nil)) 60 :: pt b_B123_2 (RMark.enc (RMark.mk 0 0 false SV.nil SV.nil SV.nil SV.nil)) 60 :: rowL 0 s2794 128 x2795 :: Lr) := hM
      intro a hF
      refine s_val hF (r_fieldAddr (off' := 3) Tryz.underlying60 rfl in56 rfl hF rfl rfl rfl) rfl rfl rfl fun a hF => ?_
      refine s_eff0 rfl rfl (w_store1 Tryz.sizeOf56 (hM.obj (i := 3) rfl) hF rfl rfl rfl rfl (by rw [RMark.len]; decide) (RMark.s_regs _ _) fun w hU2796 => ?_)
      have hM := hM.chg hU2796 (i := 3) rfl
      replace hM : MemL _ (pt b_B123_54 (encs ([(LTurn.mk y2780.1 y2785.1 y2790.1)] : List LTurn)) 128 :: pt b0 (RCursor.enc (RCursor.mk s2791 y2790.2.at_ y2790.2.place y2790.2.e)) 184 :: pt b_B123_7 (LTurn.enc (LTurn.mk y2780.1 y2785.1 y2790.1)) 128 :: pt b_B123_4 (RMark.enc (RMark.mk y2308.1 y2313.1 (decide (y2318.1 = 1)) s2794 SV.nil SV.nil SV.nil)) 60 :: pt b_B123_2 (RMark.enc (RMark.mk 0 0 false SV.nil SV.nil SV.nil SV.nil)) 60 :: rowL 0 s2794 128 x2795 :: Lr) := hM
      refine c_nil (n_block (n_then ?_))
      refine c_region ?_
      refine s_val hF (r_move hF rfl rfl) rfl rfl rfl fun a hF => ?_
      refine s_val hF (r_add hF rfl rfl rfl) rfl rfl rfl fun a hF => ?_
      refine s_val hF (r_assign hF rfl rfl) rfl rfl rfl fun a hF => ?_
      refine c_nil (n_then ?_)
      have hP := Option.some.inj hP
      subst hP
      exact ⟨(x2795, y2790.2, (IntKind.i64.wrap (v2749 + 1))), rfl, s2794, s2791, f2792, hF.to ⟨rfl, rfl, rfl, rfl, rfl, rfl, trivial⟩, selM hM [3, 5, 1, 4] 6 rfl⟩
    have hP := Fx.cF hb2760 hP
    refine c_exit (x_then (x_then (x_hit ?_)))
    refine n_then ?_
    have hP := Option.some.inj hP
    subst hP
    have hP := hK_l2 _ rfl
    subst hP
    exact ⟨(v2743, v2746), rfl, s2744, s2747, f2748, hF.to ⟨rfl, rfl, rfl, rfl, trivial⟩, selM hM [0, 3, 1, 2] 4 rfl⟩
  rintro ⟨v2636, v2639⟩ a w hP ⟨s2637, s2640, f2641, hF, hM⟩
  replace hP : Sh.ref23_cursor_mark_j1 x0 y2308 y2313 y2318 v2636 v2639 = _ := hP
  unfold Sh.ref23_cursor_mark_j1 at hP
  refine n_then ?_
  refine c_seq ?_
  refine c_region ?_
  refine s_val hF (r_move hF rfl rfl) rfl rfl rfl fun a hF => ?_
  obtain ⟨y2798, hy2798, hP⟩ := bind_some hP
  refine s_eff hF rfl rfl rfl (w_call (xs := [.tmp 57, .const (.int .i64 (1))]) Tryz.call121 hF rfl rfl (ref23_cursor_number_calls hy2798 (selM hM [2, 0, 1, 3] 4 rfl) (Bf := Bf) (fun w hM => hsub _ (dropM hM 3)) f2641) fun v w hR => ?_)
  obtain ⟨s2799, rfl, f2800, hM⟩ := hR
  replace hM : MemL _ (pt b0 (RCursor.enc (RCursor.mk s2799 y2798.2.at_ y2798.2.place y2798.2.e)) 184 :: pt b_B123_4 (RMark.enc (RMark.mk y2308.1 y2313.1 (decide (y2318.1 = 1)) s2637 SV.nil SV.nil SV.nil)) 60 :: rowL 0 s2637 128 v2636 :: pt b_B123_2 (RMark.enc (RMark.mk 0 0 false SV.nil SV.nil SV.nil SV.nil)) 60 :: Lr) := hM
  intro a hF
  refine s_val hF (r_assign hF rfl rfl) rfl rfl rfl fun a hF => ?_
  refine c_nil (n_then ?_)
  refine c_seq ?_
  refine c_joinX hF hM hP (fun F x a w => match x with | (v3123, v3126, v3129) => ∃ (s3124 : SV) (s3127 : SV) (s3130 : SV), LIn Bf s3130 v3129.b ∧ Fr 158 [(0, .pointer (some ⟨b0, 0, none⟩)), (2, .pointer (some ⟨b_B123_2, 0, none⟩)), (3, .int .i64 x0.at_), (4, .pointer (some ⟨b_B123_4, 0, none⟩))] a ∧ MemL w (pt b_B123_4 (RMark.enc (RMark.mk y2308.1 y2313.1 (decide (y2318.1 = 1)) s3124 s3127 SV.nil SV.nil)) 60 :: rowL 0 s3124 128 v3123 :: rowL 0 s3127 151 v3126 :: pt b0 (RCursor.enc (RCursor.mk s3130 v3129.at_ v3129.place v3129.e)) 184 :: pt b_B123_2 (RMark.enc (RMark.mk 0 0 false SV.nil SV.nil SV.nil SV.nil)) 60 :: Lr)) (fun o_j4 hP hK_j4 hF hM => ?_) ?_
  · refine c_seq ?_
    refine c_region ?_
    refine s_val hF (r_assign hF rfl rfl) rfl rfl rfl fun a hF => ?_
    refine c_nil (n_then ?_)
    refine c_block ?_
    have hM := hM.rowNil (X := LCell) 0 151
    refine c_loopX hF hM hP (fun F x a w => match x with | (v3236, v3239, v3242, v3245) => ∃ (s3237 : SV) (s3240 : SV) (s3243 : SV), LIn Bf s3243 v3242.b ∧ Fr 158 [(8, .int .i64 v3245), (0, .pointer (some ⟨b0, 0, none⟩)), (2, .pointer (some ⟨b_B123_2, 0, none⟩)), (3, .int .i64 x0.at_), (4, .pointer (some ⟨b_B123_4, 0, none⟩)), (5, .int .i64 y2798.1)] a ∧ MemL w (pt b_B123_4 (RMark.enc (RMark.mk y2308.1 y2313.1 (decide (y2318.1 = 1)) s3237 s3240 SV.nil SV.nil)) 60 :: rowL 0 s3237 128 v3236 :: rowL 0 s3240 151 v3239 :: pt b0 (RCursor.enc (RCursor.mk s3243 v3242.at_ v3242.place v3242.e)) 184 :: pt b_B123_2 (RMark.enc (RMark.mk 0 0 false SV.nil SV.nil SV.nil SV.nil)) 60 :: Lr)) (fun hF hM => ⟨s2637, SV.nil, s2799, f2800, hF.to ⟨rfl, rfl, rfl, rfl, rfl, rfl, trivial⟩, selM hM [2, 3, 0, 1, 4] 5 rfl⟩) ?_
    rintro ⟨v3236, v3239, v3242, v3245⟩ a w o_l5 hP hK_l5 ⟨s3237, s3240, s3243, f3244, hF, hM⟩
    replace hP : Sh.ref23_cursor_mark_l5 y2798 v3236 v3239 v3242 v3245 = _ := hP
    unfold Sh.ref23_cursor_mark_l5 at hP
    refine c_seq ?_
    refine c_seq ?_
    refine c_joinX hF hM hP (fun F x a w => match x with | v3254 => Fr 158 [(68, .bool v3254), (0, .pointer (some ⟨b0, 0, none⟩)), (2, .pointer (some ⟨b_B123_2, 0, none⟩)), (3, .int .i64 x0.at_), (4, .pointer (some ⟨b_B123_4, 0, none⟩)), (5, .int .i64 y2798.1), (8, .int .i64 v3245)] a ∧ MemL w (pt b_B123_4 (RMark.enc (RMark.mk y2308.1 y2313.1 (decide (y2318.1 = 1)) s3237 s3240 SV.nil SV.nil)) 60 :: pt b0 (RCursor.enc (RCursor.mk s3243 v3242.at_ v3242.place v3242.e)) 184 :: pt b_B123_2 (RMark.enc (RMark.mk 0 0 false SV.nil SV.nil SV.nil SV.nil)) 60 :: rowL 0 s3237 128 v3236 :: rowL 0 s3240 151 v3239 :: Lr)) (fun o_j6 hP hK_j6 hF hM => ?_) ?_
    · refine c_region ?_
      refine s_val hF (r_move hF rfl rfl) rfl rfl rfl fun a hF => ?_
      refine s_val hF (r_move hF rfl rfl) rfl rfl rfl fun a hF => ?_
      refine s_val hF (r_lss hF rfl rfl rfl) rfl rfl rfl fun a hF => ?_
      refine s_val hF (r_move hF rfl rfl) rfl rfl rfl fun a hF => ?_
      refine g_split 62 hF rfl (fun hb3255 => ?_) (fun hb3255 => ?_)
      · have hP := Fx.cT hb3255 hP
        refine g_val hF rfl rfl rfl hb3255 (r_move hF rfl rfl) rfl rfl fun a hF => ?_
        refine g_val hF rfl rfl rfl hb3255 (r_nilCheckP hF rfl rfl) rfl rfl fun a hF => ?_
        refine g_val hF rfl rfl rfl hb3255 (r_fieldAddr (off' := 3) Tryz.underlying184 rfl in3 rfl hF rfl rfl rfl) rfl rfl fun a hF => ?_
        refine g_val hF rfl rfl rfl hb3255 (r_load1 Tryz.isAgg3 hF rfl rfl (hM.cell (i := 3) rfl (RCursor.g_e _))) rfl rfl fun a hF => ?_
        refine g_val hF rfl rfl rfl hb3255 (r_eql hF rfl rfl rfl) rfl rfl fun a hF => ?_
        refine s_val hF (r_pick1 hF rfl rfl hb3255 rfl) rfl rfl rfl fun a hF => ?_
        refine c_nil (n_then ?_)
        have hP := Option.some.inj hP
        subst hP
        exact ⟨(decide (v3242.e = 0)), rfl, hF.to ⟨rfl, rfl, rfl, rfl, rfl, rfl, rfl, trivial⟩, selM hM [0, 3, 4, 1, 2] 5 rfl⟩
      have hP := Fx.cF hb3255 hP
      refine g_skip hF rfl rfl rfl hb3255 rfl rfl fun a hF => ?_
      refine g_skip hF rfl rfl rfl hb3255 rfl rfl fun a hF => ?_
      refine g_skip hF rfl rfl rfl hb3255 rfl rfl fun a hF => ?_
      refine g_skip hF rfl rfl rfl hb3255 rfl rfl fun a hF => ?_
      refine g_skip hF rfl rfl rfl hb3255 rfl rfl fun a hF => ?_
      refine s_val hF (r_pick0 hF rfl rfl hb3255 rfl) rfl rfl rfl fun a hF => ?_
      refine c_nil (n_then ?_)
      have hP := Option.some.inj hP
      subst hP
      exact ⟨false, rfl, hF.to ⟨rfl, rfl, rfl, rfl, rfl, rfl, rfl, trivial⟩, selM hM [0, 3, 4, 1, 2] 5 rfl⟩
    rintro v3254 a w hP ⟨hF, hM⟩
    replace hP : Sh.ref23_cursor_mark_j6 v3236 v3239 v3242 v3245 v3254 = _ := hP
    unfold Sh.ref23_cursor_mark_j6 at hP
    refine n_then ?_
    refine c_cond hF (c := .tmp 68) rfl (fun hb3256 => ?_) (fun hb3256 => ?_)
    · have hP := Fx.cT hb3256 hP
      refine c_skip (n_then ?_)
      refine c_seq ?_
      refine c_block ?_
      refine c_seq ?_
      refine c_region ?_
      refine s_val hF (r_move hF rfl rfl) rfl rfl rfl fun a hF => ?_
      obtain ⟨y3276, hy3276, hP⟩ := bind_some hP
      refine s_eff hF rfl rfl rfl (w_call (xs := [.tmp 71, .const (.int .i64 (1))]) Tryz.call121 hF rfl rfl (ref23_cursor_number_calls hy3276 (selM hM [1, 0, 2, 3, 4] 5 rfl) (Bf := Bf) (fun w hM => hsub _ (dropM hM 4)) f3244) fun v w hR => ?_)
      obtain ⟨s3277, rfl, f3278, hM⟩ := hR
      replace hM : MemL _ (pt b0 (RCursor.enc (RCursor.mk s3277 y3276.2.at_ y3276.2.place y3276.2.e)) 184 :: pt b_B123_4 (RMark.enc (RMark.mk y2308.1 y2313.1 (decide (y2318.1 = 1)) s3237 s3240 SV.nil SV.nil)) 60 :: pt b_B123_2 (RMark.enc (RMark.mk 0 0 false SV.nil SV.nil SV.nil SV.nil)) 60 :: rowL 0 s3237 128 v3236 :: rowL 0 s3240 151 v3239 :: Lr) := hM
      intro a hF
      refine s_val hF (r_build z151 Tryz.underlying151 pl151 hF (parts := [(0, .tmp 72)]) rfl rfl (fill_s rfl rfl (by rw [LCell.len]; decide) (LCell.s_slot _ _) fill_e)) rfl rfl rfl fun a hF => ?_
      refine s_eff hF rfl rfl rfl (w_alloc z151 (zs := LCell.zero.enc) rfl rfl fun b_B123_9 w hzB123_9 hAB123_9 => ?_)
      have hM := hM.plus hAB123_9
      replace hM : MemL _ (pt b_B123_9 (LCell.enc LCell.zero) 151 :: pt b0 (RCursor.enc (RCursor.mk s3277 y3276.2.at_ y3276.2.place y3276.2.e)) 184 :: pt b_B123_4 (RMark.enc (RMark.mk y2308.1 y2313.1 (decide (y2318.1 = 1)) s3237 s3240 SV.nil SV.nil)) 60 :: pt b_B123_2 (RMark.enc (RMark.mk 0 0 false SV.nil SV.nil SV.nil SV.nil)) 60 :: rowL 0 s3237 128 v3236 :: rowL 0 s3240 151 v3239 :: Lr) := hM
      intro a hF
      refine s_eff0 rfl rfl (w_storen (vs := _) Tryz.sizeOf151 (hM.obj (i := 0) rfl) hF rfl rfl rfl rfl (LCell.len _) (LCell.one _) (by first | (rw [LCell.len, LCell.len]; decide) | (rw [LCell.len]; decide)) (put_all ((LCell.len _).trans (LCell.len _).symm)) fun w hU3279 => ?_)
      have hM := hM.chg hU3279 (i := 0) rfl
      replace hM : MemL _ (pt b_B123_9 (LCell.enc (LCell.mk y3276.1 LSlot.zero LSlot.zero)) 151 :: pt b0 (RCursor.enc (RCursor.mk s3277 y3276.2.at_ y3276.2.place y3276.2.e)) 184 :: pt b_B123_4 (RMark.enc (RMark.mk y2308.1 y2313.1 (decide (y2318.1 = 1)) s3237 s3240 SV.nil SV.nil)) 60 :: pt b_B123_2 (RMark.enc (RMark.mk 0 0 false SV.nil SV.nil SV.nil SV.nil)) 60 :: rowL 0 s3237 128 v3236 :: rowL 0 s3240 151 v3239 :: Lr) := hM
      refine c_nil (n_then ?_)
      refine c_seq ?_
      refine c_region ?_
      refine s_val hF (r_move hF rfl rfl) rfl rfl rfl fun a hF => ?_
      obtain ⟨y3281, hy3281, hP⟩ := bind_some hP
      refine s_eff hF rfl rfl rfl (w_call (xs := [.tmp 74]) Tryz.call191 hF rfl rfl (ref23_cursor_slot_calls hy3281 (selM hM [1, 0, 2, 3, 4, 5] 6 rfl) (Bf := Bf) (fun w hM => hsub _ (dropM hM 5)) f3278) fun v w hR => ?_)
      obtain ⟨s3282, rfl, f3283, hM⟩ := hR
      replace hM : MemL _ (pt b0 (RCursor.enc (RCursor.mk s3282 y3281.2.at_ y3281.2.place y3281.2.e)) 184 :: pt b_B123_9 (LCell.enc (LCell.mk y3276.1 LSlot.zero LSlot.zero)) 151 :: pt b_B123_4 (RMark.enc (RMark.mk y2308.1 y2313.1 (decide (y2318.1 = 1)) s3237 s3240 SV.nil SV.nil)) 60 :: pt b_B123_2 (RMark.enc (RMark.mk 0 0 false SV.nil SV.nil SV.nil SV.nil)) 60 :: rowL 0 s3237 128 v3236 :: rowL 0 s3240 151 v3239 :: Lr) := hM
      intro a hF
      refine s_val hF (r_fieldAddr (off' := 1) Tryz.underlying151 rfl in50 rfl hF rfl rfl rfl) rfl rfl rfl fun a hF => ?_
      refine s_eff0 rfl rfl (w_storen (vs := _) Tryz.sizeOf50 (hM.obj (i := 1) rfl) hF rfl rfl rfl rfl (LSlot.len _) (LSlot.one _) (by rw [LSlot.len, LCell.len]; decide) (LCell.p_old _ _) fun w hU3284 => ?_)
      have hM := hM.chg hU3284 (i := 1) rfl
      replace hM : MemL _ (pt b0 (RCursor.enc (RCursor.mk s3282 y3281.2.at_ y3281.2.place y3281.2.e)) 184 :: pt b_B123_9 (LCell.enc (LCell.mk y3276.1 y3281.1 LSlot.zero)) 151 :: pt b_B123_4 (RMark.enc (RMark.mk y2308.1 y2313.1 (decide (y2318.1 = 1)) s3237 s3240 SV.nil SV.nil)) 60 :: pt b_B123_2 (RMark.enc (RMark.mk 0 0 false SV.nil SV.nil SV.nil SV.nil)) 60 :: rowL 0 s3237 128 v3236 :: rowL 0 s3240 151 v3239 :: Lr) := hM
      refine c_nil (n_then ?_)
      refine c_seq ?_
      refine c_region ?_
      refine s_val hF (r_move hF rfl rfl) rfl rfl rfl fun a hF => ?_
      obtain ⟨y3286, hy3286, hP⟩ := bind_some hP
      refine s_eff hF rfl rfl rfl (w_call (xs := [.tmp 77]) Tryz.call191 hF rfl rfl (ref23_cursor_slot_calls hy3286 hM (Bf := Bf) (fun w hM => hsub _ (dropM hM 5)) f3283) fun v w hR => ?_)
      obtain ⟨s3287, rfl, f3288, hM⟩ := hR
      replace hM : MemL _ (pt b0 (RCursor.enc (RCursor.mk s3287 y3286.2.at_ y3286.2.place y3286.2.e)) 184 :: pt b_B123_9 (LCell.enc (LCell.mk y3276.1 y3281.1 LSlot.zero)) 151 :: pt b_B123_4 (RMark.enc (RMark.mk y2308.1 y2313.1 (decide (y2318.1 = 1)) s3237 s3240 SV.nil SV.nil)) 60 :: pt b_B123_2 (RMark.enc (RMark.mk 0 0 false SV.nil SV.nil SV.nil SV.nil)) 60 :: rowL 0 s3237 128 v3236 :: rowL 0 s3240 151 v3239 :: Lr) := hM
      intro a hF
      refine s_val hF (r_fieldAddr (off' := 14) Tryz.underlying151 rfl in50 rfl hF rfl rfl rfl) rfl rfl rfl fun a hF => ?_
      refine s_eff0 rfl rfl (w_storen (vs := _) Tryz.sizeOf50 (hM.obj (i := 1) rfl) hF rfl rfl rfl rfl (LSlot.len _) (LSlot.one _) (by rw [LSlot.len, LCell.len]; decide) (LCell.p_new _ _) fun w hU3289 => ?_)
      have hM := hM.chg hU3289 (i := 1) rfl
      replace hM : MemL _ (pt b0 (RCursor.enc (RCursor.mk s3287 y3286.2.at_ y3286.2.place y3286.2.e)) 184 :: pt b_B123_9 (LCell.enc (LCell.mk y3276.1 y3281.1 y3286.1)) 151 :: pt b_B123_4 (RMark.enc (RMark.mk y2308.1 y2313.1 (decide (y2318.1 = 1)) s3237 s3240 SV.nil SV.nil)) 60 :: pt b_B123_2 (RMark.enc (RMark.mk 0 0 false SV.nil SV.nil SV.nil SV.nil)) 60 :: rowL 0 s3237 128 v3236 :: rowL 0 s3240 151 v3239 :: Lr) := hM
      refine c_nil (n_then ?_)
      refine c_region ?_
      refine s_val hF (r_fieldAddr (off' := 4) Tryz.underlying60 rfl in57 rfl hF rfl rfl rfl) rfl rfl rfl fun a hF => ?_
      refine s_val hF (r_load1 Tryz.isAgg57 hF rfl rfl (hM.cell (i := 2) rfl (RMark.g_slots _))) rfl rfl rfl fun a hF => ?_
      refine s_val hF (r_loadn Tryz.isAgg151 Tryz.sizeOf151 hF rfl rfl (LCell.len _) (hM.cells (i := 1) rfl (cut_all (LCell.len _)))) rfl rfl rfl fun a hF => ?_
      refine s_eff hF rfl rfl rfl (w_slice1 (X := LCell) (y := (LCell.mk y3276.1 y3281.1 y3286.1)) Tryz.underlying57 in151 rfl rfl rfl rfl hF rfl rfl rfl fun b_B123_83 w hzB123_83 hAB123_83 => ?_)
      have hM := hM.plus hAB123_83
      replace hM : MemL _ (pt b_B123_83 (encs ([(LCell.mk y3276.1 y3281.1 y3286.1)] : List LCell)) 151 :: pt b0 (RCursor.enc (RCursor.mk s3287 y3286.2.at_ y3286.2.place y3286.2.e)) 184 :: pt b_B123_9 (LCell.enc (LCell.mk y3276.1 y3281.1 y3286.1)) 151 :: pt b_B123_4 (RMark.enc (RMark.mk y2308.1 y2313.1 (decide (y2318.1 = 1)) s3237 s3240 SV.nil SV.nil)) 60 :: pt b_B123_2 (RMark.enc (RMark.mk 0 0 false SV.nil SV.nil SV.nil SV.nil)) 60 :: rowL 0 s3237 128 v3236 :: rowL 0 s3240 151 v3239 :: Lr) := hM
      intro a hF
      obtain ⟨x3291, hx3291, hP⟩ := bind_some hP
      refine s_eff hF rfl rfl rfl (w_appX (X := LCell) hx3291 Tryz.underlying57 in151 rfl rfl rfl rfl hF rfl rfl rfl (hM.own (X := LCell) (i := 6) rfl) (hM.ptS (X := LCell) (i := 0) (n := 1) (c := 1) rfl rfl rfl (Nat.le_refl _)) fun s3290 w hUs3290 => ?_)
      have hM := hM.chg hUs3290 (i := 6) rfl
      replace hM : MemL _ (pt b_B123_83 (encs ([(LCell.mk y3276.1 y3281.1 y3286.1)] : List LCell)) 151 :: pt b0 (RCursor.enc (RCursor.mk s3287 y3286.2.at_ y3286.2.place y3286.2.e)) 184 :: pt b_B123_9 (LCell.enc (LCell.mk y3276.1 y3281.1 y3286.1)) 151 :: pt b_B123_4 (RMark.enc (RMark.mk y2308.1 y2313.1 (decide (y2318.1 = 1)) s3237 s3240 SV.nil SV.nil)) 60 :: pt b_B123_2 (RMark.enc (RMark.mk 0 0 false SV.nil SV.nil SV.nil SV.nil)) 60 :: rowL 0 s3237 128 v3236 :: rowL 0 s3290 151 x3291 :: Lr) := hM
      intro a hF
      refine s_val hF (r_fieldAddr (off' := 4) Tryz.underlying60 rfl in57 rfl hF rfl rfl rfl) rfl rfl rfl fun a hF => ?_
      refine s_eff0 rfl rfl (w_store1 Tryz.sizeOf57 (hM.obj (i := 3) rfl) hF rfl rfl rfl rfl (by rw [RMark.len]; decide) (RMark.s_slots _ _) fun w hU3292 => ?_)
      have hM := hM.chg hU3292 (i := 3) rfl
      replace hM : MemL _ (pt b_B123_83 (encs ([(LCell.mk y3276.1 y3281.1 y3286.1)] : List LCell)) 151 :: pt b0 (RCursor.enc (RCursor.mk s3287 y3286.2.at_ y3286.2.place y3286.2.e)) 184 :: pt b_B123_9 (LCell.enc (LCell.mk y3276.1 y3281.1 y3286.1)) 151 :: pt b_B123_4 (RMark.enc (RMark.mk y2308.1 y2313.1 (decide (y2318.1 = 1)) s3237 s3290 SV.nil SV.nil)) 60 :: pt b_B123_2 (RMark.enc (RMark.mk 0 0 false SV.nil SV.nil SV.nil SV.nil)) 60 :: rowL 0 s3237 128 v3236 :: rowL 0 s3290 151 x3291 :: Lr) := hM
      refine c_nil (n_block (n_then ?_))
      refine c_region ?_
      refine s_val hF (r_move hF rfl rfl) rfl rfl rfl fun a hF => ?_
      refine s_val hF (r_add hF rfl rfl rfl) rfl rfl rfl fun a hF => ?_
      refine s_val hF (r_assign hF rfl rfl) rfl rfl rfl fun a hF => ?_
      refine c_nil (n_then ?_)
      have hP := Option.some.inj hP
      subst hP
      exact ⟨(v3236, x3291, y3286.2, (IntKind.i64.wrap (v3245 + 1))), rfl, s3237, s3290, s3287, f3288, hF.to ⟨rfl, rfl, rfl, rfl, rfl, rfl, trivial⟩, selM hM [3, 5, 6, 1, 4] 7 rfl⟩
    have hP := Fx.cF hb3256 hP
    refine c_exit (x_then (x_then (x_hit ?_)))
    refine n_then ?_
    have hP := Option.some.inj hP
    subst hP
    have hP := hK_l5 _ rfl
    subst hP
    exact ⟨(v3236, v3239, v3242), rfl, s3237, s3240, s3243, f3244, hF.to ⟨rfl, rfl, rfl, rfl, trivial⟩, selM hM [0, 3, 4, 1, 2] 5 rfl⟩
  rintro ⟨v3123, v3126, v3129⟩ a w hP ⟨s3124, s3127, s3130, f3131, hF, hM⟩
  replace hP : Sh.ref23_cursor_mark_j4 x0 y2308 y2313 y2318 v3123 v3126 v3129 = _ := hP
  unfold Sh.ref23_cursor_mark_j4 at hP
  refine n_then ?_
  refine c_seq ?_
  refine c_region ?_
  refine s_val hF (r_move hF rfl rfl) rfl rfl rfl fun a hF => ?_
  obtain ⟨y3294, hy3294, hP⟩ := bind_some hP
  refine s_eff hF rfl rfl rfl (w_call (xs := [.tmp 86, .const (.int .i64 (4))]) Tryz.call121 hF rfl rfl (ref23_cursor_number_calls hy3294 (selM hM [3, 0, 1, 2, 4] 5 rfl) (Bf := Bf) (fun w hM => hsub _ (dropM hM 4)) f3131) fun v w hR => ?_)
  obtain ⟨s3295, rfl, f3296, hM⟩ := hR
  replace hM : MemL _ (pt b0 (RCursor.enc (RCursor.mk s3295 y3294.2.at_ y3294.2.place y3294.2.e)) 184 :: pt b_B123_4 (RMark.enc (RMark.mk y2308.1 y2313.1 (decide (y2318.1 = 1)) s3124 s3127 SV.nil SV.nil)) 60 :: rowL 0 s3124 128 v3123 :: rowL 0 s3127 151 v3126 :: pt b_B123_2 (RMark.enc (RMark.mk 0 0 false SV.nil SV.nil SV.nil SV.nil)) 60 :: Lr) := hM
  intro a hF
  refine s_val hF (r_assign hF rfl rfl) rfl rfl rfl fun a hF => ?_
  refine c_nil (n_then ?_)
  refine c_seq ?_
  refine c_joinX hF hM hP (fun F x a w => match x with | (v3895, v3898, v3901, v3907) => ∃ (s3896 : SV) (s3899 : SV) (s3902 : SV) (hs3903 : List RPiece) (r3905 : Res) (s3908 : SV), Each (QPieceIn r3905.holds') hs3903 v3901 ∧ LIn Bf s3908 v3907.b ∧ Fr 158 [(0, .pointer (some ⟨b0, 0, none⟩)), (2, .pointer (some ⟨b_B123_2, 0, none⟩)), (3, .int .i64 x0.at_), (4, .pointer (some ⟨b_B123_4, 0, none⟩))] a ∧ MemL w (pt b_B123_4 (RMark.enc (RMark.mk y2308.1 y2313.1 (decide (y2318.1 = 1)) s3896 s3899 s3902 SV.nil)) 60 :: rowL 0 s3896 128 v3895 :: rowL 0 s3899 151 v3898 :: rowL 0 s3902 156 hs3903 :: r3905 :: pt b0 (RCursor.enc (RCursor.mk s3908 v3907.at_ v3907.place v3907.e)) 184 :: pt b_B123_2 (RMark.enc (RMark.mk 0 0 false SV.nil SV.nil SV.nil SV.nil)) 60 :: Lr)) (fun o_j7 hP hK_j7 hF hM => ?_) ?_
  · refine c_seq ?_
    refine c_region ?_
    refine s_val hF (r_assign hF rfl rfl) rfl rfl rfl fun a hF => ?_
    refine c_nil (n_then ?_)
    refine c_block ?_
    obtain ⟨r4121, hM⟩ := voidM hM
    have q4122 : Each (QPieceIn r4121.holds') ([] : List RPiece) ([] : List QPiece) := Each.nil
    have hM := hM.rowNil (X := RPiece) 0 156
    refine c_loopX hF hM hP (fun F x a w => match x with | (v4104, v4107, v4110, v4116, v4119) => ∃ (s4105 : SV) (s4108 : SV) (s4111 : SV) (hs4112 : List RPiece) (r4114 : Res) (s4117 : SV), Each (QPieceIn r4114.holds') hs4112 v4110 ∧ LIn Bf s4117 v4116.b ∧ Fr 158 [(10, .int .i64 v4119), (0, .pointer (some ⟨b0, 0, none⟩)), (2, .pointer (some ⟨b_B123_2, 0, none⟩)), (3, .int .i64 x0.at_), (4, .pointer (some ⟨b_B123_4, 0, none⟩)), (5, .int .i64 y3294.1)] a ∧ MemL w (pt b_B123_4 (RMark.enc (RMark.mk y2308.1 y2313.1 (decide (y2318.1 = 1)) s4105 s4108 s4111 SV.nil)) 60 :: rowL 0 s4105 128 v4104 :: rowL 0 s4108 151 v4107 :: rowL 0 s4111 156 hs4112 :: r4114 :: pt b0 (RCursor.enc (RCursor.mk s4117 v4116.at_ v4116.place v4116.e)) 184 :: pt b_B123_2 (RMark.enc (RMark.mk 0 0 false SV.nil SV.nil SV.nil SV.nil)) 60 :: Lr)) (fun hF hM => ⟨s3124, s3127, SV.nil, [], r4121, s3295, q4122, f3296, hF.to ⟨rfl, rfl, rfl, rfl, rfl, rfl, trivial⟩, selM hM [3, 4, 5, 0, 1, 2, 6] 7 rfl⟩) ?_
    rintro ⟨v4104, v4107, v4110, v4116, v4119⟩ a w o_l8 hP hK_l8 ⟨s4105, s4108, s4111, hs4112, r4114, s4117, q4115, f4118, hF, hM⟩
    replace hP : Sh.ref23_cursor_mark_l8 y3294 v4104 v4107 v4110 v4116 v4119 = _ := hP
    unfold Sh.ref23_cursor_mark_l8 at hP
    refine c_seq ?_
    refine c_seq ?_
    refine c_joinX hF hM hP (fun F x a w => match x with | v4130 => Fr 158 [(97, .bool v4130), (0, .pointer (some ⟨b0, 0, none⟩)), (10, .int .i64 v4119), (2, .pointer (some ⟨b_B123_2, 0, none⟩)), (3, .int .i64 x0.at_), (4, .pointer (some ⟨b_B123_4, 0, none⟩)), (5, .int .i64 y3294.1)] a ∧ MemL w (pt b_B123_4 (RMark.enc (RMark.mk y2308.1 y2313.1 (decide (y2318.1 = 1)) s4105 s4108 s4111 SV.nil)) 60 :: pt b0 (RCursor.enc (RCursor.mk s4117 v4116.at_ v4116.place v4116.e)) 184 :: pt b_B123_2 (RMark.enc (RMark.mk 0 0 false SV.nil SV.nil SV.nil SV.nil)) 60 :: rowL 0 s4105 128 v4104 :: rowL 0 s4108 151 v4107 :: rowL 0 s4111 156 hs4112 :: r4114 :: Lr)) (fun o_j9 hP hK_j9 hF hM => ?_) ?_
    · refine c_region ?_
      refine s_val hF (r_move hF rfl rfl) rfl rfl rfl fun a hF => ?_
      refine s_val hF (r_move hF rfl rfl) rfl rfl rfl fun a hF => ?_
      refine s_val hF (r_lss hF rfl rfl rfl) rfl rfl rfl fun a hF => ?_
      refine s_val hF (r_move hF rfl rfl) rfl rfl rfl fun a hF => ?_
      refine g_split 91 hF rfl (fun hb4131 => ?_) (fun hb4131 => ?_)
      · have hP := Fx.cT hb4131 hP
        refine g_val hF rfl rfl rfl hb4131 (r_move hF rfl rfl) rfl rfl fun a hF => ?_
        refine g_val hF rfl rfl rfl hb4131 (r_nilCheckP hF rfl rfl) rfl rfl fun a hF => ?_
        refine g_val hF rfl rfl rfl hb4131 (r_fieldAddr (off' := 3) Tryz.underlying184 rfl in3 rfl hF rfl rfl rfl) rfl rfl fun a hF => ?_
        refine g_val hF rfl rfl rfl hb4131 (r_load1 Tryz.isAgg3 hF rfl rfl (hM.cell (i := 5) rfl (RCursor.g_e _))) rfl rfl fun a hF => ?_
        refine g_val hF rfl rfl rfl hb4131 (r_eql hF rfl rfl rfl) rfl rfl fun a hF => ?_
        refine s_val hF (r_pick1 hF rfl rfl hb4131 rfl) rfl rfl rfl fun a hF => ?_
        refine c_nil (n_then ?_)
        have hP := Option.some.inj hP
        subst hP
        exact ⟨(decide (v4116.e = 0)), rfl, hF.to ⟨rfl, rfl, rfl, rfl, rfl, rfl, rfl, trivial⟩, selM hM [0, 5, 6, 1, 2, 3, 4] 7 rfl⟩
      have hP := Fx.cF hb4131 hP
      refine g_skip hF rfl rfl rfl hb4131 rfl rfl fun a hF => ?_
      refine g_skip hF rfl rfl rfl hb4131 rfl rfl fun a hF => ?_
      refine g_skip hF rfl rfl rfl hb4131 rfl rfl fun a hF => ?_
      refine g_skip hF rfl rfl rfl hb4131 rfl rfl fun a hF => ?_
      refine g_skip hF rfl rfl rfl hb4131 rfl rfl fun a hF => ?_
      refine s_val hF (r_pick0 hF rfl rfl hb4131 rfl) rfl rfl rfl fun a hF => ?_
      refine c_nil (n_then ?_)
      have hP := Option.some.inj hP
      subst hP
      exact ⟨false, rfl, hF.to ⟨rfl, rfl, rfl, rfl, rfl, rfl, rfl, trivial⟩, selM hM [0, 5, 6, 1, 2, 3, 4] 7 rfl⟩
    rintro v4130 a w hP ⟨hF, hM⟩
    replace hP : Sh.ref23_cursor_mark_j9 v4104 v4107 v4110 v4116 v4119 v4130 = _ := hP
    unfold Sh.ref23_cursor_mark_j9 at hP
    refine n_then ?_
    refine c_cond hF (c := .tmp 97) rfl (fun hb4132 => ?_) (fun hb4132 => ?_)
    · have hP := Fx.cT hb4132 hP
      refine c_skip (n_then ?_)
      refine c_seq ?_
      refine c_block ?_
      refine c_seq ?_
      refine c_region ?_
      refine s_val hF (r_move hF rfl rfl) rfl rfl rfl fun a hF => ?_
      obtain ⟨y4172, hy4172, hP⟩ := bind_some hP
      refine s_eff hF rfl rfl rfl (w_call (xs := [.tmp 100, .const (.int .i64 (1))]) Tryz.call121 hF rfl rfl (ref23_cursor_number_calls hy4172 (selM hM [1, 0, 2, 3, 4, 5, 6] 7 rfl) (Bf := Bf) (fun w hM => hsub _ (dropM hM 6)) f4118) fun v w hR => ?_)
      obtain ⟨s4173, rfl, f4174, hM⟩ := hR
      replace hM : MemL _ (pt b0 (RCursor.enc (RCursor.mk s4173 y4172.2.at_ y4172.2.place y4172.2.e)) 184 :: pt b_B123_4 (RMark.enc (RMark.mk y2308.1 y2313.1 (decide (y2318.1 = 1)) s4105 s4108 s4111 SV.nil)) 60 :: pt b_B123_2 (RMark.enc (RMark.mk 0 0 false SV.nil SV.nil SV.nil SV.nil)) 60 :: rowL 0 s4105 128 v4104 :: rowL 0 s4108 151 v4107 :: rowL 0 s4111 156 hs4112 :: r4114 :: Lr) := hM
      intro a hF
      refine s_val hF (r_sub hF rfl rfl rfl) rfl rfl rfl fun a hF => ?_
      refine s_val hF (r_build z156 Tryz.underlying156 pl156 hF (parts := [(0, .tmp 102)]) rfl rfl (fill_s rfl rfl (by rw [RPiece.len]; decide) (RPiece.s_table _ _) fill_e)) rfl rfl rfl fun a hF => ?_
      refine s_eff hF rfl rfl rfl (w_alloc z156 (zs := RPiece.zero.enc) rfl rfl fun b_B123_11 w hzB123_11 hAB123_11 => ?_)
      have hM := hM.plus hAB123_11
      replace hM : MemL _ (pt b_B123_11 (RPiece.enc (RPiece.mk 0 0 SV.nil SV.nil)) 156 :: pt b0 (RCursor.enc (RCursor.mk s4173 y4172.2.at_ y4172.2.place y4172.2.e)) 184 :: pt b_B123_4 (RMark.enc (RMark.mk y2308.1 y2313.1 (decide (y2318.1 = 1)) s4105 s4108 s4111 SV.nil)) 60 :: pt b_B123_2 (RMark.enc (RMark.mk 0 0 false SV.nil SV.nil SV.nil SV.nil)) 60 :: rowL 0 s4105 128 v4104 :: rowL 0 s4108 151 v4107 :: rowL 0 s4111 156 hs4112 :: r4114 :: Lr) := hM
      intro a hF
      refine s_eff0 rfl rfl (w_storen (vs := _) Tryz.sizeOf156 (hM.obj (i := 0) rfl) hF rfl rfl rfl rfl (RPiece.len _) (RPiece.one _) (by first | (rw [RPiece.len, RPiece.len]; decide) | (rw [RPiece.len]; decide)) (put_all ((RPiece.len _).trans (RPiece.len _).symm)) fun w hU4175 => ?_)
      have hM := hM.chg hU4175 (i := 0) rfl
      replace hM : MemL _ (pt b_B123_11 (RPiece.enc (RPiece.mk (IntKind.i64.wrap (y4172.1 - 1)) 0 SV.nil SV.nil)) 156 :: pt b0 (RCursor.enc (RCursor.mk s4173 y4172.2.at_ y4172.2.place y4172.2.e)) 184 :: pt b_B123_4 (RMark.enc (RMark.mk y2308.1 y2313.1 (decide (y2318.1 = 1)) s4105 s4108 s4111 SV.nil)) 60 :: pt b_B123_2 (RMark.enc (RMark.mk 0 0 false SV.nil SV.nil SV.nil SV.nil)) 60 :: rowL 0 s4105 128 v4104 :: rowL 0 s4108 151 v4107 :: rowL 0 s4111 156 hs4112 :: r4114 :: Lr) := hM
      refine c_nil (n_then ?_)
      refine c_seq ?_
      refine c_region ?_
      refine s_val hF (r_move hF rfl rfl) rfl rfl rfl fun a hF => ?_
      obtain ⟨y4177, hy4177, hP⟩ := bind_some hP
      refine s_eff hF rfl rfl rfl (w_call (xs := [.tmp 104, .const (.int .i64 (2))]) Tryz.call121 hF rfl rfl (ref23_cursor_number_calls hy4177 (selM hM [1, 0, 2, 3, 4, 5, 6, 7] 8 rfl) (Bf := Bf) (fun w hM => hsub _ (dropM hM 7)) f4174) fun v w hR => ?_)
      obtain ⟨s4178, rfl, f4179, hM⟩ := hR
      replace hM : MemL _ (pt b0 (RCursor.enc (RCursor.mk s4178 y4177.2.at_ y4177.2.place y4177.2.e)) 184 :: pt b_B123_11 (RPiece.enc (RPiece.mk (IntKind.i64.wrap (y4172.1 - 1)) 0 SV.nil SV.nil)) 156 :: pt b_B123_4 (RMark.enc (RMark.mk y2308.1 y2313.1 (decide (y2318.1 = 1)) s4105 s4108 s4111 SV.nil)) 60 :: pt b_B123_2 (RMark.enc (RMark.mk 0 0 false SV.nil SV.nil SV.nil SV.nil)) 60 :: rowL 0 s4105 128 v4104 :: rowL 0 s4108 151 v4107 :: rowL 0 s4111 156 hs4112 :: r4114 :: Lr) := hM
      intro a hF
      refine s_val hF (r_fieldAddr (off' := 1) Tryz.underlying156 rfl in3 rfl hF rfl rfl rfl) rfl rfl rfl fun a hF => ?_
      refine s_eff0 rfl rfl (w_store1 Tryz.sizeOf3 (hM.obj (i := 1) rfl) hF rfl rfl rfl rfl (by rw [RPiece.len]; decide) (RPiece.s_from_ _ _) fun w hU4180 => ?_)
      have hM := hM.chg hU4180 (i := 1) rfl
      replace hM : MemL _ (pt b0 (RCursor.enc (RCursor.mk s4178 y4177.2.at_ y4177.2.place y4177.2.e)) 184 :: pt b_B123_11 (RPiece.enc (RPiece.mk (IntKind.i64.wrap (y4172.1 - 1)) y4177.1 SV.nil SV.nil)) 156 :: pt b_B123_4 (RMark.enc (RMark.mk y2308.1 y2313.1 (decide (y2318.1 = 1)) s4105 s4108 s4111 SV.nil)) 60 :: pt b_B123_2 (RMark.enc (RMark.mk 0 0 false SV.nil SV.nil SV.nil SV.nil)) 60 :: rowL 0 s4105 128 v4104 :: rowL 0 s4108 151 v4107 :: rowL 0 s4111 156 hs4112 :: r4114 :: Lr) := hM
      refine c_nil (n_then ?_)
      refine c_seq ?_
      refine c_region ?_
      refine s_val hF (r_move hF rfl rfl) rfl rfl rfl fun a hF => ?_
      obtain ⟨y4182, hy4182, hP⟩ := bind_some hP
      refine s_eff hF rfl rfl rfl (w_call (xs := [.tmp 107, .const (.int .i64 (2))]) Tryz.call121 hF rfl rfl (ref23_cursor_number_calls hy4182 hM (Bf := Bf) (fun w hM => hsub _ (dropM hM 7)) f4179) fun v w hR => ?_)
      obtain ⟨s4183, rfl, f4184, hM⟩ := hR
      replace hM : MemL _ (pt b0 (RCursor.enc (RCursor.mk s4183 y4182.2.at_ y4182.2.place y4182.2.e)) 184 :: pt b_B123_11 (RPiece.enc (RPiece.mk (IntKind.i64.wrap (y4172.1 - 1)) y4177.1 SV.nil SV.nil)) 156 :: pt b_B123_4 (RMark.enc (RMark.mk y2308.1 y2313.1 (decide (y2318.1 = 1)) s4105 s4108 s4111 SV.nil)) 60 :: pt b_B123_2 (RMark.enc (RMark.mk 0 0 false SV.nil SV.nil SV.nil SV.nil)) 60 :: rowL 0 s4105 128 v4104 :: rowL 0 s4108 151 v4107 :: rowL 0 s4111 156 hs4112 :: r4114 :: Lr) := hM
      intro a hF
      refine s_val hF (r_assign hF rfl rfl) rfl rfl rfl fun a hF => ?_
      refine c_nil (n_then ?_)
      refine c_seq ?_
      refine c_region ?_
      refine s_val hF (r_move hF rfl rfl) rfl rfl rfl fun a hF => ?_
      refine s_val hF (r_move hF rfl rfl) rfl rfl rfl fun a hF => ?_
      obtain ⟨y4186, hy4186, hP⟩ := bind_some hP
      refine s_eff hF rfl rfl rfl (w_call (xs := [.tmp 109, .tmp 110]) Tryz.call120 hF rfl rfl (ref23_cursor_bytes_calls hy4186 hM (Bf := Bf) (fun w hM => hsub _ (dropM hM 7)) f4184) fun v w hR => ?_)
      obtain ⟨s4187, s4189, rfl, f4190, hM⟩ := hR
      replace hM : MemL _ (rowL 0 s4187 5 y4186.1 :: pt b0 (RCursor.enc (RCursor.mk s4189 y4186.2.at_ y4186.2.place y4186.2.e)) 184 :: pt b_B123_11 (RPiece.enc (RPiece.mk (IntKind.i64.wrap (y4172.1 - 1)) y4177.1 SV.nil SV.nil)) 156 :: pt b_B123_4 (RMark.enc (RMark.mk y2308.1 y2313.1 (decide (y2318.1 = 1)) s4105 s4108 s4111 SV.nil)) 60 :: pt b_B123_2 (RMark.enc (RMark.mk 0 0 false SV.nil SV.nil SV.nil SV.nil)) 60 :: rowL 0 s4105 128 v4104 :: rowL 0 s4108 151 v4107 :: rowL 0 s4111 156 hs4112 :: r4114 :: Lr) := hM
      intro a hF
      refine s_val hF (r_fieldAddr (off' := 2) Tryz.underlying156 rfl in23 rfl hF rfl rfl rfl) rfl rfl rfl fun a hF => ?_
      refine s_eff0 rfl rfl (w_store1 Tryz.sizeOf23 (hM.obj (i := 2) rfl) hF rfl rfl rfl rfl (by rw [RPiece.len]; decide) (RPiece.s_old _ _) fun w hU4191 => ?_)
      have hM := hM.chg hU4191 (i := 2) rfl
      replace hM : MemL _ (rowL 0 s4187 5 y4186.1 :: pt b0 (RCursor.enc (RCursor.mk s4189 y4186.2.at_ y4186.2.place y4186.2.e)) 184 :: pt b_B123_11 (RPiece.enc (RPiece.mk (IntKind.i64.wrap (y4172.1 - 1)) y4177.1 s4187 SV.nil)) 156 :: pt b_B123_4 (RMark.enc (RMark.mk y2308.1 y2313.1 (decide (y2318.1 = 1)) s4105 s4108 s4111 SV.nil)) 60 :: pt b_B123_2 (RMark.enc (RMark.mk 0 0 false SV.nil SV.nil SV.nil SV.nil)) 60 :: rowL 0 s4105 128 v4104 :: rowL 0 s4108 151 v4107 :: rowL 0 s4111 156 hs4112 :: r4114 :: Lr) := hM
      refine c_nil (n_then ?_)
      refine c_seq ?_
      refine c_region ?_
      refine s_val hF (r_move hF rfl rfl) rfl rfl rfl fun a hF => ?_
      refine s_val hF (r_move hF rfl rfl) rfl rfl rfl fun a hF => ?_
      obtain ⟨y4193, hy4193, hP⟩ := bind_some hP
      refine s_eff hF rfl rfl rfl (w_call (xs := [.tmp 113, .tmp 114]) Tryz.call120 hF rfl rfl (ref23_cursor_bytes_calls hy4193 (selM hM [1, 0, 2, 3, 4, 5, 6, 7, 8] 9 rfl) (Bf := Bf) (fun w hM => hsub _ (dropM hM 8)) f4190) fun v w hR => ?_)
      obtain ⟨s4194, s4196, rfl, f4197, hM⟩ := hR
      replace hM : MemL _ (rowL 0 s4194 5 y4193.1 :: pt b0 (RCursor.enc (RCursor.mk s4196 y4193.2.at_ y4193.2.place y4193.2.e)) 184 :: rowL 0 s4187 5 y4186.1 :: pt b_B123_11 (RPiece.enc (RPiece.mk (IntKind.i64.wrap (y4172.1 - 1)) y4177.1 s4187 SV.nil)) 156 :: pt b_B123_4 (RMark.enc (RMark.mk y2308.1 y2313.1 (decide (y2318.1 = 1)) s4105 s4108 s4111 SV.nil)) 60 :: pt b_B123_2 (RMark.enc (RMark.mk 0 0 false SV.nil SV.nil SV.nil SV.nil)) 60 :: rowL 0 s4105 128 v4104 :: rowL 0 s4108 151 v4107 :: rowL 0 s4111 156 hs4112 :: r4114 :: Lr) := hM
      intro a hF
      refine s_val hF (r_fieldAddr (off' := 3) Tryz.underlying156 rfl in23 rfl hF rfl rfl rfl) rfl rfl rfl fun a hF => ?_
      refine s_eff0 rfl rfl (w_store1 Tryz.sizeOf23 (hM.obj (i := 3) rfl) hF rfl rfl rfl rfl (by rw [RPiece.len]; decide) (RPiece.s_new _ _) fun w hU4198 => ?_)
      have hM := hM.chg hU4198 (i := 3) rfl
      replace hM : MemL _ (rowL 0 s4194 5 y4193.1 :: pt b0 (RCursor.enc (RCursor.mk s4196 y4193.2.at_ y4193.2.place y4193.2.e)) 184 :: rowL 0 s4187 5 y4186.1 :: pt b_B123_11 (RPiece.enc (RPiece.mk (IntKind.i64.wrap (y4172.1 - 1)) y4177.1 s4187 s4194)) 156 :: pt b_B123_4 (RMark.enc (RMark.mk y2308.1 y2313.1 (decide (y2318.1 = 1)) s4105 s4108 s4111 SV.nil)) 60 :: pt b_B123_2 (RMark.enc (RMark.mk 0 0 false SV.nil SV.nil SV.nil SV.nil)) 60 :: rowL 0 s4105 128 v4104 :: rowL 0 s4108 151 v4107 :: rowL 0 s4111 156 hs4112 :: r4114 :: Lr) := hM
      refine c_nil (n_then ?_)
      refine c_region ?_
      refine s_val hF (r_fieldAddr (off' := 5) Tryz.underlying60 rfl in58 rfl hF rfl rfl rfl) rfl rfl rfl fun a hF => ?_
      refine s_val hF (r_load1 Tryz.isAgg58 hF rfl rfl (hM.cell (i := 4) rfl (RMark.g_pieces _))) rfl rfl rfl fun a hF => ?_
      refine s_val hF (r_loadn Tryz.isAgg156 Tryz.sizeOf156 hF rfl rfl (RPiece.len _) (hM.cells (i := 3) rfl (cut_all (RPiece.len _)))) rfl rfl rfl fun a hF => ?_
      refine s_eff hF rfl rfl rfl (w_slice1 (X := RPiece) (y := (RPiece.mk (IntKind.i64.wrap (y4172.1 - 1)) y4177.1 s4187 s4194)) Tryz.underlying58 in156 rfl rfl rfl rfl hF rfl rfl rfl fun b_B123_120 w hzB123_120 hAB123_120 => ?_)
      have hM := hM.plus hAB123_120
      replace hM : MemL _ (pt b_B123_120 (encs ([(RPiece.mk (IntKind.i64.wrap (y4172.1 - 1)) y4177.1 s4187 s4194)] : List RPiece)) 156 :: rowL 0 s4194 5 y4193.1 :: pt b0 (RCursor.enc (RCursor.mk s4196 y4193.2.at_ y4193.2.place y4193.2.e)) 184 :: rowL 0 s4187 5 y4186.1 :: pt b_B123_11 (RPiece.enc (RPiece.mk (IntKind.i64.wrap (y4172.1 - 1)) y4177.1 s4187 s4194)) 156 :: pt b_B123_4 (RMark.enc (RMark.mk y2308.1 y2313.1 (decide (y2318.1 = 1)) s4105 s4108 s4111 SV.nil)) 60 :: pt b_B123_2 (RMark.enc (RMark.mk 0 0 false SV.nil SV.nil SV.nil SV.nil)) 60 :: rowL 0 s4105 128 v4104 :: rowL 0 s4108 151 v4107 :: rowL 0 s4111 156 hs4112 :: r4114 :: Lr) := hM
      intro a hF
      obtain ⟨x4200, hx4200, hP⟩ := bind_some hP
      refine s_eff hF rfl rfl rfl (w_appD (X := RPiece) hx4200 q4115.len rfl Tryz.underlying58 in156 rfl rfl rfl rfl hF rfl rfl rfl (hM.own (X := RPiece) (i := 9) rfl) (hM.ptS (X := RPiece) (i := 0) (n := 1) (c := 1) rfl rfl rfl (Nat.le_refl _)) fun s4199 w hUs4199 => ?_)
      have hM := hM.chg hUs4199 (i := 9) rfl
      replace hM : MemL _ (pt b_B123_120 (encs ([(RPiece.mk (IntKind.i64.wrap (y4172.1 - 1)) y4177.1 s4187 s4194)] : List RPiece)) 156 :: rowL 0 s4194 5 y4193.1 :: pt b0 (RCursor.enc (RCursor.mk s4196 y4193.2.at_ y4193.2.place y4193.2.e)) 184 :: rowL 0 s4187 5 y4186.1 :: pt b_B123_11 (RPiece.enc (RPiece.mk (IntKind.i64.wrap (y4172.1 - 1)) y4177.1 s4187 s4194)) 156 :: pt b_B123_4 (RMark.enc (RMark.mk y2308.1 y2313.1 (decide (y2318.1 = 1)) s4105 s4108 s4111 SV.nil)) 60 :: pt b_B123_2 (RMark.enc (RMark.mk 0 0 false SV.nil SV.nil SV.nil SV.nil)) 60 :: rowL 0 s4105 128 v4104 :: rowL 0 s4108 151 v4107 :: rowL 0 s4199 156 (hs4112 ++ [(RPiece.mk (IntKind.i64.wrap (y4172.1 - 1)) y4177.1 s4187 s4194)]) :: r4114 :: Lr) := hM
      obtain ⟨r4201, hj4202, hj4203, hM⟩ := joinM (selM hM [10, 3, 0, 1, 2, 4, 5, 6, 7, 8, 9] 11 rfl)
      replace hM : MemL _ (r4201 :: pt b_B123_120 (encs ([(RPiece.mk (IntKind.i64.wrap (y4172.1 - 1)) y4177.1 s4187 s4194)] : List RPiece)) 156 :: rowL 0 s4194 5 y4193.1 :: pt b0 (RCursor.enc (RCursor.mk s4196 y4193.2.at_ y4193.2.place y4193.2.e)) 184 :: pt b_B123_11 (RPiece.enc (RPiece.mk (IntKind.i64.wrap (y4172.1 - 1)) y4177.1 s4187 s4194)) 156 :: pt b_B123_4 (RMark.enc (RMark.mk y2308.1 y2313.1 (decide (y2318.1 = 1)) s4105 s4108 s4111 SV.nil)) 60 :: pt b_B123_2 (RMark.enc (RMark.mk 0 0 false SV.nil SV.nil SV.nil SV.nil)) 60 :: rowL 0 s4105 128 v4104 :: rowL 0 s4108 151 v4107 :: rowL 0 s4199 156 (hs4112 ++ [(RPiece.mk (IntKind.i64.wrap (y4172.1 - 1)) y4177.1 s4187 s4194)]) :: Lr) := hM
      obtain ⟨r4204, hj4205, hj4206, hM⟩ := joinM (selM hM [0, 2, 1, 3, 4, 5, 6, 7, 8, 9] 10 rfl)
      replace hM : MemL _ (r4204 :: pt b_B123_120 (encs ([(RPiece.mk (IntKind.i64.wrap (y4172.1 - 1)) y4177.1 s4187 s4194)] : List RPiece)) 156 :: pt b0 (RCursor.enc (RCursor.mk s4196 y4193.2.at_ y4193.2.place y4193.2.e)) 184 :: pt b_B123_11 (RPiece.enc (RPiece.mk (IntKind.i64.wrap (y4172.1 - 1)) y4177.1 s4187 s4194)) 156 :: pt b_B123_4 (RMark.enc (RMark.mk y2308.1 y2313.1 (decide (y2318.1 = 1)) s4105 s4108 s4111 SV.nil)) 60 :: pt b_B123_2 (RMark.enc (RMark.mk 0 0 false SV.nil SV.nil SV.nil SV.nil)) 60 :: rowL 0 s4105 128 v4104 :: rowL 0 s4108 151 v4107 :: rowL 0 s4199 156 (hs4112 ++ [(RPiece.mk (IntKind.i64.wrap (y4172.1 - 1)) y4177.1 s4187 s4194)]) :: Lr) := hM
      have q4207 : Each (QPieceIn r4204.holds') (hs4112 ++ [(RPiece.mk (IntKind.i64.wrap (y4172.1 - 1)) y4177.1 s4187 s4194)]) x4200 := by rw [(app_some hx4200).2]; exact (q4115.mono fun _ _ q => q.mono (fun w h => hj4202 w (hj4205 w h))).snoc ⟨s4187, s4194, rfl, (fun w h => row_in (X := UInt8) (e := 5) ((fun w h => hj4203 w (hj4205 w h)) w h)), (fun w h => row_in (X := UInt8) (e := 5) (hj4206 w h))⟩
      replace hM : MemL _ (r4204 :: pt b_B123_120 (encs ([(RPiece.mk (IntKind.i64.wrap (y4172.1 - 1)) y4177.1 s4187 s4194)] : List RPiece)) 156 :: pt b0 (RCursor.enc (RCursor.mk s4196 y4193.2.at_ y4193.2.place y4193.2.e)) 184 :: pt b_B123_11 (RPiece.enc (RPiece.mk (IntKind.i64.wrap (y4172.1 - 1)) y4177.1 s4187 s4194)) 156 :: pt b_B123_4 (RMark.enc (RMark.mk y2308.1 y2313.1 (decide (y2318.1 = 1)) s4105 s4108 s4111 SV.nil)) 60 :: pt b_B123_2 (RMark.enc (RMark.mk 0 0 false SV.nil SV.nil SV.nil SV.nil)) 60 :: rowL 0 s4105 128 v4104 :: rowL 0 s4108 151 v4107 :: rowL 0 s4199 156 (hs4112 ++ [(RPiece.mk (IntKind.i64.wrap (y4172.1 - 1)) y4177.1 s4187 s4194)]) :: Lr) := hM
      intro a hF
      refine s_val hF (r_fieldAddr (off' := 5) Tryz.underlying60 rfl in58 rfl hF rfl rfl rfl) rfl rfl rfl fun a hF => ?_
      refine s_eff0 rfl rfl (w_store1 Tryz.sizeOf58 (hM.obj (i := 4) rfl) hF rfl rfl rfl rfl (by rw [RMark.len]; decide) (RMark.s_pieces _ _) fun w hU4208 => ?_)
      have hM := hM.chg hU4208 (i := 4) rfl
      replace hM : MemL _ (r4204 :: pt b_B123_120 (encs ([(RPiece.mk (IntKind.i64.wrap (y4172.1 - 1)) y4177.1 s4187 s4194)] : List RPiece)) 156 :: pt b0 (RCursor.enc (RCursor.mk s4196 y4193.2.at_ y4193.2.place y4193.2.e)) 184 :: pt b_B123_11 (RPiece.enc (RPiece.mk (IntKind.i64.wrap (y4172.1 - 1)) y4177.1 s4187 s4194)) 156 :: pt b_B123_4 (RMark.enc (RMark.mk y2308.1 y2313.1 (decide (y2318.1 = 1)) s4105 s4108 s4199 SV.nil)) 60 :: pt b_B123_2 (RMark.enc (RMark.mk 0 0 false SV.nil SV.nil SV.nil SV.nil)) 60 :: rowL 0 s4105 128 v4104 :: rowL 0 s4108 151 v4107 :: rowL 0 s4199 156 (hs4112 ++ [(RPiece.mk (IntKind.i64.wrap (y4172.1 - 1)) y4177.1 s4187 s4194)]) :: Lr) := hM
      refine c_nil (n_block (n_then ?_))
      refine c_region ?_
      refine s_val hF (r_move hF rfl rfl) rfl rfl rfl fun a hF => ?_
      refine s_val hF (r_add hF rfl rfl rfl) rfl rfl rfl fun a hF => ?_
      refine s_val hF (r_assign hF rfl rfl) rfl rfl rfl fun a hF => ?_
      refine c_nil (n_then ?_)
      have hP := Option.some.inj hP
      subst hP
      exact ⟨(v4104, v4107, x4200, y4193.2, (IntKind.i64.wrap (v4119 + 1))), rfl, s4105, s4108, s4199, (hs4112 ++ [(RPiece.mk (IntKind.i64.wrap (y4172.1 - 1)) y4177.1 s4187 s4194)]), r4204, s4196, q4207, f4197, hF.to ⟨rfl, rfl, rfl, rfl, rfl, rfl, trivial⟩, selM hM [4, 6, 7, 8, 0, 2, 5] 9 rfl⟩
    have hP := Fx.cF hb4132 hP
    refine c_exit (x_then (x_then (x_hit ?_)))
    refine n_then ?_
    have hP := Option.some.inj hP
    subst hP
    have hP := hK_l8 _ rfl
    subst hP
    exact ⟨(v4104, v4107, v4110, v4116), rfl, s4105, s4108, s4111, hs4112, r4114, s4117, q4115, f4118, hF.to ⟨rfl, rfl, rfl, rfl, trivial⟩, selM hM [0, 3, 4, 5, 6, 1, 2] 7 rfl⟩
  rintro ⟨v3895, v3898, v3901, v3907⟩ a w hP ⟨s3896, s3899, s3902, hs3903, r3905, s3908, q3906, f3909, hF, hM⟩
  replace hP : Sh.ref23_cursor_mark_j7 x0 y2308 y2313 y2318 v3895 v3898 v3901 v3907 = _ := hP
  unfold Sh.ref23_cursor_mark_j7 at hP
  refine n_then ?_
  refine c_seq ?_
  refine c_region ?_
  refine s_val hF (r_move hF rfl rfl) rfl rfl rfl fun a hF => ?_
  obtain ⟨y4210, hy4210, hP⟩ := bind_some hP
  refine s_eff hF rfl rfl rfl (w_call (xs := [.tmp 123, .const (.int .i64 (1))]) Tryz.call121 hF rfl rfl (ref23_cursor_number_calls hy4210 (selM hM [5, 0, 1, 2, 3, 4, 6] 7 rfl) (Bf := Bf) (fun w hM => hsub _ (dropM hM 6)) f3909) fun v w hR => ?_)
  obtain ⟨s4211, rfl, f4212, hM⟩ := hR
  replace hM : MemL _ (pt b0 (RCursor.enc (RCursor.mk s4211 y4210.2.at_ y4210.2.place y4210.2.e)) 184 :: pt b_B123_4 (RMark.enc (RMark.mk y2308.1 y2313.1 (decide (y2318.1 = 1)) s3896 s3899 s3902 SV.nil)) 60 :: rowL 0 s3896 128 v3895 :: rowL 0 s3899 151 v3898 :: rowL 0 s3902 156 hs3903 :: r3905 :: pt b_B123_2 (RMark.enc (RMark.mk 0 0 false SV.nil SV.nil SV.nil SV.nil)) 60 :: Lr) := hM
  intro a hF
  refine s_val hF (r_assign hF rfl rfl) rfl rfl rfl fun a hF => ?_
  refine c_nil (n_then ?_)
  refine c_seq ?_
  refine c_joinX hF hM hP (fun F x a w => match x with | (v4427, v4439) => ∃ (s4428 : SV) (s4430 : SV) (s4432 : SV) (hs4433 : List RPiece) (r4435 : Res) (s4437 : SV) (s4440 : SV), Each (QPieceIn r4435.holds') hs4433 v4427.pieces ∧ LIn Bf s4440 v4439.b ∧ Fr 158 [(0, .pointer (some ⟨b0, 0, none⟩)), (2, .pointer (some ⟨b_B123_2, 0, none⟩)), (3, .int .i64 x0.at_), (4, .pointer (some ⟨b_B123_4, 0, none⟩))] a ∧ MemL w (pt b_B123_4 (RMark.enc (RMark.mk v4427.at_ v4427.next v4427.done s4428 s4430 s4432 s4437)) 60 :: rowL 0 s4428 128 v4427.regs :: rowL 0 s4430 151 v4427.slots :: rowL 0 s4432 156 hs4433 :: r4435 :: rowL 0 s4437 3 v4427.sent :: pt b0 (RCursor.enc (RCursor.mk s4440 v4439.at_ v4439.place v4439.e)) 184 :: pt b_B123_2 (RMark.enc (RMark.mk 0 0 false SV.nil SV.nil SV.nil SV.nil)) 60 :: Lr)) (fun o_j10 hP hK_j10 hF hM => ?_) ?_
  · refine c_seq ?_
    refine c_region ?_
    refine s_val hF (r_assign hF rfl rfl) rfl rfl rfl fun a hF => ?_
    refine c_nil (n_then ?_)
    refine c_block ?_
    have hM := hM.rowNil (X := Int) 0 3
    refine c_loopX hF hM hP (fun F x a w => match x with | (v4508, v4520, v4523) => ∃ (s4509 : SV) (s4511 : SV) (s4513 : SV) (hs4514 : List RPiece) (r4516 : Res) (s4518 : SV) (s4521 : SV), Each (QPieceIn r4516.holds') hs4514 v4508.pieces ∧ LIn Bf s4521 v4520.b ∧ Fr 158 [(13, .int .i64 v4523), (0, .pointer (some ⟨b0, 0, none⟩)), (2, .pointer (some ⟨b_B123_2, 0, none⟩)), (3, .int .i64 x0.at_), (4, .pointer (some ⟨b_B123_4, 0, none⟩)), (5, .int .i64 y4210.1)] a ∧ MemL w (pt b_B123_4 (RMark.enc (RMark.mk v4508.at_ v4508.next v4508.done s4509 s4511 s4513 s4518)) 60 :: rowL 0 s4509 128 v4508.regs :: rowL 0 s4511 151 v4508.slots :: rowL 0 s4513 156 hs4514 :: r4516 :: rowL 0 s4518 3 v4508.sent :: pt b0 (RCursor.enc (RCursor.mk s4521 v4520.at_ v4520.place v4520.e)) 184 :: pt b_B123_2 (RMark.enc (RMark.mk 0 0 false SV.nil SV.nil SV.nil SV.nil)) 60 :: Lr)) (fun hF hM => ⟨s3896, s3899, s3902, hs3903, r3905, SV.nil, s4211, q3906, f4212, hF.to ⟨rfl, rfl, rfl, rfl, rfl, rfl, trivial⟩, selM hM [2, 3, 4, 5, 6, 0, 1, 7] 8 rfl⟩) ?_
    rintro ⟨v4508, v4520, v4523⟩ a w o_l11 hP hK_l11 ⟨s4509, s4511, s4513, hs4514, r4516, s4518, s4521, q4517, f4522, hF, hM⟩
    replace hP : Sh.ref23_cursor_mark_l11 y4210 v4508 v4520 v4523 = _ := hP
    unfold Sh.ref23_cursor_mark_l11 at hP
    refine c_seq ?_
    refine c_seq ?_
    refine c_joinX hF hM hP (fun F x a w => match x with | v4532 => Fr 158 [(134, .bool v4532), (0, .pointer (some ⟨b0, 0, none⟩)), (13, .int .i64 v4523), (2, .pointer (some ⟨b_B123_2, 0, none⟩)), (3, .int .i64 x0.at_), (4, .pointer (some ⟨b_B123_4, 0, none⟩)), (5, .int .i64 y4210.1)] a ∧ MemL w (pt b_B123_4 (RMark.enc (RMark.mk v4508.at_ v4508.next v4508.done s4509 s4511 s4513 s4518)) 60 :: pt b0 (RCursor.enc (RCursor.mk s4521 v4520.at_ v4520.place v4520.e)) 184 :: pt b_B123_2 (RMark.enc (RMark.mk 0 0 false SV.nil SV.nil SV.nil SV.nil)) 60 :: rowL 0 s4509 128 v4508.regs :: rowL 0 s4511 151 v4508.slots :: rowL 0 s4513 156 hs4514 :: r4516 :: rowL 0 s4518 3 v4508.sent :: Lr)) (fun o_j12 hP hK_j12 hF hM => ?_) ?_
    · refine c_region ?_
      refine s_val hF (r_move hF rfl rfl) rfl rfl rfl fun a hF => ?_
      refine s_val hF (r_move hF rfl rfl) rfl rfl rfl fun a hF => ?_
      refine s_val hF (r_lss hF rfl rfl rfl) rfl rfl rfl fun a hF => ?_
      refine s_val hF (r_move hF rfl rfl) rfl rfl rfl fun a hF => ?_
      refine g_split 128 hF rfl (fun hb4533 => ?_) (fun hb4533 => ?_)
      · have hP := Fx.cT hb4533 hP
        refine g_val hF rfl rfl rfl hb4533 (r_move hF rfl rfl) rfl rfl fun a hF => ?_
        refine g_val hF rfl rfl rfl hb4533 (r_nilCheckP hF rfl rfl) rfl rfl fun a hF => ?_
        refine g_val hF rfl rfl rfl hb4533 (r_fieldAddr (off' := 3) Tryz.underlying184 rfl in3 rfl hF rfl rfl rfl) rfl rfl fun a hF => ?_
        refine g_val hF rfl rfl rfl hb4533 (r_load1 Tryz.isAgg3 hF rfl rfl (hM.cell (i := 6) rfl (RCursor.g_e _))) rfl rfl fun a hF => ?_
        refine g_val hF rfl rfl rfl hb4533 (r_eql hF rfl rfl rfl) rfl rfl fun a hF => ?_
        refine s_val hF (r_pick1 hF rfl rfl hb4533 rfl) rfl rfl rfl fun a hF => ?_
        refine c_nil (n_then ?_)
        have hP := Option.some.inj hP
        subst hP
        exact ⟨(decide (v4520.e = 0)), rfl, hF.to ⟨rfl, rfl, rfl, rfl, rfl, rfl, rfl, trivial⟩, selM hM [0, 6, 7, 1, 2, 3, 4, 5] 8 rfl⟩
      have hP := Fx.cF hb4533 hP
      refine g_skip hF rfl rfl rfl hb4533 rfl rfl fun a hF => ?_
      refine g_skip hF rfl rfl rfl hb4533 rfl rfl fun a hF => ?_
      refine g_skip hF rfl rfl rfl hb4533 rfl rfl fun a hF => ?_
      refine g_skip hF rfl rfl rfl hb4533 rfl rfl fun a hF => ?_
      refine g_skip hF rfl rfl rfl hb4533 rfl rfl fun a hF => ?_
      refine s_val hF (r_pick0 hF rfl rfl hb4533 rfl) rfl rfl rfl fun a hF => ?_
      refine c_nil (n_then ?_)
      have hP := Option.some.inj hP
      subst hP
      exact ⟨false, rfl, hF.to ⟨rfl, rfl, rfl, rfl, rfl, rfl, rfl, trivial⟩, selM hM [0, 6, 7, 1, 2, 3, 4, 5] 8 rfl⟩
    rintro v4532 a w hP ⟨hF, hM⟩
    replace hP : Sh.ref23_cursor_mark_j12 v4508 v4520 v4523 v4532 = _ := hP
    unfold Sh.ref23_cursor_mark_j12 at hP
    refine n_then ?_
    refine c_cond hF (c := .tmp 134) rfl (fun hb4534 => ?_) (fun hb4534 => ?_)
    · have hP := Fx.cT hb4534 hP
      refine c_skip (n_then ?_)
      refine c_seq ?_
      refine c_block ?_
      refine d_startT mixed (by kernel_rfl) hM [0, 2, 3, 4, 5, 6, 7] 8 rfl fun hch => ?_
      refine d_val hF hch 0 rfl (by kernel_rfl) rfl rfl rfl (fun w hM => (r_fieldAddr (off' := 6) Tryz.underlying60 rfl in52 rfl hF rfl rfl rfl)) fun a hF => ?_
      refine d_val hF hch 1 rfl (by kernel_rfl) rfl rfl rfl (fun w hM => (r_load1 Tryz.isAgg52 hF rfl rfl (hM.cell (i := 0) rfl (RMark.g_sent _)))) fun a hF => ?_
      refine d_val hF hch 2 rfl (by kernel_rfl) rfl rfl rfl (fun w hM => (r_move hF rfl rfl)) fun a hF => ?_
      refine d_one hch 3 (by kernel_rfl) rfl rfl ?_
      refine d_ex hF 3 rfl rfl rfl rfl rfl fun w hMs hM => ?_
      obtain ⟨y4543, hy4543, hP⟩ := bind_some hP
      refine (w_call (xs := [.tmp 139, .const (.int .i64 (8))]) Tryz.call121 hF rfl rfl (ref23_cursor_number_calls hy4543 (selM hM [1, 0, 2, 3, 4, 5, 6, 7] 8 rfl) (Bf := Bf) (fun w hM => hsub _ (dropM hM 7)) f4522) fun v w hR => ?_)
      obtain ⟨s4544, rfl, f4545, hM⟩ := hR
      replace hM : MemL _ (pt b0 (RCursor.enc (RCursor.mk s4544 y4543.2.at_ y4543.2.place y4543.2.e)) 184 :: pt b_B123_4 (RMark.enc (RMark.mk v4508.at_ v4508.next v4508.done s4509 s4511 s4513 s4518)) 60 :: pt b_B123_2 (RMark.enc (RMark.mk 0 0 false SV.nil SV.nil SV.nil SV.nil)) 60 :: rowL 0 s4509 128 v4508.regs :: rowL 0 s4511 151 v4508.slots :: rowL 0 s4513 156 hs4514 :: r4516 :: rowL 0 s4518 3 v4508.sent :: Lr) := hM
      have hMs := selM hM [1, 2, 3, 4, 5, 6, 7] 8 rfl
      refine ⟨_, _, hMs, hM, .inl fun _ h => h, fun a hF => ?_⟩
      refine d_one hch 4 (by kernel_rfl) rfl rfl ?_
      refine d_ex hF 4 rfl rfl rfl rfl rfl fun w hMs hM => ?_
      refine (w_slice1 (X := Int) (y := y4543.1) Tryz.underlying52 in3 rfl rfl rfl rfl hF rfl rfl rfl fun b_B123_141 w hzB123_141 hAB123_141 => ?_)
      have hM := hM.plus hAB123_141
      replace hM : MemL _ (pt b_B123_141 (encs ([y4543.1] : List Int)) 3 :: pt b0 (RCursor.enc (RCursor.mk s4544 y4543.2.at_ y4543.2.place y4543.2.e)) 184 :: pt b_B123_4 (RMark.enc (RMark.mk v4508.at_ v4508.next v4508.done s4509 s4511 s4513 s4518)) 60 :: pt b_B123_2 (RMark.enc (RMark.mk 0 0 false SV.nil SV.nil SV.nil SV.nil)) 60 :: rowL 0 s4509 128 v4508.regs :: rowL 0 s4511 151 v4508.slots :: rowL 0 s4513 156 hs4514 :: r4516 :: rowL 0 s4518 3 v4508.sent :: Lr) := hM
      have hMs := selM hM [0, 2, 3, 4, 5, 6, 7, 8] 9 rfl
      refine ⟨_, _, hMs, hM, .inl fun _ h => dropM h 1, fun a hF => ?_⟩
      refine d_one hch 5 (by kernel_rfl) rfl rfl ?_
      refine d_ex hF 5 rfl rfl rfl rfl rfl fun w hMs hM => ?_
      obtain ⟨x4547, hx4547, hP⟩ := bind_some hP
      refine (w_appX (X := Int) hx4547 Tryz.underlying52 in3 rfl rfl rfl rfl hF rfl rfl rfl (hM.own (X := Int) (i := 8) rfl) (hM.ptS (X := Int) (i := 0) (n := 1) (c := 1) rfl rfl rfl (Nat.le_refl _)) fun s4546 w hUs4546 => ?_)
      have hM := hM.chg hUs4546 (i := 8) rfl
      replace hM : MemL _ (pt b_B123_141 (encs ([y4543.1] : List Int)) 3 :: pt b0 (RCursor.enc (RCursor.mk s4544 y4543.2.at_ y4543.2.place y4543.2.e)) 184 :: pt b_B123_4 (RMark.enc (RMark.mk v4508.at_ v4508.next v4508.done s4509 s4511 s4513 s4518)) 60 :: pt b_B123_2 (RMark.enc (RMark.mk 0 0 false SV.nil SV.nil SV.nil SV.nil)) 60 :: rowL 0 s4509 128 v4508.regs :: rowL 0 s4511 151 v4508.slots :: rowL 0 s4513 156 hs4514 :: r4516 :: rowL 0 s4546 3 x4547 :: Lr) := hM
      have hMs := hM
      refine ⟨_, _, hMs, hM, .inr (by kernel_rfl), fun a hF => ?_⟩
      refine d_val hF hch 6 rfl (by kernel_rfl) rfl rfl rfl (fun w hM => (r_fieldAddr (off' := 6) Tryz.underlying60 rfl in52 rfl hF rfl rfl rfl)) fun a hF => ?_
      refine d_one hch 7 (by kernel_rfl) rfl rfl ?_
      refine d_ex0 7 rfl rfl rfl rfl fun w hMs hM => ?_
      refine (w_store1 Tryz.sizeOf52 (hM.obj (i := 2) rfl) hF rfl rfl rfl rfl (by rw [RMark.len]; decide) (RMark.s_sent _ _) fun w hU4548 => ?_)
      have hM := hM.chg hU4548 (i := 2) rfl
      replace hM : MemL _ (pt b_B123_141 (encs ([y4543.1] : List Int)) 3 :: pt b0 (RCursor.enc (RCursor.mk s4544 y4543.2.at_ y4543.2.place y4543.2.e)) 184 :: pt b_B123_4 (RMark.enc (RMark.mk v4508.at_ v4508.next v4508.done s4509 s4511 s4513 s4546)) 60 :: pt b_B123_2 (RMark.enc (RMark.mk 0 0 false SV.nil SV.nil SV.nil SV.nil)) 60 :: rowL 0 s4509 128 v4508.regs :: rowL 0 s4511 151 v4508.slots :: rowL 0 s4513 156 hs4514 :: r4516 :: rowL 0 s4546 3 x4547 :: Lr) := hM
      have hMs := hM
      refine ⟨_, _, hMs, hM, .inr (by kernel_rfl), ?_⟩
      refine d_end hch (by kernel_rfl) fun w hM => ?_
      refine n_block (n_then ?_)
      refine c_region ?_
      refine s_val hF (r_move hF rfl rfl) rfl rfl rfl fun a hF => ?_
      refine s_val hF (r_add hF rfl rfl rfl) rfl rfl rfl fun a hF => ?_
      refine s_val hF (r_assign hF rfl rfl) rfl rfl rfl fun a hF => ?_
      refine c_nil (n_then ?_)
      have hP := Option.some.inj hP
      subst hP
      exact ⟨((QMark.mk v4508.at_ v4508.next v4508.done v4508.regs v4508.slots v4508.pieces x4547), y4543.2, (IntKind.i64.wrap (v4523 + 1))), rfl, s4509, s4511, s4513, hs4514, r4516, s4546, s4544, q4517, f4545, hF.to ⟨rfl, rfl, rfl, rfl, rfl, rfl, trivial⟩, selM hM [2, 4, 5, 6, 7, 8, 1, 3] 9 rfl⟩
    have hP := Fx.cF hb4534 hP
    refine c_exit (x_then (x_then (x_hit ?_)))
    refine n_then ?_
    have hP := Option.some.inj hP
    subst hP
    have hP := hK_l11 _ rfl
    subst hP
    exact ⟨(v4508, v4520), rfl, s4509, s4511, s4513, hs4514, r4516, s4518, s4521, q4517, f4522, hF.to ⟨rfl, rfl, rfl, rfl, trivial⟩, selM hM [0, 3, 4, 5, 6, 7, 1, 2] 8 rfl⟩
  rintro ⟨v4427, v4439⟩ a w hP ⟨s4428, s4430, s4432, hs4433, r4435, s4437, s4440, q4436, f4441, hF, hM⟩
  replace hP : Sh.ref23_cursor_mark_j10 x0 v4427 v4439 = _ := hP
  unfold Sh.ref23_cursor_mark_j10 at hP
  refine n_then ?_
  refine c_seq ?_
  refine c_joinX hF hM hP (fun F x a w => match x with | v4579 => ∃ (s4580 : SV), LIn Bf s4580 v4579.b ∧ Fr 158 [(2, .pointer (some ⟨b_B123_2, 0, none⟩)), (4, .pointer (some ⟨b_B123_4, 0, none⟩))] a ∧ MemL w (pt b0 (RCursor.enc (RCursor.mk s4580 v4579.at_ v4579.place v4579.e)) 184 :: pt b_B123_4 (RMark.enc (RMark.mk v4427.at_ v4427.next v4427.done s4428 s4430 s4432 s4437)) 60 :: pt b_B123_2 (RMark.enc (RMark.mk 0 0 false SV.nil SV.nil SV.nil SV.nil)) 60 :: rowL 0 s4428 128 v4427.regs :: rowL 0 s4430 151 v4427.slots :: rowL 0 s4432 156 hs4433 :: r4435 :: rowL 0 s4437 3 v4427.sent :: Lr)) (fun o_j13 hP hK_j13 hF hM => ?_) ?_
  · refine c_seq ?_
    refine c_joinX hF hM hP (fun F x a w => match x with | v4588 => Fr 158 [(153, .bool v4588), (0, .pointer (some ⟨b0, 0, none⟩)), (2, .pointer (some ⟨b_B123_2, 0, none⟩)), (3, .int .i64 x0.at_), (4, .pointer (some ⟨b_B123_4, 0, none⟩))] a ∧ MemL w (pt b_B123_4 (RMark.enc (RMark.mk v4427.at_ v4427.next v4427.done s4428 s4430 s4432 s4437)) 60 :: pt b0 (RCursor.enc (RCursor.mk s4440 v4439.at_ v4439.place v4439.e)) 184 :: pt b_B123_2 (RMark.enc (RMark.mk 0 0 false SV.nil SV.nil SV.nil SV.nil)) 60 :: rowL 0 s4428 128 v4427.regs :: rowL 0 s4430 151 v4427.slots :: rowL 0 s4432 156 hs4433 :: r4435 :: rowL 0 s4437 3 v4427.sent :: Lr)) (fun o_j14 hP hK_j14 hF hM => ?_) ?_
    · refine c_region ?_
      refine s_val hF (r_move hF rfl rfl) rfl rfl rfl fun a hF => ?_
      refine s_val hF (r_nilCheckP hF rfl rfl) rfl rfl rfl fun a hF => ?_
      refine s_val hF (r_fieldAddr (off' := 3) Tryz.underlying184 rfl in3 rfl hF rfl rfl rfl) rfl rfl rfl fun a hF => ?_
      refine s_val hF (r_load1 Tryz.isAgg3 hF rfl rfl (hM.cell (i := 6) rfl (RCursor.g_e _))) rfl rfl rfl fun a hF => ?_
      refine s_val hF (r_eql hF rfl rfl rfl) rfl rfl rfl fun a hF => ?_
      refine s_val hF (r_move hF rfl rfl) rfl rfl rfl fun a hF => ?_
      refine g_split 149 hF rfl (fun hb4589 => ?_) (fun hb4589 => ?_)
      · have hP := Fx.cT hb4589 hP
        refine g_val hF rfl rfl rfl hb4589 (r_loadn Tryz.isAgg60 Tryz.sizeOf60 hF rfl rfl (RMark.len _) (hM.cells (i := 0) rfl (cut_all (RMark.len _)))) rfl rfl fun a hF => ?_
        obtain ⟨y4591, hy4591, hP⟩ := bind_some hP
        refine g_eff hF rfl rfl rfl hb4589 rfl rfl (w_call (xs := [.tmp 150]) Tryz.call135 hF rfl rfl (ref23_Plain_calls hy4591 hM (fun _ h => h) (fun w hM => (hM.rowS (X := LTurn) (i := 1) rfl)) (fun w hM => (hM.rowS (X := LCell) (i := 2) rfl)) (fun w hM => (hM.rowS (X := RPiece) (i := 3) rfl)) (q4436.mono fun _ _ q => q.mono fun w hM => hM.hold 4 _ rfl) (fun w hM => (hM.rowS (X := Int) (i := 5) rfl))) fun v w hR => ?_)
        obtain ⟨rfl, hM⟩ := hR
        replace hM : MemL _ (pt b_B123_4 (RMark.enc (RMark.mk v4427.at_ v4427.next v4427.done s4428 s4430 s4432 s4437)) 60 :: rowL 0 s4428 128 v4427.regs :: rowL 0 s4430 151 v4427.slots :: rowL 0 s4432 156 hs4433 :: r4435 :: rowL 0 s4437 3 v4427.sent :: pt b0 (RCursor.enc (RCursor.mk s4440 v4439.at_ v4439.place v4439.e)) 184 :: pt b_B123_2 (RMark.enc (RMark.mk 0 0 false SV.nil SV.nil SV.nil SV.nil)) 60 :: Lr) := hM
        intro a hF
        refine g_val hF rfl rfl rfl hb4589 (r_not hF rfl rfl) rfl rfl fun a hF => ?_
        refine s_val hF (r_pick1 hF rfl rfl hb4589 rfl) rfl rfl rfl fun a hF => ?_
        refine c_nil (n_then ?_)
        have hP := Option.some.inj hP
        subst hP
        exact ⟨(!y4591), rfl, hF.to ⟨rfl, rfl, rfl, rfl, rfl, trivial⟩, selM hM [0, 6, 7, 1, 2, 3, 4, 5] 8 rfl⟩
      have hP := Fx.cF hb4589 hP
      refine g_skip hF rfl rfl rfl hb4589 rfl rfl fun a hF => ?_
      refine g_skip hF rfl rfl rfl hb4589 rfl rfl fun a hF => ?_
      refine g_skip hF rfl rfl rfl hb4589 rfl rfl fun a hF => ?_
      refine s_val hF (r_pick0 hF rfl rfl hb4589 rfl) rfl rfl rfl fun a hF => ?_
      refine c_nil (n_then ?_)
      have hP := Option.some.inj hP
      subst hP
      exact ⟨false, rfl, hF.to ⟨rfl, rfl, rfl, rfl, rfl, trivial⟩, selM hM [0, 6, 7, 1, 2, 3, 4, 5] 8 rfl⟩
    rintro v4588 a w hP ⟨hF, hM⟩
    replace hP : Sh.ref23_cursor_mark_j14 x0 v4439 v4588 = _ := hP
    unfold Sh.ref23_cursor_mark_j14 at hP
    refine n_then ?_
    refine c_cond hF (c := .tmp 153) rfl (fun hb4592 => ?_) (fun hb4592 => ?_)
    · have hP := Fx.cT hb4592 hP
      refine c_region ?_
      refine s_val hF (r_move hF rfl rfl) rfl rfl rfl fun a hF => ?_
      refine s_val hF (r_move hF rfl rfl) rfl rfl rfl fun a hF => ?_
      obtain ⟨y4594, hy4594, hP⟩ := bind_some hP
      refine s_eff hF rfl rfl rfl (w_call (xs := [.tmp 154, .tmp 155, .const (.int .i64 (230))]) Tryz.call119 hF rfl rfl (ref23_cursor_fault_calls hy4594 (selM hM [1, 0, 2, 3, 4, 5, 6, 7] 8 rfl) (Bf := Bf) (fun w hM => hsub _ (dropM hM 7)) f4441) fun v w hR => ?_)
      obtain ⟨s4595, rfl, f4596, hM⟩ := hR
      replace hM : MemL _ (pt b0 (RCursor.enc (RCursor.mk s4595 y4594.at_ y4594.place y4594.e)) 184 :: pt b_B123_4 (RMark.enc (RMark.mk v4427.at_ v4427.next v4427.done s4428 s4430 s4432 s4437)) 60 :: pt b_B123_2 (RMark.enc (RMark.mk 0 0 false SV.nil SV.nil SV.nil SV.nil)) 60 :: rowL 0 s4428 128 v4427.regs :: rowL 0 s4430 151 v4427.slots :: rowL 0 s4432 156 hs4433 :: r4435 :: rowL 0 s4437 3 v4427.sent :: Lr) := hM
      intro a hF
      refine c_nil (n_then ?_)
      have hP := Option.some.inj hP
      subst hP
      exact ⟨y4594, rfl, s4595, f4596, hF.to ⟨rfl, rfl, trivial⟩, hM⟩
    have hP := Fx.cF hb4592 hP
    refine c_skip (n_then ?_)
    have hP := Option.some.inj hP
    subst hP
    exact ⟨v4439, rfl, s4440, f4441, hF.to ⟨rfl, rfl, trivial⟩, selM hM [1, 0, 2, 3, 4, 5, 6, 7] 8 rfl⟩
  rintro v4579 a w hP ⟨s4580, f4581, hF, hM⟩
  replace hP : Sh.ref23_cursor_mark_j13 v4427 v4579 = _ := hP
  unfold Sh.ref23_cursor_mark_j13 at hP
  refine n_then ?_
  refine c_seq ?_
  refine c_region ?_
  refine s_val hF (r_loadn Tryz.isAgg60 Tryz.sizeOf60 hF rfl rfl (RMark.len _) (hM.cells (i := 1) rfl (cut_all (RMark.len _)))) rfl rfl rfl fun a hF => ?_
  refine s_eff0 rfl rfl (w_storen (vs := _) Tryz.sizeOf60 (hM.obj (i := 2) rfl) hF rfl rfl rfl rfl (RMark.len _) (RMark.one _) (by first | (rw [RMark.len, RMark.len]; decide) | (rw [RMark.len]; decide)) (put_all ((RMark.len _).trans (RMark.len _).symm)) fun w hU4597 => ?_)
  have hM := hM.chg hU4597 (i := 2) rfl
  replace hM : MemL _ (pt b0 (RCursor.enc (RCursor.mk s4580 v4579.at_ v4579.place v4579.e)) 184 :: pt b_B123_4 (RMark.enc (RMark.mk v4427.at_ v4427.next v4427.done s4428 s4430 s4432 s4437)) 60 :: pt b_B123_2 (RMark.enc (RMark.mk v4427.at_ v4427.next v4427.done s4428 s4430 s4432 s4437)) 60 :: rowL 0 s4428 128 v4427.regs :: rowL 0 s4430 151 v4427.slots :: rowL 0 s4432 156 hs4433 :: r4435 :: rowL 0 s4437 3 v4427.sent :: Lr) := hM
  refine c_nil (n_then ?_)
  refine c_ret ?_
  have hP := Option.some.inj hP
  subst hP
  refine e_ret (rs := [.cell 2 60]) Tryz.results123 hF (res_celln hF rfl Tryz.isAgg60 Tryz.sizeOf60 (RMark.len _) (hM.cells (i := 2) rfl (cut_all (RMark.len _))) res_nil) rfl ?_
  exact ⟨s4428, s4430, s4432, hs4433, r4435, s4437, s4580, rfl, q4436, f4581, selM hM [3, 4, 5, 6, 7, 0] 8 rfl⟩
set_option maxHeartbeats 4000000 in
theorem ref23_Decode_calls {x0 : List UInt8} {s1 : SV} {out : (QRecord × Int × Int)} {w0 : World} {Bf : World → Prop} {Lr : List Res} (hP : Sh.ref23_Decode x0 = some out) (hM : MemL w0 (Lr)) (hsub : ∀ w, MemL w Lr → Bf w) (f2 : LIn Bf s1 x0) : Calls Tryz.prog 46 #[(s1).v] w0 (Ret fun v w' => ∃ (s1568 : SV) (s1570 : SV) (hs1571 : List SV) (r1573 : Res) (s1575 : SV) (hs1576 : List RMark) (r1578 : Res), v = .tuple #[.agg (RRecord.enc (RRecord.mk (RInput.mk s1568 s1570) s1575 out.1.end_)).toArray, .int .i64 out.2.1, .int .i64 out.2.2] ∧ Each (LIn (X := UInt8) r1573.holds') hs1571 out.1.in_.tables ∧ Each (QMarkIn r1578.holds') hs1576 out.1.marks ∧ MemL w' (rowL 0 s1568 5 out.1.in_.ctx :: rowL 0 s1570 23 hs1571 :: r1573 :: rowL 0 s1575 60 hs1576 :: r1578 :: Lr)) := by
  unfold Sh.ref23_Decode at hP
  refine calls_enter (vs := [(s1).v]) Tryz.func46 rfl Tryz.ntmps46 rfl fun a hF => ?_
  refine c_seq ?_
  refine c_region ?_
  refine s_eff hF rfl rfl rfl (w_alloc z36 (zs := RRecord.zero.enc) rfl rfl fun b_B46_2 w hzB46_2 hAB46_2 => ?_)
  have hM := hM.plus hAB46_2
  replace hM : MemL _ (pt b_B46_2 (RRecord.enc (RRecord.mk (RInput.mk SV.nil SV.nil) SV.nil 0)) 36 :: Lr) := hM
  intro a hF
  refine s_val hF (r_assign hF rfl rfl) rfl rfl rfl fun a hF => ?_
  refine s_val hF (r_assign hF rfl rfl) rfl rfl rfl fun a hF => ?_
  refine c_nil (n_then ?_)
  refine c_seq ?_
  refine c_seq ?_
  refine c_region ?_
  refine s_val hF (r_move hF rfl rfl) rfl rfl rfl fun a hF => ?_
  refine s_val hF (r_lenL (f2 _ (hsub _ (dropM hM 1))) Tryz.underlying23 hF rfl rfl) rfl rfl rfl fun a hF => ?_
  refine s_val hF (r_gtr hF rfl rfl rfl) rfl rfl rfl fun a hF => ?_
  refine c_nil (n_then ?_)
  refine c_cond hF (c := .tmp 14) rfl (fun hb1582 => ?_) (fun hb1582 => ?_)
  · have hP := Fx.cT hb1582 hP
    refine c_seq ?_
    refine c_region ?_
    refine s_val hF (r_build z36 Tryz.underlying36 pl36 hF (parts := []) rfl rfl fill_e) rfl rfl rfl fun a hF => ?_
    refine s_eff0 rfl rfl (w_storen (vs := _) Tryz.sizeOf36 (hM.obj (i := 0) rfl) hF rfl rfl rfl rfl (RRecord.len _) (RRecord.one _) (by first | (rw [RRecord.len, RRecord.len]; decide) | (rw [RRecord.len]; decide)) (put_all ((RRecord.len _).trans (RRecord.len _).symm)) fun w hU1583 => ?_)
    have hM := hM.chg hU1583 (i := 0) rfl
    replace hM : MemL _ (pt b_B46_2 (RRecord.enc (RRecord.mk (RInput.mk SV.nil SV.nil) SV.nil 0)) 36 :: Lr) := hM
    refine s_val hF (r_assign hF rfl rfl) rfl rfl rfl fun a hF => ?_
    refine s_val hF (r_assign hF rfl rfl) rfl rfl rfl fun a hF => ?_
    refine c_nil (n_then ?_)
    refine c_ret ?_
    have hM := hM.rowNil (X := UInt8) 0 5
    obtain ⟨r1586, hM⟩ := voidM hM
    have q1587 : Each (LIn (X := UInt8) r1586.holds') ([] : List SV) ([] : List (List UInt8)) := Each.nil
    have hM := hM.rowNil (X := SV) 0 23
    obtain ⟨r1589, hM⟩ := voidM hM
    have q1590 : Each (QMarkIn r1589.holds') ([] : List RMark) ([] : List QMark) := Each.nil
    have hM := hM.rowNil (X := RMark) 0 60
    have hP := Option.some.inj hP
    subst hP
    refine e_ret (rs := [.cell 2 36, .tmp 3, .tmp 4]) Tryz.results46 hF (res_celln hF rfl Tryz.isAgg36 Tryz.sizeOf36 (RRecord.len _) (hM.cells (i := 5) rfl (cut_all (RRecord.len _))) (res_tmp hF rfl (res_tmp hF rfl res_nil))) rfl ?_
    exact ⟨SV.nil, SV.nil, [], r1586, SV.nil, [], r1589, rfl, q1587, q1590, selM hM [4, 2, 3, 0, 1] 6 rfl⟩
  have hP := Fx.cF hb1582 hP
  refine c_skip (n_then ?_)
  refine c_seq ?_
  refine c_region ?_
  refine s_val hF (r_move hF rfl rfl) rfl rfl rfl fun a hF => ?_
  refine s_val hF (r_build z184 Tryz.underlying184 pl184 hF (parts := [(0, .tmp 16), (1, .const (.int .i64 (4)))]) rfl rfl (fill_s rfl rfl (by rw [RCursor.len]; decide) (RCursor.s_b _ _) (fill_s rfl rfl (by rw [RCursor.len]; decide) (RCursor.s_at_ _ _) fill_e))) rfl rfl rfl fun a hF => ?_
  refine s_eff hF rfl rfl rfl (w_box hF rfl rfl rfl fun b_B46_18 w hzB46_18 hAB46_18 => ?_)
  have hM := hM.plus hAB46_18
  replace hM : MemL _ (pt b_B46_18 (RCursor.enc (RCursor.mk s1 4 0 0)) 184 :: pt b_B46_2 (RRecord.enc (RRecord.mk (RInput.mk SV.nil SV.nil) SV.nil 0)) 36 :: Lr) := hM
  intro a hF
  refine s_val hF (r_assign hF rfl rfl) rfl rfl rfl fun a hF => ?_
  refine c_nil (n_then ?_)
  refine c_seq ?_
  refine c_joinX hF hM hP (fun F x a w => match x with | v1655 => ∃ (s1656 : SV), LIn Bf s1656 v1655.b ∧ Fr 158 [(0, (s1).v), (2, .pointer (some ⟨b_B46_2, 0, none⟩)), (3, .int .i64 0), (4, .int .i64 0), (5, .pointer (some ⟨b_B46_18, 0, none⟩))] a ∧ MemL w (pt b_B46_18 (RCursor.enc (RCursor.mk s1656 v1655.at_ v1655.place v1655.e)) 184 :: pt b_B46_2 (RRecord.enc (RRecord.mk (RInput.mk SV.nil SV.nil) SV.nil 0)) 36 :: Lr)) (fun o_j1 hP hK_j1 hF hM => ?_) ?_
  · refine c_seq ?_
    refine c_region ?_
    refine s_val hF (r_move hF rfl rfl) rfl rfl rfl fun a hF => ?_
    refine s_val hF (r_lenL (f2 _ (hsub _ (dropM hM 2))) Tryz.underlying23 hF rfl rfl) rfl rfl rfl fun a hF => ?_
    refine s_val hF (r_lss hF rfl rfl rfl) rfl rfl rfl fun a hF => ?_
    refine c_nil (n_then ?_)
    refine c_cond hF (c := .tmp 21) rfl (fun hb1658 => ?_) (fun hb1658 => ?_)
    · have hP := Fx.cT hb1658 hP
      refine c_region ?_
      refine s_val hF (r_move hF rfl rfl) rfl rfl rfl fun a hF => ?_
      refine s_val hF (r_move hF rfl rfl) rfl rfl rfl fun a hF => ?_
      refine s_val hF (r_lenL (f2 _ (hsub _ (dropM hM 2))) Tryz.underlying23 hF rfl rfl) rfl rfl rfl fun a hF => ?_
      obtain ⟨y1660, hy1660, hP⟩ := bind_some hP
      refine s_eff hF rfl rfl rfl (w_call (xs := [.tmp 22, .tmp 24, .const (.int .i64 (236))]) Tryz.call119 hF rfl rfl (ref23_cursor_fault_calls hy1660 hM (Bf := Bf) (fun w hM => hsub _ (dropM hM 1)) f2) fun v w hR => ?_)
      obtain ⟨s1661, rfl, f1662, hM⟩ := hR
      replace hM : MemL _ (pt b_B46_18 (RCursor.enc (RCursor.mk s1661 y1660.at_ y1660.place y1660.e)) 184 :: pt b_B46_2 (RRecord.enc (RRecord.mk (RInput.mk SV.nil SV.nil) SV.nil 0)) 36 :: Lr) := hM
      intro a hF
      refine c_nil (n_then ?_)
      have hP := Option.some.inj hP
      subst hP
      exact ⟨y1660, rfl, s1661, f1662, hF.to ⟨rfl, rfl, rfl, rfl, rfl, trivial⟩, hM⟩
    have hP := Fx.cF hb1658 hP
    refine c_seq ?_
    refine c_joinX hF hM hP (fun F x a w => match x with | v1677 => Fr 158 [(47, .bool v1677), (0, (s1).v), (2, .pointer (some ⟨b_B46_2, 0, none⟩)), (3, .int .i64 0), (4, .int .i64 0), (5, .pointer (some ⟨b_B46_18, 0, none⟩))] a ∧ MemL w (pt b_B46_18 (RCursor.enc (RCursor.mk s1 4 0 0)) 184 :: pt b_B46_2 (RRecord.enc (RRecord.mk (RInput.mk SV.nil SV.nil) SV.nil 0)) 36 :: Lr)) (fun o_j2 hP hK_j2 hF hM => ?_) ?_
    · refine c_region ?_
      refine s_val hF (r_move hF rfl rfl) rfl rfl rfl fun a hF => ?_
      obtain ⟨x1678, hx1678, hP⟩ := bind_some hP
      have h0x1678 := get_some hx1678
      refine s_val hF (r_indexZ (sz := 1) (f2 _ (hsub _ (dropM hM 2))) Tryz.underlying23 in5 rfl hF rfl rfl rfl (get_bd hx1678)) rfl rfl rfl fun a hF => ?_
      refine s_val hF (r_load1 Tryz.isAgg5 hF rfl rfl ((((f2 _ (hsub _ (dropM hM 2))).elemS h0x1678.2)).get 0 rfl)) rfl rfl rfl fun a hF => ?_
      refine s_val hF (r_neq hF rfl rfl rfl) rfl rfl rfl fun a hF => ?_
      refine s_val hF (r_move hF rfl rfl) rfl rfl rfl fun a hF => ?_
      refine g_split 30 hF rfl (fun hb1679 => ?_) (fun hb1679 => ?_)
      · have hP := Fx.cT hb1679 hP
        refine g_skip hF rfl rfl rfl hb1679 rfl rfl fun a hF => ?_
        refine g_skip hF rfl rfl rfl hb1679 rfl rfl fun a hF => ?_
        refine g_skip hF rfl rfl rfl hb1679 rfl rfl fun a hF => ?_
        refine g_skip hF rfl rfl rfl hb1679 rfl rfl fun a hF => ?_
        refine s_val hF (r_pick1 hF rfl rfl hb1679 rfl) rfl rfl rfl fun a hF => ?_
        refine s_val hF (r_move hF rfl rfl) rfl rfl rfl fun a hF => ?_
        refine g_skip hF rfl rfl rfl rfl rfl rfl fun a hF => ?_
        refine g_skip hF rfl rfl rfl rfl rfl rfl fun a hF => ?_
        refine g_skip hF rfl rfl rfl rfl rfl rfl fun a hF => ?_
        refine g_skip hF rfl rfl rfl rfl rfl rfl fun a hF => ?_
        refine s_val hF (r_pick1 hF rfl rfl rfl rfl) rfl rfl rfl fun a hF => ?_
        refine s_val hF (r_move hF rfl rfl) rfl rfl rfl fun a hF => ?_
        refine g_skip hF rfl rfl rfl rfl rfl rfl fun a hF => ?_
        refine g_skip hF rfl rfl rfl rfl rfl rfl fun a hF => ?_
        refine g_skip hF rfl rfl rfl rfl rfl rfl fun a hF => ?_
        refine g_skip hF rfl rfl rfl rfl rfl rfl fun a hF => ?_
        refine s_val hF (r_pick1 hF rfl rfl rfl rfl) rfl rfl rfl fun a hF => ?_
        refine c_nil (n_then ?_)
        have hP := Option.some.inj hP
        subst hP
        exact ⟨true, rfl, hF.to ⟨rfl, rfl, rfl, rfl, rfl, rfl, trivial⟩, hM⟩
      have hP := Fx.cF hb1679 hP
      refine g_val hF rfl rfl rfl hb1679 (r_move hF rfl rfl) rfl rfl fun a hF => ?_
      obtain ⟨x1680, hx1680, hP⟩ := bind_some hP
      have h0x1680 := get_some hx1680
      refine g_val hF rfl rfl rfl hb1679 (r_indexZ (sz := 1) (f2 _ (hsub _ (dropM hM 2))) Tryz.underlying23 in5 rfl hF rfl rfl rfl (get_bd hx1680)) rfl rfl fun a hF => ?_
      refine g_val hF rfl rfl rfl hb1679 (r_load1 Tryz.isAgg5 hF rfl rfl ((((f2 _ (hsub _ (dropM hM 2))).elemS h0x1680.2)).get 0 rfl)) rfl rfl fun a hF => ?_
      refine g_val hF rfl rfl rfl hb1679 (r_neq hF rfl rfl rfl) rfl rfl fun a hF => ?_
      refine s_val hF (r_pick0 hF rfl rfl hb1679 rfl) rfl rfl rfl fun a hF => ?_
      refine s_val hF (r_move hF rfl rfl) rfl rfl rfl fun a hF => ?_
      refine g_split 36 hF rfl (fun hb1681 => ?_) (fun hb1681 => ?_)
      · have hP := Fx.cT hb1681 hP
        refine g_skip hF rfl rfl rfl hb1681 rfl rfl fun a hF => ?_
        refine g_skip hF rfl rfl rfl hb1681 rfl rfl fun a hF => ?_
        refine g_skip hF rfl rfl rfl hb1681 rfl rfl fun a hF => ?_
        refine g_skip hF rfl rfl rfl hb1681 rfl rfl fun a hF => ?_
        refine s_val hF (r_pick1 hF rfl rfl hb1681 rfl) rfl rfl rfl fun a hF => ?_
        refine s_val hF (r_move hF rfl rfl) rfl rfl rfl fun a hF => ?_
        refine g_skip hF rfl rfl rfl rfl rfl rfl fun a hF => ?_
        refine g_skip hF rfl rfl rfl rfl rfl rfl fun a hF => ?_
        refine g_skip hF rfl rfl rfl rfl rfl rfl fun a hF => ?_
        refine g_skip hF rfl rfl rfl rfl rfl rfl fun a hF => ?_
        refine s_val hF (r_pick1 hF rfl rfl rfl rfl) rfl rfl rfl fun a hF => ?_
        refine c_nil (n_then ?_)
        have hP := Option.some.inj hP
        subst hP
        exact ⟨true, rfl, hF.to ⟨rfl, rfl, rfl, rfl, rfl, rfl, trivial⟩, hM⟩
      have hP := Fx.cF hb1681 hP
      refine g_val hF rfl rfl rfl hb1681 (r_move hF rfl rfl) rfl rfl fun a hF => ?_
      obtain ⟨x1682, hx1682, hP⟩ := bind_some hP
      have h0x1682 := get_some hx1682
      refine g_val hF rfl rfl rfl hb1681 (r_indexZ (sz := 1) (f2 _ (hsub _ (dropM hM 2))) Tryz.underlying23 in5 rfl hF rfl rfl rfl (get_bd hx1682)) rfl rfl fun a hF => ?_
      refine g_val hF rfl rfl rfl hb1681 (r_load1 Tryz.isAgg5 hF rfl rfl ((((f2 _ (hsub _ (dropM hM 2))).elemS h0x1682.2)).get 0 rfl)) rfl rfl fun a hF => ?_
      refine g_val hF rfl rfl rfl hb1681 (r_neq hF rfl rfl rfl) rfl rfl fun a hF => ?_
      refine s_val hF (r_pick0 hF rfl rfl hb1681 rfl) rfl rfl rfl fun a hF => ?_
      refine s_val hF (r_move hF rfl rfl) rfl rfl rfl fun a hF => ?_
      refine g_split 42 hF rfl (fun hb1683 => ?_) (fun hb1683 => ?_)
      · have hP := Fx.cT hb1683 hP
        refine g_skip hF rfl rfl rfl hb1683 rfl rfl fun a hF => ?_
        refine g_skip hF rfl rfl rfl hb1683 rfl rfl fun a hF => ?_
        refine g_skip hF rfl rfl rfl hb1683 rfl rfl fun a hF => ?_
        refine g_skip hF rfl rfl rfl hb1683 rfl rfl fun a hF => ?_
        refine s_val hF (r_pick1 hF rfl rfl hb1683 rfl) rfl rfl rfl fun a hF => ?_
        refine c_nil (n_then ?_)
        have hP := Option.some.inj hP
        subst hP
        exact ⟨true, rfl, hF.to ⟨rfl, rfl, rfl, rfl, rfl, rfl, trivial⟩, hM⟩
      have hP := Fx.cF hb1683 hP
      refine g_val hF rfl rfl rfl hb1683 (r_move hF rfl rfl) rfl rfl fun a hF => ?_
      obtain ⟨x1684, hx1684, hP⟩ := bind_some hP
      have h0x1684 := get_some hx1684
      refine g_val hF rfl rfl rfl hb1683 (r_indexZ (sz := 1) (f2 _ (hsub _ (dropM hM 2))) Tryz.underlying23 in5 rfl hF rfl rfl rfl (get_bd hx1684)) rfl rfl fun a hF => ?_
      refine g_val hF rfl rfl rfl hb1683 (r_load1 Tryz.isAgg5 hF rfl rfl ((((f2 _ (hsub _ (dropM hM 2))).elemS h0x1684.2)).get 0 rfl)) rfl rfl fun a hF => ?_
      refine g_val hF rfl rfl rfl hb1683 (r_neq hF rfl rfl rfl) rfl rfl fun a hF => ?_
      refine s_val hF (r_pick0 hF rfl rfl hb1683 rfl) rfl rfl rfl fun a hF => ?_
      refine c_nil (n_then ?_)
      have hP := Option.some.inj hP
      subst hP
      exact ⟨(!decide ((x1684.toNat : Int) = 49)), rfl, hF.to ⟨rfl, rfl, rfl, rfl, rfl, rfl, trivial⟩, hM⟩
    rintro v1677 a w hP ⟨hF, hM⟩
    replace hP : Sh.ref23_Decode_j2 x0 v1677 = _ := hP
    unfold Sh.ref23_Decode_j2 at hP
    refine n_then ?_
    refine c_cond hF (c := .tmp 47) rfl (fun hb1685 => ?_) (fun hb1685 => ?_)
    · have hP := Fx.cT hb1685 hP
      refine c_region ?_
      refine s_val hF (r_move hF rfl rfl) rfl rfl rfl fun a hF => ?_
      obtain ⟨y1687, hy1687, hP⟩ := bind_some hP
      refine s_eff hF rfl rfl rfl (w_call (xs := [.tmp 48, .const (.int .i64 (0)), .const (.int .i64 (236))]) Tryz.call119 hF rfl rfl (ref23_cursor_fault_calls hy1687 hM (Bf := Bf) (fun w hM => hsub _ (dropM hM 1)) f2) fun v w hR => ?_)
      obtain ⟨s1688, rfl, f1689, hM⟩ := hR
      replace hM : MemL _ (pt b_B46_18 (RCursor.enc (RCursor.mk s1688 y1687.at_ y1687.place y1687.e)) 184 :: pt b_B46_2 (RRecord.enc (RRecord.mk (RInput.mk SV.nil SV.nil) SV.nil 0)) 36 :: Lr) := hM
      intro a hF
      refine c_nil (n_then ?_)
      have hP := Option.some.inj hP
      subst hP
      exact ⟨y1687, rfl, s1688, f1689, hF.to ⟨rfl, rfl, rfl, rfl, rfl, trivial⟩, hM⟩
    have hP := Fx.cF hb1685 hP
    refine c_skip (n_then ?_)
    have hP := Option.some.inj hP
    subst hP
    exact ⟨(QCursor.mk x0 4 0 0), rfl, s1, f2, hF.to ⟨rfl, rfl, rfl, rfl, rfl, trivial⟩, hM⟩
  rintro v1655 a w hP ⟨s1656, f1657, hF, hM⟩
  replace hP : Sh.ref23_Decode_j1 x0 v1655 = _ := hP
  unfold Sh.ref23_Decode_j1 at hP
  refine n_then ?_
  refine c_seq ?_
  refine c_region ?_
  refine s_eff hF rfl rfl rfl (w_alloc z36 (zs := RRecord.zero.enc) rfl rfl fun b_B46_6 w hzB46_6 hAB46_6 => ?_)
  have hM := hM.plus hAB46_6
  replace hM : MemL _ (pt b_B46_6 (RRecord.enc (RRecord.mk (RInput.mk SV.nil SV.nil) SV.nil 0)) 36 :: pt b_B46_18 (RCursor.enc (RCursor.mk s1656 v1655.at_ v1655.place v1655.e)) 184 :: pt b_B46_2 (RRecord.enc (RRecord.mk (RInput.mk SV.nil SV.nil) SV.nil 0)) 36 :: Lr) := hM
  intro a hF
  refine c_nil (n_then ?_)
  refine c_seq ?_
  refine c_region ?_
  refine s_val hF (r_move hF rfl rfl) rfl rfl rfl fun a hF => ?_
  refine s_val hF (r_move hF rfl rfl) rfl rfl rfl fun a hF => ?_
  obtain ⟨y1691, hy1691, hP⟩ := bind_some hP
  refine s_eff hF rfl rfl rfl (w_call (xs := [.tmp 51, .const (.int .i64 (2))]) Tryz.call121 hF rfl rfl (ref23_cursor_number_calls hy1691 (selM hM [1, 0, 2] 3 rfl) (Bf := Bf) (fun w hM => hsub _ (dropM hM 2)) f1657) fun v w hR => ?_)
  obtain ⟨s1692, rfl, f1693, hM⟩ := hR
  replace hM : MemL _ (pt b_B46_18 (RCursor.enc (RCursor.mk s1692 y1691.2.at_ y1691.2.place y1691.2.e)) 184 :: pt b_B46_6 (RRecord.enc (RRecord.mk (RInput.mk SV.nil SV.nil) SV.nil 0)) 36 :: pt b_B46_2 (RRecord.enc (RRecord.mk (RInput.mk SV.nil SV.nil) SV.nil 0)) 36 :: Lr) := hM
  intro a hF
  obtain ⟨y1695, hy1695, hP⟩ := bind_some hP
  refine s_eff hF rfl rfl rfl (w_call (xs := [.tmp 50, .tmp 52]) Tryz.call120 hF rfl rfl (ref23_cursor_bytes_calls hy1695 hM (Bf := Bf) (fun w hM => hsub _ (dropM hM 2)) f1693) fun v w hR => ?_)
  obtain ⟨s1696, s1698, rfl, f1699, hM⟩ := hR
  replace hM : MemL _ (rowL 0 s1696 5 y1695.1 :: pt b_B46_18 (RCursor.enc (RCursor.mk s1698 y1695.2.at_ y1695.2.place y1695.2.e)) 184 :: pt b_B46_6 (RRecord.enc (RRecord.mk (RInput.mk SV.nil SV.nil) SV.nil 0)) 36 :: pt b_B46_2 (RRecord.enc (RRecord.mk (RInput.mk SV.nil SV.nil) SV.nil 0)) 36 :: Lr) := hM
  intro a hF
  refine s_val hF (r_fieldAddr (off' := 0) Tryz.underlying36 rfl in30 rfl hF rfl rfl rfl) rfl rfl rfl fun a hF => ?_
  refine s_val hF (r_fieldAddr (off' := 0) Tryz.underlying30 rfl in23 rfl hF rfl rfl rfl) rfl rfl rfl fun a hF => ?_
  refine s_eff0 rfl rfl (w_store1 Tryz.sizeOf23 (hM.obj (i := 2) rfl) hF rfl rfl rfl rfl (by rw [RRecord.len]; decide) (set_deep (RRecord.c_in_ _) (RInput.s_ctx _ _) (RRecord.p_in_ _ _) (by rw [RRecord.len]; decide) (by decide)) fun w hU1700 => ?_)
  have hM := hM.chg hU1700 (i := 2) rfl
  replace hM : MemL _ (rowL 0 s1696 5 y1695.1 :: pt b_B46_18 (RCursor.enc (RCursor.mk s1698 y1695.2.at_ y1695.2.place y1695.2.e)) 184 :: pt b_B46_6 (RRecord.enc (RRecord.mk (RInput.mk s1696 SV.nil) SV.nil 0)) 36 :: pt b_B46_2 (RRecord.enc (RRecord.mk (RInput.mk SV.nil SV.nil) SV.nil 0)) 36 :: Lr) := hM
  refine c_nil (n_then ?_)
  refine c_seq ?_
  refine c_region ?_
  refine s_val hF (r_move hF rfl rfl) rfl rfl rfl fun a hF => ?_
  obtain ⟨y1702, hy1702, hP⟩ := bind_some hP
  refine s_eff hF rfl rfl rfl (w_call (xs := [.tmp 56, .const (.int .i64 (1)), .const (.int .i64 (8))]) Tryz.call122 hF rfl rfl (ref23_cursor_most_calls hy1702 (selM hM [1, 0, 2, 3] 4 rfl) (Bf := Bf) (fun w hM => hsub _ (dropM hM 3)) f1699) fun v w hR => ?_)
  obtain ⟨s1703, rfl, f1704, hM⟩ := hR
  replace hM : MemL _ (pt b_B46_18 (RCursor.enc (RCursor.mk s1703 y1702.2.at_ y1702.2.place y1702.2.e)) 184 :: rowL 0 s1696 5 y1695.1 :: pt b_B46_6 (RRecord.enc (RRecord.mk (RInput.mk s1696 SV.nil) SV.nil 0)) 36 :: pt b_B46_2 (RRecord.enc (RRecord.mk (RInput.mk SV.nil SV.nil) SV.nil 0)) 36 :: Lr) := hM
  intro a hF
  refine s_val hF (r_assign hF rfl rfl) rfl rfl rfl fun a hF => ?_
  refine c_nil (n_then ?_)
  refine c_seq ?_
  refine c_joinX hF hM hP (fun F x a w => match x with | (v2035, v2038) => ∃ (s2036 : SV) (s2039 : SV) (s2041 : SV) (hs2042 : List SV) (r2044 : Res), LIn Bf s2036 v2035.b ∧ Each (LIn (X := UInt8) r2044.holds') hs2042 v2038.tables ∧ Fr 158 [(0, (s1).v), (2, .pointer (some ⟨b_B46_2, 0, none⟩)), (3, .int .i64 0), (4, .int .i64 0), (5, .pointer (some ⟨b_B46_18, 0, none⟩)), (6, .pointer (some ⟨b_B46_6, 0, none⟩))] a ∧ MemL w (pt b_B46_18 (RCursor.enc (RCursor.mk s2036 v2035.at_ v2035.place v2035.e)) 184 :: pt b_B46_6 (RRecord.enc (RRecord.mk (RInput.mk s2039 s2041) SV.nil 0)) 36 :: rowL 0 s2039 5 v2038.ctx :: rowL 0 s2041 23 hs2042 :: r2044 :: pt b_B46_2 (RRecord.enc (RRecord.mk (RInput.mk SV.nil SV.nil) SV.nil 0)) 36 :: Lr)) (fun o_j3 hP hK_j3 hF hM => ?_) ?_
  · refine c_seq ?_
    refine c_region ?_
    refine s_val hF (r_assign hF rfl rfl) rfl rfl rfl fun a hF => ?_
    refine c_nil (n_then ?_)
    refine c_block ?_
    obtain ⟨r2165, hM⟩ := voidM hM
    have q2166 : Each (LIn (X := UInt8) r2165.holds') ([] : List SV) ([] : List (List UInt8)) := Each.nil
    have hM := hM.rowNil (X := SV) 0 23
    refine c_loopX hF hM hP (fun F x a w => match x with | (v2152, v2155, v2163) => ∃ (s2153 : SV) (s2156 : SV) (s2158 : SV) (hs2159 : List SV) (r2161 : Res), LIn Bf s2153 v2152.b ∧ Each (LIn (X := UInt8) r2161.holds') hs2159 v2155.tables ∧ Fr 158 [(8, .int .i64 v2163), (0, (s1).v), (2, .pointer (some ⟨b_B46_2, 0, none⟩)), (3, .int .i64 0), (4, .int .i64 0), (5, .pointer (some ⟨b_B46_18, 0, none⟩)), (6, .pointer (some ⟨b_B46_6, 0, none⟩)), (7, .int .i64 y1702.1)] a ∧ MemL w (pt b_B46_18 (RCursor.enc (RCursor.mk s2153 v2152.at_ v2152.place v2152.e)) 184 :: pt b_B46_6 (RRecord.enc (RRecord.mk (RInput.mk s2156 s2158) SV.nil 0)) 36 :: rowL 0 s2156 5 v2155.ctx :: rowL 0 s2158 23 hs2159 :: r2161 :: pt b_B46_2 (RRecord.enc (RRecord.mk (RInput.mk SV.nil SV.nil) SV.nil 0)) 36 :: Lr)) (fun hF hM => ⟨s1703, s1696, SV.nil, [], r2165, f1704, q2166, hF.to ⟨rfl, rfl, rfl, rfl, rfl, rfl, rfl, rfl, trivial⟩, selM hM [2, 4, 3, 0, 1, 5] 6 rfl⟩) ?_
    rintro ⟨v2152, v2155, v2163⟩ a w o_l4 hP hK_l4 ⟨s2153, s2156, s2158, hs2159, r2161, f2154, q2162, hF, hM⟩
    replace hP : Sh.ref23_Decode_l4 y1702 v2152 v2155 v2163 = _ := hP
    unfold Sh.ref23_Decode_l4 at hP
    refine c_seq ?_
    refine c_seq ?_
    refine c_joinX hF hM hP (fun F x a w => match x with | v2174 => Fr 158 [(67, .bool v2174), (0, (s1).v), (2, .pointer (some ⟨b_B46_2, 0, none⟩)), (3, .int .i64 0), (4, .int .i64 0), (5, .pointer (some ⟨b_B46_18, 0, none⟩)), (6, .pointer (some ⟨b_B46_6, 0, none⟩)), (7, .int .i64 y1702.1), (8, .int .i64 v2163)] a ∧ MemL w (pt b_B46_18 (RCursor.enc (RCursor.mk s2153 v2152.at_ v2152.place v2152.e)) 184 :: pt b_B46_6 (RRecord.enc (RRecord.mk (RInput.mk s2156 s2158) SV.nil 0)) 36 :: pt b_B46_2 (RRecord.enc (RRecord.mk (RInput.mk SV.nil SV.nil) SV.nil 0)) 36 :: rowL 0 s2156 5 v2155.ctx :: rowL 0 s2158 23 hs2159 :: r2161 :: Lr)) (fun o_j5 hP hK_j5 hF hM => ?_) ?_
    · refine c_region ?_
      refine s_val hF (r_move hF rfl rfl) rfl rfl rfl fun a hF => ?_
      refine s_val hF (r_move hF rfl rfl) rfl rfl rfl fun a hF => ?_
      refine s_val hF (r_lss hF rfl rfl rfl) rfl rfl rfl fun a hF => ?_
      refine s_val hF (r_move hF rfl rfl) rfl rfl rfl fun a hF => ?_
      refine g_split 61 hF rfl (fun hb2175 => ?_) (fun hb2175 => ?_)
      · have hP := Fx.cT hb2175 hP
        refine g_val hF rfl rfl rfl hb2175 (r_move hF rfl rfl) rfl rfl fun a hF => ?_
        refine g_val hF rfl rfl rfl hb2175 (r_nilCheckP hF rfl rfl) rfl rfl fun a hF => ?_
        refine g_val hF rfl rfl rfl hb2175 (r_fieldAddr (off' := 3) Tryz.underlying184 rfl in3 rfl hF rfl rfl rfl) rfl rfl fun a hF => ?_
        refine g_val hF rfl rfl rfl hb2175 (r_load1 Tryz.isAgg3 hF rfl rfl (hM.cell (i := 0) rfl (RCursor.g_e _))) rfl rfl fun a hF => ?_
        refine g_val hF rfl rfl rfl hb2175 (r_eql hF rfl rfl rfl) rfl rfl fun a hF => ?_
        refine s_val hF (r_pick1 hF rfl rfl hb2175 rfl) rfl rfl rfl fun a hF => ?_
        refine c_nil (n_then ?_)
        have hP := Option.some.inj hP
        subst hP
        exact ⟨(decide (v2152.e = 0)), rfl, hF.to ⟨rfl, rfl, rfl, rfl, rfl, rfl, rfl, rfl, rfl, trivial⟩, selM hM [0, 1, 5, 2, 3, 4] 6 rfl⟩
      have hP := Fx.cF hb2175 hP
      refine g_skip hF rfl rfl rfl hb2175 rfl rfl fun a hF => ?_
      refine g_skip hF rfl rfl rfl hb2175 rfl rfl fun a hF => ?_
      refine g_skip hF rfl rfl rfl hb2175 rfl rfl fun a hF => ?_
      refine g_skip hF rfl rfl rfl hb2175 rfl rfl fun a hF => ?_
      refine g_skip hF rfl rfl rfl hb2175 rfl rfl fun a hF => ?_
      refine s_val hF (r_pick0 hF rfl rfl hb2175 rfl) rfl rfl rfl fun a hF => ?_
      refine c_nil (n_then ?_)
      have hP := Option.some.inj hP
      subst hP
      exact ⟨false, rfl, hF.to ⟨rfl, rfl, rfl, rfl, rfl, rfl, rfl, rfl, rfl, trivial⟩, selM hM [0, 1, 5, 2, 3, 4] 6 rfl⟩
    rintro v2174 a w hP ⟨hF, hM⟩
    replace hP : Sh.ref23_Decode_j5 v2152 v2155 v2163 v2174 = _ := hP
    unfold Sh.ref23_Decode_j5 at hP
    refine n_then ?_
    refine c_cond hF (c := .tmp 67) rfl (fun hb2176 => ?_) (fun hb2176 => ?_)
    · have hP := Fx.cT hb2176 hP
      refine c_skip (n_then ?_)
      refine c_seq ?_
      refine c_block ?_
      refine d_startT mixed (by kernel_rfl) hM [1, 2, 3, 4, 5] 6 rfl fun hch => ?_
      refine d_val hF hch 0 rfl (by kernel_rfl) rfl rfl rfl (fun w hM => (r_fieldAddr (off' := 0) Tryz.underlying36 rfl in30 rfl hF rfl rfl rfl)) fun a hF => ?_
      refine d_val hF hch 1 rfl (by kernel_rfl) rfl rfl rfl (fun w hM => (r_fieldAddr (off' := 1) Tryz.underlying30 rfl in28 rfl hF rfl rfl rfl)) fun a hF => ?_
      refine d_val hF hch 2 rfl (by kernel_rfl) rfl rfl rfl (fun w hM => (r_load1 Tryz.isAgg28 hF rfl rfl ((hM.cells (i := 0) rfl (RRecord.c_in_ _)).get 1 (RInput.g_tables _)))) fun a hF => ?_
      refine d_val hF hch 3 rfl (by kernel_rfl) rfl rfl rfl (fun w hM => (r_move hF rfl rfl)) fun a hF => ?_
      refine d_val hF hch 4 rfl (by kernel_rfl) rfl rfl rfl (fun w hM => (r_move hF rfl rfl)) fun a hF => ?_
      refine d_one hch 5 (by kernel_rfl) rfl rfl ?_
      refine d_ex hF 5 rfl rfl rfl rfl rfl fun w hMs hM => ?_
      obtain ⟨y2195, hy2195, hP⟩ := bind_some hP
      refine (w_call (xs := [.tmp 74, .const (.int .i64 (2))]) Tryz.call121 hF rfl rfl (ref23_cursor_number_calls hy2195 hM (Bf := Bf) (fun w hM => hsub _ (dropM hM 5)) f2154) fun v w hR => ?_)
      obtain ⟨s2196, rfl, f2197, hM⟩ := hR
      replace hM : MemL _ (pt b_B46_18 (RCursor.enc (RCursor.mk s2196 y2195.2.at_ y2195.2.place y2195.2.e)) 184 :: pt b_B46_6 (RRecord.enc (RRecord.mk (RInput.mk s2156 s2158) SV.nil 0)) 36 :: pt b_B46_2 (RRecord.enc (RRecord.mk (RInput.mk SV.nil SV.nil) SV.nil 0)) 36 :: rowL 0 s2156 5 v2155.ctx :: rowL 0 s2158 23 hs2159 :: r2161 :: Lr) := hM
      have hMs := selM hM [1, 2, 3, 4, 5] 6 rfl
      refine ⟨_, _, hMs, hM, .inl fun _ h => h, fun a hF => ?_⟩
      refine d_one hch 6 (by kernel_rfl) rfl rfl ?_
      refine d_ex hF 6 rfl rfl rfl rfl rfl fun w hMs hM => ?_
      obtain ⟨y2199, hy2199, hP⟩ := bind_some hP
      refine (w_call (xs := [.tmp 73, .tmp 75]) Tryz.call120 hF rfl rfl (ref23_cursor_bytes_calls hy2199 hM (Bf := Bf) (fun w hM => hsub _ (dropM hM 5)) f2197) fun v w hR => ?_)
      obtain ⟨s2200, s2202, rfl, f2203, hM⟩ := hR
      replace hM : MemL _ (rowL 0 s2200 5 y2199.1 :: pt b_B46_18 (RCursor.enc (RCursor.mk s2202 y2199.2.at_ y2199.2.place y2199.2.e)) 184 :: pt b_B46_6 (RRecord.enc (RRecord.mk (RInput.mk s2156 s2158) SV.nil 0)) 36 :: pt b_B46_2 (RRecord.enc (RRecord.mk (RInput.mk SV.nil SV.nil) SV.nil 0)) 36 :: rowL 0 s2156 5 v2155.ctx :: rowL 0 s2158 23 hs2159 :: r2161 :: Lr) := hM
      have hMs := selM hM [0, 2, 3, 4, 5, 6] 7 rfl
      refine ⟨_, _, hMs, hM, .inl fun _ h => dropM h 1, fun a hF => ?_⟩
      refine d_one hch 7 (by kernel_rfl) rfl rfl ?_
      refine d_ex hF 7 rfl rfl rfl rfl rfl fun w hMs hM => ?_
      refine (w_slice1 (X := SV) (y := s2200) Tryz.underlying28 in23 rfl rfl rfl rfl hF rfl rfl rfl fun b_B46_77 w hzB46_77 hAB46_77 => ?_)
      have hM := hM.plus hAB46_77
      replace hM : MemL _ (pt b_B46_77 (encs ([s2200] : List SV)) 23 :: rowL 0 s2200 5 y2199.1 :: pt b_B46_18 (RCursor.enc (RCursor.mk s2202 y2199.2.at_ y2199.2.place y2199.2.e)) 184 :: pt b_B46_6 (RRecord.enc (RRecord.mk (RInput.mk s2156 s2158) SV.nil 0)) 36 :: pt b_B46_2 (RRecord.enc (RRecord.mk (RInput.mk SV.nil SV.nil) SV.nil 0)) 36 :: rowL 0 s2156 5 v2155.ctx :: rowL 0 s2158 23 hs2159 :: r2161 :: Lr) := hM
      have hMs := selM hM [0, 1, 3, 4, 5, 6, 7] 8 rfl
      refine ⟨_, _, hMs, hM, .inl fun _ h => dropM h 1, fun a hF => ?_⟩
      refine d_one hch 8 (by kernel_rfl) rfl rfl ?_
      refine d_ex hF 8 rfl rfl rfl rfl rfl fun w hMs hM => ?_
      obtain ⟨x2205, hx2205, hP⟩ := bind_some hP
      refine (w_appD (X := SV) hx2205 q2162.len rfl Tryz.underlying28 in23 rfl rfl rfl rfl hF rfl rfl rfl (hM.own (X := SV) (i := 6) rfl) (hM.ptS (X := SV) (i := 0) (n := 1) (c := 1) rfl rfl rfl (Nat.le_refl _)) fun s2204 w hUs2204 => ?_)
      have hM := hM.chg hUs2204 (i := 6) rfl
      replace hM : MemL _ (pt b_B46_77 (encs ([s2200] : List SV)) 23 :: rowL 0 s2200 5 y2199.1 :: pt b_B46_18 (RCursor.enc (RCursor.mk s2202 y2199.2.at_ y2199.2.place y2199.2.e)) 184 :: pt b_B46_6 (RRecord.enc (RRecord.mk (RInput.mk s2156 s2158) SV.nil 0)) 36 :: pt b_B46_2 (RRecord.enc (RRecord.mk (RInput.mk SV.nil SV.nil) SV.nil 0)) 36 :: rowL 0 s2156 5 v2155.ctx :: rowL 0 s2204 23 (hs2159 ++ [s2200]) :: r2161 :: Lr) := hM
      obtain ⟨r2206, hj2207, hj2208, hM⟩ := joinM (selM hM [7, 1, 0, 2, 3, 4, 5, 6] 8 rfl)
      replace hM : MemL _ (r2206 :: pt b_B46_77 (encs ([s2200] : List SV)) 23 :: pt b_B46_18 (RCursor.enc (RCursor.mk s2202 y2199.2.at_ y2199.2.place y2199.2.e)) 184 :: pt b_B46_6 (RRecord.enc (RRecord.mk (RInput.mk s2156 s2158) SV.nil 0)) 36 :: pt b_B46_2 (RRecord.enc (RRecord.mk (RInput.mk SV.nil SV.nil) SV.nil 0)) 36 :: rowL 0 s2156 5 v2155.ctx :: rowL 0 s2204 23 (hs2159 ++ [s2200]) :: Lr) := hM
      have q2209 : Each (LIn (X := UInt8) r2206.holds') (hs2159 ++ [s2200]) x2205 := by rw [(app_some hx2205).2]; exact (q2162.mono fun _ _ q => q.mono hj2207).snoc (fun w h => row_in (X := UInt8) (e := 5) (hj2208 w h))
      replace hM : MemL _ (r2206 :: pt b_B46_77 (encs ([s2200] : List SV)) 23 :: pt b_B46_18 (RCursor.enc (RCursor.mk s2202 y2199.2.at_ y2199.2.place y2199.2.e)) 184 :: pt b_B46_6 (RRecord.enc (RRecord.mk (RInput.mk s2156 s2158) SV.nil 0)) 36 :: pt b_B46_2 (RRecord.enc (RRecord.mk (RInput.mk SV.nil SV.nil) SV.nil 0)) 36 :: rowL 0 s2156 5 v2155.ctx :: rowL 0 s2204 23 (hs2159 ++ [s2200]) :: Lr) := hM
      have hMs := hM
      refine ⟨_, _, hMs, hM, .inr (by kernel_rfl), fun a hF => ?_⟩
      refine d_val hF hch 9 rfl (by kernel_rfl) rfl rfl rfl (fun w hM => (r_fieldAddr (off' := 0) Tryz.underlying36 rfl in30 rfl hF rfl rfl rfl)) fun a hF => ?_
      refine d_val hF hch 10 rfl (by kernel_rfl) rfl rfl rfl (fun w hM => (r_fieldAddr (off' := 1) Tryz.underlying30 rfl in28 rfl hF rfl rfl rfl)) fun a hF => ?_
      refine d_one hch 11 (by kernel_rfl) rfl rfl ?_
      refine d_ex0 11 rfl rfl rfl rfl fun w hMs hM => ?_
      refine (w_store1 Tryz.sizeOf28 (hM.obj (i := 3) rfl) hF rfl rfl rfl rfl (by rw [RRecord.len]; decide) (set_deep (RRecord.c_in_ _) (RInput.s_tables _ _) (RRecord.p_in_ _ _) (by rw [RRecord.len]; decide) (by decide)) fun w hU2210 => ?_)
      have hM := hM.chg hU2210 (i := 3) rfl
      replace hM : MemL _ (r2206 :: pt b_B46_77 (encs ([s2200] : List SV)) 23 :: pt b_B46_18 (RCursor.enc (RCursor.mk s2202 y2199.2.at_ y2199.2.place y2199.2.e)) 184 :: pt b_B46_6 (RRecord.enc (RRecord.mk (RInput.mk s2156 s2204) SV.nil 0)) 36 :: pt b_B46_2 (RRecord.enc (RRecord.mk (RInput.mk SV.nil SV.nil) SV.nil 0)) 36 :: rowL 0 s2156 5 v2155.ctx :: rowL 0 s2204 23 (hs2159 ++ [s2200]) :: Lr) := hM
      have hMs := hM
      refine ⟨_, _, hMs, hM, .inr (by kernel_rfl), ?_⟩
      refine d_end hch (by kernel_rfl) fun w hM => ?_
      refine n_block (n_then ?_)
      refine c_region ?_
      refine s_val hF (r_move hF rfl rfl) rfl rfl rfl fun a hF => ?_
      refine s_val hF (r_add hF rfl rfl rfl) rfl rfl rfl fun a hF => ?_
      refine s_val hF (r_assign hF rfl rfl) rfl rfl rfl fun a hF => ?_
      refine c_nil (n_then ?_)
      have hP := Option.some.inj hP
      subst hP
      exact ⟨(y2199.2, (QInput.mk v2155.ctx x2205), (IntKind.i64.wrap (v2163 + 1))), rfl, s2202, s2156, s2204, (hs2159 ++ [s2200]), r2206, f2203, q2209, hF.to ⟨rfl, rfl, rfl, rfl, rfl, rfl, rfl, rfl, trivial⟩, selM hM [2, 3, 5, 6, 0, 4] 7 rfl⟩
    have hP := Fx.cF hb2176 hP
    refine c_exit (x_then (x_then (x_hit ?_)))
    refine n_then ?_
    have hP := Option.some.inj hP
    subst hP
    have hP := hK_l4 _ rfl
    subst hP
    exact ⟨(v2152, v2155), rfl, s2153, s2156, s2158, hs2159, r2161, f2154, q2162, hF.to ⟨rfl, rfl, rfl, rfl, rfl, rfl, trivial⟩, selM hM [0, 1, 3, 4, 5, 2] 6 rfl⟩
  rintro ⟨v2035, v2038⟩ a w hP ⟨s2036, s2039, s2041, hs2042, r2044, f2037, q2045, hF, hM⟩
  replace hP : Sh.ref23_Decode_j3 x0 v2035 v2038 = _ := hP
  unfold Sh.ref23_Decode_j3 at hP
  refine n_then ?_
  refine c_seq ?_
  refine c_region ?_
  refine s_val hF (r_move hF rfl rfl) rfl rfl rfl fun a hF => ?_
  refine s_val hF (r_nilCheckP hF rfl rfl) rfl rfl rfl fun a hF => ?_
  refine s_val hF (r_fieldAddr (off' := 1) Tryz.underlying184 rfl in3 rfl hF rfl rfl rfl) rfl rfl rfl fun a hF => ?_
  refine s_val hF (r_load1 Tryz.isAgg3 hF rfl rfl (hM.cell (i := 0) rfl (RCursor.g_at_ _))) rfl rfl rfl fun a hF => ?_
  refine s_val hF (r_assign hF rfl rfl) rfl rfl rfl fun a hF => ?_
  refine c_nil (n_then ?_)
  refine c_seq ?_
  refine c_region ?_
  refine s_val hF (r_move hF rfl rfl) rfl rfl rfl fun a hF => ?_
  obtain ⟨y2212, hy2212, hP⟩ := bind_some hP
  refine s_eff hF rfl rfl rfl (w_call (xs := [.tmp 85, .const (.int .i64 (1))]) Tryz.call121 hF rfl rfl (ref23_cursor_number_calls hy2212 hM (Bf := Bf) (fun w hM => hsub _ (dropM hM 5)) f2037) fun v w hR => ?_)
  obtain ⟨s2213, rfl, f2214, hM⟩ := hR
  replace hM : MemL _ (pt b_B46_18 (RCursor.enc (RCursor.mk s2213 y2212.2.at_ y2212.2.place y2212.2.e)) 184 :: pt b_B46_6 (RRecord.enc (RRecord.mk (RInput.mk s2039 s2041) SV.nil 0)) 36 :: rowL 0 s2039 5 v2038.ctx :: rowL 0 s2041 23 hs2042 :: r2044 :: pt b_B46_2 (RRecord.enc (RRecord.mk (RInput.mk SV.nil SV.nil) SV.nil 0)) 36 :: Lr) := hM
  intro a hF
  refine s_val hF (r_assign hF rfl rfl) rfl rfl rfl fun a hF => ?_
  refine c_nil (n_then ?_)
  refine c_seq ?_
  refine c_joinX hF hM hP (fun F x a w => match x with | v2245 => ∃ (s2246 : SV), LIn Bf s2246 v2245.b ∧ Fr 158 [(0, (s1).v), (10, .int .i64 y2212.1), (2, .pointer (some ⟨b_B46_2, 0, none⟩)), (3, .int .i64 0), (4, .int .i64 0), (5, .pointer (some ⟨b_B46_18, 0, none⟩)), (6, .pointer (some ⟨b_B46_6, 0, none⟩))] a ∧ MemL w (pt b_B46_18 (RCursor.enc (RCursor.mk s2246 v2245.at_ v2245.place v2245.e)) 184 :: pt b_B46_6 (RRecord.enc (RRecord.mk (RInput.mk s2039 s2041) SV.nil 0)) 36 :: pt b_B46_2 (RRecord.enc (RRecord.mk (RInput.mk SV.nil SV.nil) SV.nil 0)) 36 :: rowL 0 s2039 5 v2038.ctx :: rowL 0 s2041 23 hs2042 :: r2044 :: Lr)) (fun o_j6 hP hK_j6 hF hM => ?_) ?_
  · refine c_seq ?_
    refine c_joinX hF hM hP (fun F x a w => match x with | v2254 => Fr 158 [(96, .bool v2254), (0, (s1).v), (10, .int .i64 y2212.1), (2, .pointer (some ⟨b_B46_2, 0, none⟩)), (3, .int .i64 0), (4, .int .i64 0), (5, .pointer (some ⟨b_B46_18, 0, none⟩)), (6, .pointer (some ⟨b_B46_6, 0, none⟩)), (9, .int .i64 v2035.at_)] a ∧ MemL w (pt b_B46_18 (RCursor.enc (RCursor.mk s2213 y2212.2.at_ y2212.2.place y2212.2.e)) 184 :: pt b_B46_6 (RRecord.enc (RRecord.mk (RInput.mk s2039 s2041) SV.nil 0)) 36 :: pt b_B46_2 (RRecord.enc (RRecord.mk (RInput.mk SV.nil SV.nil) SV.nil 0)) 36 :: rowL 0 s2039 5 v2038.ctx :: rowL 0 s2041 23 hs2042 :: r2044 :: Lr)) (fun o_j7 hP hK_j7 hF hM => ?_) ?_
    · refine c_region ?_
      refine s_val hF (r_move hF rfl rfl) rfl rfl rfl fun a hF => ?_
      refine s_val hF (r_nilCheckP hF rfl rfl) rfl rfl rfl fun a hF => ?_
      refine s_val hF (r_fieldAddr (off' := 3) Tryz.underlying184 rfl in3 rfl hF rfl rfl rfl) rfl rfl rfl fun a hF => ?_
      refine s_val hF (r_load1 Tryz.isAgg3 hF rfl rfl (hM.cell (i := 0) rfl (RCursor.g_e _))) rfl rfl rfl fun a hF => ?_
      refine s_val hF (r_eql hF rfl rfl rfl) rfl rfl rfl fun a hF => ?_
      refine s_val hF (r_move hF rfl rfl) rfl rfl rfl fun a hF => ?_
      refine g_split 92 hF rfl (fun hb2255 => ?_) (fun hb2255 => ?_)
      · have hP := Fx.cT hb2255 hP
        refine g_val hF rfl rfl rfl hb2255 (r_move hF rfl rfl) rfl rfl fun a hF => ?_
        obtain ⟨y2257, hy2257, hP⟩ := bind_some hP
        refine g_eff hF rfl rfl rfl hb2255 rfl rfl (w_call (xs := [.tmp 93]) Tryz.call107 hF rfl rfl (ref23_goodEnd_calls hy2257 hM ) fun v w hR => ?_)
        obtain ⟨rfl, hM⟩ := hR
        replace hM : MemL _ (pt b_B46_18 (RCursor.enc (RCursor.mk s2213 y2212.2.at_ y2212.2.place y2212.2.e)) 184 :: pt b_B46_6 (RRecord.enc (RRecord.mk (RInput.mk s2039 s2041) SV.nil 0)) 36 :: rowL 0 s2039 5 v2038.ctx :: rowL 0 s2041 23 hs2042 :: r2044 :: pt b_B46_2 (RRecord.enc (RRecord.mk (RInput.mk SV.nil SV.nil) SV.nil 0)) 36 :: Lr) := hM
        intro a hF
        refine g_val hF rfl rfl rfl hb2255 (r_not hF rfl rfl) rfl rfl fun a hF => ?_
        refine s_val hF (r_pick1 hF rfl rfl hb2255 rfl) rfl rfl rfl fun a hF => ?_
        refine c_nil (n_then ?_)
        have hP := Option.some.inj hP
        subst hP
        exact ⟨(!y2257), rfl, hF.to ⟨rfl, rfl, rfl, rfl, rfl, rfl, rfl, rfl, rfl, trivial⟩, selM hM [0, 1, 5, 2, 3, 4] 6 rfl⟩
      have hP := Fx.cF hb2255 hP
      refine g_skip hF rfl rfl rfl hb2255 rfl rfl fun a hF => ?_
      refine g_skip hF rfl rfl rfl hb2255 rfl rfl fun a hF => ?_
      refine g_skip hF rfl rfl rfl hb2255 rfl rfl fun a hF => ?_
      refine s_val hF (r_pick0 hF rfl rfl hb2255 rfl) rfl rfl rfl fun a hF => ?_
      refine c_nil (n_then ?_)
      have hP := Option.some.inj hP
      subst hP
      exact ⟨false, rfl, hF.to ⟨rfl, rfl, rfl, rfl, rfl, rfl, rfl, rfl, rfl, trivial⟩, selM hM [0, 1, 5, 2, 3, 4] 6 rfl⟩
    rintro v2254 a w hP ⟨hF, hM⟩
    replace hP : Sh.ref23_Decode_j7 v2035 y2212 v2254 = _ := hP
    unfold Sh.ref23_Decode_j7 at hP
    refine n_then ?_
    refine c_cond hF (c := .tmp 96) rfl (fun hb2258 => ?_) (fun hb2258 => ?_)
    · have hP := Fx.cT hb2258 hP
      refine c_region ?_
      refine s_val hF (r_move hF rfl rfl) rfl rfl rfl fun a hF => ?_
      refine s_val hF (r_move hF rfl rfl) rfl rfl rfl fun a hF => ?_
      obtain ⟨y2260, hy2260, hP⟩ := bind_some hP
      refine s_eff hF rfl rfl rfl (w_call (xs := [.tmp 97, .tmp 98, .const (.int .i64 (236))]) Tryz.call119 hF rfl rfl (ref23_cursor_fault_calls hy2260 hM (Bf := Bf) (fun w hM => hsub _ (dropM hM 5)) f2214) fun v w hR => ?_)
      obtain ⟨s2261, rfl, f2262, hM⟩ := hR
      replace hM : MemL _ (pt b_B46_18 (RCursor.enc (RCursor.mk s2261 y2260.at_ y2260.place y2260.e)) 184 :: pt b_B46_6 (RRecord.enc (RRecord.mk (RInput.mk s2039 s2041) SV.nil 0)) 36 :: pt b_B46_2 (RRecord.enc (RRecord.mk (RInput.mk SV.nil SV.nil) SV.nil 0)) 36 :: rowL 0 s2039 5 v2038.ctx :: rowL 0 s2041 23 hs2042 :: r2044 :: Lr) := hM
      intro a hF
      refine c_nil (n_then ?_)
      have hP := Option.some.inj hP
      subst hP
      exact ⟨y2260, rfl, s2261, f2262, hF.to ⟨rfl, rfl, rfl, rfl, rfl, rfl, rfl, trivial⟩, hM⟩
    have hP := Fx.cF hb2258 hP
    refine c_skip (n_then ?_)
    have hP := Option.some.inj hP
    subst hP
    exact ⟨y2212.2, rfl, s2213, f2214, hF.to ⟨rfl, rfl, rfl, rfl, rfl, rfl, rfl, trivial⟩, hM⟩
  rintro v2245 a w hP ⟨s2246, f2247, hF, hM⟩
  replace hP : Sh.ref23_Decode_j6 x0 v2038 y2212 v2245 = _ := hP
  unfold Sh.ref23_Decode_j6 at hP
  refine n_then ?_
  refine c_seq ?_
  refine c_region ?_
  refine s_val hF (r_move hF rfl rfl) rfl rfl rfl fun a hF => ?_
  refine s_val hF (r_fieldAddr (off' := 3) Tryz.underlying36 rfl in34 rfl hF rfl rfl rfl) rfl rfl rfl fun a hF => ?_
  refine s_eff0 rfl rfl (w_store1 Tryz.sizeOf34 (hM.obj (i := 1) rfl) hF rfl rfl rfl rfl (by rw [RRecord.len]; decide) (RRecord.s_end_ _ _) fun w hU2263 => ?_)
  have hM := hM.chg hU2263 (i := 1) rfl
  replace hM : MemL _ (pt b_B46_18 (RCursor.enc (RCursor.mk s2246 v2245.at_ v2245.place v2245.e)) 184 :: pt b_B46_6 (RRecord.enc (RRecord.mk (RInput.mk s2039 s2041) SV.nil y2212.1)) 36 :: pt b_B46_2 (RRecord.enc (RRecord.mk (RInput.mk SV.nil SV.nil) SV.nil 0)) 36 :: rowL 0 s2039 5 v2038.ctx :: rowL 0 s2041 23 hs2042 :: r2044 :: Lr) := hM
  refine c_nil (n_then ?_)
  refine c_seq ?_
  refine c_region ?_
  refine s_val hF (r_move hF rfl rfl) rfl rfl rfl fun a hF => ?_
  obtain ⟨y2265, hy2265, hP⟩ := bind_some hP
  refine s_eff hF rfl rfl rfl (w_call (xs := [.tmp 102, .const (.int .i64 (4))]) Tryz.call121 hF rfl rfl (ref23_cursor_number_calls hy2265 hM (Bf := Bf) (fun w hM => hsub _ (dropM hM 5)) f2247) fun v w hR => ?_)
  obtain ⟨s2266, rfl, f2267, hM⟩ := hR
  replace hM : MemL _ (pt b_B46_18 (RCursor.enc (RCursor.mk s2266 y2265.2.at_ y2265.2.place y2265.2.e)) 184 :: pt b_B46_6 (RRecord.enc (RRecord.mk (RInput.mk s2039 s2041) SV.nil y2212.1)) 36 :: pt b_B46_2 (RRecord.enc (RRecord.mk (RInput.mk SV.nil SV.nil) SV.nil 0)) 36 :: rowL 0 s2039 5 v2038.ctx :: rowL 0 s2041 23 hs2042 :: r2044 :: Lr) := hM
  intro a hF
  refine s_val hF (r_assign hF rfl rfl) rfl rfl rfl fun a hF => ?_
  refine c_nil (n_then ?_)
  refine c_seq ?_
  refine c_joinX hF hM hP (fun F x a w => match x with | (v2822, v2825) => ∃ (s2823 : SV) (s2826 : SV) (s2828 : SV) (hs2829 : List SV) (r2831 : Res) (s2833 : SV) (hs2834 : List RMark) (r2836 : Res), LIn Bf s2823 v2822.b ∧ Each (LIn (X := UInt8) r2831.holds') hs2829 v2825.in_.tables ∧ Each (QMarkIn r2836.holds') hs2834 v2825.marks ∧ Fr 158 [(0, (s1).v), (2, .pointer (some ⟨b_B46_2, 0, none⟩)), (3, .int .i64 0), (4, .int .i64 0), (5, .pointer (some ⟨b_B46_18, 0, none⟩)), (6, .pointer (some ⟨b_B46_6, 0, none⟩))] a ∧ MemL w (pt b_B46_18 (RCursor.enc (RCursor.mk s2823 v2822.at_ v2822.place v2822.e)) 184 :: pt b_B46_6 (RRecord.enc (RRecord.mk (RInput.mk s2826 s2828) s2833 v2825.end_)) 36 :: rowL 0 s2826 5 v2825.in_.ctx :: rowL 0 s2828 23 hs2829 :: r2831 :: rowL 0 s2833 60 hs2834 :: r2836 :: pt b_B46_2 (RRecord.enc (RRecord.mk (RInput.mk SV.nil SV.nil) SV.nil 0)) 36 :: Lr)) (fun o_j8 hP hK_j8 hF hM => ?_) ?_
  · refine c_seq ?_
    refine c_region ?_
    refine s_val hF (r_assign hF rfl rfl) rfl rfl rfl fun a hF => ?_
    refine c_nil (n_then ?_)
    refine c_block ?_
    obtain ⟨r3035, hM⟩ := voidM hM
    have q3036 : Each (QMarkIn r3035.holds') ([] : List RMark) ([] : List QMark) := Each.nil
    have hM := hM.rowNil (X := RMark) 0 60
    refine c_loopX hF hM hP (fun F x a w => match x with | (v3017, v3020, v3033) => ∃ (s3018 : SV) (s3021 : SV) (s3023 : SV) (hs3024 : List SV) (r3026 : Res) (s3028 : SV) (hs3029 : List RMark) (r3031 : Res), LIn Bf s3018 v3017.b ∧ Each (LIn (X := UInt8) r3026.holds') hs3024 v3020.in_.tables ∧ Each (QMarkIn r3031.holds') hs3029 v3020.marks ∧ Fr 158 [(11, .int .i64 v3033), (0, (s1).v), (2, .pointer (some ⟨b_B46_2, 0, none⟩)), (3, .int .i64 0), (4, .int .i64 0), (5, .pointer (some ⟨b_B46_18, 0, none⟩)), (6, .pointer (some ⟨b_B46_6, 0, none⟩)), (7, .int .i64 y2265.1)] a ∧ MemL w (pt b_B46_18 (RCursor.enc (RCursor.mk s3018 v3017.at_ v3017.place v3017.e)) 184 :: pt b_B46_6 (RRecord.enc (RRecord.mk (RInput.mk s3021 s3023) s3028 v3020.end_)) 36 :: rowL 0 s3021 5 v3020.in_.ctx :: rowL 0 s3023 23 hs3024 :: r3026 :: rowL 0 s3028 60 hs3029 :: r3031 :: pt b_B46_2 (RRecord.enc (RRecord.mk (RInput.mk SV.nil SV.nil) SV.nil 0)) 36 :: Lr)) (fun hF hM => ⟨s2266, s2039, s2041, hs2042, r2044, SV.nil, [], r3035, f2267, q2045, q3036, hF.to ⟨rfl, rfl, rfl, rfl, rfl, rfl, rfl, rfl, trivial⟩, selM hM [2, 3, 5, 6, 7, 0, 1, 4] 8 rfl⟩) ?_
    rintro ⟨v3017, v3020, v3033⟩ a w o_l9 hP hK_l9 ⟨s3018, s3021, s3023, hs3024, r3026, s3028, hs3029, r3031, f3019, q3027, q3032, hF, hM⟩
    replace hP : Sh.ref23_Decode_l9 y2265 v3017 v3020 v3033 = _ := hP
    unfold Sh.ref23_Decode_l9 at hP
    refine c_seq ?_
    refine c_seq ?_
    refine c_joinX hF hM hP (fun F x a w => match x with | v3044 => Fr 158 [(113, .bool v3044), (0, (s1).v), (11, .int .i64 v3033), (2, .pointer (some ⟨b_B46_2, 0, none⟩)), (3, .int .i64 0), (4, .int .i64 0), (5, .pointer (some ⟨b_B46_18, 0, none⟩)), (6, .pointer (some ⟨b_B46_6, 0, none⟩)), (7, .int .i64 y2265.1)] a ∧ MemL w (pt b_B46_18 (RCursor.enc (RCursor.mk s3018 v3017.at_ v3017.place v3017.e)) 184 :: pt b_B46_6 (RRecord.enc (RRecord.mk (RInput.mk s3021 s3023) s3028 v3020.end_)) 36 :: pt b_B46_2 (RRecord.enc (RRecord.mk (RInput.mk SV.nil SV.nil) SV.nil 0)) 36 :: rowL 0 s3021 5 v3020.in_.ctx :: rowL 0 s3023 23 hs3024 :: r3026 :: rowL 0 s3028 60 hs3029 :: r3031 :: Lr)) (fun o_j10 hP hK_j10 hF hM => ?_) ?_
    · refine c_region ?_
      refine s_val hF (r_move hF rfl rfl) rfl rfl rfl fun a hF => ?_
      refine s_val hF (r_move hF rfl rfl) rfl rfl rfl fun a hF => ?_
      refine s_val hF (r_lss hF rfl rfl rfl) rfl rfl rfl fun a hF => ?_
      refine s_val hF (r_move hF rfl rfl) rfl rfl rfl fun a hF => ?_
      refine g_split 107 hF rfl (fun hb3045 => ?_) (fun hb3045 => ?_)
      · have hP := Fx.cT hb3045 hP
        refine g_val hF rfl rfl rfl hb3045 (r_move hF rfl rfl) rfl rfl fun a hF => ?_
        refine g_val hF rfl rfl rfl hb3045 (r_nilCheckP hF rfl rfl) rfl rfl fun a hF => ?_
        refine g_val hF rfl rfl rfl hb3045 (r_fieldAddr (off' := 3) Tryz.underlying184 rfl in3 rfl hF rfl rfl rfl) rfl rfl fun a hF => ?_
        refine g_val hF rfl rfl rfl hb3045 (r_load1 Tryz.isAgg3 hF rfl rfl (hM.cell (i := 0) rfl (RCursor.g_e _))) rfl rfl fun a hF => ?_
        refine g_val hF rfl rfl rfl hb3045 (r_eql hF rfl rfl rfl) rfl rfl fun a hF => ?_
        refine s_val hF (r_pick1 hF rfl rfl hb3045 rfl) rfl rfl rfl fun a hF => ?_
        refine c_nil (n_then ?_)
        have hP := Option.some.inj hP
        subst hP
        exact ⟨(decide (v3017.e = 0)), rfl, hF.to ⟨rfl, rfl, rfl, rfl, rfl, rfl, rfl, rfl, rfl, trivial⟩, selM hM [0, 1, 7, 2, 3, 4, 5, 6] 8 rfl⟩
      have hP := Fx.cF hb3045 hP
      refine g_skip hF rfl rfl rfl hb3045 rfl rfl fun a hF => ?_
      refine g_skip hF rfl rfl rfl hb3045 rfl rfl fun a hF => ?_
      refine g_skip hF rfl rfl rfl hb3045 rfl rfl fun a hF => ?_
      refine g_skip hF rfl rfl rfl hb3045 rfl rfl fun a hF => ?_
      refine g_skip hF rfl rfl rfl hb3045 rfl rfl fun a hF => ?_
      refine s_val hF (r_pick0 hF rfl rfl hb3045 rfl) rfl rfl rfl fun a hF => ?_
      refine c_nil (n_then ?_)
      have hP := Option.some.inj hP
      subst hP
      exact ⟨false, rfl, hF.to ⟨rfl, rfl, rfl, rfl, rfl, rfl, rfl, rfl, rfl, trivial⟩, selM hM [0, 1, 7, 2, 3, 4, 5, 6] 8 rfl⟩
    rintro v3044 a w hP ⟨hF, hM⟩
    replace hP : Sh.ref23_Decode_j10 v3017 v3020 v3033 v3044 = _ := hP
    unfold Sh.ref23_Decode_j10 at hP
    refine n_then ?_
    refine c_cond hF (c := .tmp 113) rfl (fun hb3046 => ?_) (fun hb3046 => ?_)
    · have hP := Fx.cT hb3046 hP
      refine c_skip (n_then ?_)
      refine c_seq ?_
      refine c_block ?_
      refine d_startT mixed (by kernel_rfl) hM [1, 2, 3, 4, 5, 6, 7] 8 rfl fun hch => ?_
      refine d_val hF hch 0 rfl (by kernel_rfl) rfl rfl rfl (fun w hM => (r_fieldAddr (off' := 2) Tryz.underlying36 rfl in33 rfl hF rfl rfl rfl)) fun a hF => ?_
      refine d_val hF hch 1 rfl (by kernel_rfl) rfl rfl rfl (fun w hM => (r_load1 Tryz.isAgg33 hF rfl rfl (hM.cell (i := 0) rfl (RRecord.g_marks _)))) fun a hF => ?_
      refine d_val hF hch 2 rfl (by kernel_rfl) rfl rfl rfl (fun w hM => (r_move hF rfl rfl)) fun a hF => ?_
      refine d_one hch 3 (by kernel_rfl) rfl rfl ?_
      refine d_ex hF 3 rfl rfl rfl rfl rfl fun w hMs hM => ?_
      obtain ⟨y3082, hy3082, hP⟩ := bind_some hP
      refine (w_call (xs := [.tmp 118]) Tryz.call123 hF rfl rfl (ref23_cursor_mark_calls hy3082 hM (Bf := Bf) (fun w hM => hsub _ (dropM hM 7)) f3019) fun v w hR => ?_)
      obtain ⟨s3083, s3085, s3087, hs3088, r3090, s3092, s3094, rfl, q3091, f3095, hM⟩ := hR
      replace hM : MemL _ (rowL 0 s3083 128 y3082.1.regs :: rowL 0 s3085 151 y3082.1.slots :: rowL 0 s3087 156 hs3088 :: r3090 :: rowL 0 s3092 3 y3082.1.sent :: pt b_B46_18 (RCursor.enc (RCursor.mk s3094 y3082.2.at_ y3082.2.place y3082.2.e)) 184 :: pt b_B46_6 (RRecord.enc (RRecord.mk (RInput.mk s3021 s3023) s3028 v3020.end_)) 36 :: pt b_B46_2 (RRecord.enc (RRecord.mk (RInput.mk SV.nil SV.nil) SV.nil 0)) 36 :: rowL 0 s3021 5 v3020.in_.ctx :: rowL 0 s3023 23 hs3024 :: r3026 :: rowL 0 s3028 60 hs3029 :: r3031 :: Lr) := hM
      have hMs := selM hM [0, 1, 2, 3, 4, 6, 7, 8, 9, 10, 11, 12] 13 rfl
      refine ⟨_, _, hMs, hM, .inl fun _ h => dropM h 5, fun a hF => ?_⟩
      refine d_one hch 4 (by kernel_rfl) rfl rfl ?_
      refine d_ex hF 4 rfl rfl rfl rfl rfl fun w hMs hM => ?_
      refine (w_slice1 (X := RMark) (y := (RMark.mk y3082.1.at_ y3082.1.next y3082.1.done s3083 s3085 s3087 s3092)) Tryz.underlying33 in60 rfl rfl rfl rfl hF rfl rfl rfl fun b_B46_120 w hzB46_120 hAB46_120 => ?_)
      have hM := hM.plus hAB46_120
      replace hM : MemL _ (pt b_B46_120 (encs ([(RMark.mk y3082.1.at_ y3082.1.next y3082.1.done s3083 s3085 s3087 s3092)] : List RMark)) 60 :: rowL 0 s3083 128 y3082.1.regs :: rowL 0 s3085 151 y3082.1.slots :: rowL 0 s3087 156 hs3088 :: r3090 :: rowL 0 s3092 3 y3082.1.sent :: pt b_B46_18 (RCursor.enc (RCursor.mk s3094 y3082.2.at_ y3082.2.place y3082.2.e)) 184 :: pt b_B46_6 (RRecord.enc (RRecord.mk (RInput.mk s3021 s3023) s3028 v3020.end_)) 36 :: pt b_B46_2 (RRecord.enc (RRecord.mk (RInput.mk SV.nil SV.nil) SV.nil 0)) 36 :: rowL 0 s3021 5 v3020.in_.ctx :: rowL 0 s3023 23 hs3024 :: r3026 :: rowL 0 s3028 60 hs3029 :: r3031 :: Lr) := hM
      have hMs := selM hM [0, 1, 2, 3, 4, 5, 7, 8, 9, 10, 11, 12, 13] 14 rfl
      refine ⟨_, _, hMs, hM, .inl fun _ h => dropM h 1, fun a hF => ?_⟩
      refine d_one hch 5 (by kernel_rfl) rfl rfl ?_
      refine d_ex hF 5 rfl rfl rfl rfl rfl fun w hMs hM => ?_
      obtain ⟨x3097, hx3097, hP⟩ := bind_some hP
      refine (w_appD (X := RMark) hx3097 q3032.len rfl Tryz.underlying33 in60 rfl rfl rfl rfl hF rfl rfl rfl (hM.own (X := RMark) (i := 12) rfl) (hM.ptS (X := RMark) (i := 0) (n := 1) (c := 1) rfl rfl rfl (Nat.le_refl _)) fun s3096 w hUs3096 => ?_)
      have hM := hM.chg hUs3096 (i := 12) rfl
      replace hM : MemL _ (pt b_B46_120 (encs ([(RMark.mk y3082.1.at_ y3082.1.next y3082.1.done s3083 s3085 s3087 s3092)] : List RMark)) 60 :: rowL 0 s3083 128 y3082.1.regs :: rowL 0 s3085 151 y3082.1.slots :: rowL 0 s3087 156 hs3088 :: r3090 :: rowL 0 s3092 3 y3082.1.sent :: pt b_B46_18 (RCursor.enc (RCursor.mk s3094 y3082.2.at_ y3082.2.place y3082.2.e)) 184 :: pt b_B46_6 (RRecord.enc (RRecord.mk (RInput.mk s3021 s3023) s3028 v3020.end_)) 36 :: pt b_B46_2 (RRecord.enc (RRecord.mk (RInput.mk SV.nil SV.nil) SV.nil 0)) 36 :: rowL 0 s3021 5 v3020.in_.ctx :: rowL 0 s3023 23 hs3024 :: r3026 :: rowL 0 s3096 60 (hs3029 ++ [(RMark.mk y3082.1.at_ y3082.1.next y3082.1.done s3083 s3085 s3087 s3092)]) :: r3031 :: Lr) := hM
      obtain ⟨r3098, hj3099, hj3100, hM⟩ := joinM (selM hM [13, 1, 0, 2, 3, 4, 5, 6, 7, 8, 9, 10, 11, 12] 14 rfl)
      replace hM : MemL _ (r3098 :: pt b_B46_120 (encs ([(RMark.mk y3082.1.at_ y3082.1.next y3082.1.done s3083 s3085 s3087 s3092)] : List RMark)) 60 :: rowL 0 s3085 151 y3082.1.slots :: rowL 0 s3087 156 hs3088 :: r3090 :: rowL 0 s3092 3 y3082.1.sent :: pt b_B46_18 (RCursor.enc (RCursor.mk s3094 y3082.2.at_ y3082.2.place y3082.2.e)) 184 :: pt b_B46_6 (RRecord.enc (RRecord.mk (RInput.mk s3021 s3023) s3028 v3020.end_)) 36 :: pt b_B46_2 (RRecord.enc (RRecord.mk (RInput.mk SV.nil SV.nil) SV.nil 0)) 36 :: rowL 0 s3021 5 v3020.in_.ctx :: rowL 0 s3023 23 hs3024 :: r3026 :: rowL 0 s3096 60 (hs3029 ++ [(RMark.mk y3082.1.at_ y3082.1.next y3082.1.done s3083 s3085 s3087 s3092)]) :: Lr) := hM
      obtain ⟨r3101, hj3102, hj3103, hM⟩ := joinM (selM hM [0, 2, 1, 3, 4, 5, 6, 7, 8, 9, 10, 11, 12] 13 rfl)
      replace hM : MemL _ (r3101 :: pt b_B46_120 (encs ([(RMark.mk y3082.1.at_ y3082.1.next y3082.1.done s3083 s3085 s3087 s3092)] : List RMark)) 60 :: rowL 0 s3087 156 hs3088 :: r3090 :: rowL 0 s3092 3 y3082.1.sent :: pt b_B46_18 (RCursor.enc (RCursor.mk s3094 y3082.2.at_ y3082.2.place y3082.2.e)) 184 :: pt b_B46_6 (RRecord.enc (RRecord.mk (RInput.mk s3021 s3023) s3028 v3020.end_)) 36 :: pt b_B46_2 (RRecord.enc (RRecord.mk (RInput.mk SV.nil SV.nil) SV.nil 0)) 36 :: rowL 0 s3021 5 v3020.in_.ctx :: rowL 0 s3023 23 hs3024 :: r3026 :: rowL 0 s3096 60 (hs3029 ++ [(RMark.mk y3082.1.at_ y3082.1.next y3082.1.done s3083 s3085 s3087 s3092)]) :: Lr) := hM
      obtain ⟨r3104, hj3105, hj3106, hM⟩ := joinM (selM hM [0, 2, 1, 3, 4, 5, 6, 7, 8, 9, 10, 11] 12 rfl)
      replace hM : MemL _ (r3104 :: pt b_B46_120 (encs ([(RMark.mk y3082.1.at_ y3082.1.next y3082.1.done s3083 s3085 s3087 s3092)] : List RMark)) 60 :: r3090 :: rowL 0 s3092 3 y3082.1.sent :: pt b_B46_18 (RCursor.enc (RCursor.mk s3094 y3082.2.at_ y3082.2.place y3082.2.e)) 184 :: pt b_B46_6 (RRecord.enc (RRecord.mk (RInput.mk s3021 s3023) s3028 v3020.end_)) 36 :: pt b_B46_2 (RRecord.enc (RRecord.mk (RInput.mk SV.nil SV.nil) SV.nil 0)) 36 :: rowL 0 s3021 5 v3020.in_.ctx :: rowL 0 s3023 23 hs3024 :: r3026 :: rowL 0 s3096 60 (hs3029 ++ [(RMark.mk y3082.1.at_ y3082.1.next y3082.1.done s3083 s3085 s3087 s3092)]) :: Lr) := hM
      obtain ⟨r3107, hj3108, hj3109, hM⟩ := joinM (selM hM [0, 2, 1, 3, 4, 5, 6, 7, 8, 9, 10] 11 rfl)
      replace hM : MemL _ (r3107 :: pt b_B46_120 (encs ([(RMark.mk y3082.1.at_ y3082.1.next y3082.1.done s3083 s3085 s3087 s3092)] : List RMark)) 60 :: rowL 0 s3092 3 y3082.1.sent :: pt b_B46_18 (RCursor.enc (RCursor.mk s3094 y3082.2.at_ y3082.2.place y3082.2.e)) 184 :: pt b_B46_6 (RRecord.enc (RRecord.mk (RInput.mk s3021 s3023) s3028 v3020.end_)) 36 :: pt b_B46_2 (RRecord.enc (RRecord.mk (RInput.mk SV.nil SV.nil) SV.nil 0)) 36 :: rowL 0 s3021 5 v3020.in_.ctx :: rowL 0 s3023 23 hs3024 :: r3026 :: rowL 0 s3096 60 (hs3029 ++ [(RMark.mk y3082.1.at_ y3082.1.next y3082.1.done s3083 s3085 s3087 s3092)]) :: Lr) := hM
      obtain ⟨r3110, hj3111, hj3112, hM⟩ := joinM (selM hM [0, 2, 1, 3, 4, 5, 6, 7, 8, 9] 10 rfl)
      replace hM : MemL _ (r3110 :: pt b_B46_120 (encs ([(RMark.mk y3082.1.at_ y3082.1.next y3082.1.done s3083 s3085 s3087 s3092)] : List RMark)) 60 :: pt b_B46_18 (RCursor.enc (RCursor.mk s3094 y3082.2.at_ y3082.2.place y3082.2.e)) 184 :: pt b_B46_6 (RRecord.enc (RRecord.mk (RInput.mk s3021 s3023) s3028 v3020.end_)) 36 :: pt b_B46_2 (RRecord.enc (RRecord.mk (RInput.mk SV.nil SV.nil) SV.nil 0)) 36 :: rowL 0 s3021 5 v3020.in_.ctx :: rowL 0 s3023 23 hs3024 :: r3026 :: rowL 0 s3096 60 (hs3029 ++ [(RMark.mk y3082.1.at_ y3082.1.next y3082.1.done s3083 s3085 s3087 s3092)]) :: Lr) := hM
      have q3113 : Each (QMarkIn r3110.holds') (hs3029 ++ [(RMark.mk y3082.1.at_ y3082.1.next y3082.1.done s3083 s3085 s3087 s3092)]) x3097 := by rw [(app_some hx3097).2]; exact (q3032.mono fun _ _ q => q.mono (fun w h => (fun w h => (fun w h => (fun w h => hj3099 w (hj3102 w h)) w (hj3105 w h)) w (hj3108 w h)) w (hj3111 w h))).snoc ⟨s3083, s3085, s3087, hs3088, s3092, rfl, (fun w h => row_in (X := LTurn) (e := 128) ((fun w h => (fun w h => (fun w h => (fun w h => hj3100 w (hj3102 w h)) w (hj3105 w h)) w (hj3108 w h)) w (hj3111 w h)) w h)), (fun w h => row_in (X := LCell) (e := 151) ((fun w h => (fun w h => (fun w h => hj3103 w (hj3105 w h)) w (hj3108 w h)) w (hj3111 w h)) w h)), (fun w h => row_in (X := RPiece) (e := 156) ((fun w h => (fun w h => hj3106 w (hj3108 w h)) w (hj3111 w h)) w h)), (q3091.mono fun _ _ q => q.mono (fun w h => hj3109 w (hj3111 w h))), (fun w h => row_in (X := Int) (e := 3) (hj3112 w h))⟩
      replace hM : MemL _ (r3110 :: pt b_B46_120 (encs ([(RMark.mk y3082.1.at_ y3082.1.next y3082.1.done s3083 s3085 s3087 s3092)] : List RMark)) 60 :: pt b_B46_18 (RCursor.enc (RCursor.mk s3094 y3082.2.at_ y3082.2.place y3082.2.e)) 184 :: pt b_B46_6 (RRecord.enc (RRecord.mk (RInput.mk s3021 s3023) s3028 v3020.end_)) 36 :: pt b_B46_2 (RRecord.enc (RRecord.mk (RInput.mk SV.nil SV.nil) SV.nil 0)) 36 :: rowL 0 s3021 5 v3020.in_.ctx :: rowL 0 s3023 23 hs3024 :: r3026 :: rowL 0 s3096 60 (hs3029 ++ [(RMark.mk y3082.1.at_ y3082.1.next y3082.1.done s3083 s3085 s3087 s3092)]) :: Lr) := hM
      have hMs := hM
      refine ⟨_, _, hMs, hM, .inr (by kernel_rfl), fun a hF => ?_⟩
      refine d_val hF hch 6 rfl (by kernel_rfl) rfl rfl rfl (fun w hM => (r_fieldAddr (off' := 2) Tryz.underlying36 rfl in33 rfl hF rfl rfl rfl)) fun a hF => ?_
      refine d_one hch 7 (by kernel_rfl) rfl rfl ?_
      refine d_ex0 7 rfl rfl rfl rfl fun w hMs hM => ?_
      refine (w_store1 Tryz.sizeOf33 (hM.obj (i := 3) rfl) hF rfl rfl rfl rfl (by rw [RRecord.len]; decide) (RRecord.s_marks _ _) fun w hU3114 => ?_)
      have hM := hM.chg hU3114 (i := 3) rfl
      replace hM : MemL _ (r3110 :: pt b_B46_120 (encs ([(RMark.mk y3082.1.at_ y3082.1.next y3082.1.done s3083 s3085 s3087 s3092)] : List RMark)) 60 :: pt b_B46_18 (RCursor.enc (RCursor.mk s3094 y3082.2.at_ y3082.2.place y3082.2.e)) 184 :: pt b_B46_6 (RRecord.enc (RRecord.mk (RInput.mk s3021 s3023) s3096 v3020.end_)) 36 :: pt b_B46_2 (RRecord.enc (RRecord.mk (RInput.mk SV.nil SV.nil) SV.nil 0)) 36 :: rowL 0 s3021 5 v3020.in_.ctx :: rowL 0 s3023 23 hs3024 :: r3026 :: rowL 0 s3096 60 (hs3029 ++ [(RMark.mk y3082.1.at_ y3082.1.next y3082.1.done s3083 s3085 s3087 s3092)]) :: Lr) := hM
      have hMs := hM
      refine ⟨_, _, hMs, hM, .inr (by kernel_rfl), ?_⟩
      refine d_end hch (by kernel_rfl) fun w hM => ?_
      refine n_block (n_then ?_)
      refine c_region ?_
      refine s_val hF (r_move hF rfl rfl) rfl rfl rfl fun a hF => ?_
      refine s_val hF (r_add hF rfl rfl rfl) rfl rfl rfl fun a hF => ?_
      refine s_val hF (r_assign hF rfl rfl) rfl rfl rfl fun a hF => ?_
      refine c_nil (n_then ?_)
      have hP := Option.some.inj hP
      subst hP
      exact ⟨(y3082.2, (QRecord.mk v3020.in_ x3097 v3020.end_), (IntKind.i64.wrap (v3033 + 1))), rfl, s3094, s3021, s3023, hs3024, r3026, s3096, (hs3029 ++ [(RMark.mk y3082.1.at_ y3082.1.next y3082.1.done s3083 s3085 s3087 s3092)]), r3110, f3095, q3027, q3113, hF.to ⟨rfl, rfl, rfl, rfl, rfl, rfl, rfl, rfl, trivial⟩, selM hM [2, 3, 5, 6, 7, 8, 0, 4] 9 rfl⟩
    have hP := Fx.cF hb3046 hP
    refine c_exit (x_then (x_then (x_hit ?_)))
    refine n_then ?_
    have hP := Option.some.inj hP
    subst hP
    have hP := hK_l9 _ rfl
    subst hP
    exact ⟨(v3017, v3020), rfl, s3018, s3021, s3023, hs3024, r3026, s3028, hs3029, r3031, f3019, q3027, q3032, hF.to ⟨rfl, rfl, rfl, rfl, rfl, rfl, trivial⟩, selM hM [0, 1, 3, 4, 5, 6, 7, 2] 8 rfl⟩
  rintro ⟨v2822, v2825⟩ a w hP ⟨s2823, s2826, s2828, hs2829, r2831, s2833, hs2834, r2836, f2824, q2832, q2837, hF, hM⟩
  replace hP : Sh.ref23_Decode_j8 x0 v2822 v2825 = _ := hP
  unfold Sh.ref23_Decode_j8 at hP
  refine n_then ?_
  refine c_seq ?_
  refine c_joinX hF hM hP (fun F x a w => match x with | v3133 => ∃ (s3134 : SV), LIn Bf s3134 v3133.b ∧ Fr 158 [(2, .pointer (some ⟨b_B46_2, 0, none⟩)), (3, .int .i64 0), (4, .int .i64 0), (5, .pointer (some ⟨b_B46_18, 0, none⟩)), (6, .pointer (some ⟨b_B46_6, 0, none⟩))] a ∧ MemL w (pt b_B46_18 (RCursor.enc (RCursor.mk s3134 v3133.at_ v3133.place v3133.e)) 184 :: pt b_B46_6 (RRecord.enc (RRecord.mk (RInput.mk s2826 s2828) s2833 v2825.end_)) 36 :: pt b_B46_2 (RRecord.enc (RRecord.mk (RInput.mk SV.nil SV.nil) SV.nil 0)) 36 :: rowL 0 s2826 5 v2825.in_.ctx :: rowL 0 s2828 23 hs2829 :: r2831 :: rowL 0 s2833 60 hs2834 :: r2836 :: Lr)) (fun o_j11 hP hK_j11 hF hM => ?_) ?_
  · refine c_seq ?_
    refine c_joinX hF hM hP (fun F x a w => match x with | v3138 => Fr 158 [(136, .bool v3138), (2, .pointer (some ⟨b_B46_2, 0, none⟩)), (3, .int .i64 0), (4, .int .i64 0), (5, .pointer (some ⟨b_B46_18, 0, none⟩)), (6, .pointer (some ⟨b_B46_6, 0, none⟩))] a ∧ MemL w (pt b_B46_18 (RCursor.enc (RCursor.mk s2823 v2822.at_ v2822.place v2822.e)) 184 :: pt b_B46_6 (RRecord.enc (RRecord.mk (RInput.mk s2826 s2828) s2833 v2825.end_)) 36 :: pt b_B46_2 (RRecord.enc (RRecord.mk (RInput.mk SV.nil SV.nil) SV.nil 0)) 36 :: rowL 0 s2826 5 v2825.in_.ctx :: rowL 0 s2828 23 hs2829 :: r2831 :: rowL 0 s2833 60 hs2834 :: r2836 :: Lr)) (fun o_j12 hP hK_j12 hF hM => ?_) ?_
    · refine c_region ?_
      refine s_val hF (r_move hF rfl rfl) rfl rfl rfl fun a hF => ?_
      refine s_val hF (r_nilCheckP hF rfl rfl) rfl rfl rfl fun a hF => ?_
      refine s_val hF (r_fieldAddr (off' := 3) Tryz.underlying184 rfl in3 rfl hF rfl rfl rfl) rfl rfl rfl fun a hF => ?_
      refine s_val hF (r_load1 Tryz.isAgg3 hF rfl rfl (hM.cell (i := 0) rfl (RCursor.g_e _))) rfl rfl rfl fun a hF => ?_
      refine s_val hF (r_eql hF rfl rfl rfl) rfl rfl rfl fun a hF => ?_
      refine s_val hF (r_move hF rfl rfl) rfl rfl rfl fun a hF => ?_
      refine g_split 128 hF rfl (fun hb3139 => ?_) (fun hb3139 => ?_)
      · have hP := Fx.cT hb3139 hP
        refine g_val hF rfl rfl rfl hb3139 (r_move hF rfl rfl) rfl rfl fun a hF => ?_
        refine g_val hF rfl rfl rfl hb3139 (r_nilCheckP hF rfl rfl) rfl rfl fun a hF => ?_
        refine g_val hF rfl rfl rfl hb3139 (r_fieldAddr (off' := 1) Tryz.underlying184 rfl in3 rfl hF rfl rfl rfl) rfl rfl fun a hF => ?_
        refine g_val hF rfl rfl rfl hb3139 (r_load1 Tryz.isAgg3 hF rfl rfl (hM.cell (i := 0) rfl (RCursor.g_at_ _))) rfl rfl fun a hF => ?_
        refine g_val hF rfl rfl rfl hb3139 (r_move hF rfl rfl) rfl rfl fun a hF => ?_
        refine g_val hF rfl rfl rfl hb3139 (r_lenL (f2 _ (hsub _ (dropM hM 8))) Tryz.underlying23 hF rfl rfl) rfl rfl fun a hF => ?_
        refine g_val hF rfl rfl rfl hb3139 (r_lss hF rfl rfl rfl) rfl rfl fun a hF => ?_
        refine s_val hF (r_pick1 hF rfl rfl hb3139 rfl) rfl rfl rfl fun a hF => ?_
        refine c_nil (n_then ?_)
        have hP := Option.some.inj hP
        subst hP
        exact ⟨(decide (v2822.at_ < (x0.length : Int))), rfl, hF.to ⟨rfl, rfl, rfl, rfl, rfl, rfl, trivial⟩, selM hM [0, 1, 7, 2, 3, 4, 5, 6] 8 rfl⟩
      have hP := Fx.cF hb3139 hP
      refine g_skip hF rfl rfl rfl hb3139 rfl rfl fun a hF => ?_
      refine g_skip hF rfl rfl rfl hb3139 rfl rfl fun a hF => ?_
      refine g_skip hF rfl rfl rfl hb3139 rfl rfl fun a hF => ?_
      refine g_skip hF rfl rfl rfl hb3139 rfl rfl fun a hF => ?_
      refine g_skip hF rfl rfl rfl hb3139 rfl rfl fun a hF => ?_
      refine g_skip hF rfl rfl rfl hb3139 rfl rfl fun a hF => ?_
      refine g_skip hF rfl rfl rfl hb3139 rfl rfl fun a hF => ?_
      refine s_val hF (r_pick0 hF rfl rfl hb3139 rfl) rfl rfl rfl fun a hF => ?_
      refine c_nil (n_then ?_)
      have hP := Option.some.inj hP
      subst hP
      exact ⟨false, rfl, hF.to ⟨rfl, rfl, rfl, rfl, rfl, rfl, trivial⟩, selM hM [0, 1, 7, 2, 3, 4, 5, 6] 8 rfl⟩
    rintro v3138 a w hP ⟨hF, hM⟩
    replace hP : Sh.ref23_Decode_j12 v2822 v3138 = _ := hP
    unfold Sh.ref23_Decode_j12 at hP
    refine n_then ?_
    refine c_cond hF (c := .tmp 136) rfl (fun hb3140 => ?_) (fun hb3140 => ?_)
    · have hP := Fx.cT hb3140 hP
      refine c_region ?_
      refine s_val hF (r_move hF rfl rfl) rfl rfl rfl fun a hF => ?_
      refine s_val hF (r_move hF rfl rfl) rfl rfl rfl fun a hF => ?_
      refine s_val hF (r_nilCheckP hF rfl rfl) rfl rfl rfl fun a hF => ?_
      refine s_val hF (r_fieldAddr (off' := 1) Tryz.underlying184 rfl in3 rfl hF rfl rfl rfl) rfl rfl rfl fun a hF => ?_
      refine s_val hF (r_load1 Tryz.isAgg3 hF rfl rfl (hM.cell (i := 0) rfl (RCursor.g_at_ _))) rfl rfl rfl fun a hF => ?_
      obtain ⟨y3142, hy3142, hP⟩ := bind_some hP
      refine s_eff hF rfl rfl rfl (w_call (xs := [.tmp 137, .tmp 141, .const (.int .i64 (236))]) Tryz.call119 hF rfl rfl (ref23_cursor_fault_calls hy3142 hM (Bf := Bf) (fun w hM => hsub _ (dropM hM 7)) f2824) fun v w hR => ?_)
      obtain ⟨s3143, rfl, f3144, hM⟩ := hR
      replace hM : MemL _ (pt b_B46_18 (RCursor.enc (RCursor.mk s3143 y3142.at_ y3142.place y3142.e)) 184 :: pt b_B46_6 (RRecord.enc (RRecord.mk (RInput.mk s2826 s2828) s2833 v2825.end_)) 36 :: pt b_B46_2 (RRecord.enc (RRecord.mk (RInput.mk SV.nil SV.nil) SV.nil 0)) 36 :: rowL 0 s2826 5 v2825.in_.ctx :: rowL 0 s2828 23 hs2829 :: r2831 :: rowL 0 s2833 60 hs2834 :: r2836 :: Lr) := hM
      intro a hF
      refine c_nil (n_then ?_)
      have hP := Option.some.inj hP
      subst hP
      exact ⟨y3142, rfl, s3143, f3144, hF.to ⟨rfl, rfl, rfl, rfl, rfl, trivial⟩, hM⟩
    have hP := Fx.cF hb3140 hP
    refine c_skip (n_then ?_)
    have hP := Option.some.inj hP
    subst hP
    exact ⟨v2822, rfl, s2823, f2824, hF.to ⟨rfl, rfl, rfl, rfl, rfl, trivial⟩, hM⟩
  rintro v3133 a w hP ⟨s3134, f3135, hF, hM⟩
  replace hP : Sh.ref23_Decode_j11 v2825 v3133 = _ := hP
  unfold Sh.ref23_Decode_j11 at hP
  refine n_then ?_
  refine c_seq ?_
  refine c_seq ?_
  refine c_region ?_
  refine s_val hF (r_move hF rfl rfl) rfl rfl rfl fun a hF => ?_
  refine s_val hF (r_nilCheckP hF rfl rfl) rfl rfl rfl fun a hF => ?_
  refine s_val hF (r_fieldAddr (off' := 3) Tryz.underlying184 rfl in3 rfl hF rfl rfl rfl) rfl rfl rfl fun a hF => ?_
  refine s_val hF (r_load1 Tryz.isAgg3 hF rfl rfl (hM.cell (i := 0) rfl (RCursor.g_e _))) rfl rfl rfl fun a hF => ?_
  refine s_val hF (r_neq hF rfl rfl rfl) rfl rfl rfl fun a hF => ?_
  refine c_nil (n_then ?_)
  refine c_cond hF (c := .tmp 147) rfl (fun hb3148 => ?_) (fun hb3148 => ?_)
  · have hP := Fx.cT hb3148 hP
    refine c_seq ?_
    refine d_startT mixed (by kernel_rfl) hM [0, 1, 2, 3, 4, 5, 6, 7] 8 rfl fun hch => ?_
    refine d_val hF hch 0 rfl (by kernel_rfl) rfl rfl rfl (fun w hM => (r_build z36 Tryz.underlying36 pl36 hF (parts := []) rfl rfl fill_e)) fun a hF => ?_
    refine d_val hF hch 1 rfl (by kernel_rfl) rfl rfl rfl (fun w hM => (r_move hF rfl rfl)) fun a hF => ?_
    refine d_val hF hch 2 rfl (by kernel_rfl) rfl rfl rfl (fun w hM => (r_nilCheckP hF rfl rfl)) fun a hF => ?_
    refine d_val hF hch 3 rfl (by kernel_rfl) rfl rfl rfl (fun w hM => (r_fieldAddr (off' := 2) Tryz.underlying184 rfl in3 rfl hF rfl rfl rfl)) fun a hF => ?_
    refine d_val hF hch 4 rfl (by kernel_rfl) rfl rfl rfl (fun w hM => (r_load1 Tryz.isAgg3 hF rfl rfl (hM.cell (i := 0) rfl (RCursor.g_place _)))) fun a hF => ?_
    refine d_val hF hch 5 rfl (by kernel_rfl) rfl rfl rfl (fun w hM => (r_move hF rfl rfl)) fun a hF => ?_
    refine d_val hF hch 6 rfl (by kernel_rfl) rfl rfl rfl (fun w hM => (r_nilCheckP hF rfl rfl)) fun a hF => ?_
    refine d_val hF hch 7 rfl (by kernel_rfl) rfl rfl rfl (fun w hM => (r_fieldAddr (off' := 3) Tryz.underlying184 rfl in3 rfl hF rfl rfl rfl)) fun a hF => ?_
    refine d_val hF hch 8 rfl (by kernel_rfl) rfl rfl rfl (fun w hM => (r_load1 Tryz.isAgg3 hF rfl rfl (hM.cell (i := 0) rfl (RCursor.g_e _)))) fun a hF => ?_
    refine d_one hch 9 (by kernel_rfl) rfl rfl ?_
    refine d_ex0 9 rfl rfl rfl rfl fun w hMs hM => ?_
    refine (w_storen (vs := _) Tryz.sizeOf36 (hM.obj (i := 2) rfl) hF rfl rfl rfl rfl (RRecord.len _) (RRecord.one _) (by first | (rw [RRecord.len, RRecord.len]; decide) | (rw [RRecord.len]; decide)) (put_all ((RRecord.len _).trans (RRecord.len _).symm)) fun w hU3150 => ?_)
    have hM := hM.chg hU3150 (i := 2) rfl
    replace hM : MemL _ (pt b_B46_18 (RCursor.enc (RCursor.mk s3134 v3133.at_ v3133.place v3133.e)) 184 :: pt b_B46_6 (RRecord.enc (RRecord.mk (RInput.mk s2826 s2828) s2833 v2825.end_)) 36 :: pt b_B46_2 (RRecord.enc (RRecord.mk (RInput.mk SV.nil SV.nil) SV.nil 0)) 36 :: rowL 0 s2826 5 v2825.in_.ctx :: rowL 0 s2828 23 hs2829 :: r2831 :: rowL 0 s2833 60 hs2834 :: r2836 :: Lr) := hM
    have hMs := selM hM [0, 1, 2, 3, 4, 5, 6, 7] 8 rfl
    refine ⟨_, _, hMs, hM, .inl fun _ h => h, ?_⟩
    refine d_val hF hch 10 rfl (by kernel_rfl) rfl rfl rfl (fun w hM => (r_assign hF rfl rfl)) fun a hF => ?_
    refine d_val hF hch 11 rfl (by kernel_rfl) rfl rfl rfl (fun w hM => (r_assign hF rfl rfl)) fun a hF => ?_
    refine d_end hch (by kernel_rfl) fun w hM => ?_
    refine n_then ?_
    refine c_ret ?_
    have hM := hM.rowNil (X := UInt8) 0 5
    obtain ⟨r3153, hM⟩ := voidM hM
    have q3154 : Each (LIn (X := UInt8) r3153.holds') ([] : List SV) ([] : List (List UInt8)) := Each.nil
    have hM := hM.rowNil (X := SV) 0 23
    obtain ⟨r3156, hM⟩ := voidM hM
    have q3157 : Each (QMarkIn r3156.holds') ([] : List RMark) ([] : List QMark) := Each.nil
    have hM := hM.rowNil (X := RMark) 0 60
    have hP := Option.some.inj hP
    subst hP
    refine e_ret (rs := [.cell 2 36, .tmp 3, .tmp 4]) Tryz.results46 hF (res_celln hF rfl Tryz.isAgg36 Tryz.sizeOf36 (RRecord.len _) (hM.cells (i := 7) rfl (cut_all (RRecord.len _))) (res_tmp hF rfl (res_tmp hF rfl res_nil))) rfl ?_
    exact ⟨SV.nil, SV.nil, [], r3153, SV.nil, [], r3156, rfl, q3154, q3157, selM hM [4, 2, 3, 0, 1] 13 rfl⟩
  have hP := Fx.cF hb3148 hP
  refine c_skip (n_then ?_)
  refine c_seq ?_
  refine c_region ?_
  refine s_val hF (r_loadn Tryz.isAgg36 Tryz.sizeOf36 hF rfl rfl (RRecord.len _) (hM.cells (i := 1) rfl (cut_all (RRecord.len _)))) rfl rfl rfl fun a hF => ?_
  refine s_eff0 rfl rfl (w_storen (vs := _) Tryz.sizeOf36 (hM.obj (i := 2) rfl) hF rfl rfl rfl rfl (RRecord.len _) (RRecord.one _) (by first | (rw [RRecord.len, RRecord.len]; decide) | (rw [RRecord.len]; decide)) (put_all ((RRecord.len _).trans (RRecord.len _).symm)) fun w hU3158 => ?_)
  have hM := hM.chg hU3158 (i := 2) rfl
  replace hM : MemL _ (pt b_B46_18 (RCursor.enc (RCursor.mk s3134 v3133.at_ v3133.place v3133.e)) 184 :: pt b_B46_6 (RRecord.enc (RRecord.mk (RInput.mk s2826 s2828) s2833 v2825.end_)) 36 :: pt b_B46_2 (RRecord.enc (RRecord.mk (RInput.mk s2826 s2828) s2833 v2825.end_)) 36 :: rowL 0 s2826 5 v2825.in_.ctx :: rowL 0 s2828 23 hs2829 :: r2831 :: rowL 0 s2833 60 hs2834 :: r2836 :: Lr) := hM
  refine s_val hF (r_assign hF rfl rfl) rfl rfl rfl fun a hF => ?_
  refine s_val hF (r_assign hF rfl rfl) rfl rfl rfl fun a hF => ?_
  refine c_nil (n_then ?_)
  refine c_ret ?_
  have hP := Option.some.inj hP
  subst hP
  refine e_ret (rs := [.cell 2 36, .tmp 3, .tmp 4]) Tryz.results46 hF (res_celln hF rfl Tryz.isAgg36 Tryz.sizeOf36 (RRecord.len _) (hM.cells (i := 2) rfl (cut_all (RRecord.len _))) (res_tmp hF rfl (res_tmp hF rfl res_nil))) rfl ?_
  exact ⟨s2826, s2828, hs2829, r2831, s2833, hs2834, r2836, rfl, q2832, q2837, selM hM [3, 4, 5, 6, 7] 8 rfl⟩
end Go.Proofs
end
section
namespace Go.Proofs
open Go.Fw Go.Fx
set_option maxRecDepth 10000
set_option linter.unusedVariables false
set_option linter.unusedSimpArgs false
set_option maxHeartbeats 4000000 in
theorem law00_SameBytes_calls {x0 : List UInt8} {x1 : List UInt8} {s1 : SV} {s3 : SV} {out : Bool} {w0 : World} {Bf : World → Prop} {Lr : List Res} (hP : Sh.law00_SameBytes x0 x1 = some out) (hM : MemL w0 (Lr)) (hsub : ∀ w, MemL w Lr → Bf w) (f2 : LIn Bf s1 x0) (f4 : LIn Bf s3 x1) : Calls Tryz.prog 43 #[(s1).v, (s3).v] w0 (Ret fun v w' => v = .bool out ∧ MemL w' (Lr)) := by
  unfold Sh.law00_SameBytes at hP
  refine calls_enter (vs := [(s1).v, (s3).v]) Tryz.func43 rfl Tryz.ntmps43 rfl fun a hF => ?_
  refine c_seq ?_
  refine c_region ?_
  refine s_val hF (r_assign hF rfl rfl) rfl rfl rfl fun a hF => ?_
  refine c_nil (n_then ?_)
  refine c_seq ?_
  refine c_region ?_
  refine s_val hF (r_move hF rfl rfl) rfl rfl rfl fun a hF => ?_
  refine s_val hF (r_convStr0 (f2 _ (hsub _ (dropM hM 0))) Tryz.underlying23 Tryz.underlying5 Tryz.underlying9 hF rfl rfl) rfl rfl rfl fun a hF => ?_
  refine s_val hF (r_move hF rfl rfl) rfl rfl rfl fun a hF => ?_
  refine s_val hF (r_convStr0 (f4 _ (hsub _ (dropM hM 0))) Tryz.underlying23 Tryz.underlying5 Tryz.underlying9 hF rfl rfl) rfl rfl rfl fun a hF => ?_
  refine s_val hF (r_eqlStr (i := x0) (j := x1) hF rfl rfl rfl) rfl rfl rfl fun a hF => ?_
  refine s_val hF (r_assign hF rfl rfl) rfl rfl rfl fun a hF => ?_
  refine c_nil (n_then ?_)
  refine c_ret ?_
  have hP := Option.some.inj hP
  subst hP
  refine e_ret1 Tryz.results43 hF rfl ?_
  exact ⟨rfl, hM⟩
set_option maxHeartbeats 4000000 in
theorem law00_SameInts_calls {x0 : List Int} {x1 : List Int} {s1 : SV} {s3 : SV} {out : Bool} {w0 : World} {Bf : World → Prop} {Lr : List Res} (hP : Sh.law00_SameInts x0 x1 = some out) (hM : MemL w0 (Lr)) (hsub : ∀ w, MemL w Lr → Bf w) (f2 : LIn Bf s1 x0) (f4 : LIn Bf s3 x1) : Calls Tryz.prog 89 #[(s1).v, (s3).v] w0 (Ret fun v w' => v = .bool out ∧ MemL w' (Lr)) := by
  unfold Sh.law00_SameInts at hP
  refine calls_enter (vs := [(s1).v, (s3).v]) Tryz.func89 rfl Tryz.ntmps89 rfl fun a hF => ?_
  refine c_seq ?_
  refine c_region ?_
  refine s_val hF (r_assign hF rfl rfl) rfl rfl rfl fun a hF => ?_
  refine c_nil (n_then ?_)
  refine c_seq ?_
  refine c_seq ?_
  refine c_region ?_
  refine s_val hF (r_move hF rfl rfl) rfl rfl rfl fun a hF => ?_
  refine s_val hF (r_lenL (f2 _ (hsub _ (dropM hM 0))) Tryz.underlying52 hF rfl rfl) rfl rfl rfl fun a hF => ?_
  refine s_val hF (r_move hF rfl rfl) rfl rfl rfl fun a hF => ?_
  refine s_val hF (r_lenL (f4 _ (hsub _ (dropM hM 0))) Tryz.underlying52 hF rfl rfl) rfl rfl rfl fun a hF => ?_
  refine s_val hF (r_neq hF rfl rfl rfl) rfl rfl rfl fun a hF => ?_
  refine c_nil (n_then ?_)
  refine c_cond hF (c := .tmp 10) rfl (fun hb122 => ?_) (fun hb122 => ?_)
  · have hP := Fx.cT hb122 hP
    refine c_seq ?_
    refine c_region ?_
    refine s_val hF (r_assign hF rfl rfl) rfl rfl rfl fun a hF => ?_
    refine c_nil (n_then ?_)
    refine c_ret ?_
    have hP := Option.some.inj hP
    subst hP
    refine e_ret1 Tryz.results89 hF rfl ?_
    exact ⟨rfl, hM⟩
  have hP := Fx.cF hb122 hP
  refine c_skip (n_then ?_)
  refine c_seq ?_
  refine c_joinX hF hM hP (fun F x a w => match x with | _ => Fr 26 [(4, .bool false)] a ∧ MemL w (Lr)) (fun o_j1 hP hK_j1 hF hM => ?_) ?_
  · refine c_seq ?_
    refine c_region ?_
    refine s_val hF (r_assign hF rfl rfl) rfl rfl rfl fun a hF => ?_
    refine c_nil (n_then ?_)
    refine c_block ?_
    refine c_loopX hF hM hP (fun F x a w => match x with | v224 => Fr 26 [(5, .int .i64 v224), (0, (s1).v), (1, (s3).v), (4, .bool false)] a ∧ MemL w (Lr)) (fun hF hM => ⟨hF.to ⟨rfl, rfl, rfl, rfl, trivial⟩, hM⟩) ?_
    rintro v224 a w o_l2 hP hK_l2 ⟨hF, hM⟩
    replace hP : Sh.law00_SameInts_l2 x0 x1 v224 = _ := hP
    unfold Sh.law00_SameInts_l2 at hP
    refine c_seq ?_
    refine c_seq ?_
    refine c_region ?_
    refine s_val hF (r_move hF rfl rfl) rfl rfl rfl fun a hF => ?_
    refine s_val hF (r_move hF rfl rfl) rfl rfl rfl fun a hF => ?_
    refine s_val hF (r_lenL (f2 _ (hsub _ (dropM hM 0))) Tryz.underlying52 hF rfl rfl) rfl rfl rfl fun a hF => ?_
    refine s_val hF (r_lss hF rfl rfl rfl) rfl rfl rfl fun a hF => ?_
    refine c_nil (n_then ?_)
    refine c_cond hF (c := .tmp 14) rfl (fun hb226 => ?_) (fun hb226 => ?_)
    · have hP := Fx.cT hb226 hP
      refine c_skip (n_then ?_)
      refine c_seq ?_
      refine c_block ?_
      refine c_seq ?_
      refine d_startT mixed (by kernel_rfl) hM [] 0 rfl fun hch => ?_
      refine d_val hF hch 0 rfl (by kernel_rfl) rfl rfl rfl (fun w hM => (r_move hF rfl rfl)) fun a hF => ?_
      refine d_val hF hch 1 rfl (by kernel_rfl) rfl rfl rfl (fun w hM => (r_move hF rfl rfl)) fun a hF => ?_
      obtain ⟨x234, hx234, hP⟩ := bind_some hP
      have h0x234 := get_some hx234
      refine d_val hF hch 2 rfl (by kernel_rfl) rfl rfl rfl (fun w hM => (r_indexZ (sz := 1) (f2 _ (hsub _ (dropM hM 0))) Tryz.underlying52 in3 rfl hF rfl rfl rfl (get_bd hx234))) fun a hF => ?_
      refine d_val hF hch 3 rfl (by kernel_rfl) rfl rfl rfl (fun w hM => (r_load1 Tryz.isAgg3 hF rfl rfl ((((f2 _ (hsub _ (dropM hM 0))).elemS h0x234.2)).get 0 rfl))) fun a hF => ?_
      refine d_val hF hch 4 rfl (by kernel_rfl) rfl rfl rfl (fun w hM => (r_move hF rfl rfl)) fun a hF => ?_
      refine d_val hF hch 5 rfl (by kernel_rfl) rfl rfl rfl (fun w hM => (r_move hF rfl rfl)) fun a hF => ?_
      obtain ⟨x235, hx235, hP⟩ := bind_some hP
      have h0x235 := get_some hx235
      refine d_val hF hch 6 rfl (by kernel_rfl) rfl rfl rfl (fun w hM => (r_indexZ (sz := 1) (f4 _ (hsub _ (dropM hM 0))) Tryz.underlying52 in3 rfl hF rfl rfl rfl (get_bd hx235))) fun a hF => ?_
      refine d_val hF hch 7 rfl (by kernel_rfl) rfl rfl rfl (fun w hM => (r_load1 Tryz.isAgg3 hF rfl rfl ((((f4 _ (hsub _ (dropM hM 0))).elemS h0x235.2)).get 0 rfl))) fun a hF => ?_
      refine d_val hF hch 8 rfl (by kernel_rfl) rfl rfl rfl (fun w hM => (r_neq hF rfl rfl rfl)) fun a hF => ?_
      refine d_end hch (by kernel_rfl) fun w hM => ?_
      refine n_then ?_
      refine c_cond hF (c := .tmp 25) rfl (fun hb236 => ?_) (fun hb236 => ?_)
      · have hP := Fx.cT hb236 hP
        refine c_seq ?_
        refine c_region ?_
        refine s_val hF (r_assign hF rfl rfl) rfl rfl rfl fun a hF => ?_
        refine c_nil (n_then ?_)
        refine c_ret ?_
        have hP := Option.some.inj hP
        subst hP
        have hP := hK_l2 _ rfl
        subst hP
        have hP := fin_inr hK_j1
        subst hP
        refine e_ret1 Tryz.results89 hF rfl ?_
        exact ⟨rfl, hM⟩
      have hP := Fx.cF hb236 hP
      refine c_skip (n_block (n_then ?_))
      refine c_region ?_
      refine s_val hF (r_move hF rfl rfl) rfl rfl rfl fun a hF => ?_
      refine s_val hF (r_add hF rfl rfl rfl) rfl rfl rfl fun a hF => ?_
      refine s_val hF (r_assign hF rfl rfl) rfl rfl rfl fun a hF => ?_
      refine c_nil (n_then ?_)
      have hP := Option.some.inj hP
      subst hP
      exact ⟨(IntKind.i64.wrap (v224 + 1)), rfl, hF.to ⟨rfl, rfl, rfl, rfl, trivial⟩, hM⟩
    have hP := Fx.cF hb226 hP
    refine c_exit (x_then (x_then (x_hit ?_)))
    refine n_then ?_
    have hP := Option.some.inj hP
    subst hP
    have hP := hK_l2 _ rfl
    subst hP
    exact ⟨(), rfl, hF.to ⟨rfl, trivial⟩, hM⟩
  rintro ⟨⟩ a w hP ⟨hF, hM⟩
  replace hP : Sh.law00_SameInts_j1 = _ := hP
  unfold Sh.law00_SameInts_j1 at hP
  refine n_then ?_
  refine c_seq ?_
  refine c_region ?_
  refine s_val hF (r_assign hF rfl rfl) rfl rfl rfl fun a hF => ?_
  refine c_nil (n_then ?_)
  refine c_ret ?_
  have hP := Option.some.inj hP
  subst hP
  refine e_ret1 Tryz.results89 hF rfl ?_
  exact ⟨rfl, hM⟩
set_option maxHeartbeats 4000000 in
theorem law00_SameRows_calls {x0 : List (List UInt8)} {x1 : List (List UInt8)} {s1 : SV} {hs2 : List SV} {s5 : SV} {hs6 : List SV} {out : Bool} {w0 : World} {Bf : World → Prop} {Lr : List Res} (hP : Sh.law00_SameRows x0 x1 = some out) (hM : MemL w0 (Lr)) (hsub : ∀ w, MemL w Lr → Bf w) (f3 : LIn Bf s1 hs2) (q4 : Each (LIn (X := UInt8) Bf) hs2 x0) (f7 : LIn Bf s5 hs6) (q8 : Each (LIn (X := UInt8) Bf) hs6 x1) : Calls Tryz.prog 64 #[(s1).v, (s5).v] w0 (Ret fun v w' => v = .bool out ∧ MemL w' (Lr)) := by
  unfold Sh.law00_SameRows at hP
  refine calls_enter (vs := [(s1).v, (s5).v]) Tryz.func64 rfl Tryz.ntmps64 rfl fun a hF => ?_
  refine c_seq ?_
  refine c_region ?_
  refine s_val hF (r_assign hF rfl rfl) rfl rfl rfl fun a hF => ?_
  refine c_nil (n_then ?_)
  refine c_seq ?_
  refine c_seq ?_
  refine c_region ?_
  refine s_val hF (r_move hF rfl rfl) rfl rfl rfl fun a hF => ?_
  refine s_val hF (r_lenD (f3 _ (hsub _ (dropM hM 0))) q4.len Tryz.underlying28 hF rfl rfl) rfl rfl rfl fun a hF => ?_
  refine s_val hF (r_move hF rfl rfl) rfl rfl rfl fun a hF => ?_
  refine s_val hF (r_lenD (f7 _ (hsub _ (dropM hM 0))) q8.len Tryz.underlying28 hF rfl rfl) rfl rfl rfl fun a hF => ?_
  refine s_val hF (r_neq hF rfl rfl rfl) rfl rfl rfl fun a hF => ?_
  refine c_nil (n_then ?_)
  refine c_cond hF (c := .tmp 10) rfl (fun hb198 => ?_) (fun hb198 => ?_)
  · have hP := Fx.cT hb198 hP
    refine c_seq ?_
    refine c_region ?_
    refine s_val hF (r_assign hF rfl rfl) rfl rfl rfl fun a hF => ?_
    refine c_nil (n_then ?_)
    refine c_ret ?_
    have hP := Option.some.inj hP
    subst hP
    refine e_ret1 Tryz.results64 hF rfl ?_
    exact ⟨rfl, hM⟩
  have hP := Fx.cF hb198 hP
  refine c_skip (n_then ?_)
  refine c_seq ?_
  refine c_joinX hF hM hP (fun F x a w => match x with | _ => Fr 27 [(4, .bool false)] a ∧ MemL w (Lr)) (fun o_j1 hP hK_j1 hF hM => ?_) ?_
  · refine c_seq ?_
    refine c_region ?_
    refine s_val hF (r_assign hF rfl rfl) rfl rfl rfl fun a hF => ?_
    refine c_nil (n_then ?_)
    refine c_block ?_
    refine c_loopX hF hM hP (fun F x a w => match x with | v364 => Fr 27 [(5, .int .i64 v364), (0, (s1).v), (1, (s5).v), (4, .bool false)] a ∧ MemL w (Lr)) (fun hF hM => ⟨hF.to ⟨rfl, rfl, rfl, rfl, trivial⟩, hM⟩) ?_
    rintro v364 a w o_l2 hP hK_l2 ⟨hF, hM⟩
    replace hP : Sh.law00_SameRows_l2 x0 x1 v364 = _ := hP
    unfold Sh.law00_SameRows_l2 at hP
    refine c_seq ?_
    refine c_seq ?_
    refine c_region ?_
    refine s_val hF (r_move hF rfl rfl) rfl rfl rfl fun a hF => ?_
    refine s_val hF (r_move hF rfl rfl) rfl rfl rfl fun a hF => ?_
    refine s_val hF (r_lenD (f3 _ (hsub _ (dropM hM 0))) q4.len Tryz.underlying28 hF rfl rfl) rfl rfl rfl fun a hF => ?_
    refine s_val hF (r_lss hF rfl rfl rfl) rfl rfl rfl fun a hF => ?_
    refine c_nil (n_then ?_)
    refine c_cond hF (c := .tmp 14) rfl (fun hb366 => ?_) (fun hb366 => ?_)
    · have hP := Fx.cT hb366 hP
      refine c_skip (n_then ?_)
      refine c_seq ?_
      refine c_block ?_
      refine c_seq ?_
      refine d_startT mixed (by kernel_rfl) hM [] 0 rfl fun hch => ?_
      refine d_val hF hch 0 rfl (by kernel_rfl) rfl rfl rfl (fun w hM => (r_move hF rfl rfl)) fun a hF => ?_
      refine d_val hF hch 1 rfl (by kernel_rfl) rfl rfl rfl (fun w hM => (r_move hF rfl rfl)) fun a hF => ?_
      obtain ⟨x380, hx380, hP⟩ := bind_some hP
      have h0x380 := get_some hx380
      obtain ⟨yx380, hgx380, hrx380⟩ := Each.getr q4 h0x380.2
      have hdx380 := Each.bd q4 (get_bd hx380)
      refine d_val hF hch 2 rfl (by kernel_rfl) rfl rfl rfl (fun w hM => (r_indexZ (sz := 1) (f3 _ (hsub _ (dropM hM 0))) Tryz.underlying28 in23 rfl hF rfl rfl rfl hdx380)) fun a hF => ?_
      refine d_val hF hch 3 rfl (by kernel_rfl) rfl rfl rfl (fun w hM => (r_load1 Tryz.isAgg23 hF rfl rfl ((((f3 _ (hsub _ (dropM hM 0))).elemS hgx380)).get 0 rfl))) fun a hF => ?_
      refine d_val hF hch 4 rfl (by kernel_rfl) rfl rfl rfl (fun w hM => (r_move hF rfl rfl)) fun a hF => ?_
      refine d_val hF hch 5 rfl (by kernel_rfl) rfl rfl rfl (fun w hM => (r_move hF rfl rfl)) fun a hF => ?_
      obtain ⟨x381, hx381, hP⟩ := bind_some hP
      have h0x381 := get_some hx381
      obtain ⟨yx381, hgx381, hrx381⟩ := Each.getr q8 h0x381.2
      have hdx381 := Each.bd q8 (get_bd hx381)
      refine d_val hF hch 6 rfl (by kernel_rfl) rfl rfl rfl (fun w hM => (r_indexZ (sz := 1) (f7 _ (hsub _ (dropM hM 0))) Tryz.underlying28 in23 rfl hF rfl rfl rfl hdx381)) fun a hF => ?_
      refine d_val hF hch 7 rfl (by kernel_rfl) rfl rfl rfl (fun w hM => (r_load1 Tryz.isAgg23 hF rfl rfl ((((f7 _ (hsub _ (dropM hM 0))).elemS hgx381)).get 0 rfl))) fun a hF => ?_
      refine d_one hch 8 (by kernel_rfl) rfl rfl ?_
      refine d_ex hF 8 rfl rfl rfl rfl rfl fun w hMs hM => ?_
      obtain ⟨y383, hy383, hP⟩ := bind_some hP
      refine (w_call (xs := [.tmp 20, .tmp 24]) Tryz.call43 hF rfl rfl (law00_SameBytes_calls hy383 hM (Bf := Bf) (fun w hM => hsub _ (dropM hM 0)) hrx380 hrx381) fun v w hR => ?_)
      obtain ⟨rfl, hM⟩ := hR
      replace hM : MemL _ (Lr) := hM
      have hMs := selM hM [] 0 rfl
      refine ⟨_, _, hMs, hM, .inl fun _ h => h, fun a hF => ?_⟩
      refine d_val hF hch 9 rfl (by kernel_rfl) rfl rfl rfl (fun w hM => (r_not hF rfl rfl)) fun a hF => ?_
      refine d_end hch (by kernel_rfl) fun w hM => ?_
      refine n_then ?_
      refine c_cond hF (c := .tmp 26) rfl (fun hb384 => ?_) (fun hb384 => ?_)
      · have hP := Fx.cT hb384 hP
        refine c_seq ?_
        refine c_region ?_
        refine s_val hF (r_assign hF rfl rfl) rfl rfl rfl fun a hF => ?_
        refine c_nil (n_then ?_)
        refine c_ret ?_
        have hP := Option.some.inj hP
        subst hP
        have hP := hK_l2 _ rfl
        subst hP
        have hP := fin_inr hK_j1
        subst hP
        refine e_ret1 Tryz.results64 hF rfl ?_
        exact ⟨rfl, hM⟩
      have hP := Fx.cF hb384 hP
      refine c_skip (n_block (n_then ?_))
      refine c_region ?_
      refine s_val hF (r_move hF rfl rfl) rfl rfl rfl fun a hF => ?_
      refine s_val hF (r_add hF rfl rfl rfl) rfl rfl rfl fun a hF => ?_
      refine s_val hF (r_assign hF rfl rfl) rfl rfl rfl fun a hF => ?_
      refine c_nil (n_then ?_)
      have hP := Option.some.inj hP
      subst hP
      exact ⟨(IntKind.i64.wrap (v364 + 1)), rfl, hF.to ⟨rfl, rfl, rfl, rfl, trivial⟩, hM⟩
    have hP := Fx.cF hb366 hP
    refine c_exit (x_then (x_then (x_hit ?_)))
    refine n_then ?_
    have hP := Option.some.inj hP
    subst hP
    have hP := hK_l2 _ rfl
    subst hP
    exact ⟨(), rfl, hF.to ⟨rfl, trivial⟩, hM⟩
  rintro ⟨⟩ a w hP ⟨hF, hM⟩
  replace hP : Sh.law00_SameRows_j1 = _ := hP
  unfold Sh.law00_SameRows_j1 at hP
  refine n_then ?_
  refine c_seq ?_
  refine c_region ?_
  refine s_val hF (r_assign hF rfl rfl) rfl rfl rfl fun a hF => ?_
  refine c_nil (n_then ?_)
  refine c_ret ?_
  have hP := Option.some.inj hP
  subst hP
  refine e_ret1 Tryz.results64 hF rfl ?_
  exact ⟨rfl, hM⟩
set_option maxHeartbeats 4000000 in
theorem law00_SameInput_calls {x0 : QInput} {x1 : QInput} {s1 : SV} {s3 : SV} {hs4 : List SV} {s7 : SV} {s9 : SV} {hs10 : List SV} {out : Bool} {w0 : World} {Bf : World → Prop} {Lr : List Res} (hP : Sh.law00_SameInput x0 x1 = some out) (hM : MemL w0 (Lr)) (hsub : ∀ w, MemL w Lr → Bf w) (f2 : LIn Bf s1 x0.ctx) (f5 : LIn Bf s3 hs4) (q6 : Each (LIn (X := UInt8) Bf) hs4 x0.tables) (f8 : LIn Bf s7 x1.ctx) (f11 : LIn Bf s9 hs10) (q12 : Each (LIn (X := UInt8) Bf) hs10 x1.tables) : Calls Tryz.prog 29 #[.agg (RInput.enc (RInput.mk s1 s3)).toArray, .agg (RInput.enc (RInput.mk s7 s9)).toArray] w0 (Ret fun v w' => v = .bool out ∧ MemL w' (Lr)) := by
  unfold Sh.law00_SameInput at hP
  refine calls_enter (vs := [.agg (RInput.enc (RInput.mk s1 s3)).toArray, .agg (RInput.enc (RInput.mk s7 s9)).toArray]) Tryz.func29 rfl Tryz.ntmps29 rfl fun a hF => ?_
  refine c_seq ?_
  refine c_region ?_
  refine s_eff hF rfl rfl rfl (w_box hF rfl rfl rfl fun b_B29_2 w hzB29_2 hAB29_2 => ?_)
  have hM := hM.plus hAB29_2
  replace hM : MemL _ (pt b_B29_2 (RInput.enc (RInput.mk s1 s3)) 30 :: Lr) := hM
  intro a hF
  refine s_eff hF rfl rfl rfl (w_box hF rfl rfl rfl fun b_B29_3 w hzB29_3 hAB29_3 => ?_)
  have hM := hM.plus hAB29_3
  replace hM : MemL _ (pt b_B29_3 (RInput.enc (RInput.mk s7 s9)) 30 :: pt b_B29_2 (RInput.enc (RInput.mk s1 s3)) 30 :: Lr) := hM
  intro a hF
  refine s_val hF (r_assign hF rfl rfl) rfl rfl rfl fun a hF => ?_
  refine c_nil (n_then ?_)
  refine c_seq ?_
  refine c_joinX hF hM hP (fun F x a w => match x with | v39 => Fr 17 [(4, .bool v39)] a ∧ MemL w (Lr)) (fun o_j1 hP hK_j1 hF hM => ?_) ?_
  · refine c_region ?_
    refine s_val hF (r_fieldAddr (off' := 0) Tryz.underlying30 rfl in23 rfl hF rfl rfl rfl) rfl rfl rfl fun a hF => ?_
    refine s_val hF (r_load1 Tryz.isAgg23 hF rfl rfl (hM.cell (i := 1) rfl (RInput.g_ctx _))) rfl rfl rfl fun a hF => ?_
    refine s_val hF (r_fieldAddr (off' := 0) Tryz.underlying30 rfl in23 rfl hF rfl rfl rfl) rfl rfl rfl fun a hF => ?_
    refine s_val hF (r_load1 Tryz.isAgg23 hF rfl rfl (hM.cell (i := 0) rfl (RInput.g_ctx _))) rfl rfl rfl fun a hF => ?_
    obtain ⟨y41, hy41, hP⟩ := bind_some hP
    refine s_eff hF rfl rfl rfl (w_call (xs := [.tmp 6, .tmp 8]) Tryz.call43 hF rfl rfl (law00_SameBytes_calls hy41 hM (Bf := Bf) (fun w hM => hsub _ (dropM hM 2)) f2 f8) fun v w hR => ?_)
    obtain ⟨rfl, hM⟩ := hR
    replace hM : MemL _ (pt b_B29_3 (RInput.enc (RInput.mk s7 s9)) 30 :: pt b_B29_2 (RInput.enc (RInput.mk s1 s3)) 30 :: Lr) := hM
    intro a hF
    refine s_val hF (r_move hF rfl rfl) rfl rfl rfl fun a hF => ?_
    refine g_split 10 hF rfl (fun hb42 => ?_) (fun hb42 => ?_)
    · have hP := Fx.cT hb42 hP
      refine g_val hF rfl rfl rfl hb42 (r_fieldAddr (off' := 1) Tryz.underlying30 rfl in28 rfl hF rfl rfl rfl) rfl rfl fun a hF => ?_
      refine g_val hF rfl rfl rfl hb42 (r_load1 Tryz.isAgg28 hF rfl rfl (hM.cell (i := 1) rfl (RInput.g_tables _))) rfl rfl fun a hF => ?_
      refine g_val hF rfl rfl rfl hb42 (r_fieldAddr (off' := 1) Tryz.underlying30 rfl in28 rfl hF rfl rfl rfl) rfl rfl fun a hF => ?_
      refine g_val hF rfl rfl rfl hb42 (r_load1 Tryz.isAgg28 hF rfl rfl (hM.cell (i := 0) rfl (RInput.g_tables _))) rfl rfl fun a hF => ?_
      obtain ⟨y44, hy44, hP⟩ := bind_some hP
      refine g_eff hF rfl rfl rfl hb42 rfl rfl (w_call (xs := [.tmp 12, .tmp 14]) Tryz.call64 hF rfl rfl (law00_SameRows_calls hy44 hM (Bf := Bf) (fun w hM => hsub _ (dropM hM 2)) f5 q6 f11 q12) fun v w hR => ?_)
      obtain ⟨rfl, hM⟩ := hR
      replace hM : MemL _ (pt b_B29_3 (RInput.enc (RInput.mk s7 s9)) 30 :: pt b_B29_2 (RInput.enc (RInput.mk s1 s3)) 30 :: Lr) := hM
      intro a hF
      refine s_val hF (r_pick1 hF rfl rfl hb42 rfl) rfl rfl rfl fun a hF => ?_
      refine s_val hF (r_assign hF rfl rfl) rfl rfl rfl fun a hF => ?_
      refine c_nil (n_then ?_)
      have hP := Option.some.inj hP
      subst hP
      exact ⟨y44, rfl, hF.to ⟨rfl, trivial⟩, selM hM [] 2 rfl⟩
    have hP := Fx.cF hb42 hP
    refine g_skip hF rfl rfl rfl hb42 rfl rfl fun a hF => ?_
    refine g_skip hF rfl rfl rfl hb42 rfl rfl fun a hF => ?_
    refine g_skip hF rfl rfl rfl hb42 rfl rfl fun a hF => ?_
    refine g_skip hF rfl rfl rfl hb42 rfl rfl fun a hF => ?_
    refine g_skip hF rfl rfl rfl hb42 rfl rfl fun a hF => ?_
    refine s_val hF (r_pick0 hF rfl rfl hb42 rfl) rfl rfl rfl fun a hF => ?_
    refine s_val hF (r_assign hF rfl rfl) rfl rfl rfl fun a hF => ?_
    refine c_nil (n_then ?_)
    have hP := Option.some.inj hP
    subst hP
    exact ⟨false, rfl, hF.to ⟨rfl, trivial⟩, selM hM [] 2 rfl⟩
  rintro v39 a w hP ⟨hF, hM⟩
  replace hP : Sh.law00_SameInput_j1 v39 = _ := hP
  unfold Sh.law00_SameInput_j1 at hP
  refine n_then ?_
  refine c_ret ?_
  have hP := Option.some.inj hP
  subst hP
  refine e_ret1 Tryz.results29 hF rfl ?_
  exact ⟨rfl, hM⟩
set_option maxHeartbeats 4000000 in
theorem law23_sameMark_calls {x0 : QMark} {x1 : QMark} {s1 : SV} {s3 : SV} {s5 : SV} {hs6 : List RPiece} {s9 : SV} {s11 : SV} {s13 : SV} {s15 : SV} {hs16 : List RPiece} {s19 : SV} {out : Bool} {w0 : World} {Bf : World → Prop} {Lr : List Res} (hP : Sh.law23_sameMark x0 x1 = some out) (hM : MemL w0 (Lr)) (hsub : ∀ w, MemL w Lr → Bf w) (f2 : LIn Bf s1 x0.regs) (f4 : LIn Bf s3 x0.slots) (f7 : LIn Bf s5 hs6) (q8 : Each (QPieceIn Bf) hs6 x0.pieces) (f10 : LIn Bf s9 x0.sent) (f12 : LIn Bf s11 x1.regs) (f14 : LIn Bf s13 x1.slots) (f17 : LIn Bf s15 hs16) (q18 : Each (QPieceIn Bf) hs16 x1.pieces) (f20 : LIn Bf s19 x1.sent) : Calls Tryz.prog 33 #[.agg (RMark.enc (RMark.mk x0.at_ x0.next x0.done s1 s3 s5 s9)).toArray, .agg (RMark.enc (RMark.mk x1.at_ x1.next x1.done s11 s13 s15 s19)).toArray] w0 (Ret fun v w' => v = .bool out ∧ MemL w' (Lr)) := by
  unfold Sh.law23_sameMark at hP
  refine calls_enter (vs := [.agg (RMark.enc (RMark.mk x0.at_ x0.next x0.done s1 s3 s5 s9)).toArray, .agg (RMark.enc (RMark.mk x1.at_ x1.next x1.done s11 s13 s15 s19)).toArray]) Tryz.func33 rfl Tryz.ntmps33 rfl fun a hF => ?_
  refine c_seq ?_
  refine c_region ?_
  refine s_eff hF rfl rfl rfl (w_box hF rfl rfl rfl fun b_B33_2 w hzB33_2 hAB33_2 => ?_)
  have hM := hM.plus hAB33_2
  replace hM : MemL _ (pt b_B33_2 (RMark.enc (RMark.mk x0.at_ x0.next x0.done s1 s3 s5 s9)) 60 :: Lr) := hM
  intro a hF
  refine s_eff hF rfl rfl rfl (w_box hF rfl rfl rfl fun b_B33_3 w hzB33_3 hAB33_3 => ?_)
  have hM := hM.plus hAB33_3
  replace hM : MemL _ (pt b_B33_3 (RMark.enc (RMark.mk x1.at_ x1.next x1.done s11 s13 s15 s19)) 60 :: pt b_B33_2 (RMark.enc (RMark.mk x0.at_ x0.next x0.done s1 s3 s5 s9)) 60 :: Lr) := hM
  intro a hF
  refine s_val hF (r_assign hF rfl rfl) rfl rfl rfl fun a hF => ?_
  refine c_nil (n_then ?_)
  refine c_seq ?_
  refine c_seq ?_
  refine c_joinX hF hM hP (fun F x a w => match x with | v997 => Fr 145 [(63, .bool v997), (2, .pointer (some ⟨b_B33_2, 0, none⟩)), (3, .pointer (some ⟨b_B33_3, 0, none⟩)), (4, .bool false)] a ∧ MemL w (pt b_B33_3 (RMark.enc (RMark.mk x1.at_ x1.next x1.done s11 s13 s15 s19)) 60 :: pt b_B33_2 (RMark.enc (RMark.mk x0.at_ x0.next x0.done s1 s3 s5 s9)) 60 :: Lr)) (fun o_j1 hP hK_j1 hF hM => ?_) ?_
  · refine c_region ?_
    refine s_val hF (r_fieldAddr (off' := 0) Tryz.underlying60 rfl in3 rfl hF rfl rfl rfl) rfl rfl rfl fun a hF => ?_
    refine s_val hF (r_load1 Tryz.isAgg3 hF rfl rfl (hM.cell (i := 1) rfl (RMark.g_at_ _))) rfl rfl rfl fun a hF => ?_
    refine s_val hF (r_fieldAddr (off' := 0) Tryz.underlying60 rfl in3 rfl hF rfl rfl rfl) rfl rfl rfl fun a hF => ?_
    refine s_val hF (r_load1 Tryz.isAgg3 hF rfl rfl (hM.cell (i := 0) rfl (RMark.g_at_ _))) rfl rfl rfl fun a hF => ?_
    refine s_val hF (r_neq hF rfl rfl rfl) rfl rfl rfl fun a hF => ?_
    refine s_val hF (r_move hF rfl rfl) rfl rfl rfl fun a hF => ?_
    refine g_split 15 hF rfl (fun hb998 => ?_) (fun hb998 => ?_)
    · have hP := Fx.cT hb998 hP
      refine g_skip hF rfl rfl rfl hb998 rfl rfl fun a hF => ?_
      refine g_skip hF rfl rfl rfl hb998 rfl rfl fun a hF => ?_
      refine g_skip hF rfl rfl rfl hb998 rfl rfl fun a hF => ?_
      refine g_skip hF rfl rfl rfl hb998 rfl rfl fun a hF => ?_
      refine g_skip hF rfl rfl rfl hb998 rfl rfl fun a hF => ?_
      refine s_val hF (r_pick1 hF rfl rfl hb998 rfl) rfl rfl rfl fun a hF => ?_
      refine s_val hF (r_move hF rfl rfl) rfl rfl rfl fun a hF => ?_
      refine g_skip hF rfl rfl rfl rfl rfl rfl fun a hF => ?_
      refine g_skip hF rfl rfl rfl rfl rfl rfl fun a hF => ?_
      refine g_skip hF rfl rfl rfl rfl rfl rfl fun a hF => ?_
      refine g_skip hF rfl rfl rfl rfl rfl rfl fun a hF => ?_
      refine g_skip hF rfl rfl rfl rfl rfl rfl fun a hF => ?_
      refine s_val hF (r_pick1 hF rfl rfl rfl rfl) rfl rfl rfl fun a hF => ?_
      refine s_val hF (r_move hF rfl rfl) rfl rfl rfl fun a hF => ?_
      refine g_skip hF rfl rfl rfl rfl rfl rfl fun a hF => ?_
      refine g_skip hF rfl rfl rfl rfl rfl rfl fun a hF => ?_
      refine g_skip hF rfl rfl rfl rfl rfl rfl fun a hF => ?_
      refine g_skip hF rfl rfl rfl rfl rfl rfl fun a hF => ?_
      refine g_skip hF rfl rfl rfl rfl rfl rfl fun a hF => ?_
      refine g_skip hF rfl rfl rfl rfl rfl rfl fun a hF => ?_
      refine g_skip hF rfl rfl rfl rfl rfl rfl fun a hF => ?_
      refine s_val hF (r_pick1 hF rfl rfl rfl rfl) rfl rfl rfl fun a hF => ?_
      refine s_val hF (r_move hF rfl rfl) rfl rfl rfl fun a hF => ?_
      refine g_skip hF rfl rfl rfl rfl rfl rfl fun a hF => ?_
      refine g_skip hF rfl rfl rfl rfl rfl rfl fun a hF => ?_
      refine g_skip hF rfl rfl rfl rfl rfl rfl fun a hF => ?_
      refine g_skip hF rfl rfl rfl rfl rfl rfl fun a hF => ?_
      refine g_skip hF rfl rfl rfl rfl rfl rfl fun a hF => ?_
      refine g_skip hF rfl rfl rfl rfl rfl rfl fun a hF => ?_
      refine g_skip hF rfl rfl rfl rfl rfl rfl fun a hF => ?_
      refine s_val hF (r_pick1 hF rfl rfl rfl rfl) rfl rfl rfl fun a hF => ?_
      refine s_val hF (r_move hF rfl rfl) rfl rfl rfl fun a hF => ?_
      refine g_skip hF rfl rfl rfl rfl rfl rfl fun a hF => ?_
      refine g_skip hF rfl rfl rfl rfl rfl rfl fun a hF => ?_
      refine g_skip hF rfl rfl rfl rfl rfl rfl fun a hF => ?_
      refine g_skip hF rfl rfl rfl rfl rfl rfl fun a hF => ?_
      refine g_skip hF rfl rfl rfl rfl rfl rfl fun a hF => ?_
      refine g_skip hF rfl rfl rfl rfl rfl rfl fun a hF => ?_
      refine g_skip hF rfl rfl rfl rfl rfl rfl fun a hF => ?_
      refine s_val hF (r_pick1 hF rfl rfl rfl rfl) rfl rfl rfl fun a hF => ?_
      refine s_val hF (r_move hF rfl rfl) rfl rfl rfl fun a hF => ?_
      refine g_skip hF rfl rfl rfl rfl rfl rfl fun a hF => ?_
      refine g_skip hF rfl rfl rfl rfl rfl rfl fun a hF => ?_
      refine g_skip hF rfl rfl rfl rfl rfl rfl fun a hF => ?_
      refine g_skip hF rfl rfl rfl rfl rfl rfl fun a hF => ?_
      refine g_skip hF rfl rfl rfl rfl rfl rfl fun a hF => ?_
      refine g_skip hF rfl rfl rfl rfl rfl rfl fun a hF => ?_
      refine s_val hF (r_pick1 hF rfl rfl rfl rfl) rfl rfl rfl fun a hF => ?_
      refine c_nil (n_then ?_)
      have hP := Option.some.inj hP
      subst hP
      exact ⟨true, rfl, hF.to ⟨rfl, rfl, rfl, rfl, trivial⟩, hM⟩
    have hP := Fx.cF hb998 hP
    refine g_val hF rfl rfl rfl hb998 (r_fieldAddr (off' := 1) Tryz.underlying60 rfl in3 rfl hF rfl rfl rfl) rfl rfl fun a hF => ?_
    refine g_val hF rfl rfl rfl hb998 (r_load1 Tryz.isAgg3 hF rfl rfl (hM.cell (i := 1) rfl (RMark.g_next _))) rfl rfl fun a hF => ?_
    refine g_val hF rfl rfl rfl hb998 (r_fieldAddr (off' := 1) Tryz.underlying60 rfl in3 rfl hF rfl rfl rfl) rfl rfl fun a hF => ?_
    refine g_val hF rfl rfl rfl hb998 (r_load1 Tryz.isAgg3 hF rfl rfl (hM.cell (i := 0) rfl (RMark.g_next _))) rfl rfl fun a hF => ?_
    refine g_val hF rfl rfl rfl hb998 (r_neq hF rfl rfl rfl) rfl rfl fun a hF => ?_
    refine s_val hF (r_pick0 hF rfl rfl hb998 rfl) rfl rfl rfl fun a hF => ?_
    refine s_val hF (r_move hF rfl rfl) rfl rfl rfl fun a hF => ?_
    refine g_split 22 hF rfl (fun hb999 => ?_) (fun hb999 => ?_)
    · have hP := Fx.cT hb999 hP
      refine g_skip hF rfl rfl rfl hb999 rfl rfl fun a hF => ?_
      refine g_skip hF rfl rfl rfl hb999 rfl rfl fun a hF => ?_
      refine g_skip hF rfl rfl rfl hb999 rfl rfl fun a hF => ?_
      refine g_skip hF rfl rfl rfl hb999 rfl rfl fun a hF => ?_
      refine g_skip hF rfl rfl rfl hb999 rfl rfl fun a hF => ?_
      refine s_val hF (r_pick1 hF rfl rfl hb999 rfl) rfl rfl rfl fun a hF => ?_
      refine s_val hF (r_move hF rfl rfl) rfl rfl rfl fun a hF => ?_
      refine g_skip hF rfl rfl rfl rfl rfl rfl fun a hF => ?_
      refine g_skip hF rfl rfl rfl rfl rfl rfl fun a hF => ?_
      refine g_skip hF rfl rfl rfl rfl rfl rfl fun a hF => ?_
      refine g_skip hF rfl rfl rfl rfl rfl rfl fun a hF => ?_
      refine g_skip hF rfl rfl rfl rfl rfl rfl fun a hF => ?_
      refine g_skip hF rfl rfl rfl rfl rfl rfl fun a hF => ?_
      refine g_skip hF rfl rfl rfl rfl rfl rfl fun a hF => ?_
      refine s_val hF (r_pick1 hF rfl rfl rfl rfl) rfl rfl rfl fun a hF => ?_
      refine s_val hF (r_move hF rfl rfl) rfl rfl rfl fun a hF => ?_
      refine g_skip hF rfl rfl rfl rfl rfl rfl fun a hF => ?_
      refine g_skip hF rfl rfl rfl rfl rfl rfl fun a hF => ?_
      refine g_skip hF rfl rfl rfl rfl rfl rfl fun a hF => ?_
      refine g_skip hF rfl rfl rfl rfl rfl rfl fun a hF => ?_
      refine g_skip hF rfl rfl rfl rfl rfl rfl fun a hF => ?_
      refine g_skip hF rfl rfl rfl rfl rfl rfl fun a hF => ?_
      refine g_skip hF rfl rfl rfl rfl rfl rfl fun a hF => ?_
      refine s_val hF (r_pick1 hF rfl rfl rfl rfl) rfl rfl rfl fun a hF => ?_
      refine s_val hF (r_move hF rfl rfl) rfl rfl rfl fun a hF => ?_
      refine g_skip hF rfl rfl rfl rfl rfl rfl fun a hF => ?_
      refine g_skip hF rfl rfl rfl rfl rfl rfl fun a hF => ?_
      refine g_skip hF rfl rfl rfl rfl rfl rfl fun a hF => ?_
      refine g_skip hF rfl rfl rfl rfl rfl rfl fun a hF => ?_
      refine g_skip hF rfl rfl rfl rfl rfl rfl fun a hF => ?_
      refine g_skip hF rfl rfl rfl rfl rfl rfl fun a hF => ?_
      refine g_skip hF rfl rfl rfl rfl rfl rfl fun a hF => ?_
      refine s_val hF (r_pick1 hF rfl rfl rfl rfl) rfl rfl rfl fun a hF => ?_
      refine s_val hF (r_move hF rfl rfl) rfl rfl rfl fun a hF => ?_
      refine g_skip hF rfl rfl rfl rfl rfl rfl fun a hF => ?_
      refine g_skip hF rfl rfl rfl rfl rfl rfl fun a hF => ?_
      refine g_skip hF rfl rfl rfl rfl rfl rfl fun a hF => ?_
      refine g_skip hF rfl rfl rfl rfl rfl rfl fun a hF => ?_
      refine g_skip hF rfl rfl rfl rfl rfl rfl fun a hF => ?_
      refine g_skip hF rfl rfl rfl rfl rfl rfl fun a hF => ?_
      refine s_val hF (r_pick1 hF rfl rfl rfl rfl) rfl rfl rfl fun a hF => ?_
      refine c_nil (n_then ?_)
      have hP := Option.some.inj hP
      subst hP
      exact ⟨true, rfl, hF.to ⟨rfl, rfl, rfl, rfl, trivial⟩, hM⟩
    have hP := Fx.cF hb999 hP
    refine g_val hF rfl rfl rfl hb999 (r_fieldAddr (off' := 2) Tryz.underlying60 rfl in4 rfl hF rfl rfl rfl) rfl rfl fun a hF => ?_
    refine g_val hF rfl rfl rfl hb999 (r_load1 Tryz.isAgg4 hF rfl rfl (hM.cell (i := 1) rfl (RMark.g_done _))) rfl rfl fun a hF => ?_
    refine g_val hF rfl rfl rfl hb999 (r_fieldAddr (off' := 2) Tryz.underlying60 rfl in4 rfl hF rfl rfl rfl) rfl rfl fun a hF => ?_
    refine g_val hF rfl rfl rfl hb999 (r_load1 Tryz.isAgg4 hF rfl rfl (hM.cell (i := 0) rfl (RMark.g_done _))) rfl rfl fun a hF => ?_
    refine g_val hF rfl rfl rfl hb999 (r_neqB Tryz.underlying4 hF rfl rfl rfl) rfl rfl fun a hF => ?_
    refine s_val hF (r_pick0 hF rfl rfl hb999 rfl) rfl rfl rfl fun a hF => ?_
    refine s_val hF (r_move hF rfl rfl) rfl rfl rfl fun a hF => ?_
    refine g_split 29 hF rfl (fun hb1000 => ?_) (fun hb1000 => ?_)
    · have hP := Fx.cT hb1000 hP
      refine g_skip hF rfl rfl rfl hb1000 rfl rfl fun a hF => ?_
      refine g_skip hF rfl rfl rfl hb1000 rfl rfl fun a hF => ?_
      refine g_skip hF rfl rfl rfl hb1000 rfl rfl fun a hF => ?_
      refine g_skip hF rfl rfl rfl hb1000 rfl rfl fun a hF => ?_
      refine g_skip hF rfl rfl rfl hb1000 rfl rfl fun a hF => ?_
      refine g_skip hF rfl rfl rfl hb1000 rfl rfl fun a hF => ?_
      refine g_skip hF rfl rfl rfl hb1000 rfl rfl fun a hF => ?_
      refine s_val hF (r_pick1 hF rfl rfl hb1000 rfl) rfl rfl rfl fun a hF => ?_
      refine s_val hF (r_move hF rfl rfl) rfl rfl rfl fun a hF => ?_
      refine g_skip hF rfl rfl rfl rfl rfl rfl fun a hF => ?_
      refine g_skip hF rfl rfl rfl rfl rfl rfl fun a hF => ?_
      refine g_skip hF rfl rfl rfl rfl rfl rfl fun a hF => ?_
      refine g_skip hF rfl rfl rfl rfl rfl rfl fun a hF => ?_
      refine g_skip hF rfl rfl rfl rfl rfl rfl fun a hF => ?_
      refine g_skip hF rfl rfl rfl rfl rfl rfl fun a hF => ?_
      refine g_skip hF rfl rfl rfl rfl rfl rfl fun a hF => ?_
      refine s_val hF (r_pick1 hF rfl rfl rfl rfl) rfl rfl rfl fun a hF => ?_
      refine s_val hF (r_move hF rfl rfl) rfl rfl rfl fun a hF => ?_
      refine g_skip hF rfl rfl rfl rfl rfl rfl fun a hF => ?_
      refine g_skip hF rfl rfl rfl rfl rfl rfl fun a hF => ?_
      refine g_skip hF rfl rfl rfl rfl rfl rfl fun a hF => ?_
      refine g_skip hF rfl rfl rfl rfl rfl rfl fun a hF => ?_
      refine g_skip hF rfl rfl rfl rfl rfl rfl fun a hF => ?_
      refine g_skip hF rfl rfl rfl rfl rfl rfl fun a hF => ?_
      refine g_skip hF rfl rfl rfl rfl rfl rfl fun a hF => ?_
      refine s_val hF (r_pick1 hF rfl rfl rfl rfl) rfl rfl rfl fun a hF => ?_
      refine s_val hF (r_move hF rfl rfl) rfl rfl rfl fun a hF => ?_
      refine g_skip hF rfl rfl rfl rfl rfl rfl fun a hF => ?_
      refine g_skip hF rfl rfl rfl rfl rfl rfl fun a hF => ?_
      refine g_skip hF rfl rfl rfl rfl rfl rfl fun a hF => ?_
      refine g_skip hF rfl rfl rfl rfl rfl rfl fun a hF => ?_
      refine g_skip hF rfl rfl rfl rfl rfl rfl fun a hF => ?_
      refine g_skip hF rfl rfl rfl rfl rfl rfl fun a hF => ?_
      refine s_val hF (r_pick1 hF rfl rfl rfl rfl) rfl rfl rfl fun a hF => ?_
      refine c_nil (n_then ?_)
      have hP := Option.some.inj hP
      subst hP
      exact ⟨true, rfl, hF.to ⟨rfl, rfl, rfl, rfl, trivial⟩, hM⟩
    have hP := Fx.cF hb1000 hP
    refine g_val hF rfl rfl rfl hb1000 (r_fieldAddr (off' := 3) Tryz.underlying60 rfl in56 rfl hF rfl rfl rfl) rfl rfl fun a hF => ?_
    refine g_val hF rfl rfl rfl hb1000 (r_load1 Tryz.isAgg56 hF rfl rfl (hM.cell (i := 1) rfl (RMark.g_regs _))) rfl rfl fun a hF => ?_
    refine g_val hF rfl rfl rfl hb1000 (r_lenL (f2 _ (hsub _ (dropM hM 2))) Tryz.underlying56 hF rfl rfl) rfl rfl fun a hF => ?_
    refine g_val hF rfl rfl rfl hb1000 (r_fieldAddr (off' := 3) Tryz.underlying60 rfl in56 rfl hF rfl rfl rfl) rfl rfl fun a hF => ?_
    refine g_val hF rfl rfl rfl hb1000 (r_load1 Tryz.isAgg56 hF rfl rfl (hM.cell (i := 0) rfl (RMark.g_regs _))) rfl rfl fun a hF => ?_
    refine g_val hF rfl rfl rfl hb1000 (r_lenL (f12 _ (hsub _ (dropM hM 2))) Tryz.underlying56 hF rfl rfl) rfl rfl fun a hF => ?_
    refine g_val hF rfl rfl rfl hb1000 (r_neq hF rfl rfl rfl) rfl rfl fun a hF => ?_
    refine s_val hF (r_pick0 hF rfl rfl hb1000 rfl) rfl rfl rfl fun a hF => ?_
    refine s_val hF (r_move hF rfl rfl) rfl rfl rfl fun a hF => ?_
    refine g_split 38 hF rfl (fun hb1001 => ?_) (fun hb1001 => ?_)
    · have hP := Fx.cT hb1001 hP
      refine g_skip hF rfl rfl rfl hb1001 rfl rfl fun a hF => ?_
      refine g_skip hF rfl rfl rfl hb1001 rfl rfl fun a hF => ?_
      refine g_skip hF rfl rfl rfl hb1001 rfl rfl fun a hF => ?_
      refine g_skip hF rfl rfl rfl hb1001 rfl rfl fun a hF => ?_
      refine g_skip hF rfl rfl rfl hb1001 rfl rfl fun a hF => ?_
      refine g_skip hF rfl rfl rfl hb1001 rfl rfl fun a hF => ?_
      refine g_skip hF rfl rfl rfl hb1001 rfl rfl fun a hF => ?_
      refine s_val hF (r_pick1 hF rfl rfl hb1001 rfl) rfl rfl rfl fun a hF => ?_
      refine s_val hF (r_move hF rfl rfl) rfl rfl rfl fun a hF => ?_
      refine g_skip hF rfl rfl rfl rfl rfl rfl fun a hF => ?_
      refine g_skip hF rfl rfl rfl rfl rfl rfl fun a hF => ?_
      refine g_skip hF rfl rfl rfl rfl rfl rfl fun a hF => ?_
      refine g_skip hF rfl rfl rfl rfl rfl rfl fun a hF => ?_
      refine g_skip hF rfl rfl rfl rfl rfl rfl fun a hF => ?_
      refine g_skip hF rfl rfl rfl rfl rfl rfl fun a hF => ?_
      refine g_skip hF rfl rfl rfl rfl rfl rfl fun a hF => ?_
      refine s_val hF (r_pick1 hF rfl rfl rfl rfl) rfl rfl rfl fun a hF => ?_
      refine s_val hF (r_move hF rfl rfl) rfl rfl rfl fun a hF => ?_
      refine g_skip hF rfl rfl rfl rfl rfl rfl fun a hF => ?_
      refine g_skip hF rfl rfl rfl rfl rfl rfl fun a hF => ?_
      refine g_skip hF rfl rfl rfl rfl rfl rfl fun a hF => ?_
      refine g_skip hF rfl rfl rfl rfl rfl rfl fun a hF => ?_
      refine g_skip hF rfl rfl rfl rfl rfl rfl fun a hF => ?_
      refine g_skip hF rfl rfl rfl rfl rfl rfl fun a hF => ?_
      refine s_val hF (r_pick1 hF rfl rfl rfl rfl) rfl rfl rfl fun a hF => ?_
      refine c_nil (n_then ?_)
      have hP := Option.some.inj hP
      subst hP
      exact ⟨true, rfl, hF.to ⟨rfl, rfl, rfl, rfl, trivial⟩, hM⟩
    have hP := Fx.cF hb1001 hP
    refine g_val hF rfl rfl rfl hb1001 (r_fieldAddr (off' := 4) Tryz.underlying60 rfl in57 rfl hF rfl rfl rfl) rfl rfl fun a hF => ?_
    refine g_val hF rfl rfl rfl hb1001 (r_load1 Tryz.isAgg57 hF rfl rfl (hM.cell (i := 1) rfl (RMark.g_slots _))) rfl rfl fun a hF => ?_
    refine g_val hF rfl rfl rfl hb1001 (r_lenL (f4 _ (hsub _ (dropM hM 2))) Tryz.underlying57 hF rfl rfl) rfl rfl fun a hF => ?_
    refine g_val hF rfl rfl rfl hb1001 (r_fieldAddr (off' := 4) Tryz.underlying60 rfl in57 rfl hF rfl rfl rfl) rfl rfl fun a hF => ?_
    refine g_val hF rfl rfl rfl hb1001 (r_load1 Tryz.isAgg57 hF rfl rfl (hM.cell (i := 0) rfl (RMark.g_slots _))) rfl rfl fun a hF => ?_
    refine g_val hF rfl rfl rfl hb1001 (r_lenL (f14 _ (hsub _ (dropM hM 2))) Tryz.underlying57 hF rfl rfl) rfl rfl fun a hF => ?_
    refine g_val hF rfl rfl rfl hb1001 (r_neq hF rfl rfl rfl) rfl rfl fun a hF => ?_
    refine s_val hF (r_pick0 hF rfl rfl hb1001 rfl) rfl rfl rfl fun a hF => ?_
    refine s_val hF (r_move hF rfl rfl) rfl rfl rfl fun a hF => ?_
    refine g_split 47 hF rfl (fun hb1002 => ?_) (fun hb1002 => ?_)
    · have hP := Fx.cT hb1002 hP
      refine g_skip hF rfl rfl rfl hb1002 rfl rfl fun a hF => ?_
      refine g_skip hF rfl rfl rfl hb1002 rfl rfl fun a hF => ?_
      refine g_skip hF rfl rfl rfl hb1002 rfl rfl fun a hF => ?_
      refine g_skip hF rfl rfl rfl hb1002 rfl rfl fun a hF => ?_
      refine g_skip hF rfl rfl rfl hb1002 rfl rfl fun a hF => ?_
      refine g_skip hF rfl rfl rfl hb1002 rfl rfl fun a hF => ?_
      refine g_skip hF rfl rfl rfl hb1002 rfl rfl fun a hF => ?_
      refine s_val hF (r_pick1 hF rfl rfl hb1002 rfl) rfl rfl rfl fun a hF => ?_
      refine s_val hF (r_move hF rfl rfl) rfl rfl rfl fun a hF => ?_
      refine g_skip hF rfl rfl rfl rfl rfl rfl fun a hF => ?_
      refine g_skip hF rfl rfl rfl rfl rfl rfl fun a hF => ?_
      refine g_skip hF rfl rfl rfl rfl rfl rfl fun a hF => ?_
      refine g_skip hF rfl rfl rfl rfl rfl rfl fun a hF => ?_
      refine g_skip hF rfl rfl rfl rfl rfl rfl fun a hF => ?_
      refine g_skip hF rfl rfl rfl rfl rfl rfl fun a hF => ?_
      refine s_val hF (r_pick1 hF rfl rfl rfl rfl) rfl rfl rfl fun a hF => ?_
      refine c_nil (n_then ?_)
      have hP := Option.some.inj hP
      subst hP
      exact ⟨true, rfl, hF.to ⟨rfl, rfl, rfl, rfl, trivial⟩, hM⟩
    have hP := Fx.cF hb1002 hP
    refine g_val hF rfl rfl rfl hb1002 (r_fieldAddr (off' := 5) Tryz.underlying60 rfl in58 rfl hF rfl rfl rfl) rfl rfl fun a hF => ?_
    refine g_val hF rfl rfl rfl hb1002 (r_load1 Tryz.isAgg58 hF rfl rfl (hM.cell (i := 1) rfl (RMark.g_pieces _))) rfl rfl fun a hF => ?_
    refine g_val hF rfl rfl rfl hb1002 (r_lenD (f7 _ (hsub _ (dropM hM 2))) q8.len Tryz.underlying58 hF rfl rfl) rfl rfl fun a hF => ?_
    refine g_val hF rfl rfl rfl hb1002 (r_fieldAddr (off' := 5) Tryz.underlying60 rfl in58 rfl hF rfl rfl rfl) rfl rfl fun a hF => ?_
    refine g_val hF rfl rfl rfl hb1002 (r_load1 Tryz.isAgg58 hF rfl rfl (hM.cell (i := 0) rfl (RMark.g_pieces _))) rfl rfl fun a hF => ?_
    refine g_val hF rfl rfl rfl hb1002 (r_lenD (f17 _ (hsub _ (dropM hM 2))) q18.len Tryz.underlying58 hF rfl rfl) rfl rfl fun a hF => ?_
    refine g_val hF rfl rfl rfl hb1002 (r_neq hF rfl rfl rfl) rfl rfl fun a hF => ?_
    refine s_val hF (r_pick0 hF rfl rfl hb1002 rfl) rfl rfl rfl fun a hF => ?_
    refine s_val hF (r_move hF rfl rfl) rfl rfl rfl fun a hF => ?_
    refine g_split 56 hF rfl (fun hb1003 => ?_) (fun hb1003 => ?_)
    · have hP := Fx.cT hb1003 hP
      refine g_skip hF rfl rfl rfl hb1003 rfl rfl fun a hF => ?_
      refine g_skip hF rfl rfl rfl hb1003 rfl rfl fun a hF => ?_
      refine g_skip hF rfl rfl rfl hb1003 rfl rfl fun a hF => ?_
      refine g_skip hF rfl rfl rfl hb1003 rfl rfl fun a hF => ?_
      refine g_skip hF rfl rfl rfl hb1003 rfl rfl fun a hF => ?_
      refine g_skip hF rfl rfl rfl hb1003 rfl rfl fun a hF => ?_
      refine s_val hF (r_pick1 hF rfl rfl hb1003 rfl) rfl rfl rfl fun a hF => ?_
      refine c_nil (n_then ?_)
      have hP := Option.some.inj hP
      subst hP
      exact ⟨true, rfl, hF.to ⟨rfl, rfl, rfl, rfl, trivial⟩, hM⟩
    have hP := Fx.cF hb1003 hP
    refine g_val hF rfl rfl rfl hb1003 (r_fieldAddr (off' := 6) Tryz.underlying60 rfl in52 rfl hF rfl rfl rfl) rfl rfl fun a hF => ?_
    refine g_val hF rfl rfl rfl hb1003 (r_load1 Tryz.isAgg52 hF rfl rfl (hM.cell (i := 1) rfl (RMark.g_sent _))) rfl rfl fun a hF => ?_
    refine g_val hF rfl rfl rfl hb1003 (r_fieldAddr (off' := 6) Tryz.underlying60 rfl in52 rfl hF rfl rfl rfl) rfl rfl fun a hF => ?_
    refine g_val hF rfl rfl rfl hb1003 (r_load1 Tryz.isAgg52 hF rfl rfl (hM.cell (i := 0) rfl (RMark.g_sent _))) rfl rfl fun a hF => ?_
    obtain ⟨y1005, hy1005, hP⟩ := bind_some hP
    refine g_eff hF rfl rfl rfl hb1003 rfl rfl (w_call (xs := [.tmp 58, .tmp 60]) Tryz.call89 hF rfl rfl (law00_SameInts_calls hy1005 hM (Bf := Bf) (fun w hM => hsub _ (dropM hM 2)) f10 f20) fun v w hR => ?_)
    obtain ⟨rfl, hM⟩ := hR
    replace hM : MemL _ (pt b_B33_3 (RMark.enc (RMark.mk x1.at_ x1.next x1.done s11 s13 s15 s19)) 60 :: pt b_B33_2 (RMark.enc (RMark.mk x0.at_ x0.next x0.done s1 s3 s5 s9)) 60 :: Lr) := hM
    intro a hF
    refine g_val hF rfl rfl rfl hb1003 (r_not hF rfl rfl) rfl rfl fun a hF => ?_
    refine s_val hF (r_pick0 hF rfl rfl hb1003 rfl) rfl rfl rfl fun a hF => ?_
    refine c_nil (n_then ?_)
    have hP := Option.some.inj hP
    subst hP
    exact ⟨(!y1005), rfl, hF.to ⟨rfl, rfl, rfl, rfl, trivial⟩, hM⟩
  rintro v997 a w hP ⟨hF, hM⟩
  replace hP : Sh.law23_sameMark_j1 x0 x1 v997 = _ := hP
  unfold Sh.law23_sameMark_j1 at hP
  refine n_then ?_
  refine c_cond hF (c := .tmp 63) rfl (fun hb1006 => ?_) (fun hb1006 => ?_)
  · have hP := Fx.cT hb1006 hP
    refine c_seq ?_
    refine c_region ?_
    refine s_val hF (r_assign hF rfl rfl) rfl rfl rfl fun a hF => ?_
    refine c_nil (n_then ?_)
    refine c_ret ?_
    have hP := Option.some.inj hP
    subst hP
    refine e_ret1 Tryz.results33 hF rfl ?_
    exact ⟨rfl, selM hM [] 2 rfl⟩
  have hP := Fx.cF hb1006 hP
  refine c_skip (n_then ?_)
  refine c_seq ?_
  refine c_joinX hF hM hP (fun F x a w => match x with | _ => Fr 145 [(2, .pointer (some ⟨b_B33_2, 0, none⟩)), (3, .pointer (some ⟨b_B33_3, 0, none⟩)), (4, .bool false)] a ∧ MemL w (pt b_B33_3 (RMark.enc (RMark.mk x1.at_ x1.next x1.done s11 s13 s15 s19)) 60 :: pt b_B33_2 (RMark.enc (RMark.mk x0.at_ x0.next x0.done s1 s3 s5 s9)) 60 :: Lr)) (fun o_j2 hP hK_j2 hF hM => ?_) ?_
  · refine c_seq ?_
    refine c_region ?_
    refine s_val hF (r_assign hF rfl rfl) rfl rfl rfl fun a hF => ?_
    refine c_nil (n_then ?_)
    refine c_block ?_
    refine c_loopX hF hM hP (fun F x a w => match x with | v1108 => Fr 145 [(5, .int .i64 v1108), (2, .pointer (some ⟨b_B33_2, 0, none⟩)), (3, .pointer (some ⟨b_B33_3, 0, none⟩)), (4, .bool false)] a ∧ MemL w (pt b_B33_3 (RMark.enc (RMark.mk x1.at_ x1.next x1.done s11 s13 s15 s19)) 60 :: pt b_B33_2 (RMark.enc (RMark.mk x0.at_ x0.next x0.done s1 s3 s5 s9)) 60 :: Lr)) (fun hF hM => ⟨hF.to ⟨rfl, rfl, rfl, rfl, trivial⟩, hM⟩) ?_
    rintro v1108 a w o_l3 hP hK_l3 ⟨hF, hM⟩
    replace hP : Sh.law23_sameMark_l3 x0 x1 v1108 = _ := hP
    unfold Sh.law23_sameMark_l3 at hP
    refine c_seq ?_
    refine c_seq ?_
    refine c_region ?_
    refine s_val hF (r_move hF rfl rfl) rfl rfl rfl fun a hF => ?_
    refine s_val hF (r_fieldAddr (off' := 3) Tryz.underlying60 rfl in56 rfl hF rfl rfl rfl) rfl rfl rfl fun a hF => ?_
    refine s_val hF (r_load1 Tryz.isAgg56 hF rfl rfl (hM.cell (i := 1) rfl (RMark.g_regs _))) rfl rfl rfl fun a hF => ?_
    refine s_val hF (r_lenL (f2 _ (hsub _ (dropM hM 2))) Tryz.underlying56 hF rfl rfl) rfl rfl rfl fun a hF => ?_
    refine s_val hF (r_lss hF rfl rfl rfl) rfl rfl rfl fun a hF => ?_
    refine c_nil (n_then ?_)
    refine c_cond hF (c := .tmp 68) rfl (fun hb1110 => ?_) (fun hb1110 => ?_)
    · have hP := Fx.cT hb1110 hP
      refine c_skip (n_then ?_)
      refine c_seq ?_
      refine c_block ?_
      refine c_seq ?_
      refine d_startT mixed (by kernel_rfl) hM [0, 1] 2 rfl fun hch => ?_
      refine d_val hF hch 0 rfl (by kernel_rfl) rfl rfl rfl (fun w hM => (r_fieldAddr (off' := 3) Tryz.underlying60 rfl in56 rfl hF rfl rfl rfl)) fun a hF => ?_
      refine d_val hF hch 1 rfl (by kernel_rfl) rfl rfl rfl (fun w hM => (r_load1 Tryz.isAgg56 hF rfl rfl (hM.cell (i := 1) rfl (RMark.g_regs _)))) fun a hF => ?_
      refine d_val hF hch 2 rfl (by kernel_rfl) rfl rfl rfl (fun w hM => (r_move hF rfl rfl)) fun a hF => ?_
      obtain ⟨x1118, hx1118, hP⟩ := bind_some hP
      have h0x1118 := get_some hx1118
      refine d_val hF hch 3 rfl (by kernel_rfl) rfl rfl rfl (fun w hM => (r_indexZ (sz := 9) (f2 _ (hsub _ (dropM hM 2))) Tryz.underlying56 in128 rfl hF rfl rfl rfl (get_bd hx1118))) fun a hF => ?_
      refine d_val hF hch 4 rfl (by kernel_rfl) rfl rfl rfl (fun w hM => (r_loadn Tryz.isAgg128 Tryz.sizeOf128 hF rfl rfl (LTurn.len _) (((f2 _ (hsub _ (dropM hM 2))).elemS h0x1118.2)))) fun a hF => ?_
      refine d_val hF hch 5 rfl (by kernel_rfl) rfl rfl rfl (fun w hM => (r_fieldAddr (off' := 3) Tryz.underlying60 rfl in56 rfl hF rfl rfl rfl)) fun a hF => ?_
      refine d_val hF hch 6 rfl (by kernel_rfl) rfl rfl rfl (fun w hM => (r_load1 Tryz.isAgg56 hF rfl rfl (hM.cell (i := 0) rfl (RMark.g_regs _)))) fun a hF => ?_
      refine d_val hF hch 7 rfl (by kernel_rfl) rfl rfl rfl (fun w hM => (r_move hF rfl rfl)) fun a hF => ?_
      obtain ⟨x1119, hx1119, hP⟩ := bind_some hP
      have h0x1119 := get_some hx1119
      refine d_val hF hch 8 rfl (by kernel_rfl) rfl rfl rfl (fun w hM => (r_indexZ (sz := 9) (f12 _ (hsub _ (dropM hM 2))) Tryz.underlying56 in128 rfl hF rfl rfl rfl (get_bd hx1119))) fun a hF => ?_
      refine d_val hF hch 9 rfl (by kernel_rfl) rfl rfl rfl (fun w hM => (r_loadn Tryz.isAgg128 Tryz.sizeOf128 hF rfl rfl (LTurn.len _) (((f12 _ (hsub _ (dropM hM 2))).elemS h0x1119.2)))) fun a hF => ?_
      refine d_val hF hch 10 rfl (by kernel_rfl) rfl rfl rfl (fun w hM => (r_neqA Tryz.eqGuardType128 (eq_LTurn _ _ _ _ (by decide)) hF rfl rfl rfl)) fun a hF => ?_
      refine d_end hch (by kernel_rfl) fun w hM => ?_
      refine n_then ?_
      refine c_cond hF (c := .tmp 81) rfl (fun hb1120 => ?_) (fun hb1120 => ?_)
      · have hP := Fx.cT hb1120 hP
        refine c_seq ?_
        refine c_region ?_
        refine s_val hF (r_assign hF rfl rfl) rfl rfl rfl fun a hF => ?_
        refine c_nil (n_then ?_)
        refine c_ret ?_
        have hP := Option.some.inj hP
        subst hP
        have hP := hK_l3 _ rfl
        subst hP
        have hP := fin_inr hK_j2
        subst hP
        refine e_ret1 Tryz.results33 hF rfl ?_
        exact ⟨rfl, selM hM [] 2 rfl⟩
      have hP := Fx.cF hb1120 hP
      refine c_skip (n_block (n_then ?_))
      refine c_region ?_
      refine s_val hF (r_move hF rfl rfl) rfl rfl rfl fun a hF => ?_
      refine s_val hF (r_add hF rfl rfl rfl) rfl rfl rfl fun a hF => ?_
      refine s_val hF (r_assign hF rfl rfl) rfl rfl rfl fun a hF => ?_
      refine c_nil (n_then ?_)
      have hP := Option.some.inj hP
      subst hP
      exact ⟨(IntKind.i64.wrap (v1108 + 1)), rfl, hF.to ⟨rfl, rfl, rfl, rfl, trivial⟩, hM⟩
    have hP := Fx.cF hb1110 hP
    refine c_exit (x_then (x_then (x_hit ?_)))
    refine n_then ?_
    have hP := Option.some.inj hP
    subst hP
    have hP := hK_l3 _ rfl
    subst hP
    exact ⟨(), rfl, hF.to ⟨rfl, rfl, rfl, trivial⟩, hM⟩
  rintro ⟨⟩ a w hP ⟨hF, hM⟩
  replace hP : Sh.law23_sameMark_j2 x0 x1 = _ := hP
  unfold Sh.law23_sameMark_j2 at hP
  refine n_then ?_
  refine c_seq ?_
  refine c_joinX hF hM hP (fun F x a w => match x with | _ => Fr 145 [(2, .pointer (some ⟨b_B33_2, 0, none⟩)), (3, .pointer (some ⟨b_B33_3, 0, none⟩)), (4, .bool false)] a ∧ MemL w (pt b_B33_3 (RMark.enc (RMark.mk x1.at_ x1.next x1.done s11 s13 s15 s19)) 60 :: pt b_B33_2 (RMark.enc (RMark.mk x0.at_ x0.next x0.done s1 s3 s5 s9)) 60 :: Lr)) (fun o_j4 hP hK_j4 hF hM => ?_) ?_
  · refine c_seq ?_
    refine c_region ?_
    refine s_val hF (r_assign hF rfl rfl) rfl rfl rfl fun a hF => ?_
    refine c_nil (n_then ?_)
    refine c_block ?_
    refine c_loopX hF hM hP (fun F x a w => match x with | v1222 => Fr 145 [(6, .int .i64 v1222), (2, .pointer (some ⟨b_B33_2, 0, none⟩)), (3, .pointer (some ⟨b_B33_3, 0, none⟩)), (4, .bool false)] a ∧ MemL w (pt b_B33_3 (RMark.enc (RMark.mk x1.at_ x1.next x1.done s11 s13 s15 s19)) 60 :: pt b_B33_2 (RMark.enc (RMark.mk x0.at_ x0.next x0.done s1 s3 s5 s9)) 60 :: Lr)) (fun hF hM => ⟨hF.to ⟨rfl, rfl, rfl, rfl, trivial⟩, hM⟩) ?_
    rintro v1222 a w o_l5 hP hK_l5 ⟨hF, hM⟩
    replace hP : Sh.law23_sameMark_l5 x0 x1 v1222 = _ := hP
    unfold Sh.law23_sameMark_l5 at hP
    refine c_seq ?_
    refine c_seq ?_
    refine c_region ?_
    refine s_val hF (r_move hF rfl rfl) rfl rfl rfl fun a hF => ?_
    refine s_val hF (r_fieldAddr (off' := 4) Tryz.underlying60 rfl in57 rfl hF rfl rfl rfl) rfl rfl rfl fun a hF => ?_
    refine s_val hF (r_load1 Tryz.isAgg57 hF rfl rfl (hM.cell (i := 1) rfl (RMark.g_slots _))) rfl rfl rfl fun a hF => ?_
    refine s_val hF (r_lenL (f4 _ (hsub _ (dropM hM 2))) Tryz.underlying57 hF rfl rfl) rfl rfl rfl fun a hF => ?_
    refine s_val hF (r_lss hF rfl rfl rfl) rfl rfl rfl fun a hF => ?_
    refine c_nil (n_then ?_)
    refine c_cond hF (c := .tmp 86) rfl (fun hb1224 => ?_) (fun hb1224 => ?_)
    · have hP := Fx.cT hb1224 hP
      refine c_skip (n_then ?_)
      refine c_seq ?_
      refine c_block ?_
      refine c_seq ?_
      refine d_startT mixed (by kernel_rfl) hM [0, 1] 2 rfl fun hch => ?_
      refine d_val hF hch 0 rfl (by kernel_rfl) rfl rfl rfl (fun w hM => (r_fieldAddr (off' := 4) Tryz.underlying60 rfl in57 rfl hF rfl rfl rfl)) fun a hF => ?_
      refine d_val hF hch 1 rfl (by kernel_rfl) rfl rfl rfl (fun w hM => (r_load1 Tryz.isAgg57 hF rfl rfl (hM.cell (i := 1) rfl (RMark.g_slots _)))) fun a hF => ?_
      refine d_val hF hch 2 rfl (by kernel_rfl) rfl rfl rfl (fun w hM => (r_move hF rfl rfl)) fun a hF => ?_
      obtain ⟨x1232, hx1232, hP⟩ := bind_some hP
      have h0x1232 := get_some hx1232
      refine d_val hF hch 3 rfl (by kernel_rfl) rfl rfl rfl (fun w hM => (r_indexZ (sz := 27) (f4 _ (hsub _ (dropM hM 2))) Tryz.underlying57 in151 rfl hF rfl rfl rfl (get_bd hx1232))) fun a hF => ?_
      refine d_val hF hch 4 rfl (by kernel_rfl) rfl rfl rfl (fun w hM => (r_loadn Tryz.isAgg151 Tryz.sizeOf151 hF rfl rfl (LCell.len _) (((f4 _ (hsub _ (dropM hM 2))).elemS h0x1232.2)))) fun a hF => ?_
      refine d_val hF hch 5 rfl (by kernel_rfl) rfl rfl rfl (fun w hM => (r_fieldAddr (off' := 4) Tryz.underlying60 rfl in57 rfl hF rfl rfl rfl)) fun a hF => ?_
      refine d_val hF hch 6 rfl (by kernel_rfl) rfl rfl rfl (fun w hM => (r_load1 Tryz.isAgg57 hF rfl rfl (hM.cell (i := 0) rfl (RMark.g_slots _)))) fun a hF => ?_
      refine d_val hF hch 7 rfl (by kernel_rfl) rfl rfl rfl (fun w hM => (r_move hF rfl rfl)) fun a hF => ?_
      obtain ⟨x1233, hx1233, hP⟩ := bind_some hP
      have h0x1233 := get_some hx1233
      refine d_val hF hch 8 rfl (by kernel_rfl) rfl rfl rfl (fun w hM => (r_indexZ (sz := 27) (f14 _ (hsub _ (dropM hM 2))) Tryz.underlying57 in151 rfl hF rfl rfl rfl (get_bd hx1233))) fun a hF => ?_
      refine d_val hF hch 9 rfl (by kernel_rfl) rfl rfl rfl (fun w hM => (r_loadn Tryz.isAgg151 Tryz.sizeOf151 hF rfl rfl (LCell.len _) (((f14 _ (hsub _ (dropM hM 2))).elemS h0x1233.2)))) fun a hF => ?_
      refine d_val hF hch 10 rfl (by kernel_rfl) rfl rfl rfl (fun w hM => (r_neqA Tryz.eqGuardType151 (eq_LCell _ _ _ _ (by decide)) hF rfl rfl rfl)) fun a hF => ?_
      refine d_end hch (by kernel_rfl) fun w hM => ?_
      refine n_then ?_
      refine c_cond hF (c := .tmp 99) rfl (fun hb1234 => ?_) (fun hb1234 => ?_)
      · have hP := Fx.cT hb1234 hP
        refine c_seq ?_
        refine c_region ?_
        refine s_val hF (r_assign hF rfl rfl) rfl rfl rfl fun a hF => ?_
        refine c_nil (n_then ?_)
        refine c_ret ?_
        have hP := Option.some.inj hP
        subst hP
        have hP := hK_l5 _ rfl
        subst hP
        have hP := fin_inr hK_j4
        subst hP
        refine e_ret1 Tryz.results33 hF rfl ?_
        exact ⟨rfl, selM hM [] 2 rfl⟩
      have hP := Fx.cF hb1234 hP
      refine c_skip (n_block (n_then ?_))
      refine c_region ?_
      refine s_val hF (r_move hF rfl rfl) rfl rfl rfl fun a hF => ?_
      refine s_val hF (r_add hF rfl rfl rfl) rfl rfl rfl fun a hF => ?_
      refine s_val hF (r_assign hF rfl rfl) rfl rfl rfl fun a hF => ?_
      refine c_nil (n_then ?_)
      have hP := Option.some.inj hP
      subst hP
      exact ⟨(IntKind.i64.wrap (v1222 + 1)), rfl, hF.to ⟨rfl, rfl, rfl, rfl, trivial⟩, hM⟩
    have hP := Fx.cF hb1224 hP
    refine c_exit (x_then (x_then (x_hit ?_)))
    refine n_then ?_
    have hP := Option.some.inj hP
    subst hP
    have hP := hK_l5 _ rfl
    subst hP
    exact ⟨(), rfl, hF.to ⟨rfl, rfl, rfl, trivial⟩, hM⟩
  rintro ⟨⟩ a w hP ⟨hF, hM⟩
  replace hP : Sh.law23_sameMark_j4 x0 x1 = _ := hP
  unfold Sh.law23_sameMark_j4 at hP
  refine n_then ?_
  refine c_seq ?_
  refine c_joinX hF hM hP (fun F x a w => match x with | _ => Fr 145 [(4, .bool false)] a ∧ MemL w (Lr)) (fun o_j6 hP hK_j6 hF hM => ?_) ?_
  · refine c_seq ?_
    refine c_region ?_
    refine s_val hF (r_assign hF rfl rfl) rfl rfl rfl fun a hF => ?_
    refine c_nil (n_then ?_)
    refine c_block ?_
    refine c_loopX hF hM hP (fun F x a w => match x with | v1816 => Fr 145 [(7, .int .i64 v1816), (2, .pointer (some ⟨b_B33_2, 0, none⟩)), (3, .pointer (some ⟨b_B33_3, 0, none⟩)), (4, .bool false)] a ∧ MemL w (pt b_B33_3 (RMark.enc (RMark.mk x1.at_ x1.next x1.done s11 s13 s15 s19)) 60 :: pt b_B33_2 (RMark.enc (RMark.mk x0.at_ x0.next x0.done s1 s3 s5 s9)) 60 :: Lr)) (fun hF hM => ⟨hF.to ⟨rfl, rfl, rfl, rfl, trivial⟩, hM⟩) ?_
    rintro v1816 a w o_l7 hP hK_l7 ⟨hF, hM⟩
    replace hP : Sh.law23_sameMark_l7 x0 x1 v1816 = _ := hP
    unfold Sh.law23_sameMark_l7 at hP
    refine c_seq ?_
    refine c_seq ?_
    refine c_region ?_
    refine s_val hF (r_move hF rfl rfl) rfl rfl rfl fun a hF => ?_
    refine s_val hF (r_fieldAddr (off' := 5) Tryz.underlying60 rfl in58 rfl hF rfl rfl rfl) rfl rfl rfl fun a hF => ?_
    refine s_val hF (r_load1 Tryz.isAgg58 hF rfl rfl (hM.cell (i := 1) rfl (RMark.g_pieces _))) rfl rfl rfl fun a hF => ?_
    refine s_val hF (r_lenD (f7 _ (hsub _ (dropM hM 2))) q8.len Tryz.underlying58 hF rfl rfl) rfl rfl rfl fun a hF => ?_
    refine s_val hF (r_lss hF rfl rfl rfl) rfl rfl rfl fun a hF => ?_
    refine c_nil (n_then ?_)
    refine c_cond hF (c := .tmp 104) rfl (fun hb1818 => ?_) (fun hb1818 => ?_)
    · have hP := Fx.cT hb1818 hP
      refine c_skip (n_then ?_)
      refine c_seq ?_
      refine c_block ?_
      refine c_seq ?_
      refine c_region ?_
      refine s_val hF (r_fieldAddr (off' := 5) Tryz.underlying60 rfl in58 rfl hF rfl rfl rfl) rfl rfl rfl fun a hF => ?_
      refine s_val hF (r_load1 Tryz.isAgg58 hF rfl rfl (hM.cell (i := 1) rfl (RMark.g_pieces _))) rfl rfl rfl fun a hF => ?_
      refine s_val hF (r_move hF rfl rfl) rfl rfl rfl fun a hF => ?_
      obtain ⟨x1854, hx1854, hP⟩ := bind_some hP
      have h0x1854 := get_some hx1854
      obtain ⟨yx1854, hgx1854, hrx1854⟩ := Each.getr q8 h0x1854.2
      have hdx1854 := Each.bd q8 (get_bd hx1854)
      obtain ⟨s1855, s1857, rfl, f1856, f1858⟩ := hrx1854
      refine s_val hF (r_indexZ (sz := 4) (f7 _ (hsub _ (dropM hM 2))) Tryz.underlying58 in156 rfl hF rfl rfl rfl hdx1854) rfl rfl rfl fun a hF => ?_
      refine s_val hF (r_loadn Tryz.isAgg156 Tryz.sizeOf156 hF rfl rfl (RPiece.len _) (((f7 _ (hsub _ (dropM hM 2))).elemS hgx1854))) rfl rfl rfl fun a hF => ?_
      refine s_eff hF rfl rfl rfl (w_alloc z156 (zs := RPiece.zero.enc) rfl rfl fun b_B33_8 w hzB33_8 hAB33_8 => ?_)
      have hM := hM.plus hAB33_8
      replace hM : MemL _ (pt b_B33_8 (RPiece.enc (RPiece.mk 0 0 SV.nil SV.nil)) 156 :: pt b_B33_3 (RMark.enc (RMark.mk x1.at_ x1.next x1.done s11 s13 s15 s19)) 60 :: pt b_B33_2 (RMark.enc (RMark.mk x0.at_ x0.next x0.done s1 s3 s5 s9)) 60 :: Lr) := hM
      intro a hF
      refine s_eff0 rfl rfl (w_storen (vs := _) Tryz.sizeOf156 (hM.obj (i := 0) rfl) hF rfl rfl rfl rfl (RPiece.len _) (RPiece.one _) (by first | (rw [RPiece.len, RPiece.len]; decide) | (rw [RPiece.len]; decide)) (put_all ((RPiece.len _).trans (RPiece.len _).symm)) fun w hU1859 => ?_)
      have hM := hM.chg hU1859 (i := 0) rfl
      replace hM : MemL _ (pt b_B33_8 (RPiece.enc (RPiece.mk x1854.table x1854.from_ s1855 s1857)) 156 :: pt b_B33_3 (RMark.enc (RMark.mk x1.at_ x1.next x1.done s11 s13 s15 s19)) 60 :: pt b_B33_2 (RMark.enc (RMark.mk x0.at_ x0.next x0.done s1 s3 s5 s9)) 60 :: Lr) := hM
      refine c_nil (n_then ?_)
      refine c_seq ?_
      refine c_region ?_
      refine s_val hF (r_fieldAddr (off' := 5) Tryz.underlying60 rfl in58 rfl hF rfl rfl rfl) rfl rfl rfl fun a hF => ?_
      refine s_val hF (r_load1 Tryz.isAgg58 hF rfl rfl (hM.cell (i := 1) rfl (RMark.g_pieces _))) rfl rfl rfl fun a hF => ?_
      refine s_val hF (r_move hF rfl rfl) rfl rfl rfl fun a hF => ?_
      obtain ⟨x1860, hx1860, hP⟩ := bind_some hP
      have h0x1860 := get_some hx1860
      obtain ⟨yx1860, hgx1860, hrx1860⟩ := Each.getr q18 h0x1860.2
      have hdx1860 := Each.bd q18 (get_bd hx1860)
      obtain ⟨s1861, s1863, rfl, f1862, f1864⟩ := hrx1860
      refine s_val hF (r_indexZ (sz := 4) (f17 _ (hsub _ (dropM hM 3))) Tryz.underlying58 in156 rfl hF rfl rfl rfl hdx1860) rfl rfl rfl fun a hF => ?_
      refine s_val hF (r_loadn Tryz.isAgg156 Tryz.sizeOf156 hF rfl rfl (RPiece.len _) (((f17 _ (hsub _ (dropM hM 3))).elemS hgx1860))) rfl rfl rfl fun a hF => ?_
      refine s_eff hF rfl rfl rfl (w_alloc z156 (zs := RPiece.zero.enc) rfl rfl fun b_B33_9 w hzB33_9 hAB33_9 => ?_)
      have hM := hM.plus hAB33_9
      replace hM : MemL _ (pt b_B33_9 (RPiece.enc (RPiece.mk 0 0 SV.nil SV.nil)) 156 :: pt b_B33_8 (RPiece.enc (RPiece.mk x1854.table x1854.from_ s1855 s1857)) 156 :: pt b_B33_3 (RMark.enc (RMark.mk x1.at_ x1.next x1.done s11 s13 s15 s19)) 60 :: pt b_B33_2 (RMark.enc (RMark.mk x0.at_ x0.next x0.done s1 s3 s5 s9)) 60 :: Lr) := hM
      intro a hF
      refine s_eff0 rfl rfl (w_storen (vs := _) Tryz.sizeOf156 (hM.obj (i := 0) rfl) hF rfl rfl rfl rfl (RPiece.len _) (RPiece.one _) (by first | (rw [RPiece.len, RPiece.len]; decide) | (rw [RPiece.len]; decide)) (put_all ((RPiece.len _).trans (RPiece.len _).symm)) fun w hU1865 => ?_)
      have hM := hM.chg hU1865 (i := 0) rfl
      replace hM : MemL _ (pt b_B33_9 (RPiece.enc (RPiece.mk x1860.table x1860.from_ s1861 s1863)) 156 :: pt b_B33_8 (RPiece.enc (RPiece.mk x1854.table x1854.from_ s1855 s1857)) 156 :: pt b_B33_3 (RMark.enc (RMark.mk x1.at_ x1.next x1.done s11 s13 s15 s19)) 60 :: pt b_B33_2 (RMark.enc (RMark.mk x0.at_ x0.next x0.done s1 s3 s5 s9)) 60 :: Lr) := hM
      refine c_nil (n_then ?_)
      refine c_seq ?_
      refine c_joinX hF hM hP (fun F x a w => match x with | v1880 => Fr 145 [(144, .bool v1880), (2, .pointer (some ⟨b_B33_2, 0, none⟩)), (3, .pointer (some ⟨b_B33_3, 0, none⟩)), (4, .bool false), (7, .int .i64 v1816)] a ∧ MemL w (pt b_B33_3 (RMark.enc (RMark.mk x1.at_ x1.next x1.done s11 s13 s15 s19)) 60 :: pt b_B33_2 (RMark.enc (RMark.mk x0.at_ x0.next x0.done s1 s3 s5 s9)) 60 :: Lr)) (fun o_j8 hP hK_j8 hF hM => ?_) ?_
      · refine c_region ?_
        refine s_val hF (r_fieldAddr (off' := 0) Tryz.underlying156 rfl in3 rfl hF rfl rfl rfl) rfl rfl rfl fun a hF => ?_
        refine s_val hF (r_load1 Tryz.isAgg3 hF rfl rfl (hM.cell (i := 1) rfl (RPiece.g_table _))) rfl rfl rfl fun a hF => ?_
        refine s_val hF (r_fieldAddr (off' := 0) Tryz.underlying156 rfl in3 rfl hF rfl rfl rfl) rfl rfl rfl fun a hF => ?_
        refine s_val hF (r_load1 Tryz.isAgg3 hF rfl rfl (hM.cell (i := 0) rfl (RPiece.g_table _))) rfl rfl rfl fun a hF => ?_
        refine s_val hF (r_neq hF rfl rfl rfl) rfl rfl rfl fun a hF => ?_
        refine s_val hF (r_move hF rfl rfl) rfl rfl rfl fun a hF => ?_
        refine g_split 122 hF rfl (fun hb1881 => ?_) (fun hb1881 => ?_)
        · have hP := Fx.cT hb1881 hP
          refine g_skip hF rfl rfl rfl hb1881 rfl rfl fun a hF => ?_
          refine g_skip hF rfl rfl rfl hb1881 rfl rfl fun a hF => ?_
          refine g_skip hF rfl rfl rfl hb1881 rfl rfl fun a hF => ?_
          refine g_skip hF rfl rfl rfl hb1881 rfl rfl fun a hF => ?_
          refine g_skip hF rfl rfl rfl hb1881 rfl rfl fun a hF => ?_
          refine s_val hF (r_pick1 hF rfl rfl hb1881 rfl) rfl rfl rfl fun a hF => ?_
          refine s_val hF (r_move hF rfl rfl) rfl rfl rfl fun a hF => ?_
          refine g_skip hF rfl rfl rfl rfl rfl rfl fun a hF => ?_
          refine g_skip hF rfl rfl rfl rfl rfl rfl fun a hF => ?_
          refine g_skip hF rfl rfl rfl rfl rfl rfl fun a hF => ?_
          refine g_skip hF rfl rfl rfl rfl rfl rfl fun a hF => ?_
          refine g_skip hF rfl rfl rfl rfl rfl rfl fun a hF => ?_
          refine g_skip hF rfl rfl rfl rfl rfl rfl fun a hF => ?_
          refine s_val hF (r_pick1 hF rfl rfl rfl rfl) rfl rfl rfl fun a hF => ?_
          refine s_val hF (r_move hF rfl rfl) rfl rfl rfl fun a hF => ?_
          refine g_skip hF rfl rfl rfl rfl rfl rfl fun a hF => ?_
          refine g_skip hF rfl rfl rfl rfl rfl rfl fun a hF => ?_
          refine g_skip hF rfl rfl rfl rfl rfl rfl fun a hF => ?_
          refine g_skip hF rfl rfl rfl rfl rfl rfl fun a hF => ?_
          refine g_skip hF rfl rfl rfl rfl rfl rfl fun a hF => ?_
          refine g_skip hF rfl rfl rfl rfl rfl rfl fun a hF => ?_
          refine s_val hF (r_pick1 hF rfl rfl rfl rfl) rfl rfl rfl fun a hF => ?_
          refine c_nil (n_then ?_)
          have hP := Option.some.inj hP
          subst hP
          exact ⟨true, rfl, hF.to ⟨rfl, rfl, rfl, rfl, rfl, trivial⟩, selM hM [2, 3] 4 rfl⟩
        have hP := Fx.cF hb1881 hP
        refine g_val hF rfl rfl rfl hb1881 (r_fieldAddr (off' := 1) Tryz.underlying156 rfl in3 rfl hF rfl rfl rfl) rfl rfl fun a hF => ?_
        refine g_val hF rfl rfl rfl hb1881 (r_load1 Tryz.isAgg3 hF rfl rfl (hM.cell (i := 1) rfl (RPiece.g_from_ _))) rfl rfl fun a hF => ?_
        refine g_val hF rfl rfl rfl hb1881 (r_fieldAddr (off' := 1) Tryz.underlying156 rfl in3 rfl hF rfl rfl rfl) rfl rfl fun a hF => ?_
        refine g_val hF rfl rfl rfl hb1881 (r_load1 Tryz.isAgg3 hF rfl rfl (hM.cell (i := 0) rfl (RPiece.g_from_ _))) rfl rfl fun a hF => ?_
        refine g_val hF rfl rfl rfl hb1881 (r_neq hF rfl rfl rfl) rfl rfl fun a hF => ?_
        refine s_val hF (r_pick0 hF rfl rfl hb1881 rfl) rfl rfl rfl fun a hF => ?_
        refine s_val hF (r_move hF rfl rfl) rfl rfl rfl fun a hF => ?_
        refine g_split 129 hF rfl (fun hb1882 => ?_) (fun hb1882 => ?_)
        · have hP := Fx.cT hb1882 hP
          refine g_skip hF rfl rfl rfl hb1882 rfl rfl fun a hF => ?_
          refine g_skip hF rfl rfl rfl hb1882 rfl rfl fun a hF => ?_
          refine g_skip hF rfl rfl rfl hb1882 rfl rfl fun a hF => ?_
          refine g_skip hF rfl rfl rfl hb1882 rfl rfl fun a hF => ?_
          refine g_skip hF rfl rfl rfl hb1882 rfl rfl fun a hF => ?_
          refine g_skip hF rfl rfl rfl hb1882 rfl rfl fun a hF => ?_
          refine s_val hF (r_pick1 hF rfl rfl hb1882 rfl) rfl rfl rfl fun a hF => ?_
          refine s_val hF (r_move hF rfl rfl) rfl rfl rfl fun a hF => ?_
          refine g_skip hF rfl rfl rfl rfl rfl rfl fun a hF => ?_
          refine g_skip hF rfl rfl rfl rfl rfl rfl fun a hF => ?_
          refine g_skip hF rfl rfl rfl rfl rfl rfl fun a hF => ?_
          refine g_skip hF rfl rfl rfl rfl rfl rfl fun a hF => ?_
          refine g_skip hF rfl rfl rfl rfl rfl rfl fun a hF => ?_
          refine g_skip hF rfl rfl rfl rfl rfl rfl fun a hF => ?_
          refine s_val hF (r_pick1 hF rfl rfl rfl rfl) rfl rfl rfl fun a hF => ?_
          refine c_nil (n_then ?_)
          have hP := Option.some.inj hP
          subst hP
          exact ⟨true, rfl, hF.to ⟨rfl, rfl, rfl, rfl, rfl, trivial⟩, selM hM [2, 3] 4 rfl⟩
        have hP := Fx.cF hb1882 hP
        refine g_val hF rfl rfl rfl hb1882 (r_fieldAddr (off' := 2) Tryz.underlying156 rfl in23 rfl hF rfl rfl rfl) rfl rfl fun a hF => ?_
        refine g_val hF rfl rfl rfl hb1882 (r_load1 Tryz.isAgg23 hF rfl rfl (hM.cell (i := 1) rfl (RPiece.g_old _))) rfl rfl fun a hF => ?_
        refine g_val hF rfl rfl rfl hb1882 (r_fieldAddr (off' := 2) Tryz.underlying156 rfl in23 rfl hF rfl rfl rfl) rfl rfl fun a hF => ?_
        refine g_val hF rfl rfl rfl hb1882 (r_load1 Tryz.isAgg23 hF rfl rfl (hM.cell (i := 0) rfl (RPiece.g_old _))) rfl rfl fun a hF => ?_
        obtain ⟨y1884, hy1884, hP⟩ := bind_some hP
        refine g_eff hF rfl rfl rfl hb1882 rfl rfl (w_call (xs := [.tmp 131, .tmp 133]) Tryz.call43 hF rfl rfl (law00_SameBytes_calls hy1884 hM (Bf := Bf) (fun w hM => hsub _ (dropM hM 4)) f1856 f1862) fun v w hR => ?_)
        obtain ⟨rfl, hM⟩ := hR
        replace hM : MemL _ (pt b_B33_9 (RPiece.enc (RPiece.mk x1860.table x1860.from_ s1861 s1863)) 156 :: pt b_B33_8 (RPiece.enc (RPiece.mk x1854.table x1854.from_ s1855 s1857)) 156 :: pt b_B33_3 (RMark.enc (RMark.mk x1.at_ x1.next x1.done s11 s13 s15 s19)) 60 :: pt b_B33_2 (RMark.enc (RMark.mk x0.at_ x0.next x0.done s1 s3 s5 s9)) 60 :: Lr) := hM
        intro a hF
        refine g_val hF rfl rfl rfl hb1882 (r_not hF rfl rfl) rfl rfl fun a hF => ?_
        refine s_val hF (r_pick0 hF rfl rfl hb1882 rfl) rfl rfl rfl fun a hF => ?_
        refine s_val hF (r_move hF rfl rfl) rfl rfl rfl fun a hF => ?_
        refine g_split 137 hF rfl (fun hb1885 => ?_) (fun hb1885 => ?_)
        · have hP := Fx.cT hb1885 hP
          refine g_skip hF rfl rfl rfl hb1885 rfl rfl fun a hF => ?_
          refine g_skip hF rfl rfl rfl hb1885 rfl rfl fun a hF => ?_
          refine g_skip hF rfl rfl rfl hb1885 rfl rfl fun a hF => ?_
          refine g_skip hF rfl rfl rfl hb1885 rfl rfl fun a hF => ?_
          refine g_skip hF rfl rfl rfl hb1885 rfl rfl fun a hF => ?_
          refine g_skip hF rfl rfl rfl hb1885 rfl rfl fun a hF => ?_
          refine s_val hF (r_pick1 hF rfl rfl hb1885 rfl) rfl rfl rfl fun a hF => ?_
          refine c_nil (n_then ?_)
          have hP := Option.some.inj hP
          subst hP
          exact ⟨true, rfl, hF.to ⟨rfl, rfl, rfl, rfl, rfl, trivial⟩, selM hM [2, 3] 4 rfl⟩
        have hP := Fx.cF hb1885 hP
        refine g_val hF rfl rfl rfl hb1885 (r_fieldAddr (off' := 3) Tryz.underlying156 rfl in23 rfl hF rfl rfl rfl) rfl rfl fun a hF => ?_
        refine g_val hF rfl rfl rfl hb1885 (r_load1 Tryz.isAgg23 hF rfl rfl (hM.cell (i := 1) rfl (RPiece.g_new _))) rfl rfl fun a hF => ?_
        refine g_val hF rfl rfl rfl hb1885 (r_fieldAddr (off' := 3) Tryz.underlying156 rfl in23 rfl hF rfl rfl rfl) rfl rfl fun a hF => ?_
        refine g_val hF rfl rfl rfl hb1885 (r_load1 Tryz.isAgg23 hF rfl rfl (hM.cell (i := 0) rfl (RPiece.g_new _))) rfl rfl fun a hF => ?_
        obtain ⟨y1887, hy1887, hP⟩ := bind_some hP
        refine g_eff hF rfl rfl rfl hb1885 rfl rfl (w_call (xs := [.tmp 139, .tmp 141]) Tryz.call43 hF rfl rfl (law00_SameBytes_calls hy1887 hM (Bf := Bf) (fun w hM => hsub _ (dropM hM 4)) f1858 f1864) fun v w hR => ?_)
        obtain ⟨rfl, hM⟩ := hR
        replace hM : MemL _ (pt b_B33_9 (RPiece.enc (RPiece.mk x1860.table x1860.from_ s1861 s1863)) 156 :: pt b_B33_8 (RPiece.enc (RPiece.mk x1854.table x1854.from_ s1855 s1857)) 156 :: pt b_B33_3 (RMark.enc (RMark.mk x1.at_ x1.next x1.done s11 s13 s15 s19)) 60 :: pt b_B33_2 (RMark.enc (RMark.mk x0.at_ x0.next x0.done s1 s3 s5 s9)) 60 :: Lr) := hM
        intro a hF
        refine g_val hF rfl rfl rfl hb1885 (r_not hF rfl rfl) rfl rfl fun a hF => ?_
        refine s_val hF (r_pick0 hF rfl rfl hb1885 rfl) rfl rfl rfl fun a hF => ?_
        refine c_nil (n_then ?_)
        have hP := Option.some.inj hP
        subst hP
        exact ⟨(!y1887), rfl, hF.to ⟨rfl, rfl, rfl, rfl, rfl, trivial⟩, selM hM [2, 3] 4 rfl⟩
      rintro v1880 a w hP ⟨hF, hM⟩
      replace hP : Sh.law23_sameMark_j8 v1816 v1880 = _ := hP
      unfold Sh.law23_sameMark_j8 at hP
      refine n_then ?_
      refine c_cond hF (c := .tmp 144) rfl (fun hb1888 => ?_) (fun hb1888 => ?_)
      · have hP := Fx.cT hb1888 hP
        refine c_seq ?_
        refine c_region ?_
        refine s_val hF (r_assign hF rfl rfl) rfl rfl rfl fun a hF => ?_
        refine c_nil (n_then ?_)
        refine c_ret ?_
        have hP := Option.some.inj hP
        subst hP
        have hP := hK_l7 _ rfl
        subst hP
        have hP := fin_inr hK_j6
        subst hP
        refine e_ret1 Tryz.results33 hF rfl ?_
        exact ⟨rfl, selM hM [] 2 rfl⟩
      have hP := Fx.cF hb1888 hP
      refine c_skip (n_block (n_then ?_))
      refine c_region ?_
      refine s_val hF (r_move hF rfl rfl) rfl rfl rfl fun a hF => ?_
      refine s_val hF (r_add hF rfl rfl rfl) rfl rfl rfl fun a hF => ?_
      refine s_val hF (r_assign hF rfl rfl) rfl rfl rfl fun a hF => ?_
      refine c_nil (n_then ?_)
      have hP := Option.some.inj hP
      subst hP
      exact ⟨(IntKind.i64.wrap (v1816 + 1)), rfl, hF.to ⟨rfl, rfl, rfl, rfl, trivial⟩, hM⟩
    have hP := Fx.cF hb1818 hP
    refine c_exit (x_then (x_then (x_hit ?_)))
    refine n_then ?_
    have hP := Option.some.inj hP
    subst hP
    have hP := hK_l7 _ rfl
    subst hP
    exact ⟨(), rfl, hF.to ⟨rfl, trivial⟩, selM hM [] 2 rfl⟩
  rintro ⟨⟩ a w hP ⟨hF, hM⟩
  replace hP : Sh.law23_sameMark_j6 = _ := hP
  unfold Sh.law23_sameMark_j6 at hP
  refine n_then ?_
  refine c_seq ?_
  refine c_region ?_
  refine s_val hF (r_assign hF rfl rfl) rfl rfl rfl fun a hF => ?_
  refine c_nil (n_then ?_)
  refine c_ret ?_
  have hP := Option.some.inj hP
  subst hP
  refine e_ret1 Tryz.results33 hF rfl ?_
  exact ⟨rfl, hM⟩
set_option maxHeartbeats 4000000 in
theorem law23_sameRecord_calls {x0 : QRecord} {x1 : QRecord} {s1 : SV} {s3 : SV} {hs4 : List SV} {s7 : SV} {hs8 : List RMark} {s11 : SV} {s13 : SV} {hs14 : List SV} {s17 : SV} {hs18 : List RMark} {out : Bool} {w0 : World} {Bf : World → Prop} {Lr : List Res} (hP : Sh.law23_sameRecord x0 x1 = some out) (hM : MemL w0 (Lr)) (hsub : ∀ w, MemL w Lr → Bf w) (f2 : LIn Bf s1 x0.in_.ctx) (f5 : LIn Bf s3 hs4) (q6 : Each (LIn (X := UInt8) Bf) hs4 x0.in_.tables) (f9 : LIn Bf s7 hs8) (q10 : Each (QMarkIn Bf) hs8 x0.marks) (f12 : LIn Bf s11 x1.in_.ctx) (f15 : LIn Bf s13 hs14) (q16 : Each (LIn (X := UInt8) Bf) hs14 x1.in_.tables) (f19 : LIn Bf s17 hs18) (q20 : Each (QMarkIn Bf) hs18 x1.marks) : Calls Tryz.prog 27 #[.agg (RRecord.enc (RRecord.mk (RInput.mk s1 s3) s7 x0.end_)).toArray, .agg (RRecord.enc (RRecord.mk (RInput.mk s11 s13) s17 x1.end_)).toArray] w0 (Ret fun v w' => v = .bool out ∧ MemL w' (Lr)) := by
  unfold Sh.law23_sameRecord at hP
  refine calls_enter (vs := [.agg (RRecord.enc (RRecord.mk (RInput.mk s1 s3) s7 x0.end_)).toArray, .agg (RRecord.enc (RRecord.mk (RInput.mk s11 s13) s17 x1.end_)).toArray]) Tryz.func27 rfl Tryz.ntmps27 rfl fun a hF => ?_
  refine c_seq ?_
  refine c_region ?_
  refine s_eff hF rfl rfl rfl (w_box hF rfl rfl rfl fun b_B27_2 w hzB27_2 hAB27_2 => ?_)
  have hM := hM.plus hAB27_2
  replace hM : MemL _ (pt b_B27_2 (RRecord.enc (RRecord.mk (RInput.mk s1 s3) s7 x0.end_)) 36 :: Lr) := hM
  intro a hF
  refine s_eff hF rfl rfl rfl (w_box hF rfl rfl rfl fun b_B27_3 w hzB27_3 hAB27_3 => ?_)
  have hM := hM.plus hAB27_3
  replace hM : MemL _ (pt b_B27_3 (RRecord.enc (RRecord.mk (RInput.mk s11 s13) s17 x1.end_)) 36 :: pt b_B27_2 (RRecord.enc (RRecord.mk (RInput.mk s1 s3) s7 x0.end_)) 36 :: Lr) := hM
  intro a hF
  refine s_val hF (r_assign hF rfl rfl) rfl rfl rfl fun a hF => ?_
  refine c_nil (n_then ?_)
  refine c_seq ?_
  refine c_seq ?_
  refine c_joinX hF hM hP (fun F x a w => match x with | v977 => Fr 47 [(27, .bool v977), (2, .pointer (some ⟨b_B27_2, 0, none⟩)), (3, .pointer (some ⟨b_B27_3, 0, none⟩)), (4, .bool false)] a ∧ MemL w (pt b_B27_3 (RRecord.enc (RRecord.mk (RInput.mk s11 s13) s17 x1.end_)) 36 :: pt b_B27_2 (RRecord.enc (RRecord.mk (RInput.mk s1 s3) s7 x0.end_)) 36 :: Lr)) (fun o_j1 hP hK_j1 hF hM => ?_) ?_
  · refine c_region ?_
    refine s_val hF (r_fieldAddr (off' := 3) Tryz.underlying36 rfl in34 rfl hF rfl rfl rfl) rfl rfl rfl fun a hF => ?_
    refine s_val hF (r_load1 Tryz.isAgg34 hF rfl rfl (hM.cell (i := 1) rfl (RRecord.g_end_ _))) rfl rfl rfl fun a hF => ?_
    refine s_val hF (r_fieldAddr (off' := 3) Tryz.underlying36 rfl in34 rfl hF rfl rfl rfl) rfl rfl rfl fun a hF => ?_
    refine s_val hF (r_load1 Tryz.isAgg34 hF rfl rfl (hM.cell (i := 0) rfl (RRecord.g_end_ _))) rfl rfl rfl fun a hF => ?_
    refine s_val hF (r_neq hF rfl rfl rfl) rfl rfl rfl fun a hF => ?_
    refine s_val hF (r_move hF rfl rfl) rfl rfl rfl fun a hF => ?_
    refine g_split 11 hF rfl (fun hb978 => ?_) (fun hb978 => ?_)
    · have hP := Fx.cT hb978 hP
      refine g_skip hF rfl rfl rfl hb978 rfl rfl fun a hF => ?_
      refine g_skip hF rfl rfl rfl hb978 rfl rfl fun a hF => ?_
      refine g_skip hF rfl rfl rfl hb978 rfl rfl fun a hF => ?_
      refine g_skip hF rfl rfl rfl hb978 rfl rfl fun a hF => ?_
      refine g_skip hF rfl rfl rfl hb978 rfl rfl fun a hF => ?_
      refine g_skip hF rfl rfl rfl hb978 rfl rfl fun a hF => ?_
      refine g_skip hF rfl rfl rfl hb978 rfl rfl fun a hF => ?_
      refine s_val hF (r_pick1 hF rfl rfl hb978 rfl) rfl rfl rfl fun a hF => ?_
      refine s_val hF (r_move hF rfl rfl) rfl rfl rfl fun a hF => ?_
      refine g_skip hF rfl rfl rfl rfl rfl rfl fun a hF => ?_
      refine g_skip hF rfl rfl rfl rfl rfl rfl fun a hF => ?_
      refine g_skip hF rfl rfl rfl rfl rfl rfl fun a hF => ?_
      refine g_skip hF rfl rfl rfl rfl rfl rfl fun a hF => ?_
      refine g_skip hF rfl rfl rfl rfl rfl rfl fun a hF => ?_
      refine g_skip hF rfl rfl rfl rfl rfl rfl fun a hF => ?_
      refine s_val hF (r_pick1 hF rfl rfl rfl rfl) rfl rfl rfl fun a hF => ?_
      refine c_nil (n_then ?_)
      have hP := Option.some.inj hP
      subst hP
      exact ⟨true, rfl, hF.to ⟨rfl, rfl, rfl, rfl, trivial⟩, hM⟩
    have hP := Fx.cF hb978 hP
    refine g_val hF rfl rfl rfl hb978 (r_fieldAddr (off' := 2) Tryz.underlying36 rfl in33 rfl hF rfl rfl rfl) rfl rfl fun a hF => ?_
    refine g_val hF rfl rfl rfl hb978 (r_load1 Tryz.isAgg33 hF rfl rfl (hM.cell (i := 1) rfl (RRecord.g_marks _))) rfl rfl fun a hF => ?_
    refine g_val hF rfl rfl rfl hb978 (r_lenD (f9 _ (hsub _ (dropM hM 2))) q10.len Tryz.underlying33 hF rfl rfl) rfl rfl fun a hF => ?_
    refine g_val hF rfl rfl rfl hb978 (r_fieldAddr (off' := 2) Tryz.underlying36 rfl in33 rfl hF rfl rfl rfl) rfl rfl fun a hF => ?_
    refine g_val hF rfl rfl rfl hb978 (r_load1 Tryz.isAgg33 hF rfl rfl (hM.cell (i := 0) rfl (RRecord.g_marks _))) rfl rfl fun a hF => ?_
    refine g_val hF rfl rfl rfl hb978 (r_lenD (f19 _ (hsub _ (dropM hM 2))) q20.len Tryz.underlying33 hF rfl rfl) rfl rfl fun a hF => ?_
    refine g_val hF rfl rfl rfl hb978 (r_neq hF rfl rfl rfl) rfl rfl fun a hF => ?_
    refine s_val hF (r_pick0 hF rfl rfl hb978 rfl) rfl rfl rfl fun a hF => ?_
    refine s_val hF (r_move hF rfl rfl) rfl rfl rfl fun a hF => ?_
    refine g_split 20 hF rfl (fun hb979 => ?_) (fun hb979 => ?_)
    · have hP := Fx.cT hb979 hP
      refine g_skip hF rfl rfl rfl hb979 rfl rfl fun a hF => ?_
      refine g_skip hF rfl rfl rfl hb979 rfl rfl fun a hF => ?_
      refine g_skip hF rfl rfl rfl hb979 rfl rfl fun a hF => ?_
      refine g_skip hF rfl rfl rfl hb979 rfl rfl fun a hF => ?_
      refine g_skip hF rfl rfl rfl hb979 rfl rfl fun a hF => ?_
      refine g_skip hF rfl rfl rfl hb979 rfl rfl fun a hF => ?_
      refine s_val hF (r_pick1 hF rfl rfl hb979 rfl) rfl rfl rfl fun a hF => ?_
      refine c_nil (n_then ?_)
      have hP := Option.some.inj hP
      subst hP
      exact ⟨true, rfl, hF.to ⟨rfl, rfl, rfl, rfl, trivial⟩, hM⟩
    have hP := Fx.cF hb979 hP
    refine g_val hF rfl rfl rfl hb979 (r_fieldAddr (off' := 0) Tryz.underlying36 rfl in30 rfl hF rfl rfl rfl) rfl rfl fun a hF => ?_
    refine g_val hF rfl rfl rfl hb979 (r_loadn Tryz.isAgg30 Tryz.sizeOf30 hF rfl rfl (RInput.len _) (hM.cells (i := 1) rfl (RRecord.c_in_ _))) rfl rfl fun a hF => ?_
    refine g_val hF rfl rfl rfl hb979 (r_fieldAddr (off' := 0) Tryz.underlying36 rfl in30 rfl hF rfl rfl rfl) rfl rfl fun a hF => ?_
    refine g_val hF rfl rfl rfl hb979 (r_loadn Tryz.isAgg30 Tryz.sizeOf30 hF rfl rfl (RInput.len _) (hM.cells (i := 0) rfl (RRecord.c_in_ _))) rfl rfl fun a hF => ?_
    obtain ⟨y981, hy981, hP⟩ := bind_some hP
    refine g_eff hF rfl rfl rfl hb979 rfl rfl (w_call (xs := [.tmp 22, .tmp 24]) Tryz.call29 hF rfl rfl (law00_SameInput_calls hy981 hM (Bf := Bf) (fun w hM => hsub _ (dropM hM 2)) f2 f5 q6 f12 f15 q16) fun v w hR => ?_)
    obtain ⟨rfl, hM⟩ := hR
    replace hM : MemL _ (pt b_B27_3 (RRecord.enc (RRecord.mk (RInput.mk s11 s13) s17 x1.end_)) 36 :: pt b_B27_2 (RRecord.enc (RRecord.mk (RInput.mk s1 s3) s7 x0.end_)) 36 :: Lr) := hM
    intro a hF
    refine g_val hF rfl rfl rfl hb979 (r_not hF rfl rfl) rfl rfl fun a hF => ?_
    refine s_val hF (r_pick0 hF rfl rfl hb979 rfl) rfl rfl rfl fun a hF => ?_
    refine c_nil (n_then ?_)
    have hP := Option.some.inj hP
    subst hP
    exact ⟨(!y981), rfl, hF.to ⟨rfl, rfl, rfl, rfl, trivial⟩, hM⟩
  rintro v977 a w hP ⟨hF, hM⟩
  replace hP : Sh.law23_sameRecord_j1 x0 x1 v977 = _ := hP
  unfold Sh.law23_sameRecord_j1 at hP
  refine n_then ?_
  refine c_cond hF (c := .tmp 27) rfl (fun hb982 => ?_) (fun hb982 => ?_)
  · have hP := Fx.cT hb982 hP
    refine c_seq ?_
    refine c_region ?_
    refine s_val hF (r_assign hF rfl rfl) rfl rfl rfl fun a hF => ?_
    refine c_nil (n_then ?_)
    refine c_ret ?_
    have hP := Option.some.inj hP
    subst hP
    refine e_ret1 Tryz.results27 hF rfl ?_
    exact ⟨rfl, selM hM [] 2 rfl⟩
  have hP := Fx.cF hb982 hP
  refine c_skip (n_then ?_)
  refine c_seq ?_
  refine c_joinX hF hM hP (fun F x a w => match x with | _ => Fr 47 [(4, .bool false)] a ∧ MemL w (Lr)) (fun o_j2 hP hK_j2 hF hM => ?_) ?_
  · refine c_seq ?_
    refine c_region ?_
    refine s_val hF (r_assign hF rfl rfl) rfl rfl rfl fun a hF => ?_
    refine c_nil (n_then ?_)
    refine c_block ?_
    refine c_loopX hF hM hP (fun F x a w => match x with | v1788 => Fr 47 [(5, .int .i64 v1788), (2, .pointer (some ⟨b_B27_2, 0, none⟩)), (3, .pointer (some ⟨b_B27_3, 0, none⟩)), (4, .bool false)] a ∧ MemL w (pt b_B27_3 (RRecord.enc (RRecord.mk (RInput.mk s11 s13) s17 x1.end_)) 36 :: pt b_B27_2 (RRecord.enc (RRecord.mk (RInput.mk s1 s3) s7 x0.end_)) 36 :: Lr)) (fun hF hM => ⟨hF.to ⟨rfl, rfl, rfl, rfl, trivial⟩, hM⟩) ?_
    rintro v1788 a w o_l3 hP hK_l3 ⟨hF, hM⟩
    replace hP : Sh.law23_sameRecord_l3 x0 x1 v1788 = _ := hP
    unfold Sh.law23_sameRecord_l3 at hP
    refine c_seq ?_
    refine c_seq ?_
    refine c_region ?_
    refine s_val hF (r_move hF rfl rfl) rfl rfl rfl fun a hF => ?_
    refine s_val hF (r_fieldAddr (off' := 2) Tryz.underlying36 rfl in33 rfl hF rfl rfl rfl) rfl rfl rfl fun a hF => ?_
    refine s_val hF (r_load1 Tryz.isAgg33 hF rfl rfl (hM.cell (i := 1) rfl (RRecord.g_marks _))) rfl rfl rfl fun a hF => ?_
    refine s_val hF (r_lenD (f9 _ (hsub _ (dropM hM 2))) q10.len Tryz.underlying33 hF rfl rfl) rfl rfl rfl fun a hF => ?_
    refine s_val hF (r_lss hF rfl rfl rfl) rfl rfl rfl fun a hF => ?_
    refine c_nil (n_then ?_)
    refine c_cond hF (c := .tmp 32) rfl (fun hb1790 => ?_) (fun hb1790 => ?_)
    · have hP := Fx.cT hb1790 hP
      refine c_skip (n_then ?_)
      refine c_seq ?_
      refine c_block ?_
      refine c_seq ?_
      refine d_startT mixed (by kernel_rfl) hM [0, 1] 2 rfl fun hch => ?_
      refine d_val hF hch 0 rfl (by kernel_rfl) rfl rfl rfl (fun w hM => (r_fieldAddr (off' := 2) Tryz.underlying36 rfl in33 rfl hF rfl rfl rfl)) fun a hF => ?_
      refine d_val hF hch 1 rfl (by kernel_rfl) rfl rfl rfl (fun w hM => (r_load1 Tryz.isAgg33 hF rfl rfl (hM.cell (i := 1) rfl (RRecord.g_marks _)))) fun a hF => ?_
      refine d_val hF hch 2 rfl (by kernel_rfl) rfl rfl rfl (fun w hM => (r_move hF rfl rfl)) fun a hF => ?_
      obtain ⟨x1864, hx1864, hP⟩ := bind_some hP
      have h0x1864 := get_some hx1864
      obtain ⟨yx1864, hgx1864, hrx1864⟩ := Each.getr q10 h0x1864.2
      have hdx1864 := Each.bd q10 (get_bd hx1864)
      obtain ⟨s1865, s1867, s1869, hs1870, s1873, rfl, f1866, f1868, f1871, q1872, f1874⟩ := hrx1864
      refine d_val hF hch 3 rfl (by kernel_rfl) rfl rfl rfl (fun w hM => (r_indexZ (sz := 7) (f9 _ (hsub _ (dropM hM 2))) Tryz.underlying33 in60 rfl hF rfl rfl rfl hdx1864)) fun a hF => ?_
      refine d_val hF hch 4 rfl (by kernel_rfl) rfl rfl rfl (fun w hM => (r_loadn Tryz.isAgg60 Tryz.sizeOf60 hF rfl rfl (RMark.len _) (((f9 _ (hsub _ (dropM hM 2))).elemS hgx1864)))) fun a hF => ?_
      refine d_val hF hch 5 rfl (by kernel_rfl) rfl rfl rfl (fun w hM => (r_fieldAddr (off' := 2) Tryz.underlying36 rfl in33 rfl hF rfl rfl rfl)) fun a hF => ?_
      refine d_val hF hch 6 rfl (by kernel_rfl) rfl rfl rfl (fun w hM => (r_load1 Tryz.isAgg33 hF rfl rfl (hM.cell (i := 0) rfl (RRecord.g_marks _)))) fun a hF => ?_
      refine d_val hF hch 7 rfl (by kernel_rfl) rfl rfl rfl (fun w hM => (r_move hF rfl rfl)) fun a hF => ?_
      obtain ⟨x1875, hx1875, hP⟩ := bind_some hP
      have h0x1875 := get_some hx1875
      obtain ⟨yx1875, hgx1875, hrx1875⟩ := Each.getr q20 h0x1875.2
      have hdx1875 := Each.bd q20 (get_bd hx1875)
      obtain ⟨s1876, s1878, s1880, hs1881, s1884, rfl, f1877, f1879, f1882, q1883, f1885⟩ := hrx1875
      refine d_val hF hch 8 rfl (by kernel_rfl) rfl rfl rfl (fun w hM => (r_indexZ (sz := 7) (f19 _ (hsub _ (dropM hM 2))) Tryz.underlying33 in60 rfl hF rfl rfl rfl hdx1875)) fun a hF => ?_
      refine d_val hF hch 9 rfl (by kernel_rfl) rfl rfl rfl (fun w hM => (r_loadn Tryz.isAgg60 Tryz.sizeOf60 hF rfl rfl (RMark.len _) (((f19 _ (hsub _ (dropM hM 2))).elemS hgx1875)))) fun a hF => ?_
      refine d_one hch 10 (by kernel_rfl) rfl rfl ?_
      refine d_ex hF 10 rfl rfl rfl rfl rfl fun w hMs hM => ?_
      obtain ⟨y1887, hy1887, hP⟩ := bind_some hP
      refine (w_call (xs := [.tmp 39, .tmp 44]) Tryz.call33 hF rfl rfl (law23_sameMark_calls hy1887 hM (Bf := Bf) (fun w hM => hsub _ (dropM hM 2)) f1866 f1868 f1871 q1872 f1874 f1877 f1879 f1882 q1883 f1885) fun v w hR => ?_)
      obtain ⟨rfl, hM⟩ := hR
      replace hM : MemL _ (pt b_B27_3 (RRecord.enc (RRecord.mk (RInput.mk s11 s13) s17 x1.end_)) 36 :: pt b_B27_2 (RRecord.enc (RRecord.mk (RInput.mk s1 s3) s7 x0.end_)) 36 :: Lr) := hM
      have hMs := selM hM [0, 1] 2 rfl
      refine ⟨_, _, hMs, hM, .inl fun _ h => h, fun a hF => ?_⟩
      refine d_val hF hch 11 rfl (by kernel_rfl) rfl rfl rfl (fun w hM => (r_not hF rfl rfl)) fun a hF => ?_
      refine d_end hch (by kernel_rfl) fun w hM => ?_
      refine n_then ?_
      refine c_cond hF (c := .tmp 46) rfl (fun hb1888 => ?_) (fun hb1888 => ?_)
      · have hP := Fx.cT hb1888 hP
        refine c_seq ?_
        refine c_region ?_
        refine s_val hF (r_assign hF rfl rfl) rfl rfl rfl fun a hF => ?_
        refine c_nil (n_then ?_)
        refine c_ret ?_
        have hP := Option.some.inj hP
        subst hP
        have hP := hK_l3 _ rfl
        subst hP
        have hP := fin_inr hK_j2
        subst hP
        refine e_ret1 Tryz.results27 hF rfl ?_
        exact ⟨rfl, selM hM [] 2 rfl⟩
      have hP := Fx.cF hb1888 hP
      refine c_skip (n_block (n_then ?_))
      refine c_region ?_
      refine s_val hF (r_move hF rfl rfl) rfl rfl rfl fun a hF => ?_
      refine s_val hF (r_add hF rfl rfl rfl) rfl rfl rfl fun a hF => ?_
      refine s_val hF (r_assign hF rfl rfl) rfl rfl rfl fun a hF => ?_
      refine c_nil (n_then ?_)
      have hP := Option.some.inj hP
      subst hP
      exact ⟨(IntKind.i64.wrap (v1788 + 1)), rfl, hF.to ⟨rfl, rfl, rfl, rfl, trivial⟩, hM⟩
    have hP := Fx.cF hb1790 hP
    refine c_exit (x_then (x_then (x_hit ?_)))
    refine n_then ?_
    have hP := Option.some.inj hP
    subst hP
    have hP := hK_l3 _ rfl
    subst hP
    exact ⟨(), rfl, hF.to ⟨rfl, trivial⟩, selM hM [] 2 rfl⟩
  rintro ⟨⟩ a w hP ⟨hF, hM⟩
  replace hP : Sh.law23_sameRecord_j2 = _ := hP
  unfold Sh.law23_sameRecord_j2 at hP
  refine n_then ?_
  refine c_seq ?_
  refine c_region ?_
  refine s_val hF (r_assign hF rfl rfl) rfl rfl rfl fun a hF => ?_
  refine c_nil (n_then ?_)
  refine c_ret ?_
  have hP := Option.some.inj hP
  subst hP
  refine e_ret1 Tryz.results27 hF rfl ?_
  exact ⟨rfl, hM⟩
end Go.Proofs
end
