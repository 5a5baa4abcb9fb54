/- Ground for this claim: The call of TraceDecodes returns true, and the bytes read as before. Condition: what is read is of bulk at most 1048576. -/
import Derived.Test.YtmgnkohlfbjjnaaGreatRProg
import Derived.KernelRfl
import Derived.Test.YtmgnkohlfbjjnaaGreatRTd7
section
namespace Go.Proofs
open Go.Fw Go.Fx
set_option maxRecDepth 10000
set_option linter.unusedVariables false
set_option linter.unusedSimpArgs false
set_option maxHeartbeats 4000000 in
theorem trace_reader_mark_calls {x0 : QReader} {s1 : SV} {b0 : Nat} {out : (QMark × QReader)} {w0 : World} {Bf : World → Prop} {Lr : List Res} (hP : Sh.trace_reader_mark x0 = some out) (hM : MemL w0 (pt b0 (RReader.enc (RReader.mk s1 x0.at_ x0.place x0.e)) 176 :: Lr)) (hsub : ∀ w, MemL w Lr → Bf w) (f2 : LIn Bf s1 x0.b) : Calls Tryz.prog 118 #[.pointer (some ⟨b0, 0, none⟩)] w0 (Ret fun v w' => ∃ (s8412 : SV) (s8414 : SV) (s8416 : SV) (hs8417 : List RPiece) (r8419 : Res) (s8421 : SV) (s8423 : SV), v = .agg (RMark.enc (RMark.mk out.1.at_ out.1.next out.1.done s8412 s8414 s8416 s8421)).toArray ∧ Each (QPieceIn r8419.holds') hs8417 out.1.pieces ∧ LIn Bf s8423 out.2.b ∧ MemL w' (rowL 0 s8412 128 out.1.regs :: rowL 0 s8414 151 out.1.slots :: rowL 0 s8416 156 hs8417 :: r8419 :: rowL 0 s8421 3 out.1.sent :: pt b0 (RReader.enc (RReader.mk s8423 out.2.at_ out.2.place out.2.e)) 176 :: Lr)) := by
  unfold Sh.trace_reader_mark at hP
  refine calls_enter (vs := [.pointer (some ⟨b0, 0, none⟩)]) Tryz.func118 rfl Tryz.ntmps118 rfl fun a hF => ?_
  refine c_seq ?_
  refine c_region ?_
  refine s_eff hF rfl rfl rfl (w_box hF rfl rfl rfl fun b_B118_1 w hzB118_1 hAB118_1 => ?_)
  have hM := hM.plus hAB118_1
  replace hM : MemL _ (pt b_B118_1 [.pointer (some ⟨b0, 0, none⟩)] 174 :: pt b0 (RReader.enc (RReader.mk s1 x0.at_ x0.place x0.e)) 176 :: Lr) := hM
  intro a hF
  refine s_eff hF rfl rfl rfl (w_alloc z60 (zs := RMark.zero.enc) rfl rfl fun b_B118_2 w hzB118_2 hAB118_2 => ?_)
  have hM := hM.plus hAB118_2
  replace hM : MemL _ (pt b_B118_2 (RMark.enc (RMark.mk 0 0 false SV.nil SV.nil SV.nil SV.nil)) 60 :: pt b_B118_1 [.pointer (some ⟨b0, 0, none⟩)] 174 :: pt b0 (RReader.enc (RReader.mk s1 x0.at_ x0.place x0.e)) 176 :: Lr) := hM
  intro a hF
  refine c_nil (n_then ?_)
  refine c_seq ?_
  refine c_region ?_
  refine s_val hF (r_load1 Tryz.isAgg174 hF rfl rfl (hM.cell (i := 1) rfl rfl)) rfl rfl rfl fun a hF => ?_
  refine s_val hF (r_nilCheckP hF rfl rfl) rfl rfl rfl fun a hF => ?_
  refine s_val hF (r_fieldAddr (off' := 1) Tryz.underlying176 rfl in3 rfl hF rfl rfl rfl) rfl rfl rfl fun a hF => ?_
  refine s_val hF (r_load1 Tryz.isAgg3 hF rfl rfl (hM.cell (i := 2) rfl (RReader.g_at_ _))) rfl rfl rfl fun a hF => ?_
  refine s_val hF (r_assign hF rfl rfl) rfl rfl rfl fun a hF => ?_
  refine c_nil (n_then ?_)
  refine c_seq ?_
  refine c_joinX hF hM hP (fun F x a w => match x with | (v8452, v8453, v8454, v8455) => ∃ (b8451 : Nat) (s8456 : SV), LIn Bf s8456 v8455.b ∧ Fr 44 [(4, .pointer (some ⟨b8451, 0, none⟩)), (1, .pointer (some ⟨b_B118_1, 0, none⟩)), (2, .pointer (some ⟨b_B118_2, 0, none⟩)), (3, .int .i64 x0.at_)] a ∧ MemL w (pt b8451 (RMark.enc (RMark.mk v8452 v8453 v8454 SV.nil SV.nil SV.nil SV.nil)) 60 :: pt b0 (RReader.enc (RReader.mk s8456 v8455.at_ v8455.place v8455.e)) 176 :: pt b_B118_2 (RMark.enc (RMark.mk 0 0 false SV.nil SV.nil SV.nil SV.nil)) 60 :: pt b_B118_1 [.pointer (some ⟨b0, 0, none⟩)] 174 :: Lr)) (fun o_j1 hP hK_j1 hF hM => ?_) ?_
  · refine d_startT mixed (by kernel_rfl) hM [0, 1] 3 rfl fun hch => ?_
    refine d_val hF hch 0 rfl (by kernel_rfl) rfl rfl rfl (fun w hM => (r_load1 Tryz.isAgg174 hF rfl rfl (hM.cell (i := 1) rfl rfl))) fun a hF => ?_
    refine d_val hF hch 2 rfl (by kernel_rfl) rfl rfl rfl (fun w hM => (r_load1 Tryz.isAgg174 hF rfl rfl (hM.cell (i := 1) rfl rfl))) fun a hF => ?_
    refine d_val hF hch 4 rfl (by kernel_rfl) rfl rfl rfl (fun w hM => (r_load1 Tryz.isAgg174 hF rfl rfl (hM.cell (i := 1) rfl rfl))) fun a hF => ?_
    refine d_two hch 1 8 (by kernel_rfl) rfl rfl ?_ ?_
    · refine d_ex hF 1 rfl rfl rfl rfl rfl fun w hMs hM => ?_
      obtain ⟨y8459, hy8459, hP⟩ := bind_some hP
      refine (w_call (xs := [.tmp 9, .const (.int .i64 (2))]) Tryz.call113 hF rfl rfl (trace_reader_number_calls hy8459 (selM hM [2, 0, 1] 3 rfl) (Bf := Bf) (fun w hM => hsub _ (dropM hM 2)) f2) fun v w hR => ?_)
      obtain ⟨s8460, rfl, f8461, hM⟩ := hR
      replace hM : MemL _ (pt b0 (RReader.enc (RReader.mk s8460 y8459.2.at_ y8459.2.place y8459.2.e)) 176 :: pt b_B118_2 (RMark.enc (RMark.mk 0 0 false SV.nil SV.nil SV.nil SV.nil)) 60 :: pt b_B118_1 [.pointer (some ⟨b0, 0, none⟩)] 174 :: Lr) := hM
      have hMs := selM hM [1, 2] 3 rfl
      refine ⟨_, _, hMs, hM, .inl fun _ h => h, fun a hF => ?_⟩
      refine d_two hch 3 8 (by kernel_rfl) rfl rfl ?_ ?_
      · refine d_ex hF 3 rfl rfl rfl rfl rfl fun w hMs hM => ?_
        obtain ⟨y8463, hy8463, hP⟩ := bind_some hP
        refine (w_call (xs := [.tmp 11, .const (.int .i64 (2))]) Tryz.call113 hF rfl rfl (trace_reader_number_calls hy8463 hM (Bf := Bf) (fun w hM => hsub _ (dropM hM 2)) f8461) fun v w hR => ?_)
        obtain ⟨s8464, rfl, f8465, hM⟩ := hR
        replace hM : MemL _ (pt b0 (RReader.enc (RReader.mk s8464 y8463.2.at_ y8463.2.place y8463.2.e)) 176 :: pt b_B118_2 (RMark.enc (RMark.mk 0 0 false SV.nil SV.nil SV.nil SV.nil)) 60 :: pt b_B118_1 [.pointer (some ⟨b0, 0, none⟩)] 174 :: Lr) := hM
        have hMs := selM hM [1, 2] 3 rfl
        refine ⟨_, _, hMs, hM, .inl fun _ h => h, fun a hF => ?_⟩
        refine d_two hch 5 8 (by kernel_rfl) rfl rfl ?_ ?_
        · refine d_ex hF 5 rfl rfl rfl rfl rfl fun w hMs hM => ?_
          obtain ⟨y8467, hy8467, hP⟩ := bind_some hP
          refine (w_call (xs := [.tmp 13, .const (.int .i64 (1))]) Tryz.call115 hF rfl rfl (trace_reader_most_calls hy8467 hM (Bf := Bf) (fun w hM => hsub _ (dropM hM 2)) f8465) fun v w hR => ?_)
          obtain ⟨s8468, rfl, f8469, hM⟩ := hR
          replace hM : MemL _ (pt b0 (RReader.enc (RReader.mk s8468 y8467.2.at_ y8467.2.place y8467.2.e)) 176 :: pt b_B118_2 (RMark.enc (RMark.mk 0 0 false SV.nil SV.nil SV.nil SV.nil)) 60 :: pt b_B118_1 [.pointer (some ⟨b0, 0, none⟩)] 174 :: Lr) := hM
          have hMs := selM hM [1, 2] 3 rfl
          refine ⟨_, _, hMs, hM, .inl fun _ h => h, fun a hF => ?_⟩
          refine d_val hF hch 6 rfl (by kernel_rfl) rfl rfl rfl (fun w hM => (r_eql hF rfl rfl rfl)) fun a hF => ?_
          refine d_val hF hch 7 rfl (by kernel_rfl) rfl rfl rfl (fun w hM => (r_build z60 Tryz.underlying60 pl60 hF (parts := [(0, .tmp 10), (1, .tmp 12), (2, .tmp 15)]) rfl rfl (fill_s rfl rfl (by rw [RMark.len]; decide) (RMark.s_at_ _ _) (fill_s rfl rfl (by rw [RMark.len]; decide) (RMark.s_next _ _) (fill_s rfl rfl (by rw [RMark.len]; decide) (RMark.s_done _ _) fill_e))))) fun a hF => ?_
          refine d_one hch 8 (by kernel_rfl) rfl rfl ?_
          refine d_ex hF 8 rfl rfl rfl rfl rfl fun w hMs hM => ?_
          refine (w_alloc z60 (zs := RMark.zero.enc) rfl rfl fun b_B118_4 w hzB118_4 hAB118_4 => ?_)
          have hM := hM.plus hAB118_4
          replace hM : MemL _ (pt b_B118_4 (RMark.enc (RMark.mk 0 0 false SV.nil SV.nil SV.nil SV.nil)) 60 :: pt b0 (RReader.enc (RReader.mk s8468 y8467.2.at_ y8467.2.place y8467.2.e)) 176 :: pt b_B118_2 (RMark.enc (RMark.mk 0 0 false SV.nil SV.nil SV.nil SV.nil)) 60 :: pt b_B118_1 [.pointer (some ⟨b0, 0, none⟩)] 174 :: Lr) := hM
          have hMs := selM hM [0, 2, 3] 4 rfl
          refine ⟨_, _, hMs, hM, .inl fun _ h => dropM h 1, fun a hF => ?_⟩
          refine d_one hch 9 (by kernel_rfl) rfl rfl ?_
          refine d_ex0 9 rfl rfl rfl rfl fun w hMs hM => ?_
          refine (w_storen (vs := _) Tryz.sizeOf60 (hM.obj (i := 0) rfl) hF rfl rfl rfl rfl (RMark.len _) (RMark.one _) (by first | (rw [RMark.len, RMark.len]; decide) | (rw [RMark.len]; decide)) (put_all ((RMark.len _).trans (RMark.len _).symm)) fun w hU8470 => ?_)
          have hM := hM.chg hU8470 (i := 0) rfl
          replace hM : MemL _ (pt b_B118_4 (RMark.enc (RMark.mk y8459.1 y8463.1 (decide (y8467.1 = 1)) SV.nil SV.nil SV.nil SV.nil)) 60 :: pt b0 (RReader.enc (RReader.mk s8468 y8467.2.at_ y8467.2.place y8467.2.e)) 176 :: pt b_B118_2 (RMark.enc (RMark.mk 0 0 false SV.nil SV.nil SV.nil SV.nil)) 60 :: pt b_B118_1 [.pointer (some ⟨b0, 0, none⟩)] 174 :: Lr) := hM
          have hMs := hM
          refine ⟨_, _, hMs, hM, .inr (by kernel_rfl), ?_⟩
          refine d_end hch (by kernel_rfl) fun w hM => ?_
          refine n_then ?_
          have hP := Option.some.inj hP
          subst hP
          exact ⟨(y8459.1, y8463.1, (decide (y8467.1 = 1)), y8467.2), rfl, b_B118_4, s8468, f8469, hF.to ⟨rfl, rfl, rfl, rfl, trivial⟩, hM⟩
        refine d_ex hF 8 rfl rfl rfl rfl rfl fun w hMs hM => ?_
        refine (w_alloc z60 (zs := RMark.zero.enc) rfl rfl fun b_B118_4 w hzB118_4 hAB118_4 => ?_)
        have hM := hM.plus hAB118_4
        replace hM : MemL _ (pt b_B118_4 (RMark.enc (RMark.mk 0 0 false SV.nil SV.nil SV.nil SV.nil)) 60 :: pt b0 (RReader.enc (RReader.mk s8464 y8463.2.at_ y8463.2.place y8463.2.e)) 176 :: pt b_B118_2 (RMark.enc (RMark.mk 0 0 false SV.nil SV.nil SV.nil SV.nil)) 60 :: pt b_B118_1 [.pointer (some ⟨b0, 0, none⟩)] 174 :: Lr) := hM
        have hMs := selM hM [0, 2, 3] 4 rfl
        refine ⟨_, _, hMs, hM, .inl fun _ h => dropM h 1, fun a hF => ?_⟩
        refine d_one hch 5 (by kernel_rfl) rfl rfl ?_
        refine d_ex hF 5 rfl rfl rfl rfl rfl fun w hMs hM => ?_
        obtain ⟨y8467, hy8467, hP⟩ := bind_some hP
        refine (w_call (xs := [.tmp 13, .const (.int .i64 (1))]) Tryz.call115 hF rfl rfl (trace_reader_most_calls hy8467 (selM hM [1, 0, 2, 3] 4 rfl) (Bf := Bf) (fun w hM => hsub _ (dropM hM 3)) f8465) fun v w hR => ?_)
        obtain ⟨s8468, rfl, f8469, hM⟩ := hR
        replace hM : MemL _ (pt b0 (RReader.enc (RReader.mk s8468 y8467.2.at_ y8467.2.place y8467.2.e)) 176 :: pt b_B118_4 (RMark.enc (RMark.mk 0 0 false SV.nil SV.nil SV.nil SV.nil)) 60 :: pt b_B118_2 (RMark.enc (RMark.mk 0 0 false SV.nil SV.nil SV.nil SV.nil)) 60 :: pt b_B118_1 [.pointer (some ⟨b0, 0, none⟩)] 174 :: Lr) := hM
        have hMs := selM hM [1, 2, 3] 4 rfl
        refine ⟨_, _, hMs, hM, .inl fun _ h => h, fun a hF => ?_⟩
        refine d_val hF hch 6 rfl (by kernel_rfl) rfl rfl rfl (fun w hM => (r_eql hF rfl rfl rfl)) fun a hF => ?_
        refine d_val hF hch 7 rfl (by kernel_rfl) rfl rfl rfl (fun w hM => (r_build z60 Tryz.underlying60 pl60 hF (parts := [(0, .tmp 10), (1, .tmp 12), (2, .tmp 15)]) rfl rfl (fill_s rfl rfl (by rw [RMark.len]; decide) (RMark.s_at_ _ _) (fill_s rfl rfl (by rw [RMark.len]; decide) (RMark.s_next _ _) (fill_s rfl rfl (by rw [RMark.len]; decide) (RMark.s_done _ _) fill_e))))) fun a hF => ?_
        refine d_one hch 9 (by kernel_rfl) rfl rfl ?_
        refine d_ex0 9 rfl rfl rfl rfl fun w hMs hM => ?_
        refine (w_storen (vs := _) Tryz.sizeOf60 (hM.obj (i := 1) rfl) hF rfl rfl rfl rfl (RMark.len _) (RMark.one _) (by first | (rw [RMark.len, RMark.len]; decide) | (rw [RMark.len]; decide)) (put_all ((RMark.len _).trans (RMark.len _).symm)) fun w hU8470 => ?_)
        have hM := hM.chg hU8470 (i := 1) rfl
        replace hM : MemL _ (pt b0 (RReader.enc (RReader.mk s8468 y8467.2.at_ y8467.2.place y8467.2.e)) 176 :: pt b_B118_4 (RMark.enc (RMark.mk y8459.1 y8463.1 (decide (y8467.1 = 1)) SV.nil SV.nil SV.nil SV.nil)) 60 :: pt b_B118_2 (RMark.enc (RMark.mk 0 0 false SV.nil SV.nil SV.nil SV.nil)) 60 :: pt b_B118_1 [.pointer (some ⟨b0, 0, none⟩)] 174 :: Lr) := hM
        have hMs := hM
        refine ⟨_, _, hMs, hM, .inr (by kernel_rfl), ?_⟩
        refine d_end hch (by kernel_rfl) fun w hM => ?_
        refine n_then ?_
        have hP := Option.some.inj hP
        subst hP
        exact ⟨(y8459.1, y8463.1, (decide (y8467.1 = 1)), y8467.2), rfl, b_B118_4, s8468, f8469, hF.to ⟨rfl, rfl, rfl, rfl, trivial⟩, selM hM [1, 0, 2, 3] 4 rfl⟩
      refine d_ex hF 8 rfl rfl rfl rfl rfl fun w hMs hM => ?_
      refine (w_alloc z60 (zs := RMark.zero.enc) rfl rfl fun b_B118_4 w hzB118_4 hAB118_4 => ?_)
      have hM := hM.plus hAB118_4
      replace hM : MemL _ (pt b_B118_4 (RMark.enc (RMark.mk 0 0 false SV.nil SV.nil SV.nil SV.nil)) 60 :: pt b0 (RReader.enc (RReader.mk s8460 y8459.2.at_ y8459.2.place y8459.2.e)) 176 :: pt b_B118_2 (RMark.enc (RMark.mk 0 0 false SV.nil SV.nil SV.nil SV.nil)) 60 :: pt b_B118_1 [.pointer (some ⟨b0, 0, none⟩)] 174 :: Lr) := hM
      have hMs := selM hM [0, 2, 3] 4 rfl
      refine ⟨_, _, hMs, hM, .inl fun _ h => dropM h 1, fun a hF => ?_⟩
      refine d_one hch 3 (by kernel_rfl) rfl rfl ?_
      refine d_ex hF 3 rfl rfl rfl rfl rfl fun w hMs hM => ?_
      obtain ⟨y8463, hy8463, hP⟩ := bind_some hP
      refine (w_call (xs := [.tmp 11, .const (.int .i64 (2))]) Tryz.call113 hF rfl rfl (trace_reader_number_calls hy8463 (selM hM [1, 0, 2, 3] 4 rfl) (Bf := Bf) (fun w hM => hsub _ (dropM hM 3)) f8461) fun v w hR => ?_)
      obtain ⟨s8464, rfl, f8465, hM⟩ := hR
      replace hM : MemL _ (pt b0 (RReader.enc (RReader.mk s8464 y8463.2.at_ y8463.2.place y8463.2.e)) 176 :: pt b_B118_4 (RMark.enc (RMark.mk 0 0 false SV.nil SV.nil SV.nil SV.nil)) 60 :: pt b_B118_2 (RMark.enc (RMark.mk 0 0 false SV.nil SV.nil SV.nil SV.nil)) 60 :: pt b_B118_1 [.pointer (some ⟨b0, 0, none⟩)] 174 :: Lr) := hM
      have hMs := selM hM [1, 2, 3] 4 rfl
      refine ⟨_, _, hMs, hM, .inl fun _ h => h, fun a hF => ?_⟩
      refine d_one hch 5 (by kernel_rfl) rfl rfl ?_
      refine d_ex hF 5 rfl rfl rfl rfl rfl fun w hMs hM => ?_
      obtain ⟨y8467, hy8467, hP⟩ := bind_some hP
      refine (w_call (xs := [.tmp 13, .const (.int .i64 (1))]) Tryz.call115 hF rfl rfl (trace_reader_most_calls hy8467 hM (Bf := Bf) (fun w hM => hsub _ (dropM hM 3)) f8465) fun v w hR => ?_)
      obtain ⟨s8468, rfl, f8469, hM⟩ := hR
      replace hM : MemL _ (pt b0 (RReader.enc (RReader.mk s8468 y8467.2.at_ y8467.2.place y8467.2.e)) 176 :: pt b_B118_4 (RMark.enc (RMark.mk 0 0 false SV.nil SV.nil SV.nil SV.nil)) 60 :: pt b_B118_2 (RMark.enc (RMark.mk 0 0 false SV.nil SV.nil SV.nil SV.nil)) 60 :: pt b_B118_1 [.pointer (some ⟨b0, 0, none⟩)] 174 :: Lr) := hM
      have hMs := selM hM [1, 2, 3] 4 rfl
      refine ⟨_, _, hMs, hM, .inl fun _ h => h, fun a hF => ?_⟩
      refine d_val hF hch 6 rfl (by kernel_rfl) rfl rfl rfl (fun w hM => (r_eql hF rfl rfl rfl)) fun a hF => ?_
      refine d_val hF hch 7 rfl (by kernel_rfl) rfl rfl rfl (fun w hM => (r_build z60 Tryz.underlying60 pl60 hF (parts := [(0, .tmp 10), (1, .tmp 12), (2, .tmp 15)]) rfl rfl (fill_s rfl rfl (by rw [RMark.len]; decide) (RMark.s_at_ _ _) (fill_s rfl rfl (by rw [RMark.len]; decide) (RMark.s_next _ _) (fill_s rfl rfl (by rw [RMark.len]; decide) (RMark.s_done _ _) fill_e))))) fun a hF => ?_
      refine d_one hch 9 (by kernel_rfl) rfl rfl ?_
      refine d_ex0 9 rfl rfl rfl rfl fun w hMs hM => ?_
      refine (w_storen (vs := _) Tryz.sizeOf60 (hM.obj (i := 1) rfl) hF rfl rfl rfl rfl (RMark.len _) (RMark.one _) (by first | (rw [RMark.len, RMark.len]; decide) | (rw [RMark.len]; decide)) (put_all ((RMark.len _).trans (RMark.len _).symm)) fun w hU8470 => ?_)
      have hM := hM.chg hU8470 (i := 1) rfl
      replace hM : MemL _ (pt b0 (RReader.enc (RReader.mk s8468 y8467.2.at_ y8467.2.place y8467.2.e)) 176 :: pt b_B118_4 (RMark.enc (RMark.mk y8459.1 y8463.1 (decide (y8467.1 = 1)) SV.nil SV.nil SV.nil SV.nil)) 60 :: pt b_B118_2 (RMark.enc (RMark.mk 0 0 false SV.nil SV.nil SV.nil SV.nil)) 60 :: pt b_B118_1 [.pointer (some ⟨b0, 0, none⟩)] 174 :: Lr) := hM
      have hMs := hM
      refine ⟨_, _, hMs, hM, .inr (by kernel_rfl), ?_⟩
      refine d_end hch (by kernel_rfl) fun w hM => ?_
      refine n_then ?_
      have hP := Option.some.inj hP
      subst hP
      exact ⟨(y8459.1, y8463.1, (decide (y8467.1 = 1)), y8467.2), rfl, b_B118_4, s8468, f8469, hF.to ⟨rfl, rfl, rfl, rfl, trivial⟩, selM hM [1, 0, 2, 3] 4 rfl⟩
    refine d_ex hF 8 rfl rfl rfl rfl rfl fun w hMs hM => ?_
    refine (w_alloc z60 (zs := RMark.zero.enc) rfl rfl fun b_B118_4 w hzB118_4 hAB118_4 => ?_)
    have hM := hM.plus hAB118_4
    replace hM : MemL _ (pt b_B118_4 (RMark.enc (RMark.mk 0 0 false SV.nil SV.nil SV.nil SV.nil)) 60 :: pt b_B118_2 (RMark.enc (RMark.mk 0 0 false SV.nil SV.nil SV.nil SV.nil)) 60 :: pt b_B118_1 [.pointer (some ⟨b0, 0, none⟩)] 174 :: pt b0 (RReader.enc (RReader.mk s1 x0.at_ x0.place x0.e)) 176 :: Lr) := hM
    have hMs := selM hM [0, 1, 2] 4 rfl
    refine ⟨_, _, hMs, hM, .inl fun _ h => dropM h 1, fun a hF => ?_⟩
    refine d_one hch 1 (by kernel_rfl) rfl rfl ?_
    refine d_ex hF 1 rfl rfl rfl rfl rfl fun w hMs hM => ?_
    obtain ⟨y8459, hy8459, hP⟩ := bind_some hP
    refine (w_call (xs := [.tmp 9, .const (.int .i64 (2))]) Tryz.call113 hF rfl rfl (trace_reader_number_calls hy8459 (selM hM [3, 0, 1, 2] 4 rfl) (Bf := Bf) (fun w hM => hsub _ (dropM hM 3)) f2) fun v w hR => ?_)
    obtain ⟨s8460, rfl, f8461, hM⟩ := hR
    replace hM : MemL _ (pt b0 (RReader.enc (RReader.mk s8460 y8459.2.at_ y8459.2.place y8459.2.e)) 176 :: pt b_B118_4 (RMark.enc (RMark.mk 0 0 false SV.nil SV.nil SV.nil SV.nil)) 60 :: pt b_B118_2 (RMark.enc (RMark.mk 0 0 false SV.nil SV.nil SV.nil SV.nil)) 60 :: pt b_B118_1 [.pointer (some ⟨b0, 0, none⟩)] 174 :: Lr) := hM
    have hMs := selM hM [1, 2, 3] 4 rfl
    refine ⟨_, _, hMs, hM, .inl fun _ h => h, fun a hF => ?_⟩
    refine d_one hch 3 (by kernel_rfl) rfl rfl ?_
    refine d_ex hF 3 rfl rfl rfl rfl rfl fun w hMs hM => ?_
    obtain ⟨y8463, hy8463, hP⟩ := bind_some hP
    refine (w_call (xs := [.tmp 11, .const (.int .i64 (2))]) Tryz.call113 hF rfl rfl (trace_reader_number_calls hy8463 hM (Bf := Bf) (fun w hM => hsub _ (dropM hM 3)) f8461) fun v w hR => ?_)
    obtain ⟨s8464, rfl, f8465, hM⟩ := hR
    replace hM : MemL _ (pt b0 (RReader.enc (RReader.mk s8464 y8463.2.at_ y8463.2.place y8463.2.e)) 176 :: pt b_B118_4 (RMark.enc (RMark.mk 0 0 false SV.nil SV.nil SV.nil SV.nil)) 60 :: pt b_B118_2 (RMark.enc (RMark.mk 0 0 false SV.nil SV.nil SV.nil SV.nil)) 60 :: pt b_B118_1 [.pointer (some ⟨b0, 0, none⟩)] 174 :: Lr) := hM
    have hMs := selM hM [1, 2, 3] 4 rfl
    refine ⟨_, _, hMs, hM, .inl fun _ h => h, fun a hF => ?_⟩
    refine d_one hch 5 (by kernel_rfl) rfl rfl ?_
    refine d_ex hF 5 rfl rfl rfl rfl rfl fun w hMs hM => ?_
    obtain ⟨y8467, hy8467, hP⟩ := bind_some hP
    refine (w_call (xs := [.tmp 13, .const (.int .i64 (1))]) Tryz.call115 hF rfl rfl (trace_reader_most_calls hy8467 hM (Bf := Bf) (fun w hM => hsub _ (dropM hM 3)) f8465) fun v w hR => ?_)
    obtain ⟨s8468, rfl, f8469, hM⟩ := hR
    replace hM : MemL _ (pt b0 (RReader.enc (RReader.mk s8468 y8467.2.at_ y8467.2.place y8467.2.e)) 176 :: pt b_B118_4 (RMark.enc (RMark.mk 0 0 false SV.nil SV.nil SV.nil SV.nil)) 60 :: pt b_B118_2 (RMark.enc (RMark.mk 0 0 false SV.nil SV.nil SV.nil SV.nil)) 60 :: pt b_B118_1 [.pointer (some ⟨b0, 0, none⟩)] 174 :: Lr) := hM
    have hMs := selM hM [1, 2, 3] 4 rfl
    refine ⟨_, _, hMs, hM, .inl fun _ h => h, fun a hF => ?_⟩
    refine d_val hF hch 6 rfl (by kernel_rfl) rfl rfl rfl (fun w hM => (r_eql hF rfl rfl rfl)) fun a hF => ?_
    refine d_val hF hch 7 rfl (by kernel_rfl) rfl rfl rfl (fun w hM => (r_build z60 Tryz.underlying60 pl60 hF (parts := [(0, .tmp 10), (1, .tmp 12), (2, .tmp 15)]) rfl rfl (fill_s rfl rfl (by rw [RMark.len]; decide) (RMark.s_at_ _ _) (fill_s rfl rfl (by rw [RMark.len]; decide) (RMark.s_next _ _) (fill_s rfl rfl (by rw [RMark.len]; decide) (RMark.s_done _ _) fill_e))))) fun a hF => ?_
    refine d_one hch 9 (by kernel_rfl) rfl rfl ?_
    refine d_ex0 9 rfl rfl rfl rfl fun w hMs hM => ?_
    refine (w_storen (vs := _) Tryz.sizeOf60 (hM.obj (i := 1) rfl) hF rfl rfl rfl rfl (RMark.len _) (RMark.one _) (by first | (rw [RMark.len, RMark.len]; decide) | (rw [RMark.len]; decide)) (put_all ((RMark.len _).trans (RMark.len _).symm)) fun w hU8470 => ?_)
    have hM := hM.chg hU8470 (i := 1) rfl
    replace hM : MemL _ (pt b0 (RReader.enc (RReader.mk s8468 y8467.2.at_ y8467.2.place y8467.2.e)) 176 :: pt b_B118_4 (RMark.enc (RMark.mk y8459.1 y8463.1 (decide (y8467.1 = 1)) SV.nil SV.nil SV.nil SV.nil)) 60 :: pt b_B118_2 (RMark.enc (RMark.mk 0 0 false SV.nil SV.nil SV.nil SV.nil)) 60 :: pt b_B118_1 [.pointer (some ⟨b0, 0, none⟩)] 174 :: Lr) := hM
    have hMs := hM
    refine ⟨_, _, hMs, hM, .inr (by kernel_rfl), ?_⟩
    refine d_end hch (by kernel_rfl) fun w hM => ?_
    refine n_then ?_
    have hP := Option.some.inj hP
    subst hP
    exact ⟨(y8459.1, y8463.1, (decide (y8467.1 = 1)), y8467.2), rfl, b_B118_4, s8468, f8469, hF.to ⟨rfl, rfl, rfl, rfl, trivial⟩, selM hM [1, 0, 2, 3] 4 rfl⟩
  rintro ⟨v8452, v8453, v8454, v8455⟩ a w hP ⟨b8451, s8456, f8457, hF, hM⟩
  replace hP : Sh.trace_reader_mark_j1 x0 v8452 v8453 v8454 v8455 = _ := hP
  unfold Sh.trace_reader_mark_j1 at hP
  refine n_then ?_
  refine c_seq ?_
  refine d_startT mixed (by kernel_rfl) hM [0, 2, 3] 4 rfl fun hch => ?_
  refine d_val hF hch 0 rfl (by kernel_rfl) rfl rfl rfl (fun w hM => (r_load1 Tryz.isAgg174 hF rfl rfl (hM.cell (i := 2) rfl rfl))) fun a hF => ?_
  refine d_val hF hch 1 rfl (by kernel_rfl) rfl rfl rfl (fun w hM => (r_load1 Tryz.isAgg174 hF rfl rfl (hM.cell (i := 2) rfl rfl))) fun a hF => ?_
  refine d_val hF hch 3 rfl (by kernel_rfl) rfl rfl rfl (fun w hM => (r_makeFunc hF (fs := []) (cs := [.tmp 4, .tmp 1]) rfl rfl rfl)) fun a hF => ?_
  refine d_one hch 2 (by kernel_rfl) rfl rfl ?_
  refine d_ex hF 2 rfl rfl rfl rfl rfl fun w hMs hM => ?_
  obtain ⟨y9012, hy9012, hP⟩ := bind_some hP
  refine (w_call (xs := [.tmp 18, .const (.int .i64 (1))]) Tryz.call113 hF rfl rfl (trace_reader_number_calls hy9012 (selM hM [1, 0, 2, 3] 4 rfl) (Bf := Bf) (fun w hM => hsub _ (dropM hM 3)) f8457) fun v w hR => ?_)
  obtain ⟨s9013, rfl, f9014, hM⟩ := hR
  replace hM : MemL _ (pt b0 (RReader.enc (RReader.mk s9013 y9012.2.at_ y9012.2.place y9012.2.e)) 176 :: pt b8451 (RMark.enc (RMark.mk v8452 v8453 v8454 SV.nil SV.nil SV.nil SV.nil)) 60 :: pt b_B118_2 (RMark.enc (RMark.mk 0 0 false SV.nil SV.nil SV.nil SV.nil)) 60 :: pt b_B118_1 [.pointer (some ⟨b0, 0, none⟩)] 174 :: Lr) := hM
  have hMs := selM hM [1, 2, 3] 4 rfl
  refine ⟨_, _, hMs, hM, .inl fun _ h => h, fun a hF => ?_⟩
  refine d_one hch 4 (by kernel_rfl) rfl rfl ?_
  refine d_ex hF 4 rfl rfl rfl rfl rfl fun w hMs hM => ?_
  obtain ⟨o_c2, hP, hK_c2⟩ := seq_some hP
  refine (w_call (xs := [.tmp 17, .tmp 19, .tmp 20]) Tryz.call114 hF rfl rfl (R := fun v w => ∃ x, o_c2 = .inl x ∧ match x with | (v9280, v9283) => ∃ (s9281 : SV) (s9284 : SV), v = .tuple #[] ∧ LIn Bf s9284 v9283.b ∧ MemL w (pt b8451 (RMark.enc (RMark.mk v8452 v8453 v8454 s9281 SV.nil SV.nil SV.nil)) 60 :: rowL 0 s9281 128 v9280 :: pt b0 (RReader.enc (RReader.mk s9284 v9283.at_ v9283.place v9283.e)) 176 :: pt b_B118_2 (RMark.enc (RMark.mk 0 0 false SV.nil SV.nil SV.nil SV.nil)) 60 :: pt b_B118_1 [.pointer (some ⟨b0, 0, none⟩)] 174 :: Lr)) ?_ fun v w hR => ?_)
  · refine calls_enter Tryz.func114 rfl Tryz.ntmps114 rfl fun a hF => ?_
    refine c_block ?_
    have hM := hM.rowNil (X := LTurn) 0 128
    refine c_loopX hF hM hP (fun F x a w => match x with | (v9461, v9464, v9467) => ∃ (s9462 : SV) (s9465 : SV), LIn Bf s9465 v9464.b ∧ Fr 19 [(1, .int .i64 v9467), (0, .pointer (some ⟨b0, 0, none⟩)), (2, .func (.func 184) [].toArray [.pointer (some ⟨b8451, 0, none⟩), .pointer (some ⟨b_B118_1, 0, none⟩)].toArray)] a ∧ MemL w (pt b8451 (RMark.enc (RMark.mk v8452 v8453 v8454 s9462 SV.nil SV.nil SV.nil)) 60 :: rowL 0 s9462 128 v9461 :: pt b0 (RReader.enc (RReader.mk s9465 v9464.at_ v9464.place v9464.e)) 176 :: pt b_B118_2 (RMark.enc (RMark.mk 0 0 false SV.nil SV.nil SV.nil SV.nil)) 60 :: pt b_B118_1 [.pointer (some ⟨b0, 0, none⟩)] 174 :: Lr)) (fun hF hM => ⟨SV.nil, s9013, f9014, hF.to ⟨rfl, rfl, rfl, trivial⟩, selM hM [2, 0, 1, 3, 4] 5 rfl⟩) ?_
    rintro ⟨v9461, v9464, v9467⟩ a w o_l3 hP hK_l3 ⟨s9462, s9465, f9466, hF, hM⟩
    replace hP : Sh.trace_reader_mark_l3 v9461 v9464 v9467 = _ := hP
    unfold Sh.trace_reader_mark_l3 at hP
    refine c_seq ?_
    refine c_seq ?_
    refine c_joinX hF hM hP (fun F x a w => match x with | v9476 => Fr 19 [(14, .bool v9476), (0, .pointer (some ⟨b0, 0, none⟩)), (1, .int .i64 v9467), (2, .func (.func 184) [].toArray [.pointer (some ⟨b8451, 0, none⟩), .pointer (some ⟨b_B118_1, 0, none⟩)].toArray)] a ∧ MemL w (pt b8451 (RMark.enc (RMark.mk v8452 v8453 v8454 s9462 SV.nil SV.nil SV.nil)) 60 :: pt b0 (RReader.enc (RReader.mk s9465 v9464.at_ v9464.place v9464.e)) 176 :: pt b_B118_2 (RMark.enc (RMark.mk 0 0 false SV.nil SV.nil SV.nil SV.nil)) 60 :: pt b_B118_1 [.pointer (some ⟨b0, 0, none⟩)] 174 :: rowL 0 s9462 128 v9461 :: Lr)) (fun o_j4 hP hK_j4 hF hM => ?_) ?_
    · refine c_region ?_
      refine s_val hF (r_move hF rfl rfl) rfl rfl rfl fun a hF => ?_
      refine s_val hF (r_gtr hF rfl rfl rfl) rfl rfl rfl fun a hF => ?_
      refine s_val hF (r_move hF rfl rfl) rfl rfl rfl fun a hF => ?_
      refine g_split 8 hF rfl (fun hb9477 => ?_) (fun hb9477 => ?_)
      · have hP := Fx.cT hb9477 hP
        refine g_val hF rfl rfl rfl hb9477 (r_move hF rfl rfl) rfl rfl fun a hF => ?_
        refine g_val hF rfl rfl rfl hb9477 (r_nilCheckP hF rfl rfl) rfl rfl fun a hF => ?_
        refine g_val hF rfl rfl rfl hb9477 (r_fieldAddr (off' := 3) Tryz.underlying176 rfl in34 rfl hF rfl rfl rfl) rfl rfl fun a hF => ?_
        refine g_val hF rfl rfl rfl hb9477 (r_load1 Tryz.isAgg34 hF rfl rfl (hM.cell (i := 2) rfl (RReader.g_e _))) rfl rfl fun a hF => ?_
        refine g_val hF rfl rfl rfl hb9477 (r_eql hF rfl rfl rfl) rfl rfl fun a hF => ?_
        refine s_val hF (r_pick1 hF rfl rfl hb9477 rfl) rfl rfl rfl fun a hF => ?_
        refine c_nil (n_then ?_)
        have hP := Option.some.inj hP
        subst hP
        exact ⟨(decide (v9464.e = 0)), rfl, hF.to ⟨rfl, rfl, rfl, rfl, trivial⟩, selM hM [0, 2, 3, 4, 1] 5 rfl⟩
      have hP := Fx.cF hb9477 hP
      refine g_skip hF rfl rfl rfl hb9477 rfl rfl fun a hF => ?_
      refine g_skip hF rfl rfl rfl hb9477 rfl rfl fun a hF => ?_
      refine g_skip hF rfl rfl rfl hb9477 rfl rfl fun a hF => ?_
      refine g_skip hF rfl rfl rfl hb9477 rfl rfl fun a hF => ?_
      refine g_skip hF rfl rfl rfl hb9477 rfl rfl fun a hF => ?_
      refine s_val hF (r_pick0 hF rfl rfl hb9477 rfl) rfl rfl rfl fun a hF => ?_
      refine c_nil (n_then ?_)
      have hP := Option.some.inj hP
      subst hP
      exact ⟨false, rfl, hF.to ⟨rfl, rfl, rfl, rfl, trivial⟩, selM hM [0, 2, 3, 4, 1] 5 rfl⟩
    rintro v9476 a w hP ⟨hF, hM⟩
    replace hP : Sh.trace_reader_mark_j4 v9461 v9464 v9467 v9476 = _ := hP
    unfold Sh.trace_reader_mark_j4 at hP
    refine n_then ?_
    refine c_cond hF (c := .tmp 14) rfl (fun hb9478 => ?_) (fun hb9478 => ?_)
    · have hP := Fx.cT hb9478 hP
      refine c_skip (n_then ?_)
      refine c_seq ?_
      refine c_block ?_
      refine c_region ?_
      refine s_val hF (r_move hF rfl rfl) rfl rfl rfl fun a hF => ?_
      obtain ⟨o_c5, hP, hK_c5⟩ := seq_some hP
      refine s_eff hF rfl rfl rfl (w_callF (xs := []) Tryz.call184 hF rfl rfl rfl (R := fun v w => ∃ x, o_c5 = .inl x ∧ match x with | (v9530, v9533) => ∃ (s9531 : SV) (s9534 : SV), v = .tuple #[] ∧ LIn Bf s9534 v9533.b ∧ MemL w (pt b8451 (RMark.enc (RMark.mk v8452 v8453 v8454 s9531 SV.nil SV.nil SV.nil)) 60 :: rowL 0 s9531 128 v9530 :: pt b0 (RReader.enc (RReader.mk s9534 v9533.at_ v9533.place v9533.e)) 176 :: pt b_B118_2 (RMark.enc (RMark.mk 0 0 false SV.nil SV.nil SV.nil SV.nil)) 60 :: pt b_B118_1 [.pointer (some ⟨b0, 0, none⟩)] 174 :: Lr)) ?_ fun v w hR => ?_)
      · refine calls_enter Tryz.func184 rfl Tryz.ntmps184 rfl fun a hF => ?_
        refine d_startT mixed (by kernel_rfl) hM [0, 2, 3, 4] 5 rfl fun hch => ?_
        refine d_val hF hch 0 rfl (by kernel_rfl) rfl rfl rfl (fun w hM => (r_fieldAddr (off' := 3) Tryz.underlying60 rfl in56 rfl hF rfl rfl rfl)) fun a hF => ?_
        refine d_val hF hch 1 rfl (by kernel_rfl) rfl rfl rfl (fun w hM => (r_load1 Tryz.isAgg56 hF rfl rfl (hM.cell (i := 0) rfl (RMark.g_regs _)))) fun a hF => ?_
        refine d_val hF hch 2 rfl (by kernel_rfl) rfl rfl rfl (fun w hM => (r_load1 Tryz.isAgg174 hF rfl rfl (hM.cell (i := 2) rfl rfl))) fun a hF => ?_
        refine d_val hF hch 4 rfl (by kernel_rfl) rfl rfl rfl (fun w hM => (r_load1 Tryz.isAgg174 hF rfl rfl (hM.cell (i := 2) rfl rfl))) fun a hF => ?_
        refine d_val hF hch 6 rfl (by kernel_rfl) rfl rfl rfl (fun w hM => (r_load1 Tryz.isAgg174 hF rfl rfl (hM.cell (i := 2) rfl rfl))) fun a hF => ?_
        refine d_one hch 3 (by kernel_rfl) rfl rfl ?_
        refine d_ex hF 3 rfl rfl rfl rfl rfl fun w hMs hM => ?_
        obtain ⟨y9537, hy9537, hP⟩ := bind_some hP
        refine (w_call (xs := [.tmp 4, .const (.int .i64 (1))]) Tryz.call113 hF rfl rfl (trace_reader_number_calls hy9537 (selM hM [1, 0, 2, 3, 4] 5 rfl) (Bf := Bf) (fun w hM => hsub _ (dropM hM 4)) f9466) fun v w hR => ?_)
        obtain ⟨s9538, rfl, f9539, hM⟩ := hR
        replace hM : MemL _ (pt b0 (RReader.enc (RReader.mk s9538 y9537.2.at_ y9537.2.place y9537.2.e)) 176 :: pt b8451 (RMark.enc (RMark.mk v8452 v8453 v8454 s9462 SV.nil SV.nil SV.nil)) 60 :: pt b_B118_2 (RMark.enc (RMark.mk 0 0 false SV.nil SV.nil SV.nil SV.nil)) 60 :: pt b_B118_1 [.pointer (some ⟨b0, 0, none⟩)] 174 :: rowL 0 s9462 128 v9461 :: Lr) := hM
        have hMs := selM hM [1, 2, 3, 4] 5 rfl
        refine ⟨_, _, hMs, hM, .inl fun _ h => h, fun a hF => ?_⟩
        refine d_one hch 5 (by kernel_rfl) rfl rfl ?_
        refine d_ex hF 5 rfl rfl rfl rfl rfl fun w hMs hM => ?_
        obtain ⟨y9541, hy9541, hP⟩ := bind_some hP
        refine (w_call (xs := [.tmp 6]) Tryz.call185 hF rfl rfl (trace_reader_value_calls hy9541 hM (Bf := Bf) (fun w hM => hsub _ (dropM hM 4)) f9539) fun v w hR => ?_)
        obtain ⟨s9542, rfl, f9543, hM⟩ := hR
        replace hM : MemL _ (pt b0 (RReader.enc (RReader.mk s9542 y9541.2.at_ y9541.2.place y9541.2.e)) 176 :: pt b8451 (RMark.enc (RMark.mk v8452 v8453 v8454 s9462 SV.nil SV.nil SV.nil)) 60 :: pt b_B118_2 (RMark.enc (RMark.mk 0 0 false SV.nil SV.nil SV.nil SV.nil)) 60 :: pt b_B118_1 [.pointer (some ⟨b0, 0, none⟩)] 174 :: rowL 0 s9462 128 v9461 :: Lr) := hM
        have hMs := selM hM [1, 2, 3, 4] 5 rfl
        refine ⟨_, _, hMs, hM, .inl fun _ h => h, fun a hF => ?_⟩
        refine d_one hch 7 (by kernel_rfl) rfl rfl ?_
        refine d_ex hF 7 rfl rfl rfl rfl rfl fun w hMs hM => ?_
        obtain ⟨y9545, hy9545, hP⟩ := bind_some hP
        refine (w_call (xs := [.tmp 8]) Tryz.call185 hF rfl rfl (trace_reader_value_calls hy9545 hM (Bf := Bf) (fun w hM => hsub _ (dropM hM 4)) f9543) fun v w hR => ?_)
        obtain ⟨s9546, rfl, f9547, hM⟩ := hR
        replace hM : MemL _ (pt b0 (RReader.enc (RReader.mk s9546 y9545.2.at_ y9545.2.place y9545.2.e)) 176 :: pt b8451 (RMark.enc (RMark.mk v8452 v8453 v8454 s9462 SV.nil SV.nil SV.nil)) 60 :: pt b_B118_2 (RMark.enc (RMark.mk 0 0 false SV.nil SV.nil SV.nil SV.nil)) 60 :: pt b_B118_1 [.pointer (some ⟨b0, 0, none⟩)] 174 :: rowL 0 s9462 128 v9461 :: Lr) := hM
        have hMs := selM hM [1, 2, 3, 4] 5 rfl
        refine ⟨_, _, hMs, hM, .inl fun _ h => h, fun a hF => ?_⟩
        refine d_val hF hch 8 rfl (by kernel_rfl) rfl rfl rfl (fun w hM => (r_build z128 Tryz.underlying128 pl128 hF (parts := [(0, .tmp 5), (1, .tmp 7), (2, .tmp 9)]) rfl rfl (fill_s rfl rfl (by rw [LTurn.len]; decide) (LTurn.s_reg _ _) (fill_p rfl (LVal.len _) (by rw [LVal.len, LTurn.len]; decide) (LTurn.p_old _ _) (fill_p rfl (LVal.len _) (by rw [LVal.len, LTurn.len]; decide) (LTurn.p_new _ _) fill_e))))) fun a hF => ?_
        refine d_one hch 9 (by kernel_rfl) rfl rfl ?_
        refine d_ex hF 9 rfl rfl rfl rfl rfl fun w hMs hM => ?_
        refine (w_slice1 (X := LTurn) (y := (LTurn.mk y9537.1 y9541.1 y9545.1)) Tryz.underlying56 in128 rfl rfl rfl rfl hF rfl rfl rfl fun b_B184_11 w hzB184_11 hAB184_11 => ?_)
        have hM := hM.plus hAB184_11
        replace hM : MemL _ (pt b_B184_11 (encs ([(LTurn.mk y9537.1 y9541.1 y9545.1)] : List LTurn)) 128 :: pt b0 (RReader.enc (RReader.mk s9546 y9545.2.at_ y9545.2.place y9545.2.e)) 176 :: pt b8451 (RMark.enc (RMark.mk v8452 v8453 v8454 s9462 SV.nil SV.nil SV.nil)) 60 :: pt b_B118_2 (RMark.enc (RMark.mk 0 0 false SV.nil SV.nil SV.nil SV.nil)) 60 :: pt b_B118_1 [.pointer (some ⟨b0, 0, none⟩)] 174 :: rowL 0 s9462 128 v9461 :: Lr) := hM
        have hMs := selM hM [0, 2, 3, 4, 5] 6 rfl
        refine ⟨_, _, hMs, hM, .inl fun _ h => dropM h 1, fun a hF => ?_⟩
        refine d_one hch 10 (by kernel_rfl) rfl rfl ?_
        refine d_ex hF 10 rfl rfl rfl rfl rfl fun w hMs hM => ?_
        obtain ⟨x9549, hx9549, hP⟩ := bind_some hP
        refine (w_appX (X := LTurn) hx9549 Tryz.underlying56 in128 rfl rfl rfl rfl hF rfl rfl rfl (hM.own (X := LTurn) (i := 5) rfl) (hM.ptS (X := LTurn) (i := 0) (n := 1) (c := 1) rfl rfl rfl (Nat.le_refl _)) fun s9548 w hUs9548 => ?_)
        have hM := hM.chg hUs9548 (i := 5) rfl
        replace hM : MemL _ (pt b_B184_11 (encs ([(LTurn.mk y9537.1 y9541.1 y9545.1)] : List LTurn)) 128 :: pt b0 (RReader.enc (RReader.mk s9546 y9545.2.at_ y9545.2.place y9545.2.e)) 176 :: pt b8451 (RMark.enc (RMark.mk v8452 v8453 v8454 s9462 SV.nil SV.nil SV.nil)) 60 :: pt b_B118_2 (RMark.enc (RMark.mk 0 0 false SV.nil SV.nil SV.nil SV.nil)) 60 :: pt b_B118_1 [.pointer (some ⟨b0, 0, none⟩)] 174 :: rowL 0 s9548 128 x9549 :: Lr) := hM
        have hMs := hM
        refine ⟨_, _, hMs, hM, .inr (by kernel_rfl), fun a hF => ?_⟩
        refine d_val hF hch 11 rfl (by kernel_rfl) rfl rfl rfl (fun w hM => (r_fieldAddr (off' := 3) Tryz.underlying60 rfl in56 rfl hF rfl rfl rfl)) fun a hF => ?_
        refine d_one hch 12 (by kernel_rfl) rfl rfl ?_
        refine d_ex0 12 rfl rfl rfl rfl fun w hMs hM => ?_
        refine (w_store1 Tryz.sizeOf56 (hM.obj (i := 2) rfl) hF rfl rfl rfl rfl (by rw [RMark.len]; decide) (RMark.s_regs _ _) fun w hU9550 => ?_)
        have hM := hM.chg hU9550 (i := 2) rfl
        replace hM : MemL _ (pt b_B184_11 (encs ([(LTurn.mk y9537.1 y9541.1 y9545.1)] : List LTurn)) 128 :: pt b0 (RReader.enc (RReader.mk s9546 y9545.2.at_ y9545.2.place y9545.2.e)) 176 :: pt b8451 (RMark.enc (RMark.mk v8452 v8453 v8454 s9548 SV.nil SV.nil SV.nil)) 60 :: pt b_B118_2 (RMark.enc (RMark.mk 0 0 false SV.nil SV.nil SV.nil SV.nil)) 60 :: pt b_B118_1 [.pointer (some ⟨b0, 0, none⟩)] 174 :: rowL 0 s9548 128 x9549 :: Lr) := hM
        have hMs := hM
        refine ⟨_, _, hMs, hM, .inr (by kernel_rfl), ?_⟩
        refine d_end hch (by kernel_rfl) fun w hM => ?_
        have hP := Option.some.inj hP
        subst hP
        refine e_end0 Tryz.results184 hF ?_
        exact ⟨(x9549, y9545.2), rfl, s9548, s9546, rfl, f9547, selM hM [2, 5, 1, 3, 4] 6 rfl⟩
      obtain ⟨⟨v9530, v9533⟩, rfl, s9531, s9534, rfl, f9535, hM⟩ := hR
      replace hP : Sh.trace_reader_mark_c5 v9467 v9530 v9533 = _ := hK_c5
      unfold Sh.trace_reader_mark_c5 at hP
      intro a hF
      refine c_nil (n_block (n_then ?_))
      refine c_region ?_
      refine s_val hF (r_move hF rfl rfl) rfl rfl rfl fun a hF => ?_
      refine s_val hF (r_sub hF rfl rfl rfl) rfl rfl rfl fun a hF => ?_
      refine s_val hF (r_assign hF rfl rfl) rfl rfl rfl fun a hF => ?_
      refine c_nil (n_then ?_)
      have hP := Option.some.inj hP
      subst hP
      exact ⟨(v9530, v9533, (IntKind.i64.wrap (v9467 - 1))), rfl, s9531, s9534, f9535, hF.to ⟨rfl, rfl, rfl, trivial⟩, hM⟩
    have hP := Fx.cF hb9478 hP
    refine c_exit (x_then (x_then (x_hit ?_)))
    have hP := Option.some.inj hP
    subst hP
    have hP := hK_l3 _ rfl
    subst hP
    refine e_end0 Tryz.results114 hF ?_
    exact ⟨(v9461, v9464), rfl, s9462, s9465, rfl, f9466, selM hM [0, 4, 1, 2, 3] 5 rfl⟩
  obtain ⟨⟨v9280, v9283⟩, rfl, s9281, s9284, rfl, f9285, hM⟩ := hR
  replace hP : Sh.trace_reader_mark_c2 x0 v8452 v8453 v8454 v9280 v9283 = _ := hK_c2
  unfold Sh.trace_reader_mark_c2 at hP
  replace hM : MemL _ (pt b8451 (RMark.enc (RMark.mk v8452 v8453 v8454 s9281 SV.nil SV.nil SV.nil)) 60 :: rowL 0 s9281 128 v9280 :: pt b0 (RReader.enc (RReader.mk s9284 v9283.at_ v9283.place v9283.e)) 176 :: pt b_B118_2 (RMark.enc (RMark.mk 0 0 false SV.nil SV.nil SV.nil SV.nil)) 60 :: pt b_B118_1 [.pointer (some ⟨b0, 0, none⟩)] 174 :: Lr) := hM
  have hMs := hM
  refine ⟨_, _, hMs, hM, .inr (by kernel_rfl), fun a hF => ?_⟩
  refine d_end hch (by kernel_rfl) fun w hM => ?_
  refine n_then ?_
  refine c_seq ?_
  refine d_startT mixed (by kernel_rfl) hM [0, 1, 3, 4] 5 rfl fun hch => ?_
  refine d_val hF hch 0 rfl (by kernel_rfl) rfl rfl rfl (fun w hM => (r_load1 Tryz.isAgg174 hF rfl rfl (hM.cell (i := 3) rfl rfl))) fun a hF => ?_
  refine d_val hF hch 1 rfl (by kernel_rfl) rfl rfl rfl (fun w hM => (r_load1 Tryz.isAgg174 hF rfl rfl (hM.cell (i := 3) rfl rfl))) fun a hF => ?_
  refine d_val hF hch 3 rfl (by kernel_rfl) rfl rfl rfl (fun w hM => (r_makeFunc hF (fs := []) (cs := [.tmp 4, .tmp 1]) rfl rfl rfl)) fun a hF => ?_
  refine d_one hch 2 (by kernel_rfl) rfl rfl ?_
  refine d_ex hF 2 rfl rfl rfl rfl rfl fun w hMs hM => ?_
  obtain ⟨y10143, hy10143, hP⟩ := bind_some hP
  refine (w_call (xs := [.tmp 23, .const (.int .i64 (1))]) Tryz.call113 hF rfl rfl (trace_reader_number_calls hy10143 (selM hM [2, 0, 1, 3, 4] 5 rfl) (Bf := Bf) (fun w hM => hsub _ (dropM hM 4)) f9285) fun v w hR => ?_)
  obtain ⟨s10144, rfl, f10145, hM⟩ := hR
  replace hM : MemL _ (pt b0 (RReader.enc (RReader.mk s10144 y10143.2.at_ y10143.2.place y10143.2.e)) 176 :: pt b8451 (RMark.enc (RMark.mk v8452 v8453 v8454 s9281 SV.nil SV.nil SV.nil)) 60 :: rowL 0 s9281 128 v9280 :: pt b_B118_2 (RMark.enc (RMark.mk 0 0 false SV.nil SV.nil SV.nil SV.nil)) 60 :: pt b_B118_1 [.pointer (some ⟨b0, 0, none⟩)] 174 :: Lr) := hM
  have hMs := selM hM [1, 2, 3, 4] 5 rfl
  refine ⟨_, _, hMs, hM, .inl fun _ h => h, fun a hF => ?_⟩
  refine d_one hch 4 (by kernel_rfl) rfl rfl ?_
  refine d_ex hF 4 rfl rfl rfl rfl rfl fun w hMs hM => ?_
  obtain ⟨o_c6, hP, hK_c6⟩ := seq_some hP
  refine (w_call (xs := [.tmp 22, .tmp 24, .tmp 25]) Tryz.call114 hF rfl rfl (R := fun v w => ∃ x, o_c6 = .inl x ∧ match x with | (v10435, v10438, v10441) => ∃ (s10436 : SV) (s10439 : SV) (s10442 : SV), v = .tuple #[] ∧ LIn Bf s10442 v10441.b ∧ MemL w (pt b8451 (RMark.enc (RMark.mk v8452 v8453 v8454 s10436 s10439 SV.nil SV.nil)) 60 :: rowL 0 s10436 128 v10435 :: rowL 0 s10439 151 v10438 :: pt b0 (RReader.enc (RReader.mk s10442 v10441.at_ v10441.place v10441.e)) 176 :: pt b_B118_2 (RMark.enc (RMark.mk 0 0 false SV.nil SV.nil SV.nil SV.nil)) 60 :: pt b_B118_1 [.pointer (some ⟨b0, 0, none⟩)] 174 :: Lr)) ?_ fun v w hR => ?_)
  · refine calls_enter Tryz.func114 rfl Tryz.ntmps114 rfl fun a hF => ?_
    refine c_block ?_
    have hM := hM.rowNil (X := LCell) 0 151
    refine c_loopX hF hM hP (fun F x a w => match x with | (v10634, v10637, v10640, v10643) => ∃ (s10635 : SV) (s10638 : SV) (s10641 : SV), LIn Bf s10641 v10640.b ∧ Fr 19 [(1, .int .i64 v10643), (0, .pointer (some ⟨b0, 0, none⟩)), (2, .func (.func 186) [].toArray [.pointer (some ⟨b8451, 0, none⟩), .pointer (some ⟨b_B118_1, 0, none⟩)].toArray)] a ∧ MemL w (pt b8451 (RMark.enc (RMark.mk v8452 v8453 v8454 s10635 s10638 SV.nil SV.nil)) 60 :: rowL 0 s10635 128 v10634 :: rowL 0 s10638 151 v10637 :: pt b0 (RReader.enc (RReader.mk s10641 v10640.at_ v10640.place v10640.e)) 176 :: pt b_B118_2 (RMark.enc (RMark.mk 0 0 false SV.nil SV.nil SV.nil SV.nil)) 60 :: pt b_B118_1 [.pointer (some ⟨b0, 0, none⟩)] 174 :: Lr)) (fun hF hM => ⟨s9281, SV.nil, s10144, f10145, hF.to ⟨rfl, rfl, rfl, trivial⟩, selM hM [2, 3, 0, 1, 4, 5] 6 rfl⟩) ?_
    rintro ⟨v10634, v10637, v10640, v10643⟩ a w o_l7 hP hK_l7 ⟨s10635, s10638, s10641, f10642, hF, hM⟩
    replace hP : Sh.trace_reader_mark_l7 v10634 v10637 v10640 v10643 = _ := hP
    unfold Sh.trace_reader_mark_l7 at hP
    refine c_seq ?_
    refine c_seq ?_
    refine c_joinX hF hM hP (fun F x a w => match x with | v10652 => Fr 19 [(14, .bool v10652), (0, .pointer (some ⟨b0, 0, none⟩)), (1, .int .i64 v10643), (2, .func (.func 186) [].toArray [.pointer (some ⟨b8451, 0, none⟩), .pointer (some ⟨b_B118_1, 0, none⟩)].toArray)] a ∧ MemL w (pt b8451 (RMark.enc (RMark.mk v8452 v8453 v8454 s10635 s10638 SV.nil SV.nil)) 60 :: pt b0 (RReader.enc (RReader.mk s10641 v10640.at_ v10640.place v10640.e)) 176 :: pt b_B118_2 (RMark.enc (RMark.mk 0 0 false SV.nil SV.nil SV.nil SV.nil)) 60 :: pt b_B118_1 [.pointer (some ⟨b0, 0, none⟩)] 174 :: rowL 0 s10635 128 v10634 :: rowL 0 s10638 151 v10637 :: Lr)) (fun o_j8 hP hK_j8 hF hM => ?_) ?_
    · refine c_region ?_
      refine s_val hF (r_move hF rfl rfl) rfl rfl rfl fun a hF => ?_
      refine s_val hF (r_gtr hF rfl rfl rfl) rfl rfl rfl fun a hF => ?_
      refine s_val hF (r_move hF rfl rfl) rfl rfl rfl fun a hF => ?_
      refine g_split 8 hF rfl (fun hb10653 => ?_) (fun hb10653 => ?_)
      · have hP := Fx.cT hb10653 hP
        refine g_val hF rfl rfl rfl hb10653 (r_move hF rfl rfl) rfl rfl fun a hF => ?_
        refine g_val hF rfl rfl rfl hb10653 (r_nilCheckP hF rfl rfl) rfl rfl fun a hF => ?_
        refine g_val hF rfl rfl rfl hb10653 (r_fieldAddr (off' := 3) Tryz.underlying176 rfl in34 rfl hF rfl rfl rfl) rfl rfl fun a hF => ?_
        refine g_val hF rfl rfl rfl hb10653 (r_load1 Tryz.isAgg34 hF rfl rfl (hM.cell (i := 3) rfl (RReader.g_e _))) rfl rfl fun a hF => ?_
        refine g_val hF rfl rfl rfl hb10653 (r_eql hF rfl rfl rfl) rfl rfl fun a hF => ?_
        refine s_val hF (r_pick1 hF rfl rfl hb10653 rfl) rfl rfl rfl fun a hF => ?_
        refine c_nil (n_then ?_)
        have hP := Option.some.inj hP
        subst hP
        exact ⟨(decide (v10640.e = 0)), rfl, hF.to ⟨rfl, rfl, rfl, rfl, trivial⟩, selM hM [0, 3, 4, 5, 1, 2] 6 rfl⟩
      have hP := Fx.cF hb10653 hP
      refine g_skip hF rfl rfl rfl hb10653 rfl rfl fun a hF => ?_
      refine g_skip hF rfl rfl rfl hb10653 rfl rfl fun a hF => ?_
      refine g_skip hF rfl rfl rfl hb10653 rfl rfl fun a hF => ?_
      refine g_skip hF rfl rfl rfl hb10653 rfl rfl fun a hF => ?_
      refine g_skip hF rfl rfl rfl hb10653 rfl rfl fun a hF => ?_
      refine s_val hF (r_pick0 hF rfl rfl hb10653 rfl) rfl rfl rfl fun a hF => ?_
      refine c_nil (n_then ?_)
      have hP := Option.some.inj hP
      subst hP
      exact ⟨false, rfl, hF.to ⟨rfl, rfl, rfl, rfl, trivial⟩, selM hM [0, 3, 4, 5, 1, 2] 6 rfl⟩
    rintro v10652 a w hP ⟨hF, hM⟩
    replace hP : Sh.trace_reader_mark_j8 v10634 v10637 v10640 v10643 v10652 = _ := hP
    unfold Sh.trace_reader_mark_j8 at hP
    refine n_then ?_
    refine c_cond hF (c := .tmp 14) rfl (fun hb10654 => ?_) (fun hb10654 => ?_)
    · have hP := Fx.cT hb10654 hP
      refine c_skip (n_then ?_)
      refine c_seq ?_
      refine c_block ?_
      refine c_region ?_
      refine s_val hF (r_move hF rfl rfl) rfl rfl rfl fun a hF => ?_
      obtain ⟨o_c9, hP, hK_c9⟩ := seq_some hP
      refine s_eff hF rfl rfl rfl (w_callF (xs := []) Tryz.call186 hF rfl rfl rfl (R := fun v w => ∃ x, o_c9 = .inl x ∧ match x with | (v10709, v10712, v10715) => ∃ (s10710 : SV) (s10713 : SV) (s10716 : SV), v = .tuple #[] ∧ LIn Bf s10716 v10715.b ∧ MemL w (pt b8451 (RMark.enc (RMark.mk v8452 v8453 v8454 s10710 s10713 SV.nil SV.nil)) 60 :: rowL 0 s10710 128 v10709 :: rowL 0 s10713 151 v10712 :: pt b0 (RReader.enc (RReader.mk s10716 v10715.at_ v10715.place v10715.e)) 176 :: pt b_B118_2 (RMark.enc (RMark.mk 0 0 false SV.nil SV.nil SV.nil SV.nil)) 60 :: pt b_B118_1 [.pointer (some ⟨b0, 0, none⟩)] 174 :: Lr)) ?_ fun v w hR => ?_)
      · refine calls_enter Tryz.func186 rfl Tryz.ntmps186 rfl fun a hF => ?_
        refine d_startT mixed (by kernel_rfl) hM [0, 2, 3, 4, 5] 6 rfl fun hch => ?_
        refine d_val hF hch 0 rfl (by kernel_rfl) rfl rfl rfl (fun w hM => (r_fieldAddr (off' := 4) Tryz.underlying60 rfl in57 rfl hF rfl rfl rfl)) fun a hF => ?_
        refine d_val hF hch 1 rfl (by kernel_rfl) rfl rfl rfl (fun w hM => (r_load1 Tryz.isAgg57 hF rfl rfl (hM.cell (i := 0) rfl (RMark.g_slots _)))) fun a hF => ?_
        refine d_val hF hch 2 rfl (by kernel_rfl) rfl rfl rfl (fun w hM => (r_load1 Tryz.isAgg174 hF rfl rfl (hM.cell (i := 2) rfl rfl))) fun a hF => ?_
        refine d_val hF hch 4 rfl (by kernel_rfl) rfl rfl rfl (fun w hM => (r_load1 Tryz.isAgg174 hF rfl rfl (hM.cell (i := 2) rfl rfl))) fun a hF => ?_
        refine d_val hF hch 6 rfl (by kernel_rfl) rfl rfl rfl (fun w hM => (r_load1 Tryz.isAgg174 hF rfl rfl (hM.cell (i := 2) rfl rfl))) fun a hF => ?_
        refine d_one hch 3 (by kernel_rfl) rfl rfl ?_
        refine d_ex hF 3 rfl rfl rfl rfl rfl fun w hMs hM => ?_
        obtain ⟨y10719, hy10719, hP⟩ := bind_some hP
        refine (w_call (xs := [.tmp 4, .const (.int .i64 (1))]) Tryz.call113 hF rfl rfl (trace_reader_number_calls hy10719 (selM hM [1, 0, 2, 3, 4, 5] 6 rfl) (Bf := Bf) (fun w hM => hsub _ (dropM hM 5)) f10642) fun v w hR => ?_)
        obtain ⟨s10720, rfl, f10721, hM⟩ := hR
        replace hM : MemL _ (pt b0 (RReader.enc (RReader.mk s10720 y10719.2.at_ y10719.2.place y10719.2.e)) 176 :: pt b8451 (RMark.enc (RMark.mk v8452 v8453 v8454 s10635 s10638 SV.nil SV.nil)) 60 :: pt b_B118_2 (RMark.enc (RMark.mk 0 0 false SV.nil SV.nil SV.nil SV.nil)) 60 :: pt b_B118_1 [.pointer (some ⟨b0, 0, none⟩)] 174 :: rowL 0 s10635 128 v10634 :: rowL 0 s10638 151 v10637 :: Lr) := hM
        have hMs := selM hM [1, 2, 3, 4, 5] 6 rfl
        refine ⟨_, _, hMs, hM, .inl fun _ h => h, fun a hF => ?_⟩
        refine d_one hch 5 (by kernel_rfl) rfl rfl ?_
        refine d_ex hF 5 rfl rfl rfl rfl rfl fun w hMs hM => ?_
        obtain ⟨y10723, hy10723, hP⟩ := bind_some hP
        refine (w_call (xs := [.tmp 6]) Tryz.call187 hF rfl rfl (trace_reader_slot_calls hy10723 hM (Bf := Bf) (fun w hM => hsub _ (dropM hM 5)) f10721) fun v w hR => ?_)
        obtain ⟨s10724, rfl, f10725, hM⟩ := hR
        replace hM : MemL _ (pt b0 (RReader.enc (RReader.mk s10724 y10723.2.at_ y10723.2.place y10723.2.e)) 176 :: pt b8451 (RMark.enc (RMark.mk v8452 v8453 v8454 s10635 s10638 SV.nil SV.nil)) 60 :: pt b_B118_2 (RMark.enc (RMark.mk 0 0 false SV.nil SV.nil SV.nil SV.nil)) 60 :: pt b_B118_1 [.pointer (some ⟨b0, 0, none⟩)] 174 :: rowL 0 s10635 128 v10634 :: rowL 0 s10638 151 v10637 :: Lr) := hM
        have hMs := selM hM [1, 2, 3, 4, 5] 6 rfl
        refine ⟨_, _, hMs, hM, .inl fun _ h => h, fun a hF => ?_⟩
        refine d_one hch 7 (by kernel_rfl) rfl rfl ?_
        refine d_ex hF 7 rfl rfl rfl rfl rfl fun w hMs hM => ?_
        obtain ⟨y10727, hy10727, hP⟩ := bind_some hP
        refine (w_call (xs := [.tmp 8]) Tryz.call187 hF rfl rfl (trace_reader_slot_calls hy10727 hM (Bf := Bf) (fun w hM => hsub _ (dropM hM 5)) f10725) fun v w hR => ?_)
        obtain ⟨s10728, rfl, f10729, hM⟩ := hR
        replace hM : MemL _ (pt b0 (RReader.enc (RReader.mk s10728 y10727.2.at_ y10727.2.place y10727.2.e)) 176 :: pt b8451 (RMark.enc (RMark.mk v8452 v8453 v8454 s10635 s10638 SV.nil SV.nil)) 60 :: pt b_B118_2 (RMark.enc (RMark.mk 0 0 false SV.nil SV.nil SV.nil SV.nil)) 60 :: pt b_B118_1 [.pointer (some ⟨b0, 0, none⟩)] 174 :: rowL 0 s10635 128 v10634 :: rowL 0 s10638 151 v10637 :: Lr) := hM
        have hMs := selM hM [1, 2, 3, 4, 5] 6 rfl
        refine ⟨_, _, hMs, hM, .inl fun _ h => h, fun a hF => ?_⟩
        refine d_val hF hch 8 rfl (by kernel_rfl) rfl rfl rfl (fun w hM => (r_build z151 Tryz.underlying151 pl151 hF (parts := [(0, .tmp 5), (1, .tmp 7), (2, .tmp 9)]) rfl rfl (fill_s rfl rfl (by rw [LCell.len]; decide) (LCell.s_slot _ _) (fill_p rfl (LSlot.len _) (by rw [LSlot.len, LCell.len]; decide) (LCell.p_old _ _) (fill_p rfl (LSlot.len _) (by rw [LSlot.len, LCell.len]; decide) (LCell.p_new _ _) fill_e))))) fun a hF => ?_
        refine d_one hch 9 (by kernel_rfl) rfl rfl ?_
        refine d_ex hF 9 rfl rfl rfl rfl rfl fun w hMs hM => ?_
        refine (w_slice1 (X := LCell) (y := (LCell.mk y10719.1 y10723.1 y10727.1)) Tryz.underlying57 in151 rfl rfl rfl rfl hF rfl rfl rfl fun b_B186_11 w hzB186_11 hAB186_11 => ?_)
        have hM := hM.plus hAB186_11
        replace hM : MemL _ (pt b_B186_11 (encs ([(LCell.mk y10719.1 y10723.1 y10727.1)] : List LCell)) 151 :: pt b0 (RReader.enc (RReader.mk s10728 y10727.2.at_ y10727.2.place y10727.2.e)) 176 :: pt b8451 (RMark.enc (RMark.mk v8452 v8453 v8454 s10635 s10638 SV.nil SV.nil)) 60 :: pt b_B118_2 (RMark.enc (RMark.mk 0 0 false SV.nil SV.nil SV.nil SV.nil)) 60 :: pt b_B118_1 [.pointer (some ⟨b0, 0, none⟩)] 174 :: rowL 0 s10635 128 v10634 :: rowL 0 s10638 151 v10637 :: Lr) := hM
        have hMs := selM hM [0, 2, 3, 4, 5, 6] 7 rfl
        refine ⟨_, _, hMs, hM, .inl fun _ h => dropM h 1, fun a hF => ?_⟩
        refine d_one hch 10 (by kernel_rfl) rfl rfl ?_
        refine d_ex hF 10 rfl rfl rfl rfl rfl fun w hMs hM => ?_
        obtain ⟨x10731, hx10731, hP⟩ := bind_some hP
        refine (w_appX (X := LCell) hx10731 Tryz.underlying57 in151 rfl rfl rfl rfl hF rfl rfl rfl (hM.own (X := LCell) (i := 6) rfl) (hM.ptS (X := LCell) (i := 0) (n := 1) (c := 1) rfl rfl rfl (Nat.le_refl _)) fun s10730 w hUs10730 => ?_)
        have hM := hM.chg hUs10730 (i := 6) rfl
        replace hM : MemL _ (pt b_B186_11 (encs ([(LCell.mk y10719.1 y10723.1 y10727.1)] : List LCell)) 151 :: pt b0 (RReader.enc (RReader.mk s10728 y10727.2.at_ y10727.2.place y10727.2.e)) 176 :: pt b8451 (RMark.enc (RMark.mk v8452 v8453 v8454 s10635 s10638 SV.nil SV.nil)) 60 :: pt b_B118_2 (RMark.enc (RMark.mk 0 0 false SV.nil SV.nil SV.nil SV.nil)) 60 :: pt b_B118_1 [.pointer (some ⟨b0, 0, none⟩)] 174 :: rowL 0 s10635 128 v10634 :: rowL 0 s10730 151 x10731 :: Lr) := hM
        have hMs := hM
        refine ⟨_, _, hMs, hM, .inr (by kernel_rfl), fun a hF => ?_⟩
        refine d_val hF hch 11 rfl (by kernel_rfl) rfl rfl rfl (fun w hM => (r_fieldAddr (off' := 4) Tryz.underlying60 rfl in57 rfl hF rfl rfl rfl)) fun a hF => ?_
        refine d_one hch 12 (by kernel_rfl) rfl rfl ?_
        refine d_ex0 12 rfl rfl rfl rfl fun w hMs hM => ?_
        refine (w_store1 Tryz.sizeOf57 (hM.obj (i := 2) rfl) hF rfl rfl rfl rfl (by rw [RMark.len]; decide) (RMark.s_slots _ _) fun w hU10732 => ?_)
        have hM := hM.chg hU10732 (i := 2) rfl
        replace hM : MemL _ (pt b_B186_11 (encs ([(LCell.mk y10719.1 y10723.1 y10727.1)] : List LCell)) 151 :: pt b0 (RReader.enc (RReader.mk s10728 y10727.2.at_ y10727.2.place y10727.2.e)) 176 :: pt b8451 (RMark.enc (RMark.mk v8452 v8453 v8454 s10635 s10730 SV.nil SV.nil)) 60 :: pt b_B118_2 (RMark.enc (RMark.mk 0 0 false SV.nil SV.nil SV.nil SV.nil)) 60 :: pt b_B118_1 [.pointer (some ⟨b0, 0, none⟩)] 174 :: rowL 0 s10635 128 v10634 :: rowL 0 s10730 151 x10731 :: Lr) := hM
        have hMs := hM
        refine ⟨_, _, hMs, hM, .inr (by kernel_rfl), ?_⟩
        refine d_end hch (by kernel_rfl) fun w hM => ?_
        have hP := Option.some.inj hP
        subst hP
        refine e_end0 Tryz.results186 hF ?_
        exact ⟨(v10634, x10731, y10727.2), rfl, s10635, s10730, s10728, rfl, f10729, selM hM [2, 5, 6, 1, 3, 4] 7 rfl⟩
      obtain ⟨⟨v10709, v10712, v10715⟩, rfl, s10710, s10713, s10716, rfl, f10717, hM⟩ := hR
      replace hP : Sh.trace_reader_mark_c9 v10643 v10709 v10712 v10715 = _ := hK_c9
      unfold Sh.trace_reader_mark_c9 at hP
      intro a hF
      refine c_nil (n_block (n_then ?_))
      refine c_region ?_
      refine s_val hF (r_move hF rfl rfl) rfl rfl rfl fun a hF => ?_
      refine s_val hF (r_sub hF rfl rfl rfl) rfl rfl rfl fun a hF => ?_
      refine s_val hF (r_assign hF rfl rfl) rfl rfl rfl fun a hF => ?_
      refine c_nil (n_then ?_)
      have hP := Option.some.inj hP
      subst hP
      exact ⟨(v10709, v10712, v10715, (IntKind.i64.wrap (v10643 - 1))), rfl, s10710, s10713, s10716, f10717, hF.to ⟨rfl, rfl, rfl, trivial⟩, hM⟩
    have hP := Fx.cF hb10654 hP
    refine c_exit (x_then (x_then (x_hit ?_)))
    have hP := Option.some.inj hP
    subst hP
    have hP := hK_l7 _ rfl
    subst hP
    refine e_end0 Tryz.results114 hF ?_
    exact ⟨(v10634, v10637, v10640), rfl, s10635, s10638, s10641, rfl, f10642, selM hM [0, 4, 5, 1, 2, 3] 6 rfl⟩
  obtain ⟨⟨v10435, v10438, v10441⟩, rfl, s10436, s10439, s10442, rfl, f10443, hM⟩ := hR
  replace hP : Sh.trace_reader_mark_c6 x0 v8452 v8453 v8454 v10435 v10438 v10441 = _ := hK_c6
  unfold Sh.trace_reader_mark_c6 at hP
  replace hM : MemL _ (pt b8451 (RMark.enc (RMark.mk v8452 v8453 v8454 s10436 s10439 SV.nil SV.nil)) 60 :: rowL 0 s10436 128 v10435 :: rowL 0 s10439 151 v10438 :: pt b0 (RReader.enc (RReader.mk s10442 v10441.at_ v10441.place v10441.e)) 176 :: pt b_B118_2 (RMark.enc (RMark.mk 0 0 false SV.nil SV.nil SV.nil SV.nil)) 60 :: pt b_B118_1 [.pointer (some ⟨b0, 0, none⟩)] 174 :: Lr) := hM
  have hMs := hM
  refine ⟨_, _, hMs, hM, .inr (by kernel_rfl), fun a hF => ?_⟩
  refine d_end hch (by kernel_rfl) fun w hM => ?_
  refine n_then ?_
  refine c_seq ?_
  refine d_startT mixed (by kernel_rfl) hM [0, 1, 2, 4, 5] 6 rfl fun hch => ?_
  refine d_val hF hch 0 rfl (by kernel_rfl) rfl rfl rfl (fun w hM => (r_load1 Tryz.isAgg174 hF rfl rfl (hM.cell (i := 4) rfl rfl))) fun a hF => ?_
  refine d_val hF hch 1 rfl (by kernel_rfl) rfl rfl rfl (fun w hM => (r_load1 Tryz.isAgg174 hF rfl rfl (hM.cell (i := 4) rfl rfl))) fun a hF => ?_
  refine d_val hF hch 3 rfl (by kernel_rfl) rfl rfl rfl (fun w hM => (r_makeFunc hF (fs := []) (cs := [.tmp 1, .tmp 4]) rfl rfl rfl)) fun a hF => ?_
  refine d_one hch 2 (by kernel_rfl) rfl rfl ?_
  refine d_ex hF 2 rfl rfl rfl rfl rfl fun w hMs hM => ?_
  obtain ⟨y13271, hy13271, hP⟩ := bind_some hP
  refine (w_call (xs := [.tmp 28, .const (.int .i64 (4))]) Tryz.call113 hF rfl rfl (trace_reader_number_calls hy13271 (selM hM [3, 0, 1, 2, 4, 5] 6 rfl) (Bf := Bf) (fun w hM => hsub _ (dropM hM 5)) f10443) fun v w hR => ?_)
  obtain ⟨s13272, rfl, f13273, hM⟩ := hR
  replace hM : MemL _ (pt b0 (RReader.enc (RReader.mk s13272 y13271.2.at_ y13271.2.place y13271.2.e)) 176 :: pt b8451 (RMark.enc (RMark.mk v8452 v8453 v8454 s10436 s10439 SV.nil SV.nil)) 60 :: rowL 0 s10436 128 v10435 :: rowL 0 s10439 151 v10438 :: pt b_B118_2 (RMark.enc (RMark.mk 0 0 false SV.nil SV.nil SV.nil SV.nil)) 60 :: pt b_B118_1 [.pointer (some ⟨b0, 0, none⟩)] 174 :: Lr) := hM
  have hMs := selM hM [1, 2, 3, 4, 5] 6 rfl
  refine ⟨_, _, hMs, hM, .inl fun _ h => h, fun a hF => ?_⟩
  refine d_one hch 4 (by kernel_rfl) rfl rfl ?_
  refine d_ex hF 4 rfl rfl rfl rfl rfl fun w hMs hM => ?_
  obtain ⟨o_c10, hP, hK_c10⟩ := seq_some hP
  refine (w_call (xs := [.tmp 27, .tmp 29, .tmp 30]) Tryz.call114 hF rfl rfl (R := fun v w => ∃ x, o_c10 = .inl x ∧ match x with | (v14533, v14536, v14539, v14545) => ∃ (s14534 : SV) (s14537 : SV) (s14540 : SV) (hs14541 : List RPiece) (r14543 : Res) (s14546 : SV), v = .tuple #[] ∧ Each (QPieceIn r14543.holds') hs14541 v14539 ∧ LIn Bf s14546 v14545.b ∧ MemL w (pt b8451 (RMark.enc (RMark.mk v8452 v8453 v8454 s14534 s14537 s14540 SV.nil)) 60 :: rowL 0 s14534 128 v14533 :: rowL 0 s14537 151 v14536 :: rowL 0 s14540 156 hs14541 :: r14543 :: pt b0 (RReader.enc (RReader.mk s14546 v14545.at_ v14545.place v14545.e)) 176 :: pt b_B118_2 (RMark.enc (RMark.mk 0 0 false SV.nil SV.nil SV.nil SV.nil)) 60 :: pt b_B118_1 [.pointer (some ⟨b0, 0, none⟩)] 174 :: Lr)) ?_ fun v w hR => ?_)
  · refine calls_enter Tryz.func114 rfl Tryz.ntmps114 rfl fun a hF => ?_
    refine c_block ?_
    obtain ⟨r15401, hM⟩ := voidM hM
    have q15402 : Each (QPieceIn r15401.holds') ([] : List RPiece) ([] : List QPiece) := Each.nil
    have hM := hM.rowNil (X := RPiece) 0 156
    refine c_loopX hF hM hP (fun F x a w => match x with | (v15384, v15387, v15390, v15396, v15399) => ∃ (s15385 : SV) (s15388 : SV) (s15391 : SV) (hs15392 : List RPiece) (r15394 : Res) (s15397 : SV), Each (QPieceIn r15394.holds') hs15392 v15390 ∧ LIn Bf s15397 v15396.b ∧ Fr 19 [(1, .int .i64 v15399), (0, .pointer (some ⟨b0, 0, none⟩)), (2, .func (.func 188) [].toArray [.pointer (some ⟨b_B118_1, 0, none⟩), .pointer (some ⟨b8451, 0, none⟩)].toArray)] a ∧ MemL w (pt b8451 (RMark.enc (RMark.mk v8452 v8453 v8454 s15385 s15388 s15391 SV.nil)) 60 :: rowL 0 s15385 128 v15384 :: rowL 0 s15388 151 v15387 :: rowL 0 s15391 156 hs15392 :: r15394 :: pt b0 (RReader.enc (RReader.mk s15397 v15396.at_ v15396.place v15396.e)) 176 :: pt b_B118_2 (RMark.enc (RMark.mk 0 0 false SV.nil SV.nil SV.nil SV.nil)) 60 :: pt b_B118_1 [.pointer (some ⟨b0, 0, none⟩)] 174 :: Lr)) (fun hF hM => ⟨s10436, s10439, SV.nil, [], r15401, s13272, q15402, f13273, hF.to ⟨rfl, rfl, rfl, trivial⟩, selM hM [3, 4, 5, 0, 1, 2, 6, 7] 8 rfl⟩) ?_
    rintro ⟨v15384, v15387, v15390, v15396, v15399⟩ a w o_l11 hP hK_l11 ⟨s15385, s15388, s15391, hs15392, r15394, s15397, q15395, f15398, hF, hM⟩
    replace hP : Sh.trace_reader_mark_l11 v15384 v15387 v15390 v15396 v15399 = _ := hP
    unfold Sh.trace_reader_mark_l11 at hP
    refine c_seq ?_
    refine c_seq ?_
    refine c_joinX hF hM hP (fun F x a w => match x with | v15410 => Fr 19 [(14, .bool v15410), (0, .pointer (some ⟨b0, 0, none⟩)), (1, .int .i64 v15399), (2, .func (.func 188) [].toArray [.pointer (some ⟨b_B118_1, 0, none⟩), .pointer (some ⟨b8451, 0, none⟩)].toArray)] a ∧ MemL w (pt b8451 (RMark.enc (RMark.mk v8452 v8453 v8454 s15385 s15388 s15391 SV.nil)) 60 :: pt b0 (RReader.enc (RReader.mk s15397 v15396.at_ v15396.place v15396.e)) 176 :: pt b_B118_2 (RMark.enc (RMark.mk 0 0 false SV.nil SV.nil SV.nil SV.nil)) 60 :: pt b_B118_1 [.pointer (some ⟨b0, 0, none⟩)] 174 :: rowL 0 s15385 128 v15384 :: rowL 0 s15388 151 v15387 :: rowL 0 s15391 156 hs15392 :: r15394 :: Lr)) (fun o_j12 hP hK_j12 hF hM => ?_) ?_
    · refine c_region ?_
      refine s_val hF (r_move hF rfl rfl) rfl rfl rfl fun a hF => ?_
      refine s_val hF (r_gtr hF rfl rfl rfl) rfl rfl rfl fun a hF => ?_
      refine s_val hF (r_move hF rfl rfl) rfl rfl rfl fun a hF => ?_
      refine g_split 8 hF rfl (fun hb15411 => ?_) (fun hb15411 => ?_)
      · have hP := Fx.cT hb15411 hP
        refine g_val hF rfl rfl rfl hb15411 (r_move hF rfl rfl) rfl rfl fun a hF => ?_
        refine g_val hF rfl rfl rfl hb15411 (r_nilCheckP hF rfl rfl) rfl rfl fun a hF => ?_
        refine g_val hF rfl rfl rfl hb15411 (r_fieldAddr (off' := 3) Tryz.underlying176 rfl in34 rfl hF rfl rfl rfl) rfl rfl fun a hF => ?_
        refine g_val hF rfl rfl rfl hb15411 (r_load1 Tryz.isAgg34 hF rfl rfl (hM.cell (i := 5) rfl (RReader.g_e _))) rfl rfl fun a hF => ?_
        refine g_val hF rfl rfl rfl hb15411 (r_eql hF rfl rfl rfl) rfl rfl fun a hF => ?_
        refine s_val hF (r_pick1 hF rfl rfl hb15411 rfl) rfl rfl rfl fun a hF => ?_
        refine c_nil (n_then ?_)
        have hP := Option.some.inj hP
        subst hP
        exact ⟨(decide (v15396.e = 0)), rfl, hF.to ⟨rfl, rfl, rfl, rfl, trivial⟩, selM hM [0, 5, 6, 7, 1, 2, 3, 4] 8 rfl⟩
      have hP := Fx.cF hb15411 hP
      refine g_skip hF rfl rfl rfl hb15411 rfl rfl fun a hF => ?_
      refine g_skip hF rfl rfl rfl hb15411 rfl rfl fun a hF => ?_
      refine g_skip hF rfl rfl rfl hb15411 rfl rfl fun a hF => ?_
      refine g_skip hF rfl rfl rfl hb15411 rfl rfl fun a hF => ?_
      refine g_skip hF rfl rfl rfl hb15411 rfl rfl fun a hF => ?_
      refine s_val hF (r_pick0 hF rfl rfl hb15411 rfl) rfl rfl rfl fun a hF => ?_
      refine c_nil (n_then ?_)
      have hP := Option.some.inj hP
      subst hP
      exact ⟨false, rfl, hF.to ⟨rfl, rfl, rfl, rfl, trivial⟩, selM hM [0, 5, 6, 7, 1, 2, 3, 4] 8 rfl⟩
    rintro v15410 a w hP ⟨hF, hM⟩
    replace hP : Sh.trace_reader_mark_j12 v15384 v15387 v15390 v15396 v15399 v15410 = _ := hP
    unfold Sh.trace_reader_mark_j12 at hP
    refine n_then ?_
    refine c_cond hF (c := .tmp 14) rfl (fun hb15412 => ?_) (fun hb15412 => ?_)
    · have hP := Fx.cT hb15412 hP
      refine c_skip (n_then ?_)
      refine c_seq ?_
      refine c_block ?_
      refine c_region ?_
      refine s_val hF (r_move hF rfl rfl) rfl rfl rfl fun a hF => ?_
      obtain ⟨o_c13, hP, hK_c13⟩ := seq_some hP
      refine s_eff hF rfl rfl rfl (w_callF (xs := []) Tryz.call188 hF rfl rfl rfl (R := fun v w => ∃ x, o_c13 = .inl x ∧ match x with | (v15701, v15704, v15707, v15713) => ∃ (s15702 : SV) (s15705 : SV) (s15708 : SV) (hs15709 : List RPiece) (r15711 : Res) (s15714 : SV), v = .tuple #[] ∧ Each (QPieceIn r15711.holds') hs15709 v15707 ∧ LIn Bf s15714 v15713.b ∧ MemL w (pt b8451 (RMark.enc (RMark.mk v8452 v8453 v8454 s15702 s15705 s15708 SV.nil)) 60 :: rowL 0 s15702 128 v15701 :: rowL 0 s15705 151 v15704 :: rowL 0 s15708 156 hs15709 :: r15711 :: pt b0 (RReader.enc (RReader.mk s15714 v15713.at_ v15713.place v15713.e)) 176 :: pt b_B118_2 (RMark.enc (RMark.mk 0 0 false SV.nil SV.nil SV.nil SV.nil)) 60 :: pt b_B118_1 [.pointer (some ⟨b0, 0, none⟩)] 174 :: Lr)) ?_ fun v w hR => ?_)
      · refine calls_enter Tryz.func188 rfl Tryz.ntmps188 rfl fun a hF => ?_
        refine c_seq ?_
        refine c_joinX hF hM hP (fun F x a w => match x with | (v15735, v15736, v15737) => ∃ (b15734 : Nat) (s15738 : SV), LIn Bf s15738 v15737.b ∧ Fr 28 [(2, .pointer (some ⟨b15734, 0, none⟩)), (0, .pointer (some ⟨b_B118_1, 0, none⟩)), (1, .pointer (some ⟨b8451, 0, none⟩))] a ∧ MemL w (pt b15734 (RPiece.enc (RPiece.mk v15735 v15736 SV.nil SV.nil)) 156 :: pt b0 (RReader.enc (RReader.mk s15738 v15737.at_ v15737.place v15737.e)) 176 :: pt b8451 (RMark.enc (RMark.mk v8452 v8453 v8454 s15385 s15388 s15391 SV.nil)) 60 :: pt b_B118_2 (RMark.enc (RMark.mk 0 0 false SV.nil SV.nil SV.nil SV.nil)) 60 :: pt b_B118_1 [.pointer (some ⟨b0, 0, none⟩)] 174 :: rowL 0 s15385 128 v15384 :: rowL 0 s15388 151 v15387 :: rowL 0 s15391 156 hs15392 :: r15394 :: Lr)) (fun o_j14 hP hK_j14 hF hM => ?_) ?_
        · refine d_startT mixed (by kernel_rfl) hM [0, 2, 3, 4, 5, 6, 7] 8 rfl fun hch => ?_
          refine d_val hF hch 0 rfl (by kernel_rfl) rfl rfl rfl (fun w hM => (r_load1 Tryz.isAgg174 hF rfl rfl (hM.cell (i := 2) rfl rfl))) fun a hF => ?_
          refine d_val hF hch 3 rfl (by kernel_rfl) rfl rfl rfl (fun w hM => (r_load1 Tryz.isAgg174 hF rfl rfl (hM.cell (i := 2) rfl rfl))) fun a hF => ?_
          refine d_two hch 1 6 (by kernel_rfl) rfl rfl ?_ ?_
          · refine d_ex hF 1 rfl rfl rfl rfl rfl fun w hMs hM => ?_
            obtain ⟨y15741, hy15741, hP⟩ := bind_some hP
            refine (w_call (xs := [.tmp 4, .const (.int .i64 (1))]) Tryz.call113 hF rfl rfl (trace_reader_number_calls hy15741 (selM hM [1, 0, 2, 3, 4, 5, 6, 7] 8 rfl) (Bf := Bf) (fun w hM => hsub _ (dropM hM 7)) f15398) fun v w hR => ?_)
            obtain ⟨s15742, rfl, f15743, hM⟩ := hR
            replace hM : MemL _ (pt b0 (RReader.enc (RReader.mk s15742 y15741.2.at_ y15741.2.place y15741.2.e)) 176 :: pt b8451 (RMark.enc (RMark.mk v8452 v8453 v8454 s15385 s15388 s15391 SV.nil)) 60 :: pt b_B118_2 (RMark.enc (RMark.mk 0 0 false SV.nil SV.nil SV.nil SV.nil)) 60 :: pt b_B118_1 [.pointer (some ⟨b0, 0, none⟩)] 174 :: rowL 0 s15385 128 v15384 :: rowL 0 s15388 151 v15387 :: rowL 0 s15391 156 hs15392 :: r15394 :: Lr) := hM
            have hMs := selM hM [1, 2, 3, 4, 5, 6, 7] 8 rfl
            refine ⟨_, _, hMs, hM, .inl fun _ h => h, fun a hF => ?_⟩
            refine d_val hF hch 2 rfl (by kernel_rfl) rfl rfl rfl (fun w hM => (r_sub hF rfl rfl rfl)) fun a hF => ?_
            refine d_two hch 4 6 (by kernel_rfl) rfl rfl ?_ ?_
            · refine d_ex hF 4 rfl rfl rfl rfl rfl fun w hMs hM => ?_
              obtain ⟨y15745, hy15745, hP⟩ := bind_some hP
              refine (w_call (xs := [.tmp 7, .const (.int .i64 (2))]) Tryz.call113 hF rfl rfl (trace_reader_number_calls hy15745 hM (Bf := Bf) (fun w hM => hsub _ (dropM hM 7)) f15743) fun v w hR => ?_)
              obtain ⟨s15746, rfl, f15747, hM⟩ := hR
              replace hM : MemL _ (pt b0 (RReader.enc (RReader.mk s15746 y15745.2.at_ y15745.2.place y15745.2.e)) 176 :: pt b8451 (RMark.enc (RMark.mk v8452 v8453 v8454 s15385 s15388 s15391 SV.nil)) 60 :: pt b_B118_2 (RMark.enc (RMark.mk 0 0 false SV.nil SV.nil SV.nil SV.nil)) 60 :: pt b_B118_1 [.pointer (some ⟨b0, 0, none⟩)] 174 :: rowL 0 s15385 128 v15384 :: rowL 0 s15388 151 v15387 :: rowL 0 s15391 156 hs15392 :: r15394 :: Lr) := hM
              have hMs := selM hM [1, 2, 3, 4, 5, 6, 7] 8 rfl
              refine ⟨_, _, hMs, hM, .inl fun _ h => h, fun a hF => ?_⟩
              refine d_val hF hch 5 rfl (by kernel_rfl) rfl rfl rfl (fun w hM => (r_build z156 Tryz.underlying156 pl156 hF (parts := [(0, .tmp 6), (1, .tmp 8)]) rfl rfl (fill_s rfl rfl (by rw [RPiece.len]; decide) (RPiece.s_table _ _) (fill_s rfl rfl (by rw [RPiece.len]; decide) (RPiece.s_from_ _ _) fill_e)))) fun a hF => ?_
              refine d_one hch 6 (by kernel_rfl) rfl rfl ?_
              refine d_ex hF 6 rfl rfl rfl rfl rfl fun w hMs hM => ?_
              refine (w_alloc z156 (zs := RPiece.zero.enc) rfl rfl fun b_B188_2 w hzB188_2 hAB188_2 => ?_)
              have hM := hM.plus hAB188_2
              replace hM : MemL _ (pt b_B188_2 (RPiece.enc (RPiece.mk 0 0 SV.nil SV.nil)) 156 :: pt b0 (RReader.enc (RReader.mk s15746 y15745.2.at_ y15745.2.place y15745.2.e)) 176 :: pt b8451 (RMark.enc (RMark.mk v8452 v8453 v8454 s15385 s15388 s15391 SV.nil)) 60 :: pt b_B118_2 (RMark.enc (RMark.mk 0 0 false SV.nil SV.nil SV.nil SV.nil)) 60 :: pt b_B118_1 [.pointer (some ⟨b0, 0, none⟩)] 174 :: rowL 0 s15385 128 v15384 :: rowL 0 s15388 151 v15387 :: rowL 0 s15391 156 hs15392 :: r15394 :: Lr) := hM
              have hMs := selM hM [0, 2, 3, 4, 5, 6, 7, 8] 9 rfl
              refine ⟨_, _, hMs, hM, .inl fun _ h => dropM h 1, fun a hF => ?_⟩
              refine d_one hch 7 (by kernel_rfl) rfl rfl ?_
              refine d_ex0 7 rfl rfl rfl rfl fun w hMs hM => ?_
              refine (w_storen (vs := _) Tryz.sizeOf156 (hM.obj (i := 0) rfl) hF rfl rfl rfl rfl (RPiece.len _) (RPiece.one _) (by first | (rw [RPiece.len, RPiece.len]; decide) | (rw [RPiece.len]; decide)) (put_all ((RPiece.len _).trans (RPiece.len _).symm)) fun w hU15748 => ?_)
              have hM := hM.chg hU15748 (i := 0) rfl
              replace hM : MemL _ (pt b_B188_2 (RPiece.enc (RPiece.mk (IntKind.i64.wrap (y15741.1 - 1)) y15745.1 SV.nil SV.nil)) 156 :: pt b0 (RReader.enc (RReader.mk s15746 y15745.2.at_ y15745.2.place y15745.2.e)) 176 :: pt b8451 (RMark.enc (RMark.mk v8452 v8453 v8454 s15385 s15388 s15391 SV.nil)) 60 :: pt b_B118_2 (RMark.enc (RMark.mk 0 0 false SV.nil SV.nil SV.nil SV.nil)) 60 :: pt b_B118_1 [.pointer (some ⟨b0, 0, none⟩)] 174 :: rowL 0 s15385 128 v15384 :: rowL 0 s15388 151 v15387 :: rowL 0 s15391 156 hs15392 :: r15394 :: Lr) := hM
              have hMs := hM
              refine ⟨_, _, hMs, hM, .inr (by kernel_rfl), ?_⟩
              refine d_end hch (by kernel_rfl) fun w hM => ?_
              refine n_then ?_
              have hP := Option.some.inj hP
              subst hP
              exact ⟨((IntKind.i64.wrap (y15741.1 - 1)), y15745.1, y15745.2), rfl, b_B188_2, s15746, f15747, hF.to ⟨rfl, rfl, rfl, trivial⟩, hM⟩
            refine d_ex hF 6 rfl rfl rfl rfl rfl fun w hMs hM => ?_
            refine (w_alloc z156 (zs := RPiece.zero.enc) rfl rfl fun b_B188_2 w hzB188_2 hAB188_2 => ?_)
            have hM := hM.plus hAB188_2
            replace hM : MemL _ (pt b_B188_2 (RPiece.enc (RPiece.mk 0 0 SV.nil SV.nil)) 156 :: pt b0 (RReader.enc (RReader.mk s15742 y15741.2.at_ y15741.2.place y15741.2.e)) 176 :: pt b8451 (RMark.enc (RMark.mk v8452 v8453 v8454 s15385 s15388 s15391 SV.nil)) 60 :: pt b_B118_2 (RMark.enc (RMark.mk 0 0 false SV.nil SV.nil SV.nil SV.nil)) 60 :: pt b_B118_1 [.pointer (some ⟨b0, 0, none⟩)] 174 :: rowL 0 s15385 128 v15384 :: rowL 0 s15388 151 v15387 :: rowL 0 s15391 156 hs15392 :: r15394 :: Lr) := hM
            have hMs := selM hM [0, 2, 3, 4, 5, 6, 7, 8] 9 rfl
            refine ⟨_, _, hMs, hM, .inl fun _ h => dropM h 1, fun a hF => ?_⟩
            refine d_one hch 4 (by kernel_rfl) rfl rfl ?_
            refine d_ex hF 4 rfl rfl rfl rfl rfl fun w hMs hM => ?_
            obtain ⟨y15745, hy15745, hP⟩ := bind_some hP
            refine (w_call (xs := [.tmp 7, .const (.int .i64 (2))]) Tryz.call113 hF rfl rfl (trace_reader_number_calls hy15745 (selM hM [1, 0, 2, 3, 4, 5, 6, 7, 8] 9 rfl) (Bf := Bf) (fun w hM => hsub _ (dropM hM 8)) f15743) fun v w hR => ?_)
            obtain ⟨s15746, rfl, f15747, hM⟩ := hR
            replace hM : MemL _ (pt b0 (RReader.enc (RReader.mk s15746 y15745.2.at_ y15745.2.place y15745.2.e)) 176 :: pt b_B188_2 (RPiece.enc (RPiece.mk 0 0 SV.nil SV.nil)) 156 :: pt b8451 (RMark.enc (RMark.mk v8452 v8453 v8454 s15385 s15388 s15391 SV.nil)) 60 :: pt b_B118_2 (RMark.enc (RMark.mk 0 0 false SV.nil SV.nil SV.nil SV.nil)) 60 :: pt b_B118_1 [.pointer (some ⟨b0, 0, none⟩)] 174 :: rowL 0 s15385 128 v15384 :: rowL 0 s15388 151 v15387 :: rowL 0 s15391 156 hs15392 :: r15394 :: Lr) := hM
            have hMs := selM hM [1, 2, 3, 4, 5, 6, 7, 8] 9 rfl
            refine ⟨_, _, hMs, hM, .inl fun _ h => h, fun a hF => ?_⟩
            refine d_val hF hch 5 rfl (by kernel_rfl) rfl rfl rfl (fun w hM => (r_build z156 Tryz.underlying156 pl156 hF (parts := [(0, .tmp 6), (1, .tmp 8)]) rfl rfl (fill_s rfl rfl (by rw [RPiece.len]; decide) (RPiece.s_table _ _) (fill_s rfl rfl (by rw [RPiece.len]; decide) (RPiece.s_from_ _ _) fill_e)))) fun a hF => ?_
            refine d_one hch 7 (by kernel_rfl) rfl rfl ?_
            refine d_ex0 7 rfl rfl rfl rfl fun w hMs hM => ?_
            refine (w_storen (vs := _) Tryz.sizeOf156 (hM.obj (i := 1) rfl) hF rfl rfl rfl rfl (RPiece.len _) (RPiece.one _) (by first | (rw [RPiece.len, RPiece.len]; decide) | (rw [RPiece.len]; decide)) (put_all ((RPiece.len _).trans (RPiece.len _).symm)) fun w hU15748 => ?_)
            have hM := hM.chg hU15748 (i := 1) rfl
            replace hM : MemL _ (pt b0 (RReader.enc (RReader.mk s15746 y15745.2.at_ y15745.2.place y15745.2.e)) 176 :: pt b_B188_2 (RPiece.enc (RPiece.mk (IntKind.i64.wrap (y15741.1 - 1)) y15745.1 SV.nil SV.nil)) 156 :: pt b8451 (RMark.enc (RMark.mk v8452 v8453 v8454 s15385 s15388 s15391 SV.nil)) 60 :: pt b_B118_2 (RMark.enc (RMark.mk 0 0 false SV.nil SV.nil SV.nil SV.nil)) 60 :: pt b_B118_1 [.pointer (some ⟨b0, 0, none⟩)] 174 :: rowL 0 s15385 128 v15384 :: rowL 0 s15388 151 v15387 :: rowL 0 s15391 156 hs15392 :: r15394 :: Lr) := hM
            have hMs := hM
            refine ⟨_, _, hMs, hM, .inr (by kernel_rfl), ?_⟩
            refine d_end hch (by kernel_rfl) fun w hM => ?_
            refine n_then ?_
            have hP := Option.some.inj hP
            subst hP
            exact ⟨((IntKind.i64.wrap (y15741.1 - 1)), y15745.1, y15745.2), rfl, b_B188_2, s15746, f15747, hF.to ⟨rfl, rfl, rfl, trivial⟩, selM hM [1, 0, 2, 3, 4, 5, 6, 7, 8] 9 rfl⟩
          refine d_ex hF 6 rfl rfl rfl rfl rfl fun w hMs hM => ?_
          refine (w_alloc z156 (zs := RPiece.zero.enc) rfl rfl fun b_B188_2 w hzB188_2 hAB188_2 => ?_)
          have hM := hM.plus hAB188_2
          replace hM : MemL _ (pt b_B188_2 (RPiece.enc (RPiece.mk 0 0 SV.nil SV.nil)) 156 :: pt b8451 (RMark.enc (RMark.mk v8452 v8453 v8454 s15385 s15388 s15391 SV.nil)) 60 :: pt b0 (RReader.enc (RReader.mk s15397 v15396.at_ v15396.place v15396.e)) 176 :: pt b_B118_2 (RMark.enc (RMark.mk 0 0 false SV.nil SV.nil SV.nil SV.nil)) 60 :: pt b_B118_1 [.pointer (some ⟨b0, 0, none⟩)] 174 :: rowL 0 s15385 128 v15384 :: rowL 0 s15388 151 v15387 :: rowL 0 s15391 156 hs15392 :: r15394 :: Lr) := hM
          have hMs := selM hM [0, 1, 3, 4, 5, 6, 7, 8] 9 rfl
          refine ⟨_, _, hMs, hM, .inl fun _ h => dropM h 1, fun a hF => ?_⟩
          refine d_one hch 1 (by kernel_rfl) rfl rfl ?_
          refine d_ex hF 1 rfl rfl rfl rfl rfl fun w hMs hM => ?_
          obtain ⟨y15741, hy15741, hP⟩ := bind_some hP
          refine (w_call (xs := [.tmp 4, .const (.int .i64 (1))]) Tryz.call113 hF rfl rfl (trace_reader_number_calls hy15741 (selM hM [2, 0, 1, 3, 4, 5, 6, 7, 8] 9 rfl) (Bf := Bf) (fun w hM => hsub _ (dropM hM 8)) f15398) fun v w hR => ?_)
          obtain ⟨s15742, rfl, f15743, hM⟩ := hR
          replace hM : MemL _ (pt b0 (RReader.enc (RReader.mk s15742 y15741.2.at_ y15741.2.place y15741.2.e)) 176 :: pt b_B188_2 (RPiece.enc (RPiece.mk 0 0 SV.nil SV.nil)) 156 :: pt b8451 (RMark.enc (RMark.mk v8452 v8453 v8454 s15385 s15388 s15391 SV.nil)) 60 :: pt b_B118_2 (RMark.enc (RMark.mk 0 0 false SV.nil SV.nil SV.nil SV.nil)) 60 :: pt b_B118_1 [.pointer (some ⟨b0, 0, none⟩)] 174 :: rowL 0 s15385 128 v15384 :: rowL 0 s15388 151 v15387 :: rowL 0 s15391 156 hs15392 :: r15394 :: Lr) := hM
          have hMs := selM hM [1, 2, 3, 4, 5, 6, 7, 8] 9 rfl
          refine ⟨_, _, hMs, hM, .inl fun _ h => h, fun a hF => ?_⟩
          refine d_val hF hch 2 rfl (by kernel_rfl) rfl rfl rfl (fun w hM => (r_sub hF rfl rfl rfl)) fun a hF => ?_
          refine d_one hch 4 (by kernel_rfl) rfl rfl ?_
          refine d_ex hF 4 rfl rfl rfl rfl rfl fun w hMs hM => ?_
          obtain ⟨y15745, hy15745, hP⟩ := bind_some hP
          refine (w_call (xs := [.tmp 7, .const (.int .i64 (2))]) Tryz.call113 hF rfl rfl (trace_reader_number_calls hy15745 hM (Bf := Bf) (fun w hM => hsub _ (dropM hM 8)) f15743) fun v w hR => ?_)
          obtain ⟨s15746, rfl, f15747, hM⟩ := hR
          replace hM : MemL _ (pt b0 (RReader.enc (RReader.mk s15746 y15745.2.at_ y15745.2.place y15745.2.e)) 176 :: pt b_B188_2 (RPiece.enc (RPiece.mk 0 0 SV.nil SV.nil)) 156 :: pt b8451 (RMark.enc (RMark.mk v8452 v8453 v8454 s15385 s15388 s15391 SV.nil)) 60 :: pt b_B118_2 (RMark.enc (RMark.mk 0 0 false SV.nil SV.nil SV.nil SV.nil)) 60 :: pt b_B118_1 [.pointer (some ⟨b0, 0, none⟩)] 174 :: rowL 0 s15385 128 v15384 :: rowL 0 s15388 151 v15387 :: rowL 0 s15391 156 hs15392 :: r15394 :: Lr) := hM
          have hMs := selM hM [1, 2, 3, 4, 5, 6, 7, 8] 9 rfl
          refine ⟨_, _, hMs, hM, .inl fun _ h => h, fun a hF => ?_⟩
          refine d_val hF hch 5 rfl (by kernel_rfl) rfl rfl rfl (fun w hM => (r_build z156 Tryz.underlying156 pl156 hF (parts := [(0, .tmp 6), (1, .tmp 8)]) rfl rfl (fill_s rfl rfl (by rw [RPiece.len]; decide) (RPiece.s_table _ _) (fill_s rfl rfl (by rw [RPiece.len]; decide) (RPiece.s_from_ _ _) fill_e)))) fun a hF => ?_
          refine d_one hch 7 (by kernel_rfl) rfl rfl ?_
          refine d_ex0 7 rfl rfl rfl rfl fun w hMs hM => ?_
          refine (w_storen (vs := _) Tryz.sizeOf156 (hM.obj (i := 1) rfl) hF rfl rfl rfl rfl (RPiece.len _) (RPiece.one _) (by first | (rw [RPiece.len, RPiece.len]; decide) | (rw [RPiece.len]; decide)) (put_all ((RPiece.len _).trans (RPiece.len _).symm)) fun w hU15748 => ?_)
          have hM := hM.chg hU15748 (i := 1) rfl
          replace hM : MemL _ (pt b0 (RReader.enc (RReader.mk s15746 y15745.2.at_ y15745.2.place y15745.2.e)) 176 :: pt b_B188_2 (RPiece.enc (RPiece.mk (IntKind.i64.wrap (y15741.1 - 1)) y15745.1 SV.nil SV.nil)) 156 :: pt b8451 (RMark.enc (RMark.mk v8452 v8453 v8454 s15385 s15388 s15391 SV.nil)) 60 :: pt b_B118_2 (RMark.enc (RMark.mk 0 0 false SV.nil SV.nil SV.nil SV.nil)) 60 :: pt b_B118_1 [.pointer (some ⟨b0, 0, none⟩)] 174 :: rowL 0 s15385 128 v15384 :: rowL 0 s15388 151 v15387 :: rowL 0 s15391 156 hs15392 :: r15394 :: Lr) := hM
          have hMs := hM
          refine ⟨_, _, hMs, hM, .inr (by kernel_rfl), ?_⟩
          refine d_end hch (by kernel_rfl) fun w hM => ?_
          refine n_then ?_
          have hP := Option.some.inj hP
          subst hP
          exact ⟨((IntKind.i64.wrap (y15741.1 - 1)), y15745.1, y15745.2), rfl, b_B188_2, s15746, f15747, hF.to ⟨rfl, rfl, rfl, trivial⟩, selM hM [1, 0, 2, 3, 4, 5, 6, 7, 8] 9 rfl⟩
        rintro ⟨v15735, v15736, v15737⟩ a w hP ⟨b15734, s15738, f15739, hF, hM⟩
        replace hP : Sh.trace_reader_mark_j14 v15384 v15387 v15390 v15735 v15736 v15737 = _ := hP
        unfold Sh.trace_reader_mark_j14 at hP
        refine n_then ?_
        refine c_seq ?_
        refine c_region ?_
        refine s_val hF (r_load1 Tryz.isAgg174 hF rfl rfl (hM.cell (i := 4) rfl rfl)) rfl rfl rfl fun a hF => ?_
        obtain ⟨y15750, hy15750, hP⟩ := bind_some hP
        refine s_eff hF rfl rfl rfl (w_call (xs := [.tmp 10, .const (.int .i64 (2))]) Tryz.call113 hF rfl rfl (trace_reader_number_calls hy15750 (selM hM [1, 0, 2, 3, 4, 5, 6, 7, 8] 9 rfl) (Bf := Bf) (fun w hM => hsub _ (dropM hM 8)) f15739) fun v w hR => ?_)
        obtain ⟨s15751, rfl, f15752, hM⟩ := hR
        replace hM : MemL _ (pt b0 (RReader.enc (RReader.mk s15751 y15750.2.at_ y15750.2.place y15750.2.e)) 176 :: pt b15734 (RPiece.enc (RPiece.mk v15735 v15736 SV.nil SV.nil)) 156 :: pt b8451 (RMark.enc (RMark.mk v8452 v8453 v8454 s15385 s15388 s15391 SV.nil)) 60 :: pt b_B118_2 (RMark.enc (RMark.mk 0 0 false SV.nil SV.nil SV.nil SV.nil)) 60 :: pt b_B118_1 [.pointer (some ⟨b0, 0, none⟩)] 174 :: rowL 0 s15385 128 v15384 :: rowL 0 s15388 151 v15387 :: rowL 0 s15391 156 hs15392 :: r15394 :: Lr) := hM
        intro a hF
        refine s_val hF (r_assign hF rfl rfl) rfl rfl rfl fun a hF => ?_
        refine c_nil (n_then ?_)
        refine c_seq ?_
        refine d_startT mixed (by kernel_rfl) hM [1, 2, 3, 4, 5, 6, 7, 8] 9 rfl fun hch => ?_
        refine d_val hF hch 0 rfl (by kernel_rfl) rfl rfl rfl (fun w hM => (r_load1 Tryz.isAgg174 hF rfl rfl (hM.cell (i := 3) rfl rfl))) fun a hF => ?_
        refine d_val hF hch 1 rfl (by kernel_rfl) rfl rfl rfl (fun w hM => (r_move hF rfl rfl)) fun a hF => ?_
        refine d_val hF hch 4 rfl (by kernel_rfl) rfl rfl rfl (fun w hM => (r_load1 Tryz.isAgg174 hF rfl rfl (hM.cell (i := 3) rfl rfl))) fun a hF => ?_
        refine d_val hF hch 5 rfl (by kernel_rfl) rfl rfl rfl (fun w hM => (r_move hF rfl rfl)) fun a hF => ?_
        refine d_one hch 2 (by kernel_rfl) rfl rfl ?_
        refine d_ex hF 2 rfl rfl rfl rfl rfl fun w hMs hM => ?_
        obtain ⟨y15776, hy15776, hP⟩ := bind_some hP
        refine (w_call (xs := [.tmp 12, .tmp 13]) Tryz.call111 hF rfl rfl (trace_reader_take_calls hy15776 hM (Bf := Bf) (fun w hM => hsub _ (dropM hM 8)) f15752) fun v w hR => ?_)
        obtain ⟨s15777, s15779, rfl, f15778, f15780, hM⟩ := hR
        replace hM : MemL _ (pt b0 (RReader.enc (RReader.mk s15779 y15776.2.at_ y15776.2.place y15776.2.e)) 176 :: pt b15734 (RPiece.enc (RPiece.mk v15735 v15736 SV.nil SV.nil)) 156 :: pt b8451 (RMark.enc (RMark.mk v8452 v8453 v8454 s15385 s15388 s15391 SV.nil)) 60 :: pt b_B118_2 (RMark.enc (RMark.mk 0 0 false SV.nil SV.nil SV.nil SV.nil)) 60 :: pt b_B118_1 [.pointer (some ⟨b0, 0, none⟩)] 174 :: rowL 0 s15385 128 v15384 :: rowL 0 s15388 151 v15387 :: rowL 0 s15391 156 hs15392 :: r15394 :: Lr) := hM
        have hMs := selM hM [1, 2, 3, 4, 5, 6, 7, 8] 9 rfl
        refine ⟨_, _, hMs, hM, .inl fun _ h => h, fun a hF => ?_⟩
        refine d_one hch 3 (by kernel_rfl) rfl rfl ?_
        refine d_ex hF 3 rfl rfl rfl rfl rfl fun w hMs hM => ?_
        obtain ⟨y15782, hy15782, hP⟩ := bind_some hP
        refine (w_call (xs := [.tmp 14]) Tryz.call73 hF rfl rfl (bytes_Clone_calls hy15782 hM (Bf := Bf) (fun w hM => hsub _ (dropM hM 9)) f15778) fun v w hR => ?_)
        obtain ⟨s15783, rfl, hM⟩ := hR
        replace hM : MemL _ (rowL 0 s15783 5 y15782 :: pt b0 (RReader.enc (RReader.mk s15779 y15776.2.at_ y15776.2.place y15776.2.e)) 176 :: pt b15734 (RPiece.enc (RPiece.mk v15735 v15736 SV.nil SV.nil)) 156 :: pt b8451 (RMark.enc (RMark.mk v8452 v8453 v8454 s15385 s15388 s15391 SV.nil)) 60 :: pt b_B118_2 (RMark.enc (RMark.mk 0 0 false SV.nil SV.nil SV.nil SV.nil)) 60 :: pt b_B118_1 [.pointer (some ⟨b0, 0, none⟩)] 174 :: rowL 0 s15385 128 v15384 :: rowL 0 s15388 151 v15387 :: rowL 0 s15391 156 hs15392 :: r15394 :: Lr) := hM
        have hMs := selM hM [0, 2, 3, 4, 5, 6, 7, 8, 9] 10 rfl
        refine ⟨_, _, hMs, hM, .inl fun _ h => dropM h 1, fun a hF => ?_⟩
        refine d_val hF hch 8 rfl (by kernel_rfl) rfl rfl rfl (fun w hM => (r_fieldAddr (off' := 2) Tryz.underlying156 rfl in23 rfl hF rfl rfl rfl)) fun a hF => ?_
        refine d_one hch 6 (by kernel_rfl) rfl rfl ?_
        refine d_ex hF 6 rfl rfl rfl rfl rfl fun w hMs hM => ?_
        obtain ⟨y15786, hy15786, hP⟩ := bind_some hP
        refine (w_call (xs := [.tmp 16, .tmp 17]) Tryz.call111 hF rfl rfl (trace_reader_take_calls hy15786 (selM hM [1, 0, 2, 3, 4, 5, 6, 7, 8, 9] 10 rfl) (Bf := Bf) (fun w hM => hsub _ (dropM hM 9)) f15780) fun v w hR => ?_)
        obtain ⟨s15787, s15789, rfl, f15788, f15790, hM⟩ := hR
        replace hM : MemL _ (pt b0 (RReader.enc (RReader.mk s15789 y15786.2.at_ y15786.2.place y15786.2.e)) 176 :: rowL 0 s15783 5 y15782 :: pt b15734 (RPiece.enc (RPiece.mk v15735 v15736 SV.nil SV.nil)) 156 :: pt b8451 (RMark.enc (RMark.mk v8452 v8453 v8454 s15385 s15388 s15391 SV.nil)) 60 :: pt b_B118_2 (RMark.enc (RMark.mk 0 0 false SV.nil SV.nil SV.nil SV.nil)) 60 :: pt b_B118_1 [.pointer (some ⟨b0, 0, none⟩)] 174 :: rowL 0 s15385 128 v15384 :: rowL 0 s15388 151 v15387 :: rowL 0 s15391 156 hs15392 :: r15394 :: Lr) := hM
        have hMs := selM hM [1, 2, 3, 4, 5, 6, 7, 8, 9] 10 rfl
        refine ⟨_, _, hMs, hM, .inl fun _ h => h, fun a hF => ?_⟩
        refine d_one hch 7 (by kernel_rfl) rfl rfl ?_
        refine d_ex hF 7 rfl rfl rfl rfl rfl fun w hMs hM => ?_
        obtain ⟨y15792, hy15792, hP⟩ := bind_some hP
        refine (w_call (xs := [.tmp 18]) Tryz.call73 hF rfl rfl (bytes_Clone_calls hy15792 hM (Bf := Bf) (fun w hM => hsub _ (dropM hM 10)) f15788) fun v w hR => ?_)
        obtain ⟨s15793, rfl, hM⟩ := hR
        replace hM : MemL _ (rowL 0 s15793 5 y15792 :: pt b0 (RReader.enc (RReader.mk s15789 y15786.2.at_ y15786.2.place y15786.2.e)) 176 :: rowL 0 s15783 5 y15782 :: pt b15734 (RPiece.enc (RPiece.mk v15735 v15736 SV.nil SV.nil)) 156 :: pt b8451 (RMark.enc (RMark.mk v8452 v8453 v8454 s15385 s15388 s15391 SV.nil)) 60 :: pt b_B118_2 (RMark.enc (RMark.mk 0 0 false SV.nil SV.nil SV.nil SV.nil)) 60 :: pt b_B118_1 [.pointer (some ⟨b0, 0, none⟩)] 174 :: rowL 0 s15385 128 v15384 :: rowL 0 s15388 151 v15387 :: rowL 0 s15391 156 hs15392 :: r15394 :: Lr) := hM
        have hMs := selM hM [0, 2, 3, 4, 5, 6, 7, 8, 9, 10] 11 rfl
        refine ⟨_, _, hMs, hM, .inl fun _ h => dropM h 1, fun a hF => ?_⟩
        refine d_one hch 9 (by kernel_rfl) rfl rfl ?_
        refine d_ex0 9 rfl rfl rfl rfl fun w hMs hM => ?_
        refine (w_store1 Tryz.sizeOf23 (hM.obj (i := 3) rfl) hF rfl rfl rfl rfl (by rw [RPiece.len]; decide) (RPiece.s_old _ _) fun w hU15795 => ?_)
        have hM := hM.chg hU15795 (i := 3) rfl
        replace hM : MemL _ (rowL 0 s15793 5 y15792 :: pt b0 (RReader.enc (RReader.mk s15789 y15786.2.at_ y15786.2.place y15786.2.e)) 176 :: rowL 0 s15783 5 y15782 :: pt b15734 (RPiece.enc (RPiece.mk v15735 v15736 s15783 SV.nil)) 156 :: pt b8451 (RMark.enc (RMark.mk v8452 v8453 v8454 s15385 s15388 s15391 SV.nil)) 60 :: pt b_B118_2 (RMark.enc (RMark.mk 0 0 false SV.nil SV.nil SV.nil SV.nil)) 60 :: pt b_B118_1 [.pointer (some ⟨b0, 0, none⟩)] 174 :: rowL 0 s15385 128 v15384 :: rowL 0 s15388 151 v15387 :: rowL 0 s15391 156 hs15392 :: r15394 :: Lr) := hM
        have hMs := hM
        refine ⟨_, _, hMs, hM, .inr (by kernel_rfl), ?_⟩
        refine d_val hF hch 10 rfl (by kernel_rfl) rfl rfl rfl (fun w hM => (r_fieldAddr (off' := 3) Tryz.underlying156 rfl in23 rfl hF rfl rfl rfl)) fun a hF => ?_
        refine d_one hch 11 (by kernel_rfl) rfl rfl ?_
        refine d_ex0 11 rfl rfl rfl rfl fun w hMs hM => ?_
        refine (w_store1 Tryz.sizeOf23 (hM.obj (i := 3) rfl) hF rfl rfl rfl rfl (by rw [RPiece.len]; decide) (RPiece.s_new _ _) fun w hU15796 => ?_)
        have hM := hM.chg hU15796 (i := 3) rfl
        replace hM : MemL _ (rowL 0 s15793 5 y15792 :: pt b0 (RReader.enc (RReader.mk s15789 y15786.2.at_ y15786.2.place y15786.2.e)) 176 :: rowL 0 s15783 5 y15782 :: pt b15734 (RPiece.enc (RPiece.mk v15735 v15736 s15783 s15793)) 156 :: pt b8451 (RMark.enc (RMark.mk v8452 v8453 v8454 s15385 s15388 s15391 SV.nil)) 60 :: pt b_B118_2 (RMark.enc (RMark.mk 0 0 false SV.nil SV.nil SV.nil SV.nil)) 60 :: pt b_B118_1 [.pointer (some ⟨b0, 0, none⟩)] 174 :: rowL 0 s15385 128 v15384 :: rowL 0 s15388 151 v15387 :: rowL 0 s15391 156 hs15392 :: r15394 :: Lr) := hM
        have hMs := hM
        refine ⟨_, _, hMs, hM, .inr (by kernel_rfl), ?_⟩
        refine d_end hch (by kernel_rfl) fun w hM => ?_
        refine n_then ?_
        refine c_region ?_
        refine s_val hF (r_fieldAddr (off' := 5) Tryz.underlying60 rfl in58 rfl hF rfl rfl rfl) rfl rfl rfl fun a hF => ?_
        refine s_val hF (r_load1 Tryz.isAgg58 hF rfl rfl (hM.cell (i := 4) rfl (RMark.g_pieces _))) rfl rfl rfl fun a hF => ?_
        refine s_val hF (r_loadn Tryz.isAgg156 Tryz.sizeOf156 hF rfl rfl (RPiece.len _) (hM.cells (i := 3) rfl (cut_all (RPiece.len _)))) rfl rfl rfl fun a hF => ?_
        refine s_eff hF rfl rfl rfl (w_slice1 (X := RPiece) (y := (RPiece.mk v15735 v15736 s15783 s15793)) Tryz.underlying58 in156 rfl rfl rfl rfl hF rfl rfl rfl fun b_B188_25 w hzB188_25 hAB188_25 => ?_)
        have hM := hM.plus hAB188_25
        replace hM : MemL _ (pt b_B188_25 (encs ([(RPiece.mk v15735 v15736 s15783 s15793)] : List RPiece)) 156 :: rowL 0 s15793 5 y15792 :: pt b0 (RReader.enc (RReader.mk s15789 y15786.2.at_ y15786.2.place y15786.2.e)) 176 :: rowL 0 s15783 5 y15782 :: pt b15734 (RPiece.enc (RPiece.mk v15735 v15736 s15783 s15793)) 156 :: pt b8451 (RMark.enc (RMark.mk v8452 v8453 v8454 s15385 s15388 s15391 SV.nil)) 60 :: pt b_B118_2 (RMark.enc (RMark.mk 0 0 false SV.nil SV.nil SV.nil SV.nil)) 60 :: pt b_B118_1 [.pointer (some ⟨b0, 0, none⟩)] 174 :: rowL 0 s15385 128 v15384 :: rowL 0 s15388 151 v15387 :: rowL 0 s15391 156 hs15392 :: r15394 :: Lr) := hM
        intro a hF
        obtain ⟨x15798, hx15798, hP⟩ := bind_some hP
        refine s_eff hF rfl rfl rfl (w_appD (X := RPiece) hx15798 q15395.len rfl Tryz.underlying58 in156 rfl rfl rfl rfl hF rfl rfl rfl (hM.own (X := RPiece) (i := 10) rfl) (hM.ptS (X := RPiece) (i := 0) (n := 1) (c := 1) rfl rfl rfl (Nat.le_refl _)) fun s15797 w hUs15797 => ?_)
        have hM := hM.chg hUs15797 (i := 10) rfl
        replace hM : MemL _ (pt b_B188_25 (encs ([(RPiece.mk v15735 v15736 s15783 s15793)] : List RPiece)) 156 :: rowL 0 s15793 5 y15792 :: pt b0 (RReader.enc (RReader.mk s15789 y15786.2.at_ y15786.2.place y15786.2.e)) 176 :: rowL 0 s15783 5 y15782 :: pt b15734 (RPiece.enc (RPiece.mk v15735 v15736 s15783 s15793)) 156 :: pt b8451 (RMark.enc (RMark.mk v8452 v8453 v8454 s15385 s15388 s15391 SV.nil)) 60 :: pt b_B118_2 (RMark.enc (RMark.mk 0 0 false SV.nil SV.nil SV.nil SV.nil)) 60 :: pt b_B118_1 [.pointer (some ⟨b0, 0, none⟩)] 174 :: rowL 0 s15385 128 v15384 :: rowL 0 s15388 151 v15387 :: rowL 0 s15797 156 (hs15392 ++ [(RPiece.mk v15735 v15736 s15783 s15793)]) :: r15394 :: Lr) := hM
        obtain ⟨r15799, hj15800, hj15801, hM⟩ := joinM (selM hM [11, 3, 0, 1, 2, 4, 5, 6, 7, 8, 9, 10] 12 rfl)
        replace hM : MemL _ (r15799 :: pt b_B188_25 (encs ([(RPiece.mk v15735 v15736 s15783 s15793)] : List RPiece)) 156 :: rowL 0 s15793 5 y15792 :: pt b0 (RReader.enc (RReader.mk s15789 y15786.2.at_ y15786.2.place y15786.2.e)) 176 :: pt b15734 (RPiece.enc (RPiece.mk v15735 v15736 s15783 s15793)) 156 :: pt b8451 (RMark.enc (RMark.mk v8452 v8453 v8454 s15385 s15388 s15391 SV.nil)) 60 :: pt b_B118_2 (RMark.enc (RMark.mk 0 0 false SV.nil SV.nil SV.nil SV.nil)) 60 :: pt b_B118_1 [.pointer (some ⟨b0, 0, none⟩)] 174 :: rowL 0 s15385 128 v15384 :: rowL 0 s15388 151 v15387 :: rowL 0 s15797 156 (hs15392 ++ [(RPiece.mk v15735 v15736 s15783 s15793)]) :: Lr) := hM
        obtain ⟨r15802, hj15803, hj15804, hM⟩ := joinM (selM hM [0, 2, 1, 3, 4, 5, 6, 7, 8, 9, 10] 11 rfl)
        replace hM : MemL _ (r15802 :: pt b_B188_25 (encs ([(RPiece.mk v15735 v15736 s15783 s15793)] : List RPiece)) 156 :: pt b0 (RReader.enc (RReader.mk s15789 y15786.2.at_ y15786.2.place y15786.2.e)) 176 :: pt b15734 (RPiece.enc (RPiece.mk v15735 v15736 s15783 s15793)) 156 :: pt b8451 (RMark.enc (RMark.mk v8452 v8453 v8454 s15385 s15388 s15391 SV.nil)) 60 :: pt b_B118_2 (RMark.enc (RMark.mk 0 0 false SV.nil SV.nil SV.nil SV.nil)) 60 :: pt b_B118_1 [.pointer (some ⟨b0, 0, none⟩)] 174 :: rowL 0 s15385 128 v15384 :: rowL 0 s15388 151 v15387 :: rowL 0 s15797 156 (hs15392 ++ [(RPiece.mk v15735 v15736 s15783 s15793)]) :: Lr) := hM
        have q15805 : Each (QPieceIn r15802.holds') (hs15392 ++ [(RPiece.mk v15735 v15736 s15783 s15793)]) x15798 := by rw [(app_some hx15798).2]; exact (q15395.mono fun _ _ q => q.mono (fun w h => hj15800 w (hj15803 w h))).snoc ⟨s15783, s15793, rfl, (fun w h => row_in (X := UInt8) (e := 5) ((fun w h => hj15801 w (hj15803 w h)) w h)), (fun w h => row_in (X := UInt8) (e := 5) (hj15804 w h))⟩
        replace hM : MemL _ (r15802 :: pt b_B188_25 (encs ([(RPiece.mk v15735 v15736 s15783 s15793)] : List RPiece)) 156 :: pt b0 (RReader.enc (RReader.mk s15789 y15786.2.at_ y15786.2.place y15786.2.e)) 176 :: pt b15734 (RPiece.enc (RPiece.mk v15735 v15736 s15783 s15793)) 156 :: pt b8451 (RMark.enc (RMark.mk v8452 v8453 v8454 s15385 s15388 s15391 SV.nil)) 60 :: pt b_B118_2 (RMark.enc (RMark.mk 0 0 false SV.nil SV.nil SV.nil SV.nil)) 60 :: pt b_B118_1 [.pointer (some ⟨b0, 0, none⟩)] 174 :: rowL 0 s15385 128 v15384 :: rowL 0 s15388 151 v15387 :: rowL 0 s15797 156 (hs15392 ++ [(RPiece.mk v15735 v15736 s15783 s15793)]) :: Lr) := hM
        intro a hF
        refine s_val hF (r_fieldAddr (off' := 5) Tryz.underlying60 rfl in58 rfl hF rfl rfl rfl) rfl rfl rfl fun a hF => ?_
        refine s_eff0 rfl rfl (w_store1 Tryz.sizeOf58 (hM.obj (i := 4) rfl) hF rfl rfl rfl rfl (by rw [RMark.len]; decide) (RMark.s_pieces _ _) fun w hU15806 => ?_)
        have hM := hM.chg hU15806 (i := 4) rfl
        replace hM : MemL _ (r15802 :: pt b_B188_25 (encs ([(RPiece.mk v15735 v15736 s15783 s15793)] : List RPiece)) 156 :: pt b0 (RReader.enc (RReader.mk s15789 y15786.2.at_ y15786.2.place y15786.2.e)) 176 :: pt b15734 (RPiece.enc (RPiece.mk v15735 v15736 s15783 s15793)) 156 :: pt b8451 (RMark.enc (RMark.mk v8452 v8453 v8454 s15385 s15388 s15797 SV.nil)) 60 :: pt b_B118_2 (RMark.enc (RMark.mk 0 0 false SV.nil SV.nil SV.nil SV.nil)) 60 :: pt b_B118_1 [.pointer (some ⟨b0, 0, none⟩)] 174 :: rowL 0 s15385 128 v15384 :: rowL 0 s15388 151 v15387 :: rowL 0 s15797 156 (hs15392 ++ [(RPiece.mk v15735 v15736 s15783 s15793)]) :: Lr) := hM
        refine c_nil ?_
        have hP := Option.some.inj hP
        subst hP
        refine e_end0 Tryz.results188 hF ?_
        exact ⟨(v15384, v15387, x15798, y15786.2), rfl, s15385, s15388, s15797, (hs15392 ++ [(RPiece.mk v15735 v15736 s15783 s15793)]), r15802, s15789, rfl, q15805, f15790, selM hM [4, 7, 8, 9, 0, 2, 5, 6] 10 rfl⟩
      obtain ⟨⟨v15701, v15704, v15707, v15713⟩, rfl, s15702, s15705, s15708, hs15709, r15711, s15714, rfl, q15712, f15715, hM⟩ := hR
      replace hP : Sh.trace_reader_mark_c13 v15399 v15701 v15704 v15707 v15713 = _ := hK_c13
      unfold Sh.trace_reader_mark_c13 at hP
      intro a hF
      refine c_nil (n_block (n_then ?_))
      refine c_region ?_
      refine s_val hF (r_move hF rfl rfl) rfl rfl rfl fun a hF => ?_
      refine s_val hF (r_sub hF rfl rfl rfl) rfl rfl rfl fun a hF => ?_
      refine s_val hF (r_assign hF rfl rfl) rfl rfl rfl fun a hF => ?_
      refine c_nil (n_then ?_)
      have hP := Option.some.inj hP
      subst hP
      exact ⟨(v15701, v15704, v15707, v15713, (IntKind.i64.wrap (v15399 - 1))), rfl, s15702, s15705, s15708, hs15709, r15711, s15714, q15712, f15715, hF.to ⟨rfl, rfl, rfl, trivial⟩, hM⟩
    have hP := Fx.cF hb15412 hP
    refine c_exit (x_then (x_then (x_hit ?_)))
    have hP := Option.some.inj hP
    subst hP
    have hP := hK_l11 _ rfl
    subst hP
    refine e_end0 Tryz.results114 hF ?_
    exact ⟨(v15384, v15387, v15390, v15396), rfl, s15385, s15388, s15391, hs15392, r15394, s15397, rfl, q15395, f15398, selM hM [0, 4, 5, 6, 7, 1, 2, 3] 8 rfl⟩
  obtain ⟨⟨v14533, v14536, v14539, v14545⟩, rfl, s14534, s14537, s14540, hs14541, r14543, s14546, rfl, q14544, f14547, hM⟩ := hR
  replace hP : Sh.trace_reader_mark_c10 x0 v8452 v8453 v8454 v14533 v14536 v14539 v14545 = _ := hK_c10
  unfold Sh.trace_reader_mark_c10 at hP
  replace hM : MemL _ (pt b8451 (RMark.enc (RMark.mk v8452 v8453 v8454 s14534 s14537 s14540 SV.nil)) 60 :: rowL 0 s14534 128 v14533 :: rowL 0 s14537 151 v14536 :: rowL 0 s14540 156 hs14541 :: r14543 :: pt b0 (RReader.enc (RReader.mk s14546 v14545.at_ v14545.place v14545.e)) 176 :: pt b_B118_2 (RMark.enc (RMark.mk 0 0 false SV.nil SV.nil SV.nil SV.nil)) 60 :: pt b_B118_1 [.pointer (some ⟨b0, 0, none⟩)] 174 :: Lr) := hM
  have hMs := hM
  refine ⟨_, _, hMs, hM, .inr (by kernel_rfl), fun a hF => ?_⟩
  refine d_end hch (by kernel_rfl) fun w hM => ?_
  refine n_then ?_
  refine c_seq ?_
  refine d_startT mixed (by kernel_rfl) hM [0, 1, 2, 3, 4, 6, 7] 8 rfl fun hch => ?_
  refine d_val hF hch 0 rfl (by kernel_rfl) rfl rfl rfl (fun w hM => (r_load1 Tryz.isAgg174 hF rfl rfl (hM.cell (i := 6) rfl rfl))) fun a hF => ?_
  refine d_val hF hch 1 rfl (by kernel_rfl) rfl rfl rfl (fun w hM => (r_load1 Tryz.isAgg174 hF rfl rfl (hM.cell (i := 6) rfl rfl))) fun a hF => ?_
  refine d_val hF hch 3 rfl (by kernel_rfl) rfl rfl rfl (fun w hM => (r_makeFunc hF (fs := []) (cs := [.tmp 4, .tmp 1]) rfl rfl rfl)) fun a hF => ?_
  refine d_one hch 2 (by kernel_rfl) rfl rfl ?_
  refine d_ex hF 2 rfl rfl rfl rfl rfl fun w hMs hM => ?_
  obtain ⟨y16309, hy16309, hP⟩ := bind_some hP
  refine (w_call (xs := [.tmp 33, .const (.int .i64 (1))]) Tryz.call113 hF rfl rfl (trace_reader_number_calls hy16309 (selM hM [5, 0, 1, 2, 3, 4, 6, 7] 8 rfl) (Bf := Bf) (fun w hM => hsub _ (dropM hM 7)) f14547) fun v w hR => ?_)
  obtain ⟨s16310, rfl, f16311, hM⟩ := hR
  replace hM : MemL _ (pt b0 (RReader.enc (RReader.mk s16310 y16309.2.at_ y16309.2.place y16309.2.e)) 176 :: pt b8451 (RMark.enc (RMark.mk v8452 v8453 v8454 s14534 s14537 s14540 SV.nil)) 60 :: rowL 0 s14534 128 v14533 :: rowL 0 s14537 151 v14536 :: rowL 0 s14540 156 hs14541 :: r14543 :: pt b_B118_2 (RMark.enc (RMark.mk 0 0 false SV.nil SV.nil SV.nil SV.nil)) 60 :: pt b_B118_1 [.pointer (some ⟨b0, 0, none⟩)] 174 :: Lr) := hM
  have hMs := selM hM [1, 2, 3, 4, 5, 6, 7] 8 rfl
  refine ⟨_, _, hMs, hM, .inl fun _ h => h, fun a hF => ?_⟩
  refine d_one hch 4 (by kernel_rfl) rfl rfl ?_
  refine d_ex hF 4 rfl rfl rfl rfl rfl fun w hMs hM => ?_
  obtain ⟨o_c15, hP, hK_c15⟩ := seq_some hP
  refine (w_call (xs := [.tmp 32, .tmp 34, .tmp 35]) Tryz.call114 hF rfl rfl (R := fun v w => ∃ x, o_c15 = .inl x ∧ match x with | (v16553, v16565) => ∃ (s16554 : SV) (s16556 : SV) (s16558 : SV) (hs16559 : List RPiece) (r16561 : Res) (s16563 : SV) (s16566 : SV), v = .tuple #[] ∧ Each (QPieceIn r16561.holds') hs16559 v16553.pieces ∧ LIn Bf s16566 v16565.b ∧ MemL w (pt b8451 (RMark.enc (RMark.mk v16553.at_ v16553.next v16553.done s16554 s16556 s16558 s16563)) 60 :: rowL 0 s16554 128 v16553.regs :: rowL 0 s16556 151 v16553.slots :: rowL 0 s16558 156 hs16559 :: r16561 :: rowL 0 s16563 3 v16553.sent :: pt b0 (RReader.enc (RReader.mk s16566 v16565.at_ v16565.place v16565.e)) 176 :: pt b_B118_2 (RMark.enc (RMark.mk 0 0 false SV.nil SV.nil SV.nil SV.nil)) 60 :: pt b_B118_1 [.pointer (some ⟨b0, 0, none⟩)] 174 :: Lr)) ?_ fun v w hR => ?_)
  · refine calls_enter Tryz.func114 rfl Tryz.ntmps114 rfl fun a hF => ?_
    refine c_block ?_
    have hM := hM.rowNil (X := Int) 0 3
    refine c_loopX hF hM hP (fun F x a w => match x with | (v16724, v16736, v16739) => ∃ (s16725 : SV) (s16727 : SV) (s16729 : SV) (hs16730 : List RPiece) (r16732 : Res) (s16734 : SV) (s16737 : SV), Each (QPieceIn r16732.holds') hs16730 v16724.pieces ∧ LIn Bf s16737 v16736.b ∧ Fr 19 [(1, .int .i64 v16739), (0, .pointer (some ⟨b0, 0, none⟩)), (2, .func (.func 189) [].toArray [.pointer (some ⟨b8451, 0, none⟩), .pointer (some ⟨b_B118_1, 0, none⟩)].toArray)] a ∧ MemL w (pt b8451 (RMark.enc (RMark.mk v16724.at_ v16724.next v16724.done s16725 s16727 s16729 s16734)) 60 :: rowL 0 s16725 128 v16724.regs :: rowL 0 s16727 151 v16724.slots :: rowL 0 s16729 156 hs16730 :: r16732 :: rowL 0 s16734 3 v16724.sent :: pt b0 (RReader.enc (RReader.mk s16737 v16736.at_ v16736.place v16736.e)) 176 :: pt b_B118_2 (RMark.enc (RMark.mk 0 0 false SV.nil SV.nil SV.nil SV.nil)) 60 :: pt b_B118_1 [.pointer (some ⟨b0, 0, none⟩)] 174 :: Lr)) (fun hF hM => ⟨s14534, s14537, s14540, hs14541, r14543, SV.nil, s16310, q14544, f16311, hF.to ⟨rfl, rfl, rfl, trivial⟩, selM hM [2, 3, 4, 5, 6, 0, 1, 7, 8] 9 rfl⟩) ?_
    rintro ⟨v16724, v16736, v16739⟩ a w o_l16 hP hK_l16 ⟨s16725, s16727, s16729, hs16730, r16732, s16734, s16737, q16733, f16738, hF, hM⟩
    replace hP : Sh.trace_reader_mark_l16 v16724 v16736 v16739 = _ := hP
    unfold Sh.trace_reader_mark_l16 at hP
    refine c_seq ?_
    refine c_seq ?_
    refine c_joinX hF hM hP (fun F x a w => match x with | v16748 => Fr 19 [(14, .bool v16748), (0, .pointer (some ⟨b0, 0, none⟩)), (1, .int .i64 v16739), (2, .func (.func 189) [].toArray [.pointer (some ⟨b8451, 0, none⟩), .pointer (some ⟨b_B118_1, 0, none⟩)].toArray)] a ∧ MemL w (pt b8451 (RMark.enc (RMark.mk v16724.at_ v16724.next v16724.done s16725 s16727 s16729 s16734)) 60 :: pt b0 (RReader.enc (RReader.mk s16737 v16736.at_ v16736.place v16736.e)) 176 :: pt b_B118_2 (RMark.enc (RMark.mk 0 0 false SV.nil SV.nil SV.nil SV.nil)) 60 :: pt b_B118_1 [.pointer (some ⟨b0, 0, none⟩)] 174 :: rowL 0 s16725 128 v16724.regs :: rowL 0 s16727 151 v16724.slots :: rowL 0 s16729 156 hs16730 :: r16732 :: rowL 0 s16734 3 v16724.sent :: Lr)) (fun o_j17 hP hK_j17 hF hM => ?_) ?_
    · refine c_region ?_
      refine s_val hF (r_move hF rfl rfl) rfl rfl rfl fun a hF => ?_
      refine s_val hF (r_gtr hF rfl rfl rfl) rfl rfl rfl fun a hF => ?_
      refine s_val hF (r_move hF rfl rfl) rfl rfl rfl fun a hF => ?_
      refine g_split 8 hF rfl (fun hb16749 => ?_) (fun hb16749 => ?_)
      · have hP := Fx.cT hb16749 hP
        refine g_val hF rfl rfl rfl hb16749 (r_move hF rfl rfl) rfl rfl fun a hF => ?_
        refine g_val hF rfl rfl rfl hb16749 (r_nilCheckP hF rfl rfl) rfl rfl fun a hF => ?_
        refine g_val hF rfl rfl rfl hb16749 (r_fieldAddr (off' := 3) Tryz.underlying176 rfl in34 rfl hF rfl rfl rfl) rfl rfl fun a hF => ?_
        refine g_val hF rfl rfl rfl hb16749 (r_load1 Tryz.isAgg34 hF rfl rfl (hM.cell (i := 6) rfl (RReader.g_e _))) rfl rfl fun a hF => ?_
        refine g_val hF rfl rfl rfl hb16749 (r_eql hF rfl rfl rfl) rfl rfl fun a hF => ?_
        refine s_val hF (r_pick1 hF rfl rfl hb16749 rfl) rfl rfl rfl fun a hF => ?_
        refine c_nil (n_then ?_)
        have hP := Option.some.inj hP
        subst hP
        exact ⟨(decide (v16736.e = 0)), rfl, hF.to ⟨rfl, rfl, rfl, rfl, trivial⟩, selM hM [0, 6, 7, 8, 1, 2, 3, 4, 5] 9 rfl⟩
      have hP := Fx.cF hb16749 hP
      refine g_skip hF rfl rfl rfl hb16749 rfl rfl fun a hF => ?_
      refine g_skip hF rfl rfl rfl hb16749 rfl rfl fun a hF => ?_
      refine g_skip hF rfl rfl rfl hb16749 rfl rfl fun a hF => ?_
      refine g_skip hF rfl rfl rfl hb16749 rfl rfl fun a hF => ?_
      refine g_skip hF rfl rfl rfl hb16749 rfl rfl fun a hF => ?_
      refine s_val hF (r_pick0 hF rfl rfl hb16749 rfl) rfl rfl rfl fun a hF => ?_
      refine c_nil (n_then ?_)
      have hP := Option.some.inj hP
      subst hP
      exact ⟨false, rfl, hF.to ⟨rfl, rfl, rfl, rfl, trivial⟩, selM hM [0, 6, 7, 8, 1, 2, 3, 4, 5] 9 rfl⟩
    rintro v16748 a w hP ⟨hF, hM⟩
    replace hP : Sh.trace_reader_mark_j17 v16724 v16736 v16739 v16748 = _ := hP
    unfold Sh.trace_reader_mark_j17 at hP
    refine n_then ?_
    refine c_cond hF (c := .tmp 14) rfl (fun hb16750 => ?_) (fun hb16750 => ?_)
    · have hP := Fx.cT hb16750 hP
      refine c_skip (n_then ?_)
      refine c_seq ?_
      refine c_block ?_
      refine c_region ?_
      refine s_val hF (r_move hF rfl rfl) rfl rfl rfl fun a hF => ?_
      obtain ⟨o_c18, hP, hK_c18⟩ := seq_some hP
      refine s_eff hF rfl rfl rfl (w_callF (xs := []) Tryz.call189 hF rfl rfl rfl (R := fun v w => ∃ x, o_c18 = .inl x ∧ match x with | (v16787, v16799) => ∃ (s16788 : SV) (s16790 : SV) (s16792 : SV) (hs16793 : List RPiece) (r16795 : Res) (s16797 : SV) (s16800 : SV), v = .tuple #[] ∧ Each (QPieceIn r16795.holds') hs16793 v16787.pieces ∧ LIn Bf s16800 v16799.b ∧ MemL w (pt b8451 (RMark.enc (RMark.mk v16787.at_ v16787.next v16787.done s16788 s16790 s16792 s16797)) 60 :: rowL 0 s16788 128 v16787.regs :: rowL 0 s16790 151 v16787.slots :: rowL 0 s16792 156 hs16793 :: r16795 :: rowL 0 s16797 3 v16787.sent :: pt b0 (RReader.enc (RReader.mk s16800 v16799.at_ v16799.place v16799.e)) 176 :: pt b_B118_2 (RMark.enc (RMark.mk 0 0 false SV.nil SV.nil SV.nil SV.nil)) 60 :: pt b_B118_1 [.pointer (some ⟨b0, 0, none⟩)] 174 :: Lr)) ?_ fun v w hR => ?_)
      · refine calls_enter Tryz.func189 rfl Tryz.ntmps189 rfl fun a hF => ?_
        refine d_startT mixed (by kernel_rfl) hM [0, 2, 3, 4, 5, 6, 7, 8] 9 rfl fun hch => ?_
        refine d_val hF hch 0 rfl (by kernel_rfl) rfl rfl rfl (fun w hM => (r_fieldAddr (off' := 6) Tryz.underlying60 rfl in52 rfl hF rfl rfl rfl)) fun a hF => ?_
        refine d_val hF hch 1 rfl (by kernel_rfl) rfl rfl rfl (fun w hM => (r_load1 Tryz.isAgg52 hF rfl rfl (hM.cell (i := 0) rfl (RMark.g_sent _)))) fun a hF => ?_
        refine d_val hF hch 2 rfl (by kernel_rfl) rfl rfl rfl (fun w hM => (r_load1 Tryz.isAgg174 hF rfl rfl (hM.cell (i := 2) rfl rfl))) fun a hF => ?_
        refine d_one hch 3 (by kernel_rfl) rfl rfl ?_
        refine d_ex hF 3 rfl rfl rfl rfl rfl fun w hMs hM => ?_
        obtain ⟨y16803, hy16803, hP⟩ := bind_some hP
        refine (w_call (xs := [.tmp 4, .const (.int .i64 (8))]) Tryz.call113 hF rfl rfl (trace_reader_number_calls hy16803 (selM hM [1, 0, 2, 3, 4, 5, 6, 7, 8] 9 rfl) (Bf := Bf) (fun w hM => hsub _ (dropM hM 8)) f16738) fun v w hR => ?_)
        obtain ⟨s16804, rfl, f16805, hM⟩ := hR
        replace hM : MemL _ (pt b0 (RReader.enc (RReader.mk s16804 y16803.2.at_ y16803.2.place y16803.2.e)) 176 :: pt b8451 (RMark.enc (RMark.mk v16724.at_ v16724.next v16724.done s16725 s16727 s16729 s16734)) 60 :: pt b_B118_2 (RMark.enc (RMark.mk 0 0 false SV.nil SV.nil SV.nil SV.nil)) 60 :: pt b_B118_1 [.pointer (some ⟨b0, 0, none⟩)] 174 :: rowL 0 s16725 128 v16724.regs :: rowL 0 s16727 151 v16724.slots :: rowL 0 s16729 156 hs16730 :: r16732 :: rowL 0 s16734 3 v16724.sent :: Lr) := hM
        have hMs := selM hM [1, 2, 3, 4, 5, 6, 7, 8] 9 rfl
        refine ⟨_, _, hMs, hM, .inl fun _ h => h, fun a hF => ?_⟩
        refine d_one hch 4 (by kernel_rfl) rfl rfl ?_
        refine d_ex hF 4 rfl rfl rfl rfl rfl fun w hMs hM => ?_
        refine (w_slice1 (X := Int) (y := y16803.1) Tryz.underlying52 in3 rfl rfl rfl rfl hF rfl rfl rfl fun b_B189_6 w hzB189_6 hAB189_6 => ?_)
        have hM := hM.plus hAB189_6
        replace hM : MemL _ (pt b_B189_6 (encs ([y16803.1] : List Int)) 3 :: pt b0 (RReader.enc (RReader.mk s16804 y16803.2.at_ y16803.2.place y16803.2.e)) 176 :: pt b8451 (RMark.enc (RMark.mk v16724.at_ v16724.next v16724.done s16725 s16727 s16729 s16734)) 60 :: pt b_B118_2 (RMark.enc (RMark.mk 0 0 false SV.nil SV.nil SV.nil SV.nil)) 60 :: pt b_B118_1 [.pointer (some ⟨b0, 0, none⟩)] 174 :: rowL 0 s16725 128 v16724.regs :: rowL 0 s16727 151 v16724.slots :: rowL 0 s16729 156 hs16730 :: r16732 :: rowL 0 s16734 3 v16724.sent :: Lr) := hM
        have hMs := selM hM [0, 2, 3, 4, 5, 6, 7, 8, 9] 10 rfl
        refine ⟨_, _, hMs, hM, .inl fun _ h => dropM h 1, fun a hF => ?_⟩
        refine d_one hch 5 (by kernel_rfl) rfl rfl ?_
        refine d_ex hF 5 rfl rfl rfl rfl rfl fun w hMs hM => ?_
        obtain ⟨x16807, hx16807, hP⟩ := bind_some hP
        refine (w_appX (X := Int) hx16807 Tryz.underlying52 in3 rfl rfl rfl rfl hF rfl rfl rfl (hM.own (X := Int) (i := 9) rfl) (hM.ptS (X := Int) (i := 0) (n := 1) (c := 1) rfl rfl rfl (Nat.le_refl _)) fun s16806 w hUs16806 => ?_)
        have hM := hM.chg hUs16806 (i := 9) rfl
        replace hM : MemL _ (pt b_B189_6 (encs ([y16803.1] : List Int)) 3 :: pt b0 (RReader.enc (RReader.mk s16804 y16803.2.at_ y16803.2.place y16803.2.e)) 176 :: pt b8451 (RMark.enc (RMark.mk v16724.at_ v16724.next v16724.done s16725 s16727 s16729 s16734)) 60 :: pt b_B118_2 (RMark.enc (RMark.mk 0 0 false SV.nil SV.nil SV.nil SV.nil)) 60 :: pt b_B118_1 [.pointer (some ⟨b0, 0, none⟩)] 174 :: rowL 0 s16725 128 v16724.regs :: rowL 0 s16727 151 v16724.slots :: rowL 0 s16729 156 hs16730 :: r16732 :: rowL 0 s16806 3 x16807 :: Lr) := hM
        have hMs := hM
        refine ⟨_, _, hMs, hM, .inr (by kernel_rfl), fun a hF => ?_⟩
        refine d_val hF hch 6 rfl (by kernel_rfl) rfl rfl rfl (fun w hM => (r_fieldAddr (off' := 6) Tryz.underlying60 rfl in52 rfl hF rfl rfl rfl)) fun a hF => ?_
        refine d_one hch 7 (by kernel_rfl) rfl rfl ?_
        refine d_ex0 7 rfl rfl rfl rfl fun w hMs hM => ?_
        refine (w_store1 Tryz.sizeOf52 (hM.obj (i := 2) rfl) hF rfl rfl rfl rfl (by rw [RMark.len]; decide) (RMark.s_sent _ _) fun w hU16808 => ?_)
        have hM := hM.chg hU16808 (i := 2) rfl
        replace hM : MemL _ (pt b_B189_6 (encs ([y16803.1] : List Int)) 3 :: pt b0 (RReader.enc (RReader.mk s16804 y16803.2.at_ y16803.2.place y16803.2.e)) 176 :: pt b8451 (RMark.enc (RMark.mk v16724.at_ v16724.next v16724.done s16725 s16727 s16729 s16806)) 60 :: pt b_B118_2 (RMark.enc (RMark.mk 0 0 false SV.nil SV.nil SV.nil SV.nil)) 60 :: pt b_B118_1 [.pointer (some ⟨b0, 0, none⟩)] 174 :: rowL 0 s16725 128 v16724.regs :: rowL 0 s16727 151 v16724.slots :: rowL 0 s16729 156 hs16730 :: r16732 :: rowL 0 s16806 3 x16807 :: Lr) := hM
        have hMs := hM
        refine ⟨_, _, hMs, hM, .inr (by kernel_rfl), ?_⟩
        refine d_end hch (by kernel_rfl) fun w hM => ?_
        have hP := Option.some.inj hP
        subst hP
        refine e_end0 Tryz.results189 hF ?_
        exact ⟨((QMark.mk v16724.at_ v16724.next v16724.done v16724.regs v16724.slots v16724.pieces x16807), y16803.2), rfl, s16725, s16727, s16729, hs16730, r16732, s16806, s16804, rfl, q16733, f16805, selM hM [2, 5, 6, 7, 8, 9, 1, 3, 4] 10 rfl⟩
      obtain ⟨⟨v16787, v16799⟩, rfl, s16788, s16790, s16792, hs16793, r16795, s16797, s16800, rfl, q16796, f16801, hM⟩ := hR
      replace hP : Sh.trace_reader_mark_c18 v16739 v16787 v16799 = _ := hK_c18
      unfold Sh.trace_reader_mark_c18 at hP
      intro a hF
      refine c_nil (n_block (n_then ?_))
      refine c_region ?_
      refine s_val hF (r_move hF rfl rfl) rfl rfl rfl fun a hF => ?_
      refine s_val hF (r_sub hF rfl rfl rfl) rfl rfl rfl fun a hF => ?_
      refine s_val hF (r_assign hF rfl rfl) rfl rfl rfl fun a hF => ?_
      refine c_nil (n_then ?_)
      have hP := Option.some.inj hP
      subst hP
      exact ⟨(v16787, v16799, (IntKind.i64.wrap (v16739 - 1))), rfl, s16788, s16790, s16792, hs16793, r16795, s16797, s16800, q16796, f16801, hF.to ⟨rfl, rfl, rfl, trivial⟩, hM⟩
    have hP := Fx.cF hb16750 hP
    refine c_exit (x_then (x_then (x_hit ?_)))
    have hP := Option.some.inj hP
    subst hP
    have hP := hK_l16 _ rfl
    subst hP
    refine e_end0 Tryz.results114 hF ?_
    exact ⟨(v16724, v16736), rfl, s16725, s16727, s16729, hs16730, r16732, s16734, s16737, rfl, q16733, f16738, selM hM [0, 4, 5, 6, 7, 8, 1, 2, 3] 9 rfl⟩
  obtain ⟨⟨v16553, v16565⟩, rfl, s16554, s16556, s16558, hs16559, r16561, s16563, s16566, rfl, q16562, f16567, hM⟩ := hR
  replace hP : Sh.trace_reader_mark_c15 x0 v16553 v16565 = _ := hK_c15
  unfold Sh.trace_reader_mark_c15 at hP
  replace hM : MemL _ (pt b8451 (RMark.enc (RMark.mk v16553.at_ v16553.next v16553.done s16554 s16556 s16558 s16563)) 60 :: rowL 0 s16554 128 v16553.regs :: rowL 0 s16556 151 v16553.slots :: rowL 0 s16558 156 hs16559 :: r16561 :: rowL 0 s16563 3 v16553.sent :: pt b0 (RReader.enc (RReader.mk s16566 v16565.at_ v16565.place v16565.e)) 176 :: pt b_B118_2 (RMark.enc (RMark.mk 0 0 false SV.nil SV.nil SV.nil SV.nil)) 60 :: pt b_B118_1 [.pointer (some ⟨b0, 0, none⟩)] 174 :: Lr) := hM
  have hMs := hM
  refine ⟨_, _, hMs, hM, .inr (by kernel_rfl), fun a hF => ?_⟩
  refine d_end hch (by kernel_rfl) fun w hM => ?_
  refine n_then ?_
  refine c_seq ?_
  refine c_joinX hF hM hP (fun F x a w => match x with | v16823 => ∃ (s16824 : SV), LIn Bf s16824 v16823.b ∧ Fr 44 [(2, .pointer (some ⟨b_B118_2, 0, none⟩)), (4, .pointer (some ⟨b8451, 0, none⟩))] a ∧ MemL w (pt b0 (RReader.enc (RReader.mk s16824 v16823.at_ v16823.place v16823.e)) 176 :: pt b8451 (RMark.enc (RMark.mk v16553.at_ v16553.next v16553.done s16554 s16556 s16558 s16563)) 60 :: pt b_B118_2 (RMark.enc (RMark.mk 0 0 false SV.nil SV.nil SV.nil SV.nil)) 60 :: rowL 0 s16554 128 v16553.regs :: rowL 0 s16556 151 v16553.slots :: rowL 0 s16558 156 hs16559 :: r16561 :: rowL 0 s16563 3 v16553.sent :: Lr)) (fun o_j19 hP hK_j19 hF hM => ?_) ?_
  · refine c_seq ?_
    refine c_region ?_
    refine s_val hF (r_loadn Tryz.isAgg60 Tryz.sizeOf60 hF rfl rfl (RMark.len _) (hM.cells (i := 0) rfl (cut_all (RMark.len _)))) rfl rfl rfl fun a hF => ?_
    obtain ⟨y16827, hy16827, hP⟩ := bind_some hP
    refine s_eff hF rfl rfl rfl (w_call (xs := [.tmp 37]) Tryz.call173 hF rfl rfl (trace_plain_calls hy16827 hM (fun _ h => h) (fun w hM => (hM.rowS (X := LTurn) (i := 1) rfl)) (fun w hM => (hM.rowS (X := LCell) (i := 2) rfl)) (fun w hM => (hM.rowS (X := RPiece) (i := 3) rfl)) (q16562.mono fun _ _ q => q.mono fun w hM => hM.hold 4 _ rfl) (fun w hM => (hM.rowS (X := Int) (i := 5) rfl))) fun v w hR => ?_)
    obtain ⟨rfl, hM⟩ := hR
    replace hM : MemL _ (pt b8451 (RMark.enc (RMark.mk v16553.at_ v16553.next v16553.done s16554 s16556 s16558 s16563)) 60 :: rowL 0 s16554 128 v16553.regs :: rowL 0 s16556 151 v16553.slots :: rowL 0 s16558 156 hs16559 :: r16561 :: rowL 0 s16563 3 v16553.sent :: pt b0 (RReader.enc (RReader.mk s16566 v16565.at_ v16565.place v16565.e)) 176 :: pt b_B118_2 (RMark.enc (RMark.mk 0 0 false SV.nil SV.nil SV.nil SV.nil)) 60 :: pt b_B118_1 [.pointer (some ⟨b0, 0, none⟩)] 174 :: Lr) := hM
    intro a hF
    refine s_val hF (r_not hF rfl rfl) rfl rfl rfl fun a hF => ?_
    refine c_nil (n_then ?_)
    refine c_cond hF (c := .tmp 39) rfl (fun hb16828 => ?_) (fun hb16828 => ?_)
    · have hP := Fx.cT hb16828 hP
      refine c_region ?_
      refine s_val hF (r_load1 Tryz.isAgg174 hF rfl rfl (hM.cell (i := 8) rfl rfl)) rfl rfl rfl fun a hF => ?_
      refine s_val hF (r_move hF rfl rfl) rfl rfl rfl fun a hF => ?_
      obtain ⟨y16830, hy16830, hP⟩ := bind_some hP
      refine s_eff hF rfl rfl rfl (w_call (xs := [.tmp 40, .tmp 41, .const (.int .i64 (230))]) Tryz.call112 hF rfl rfl (trace_reader_fault_calls hy16830 (selM hM [6, 0, 1, 2, 3, 4, 5, 7, 8] 9 rfl) (Bf := Bf) (fun w hM => hsub _ (dropM hM 8)) f16567) fun v w hR => ?_)
      obtain ⟨s16831, rfl, f16832, hM⟩ := hR
      replace hM : MemL _ (pt b0 (RReader.enc (RReader.mk s16831 y16830.at_ y16830.place y16830.e)) 176 :: pt b8451 (RMark.enc (RMark.mk v16553.at_ v16553.next v16553.done s16554 s16556 s16558 s16563)) 60 :: rowL 0 s16554 128 v16553.regs :: rowL 0 s16556 151 v16553.slots :: rowL 0 s16558 156 hs16559 :: r16561 :: rowL 0 s16563 3 v16553.sent :: pt b_B118_2 (RMark.enc (RMark.mk 0 0 false SV.nil SV.nil SV.nil SV.nil)) 60 :: pt b_B118_1 [.pointer (some ⟨b0, 0, none⟩)] 174 :: Lr) := hM
      intro a hF
      refine c_nil (n_then ?_)
      have hP := Option.some.inj hP
      subst hP
      exact ⟨y16830, rfl, s16831, f16832, hF.to ⟨rfl, rfl, trivial⟩, selM hM [0, 1, 7, 2, 3, 4, 5, 6] 9 rfl⟩
    have hP := Fx.cF hb16828 hP
    refine c_skip (n_then ?_)
    have hP := Option.some.inj hP
    subst hP
    exact ⟨v16565, rfl, s16566, f16567, hF.to ⟨rfl, rfl, trivial⟩, selM hM [6, 0, 7, 1, 2, 3, 4, 5] 9 rfl⟩
  rintro v16823 a w hP ⟨s16824, f16825, hF, hM⟩
  replace hP : Sh.trace_reader_mark_j19 v16553 v16823 = _ := hP
  unfold Sh.trace_reader_mark_j19 at hP
  refine n_then ?_
  refine c_seq ?_
  refine c_region ?_
  refine s_val hF (r_loadn Tryz.isAgg60 Tryz.sizeOf60 hF rfl rfl (RMark.len _) (hM.cells (i := 1) rfl (cut_all (RMark.len _)))) rfl rfl rfl fun a hF => ?_
  refine s_eff0 rfl rfl (w_storen (vs := _) Tryz.sizeOf60 (hM.obj (i := 2) rfl) hF rfl rfl rfl rfl (RMark.len _) (RMark.one _) (by first | (rw [RMark.len, RMark.len]; decide) | (rw [RMark.len]; decide)) (put_all ((RMark.len _).trans (RMark.len _).symm)) fun w hU16833 => ?_)
  have hM := hM.chg hU16833 (i := 2) rfl
  replace hM : MemL _ (pt b0 (RReader.enc (RReader.mk s16824 v16823.at_ v16823.place v16823.e)) 176 :: pt b8451 (RMark.enc (RMark.mk v16553.at_ v16553.next v16553.done s16554 s16556 s16558 s16563)) 60 :: pt b_B118_2 (RMark.enc (RMark.mk v16553.at_ v16553.next v16553.done s16554 s16556 s16558 s16563)) 60 :: rowL 0 s16554 128 v16553.regs :: rowL 0 s16556 151 v16553.slots :: rowL 0 s16558 156 hs16559 :: r16561 :: rowL 0 s16563 3 v16553.sent :: Lr) := hM
  refine c_nil (n_then ?_)
  refine c_ret ?_
  have hP := Option.some.inj hP
  subst hP
  refine e_ret (rs := [.cell 2 60]) Tryz.results118 hF (res_celln hF rfl Tryz.isAgg60 Tryz.sizeOf60 (RMark.len _) (hM.cells (i := 2) rfl (cut_all (RMark.len _))) res_nil) rfl ?_
  exact ⟨s16554, s16556, s16558, hs16559, r16561, s16563, s16824, rfl, q16562, f16825, selM hM [3, 4, 5, 6, 7, 0] 8 rfl⟩
set_option maxHeartbeats 4000000 in
theorem trace_Decode_calls {x0 : List UInt8} {s1 : SV} {out : (QRecord × Int × Int)} {w0 : World} {Bf : World → Prop} {Lr : List Res} (hP : Sh.trace_Decode x0 = some out) (hM : MemL w0 (Lr)) (hsub : ∀ w, MemL w Lr → Bf w) (f2 : LIn Bf s1 x0) : Calls Tryz.prog 45 #[(s1).v] w0 (Ret fun v w' => ∃ (s4097 : SV) (s4099 : SV) (hs4100 : List SV) (r4102 : Res) (s4104 : SV) (hs4105 : List RMark) (r4107 : Res), v = .tuple #[.agg (RRecord.enc (RRecord.mk (RInput.mk s4097 s4099) s4104 out.1.end_)).toArray, .int .i64 out.2.1, .int .i64 out.2.2] ∧ Each (LIn (X := UInt8) r4102.holds') hs4100 out.1.in_.tables ∧ Each (QMarkIn r4107.holds') hs4105 out.1.marks ∧ MemL w' (rowL 0 s4097 5 out.1.in_.ctx :: rowL 0 s4099 23 hs4100 :: r4102 :: rowL 0 s4104 60 hs4105 :: r4107 :: Lr)) := by
  unfold Sh.trace_Decode at hP
  refine calls_enter (vs := [(s1).v]) Tryz.func45 rfl Tryz.ntmps45 rfl fun a hF => ?_
  refine c_seq ?_
  refine c_region ?_
  refine s_eff hF rfl rfl rfl (w_alloc z36 (zs := RRecord.zero.enc) rfl rfl fun b_B45_2 w hzB45_2 hAB45_2 => ?_)
  have hM := hM.plus hAB45_2
  replace hM : MemL _ (pt b_B45_2 (RRecord.enc (RRecord.mk (RInput.mk SV.nil SV.nil) SV.nil 0)) 36 :: Lr) := hM
  intro a hF
  refine s_val hF (r_assign hF rfl rfl) rfl rfl rfl fun a hF => ?_
  refine s_val hF (r_assign hF rfl rfl) rfl rfl rfl fun a hF => ?_
  refine c_nil (n_then ?_)
  refine c_seq ?_
  refine c_seq ?_
  refine c_region ?_
  refine s_val hF (r_move hF rfl rfl) rfl rfl rfl fun a hF => ?_
  refine s_val hF (r_lenL (f2 _ (hsub _ (dropM hM 1))) Tryz.underlying23 hF rfl rfl) rfl rfl rfl fun a hF => ?_
  refine s_val hF (r_gtr hF rfl rfl rfl) rfl rfl rfl fun a hF => ?_
  refine c_nil (n_then ?_)
  refine c_cond hF (c := .tmp 8) rfl (fun hb4111 => ?_) (fun hb4111 => ?_)
  · have hP := Fx.cT hb4111 hP
    refine c_seq ?_
    refine c_region ?_
    refine s_val hF (r_build z36 Tryz.underlying36 pl36 hF (parts := []) rfl rfl fill_e) rfl rfl rfl fun a hF => ?_
    refine s_eff0 rfl rfl (w_storen (vs := _) Tryz.sizeOf36 (hM.obj (i := 0) rfl) hF rfl rfl rfl rfl (RRecord.len _) (RRecord.one _) (by first | (rw [RRecord.len, RRecord.len]; decide) | (rw [RRecord.len]; decide)) (put_all ((RRecord.len _).trans (RRecord.len _).symm)) fun w hU4112 => ?_)
    have hM := hM.chg hU4112 (i := 0) rfl
    replace hM : MemL _ (pt b_B45_2 (RRecord.enc (RRecord.mk (RInput.mk SV.nil SV.nil) SV.nil 0)) 36 :: Lr) := hM
    refine s_val hF (r_assign hF rfl rfl) rfl rfl rfl fun a hF => ?_
    refine s_val hF (r_assign hF rfl rfl) rfl rfl rfl fun a hF => ?_
    refine c_nil (n_then ?_)
    refine c_ret ?_
    have hM := hM.rowNil (X := UInt8) 0 5
    obtain ⟨r4115, hM⟩ := voidM hM
    have q4116 : Each (LIn (X := UInt8) r4115.holds') ([] : List SV) ([] : List (List UInt8)) := Each.nil
    have hM := hM.rowNil (X := SV) 0 23
    obtain ⟨r4118, hM⟩ := voidM hM
    have q4119 : Each (QMarkIn r4118.holds') ([] : List RMark) ([] : List QMark) := Each.nil
    have hM := hM.rowNil (X := RMark) 0 60
    have hP := Option.some.inj hP
    subst hP
    refine e_ret (rs := [.cell 2 36, .tmp 3, .tmp 4]) Tryz.results45 hF (res_celln hF rfl Tryz.isAgg36 Tryz.sizeOf36 (RRecord.len _) (hM.cells (i := 5) rfl (cut_all (RRecord.len _))) (res_tmp hF rfl (res_tmp hF rfl res_nil))) rfl ?_
    exact ⟨SV.nil, SV.nil, [], r4115, SV.nil, [], r4118, rfl, q4116, q4119, selM hM [4, 2, 3, 0, 1] 6 rfl⟩
  have hP := Fx.cF hb4111 hP
  refine c_skip (n_then ?_)
  refine c_seq ?_
  refine c_region ?_
  refine s_val hF (r_move hF rfl rfl) rfl rfl rfl fun a hF => ?_
  refine s_val hF (r_build z176 Tryz.underlying176 pl176 hF (parts := [(0, .tmp 10)]) rfl rfl (fill_s rfl rfl (by rw [RReader.len]; decide) (RReader.s_b _ _) fill_e)) rfl rfl rfl fun a hF => ?_
  refine s_eff hF rfl rfl rfl (w_box hF rfl rfl rfl fun b_B45_12 w hzB45_12 hAB45_12 => ?_)
  have hM := hM.plus hAB45_12
  replace hM : MemL _ (pt b_B45_12 (RReader.enc (RReader.mk s1 0 0 0)) 176 :: pt b_B45_2 (RRecord.enc (RRecord.mk (RInput.mk SV.nil SV.nil) SV.nil 0)) 36 :: Lr) := hM
  intro a hF
  refine s_eff hF rfl rfl rfl (w_alloc (z := (.pointer none)) (zs := [(.pointer none)]) Tryz.zeroValue174 rfl rfl fun b_B45_5 w hzB45_5 hAB45_5 => ?_)
  have hM := hM.plus hAB45_5
  replace hM : MemL _ (pt b_B45_5 [.pointer none] 174 :: pt b_B45_12 (RReader.enc (RReader.mk s1 0 0 0)) 176 :: pt b_B45_2 (RRecord.enc (RRecord.mk (RInput.mk SV.nil SV.nil) SV.nil 0)) 36 :: Lr) := hM
  intro a hF
  refine s_eff0 rfl rfl (w_store1 Tryz.sizeOf174 (hM.obj (i := 0) rfl) hF rfl rfl rfl rfl (by decide) rfl fun w hU4120 => ?_)
  have hM := hM.chg hU4120 (i := 0) rfl
  replace hM : MemL _ (pt b_B45_5 [.pointer (some ⟨b_B45_12, 0, none⟩)] 174 :: pt b_B45_12 (RReader.enc (RReader.mk s1 0 0 0)) 176 :: pt b_B45_2 (RRecord.enc (RRecord.mk (RInput.mk SV.nil SV.nil) SV.nil 0)) 36 :: Lr) := hM
  refine c_nil (n_then ?_)
  refine c_seq ?_
  refine c_joinX hF hM hP (fun F x a w => match x with | v4143 => ∃ (s4144 : SV), LIn Bf s4144 v4143.b ∧ Fr 78 [(0, (s1).v), (2, .pointer (some ⟨b_B45_2, 0, none⟩)), (3, .int .i64 0), (4, .int .i64 0), (5, .pointer (some ⟨b_B45_5, 0, none⟩))] a ∧ MemL w (pt b_B45_12 (RReader.enc (RReader.mk s4144 v4143.at_ v4143.place v4143.e)) 176 :: pt b_B45_5 [.pointer (some ⟨b_B45_12, 0, none⟩)] 174 :: pt b_B45_2 (RRecord.enc (RRecord.mk (RInput.mk SV.nil SV.nil) SV.nil 0)) 36 :: Lr)) (fun o_j1 hP hK_j1 hF hM => ?_) ?_
  · refine c_seq ?_
    refine c_region ?_
    refine s_val hF (r_load1 Tryz.isAgg174 hF rfl rfl (hM.cell (i := 0) rfl rfl)) rfl rfl rfl fun a hF => ?_
    obtain ⟨y4147, hy4147, hP⟩ := bind_some hP
    refine s_eff hF rfl rfl rfl (w_call (xs := [.tmp 13, .const (.int .i64 (4))]) Tryz.call111 hF rfl rfl (trace_reader_take_calls hy4147 (selM hM [1, 0, 2] 3 rfl) (Bf := Bf) (fun w hM => hsub _ (dropM hM 2)) f2) fun v w hR => ?_)
    obtain ⟨s4148, s4150, rfl, f4149, f4151, hM⟩ := hR
    replace hM : MemL _ (pt b_B45_12 (RReader.enc (RReader.mk s4150 y4147.2.at_ y4147.2.place y4147.2.e)) 176 :: pt b_B45_5 [.pointer (some ⟨b_B45_12, 0, none⟩)] 174 :: pt b_B45_2 (RRecord.enc (RRecord.mk (RInput.mk SV.nil SV.nil) SV.nil 0)) 36 :: Lr) := hM
    intro a hF
    refine s_val hF (r_convStr0 (f4149 _ (hsub _ (dropM hM 3))) Tryz.underlying23 Tryz.underlying5 Tryz.underlying9 hF rfl rfl) rfl rfl rfl fun a hF => ?_
    refine s_val hF (r_neqStr (i := y4147.1) (j := [84, 82, 67, 49]) hF rfl rfl rfl) rfl rfl rfl fun a hF => ?_
    refine c_nil (n_then ?_)
    refine c_cond hF (c := .tmp 16) rfl (fun hb4152 => ?_) (fun hb4152 => ?_)
    · have hP := Fx.cT hb4152 hP
      refine c_region ?_
      refine s_val hF (r_load1 Tryz.isAgg174 hF rfl rfl (hM.cell (i := 1) rfl rfl)) rfl rfl rfl fun a hF => ?_
      obtain ⟨y4154, hy4154, hP⟩ := bind_some hP
      refine s_eff hF rfl rfl rfl (w_call (xs := [.tmp 17, .const (.int .i64 (0)), .const (.int .i64 (236))]) Tryz.call112 hF rfl rfl (trace_reader_fault_calls hy4154 hM (Bf := Bf) (fun w hM => hsub _ (dropM hM 2)) f4151) fun v w hR => ?_)
      obtain ⟨s4155, rfl, f4156, hM⟩ := hR
      replace hM : MemL _ (pt b_B45_12 (RReader.enc (RReader.mk s4155 y4154.at_ y4154.place y4154.e)) 176 :: pt b_B45_5 [.pointer (some ⟨b_B45_12, 0, none⟩)] 174 :: pt b_B45_2 (RRecord.enc (RRecord.mk (RInput.mk SV.nil SV.nil) SV.nil 0)) 36 :: Lr) := hM
      intro a hF
      refine c_nil (n_then ?_)
      have hP := Option.some.inj hP
      subst hP
      exact ⟨y4154, rfl, s4155, f4156, hF.to ⟨rfl, rfl, rfl, rfl, rfl, trivial⟩, hM⟩
    have hP := Fx.cF hb4152 hP
    refine c_skip (n_then ?_)
    have hP := Option.some.inj hP
    subst hP
    exact ⟨y4147.2, rfl, s4150, f4151, hF.to ⟨rfl, rfl, rfl, rfl, rfl, trivial⟩, hM⟩
  rintro v4143 a w hP ⟨s4144, f4145, hF, hM⟩
  replace hP : Sh.trace_Decode_j1 x0 v4143 = _ := hP
  unfold Sh.trace_Decode_j1 at hP
  refine n_then ?_
  refine c_seq ?_
  refine d_startT mixed (by kernel_rfl) hM [1, 2] 3 rfl fun hch => ?_
  refine d_val hF hch 0 rfl (by kernel_rfl) rfl rfl rfl (fun w hM => (r_load1 Tryz.isAgg174 hF rfl rfl (hM.cell (i := 0) rfl rfl))) fun a hF => ?_
  refine d_val hF hch 1 rfl (by kernel_rfl) rfl rfl rfl (fun w hM => (r_load1 Tryz.isAgg174 hF rfl rfl (hM.cell (i := 0) rfl rfl))) fun a hF => ?_
  refine d_one hch 2 (by kernel_rfl) rfl rfl ?_
  refine d_ex hF 2 rfl rfl rfl rfl rfl fun w hMs hM => ?_
  obtain ⟨y4173, hy4173, hP⟩ := bind_some hP
  refine (w_call (xs := [.tmp 20, .const (.int .i64 (2))]) Tryz.call113 hF rfl rfl (trace_reader_number_calls hy4173 hM (Bf := Bf) (fun w hM => hsub _ (dropM hM 2)) f4145) fun v w hR => ?_)
  obtain ⟨s4174, rfl, f4175, hM⟩ := hR
  replace hM : MemL _ (pt b_B45_12 (RReader.enc (RReader.mk s4174 y4173.2.at_ y4173.2.place y4173.2.e)) 176 :: pt b_B45_5 [.pointer (some ⟨b_B45_12, 0, none⟩)] 174 :: pt b_B45_2 (RRecord.enc (RRecord.mk (RInput.mk SV.nil SV.nil) SV.nil 0)) 36 :: Lr) := hM
  have hMs := selM hM [1, 2] 3 rfl
  refine ⟨_, _, hMs, hM, .inl fun _ h => h, fun a hF => ?_⟩
  refine d_one hch 3 (by kernel_rfl) rfl rfl ?_
  refine d_ex hF 3 rfl rfl rfl rfl rfl fun w hMs hM => ?_
  obtain ⟨y4177, hy4177, hP⟩ := bind_some hP
  refine (w_call (xs := [.tmp 19, .tmp 21]) Tryz.call111 hF rfl rfl (trace_reader_take_calls hy4177 hM (Bf := Bf) (fun w hM => hsub _ (dropM hM 2)) f4175) fun v w hR => ?_)
  obtain ⟨s4178, s4180, rfl, f4179, f4181, hM⟩ := hR
  replace hM : MemL _ (pt b_B45_12 (RReader.enc (RReader.mk s4180 y4177.2.at_ y4177.2.place y4177.2.e)) 176 :: pt b_B45_5 [.pointer (some ⟨b_B45_12, 0, none⟩)] 174 :: pt b_B45_2 (RRecord.enc (RRecord.mk (RInput.mk SV.nil SV.nil) SV.nil 0)) 36 :: Lr) := hM
  have hMs := selM hM [1, 2] 3 rfl
  refine ⟨_, _, hMs, hM, .inl fun _ h => h, fun a hF => ?_⟩
  refine d_one hch 4 (by kernel_rfl) rfl rfl ?_
  refine d_ex hF 4 rfl rfl rfl rfl rfl fun w hMs hM => ?_
  obtain ⟨y4183, hy4183, hP⟩ := bind_some hP
  refine (w_call (xs := [.tmp 22]) Tryz.call73 hF rfl rfl (bytes_Clone_calls hy4183 hM (Bf := Bf) (fun w hM => hsub _ (dropM hM 3)) f4179) fun v w hR => ?_)
  obtain ⟨s4184, rfl, hM⟩ := hR
  replace hM : MemL _ (rowL 0 s4184 5 y4183 :: pt b_B45_12 (RReader.enc (RReader.mk s4180 y4177.2.at_ y4177.2.place y4177.2.e)) 176 :: pt b_B45_5 [.pointer (some ⟨b_B45_12, 0, none⟩)] 174 :: pt b_B45_2 (RRecord.enc (RRecord.mk (RInput.mk SV.nil SV.nil) SV.nil 0)) 36 :: Lr) := hM
  have hMs := selM hM [0, 2, 3] 4 rfl
  refine ⟨_, _, hMs, hM, .inl fun _ h => dropM h 1, fun a hF => ?_⟩
  refine d_val hF hch 5 rfl (by kernel_rfl) rfl rfl rfl (fun w hM => (r_fieldAddr (off' := 0) Tryz.underlying36 rfl in30 rfl hF rfl rfl rfl)) fun a hF => ?_
  refine d_val hF hch 6 rfl (by kernel_rfl) rfl rfl rfl (fun w hM => (r_fieldAddr (off' := 0) Tryz.underlying30 rfl in23 rfl hF rfl rfl rfl)) fun a hF => ?_
  refine d_one hch 7 (by kernel_rfl) rfl rfl ?_
  refine d_ex0 7 rfl rfl rfl rfl fun w hMs hM => ?_
  refine (w_store1 Tryz.sizeOf23 (hM.obj (i := 3) rfl) hF rfl rfl rfl rfl (by rw [RRecord.len]; decide) (set_deep (RRecord.c_in_ _) (RInput.s_ctx _ _) (RRecord.p_in_ _ _) (by rw [RRecord.len]; decide) (by decide)) fun w hU4186 => ?_)
  have hM := hM.chg hU4186 (i := 3) rfl
  replace hM : MemL _ (rowL 0 s4184 5 y4183 :: pt b_B45_12 (RReader.enc (RReader.mk s4180 y4177.2.at_ y4177.2.place y4177.2.e)) 176 :: pt b_B45_5 [.pointer (some ⟨b_B45_12, 0, none⟩)] 174 :: pt b_B45_2 (RRecord.enc (RRecord.mk (RInput.mk s4184 SV.nil) SV.nil 0)) 36 :: Lr) := hM
  have hMs := hM
  refine ⟨_, _, hMs, hM, .inr (by kernel_rfl), ?_⟩
  refine d_end hch (by kernel_rfl) fun w hM => ?_
  refine n_then ?_
  refine c_seq ?_
  refine d_startT mixed (by kernel_rfl) hM [0, 2, 3] 4 rfl fun hch => ?_
  refine d_val hF hch 0 rfl (by kernel_rfl) rfl rfl rfl (fun w hM => (r_load1 Tryz.isAgg174 hF rfl rfl (hM.cell (i := 1) rfl rfl))) fun a hF => ?_
  refine d_val hF hch 1 rfl (by kernel_rfl) rfl rfl rfl (fun w hM => (r_load1 Tryz.isAgg174 hF rfl rfl (hM.cell (i := 1) rfl rfl))) fun a hF => ?_
  refine d_val hF hch 3 rfl (by kernel_rfl) rfl rfl rfl (fun w hM => (r_makeFunc hF (fs := []) (cs := [.tmp 2, .tmp 5]) rfl rfl rfl)) fun a hF => ?_
  refine d_one hch 2 (by kernel_rfl) rfl rfl ?_
  refine d_ex hF 2 rfl rfl rfl rfl rfl fun w hMs hM => ?_
  obtain ⟨y4977, hy4977, hP⟩ := bind_some hP
  refine (w_call (xs := [.tmp 27, .const (.int .i64 (8))]) Tryz.call115 hF rfl rfl (trace_reader_most_calls hy4977 (selM hM [1, 0, 2, 3] 4 rfl) (Bf := Bf) (fun w hM => hsub _ (dropM hM 3)) f4181) fun v w hR => ?_)
  obtain ⟨s4978, rfl, f4979, hM⟩ := hR
  replace hM : MemL _ (pt b_B45_12 (RReader.enc (RReader.mk s4978 y4977.2.at_ y4977.2.place y4977.2.e)) 176 :: rowL 0 s4184 5 y4183 :: pt b_B45_5 [.pointer (some ⟨b_B45_12, 0, none⟩)] 174 :: pt b_B45_2 (RRecord.enc (RRecord.mk (RInput.mk s4184 SV.nil) SV.nil 0)) 36 :: Lr) := hM
  have hMs := selM hM [1, 2, 3] 4 rfl
  refine ⟨_, _, hMs, hM, .inl fun _ h => h, fun a hF => ?_⟩
  refine d_one hch 4 (by kernel_rfl) rfl rfl ?_
  refine d_ex hF 4 rfl rfl rfl rfl rfl fun w hMs hM => ?_
  obtain ⟨o_c2, hP, hK_c2⟩ := seq_some hP
  refine (w_call (xs := [.tmp 26, .tmp 28, .tmp 29]) Tryz.call114 hF rfl rfl (R := fun v w => ∃ x, o_c2 = .inl x ∧ match x with | (v5367, v5370) => ∃ (s5368 : SV) (s5371 : SV) (s5373 : SV) (hs5374 : List SV) (r5376 : Res), v = .tuple #[] ∧ LIn Bf s5368 v5367.b ∧ Each (LIn (X := UInt8) r5376.holds') hs5374 v5370.tables ∧ MemL w (pt b_B45_12 (RReader.enc (RReader.mk s5368 v5367.at_ v5367.place v5367.e)) 176 :: pt b_B45_2 (RRecord.enc (RRecord.mk (RInput.mk s5371 s5373) SV.nil 0)) 36 :: rowL 0 s5371 5 v5370.ctx :: rowL 0 s5373 23 hs5374 :: r5376 :: pt b_B45_5 [.pointer (some ⟨b_B45_12, 0, none⟩)] 174 :: Lr)) ?_ fun v w hR => ?_)
  · refine calls_enter Tryz.func114 rfl Tryz.ntmps114 rfl fun a hF => ?_
    refine c_block ?_
    obtain ⟨r5647, hM⟩ := voidM hM
    have q5648 : Each (LIn (X := UInt8) r5647.holds') ([] : List SV) ([] : List (List UInt8)) := Each.nil
    have hM := hM.rowNil (X := SV) 0 23
    refine c_loopX hF hM hP (fun F x a w => match x with | (v5634, v5637, v5645) => ∃ (s5635 : SV) (s5638 : SV) (s5640 : SV) (hs5641 : List SV) (r5643 : Res), LIn Bf s5635 v5634.b ∧ Each (LIn (X := UInt8) r5643.holds') hs5641 v5637.tables ∧ Fr 19 [(1, .int .i64 v5645), (0, .pointer (some ⟨b_B45_12, 0, none⟩)), (2, .func (.func 116) [].toArray [.pointer (some ⟨b_B45_2, 0, none⟩), .pointer (some ⟨b_B45_5, 0, none⟩)].toArray)] a ∧ MemL w (pt b_B45_12 (RReader.enc (RReader.mk s5635 v5634.at_ v5634.place v5634.e)) 176 :: pt b_B45_2 (RRecord.enc (RRecord.mk (RInput.mk s5638 s5640) SV.nil 0)) 36 :: rowL 0 s5638 5 v5637.ctx :: rowL 0 s5640 23 hs5641 :: r5643 :: pt b_B45_5 [.pointer (some ⟨b_B45_12, 0, none⟩)] 174 :: Lr)) (fun hF hM => ⟨s4978, s4184, SV.nil, [], r5647, f4979, q5648, hF.to ⟨rfl, rfl, rfl, trivial⟩, selM hM [2, 5, 3, 0, 1, 4] 6 rfl⟩) ?_
    rintro ⟨v5634, v5637, v5645⟩ a w o_l3 hP hK_l3 ⟨s5635, s5638, s5640, hs5641, r5643, f5636, q5644, hF, hM⟩
    replace hP : Sh.trace_Decode_l3 v5634 v5637 v5645 = _ := hP
    unfold Sh.trace_Decode_l3 at hP
    refine c_seq ?_
    refine c_seq ?_
    refine c_joinX hF hM hP (fun F x a w => match x with | v5656 => Fr 19 [(14, .bool v5656), (0, .pointer (some ⟨b_B45_12, 0, none⟩)), (1, .int .i64 v5645), (2, .func (.func 116) [].toArray [.pointer (some ⟨b_B45_2, 0, none⟩), .pointer (some ⟨b_B45_5, 0, none⟩)].toArray)] a ∧ MemL w (pt b_B45_12 (RReader.enc (RReader.mk s5635 v5634.at_ v5634.place v5634.e)) 176 :: pt b_B45_2 (RRecord.enc (RRecord.mk (RInput.mk s5638 s5640) SV.nil 0)) 36 :: pt b_B45_5 [.pointer (some ⟨b_B45_12, 0, none⟩)] 174 :: rowL 0 s5638 5 v5637.ctx :: rowL 0 s5640 23 hs5641 :: r5643 :: Lr)) (fun o_j4 hP hK_j4 hF hM => ?_) ?_
    · refine c_region ?_
      refine s_val hF (r_move hF rfl rfl) rfl rfl rfl fun a hF => ?_
      refine s_val hF (r_gtr hF rfl rfl rfl) rfl rfl rfl fun a hF => ?_
      refine s_val hF (r_move hF rfl rfl) rfl rfl rfl fun a hF => ?_
      refine g_split 8 hF rfl (fun hb5657 => ?_) (fun hb5657 => ?_)
      · have hP := Fx.cT hb5657 hP
        refine g_val hF rfl rfl rfl hb5657 (r_move hF rfl rfl) rfl rfl fun a hF => ?_
        refine g_val hF rfl rfl rfl hb5657 (r_nilCheckP hF rfl rfl) rfl rfl fun a hF => ?_
        refine g_val hF rfl rfl rfl hb5657 (r_fieldAddr (off' := 3) Tryz.underlying176 rfl in34 rfl hF rfl rfl rfl) rfl rfl fun a hF => ?_
        refine g_val hF rfl rfl rfl hb5657 (r_load1 Tryz.isAgg34 hF rfl rfl (hM.cell (i := 0) rfl (RReader.g_e _))) rfl rfl fun a hF => ?_
        refine g_val hF rfl rfl rfl hb5657 (r_eql hF rfl rfl rfl) rfl rfl fun a hF => ?_
        refine s_val hF (r_pick1 hF rfl rfl hb5657 rfl) rfl rfl rfl fun a hF => ?_
        refine c_nil (n_then ?_)
        have hP := Option.some.inj hP
        subst hP
        exact ⟨(decide (v5634.e = 0)), rfl, hF.to ⟨rfl, rfl, rfl, rfl, trivial⟩, selM hM [0, 1, 5, 2, 3, 4] 6 rfl⟩
      have hP := Fx.cF hb5657 hP
      refine g_skip hF rfl rfl rfl hb5657 rfl rfl fun a hF => ?_
      refine g_skip hF rfl rfl rfl hb5657 rfl rfl fun a hF => ?_
      refine g_skip hF rfl rfl rfl hb5657 rfl rfl fun a hF => ?_
      refine g_skip hF rfl rfl rfl hb5657 rfl rfl fun a hF => ?_
      refine g_skip hF rfl rfl rfl hb5657 rfl rfl fun a hF => ?_
      refine s_val hF (r_pick0 hF rfl rfl hb5657 rfl) rfl rfl rfl fun a hF => ?_
      refine c_nil (n_then ?_)
      have hP := Option.some.inj hP
      subst hP
      exact ⟨false, rfl, hF.to ⟨rfl, rfl, rfl, rfl, trivial⟩, selM hM [0, 1, 5, 2, 3, 4] 6 rfl⟩
    rintro v5656 a w hP ⟨hF, hM⟩
    replace hP : Sh.trace_Decode_j4 v5634 v5637 v5645 v5656 = _ := hP
    unfold Sh.trace_Decode_j4 at hP
    refine n_then ?_
    refine c_cond hF (c := .tmp 14) rfl (fun hb5658 => ?_) (fun hb5658 => ?_)
    · have hP := Fx.cT hb5658 hP
      refine c_skip (n_then ?_)
      refine c_seq ?_
      refine c_block ?_
      refine c_region ?_
      refine s_val hF (r_move hF rfl rfl) rfl rfl rfl fun a hF => ?_
      obtain ⟨o_c5, hP, hK_c5⟩ := seq_some hP
      refine s_eff hF rfl rfl rfl (w_callF (xs := []) Tryz.call116 hF rfl rfl rfl (R := fun v w => ∃ x, o_c5 = .inl x ∧ match x with | (v5733, v5736) => ∃ (s5734 : SV) (s5737 : SV) (s5739 : SV) (hs5740 : List SV) (r5742 : Res), v = .tuple #[] ∧ LIn Bf s5734 v5733.b ∧ Each (LIn (X := UInt8) r5742.holds') hs5740 v5736.tables ∧ MemL w (pt b_B45_12 (RReader.enc (RReader.mk s5734 v5733.at_ v5733.place v5733.e)) 176 :: pt b_B45_2 (RRecord.enc (RRecord.mk (RInput.mk s5737 s5739) SV.nil 0)) 36 :: rowL 0 s5737 5 v5736.ctx :: rowL 0 s5739 23 hs5740 :: r5742 :: pt b_B45_5 [.pointer (some ⟨b_B45_12, 0, none⟩)] 174 :: Lr)) ?_ fun v w hR => ?_)
      · refine calls_enter Tryz.func116 rfl Tryz.ntmps116 rfl fun a hF => ?_
        refine d_startT mixed (by kernel_rfl) hM [1, 2, 3, 4, 5] 6 rfl fun hch => ?_
        refine d_val hF hch 0 rfl (by kernel_rfl) rfl rfl rfl (fun w hM => (r_fieldAddr (off' := 0) Tryz.underlying36 rfl in30 rfl hF rfl rfl rfl)) fun a hF => ?_
        refine d_val hF hch 1 rfl (by kernel_rfl) rfl rfl rfl (fun w hM => (r_fieldAddr (off' := 1) Tryz.underlying30 rfl in28 rfl hF rfl rfl rfl)) fun a hF => ?_
        refine d_val hF hch 2 rfl (by kernel_rfl) rfl rfl rfl (fun w hM => (r_load1 Tryz.isAgg28 hF rfl rfl ((hM.cells (i := 0) rfl (RRecord.c_in_ _)).get 1 (RInput.g_tables _)))) fun a hF => ?_
        refine d_val hF hch 3 rfl (by kernel_rfl) rfl rfl rfl (fun w hM => (r_load1 Tryz.isAgg174 hF rfl rfl (hM.cell (i := 1) rfl rfl))) fun a hF => ?_
        refine d_val hF hch 4 rfl (by kernel_rfl) rfl rfl rfl (fun w hM => (r_load1 Tryz.isAgg174 hF rfl rfl (hM.cell (i := 1) rfl rfl))) fun a hF => ?_
        refine d_one hch 5 (by kernel_rfl) rfl rfl ?_
        refine d_ex hF 5 rfl rfl rfl rfl rfl fun w hMs hM => ?_
        obtain ⟨y5745, hy5745, hP⟩ := bind_some hP
        refine (w_call (xs := [.tmp 6, .const (.int .i64 (2))]) Tryz.call113 hF rfl rfl (trace_reader_number_calls hy5745 hM (Bf := Bf) (fun w hM => hsub _ (dropM hM 5)) f5636) fun v w hR => ?_)
        obtain ⟨s5746, rfl, f5747, hM⟩ := hR
        replace hM : MemL _ (pt b_B45_12 (RReader.enc (RReader.mk s5746 y5745.2.at_ y5745.2.place y5745.2.e)) 176 :: pt b_B45_2 (RRecord.enc (RRecord.mk (RInput.mk s5638 s5640) SV.nil 0)) 36 :: pt b_B45_5 [.pointer (some ⟨b_B45_12, 0, none⟩)] 174 :: rowL 0 s5638 5 v5637.ctx :: rowL 0 s5640 23 hs5641 :: r5643 :: Lr) := hM
        have hMs := selM hM [1, 2, 3, 4, 5] 6 rfl
        refine ⟨_, _, hMs, hM, .inl fun _ h => h, fun a hF => ?_⟩
        refine d_one hch 6 (by kernel_rfl) rfl rfl ?_
        refine d_ex hF 6 rfl rfl rfl rfl rfl fun w hMs hM => ?_
        obtain ⟨y5749, hy5749, hP⟩ := bind_some hP
        refine (w_call (xs := [.tmp 5, .tmp 7]) Tryz.call111 hF rfl rfl (trace_reader_take_calls hy5749 hM (Bf := Bf) (fun w hM => hsub _ (dropM hM 5)) f5747) fun v w hR => ?_)
        obtain ⟨s5750, s5752, rfl, f5751, f5753, hM⟩ := hR
        replace hM : MemL _ (pt b_B45_12 (RReader.enc (RReader.mk s5752 y5749.2.at_ y5749.2.place y5749.2.e)) 176 :: pt b_B45_2 (RRecord.enc (RRecord.mk (RInput.mk s5638 s5640) SV.nil 0)) 36 :: pt b_B45_5 [.pointer (some ⟨b_B45_12, 0, none⟩)] 174 :: rowL 0 s5638 5 v5637.ctx :: rowL 0 s5640 23 hs5641 :: r5643 :: Lr) := hM
        have hMs := selM hM [1, 2, 3, 4, 5] 6 rfl
        refine ⟨_, _, hMs, hM, .inl fun _ h => h, fun a hF => ?_⟩
        refine d_one hch 7 (by kernel_rfl) rfl rfl ?_
        refine d_ex hF 7 rfl rfl rfl rfl rfl fun w hMs hM => ?_
        obtain ⟨y5755, hy5755, hP⟩ := bind_some hP
        refine (w_call (xs := [.tmp 8]) Tryz.call73 hF rfl rfl (bytes_Clone_calls hy5755 hM (Bf := Bf) (fun w hM => hsub _ (dropM hM 6)) f5751) fun v w hR => ?_)
        obtain ⟨s5756, rfl, hM⟩ := hR
        replace hM : MemL _ (rowL 0 s5756 5 y5755 :: pt b_B45_12 (RReader.enc (RReader.mk s5752 y5749.2.at_ y5749.2.place y5749.2.e)) 176 :: pt b_B45_2 (RRecord.enc (RRecord.mk (RInput.mk s5638 s5640) SV.nil 0)) 36 :: pt b_B45_5 [.pointer (some ⟨b_B45_12, 0, none⟩)] 174 :: rowL 0 s5638 5 v5637.ctx :: rowL 0 s5640 23 hs5641 :: r5643 :: Lr) := hM
        have hMs := selM hM [0, 2, 3, 4, 5, 6] 7 rfl
        refine ⟨_, _, hMs, hM, .inl fun _ h => dropM h 1, fun a hF => ?_⟩
        refine d_one hch 8 (by kernel_rfl) rfl rfl ?_
        refine d_ex hF 8 rfl rfl rfl rfl rfl fun w hMs hM => ?_
        refine (w_slice1 (X := SV) (y := s5756) Tryz.underlying28 in23 rfl rfl rfl rfl hF rfl rfl rfl fun b_B116_10 w hzB116_10 hAB116_10 => ?_)
        have hM := hM.plus hAB116_10
        replace hM : MemL _ (pt b_B116_10 (encs ([s5756] : List SV)) 23 :: rowL 0 s5756 5 y5755 :: pt b_B45_12 (RReader.enc (RReader.mk s5752 y5749.2.at_ y5749.2.place y5749.2.e)) 176 :: pt b_B45_2 (RRecord.enc (RRecord.mk (RInput.mk s5638 s5640) SV.nil 0)) 36 :: pt b_B45_5 [.pointer (some ⟨b_B45_12, 0, none⟩)] 174 :: rowL 0 s5638 5 v5637.ctx :: rowL 0 s5640 23 hs5641 :: r5643 :: Lr) := hM
        have hMs := selM hM [0, 1, 3, 4, 5, 6, 7] 8 rfl
        refine ⟨_, _, hMs, hM, .inl fun _ h => dropM h 1, fun a hF => ?_⟩
        refine d_one hch 9 (by kernel_rfl) rfl rfl ?_
        refine d_ex hF 9 rfl rfl rfl rfl rfl fun w hMs hM => ?_
        obtain ⟨x5759, hx5759, hP⟩ := bind_some hP
        refine (w_appD (X := SV) hx5759 q5644.len rfl Tryz.underlying28 in23 rfl rfl rfl rfl hF rfl rfl rfl (hM.own (X := SV) (i := 6) rfl) (hM.ptS (X := SV) (i := 0) (n := 1) (c := 1) rfl rfl rfl (Nat.le_refl _)) fun s5758 w hUs5758 => ?_)
        have hM := hM.chg hUs5758 (i := 6) rfl
        replace hM : MemL _ (pt b_B116_10 (encs ([s5756] : List SV)) 23 :: rowL 0 s5756 5 y5755 :: pt b_B45_12 (RReader.enc (RReader.mk s5752 y5749.2.at_ y5749.2.place y5749.2.e)) 176 :: pt b_B45_2 (RRecord.enc (RRecord.mk (RInput.mk s5638 s5640) SV.nil 0)) 36 :: pt b_B45_5 [.pointer (some ⟨b_B45_12, 0, none⟩)] 174 :: rowL 0 s5638 5 v5637.ctx :: rowL 0 s5758 23 (hs5641 ++ [s5756]) :: r5643 :: Lr) := hM
        obtain ⟨r5760, hj5761, hj5762, hM⟩ := joinM (selM hM [7, 1, 0, 2, 3, 4, 5, 6] 8 rfl)
        replace hM : MemL _ (r5760 :: pt b_B116_10 (encs ([s5756] : List SV)) 23 :: pt b_B45_12 (RReader.enc (RReader.mk s5752 y5749.2.at_ y5749.2.place y5749.2.e)) 176 :: pt b_B45_2 (RRecord.enc (RRecord.mk (RInput.mk s5638 s5640) SV.nil 0)) 36 :: pt b_B45_5 [.pointer (some ⟨b_B45_12, 0, none⟩)] 174 :: rowL 0 s5638 5 v5637.ctx :: rowL 0 s5758 23 (hs5641 ++ [s5756]) :: Lr) := hM
        have q5763 : Each (LIn (X := UInt8) r5760.holds') (hs5641 ++ [s5756]) x5759 := by rw [(app_some hx5759).2]; exact (q5644.mono fun _ _ q => q.mono hj5761).snoc (fun w h => row_in (X := UInt8) (e := 5) (hj5762 w h))
        replace hM : MemL _ (r5760 :: pt b_B116_10 (encs ([s5756] : List SV)) 23 :: pt b_B45_12 (RReader.enc (RReader.mk s5752 y5749.2.at_ y5749.2.place y5749.2.e)) 176 :: pt b_B45_2 (RRecord.enc (RRecord.mk (RInput.mk s5638 s5640) SV.nil 0)) 36 :: pt b_B45_5 [.pointer (some ⟨b_B45_12, 0, none⟩)] 174 :: rowL 0 s5638 5 v5637.ctx :: rowL 0 s5758 23 (hs5641 ++ [s5756]) :: Lr) := hM
        have hMs := hM
        refine ⟨_, _, hMs, hM, .inr (by kernel_rfl), fun a hF => ?_⟩
        refine d_val hF hch 10 rfl (by kernel_rfl) rfl rfl rfl (fun w hM => (r_fieldAddr (off' := 0) Tryz.underlying36 rfl in30 rfl hF rfl rfl rfl)) fun a hF => ?_
        refine d_val hF hch 11 rfl (by kernel_rfl) rfl rfl rfl (fun w hM => (r_fieldAddr (off' := 1) Tryz.underlying30 rfl in28 rfl hF rfl rfl rfl)) fun a hF => ?_
        refine d_one hch 12 (by kernel_rfl) rfl rfl ?_
        refine d_ex0 12 rfl rfl rfl rfl fun w hMs hM => ?_
        refine (w_store1 Tryz.sizeOf28 (hM.obj (i := 3) rfl) hF rfl rfl rfl rfl (by rw [RRecord.len]; decide) (set_deep (RRecord.c_in_ _) (RInput.s_tables _ _) (RRecord.p_in_ _ _) (by rw [RRecord.len]; decide) (by decide)) fun w hU5764 => ?_)
        have hM := hM.chg hU5764 (i := 3) rfl
        replace hM : MemL _ (r5760 :: pt b_B116_10 (encs ([s5756] : List SV)) 23 :: pt b_B45_12 (RReader.enc (RReader.mk s5752 y5749.2.at_ y5749.2.place y5749.2.e)) 176 :: pt b_B45_2 (RRecord.enc (RRecord.mk (RInput.mk s5638 s5758) SV.nil 0)) 36 :: pt b_B45_5 [.pointer (some ⟨b_B45_12, 0, none⟩)] 174 :: rowL 0 s5638 5 v5637.ctx :: rowL 0 s5758 23 (hs5641 ++ [s5756]) :: Lr) := hM
        have hMs := hM
        refine ⟨_, _, hMs, hM, .inr (by kernel_rfl), ?_⟩
        refine d_end hch (by kernel_rfl) fun w hM => ?_
        have hP := Option.some.inj hP
        subst hP
        refine e_end0 Tryz.results116 hF ?_
        exact ⟨(y5749.2, (QInput.mk v5637.ctx x5759)), rfl, s5752, s5638, s5758, (hs5641 ++ [s5756]), r5760, rfl, f5753, q5763, selM hM [2, 3, 5, 6, 0, 4] 7 rfl⟩
      obtain ⟨⟨v5733, v5736⟩, rfl, s5734, s5737, s5739, hs5740, r5742, rfl, f5735, q5743, hM⟩ := hR
      replace hP : Sh.trace_Decode_c5 v5645 v5733 v5736 = _ := hK_c5
      unfold Sh.trace_Decode_c5 at hP
      intro a hF
      refine c_nil (n_block (n_then ?_))
      refine c_region ?_
      refine s_val hF (r_move hF rfl rfl) rfl rfl rfl fun a hF => ?_
      refine s_val hF (r_sub hF rfl rfl rfl) rfl rfl rfl fun a hF => ?_
      refine s_val hF (r_assign hF rfl rfl) rfl rfl rfl fun a hF => ?_
      refine c_nil (n_then ?_)
      have hP := Option.some.inj hP
      subst hP
      exact ⟨(v5733, v5736, (IntKind.i64.wrap (v5645 - 1))), rfl, s5734, s5737, s5739, hs5740, r5742, f5735, q5743, hF.to ⟨rfl, rfl, rfl, trivial⟩, hM⟩
    have hP := Fx.cF hb5658 hP
    refine c_exit (x_then (x_then (x_hit ?_)))
    have hP := Option.some.inj hP
    subst hP
    have hP := hK_l3 _ rfl
    subst hP
    refine e_end0 Tryz.results114 hF ?_
    exact ⟨(v5634, v5637), rfl, s5635, s5638, s5640, hs5641, r5643, rfl, f5636, q5644, selM hM [0, 1, 3, 4, 5, 2] 6 rfl⟩
  obtain ⟨⟨v5367, v5370⟩, rfl, s5368, s5371, s5373, hs5374, r5376, rfl, f5369, q5377, hM⟩ := hR
  replace hP : Sh.trace_Decode_c2 x0 v5367 v5370 = _ := hK_c2
  unfold Sh.trace_Decode_c2 at hP
  replace hM : MemL _ (pt b_B45_12 (RReader.enc (RReader.mk s5368 v5367.at_ v5367.place v5367.e)) 176 :: pt b_B45_2 (RRecord.enc (RRecord.mk (RInput.mk s5371 s5373) SV.nil 0)) 36 :: rowL 0 s5371 5 v5370.ctx :: rowL 0 s5373 23 hs5374 :: r5376 :: pt b_B45_5 [.pointer (some ⟨b_B45_12, 0, none⟩)] 174 :: Lr) := hM
  have hMs := hM
  refine ⟨_, _, hMs, hM, .inr (by kernel_rfl), fun a hF => ?_⟩
  refine d_end hch (by kernel_rfl) fun w hM => ?_
  refine n_then ?_
  refine c_seq ?_
  refine c_joinX hF hM hP (fun F x a w => match x with | (v5789, v5792, v5800) => ∃ (s5790 : SV) (s5793 : SV) (s5795 : SV) (hs5796 : List SV) (r5798 : Res), LIn Bf s5790 v5789.b ∧ Each (LIn (X := UInt8) r5798.holds') hs5796 v5792.tables ∧ Fr 78 [(0, (s1).v), (2, .pointer (some ⟨b_B45_2, 0, none⟩)), (3, .int .i64 0), (4, .int .i64 0), (5, .pointer (some ⟨b_B45_5, 0, none⟩))] a ∧ MemL w (pt b_B45_12 (RReader.enc (RReader.mk s5790 v5789.at_ v5789.place v5789.e)) 176 :: pt b_B45_2 (RRecord.enc (RRecord.mk (RInput.mk s5793 s5795) SV.nil v5800)) 36 :: rowL 0 s5793 5 v5792.ctx :: rowL 0 s5795 23 hs5796 :: r5798 :: pt b_B45_5 [.pointer (some ⟨b_B45_12, 0, none⟩)] 174 :: Lr)) (fun o_j6 hP hK_j6 hF hM => ?_) ?_
  · refine c_seq ?_
    refine c_region ?_
    refine s_val hF (r_load1 Tryz.isAgg174 hF rfl rfl (hM.cell (i := 5) rfl rfl)) rfl rfl rfl fun a hF => ?_
    obtain ⟨y5802, hy5802, hP⟩ := bind_some hP
    refine s_eff hF rfl rfl rfl (w_call (xs := [.tmp 31, .const (.int .i64 (1))]) Tryz.call113 hF rfl rfl (trace_reader_number_calls hy5802 hM (Bf := Bf) (fun w hM => hsub _ (dropM hM 5)) f5369) fun v w hR => ?_)
    obtain ⟨s5803, rfl, f5804, hM⟩ := hR
    replace hM : MemL _ (pt b_B45_12 (RReader.enc (RReader.mk s5803 y5802.2.at_ y5802.2.place y5802.2.e)) 176 :: pt b_B45_2 (RRecord.enc (RRecord.mk (RInput.mk s5371 s5373) SV.nil 0)) 36 :: rowL 0 s5371 5 v5370.ctx :: rowL 0 s5373 23 hs5374 :: r5376 :: pt b_B45_5 [.pointer (some ⟨b_B45_12, 0, none⟩)] 174 :: Lr) := hM
    intro a hF
    refine s_val hF (r_fieldAddr (off' := 3) Tryz.underlying36 rfl in34 rfl hF rfl rfl rfl) rfl rfl rfl fun a hF => ?_
    refine s_eff0 rfl rfl (w_store1 Tryz.sizeOf34 (hM.obj (i := 1) rfl) hF rfl rfl rfl rfl (by rw [RRecord.len]; decide) (RRecord.s_end_ _ _) fun w hU5805 => ?_)
    have hM := hM.chg hU5805 (i := 1) rfl
    replace hM : MemL _ (pt b_B45_12 (RReader.enc (RReader.mk s5803 y5802.2.at_ y5802.2.place y5802.2.e)) 176 :: pt b_B45_2 (RRecord.enc (RRecord.mk (RInput.mk s5371 s5373) SV.nil y5802.1)) 36 :: rowL 0 s5371 5 v5370.ctx :: rowL 0 s5373 23 hs5374 :: r5376 :: pt b_B45_5 [.pointer (some ⟨b_B45_12, 0, none⟩)] 174 :: Lr) := hM
    refine c_nil (n_then ?_)
    refine c_seq ?_
    refine c_region ?_
    refine s_val hF (r_fieldAddr (off' := 3) Tryz.underlying36 rfl in34 rfl hF rfl rfl rfl) rfl rfl rfl fun a hF => ?_
    refine s_val hF (r_load1 Tryz.isAgg34 hF rfl rfl (hM.cell (i := 1) rfl (RRecord.g_end_ _))) rfl rfl rfl fun a hF => ?_
    obtain ⟨y5807, hy5807, hP⟩ := bind_some hP
    refine s_eff hF rfl rfl rfl (w_call (xs := [.tmp 35]) Tryz.call100 hF rfl rfl (trace_goodEnd_calls hy5807 hM ) fun v w hR => ?_)
    obtain ⟨rfl, hM⟩ := hR
    replace hM : MemL _ (pt b_B45_12 (RReader.enc (RReader.mk s5803 y5802.2.at_ y5802.2.place y5802.2.e)) 176 :: pt b_B45_2 (RRecord.enc (RRecord.mk (RInput.mk s5371 s5373) SV.nil y5802.1)) 36 :: rowL 0 s5371 5 v5370.ctx :: rowL 0 s5373 23 hs5374 :: r5376 :: pt b_B45_5 [.pointer (some ⟨b_B45_12, 0, none⟩)] 174 :: Lr) := hM
    intro a hF
    refine s_val hF (r_not hF rfl rfl) rfl rfl rfl fun a hF => ?_
    refine c_nil (n_then ?_)
    refine c_cond hF (c := .tmp 37) rfl (fun hb5808 => ?_) (fun hb5808 => ?_)
    · have hP := Fx.cT hb5808 hP
      refine d_startT mixed (by kernel_rfl) hM [0, 1, 2, 3, 4, 5] 6 rfl fun hch => ?_
      refine d_val hF hch 0 rfl (by kernel_rfl) rfl rfl rfl (fun w hM => (r_load1 Tryz.isAgg174 hF rfl rfl (hM.cell (i := 5) rfl rfl))) fun a hF => ?_
      refine d_val hF hch 1 rfl (by kernel_rfl) rfl rfl rfl (fun w hM => (r_load1 Tryz.isAgg174 hF rfl rfl (hM.cell (i := 5) rfl rfl))) fun a hF => ?_
      refine d_val hF hch 2 rfl (by kernel_rfl) rfl rfl rfl (fun w hM => (r_nilCheckP hF rfl rfl)) fun a hF => ?_
      refine d_val hF hch 3 rfl (by kernel_rfl) rfl rfl rfl (fun w hM => (r_fieldAddr (off' := 1) Tryz.underlying176 rfl in3 rfl hF rfl rfl rfl)) fun a hF => ?_
      refine d_val hF hch 4 rfl (by kernel_rfl) rfl rfl rfl (fun w hM => (r_load1 Tryz.isAgg3 hF rfl rfl (hM.cell (i := 0) rfl (RReader.g_at_ _)))) fun a hF => ?_
      refine d_val hF hch 5 rfl (by kernel_rfl) rfl rfl rfl (fun w hM => (r_sub hF rfl rfl rfl)) fun a hF => ?_
      refine d_one hch 6 (by kernel_rfl) rfl rfl ?_
      refine d_ex hF 6 rfl rfl rfl rfl rfl fun w hMs hM => ?_
      obtain ⟨y5810, hy5810, hP⟩ := bind_some hP
      refine (w_call (xs := [.tmp 38, .tmp 43, .const (.int .i64 (236))]) Tryz.call112 hF rfl rfl (trace_reader_fault_calls hy5810 hM (Bf := Bf) (fun w hM => hsub _ (dropM hM 5)) f5804) fun v w hR => ?_)
      obtain ⟨s5811, rfl, f5812, hM⟩ := hR
      replace hM : MemL _ (pt b_B45_12 (RReader.enc (RReader.mk s5811 y5810.at_ y5810.place y5810.e)) 176 :: pt b_B45_2 (RRecord.enc (RRecord.mk (RInput.mk s5371 s5373) SV.nil y5802.1)) 36 :: rowL 0 s5371 5 v5370.ctx :: rowL 0 s5373 23 hs5374 :: r5376 :: pt b_B45_5 [.pointer (some ⟨b_B45_12, 0, none⟩)] 174 :: Lr) := hM
      have hMs := hM
      refine ⟨_, _, hMs, hM, .inr (by kernel_rfl), fun a hF => ?_⟩
      refine d_end hch (by kernel_rfl) fun w hM => ?_
      refine n_then ?_
      have hP := Option.some.inj hP
      subst hP
      exact ⟨(y5810, v5370, y5802.1), rfl, s5811, s5371, s5373, hs5374, r5376, f5812, q5377, hF.to ⟨rfl, rfl, rfl, rfl, rfl, trivial⟩, hM⟩
    have hP := Fx.cF hb5808 hP
    refine c_skip (n_then ?_)
    have hP := Option.some.inj hP
    subst hP
    exact ⟨(y5802.2, v5370, y5802.1), rfl, s5803, s5371, s5373, hs5374, r5376, f5804, q5377, hF.to ⟨rfl, rfl, rfl, rfl, rfl, trivial⟩, hM⟩
  rintro ⟨v5789, v5792, v5800⟩ a w hP ⟨s5790, s5793, s5795, hs5796, r5798, f5791, q5799, hF, hM⟩
  replace hP : Sh.trace_Decode_j6 x0 v5789 v5792 v5800 = _ := hP
  unfold Sh.trace_Decode_j6 at hP
  refine n_then ?_
  refine c_seq ?_
  refine d_startT mixed (by kernel_rfl) hM [1, 2, 3, 4, 5] 6 rfl fun hch => ?_
  refine d_val hF hch 0 rfl (by kernel_rfl) rfl rfl rfl (fun w hM => (r_load1 Tryz.isAgg174 hF rfl rfl (hM.cell (i := 4) rfl rfl))) fun a hF => ?_
  refine d_val hF hch 1 rfl (by kernel_rfl) rfl rfl rfl (fun w hM => (r_load1 Tryz.isAgg174 hF rfl rfl (hM.cell (i := 4) rfl rfl))) fun a hF => ?_
  refine d_val hF hch 3 rfl (by kernel_rfl) rfl rfl rfl (fun w hM => (r_makeFunc hF (fs := []) (cs := [.tmp 2, .tmp 5]) rfl rfl rfl)) fun a hF => ?_
  refine d_one hch 2 (by kernel_rfl) rfl rfl ?_
  refine d_ex hF 2 rfl rfl rfl rfl rfl fun w hMs hM => ?_
  obtain ⟨y7000, hy7000, hP⟩ := bind_some hP
  refine (w_call (xs := [.tmp 46, .const (.int .i64 (4))]) Tryz.call113 hF rfl rfl (trace_reader_number_calls hy7000 hM (Bf := Bf) (fun w hM => hsub _ (dropM hM 5)) f5791) fun v w hR => ?_)
  obtain ⟨s7001, rfl, f7002, hM⟩ := hR
  replace hM : MemL _ (pt b_B45_12 (RReader.enc (RReader.mk s7001 y7000.2.at_ y7000.2.place y7000.2.e)) 176 :: pt b_B45_2 (RRecord.enc (RRecord.mk (RInput.mk s5793 s5795) SV.nil v5800)) 36 :: rowL 0 s5793 5 v5792.ctx :: rowL 0 s5795 23 hs5796 :: r5798 :: pt b_B45_5 [.pointer (some ⟨b_B45_12, 0, none⟩)] 174 :: Lr) := hM
  have hMs := selM hM [1, 2, 3, 4, 5] 6 rfl
  refine ⟨_, _, hMs, hM, .inl fun _ h => h, fun a hF => ?_⟩
  refine d_one hch 4 (by kernel_rfl) rfl rfl ?_
  refine d_ex hF 4 rfl rfl rfl rfl rfl fun w hMs hM => ?_
  obtain ⟨o_c7, hP, hK_c7⟩ := seq_some hP
  refine (w_call (xs := [.tmp 45, .tmp 47, .tmp 48]) Tryz.call114 hF rfl rfl (R := fun v w => ∃ x, o_c7 = .inl x ∧ match x with | (v7586, v7589) => ∃ (s7587 : SV) (s7590 : SV) (s7592 : SV) (hs7593 : List SV) (r7595 : Res) (s7597 : SV) (hs7598 : List RMark) (r7600 : Res), v = .tuple #[] ∧ LIn Bf s7587 v7586.b ∧ Each (LIn (X := UInt8) r7595.holds') hs7593 v7589.in_.tables ∧ Each (QMarkIn r7600.holds') hs7598 v7589.marks ∧ MemL w (pt b_B45_12 (RReader.enc (RReader.mk s7587 v7586.at_ v7586.place v7586.e)) 176 :: pt b_B45_2 (RRecord.enc (RRecord.mk (RInput.mk s7590 s7592) s7597 v7589.end_)) 36 :: rowL 0 s7590 5 v7589.in_.ctx :: rowL 0 s7592 23 hs7593 :: r7595 :: rowL 0 s7597 60 hs7598 :: r7600 :: pt b_B45_5 [.pointer (some ⟨b_B45_12, 0, none⟩)] 174 :: Lr)) ?_ fun v w hR => ?_)
  · refine calls_enter Tryz.func114 rfl Tryz.ntmps114 rfl fun a hF => ?_
    refine c_block ?_
    obtain ⟨r8005, hM⟩ := voidM hM
    have q8006 : Each (QMarkIn r8005.holds') ([] : List RMark) ([] : List QMark) := Each.nil
    have hM := hM.rowNil (X := RMark) 0 60
    refine c_loopX hF hM hP (fun F x a w => match x with | (v7987, v7990, v8003) => ∃ (s7988 : SV) (s7991 : SV) (s7993 : SV) (hs7994 : List SV) (r7996 : Res) (s7998 : SV) (hs7999 : List RMark) (r8001 : Res), LIn Bf s7988 v7987.b ∧ Each (LIn (X := UInt8) r7996.holds') hs7994 v7990.in_.tables ∧ Each (QMarkIn r8001.holds') hs7999 v7990.marks ∧ Fr 19 [(1, .int .i64 v8003), (0, .pointer (some ⟨b_B45_12, 0, none⟩)), (2, .func (.func 117) [].toArray [.pointer (some ⟨b_B45_2, 0, none⟩), .pointer (some ⟨b_B45_5, 0, none⟩)].toArray)] a ∧ MemL w (pt b_B45_12 (RReader.enc (RReader.mk s7988 v7987.at_ v7987.place v7987.e)) 176 :: pt b_B45_2 (RRecord.enc (RRecord.mk (RInput.mk s7991 s7993) s7998 v7990.end_)) 36 :: rowL 0 s7991 5 v7990.in_.ctx :: rowL 0 s7993 23 hs7994 :: r7996 :: rowL 0 s7998 60 hs7999 :: r8001 :: pt b_B45_5 [.pointer (some ⟨b_B45_12, 0, none⟩)] 174 :: Lr)) (fun hF hM => ⟨s7001, s5793, s5795, hs5796, r5798, SV.nil, [], r8005, f7002, q5799, q8006, hF.to ⟨rfl, rfl, rfl, trivial⟩, selM hM [2, 3, 4, 5, 6, 0, 1, 7] 8 rfl⟩) ?_
    rintro ⟨v7987, v7990, v8003⟩ a w o_l8 hP hK_l8 ⟨s7988, s7991, s7993, hs7994, r7996, s7998, hs7999, r8001, f7989, q7997, q8002, hF, hM⟩
    replace hP : Sh.trace_Decode_l8 v7987 v7990 v8003 = _ := hP
    unfold Sh.trace_Decode_l8 at hP
    refine c_seq ?_
    refine c_seq ?_
    refine c_joinX hF hM hP (fun F x a w => match x with | v8014 => Fr 19 [(14, .bool v8014), (0, .pointer (some ⟨b_B45_12, 0, none⟩)), (1, .int .i64 v8003), (2, .func (.func 117) [].toArray [.pointer (some ⟨b_B45_2, 0, none⟩), .pointer (some ⟨b_B45_5, 0, none⟩)].toArray)] a ∧ MemL w (pt b_B45_12 (RReader.enc (RReader.mk s7988 v7987.at_ v7987.place v7987.e)) 176 :: pt b_B45_2 (RRecord.enc (RRecord.mk (RInput.mk s7991 s7993) s7998 v7990.end_)) 36 :: pt b_B45_5 [.pointer (some ⟨b_B45_12, 0, none⟩)] 174 :: rowL 0 s7991 5 v7990.in_.ctx :: rowL 0 s7993 23 hs7994 :: r7996 :: rowL 0 s7998 60 hs7999 :: r8001 :: Lr)) (fun o_j9 hP hK_j9 hF hM => ?_) ?_
    · refine c_region ?_
      refine s_val hF (r_move hF rfl rfl) rfl rfl rfl fun a hF => ?_
      refine s_val hF (r_gtr hF rfl rfl rfl) rfl rfl rfl fun a hF => ?_
      refine s_val hF (r_move hF rfl rfl) rfl rfl rfl fun a hF => ?_
      refine g_split 8 hF rfl (fun hb8015 => ?_) (fun hb8015 => ?_)
      · have hP := Fx.cT hb8015 hP
        refine g_val hF rfl rfl rfl hb8015 (r_move hF rfl rfl) rfl rfl fun a hF => ?_
        refine g_val hF rfl rfl rfl hb8015 (r_nilCheckP hF rfl rfl) rfl rfl fun a hF => ?_
        refine g_val hF rfl rfl rfl hb8015 (r_fieldAddr (off' := 3) Tryz.underlying176 rfl in34 rfl hF rfl rfl rfl) rfl rfl fun a hF => ?_
        refine g_val hF rfl rfl rfl hb8015 (r_load1 Tryz.isAgg34 hF rfl rfl (hM.cell (i := 0) rfl (RReader.g_e _))) rfl rfl fun a hF => ?_
        refine g_val hF rfl rfl rfl hb8015 (r_eql hF rfl rfl rfl) rfl rfl fun a hF => ?_
        refine s_val hF (r_pick1 hF rfl rfl hb8015 rfl) rfl rfl rfl fun a hF => ?_
        refine c_nil (n_then ?_)
        have hP := Option.some.inj hP
        subst hP
        exact ⟨(decide (v7987.e = 0)), rfl, hF.to ⟨rfl, rfl, rfl, rfl, trivial⟩, selM hM [0, 1, 7, 2, 3, 4, 5, 6] 8 rfl⟩
      have hP := Fx.cF hb8015 hP
      refine g_skip hF rfl rfl rfl hb8015 rfl rfl fun a hF => ?_
      refine g_skip hF rfl rfl rfl hb8015 rfl rfl fun a hF => ?_
      refine g_skip hF rfl rfl rfl hb8015 rfl rfl fun a hF => ?_
      refine g_skip hF rfl rfl rfl hb8015 rfl rfl fun a hF => ?_
      refine g_skip hF rfl rfl rfl hb8015 rfl rfl fun a hF => ?_
      refine s_val hF (r_pick0 hF rfl rfl hb8015 rfl) rfl rfl rfl fun a hF => ?_
      refine c_nil (n_then ?_)
      have hP := Option.some.inj hP
      subst hP
      exact ⟨false, rfl, hF.to ⟨rfl, rfl, rfl, rfl, trivial⟩, selM hM [0, 1, 7, 2, 3, 4, 5, 6] 8 rfl⟩
    rintro v8014 a w hP ⟨hF, hM⟩
    replace hP : Sh.trace_Decode_j9 v7987 v7990 v8003 v8014 = _ := hP
    unfold Sh.trace_Decode_j9 at hP
    refine n_then ?_
    refine c_cond hF (c := .tmp 14) rfl (fun hb8016 => ?_) (fun hb8016 => ?_)
    · have hP := Fx.cT hb8016 hP
      refine c_skip (n_then ?_)
      refine c_seq ?_
      refine c_block ?_
      refine c_region ?_
      refine s_val hF (r_move hF rfl rfl) rfl rfl rfl fun a hF => ?_
      obtain ⟨o_c10, hP, hK_c10⟩ := seq_some hP
      refine s_eff hF rfl rfl rfl (w_callF (xs := []) Tryz.call117 hF rfl rfl rfl (R := fun v w => ∃ x, o_c10 = .inl x ∧ match x with | (v8135, v8138) => ∃ (s8136 : SV) (s8139 : SV) (s8141 : SV) (hs8142 : List SV) (r8144 : Res) (s8146 : SV) (hs8147 : List RMark) (r8149 : Res), v = .tuple #[] ∧ LIn Bf s8136 v8135.b ∧ Each (LIn (X := UInt8) r8144.holds') hs8142 v8138.in_.tables ∧ Each (QMarkIn r8149.holds') hs8147 v8138.marks ∧ MemL w (pt b_B45_12 (RReader.enc (RReader.mk s8136 v8135.at_ v8135.place v8135.e)) 176 :: pt b_B45_2 (RRecord.enc (RRecord.mk (RInput.mk s8139 s8141) s8146 v8138.end_)) 36 :: rowL 0 s8139 5 v8138.in_.ctx :: rowL 0 s8141 23 hs8142 :: r8144 :: rowL 0 s8146 60 hs8147 :: r8149 :: pt b_B45_5 [.pointer (some ⟨b_B45_12, 0, none⟩)] 174 :: Lr)) ?_ fun v w hR => ?_)
      · refine calls_enter Tryz.func117 rfl Tryz.ntmps117 rfl fun a hF => ?_
        refine d_startT mixed (by kernel_rfl) hM [1, 2, 3, 4, 5, 6, 7] 8 rfl fun hch => ?_
        refine d_val hF hch 0 rfl (by kernel_rfl) rfl rfl rfl (fun w hM => (r_fieldAddr (off' := 2) Tryz.underlying36 rfl in33 rfl hF rfl rfl rfl)) fun a hF => ?_
        refine d_val hF hch 1 rfl (by kernel_rfl) rfl rfl rfl (fun w hM => (r_load1 Tryz.isAgg33 hF rfl rfl (hM.cell (i := 0) rfl (RRecord.g_marks _)))) fun a hF => ?_
        refine d_val hF hch 2 rfl (by kernel_rfl) rfl rfl rfl (fun w hM => (r_load1 Tryz.isAgg174 hF rfl rfl (hM.cell (i := 1) rfl rfl))) fun a hF => ?_
        refine d_one hch 3 (by kernel_rfl) rfl rfl ?_
        refine d_ex hF 3 rfl rfl rfl rfl rfl fun w hMs hM => ?_
        obtain ⟨y8152, hy8152, hP⟩ := bind_some hP
        refine (w_call (xs := [.tmp 4]) Tryz.call118 hF rfl rfl (trace_reader_mark_calls hy8152 hM (Bf := Bf) (fun w hM => hsub _ (dropM hM 7)) f7989) fun v w hR => ?_)
        obtain ⟨s8153, s8155, s8157, hs8158, r8160, s8162, s8164, rfl, q8161, f8165, hM⟩ := hR
        replace hM : MemL _ (rowL 0 s8153 128 y8152.1.regs :: rowL 0 s8155 151 y8152.1.slots :: rowL 0 s8157 156 hs8158 :: r8160 :: rowL 0 s8162 3 y8152.1.sent :: pt b_B45_12 (RReader.enc (RReader.mk s8164 y8152.2.at_ y8152.2.place y8152.2.e)) 176 :: pt b_B45_2 (RRecord.enc (RRecord.mk (RInput.mk s7991 s7993) s7998 v7990.end_)) 36 :: pt b_B45_5 [.pointer (some ⟨b_B45_12, 0, none⟩)] 174 :: rowL 0 s7991 5 v7990.in_.ctx :: rowL 0 s7993 23 hs7994 :: r7996 :: rowL 0 s7998 60 hs7999 :: r8001 :: Lr) := hM
        have hMs := selM hM [0, 1, 2, 3, 4, 6, 7, 8, 9, 10, 11, 12] 13 rfl
        refine ⟨_, _, hMs, hM, .inl fun _ h => dropM h 5, fun a hF => ?_⟩
        refine d_one hch 4 (by kernel_rfl) rfl rfl ?_
        refine d_ex hF 4 rfl rfl rfl rfl rfl fun w hMs hM => ?_
        refine (w_slice1 (X := RMark) (y := (RMark.mk y8152.1.at_ y8152.1.next y8152.1.done s8153 s8155 s8157 s8162)) Tryz.underlying33 in60 rfl rfl rfl rfl hF rfl rfl rfl fun b_B117_6 w hzB117_6 hAB117_6 => ?_)
        have hM := hM.plus hAB117_6
        replace hM : MemL _ (pt b_B117_6 (encs ([(RMark.mk y8152.1.at_ y8152.1.next y8152.1.done s8153 s8155 s8157 s8162)] : List RMark)) 60 :: rowL 0 s8153 128 y8152.1.regs :: rowL 0 s8155 151 y8152.1.slots :: rowL 0 s8157 156 hs8158 :: r8160 :: rowL 0 s8162 3 y8152.1.sent :: pt b_B45_12 (RReader.enc (RReader.mk s8164 y8152.2.at_ y8152.2.place y8152.2.e)) 176 :: pt b_B45_2 (RRecord.enc (RRecord.mk (RInput.mk s7991 s7993) s7998 v7990.end_)) 36 :: pt b_B45_5 [.pointer (some ⟨b_B45_12, 0, none⟩)] 174 :: rowL 0 s7991 5 v7990.in_.ctx :: rowL 0 s7993 23 hs7994 :: r7996 :: rowL 0 s7998 60 hs7999 :: r8001 :: Lr) := hM
        have hMs := selM hM [0, 1, 2, 3, 4, 5, 7, 8, 9, 10, 11, 12, 13] 14 rfl
        refine ⟨_, _, hMs, hM, .inl fun _ h => dropM h 1, fun a hF => ?_⟩
        refine d_one hch 5 (by kernel_rfl) rfl rfl ?_
        refine d_ex hF 5 rfl rfl rfl rfl rfl fun w hMs hM => ?_
        obtain ⟨x8167, hx8167, hP⟩ := bind_some hP
        refine (w_appD (X := RMark) hx8167 q8002.len rfl Tryz.underlying33 in60 rfl rfl rfl rfl hF rfl rfl rfl (hM.own (X := RMark) (i := 12) rfl) (hM.ptS (X := RMark) (i := 0) (n := 1) (c := 1) rfl rfl rfl (Nat.le_refl _)) fun s8166 w hUs8166 => ?_)
        have hM := hM.chg hUs8166 (i := 12) rfl
        replace hM : MemL _ (pt b_B117_6 (encs ([(RMark.mk y8152.1.at_ y8152.1.next y8152.1.done s8153 s8155 s8157 s8162)] : List RMark)) 60 :: rowL 0 s8153 128 y8152.1.regs :: rowL 0 s8155 151 y8152.1.slots :: rowL 0 s8157 156 hs8158 :: r8160 :: rowL 0 s8162 3 y8152.1.sent :: pt b_B45_12 (RReader.enc (RReader.mk s8164 y8152.2.at_ y8152.2.place y8152.2.e)) 176 :: pt b_B45_2 (RRecord.enc (RRecord.mk (RInput.mk s7991 s7993) s7998 v7990.end_)) 36 :: pt b_B45_5 [.pointer (some ⟨b_B45_12, 0, none⟩)] 174 :: rowL 0 s7991 5 v7990.in_.ctx :: rowL 0 s7993 23 hs7994 :: r7996 :: rowL 0 s8166 60 (hs7999 ++ [(RMark.mk y8152.1.at_ y8152.1.next y8152.1.done s8153 s8155 s8157 s8162)]) :: r8001 :: Lr) := hM
        obtain ⟨r8168, hj8169, hj8170, hM⟩ := joinM (selM hM [13, 1, 0, 2, 3, 4, 5, 6, 7, 8, 9, 10, 11, 12] 14 rfl)
        replace hM : MemL _ (r8168 :: pt b_B117_6 (encs ([(RMark.mk y8152.1.at_ y8152.1.next y8152.1.done s8153 s8155 s8157 s8162)] : List RMark)) 60 :: rowL 0 s8155 151 y8152.1.slots :: rowL 0 s8157 156 hs8158 :: r8160 :: rowL 0 s8162 3 y8152.1.sent :: pt b_B45_12 (RReader.enc (RReader.mk s8164 y8152.2.at_ y8152.2.place y8152.2.e)) 176 :: pt b_B45_2 (RRecord.enc (RRecord.mk (RInput.mk s7991 s7993) s7998 v7990.end_)) 36 :: pt b_B45_5 [.pointer (some ⟨b_B45_12, 0, none⟩)] 174 :: rowL 0 s7991 5 v7990.in_.ctx :: rowL 0 s7993 23 hs7994 :: r7996 :: rowL 0 s8166 60 (hs7999 ++ [(RMark.mk y8152.1.at_ y8152.1.next y8152.1.done s8153 s8155 s8157 s8162)]) :: Lr) := hM
        obtain ⟨r8171, hj8172, hj8173, hM⟩ := joinM (selM hM [0, 2, 1, 3, 4, 5, 6, 7, 8, 9, 10, 11, 12] 13 rfl)
        replace hM : MemL _ (r8171 :: pt b_B117_6 (encs ([(RMark.mk y8152.1.at_ y8152.1.next y8152.1.done s8153 s8155 s8157 s8162)] : List RMark)) 60 :: rowL 0 s8157 156 hs8158 :: r8160 :: rowL 0 s8162 3 y8152.1.sent :: pt b_B45_12 (RReader.enc (RReader.mk s8164 y8152.2.at_ y8152.2.place y8152.2.e)) 176 :: pt b_B45_2 (RRecord.enc (RRecord.mk (RInput.mk s7991 s7993) s7998 v7990.end_)) 36 :: pt b_B45_5 [.pointer (some ⟨b_B45_12, 0, none⟩)] 174 :: rowL 0 s7991 5 v7990.in_.ctx :: rowL 0 s7993 23 hs7994 :: r7996 :: rowL 0 s8166 60 (hs7999 ++ [(RMark.mk y8152.1.at_ y8152.1.next y8152.1.done s8153 s8155 s8157 s8162)]) :: Lr) := hM
        obtain ⟨r8174, hj8175, hj8176, hM⟩ := joinM (selM hM [0, 2, 1, 3, 4, 5, 6, 7, 8, 9, 10, 11] 12 rfl)
        replace hM : MemL _ (r8174 :: pt b_B117_6 (encs ([(RMark.mk y8152.1.at_ y8152.1.next y8152.1.done s8153 s8155 s8157 s8162)] : List RMark)) 60 :: r8160 :: rowL 0 s8162 3 y8152.1.sent :: pt b_B45_12 (RReader.enc (RReader.mk s8164 y8152.2.at_ y8152.2.place y8152.2.e)) 176 :: pt b_B45_2 (RRecord.enc (RRecord.mk (RInput.mk s7991 s7993) s7998 v7990.end_)) 36 :: pt b_B45_5 [.pointer (some ⟨b_B45_12, 0, none⟩)] 174 :: rowL 0 s7991 5 v7990.in_.ctx :: rowL 0 s7993 23 hs7994 :: r7996 :: rowL 0 s8166 60 (hs7999 ++ [(RMark.mk y8152.1.at_ y8152.1.next y8152.1.done s8153 s8155 s8157 s8162)]) :: Lr) := hM
        obtain ⟨r8177, hj8178, hj8179, hM⟩ := joinM (selM hM [0, 2, 1, 3, 4, 5, 6, 7, 8, 9, 10] 11 rfl)
        replace hM : MemL _ (r8177 :: pt b_B117_6 (encs ([(RMark.mk y8152.1.at_ y8152.1.next y8152.1.done s8153 s8155 s8157 s8162)] : List RMark)) 60 :: rowL 0 s8162 3 y8152.1.sent :: pt b_B45_12 (RReader.enc (RReader.mk s8164 y8152.2.at_ y8152.2.place y8152.2.e)) 176 :: pt b_B45_2 (RRecord.enc (RRecord.mk (RInput.mk s7991 s7993) s7998 v7990.end_)) 36 :: pt b_B45_5 [.pointer (some ⟨b_B45_12, 0, none⟩)] 174 :: rowL 0 s7991 5 v7990.in_.ctx :: rowL 0 s7993 23 hs7994 :: r7996 :: rowL 0 s8166 60 (hs7999 ++ [(RMark.mk y8152.1.at_ y8152.1.next y8152.1.done s8153 s8155 s8157 s8162)]) :: Lr) := hM
        obtain ⟨r8180, hj8181, hj8182, hM⟩ := joinM (selM hM [0, 2, 1, 3, 4, 5, 6, 7, 8, 9] 10 rfl)
        replace hM : MemL _ (r8180 :: pt b_B117_6 (encs ([(RMark.mk y8152.1.at_ y8152.1.next y8152.1.done s8153 s8155 s8157 s8162)] : List RMark)) 60 :: pt b_B45_12 (RReader.enc (RReader.mk s8164 y8152.2.at_ y8152.2.place y8152.2.e)) 176 :: pt b_B45_2 (RRecord.enc (RRecord.mk (RInput.mk s7991 s7993) s7998 v7990.end_)) 36 :: pt b_B45_5 [.pointer (some ⟨b_B45_12, 0, none⟩)] 174 :: rowL 0 s7991 5 v7990.in_.ctx :: rowL 0 s7993 23 hs7994 :: r7996 :: rowL 0 s8166 60 (hs7999 ++ [(RMark.mk y8152.1.at_ y8152.1.next y8152.1.done s8153 s8155 s8157 s8162)]) :: Lr) := hM
        have q8183 : Each (QMarkIn r8180.holds') (hs7999 ++ [(RMark.mk y8152.1.at_ y8152.1.next y8152.1.done s8153 s8155 s8157 s8162)]) x8167 := by rw [(app_some hx8167).2]; exact (q8002.mono fun _ _ q => q.mono (fun w h => (fun w h => (fun w h => (fun w h => hj8169 w (hj8172 w h)) w (hj8175 w h)) w (hj8178 w h)) w (hj8181 w h))).snoc ⟨s8153, s8155, s8157, hs8158, s8162, rfl, (fun w h => row_in (X := LTurn) (e := 128) ((fun w h => (fun w h => (fun w h => (fun w h => hj8170 w (hj8172 w h)) w (hj8175 w h)) w (hj8178 w h)) w (hj8181 w h)) w h)), (fun w h => row_in (X := LCell) (e := 151) ((fun w h => (fun w h => (fun w h => hj8173 w (hj8175 w h)) w (hj8178 w h)) w (hj8181 w h)) w h)), (fun w h => row_in (X := RPiece) (e := 156) ((fun w h => (fun w h => hj8176 w (hj8178 w h)) w (hj8181 w h)) w h)), (q8161.mono fun _ _ q => q.mono (fun w h => hj8179 w (hj8181 w h))), (fun w h => row_in (X := Int) (e := 3) (hj8182 w h))⟩
        replace hM : MemL _ (r8180 :: pt b_B117_6 (encs ([(RMark.mk y8152.1.at_ y8152.1.next y8152.1.done s8153 s8155 s8157 s8162)] : List RMark)) 60 :: pt b_B45_12 (RReader.enc (RReader.mk s8164 y8152.2.at_ y8152.2.place y8152.2.e)) 176 :: pt b_B45_2 (RRecord.enc (RRecord.mk (RInput.mk s7991 s7993) s7998 v7990.end_)) 36 :: pt b_B45_5 [.pointer (some ⟨b_B45_12, 0, none⟩)] 174 :: rowL 0 s7991 5 v7990.in_.ctx :: rowL 0 s7993 23 hs7994 :: r7996 :: rowL 0 s8166 60 (hs7999 ++ [(RMark.mk y8152.1.at_ y8152.1.next y8152.1.done s8153 s8155 s8157 s8162)]) :: Lr) := hM
        have hMs := hM
        refine ⟨_, _, hMs, hM, .inr (by kernel_rfl), fun a hF => ?_⟩
        refine d_val hF hch 6 rfl (by kernel_rfl) rfl rfl rfl (fun w hM => (r_fieldAddr (off' := 2) Tryz.underlying36 rfl in33 rfl hF rfl rfl rfl)) fun a hF => ?_
        refine d_one hch 7 (by kernel_rfl) rfl rfl ?_
        refine d_ex0 7 rfl rfl rfl rfl fun w hMs hM => ?_
        refine (w_store1 Tryz.sizeOf33 (hM.obj (i := 3) rfl) hF rfl rfl rfl rfl (by rw [RRecord.len]; decide) (RRecord.s_marks _ _) fun w hU8184 => ?_)
        have hM := hM.chg hU8184 (i := 3) rfl
        replace hM : MemL _ (r8180 :: pt b_B117_6 (encs ([(RMark.mk y8152.1.at_ y8152.1.next y8152.1.done s8153 s8155 s8157 s8162)] : List RMark)) 60 :: pt b_B45_12 (RReader.enc (RReader.mk s8164 y8152.2.at_ y8152.2.place y8152.2.e)) 176 :: pt b_B45_2 (RRecord.enc (RRecord.mk (RInput.mk s7991 s7993) s8166 v7990.end_)) 36 :: pt b_B45_5 [.pointer (some ⟨b_B45_12, 0, none⟩)] 174 :: rowL 0 s7991 5 v7990.in_.ctx :: rowL 0 s7993 23 hs7994 :: r7996 :: rowL 0 s8166 60 (hs7999 ++ [(RMark.mk y8152.1.at_ y8152.1.next y8152.1.done s8153 s8155 s8157 s8162)]) :: Lr) := hM
        have hMs := hM
        refine ⟨_, _, hMs, hM, .inr (by kernel_rfl), ?_⟩
        refine d_end hch (by kernel_rfl) fun w hM => ?_
        have hP := Option.some.inj hP
        subst hP
        refine e_end0 Tryz.results117 hF ?_
        exact ⟨(y8152.2, (QRecord.mk v7990.in_ x8167 v7990.end_)), rfl, s8164, s7991, s7993, hs7994, r7996, s8166, (hs7999 ++ [(RMark.mk y8152.1.at_ y8152.1.next y8152.1.done s8153 s8155 s8157 s8162)]), r8180, rfl, f8165, q7997, q8183, selM hM [2, 3, 5, 6, 7, 8, 0, 4] 9 rfl⟩
      obtain ⟨⟨v8135, v8138⟩, rfl, s8136, s8139, s8141, hs8142, r8144, s8146, hs8147, r8149, rfl, f8137, q8145, q8150, hM⟩ := hR
      replace hP : Sh.trace_Decode_c10 v8003 v8135 v8138 = _ := hK_c10
      unfold Sh.trace_Decode_c10 at hP
      intro a hF
      refine c_nil (n_block (n_then ?_))
      refine c_region ?_
      refine s_val hF (r_move hF rfl rfl) rfl rfl rfl fun a hF => ?_
      refine s_val hF (r_sub hF rfl rfl rfl) rfl rfl rfl fun a hF => ?_
      refine s_val hF (r_assign hF rfl rfl) rfl rfl rfl fun a hF => ?_
      refine c_nil (n_then ?_)
      have hP := Option.some.inj hP
      subst hP
      exact ⟨(v8135, v8138, (IntKind.i64.wrap (v8003 - 1))), rfl, s8136, s8139, s8141, hs8142, r8144, s8146, hs8147, r8149, f8137, q8145, q8150, hF.to ⟨rfl, rfl, rfl, trivial⟩, hM⟩
    have hP := Fx.cF hb8016 hP
    refine c_exit (x_then (x_then (x_hit ?_)))
    have hP := Option.some.inj hP
    subst hP
    have hP := hK_l8 _ rfl
    subst hP
    refine e_end0 Tryz.results114 hF ?_
    exact ⟨(v7987, v7990), rfl, s7988, s7991, s7993, hs7994, r7996, s7998, hs7999, r8001, rfl, f7989, q7997, q8002, selM hM [0, 1, 3, 4, 5, 6, 7, 2] 8 rfl⟩
  obtain ⟨⟨v7586, v7589⟩, rfl, s7587, s7590, s7592, hs7593, r7595, s7597, hs7598, r7600, rfl, f7588, q7596, q7601, hM⟩ := hR
  replace hP : Sh.trace_Decode_c7 x0 v7586 v7589 = _ := hK_c7
  unfold Sh.trace_Decode_c7 at hP
  replace hM : MemL _ (pt b_B45_12 (RReader.enc (RReader.mk s7587 v7586.at_ v7586.place v7586.e)) 176 :: pt b_B45_2 (RRecord.enc (RRecord.mk (RInput.mk s7590 s7592) s7597 v7589.end_)) 36 :: rowL 0 s7590 5 v7589.in_.ctx :: rowL 0 s7592 23 hs7593 :: r7595 :: rowL 0 s7597 60 hs7598 :: r7600 :: pt b_B45_5 [.pointer (some ⟨b_B45_12, 0, none⟩)] 174 :: Lr) := hM
  have hMs := hM
  refine ⟨_, _, hMs, hM, .inr (by kernel_rfl), fun a hF => ?_⟩
  refine d_end hch (by kernel_rfl) fun w hM => ?_
  refine n_then ?_
  refine c_seq ?_
  refine c_joinX hF hM hP (fun F x a w => match x with | v8195 => ∃ (s8196 : SV), LIn Bf s8196 v8195.b ∧ Fr 78 [(2, .pointer (some ⟨b_B45_2, 0, none⟩)), (3, .int .i64 0), (4, .int .i64 0), (5, .pointer (some ⟨b_B45_5, 0, none⟩))] a ∧ MemL w (pt b_B45_12 (RReader.enc (RReader.mk s8196 v8195.at_ v8195.place v8195.e)) 176 :: pt b_B45_2 (RRecord.enc (RRecord.mk (RInput.mk s7590 s7592) s7597 v7589.end_)) 36 :: pt b_B45_5 [.pointer (some ⟨b_B45_12, 0, none⟩)] 174 :: rowL 0 s7590 5 v7589.in_.ctx :: rowL 0 s7592 23 hs7593 :: r7595 :: rowL 0 s7597 60 hs7598 :: r7600 :: Lr)) (fun o_j11 hP hK_j11 hF hM => ?_) ?_
  · refine c_seq ?_
    refine c_region ?_
    refine s_val hF (r_load1 Tryz.isAgg174 hF rfl rfl (hM.cell (i := 7) rfl rfl)) rfl rfl rfl fun a hF => ?_
    refine s_val hF (r_nilCheckP hF rfl rfl) rfl rfl rfl fun a hF => ?_
    refine s_val hF (r_fieldAddr (off' := 1) Tryz.underlying176 rfl in3 rfl hF rfl rfl rfl) rfl rfl rfl fun a hF => ?_
    refine s_val hF (r_load1 Tryz.isAgg3 hF rfl rfl (hM.cell (i := 0) rfl (RReader.g_at_ _))) rfl rfl rfl fun a hF => ?_
    refine s_val hF (r_move hF rfl rfl) rfl rfl rfl fun a hF => ?_
    refine s_val hF (r_lenL (f2 _ (hsub _ (dropM hM 8))) Tryz.underlying23 hF rfl rfl) rfl rfl rfl fun a hF => ?_
    refine s_val hF (r_lss hF rfl rfl rfl) rfl rfl rfl fun a hF => ?_
    refine c_nil (n_then ?_)
    refine c_cond hF (c := .tmp 56) rfl (fun hb8198 => ?_) (fun hb8198 => ?_)
    · have hP := Fx.cT hb8198 hP
      refine d_startT mixed (by kernel_rfl) hM [0, 1, 2, 3, 4, 5, 6, 7] 8 rfl fun hch => ?_
      refine d_val hF hch 0 rfl (by kernel_rfl) rfl rfl rfl (fun w hM => (r_load1 Tryz.isAgg174 hF rfl rfl (hM.cell (i := 7) rfl rfl))) fun a hF => ?_
      refine d_val hF hch 1 rfl (by kernel_rfl) rfl rfl rfl (fun w hM => (r_load1 Tryz.isAgg174 hF rfl rfl (hM.cell (i := 7) rfl rfl))) fun a hF => ?_
      refine d_val hF hch 2 rfl (by kernel_rfl) rfl rfl rfl (fun w hM => (r_nilCheckP hF rfl rfl)) fun a hF => ?_
      refine d_val hF hch 3 rfl (by kernel_rfl) rfl rfl rfl (fun w hM => (r_fieldAddr (off' := 1) Tryz.underlying176 rfl in3 rfl hF rfl rfl rfl)) fun a hF => ?_
      refine d_val hF hch 4 rfl (by kernel_rfl) rfl rfl rfl (fun w hM => (r_load1 Tryz.isAgg3 hF rfl rfl (hM.cell (i := 0) rfl (RReader.g_at_ _)))) fun a hF => ?_
      refine d_one hch 5 (by kernel_rfl) rfl rfl ?_
      refine d_ex hF 5 rfl rfl rfl rfl rfl fun w hMs hM => ?_
      obtain ⟨y8200, hy8200, hP⟩ := bind_some hP
      refine (w_call (xs := [.tmp 57, .tmp 61, .const (.int .i64 (236))]) Tryz.call112 hF rfl rfl (trace_reader_fault_calls hy8200 hM (Bf := Bf) (fun w hM => hsub _ (dropM hM 7)) f7588) fun v w hR => ?_)
      obtain ⟨s8201, rfl, f8202, hM⟩ := hR
      replace hM : MemL _ (pt b_B45_12 (RReader.enc (RReader.mk s8201 y8200.at_ y8200.place y8200.e)) 176 :: pt b_B45_2 (RRecord.enc (RRecord.mk (RInput.mk s7590 s7592) s7597 v7589.end_)) 36 :: rowL 0 s7590 5 v7589.in_.ctx :: rowL 0 s7592 23 hs7593 :: r7595 :: rowL 0 s7597 60 hs7598 :: r7600 :: pt b_B45_5 [.pointer (some ⟨b_B45_12, 0, none⟩)] 174 :: Lr) := hM
      have hMs := hM
      refine ⟨_, _, hMs, hM, .inr (by kernel_rfl), fun a hF => ?_⟩
      refine d_end hch (by kernel_rfl) fun w hM => ?_
      refine n_then ?_
      have hP := Option.some.inj hP
      subst hP
      exact ⟨y8200, rfl, s8201, f8202, hF.to ⟨rfl, rfl, rfl, rfl, trivial⟩, selM hM [0, 1, 7, 2, 3, 4, 5, 6] 8 rfl⟩
    have hP := Fx.cF hb8198 hP
    refine c_skip (n_then ?_)
    have hP := Option.some.inj hP
    subst hP
    exact ⟨v7586, rfl, s7587, f7588, hF.to ⟨rfl, rfl, rfl, rfl, trivial⟩, selM hM [0, 1, 7, 2, 3, 4, 5, 6] 8 rfl⟩
  rintro v8195 a w hP ⟨s8196, f8197, hF, hM⟩
  replace hP : Sh.trace_Decode_j11 v7589 v8195 = _ := hP
  unfold Sh.trace_Decode_j11 at hP
  refine n_then ?_
  refine c_seq ?_
  refine c_seq ?_
  refine c_region ?_
  refine s_val hF (r_load1 Tryz.isAgg174 hF rfl rfl (hM.cell (i := 2) rfl rfl)) rfl rfl rfl fun a hF => ?_
  refine s_val hF (r_nilCheckP hF rfl rfl) rfl rfl rfl fun a hF => ?_
  refine s_val hF (r_fieldAddr (off' := 3) Tryz.underlying176 rfl in34 rfl hF rfl rfl rfl) rfl rfl rfl fun a hF => ?_
  refine s_val hF (r_load1 Tryz.isAgg34 hF rfl rfl (hM.cell (i := 0) rfl (RReader.g_e _))) rfl rfl rfl fun a hF => ?_
  refine s_val hF (r_neq hF rfl rfl rfl) rfl rfl rfl fun a hF => ?_
  refine c_nil (n_then ?_)
  refine c_cond hF (c := .tmp 67) rfl (fun hb8206 => ?_) (fun hb8206 => ?_)
  · have hP := Fx.cT hb8206 hP
    refine c_seq ?_
    refine d_startT mixed (by kernel_rfl) hM [0, 2, 3, 4, 5, 6, 7] 8 rfl fun hch => ?_
    refine d_val hF hch 0 rfl (by kernel_rfl) rfl rfl rfl (fun w hM => (r_build z36 Tryz.underlying36 pl36 hF (parts := []) rfl rfl fill_e)) fun a hF => ?_
    refine d_val hF hch 1 rfl (by kernel_rfl) rfl rfl rfl (fun w hM => (r_load1 Tryz.isAgg174 hF rfl rfl (hM.cell (i := 1) rfl rfl))) fun a hF => ?_
    refine d_val hF hch 2 rfl (by kernel_rfl) rfl rfl rfl (fun w hM => (r_nilCheckP hF rfl rfl)) fun a hF => ?_
    refine d_val hF hch 3 rfl (by kernel_rfl) rfl rfl rfl (fun w hM => (r_fieldAddr (off' := 2) Tryz.underlying176 rfl in3 rfl hF rfl rfl rfl)) fun a hF => ?_
    refine d_val hF hch 4 rfl (by kernel_rfl) rfl rfl rfl (fun w hM => (r_load1 Tryz.isAgg3 hF rfl rfl (hM.cell (i := 0) rfl (RReader.g_place _)))) fun a hF => ?_
    refine d_val hF hch 5 rfl (by kernel_rfl) rfl rfl rfl (fun w hM => (r_load1 Tryz.isAgg174 hF rfl rfl (hM.cell (i := 1) rfl rfl))) fun a hF => ?_
    refine d_val hF hch 6 rfl (by kernel_rfl) rfl rfl rfl (fun w hM => (r_nilCheckP hF rfl rfl)) fun a hF => ?_
    refine d_val hF hch 7 rfl (by kernel_rfl) rfl rfl rfl (fun w hM => (r_fieldAddr (off' := 3) Tryz.underlying176 rfl in34 rfl hF rfl rfl rfl)) fun a hF => ?_
    refine d_val hF hch 8 rfl (by kernel_rfl) rfl rfl rfl (fun w hM => (r_load1 Tryz.isAgg34 hF rfl rfl (hM.cell (i := 0) rfl (RReader.g_e _)))) fun a hF => ?_
    refine d_one hch 9 (by kernel_rfl) rfl rfl ?_
    refine d_ex0 9 rfl rfl rfl rfl fun w hMs hM => ?_
    refine (w_storen (vs := _) Tryz.sizeOf36 (hM.obj (i := 1) rfl) hF rfl rfl rfl rfl (RRecord.len _) (RRecord.one _) (by first | (rw [RRecord.len, RRecord.len]; decide) | (rw [RRecord.len]; decide)) (put_all ((RRecord.len _).trans (RRecord.len _).symm)) fun w hU8208 => ?_)
    have hM := hM.chg hU8208 (i := 1) rfl
    replace hM : MemL _ (pt b_B45_12 (RReader.enc (RReader.mk s8196 v8195.at_ v8195.place v8195.e)) 176 :: pt b_B45_2 (RRecord.enc (RRecord.mk (RInput.mk SV.nil SV.nil) SV.nil 0)) 36 :: pt b_B45_5 [.pointer (some ⟨b_B45_12, 0, none⟩)] 174 :: rowL 0 s7590 5 v7589.in_.ctx :: rowL 0 s7592 23 hs7593 :: r7595 :: rowL 0 s7597 60 hs7598 :: r7600 :: Lr) := hM
    have hMs := selM hM [0, 2, 3, 4, 5, 6, 7] 8 rfl
    refine ⟨_, _, hMs, hM, .inl fun _ h => h, ?_⟩
    refine d_val hF hch 10 rfl (by kernel_rfl) rfl rfl rfl (fun w hM => (r_assign hF rfl rfl)) fun a hF => ?_
    refine d_val hF hch 11 rfl (by kernel_rfl) rfl rfl rfl (fun w hM => (r_assign hF rfl rfl)) fun a hF => ?_
    refine d_end hch (by kernel_rfl) fun w hM => ?_
    refine n_then ?_
    refine c_ret ?_
    have hM := hM.rowNil (X := UInt8) 0 5
    obtain ⟨r8211, hM⟩ := voidM hM
    have q8212 : Each (LIn (X := UInt8) r8211.holds') ([] : List SV) ([] : List (List UInt8)) := Each.nil
    have hM := hM.rowNil (X := SV) 0 23
    obtain ⟨r8214, hM⟩ := voidM hM
    have q8215 : Each (QMarkIn r8214.holds') ([] : List RMark) ([] : List QMark) := Each.nil
    have hM := hM.rowNil (X := RMark) 0 60
    have hP := Option.some.inj hP
    subst hP
    refine e_ret (rs := [.cell 2 36, .tmp 3, .tmp 4]) Tryz.results45 hF (res_celln hF rfl Tryz.isAgg36 Tryz.sizeOf36 (RRecord.len _) (hM.cells (i := 6) rfl (cut_all (RRecord.len _))) (res_tmp hF rfl (res_tmp hF rfl res_nil))) rfl ?_
    exact ⟨SV.nil, SV.nil, [], r8211, SV.nil, [], r8214, rfl, q8212, q8215, selM hM [4, 2, 3, 0, 1] 13 rfl⟩
  have hP := Fx.cF hb8206 hP
  refine c_skip (n_then ?_)
  refine c_seq ?_
  refine c_region ?_
  refine s_val hF (r_loadn Tryz.isAgg36 Tryz.sizeOf36 hF rfl rfl (RRecord.len _) (hM.cells (i := 1) rfl (cut_all (RRecord.len _)))) rfl rfl rfl fun a hF => ?_
  refine s_eff0 rfl rfl (w_storen (vs := _) Tryz.sizeOf36 (hM.obj (i := 1) rfl) hF rfl rfl rfl rfl (RRecord.len _) (RRecord.one _) (by first | (rw [RRecord.len, RRecord.len]; decide) | (rw [RRecord.len]; decide)) (put_all ((RRecord.len _).trans (RRecord.len _).symm)) fun w hU8216 => ?_)
  have hM := hM.chg hU8216 (i := 1) rfl
  replace hM : MemL _ (pt b_B45_12 (RReader.enc (RReader.mk s8196 v8195.at_ v8195.place v8195.e)) 176 :: pt b_B45_2 (RRecord.enc (RRecord.mk (RInput.mk s7590 s7592) s7597 v7589.end_)) 36 :: pt b_B45_5 [.pointer (some ⟨b_B45_12, 0, none⟩)] 174 :: rowL 0 s7590 5 v7589.in_.ctx :: rowL 0 s7592 23 hs7593 :: r7595 :: rowL 0 s7597 60 hs7598 :: r7600 :: Lr) := hM
  refine s_val hF (r_assign hF rfl rfl) rfl rfl rfl fun a hF => ?_
  refine s_val hF (r_assign hF rfl rfl) rfl rfl rfl fun a hF => ?_
  refine c_nil (n_then ?_)
  refine c_ret ?_
  have hP := Option.some.inj hP
  subst hP
  refine e_ret (rs := [.cell 2 36, .tmp 3, .tmp 4]) Tryz.results45 hF (res_celln hF rfl Tryz.isAgg36 Tryz.sizeOf36 (RRecord.len _) (hM.cells (i := 1) rfl (cut_all (RRecord.len _))) (res_tmp hF rfl (res_tmp hF rfl res_nil))) rfl ?_
  exact ⟨s7590, s7592, hs7593, r7595, s7597, hs7598, r7600, rfl, q7596, q7601, selM hM [3, 4, 5, 6, 7] 8 rfl⟩
end Go.Proofs
end
section
namespace Go.Ev
set_option linter.unusedVariables false
set_option linter.unusedSimpArgs false
open Go.Fw Go.Proofs
set_option maxRecDepth 1000000
theorem known_ev : okT (acall (tabOf Tryz.prog) 1000 40 [] (.f 22 [] []) [] { h := .e, nx := 0 }) = true := by kernel_rfl
end Go.Ev
end
section
namespace Go.Proofs
open Go.Fw Go.Fx
theorem law23_known_calls {out : Bool} {w0 : World} {Lr : List Res} (hP : Sh.law23_known = some out) (hM : MemL w0 Lr) : Calls Tryz.prog 22 #[] w0 (Ret fun v w' => v = .bool out ∧ MemL w' Lr) := by
  cases hP
  refine Calls.mono (Go.Ev.closed_true (fuel := 1000) (k := 40) (by kernel_rfl) Go.Ev.known_ev w0) fun e w' he => ?_
  cases e <;> first
    | exact ⟨he.1, hM.keep he.2⟩
    | exact he
end Go.Proofs
end
section
namespace Go.Proofs
open Go.Fw Go.Fx
set_option maxRecDepth 10000
set_option linter.unusedVariables false
set_option linter.unusedSimpArgs false
set_option maxHeartbeats 4000000 in
theorem law00_behind_calls {x0 : Int} {out : UInt8} {w0 : World} {Lr : List Res} (hP : Sh.law00_behind x0 = some out) (hM : MemL w0 (Lr)) : Calls Tryz.prog 110 #[.int .i64 x0] w0 (Ret fun v w' => v = .int .u8 (out.toNat : Int) ∧ MemL w' (Lr)) := by
  unfold Sh.law00_behind at hP
  refine calls_enter (vs := [.int .i64 x0]) Tryz.func110 rfl Tryz.ntmps110 rfl fun a hF => ?_
  refine c_seq ?_
  refine c_region ?_
  refine s_val hF (r_assign hF rfl rfl) rfl rfl rfl fun a hF => ?_
  refine c_nil (n_then ?_)
  refine c_seq ?_
  refine c_region ?_
  refine s_val hF (r_move hF rfl rfl) rfl rfl rfl fun a hF => ?_
  refine s_val hF (r_mul hF rfl rfl rfl) rfl rfl rfl fun a hF => ?_
  refine s_val hF (r_add hF rfl rfl rfl) rfl rfl rfl fun a hF => ?_
  refine s_val hF (r_convB Tryz.underlying3 Tryz.underlying5 hF rfl rfl) rfl rfl rfl fun a hF => ?_
  refine s_val hF (r_assign hF rfl rfl) rfl rfl rfl fun a hF => ?_
  refine c_nil (n_then ?_)
  refine c_ret ?_
  have hP := Option.some.inj hP
  subst hP
  refine e_ret1 Tryz.results110 hF rfl ?_
  exact ⟨rfl, hM⟩
set_option maxHeartbeats 4000000 in
theorem law00_Lender_Back_calls {x0 : QLender} {x1 : List UInt8} {s1 : SV} {b0 : Nat} {s3 : SV} {out : (Bool × QLender)} {w0 : World} {Bf : World → Prop} {Lr : List Res} (hP : Sh.law00_Lender_Back x0 x1 = some out) (hM : MemL w0 (pt b0 (RLender.enc (RLender.mk s1)) 83 :: rowL 0 s1 5 x0.room :: Lr)) (hsub : ∀ w, MemL w Lr → Bf w) (f4 : LIn Bf s3 x1) : Calls Tryz.prog 47 #[.pointer (some ⟨b0, 0, none⟩), (s3).v] w0 (Ret fun v w' => ∃ (s255 : SV), v = .bool out.1 ∧ MemL w' (pt b0 (RLender.enc (RLender.mk s255)) 83 :: rowL 0 s255 5 out.2.room :: Lr)) := by
  unfold Sh.law00_Lender_Back at hP
  refine calls_enter (vs := [.pointer (some ⟨b0, 0, none⟩), (s3).v]) Tryz.func47 rfl Tryz.ntmps47 rfl fun a hF => ?_
  refine c_seq ?_
  refine c_region ?_
  refine s_val hF (r_assign hF rfl rfl) rfl rfl rfl fun a hF => ?_
  refine c_nil (n_then ?_)
  refine c_seq ?_
  refine c_region ?_
  refine s_val hF (r_move hF rfl rfl) rfl rfl rfl fun a hF => ?_
  refine s_val hF (r_lenL (f4 _ (hsub _ (dropM hM 2))) Tryz.underlying23 hF rfl rfl) rfl rfl rfl fun a hF => ?_
  refine s_val hF (r_assign hF rfl rfl) rfl rfl rfl fun a hF => ?_
  refine c_nil (n_then ?_)
  refine c_seq ?_
  refine c_region ?_
  refine s_val hF (r_move hF rfl rfl) rfl rfl rfl fun a hF => ?_
  refine s_val hF (r_nilCheckP hF rfl rfl) rfl rfl rfl fun a hF => ?_
  refine s_val hF (r_fieldAddr (off' := 0) Tryz.underlying83 rfl in23 rfl hF rfl rfl rfl) rfl rfl rfl fun a hF => ?_
  refine s_val hF (r_load1 Tryz.isAgg23 hF rfl rfl (hM.cell (i := 0) rfl (RLender.g_room _))) rfl rfl rfl fun a hF => ?_
  refine s_val hF (r_move hF rfl rfl) rfl rfl rfl fun a hF => ?_
  obtain ⟨x257, hx257, hP⟩ := bind_some hP
  refine s_val hF (r_cutZ (hM.rowS (X := UInt8) (i := 1) rfl) hx257 Tryz.underlying23 in5 rfl hF rfl rfl (.inl ⟨rfl, rfl⟩) (.inr ⟨_, _, rfl, rfl⟩)) rfl rfl rfl fun a hF => ?_
  refine s_val hF (r_move hF rfl rfl) rfl rfl rfl fun a hF => ?_
  obtain ⟨y259, hy259, hP⟩ := bind_some hP
  refine s_eff hF rfl rfl rfl (w_call (xs := [.tmp 16, .tmp 17]) Tryz.call43 hF rfl rfl (law00_SameBytes_calls hy259 hM (fun _ h => h) (fun w hM => (sl_cut (hM.rowS (X := UInt8) (i := 1) rfl) hx257 rfl)) (fun w hM => (f4 _ (hsub _ (dropM hM 2))))) fun v w hR => ?_)
  obtain ⟨rfl, hM⟩ := hR
  replace hM : MemL _ (pt b0 (RLender.enc (RLender.mk s1)) 83 :: rowL 0 s1 5 x0.room :: Lr) := hM
  intro a hF
  refine s_val hF (r_assign hF rfl rfl) rfl rfl rfl fun a hF => ?_
  refine c_nil (n_then ?_)
  refine c_seq ?_
  refine c_joinX hF hM hP (fun F x a w => match x with | v358 => Fr 60 [(6, .bool v358), (0, .pointer (some ⟨b0, 0, none⟩)), (4, .bool false), (5, .int .i64 (x1.length : Int))] a ∧ MemL w (pt b0 (RLender.enc (RLender.mk s1)) 83 :: rowL 0 s1 5 x0.room :: Lr)) (fun o_j1 hP hK_j1 hF hM => ?_) ?_
  · refine c_seq ?_
    refine c_region ?_
    refine s_val hF (r_assign hF rfl rfl) rfl rfl rfl fun a hF => ?_
    refine c_nil (n_then ?_)
    refine c_block ?_
    refine c_loopX hF hM hP (fun F x a w => match x with | (v391, v392) => Fr 60 [(6, .bool v391), (7, .int .i64 v392), (0, .pointer (some ⟨b0, 0, none⟩)), (4, .bool false), (5, .int .i64 (x1.length : Int))] a ∧ MemL w (pt b0 (RLender.enc (RLender.mk s1)) 83 :: rowL 0 s1 5 x0.room :: Lr)) (fun hF hM => ⟨hF.to ⟨rfl, rfl, rfl, rfl, rfl, trivial⟩, hM⟩) ?_
    rintro ⟨v391, v392⟩ a w o_l2 hP hK_l2 ⟨hF, hM⟩
    replace hP : Sh.law00_Lender_Back_l2 x0 x1 v391 v392 = _ := hP
    unfold Sh.law00_Lender_Back_l2 at hP
    refine c_seq ?_
    refine c_seq ?_
    refine c_region ?_
    refine s_val hF (r_move hF rfl rfl) rfl rfl rfl fun a hF => ?_
    refine s_val hF (r_move hF rfl rfl) rfl rfl rfl fun a hF => ?_
    refine s_val hF (r_add hF rfl rfl rfl) rfl rfl rfl fun a hF => ?_
    refine s_val hF (r_lss hF rfl rfl rfl) rfl rfl rfl fun a hF => ?_
    refine c_nil (n_then ?_)
    refine c_cond hF (c := .tmp 22) rfl (fun hb394 => ?_) (fun hb394 => ?_)
    · have hP := Fx.cT hb394 hP
      refine c_skip (n_then ?_)
      refine c_seq ?_
      refine c_joinX hF hM hP (fun F x a w => match x with | v403 => Fr 60 [(6, .bool v403), (0, .pointer (some ⟨b0, 0, none⟩)), (4, .bool false), (5, .int .i64 (x1.length : Int)), (7, .int .i64 v392)] a ∧ MemL w (pt b0 (RLender.enc (RLender.mk s1)) 83 :: rowL 0 s1 5 x0.room :: Lr)) (fun o_j3 hP hK_j3 hF hM => ?_) ?_
      · refine c_block ?_
        refine d_startT mixed (by kernel_rfl) hM [0, 1] 2 rfl fun hch => ?_
        refine d_val hF hch 0 rfl (by kernel_rfl) rfl rfl rfl (fun w hM => (r_move hF rfl rfl)) fun a hF => ?_
        refine d_val hF hch 1 rfl (by kernel_rfl) rfl rfl rfl (fun w hM => (r_move hF rfl rfl)) fun a hF => ?_
        refine g_split 26 hF rfl (fun hb404 => ?_) (fun hb404 => ?_)
        · have hP := Fx.cT hb404 hP
          refine d_valg hF hch 2 rfl (by kernel_rfl) rfl rfl rfl hb404 rfl rfl (fun w hM => (r_move hF rfl rfl)) fun a hF => ?_
          refine d_valg hF hch 3 rfl (by kernel_rfl) rfl rfl rfl hb404 rfl rfl (fun w hM => (r_nilCheckP hF rfl rfl)) fun a hF => ?_
          refine d_valg hF hch 4 rfl (by kernel_rfl) rfl rfl rfl hb404 rfl rfl (fun w hM => (r_fieldAddr (off' := 0) Tryz.underlying83 rfl in23 rfl hF rfl rfl rfl)) fun a hF => ?_
          refine d_valg hF hch 5 rfl (by kernel_rfl) rfl rfl rfl hb404 rfl rfl (fun w hM => (r_load1 Tryz.isAgg23 hF rfl rfl (hM.cell (i := 0) rfl (RLender.g_room _)))) fun a hF => ?_
          refine d_valg hF hch 6 rfl (by kernel_rfl) rfl rfl rfl hb404 rfl rfl (fun w hM => (r_move hF rfl rfl)) fun a hF => ?_
          refine d_valg hF hch 7 rfl (by kernel_rfl) rfl rfl rfl hb404 rfl rfl (fun w hM => (r_move hF rfl rfl)) fun a hF => ?_
          refine d_valg hF hch 8 rfl (by kernel_rfl) rfl rfl rfl hb404 rfl rfl (fun w hM => (r_add hF rfl rfl rfl)) fun a hF => ?_
          obtain ⟨x405, hx405, hP⟩ := bind_some hP
          have h0x405 := get_some hx405
          refine d_valg hF hch 9 rfl (by kernel_rfl) rfl rfl rfl hb404 rfl rfl (fun w hM => (r_indexZ (sz := 1) (hM.rowS (X := UInt8) (i := 1) rfl) Tryz.underlying23 in5 rfl hF rfl rfl rfl (get_bd hx405))) fun a hF => ?_
          refine d_valg hF hch 10 rfl (by kernel_rfl) rfl rfl rfl hb404 rfl rfl (fun w hM => (r_load1 Tryz.isAgg5 hF rfl rfl ((((hM.rowS (X := UInt8) (i := 1) rfl).elemS h0x405.2)).get 0 rfl))) fun a hF => ?_
          refine d_valg hF hch 11 rfl (by kernel_rfl) rfl rfl rfl hb404 rfl rfl (fun w hM => (r_move hF rfl rfl)) fun a hF => ?_
          refine d_one hch 12 (by kernel_rfl) rfl rfl ?_
          refine d_exg hF 12 rfl rfl rfl rfl rfl hb404 rfl rfl fun w hMs hM => ?_
          obtain ⟨y407, hy407, hP⟩ := bind_some hP
          refine (w_call (xs := [.tmp 36]) Tryz.call110 hF rfl rfl (law00_behind_calls hy407 hM ) fun v w hR => ?_)
          obtain ⟨rfl, hM⟩ := hR
          replace hM : MemL _ (pt b0 (RLender.enc (RLender.mk s1)) 83 :: rowL 0 s1 5 x0.room :: Lr) := hM
          have hMs := selM hM [0, 1] 2 rfl
          refine ⟨_, _, hMs, hM, .inl fun _ h => h, fun a hF => ?_⟩
          refine d_valg hF hch 13 rfl (by kernel_rfl) rfl rfl rfl hb404 rfl rfl (fun w hM => (r_eql hF rfl rfl rfl)) fun a hF => ?_
          refine d_val hF hch 14 rfl (by kernel_rfl) rfl rfl rfl (fun w hM => (r_pick1 hF rfl rfl hb404 rfl)) fun a hF => ?_
          refine d_one hch 15 (by kernel_rfl) rfl rfl ?_
          refine d_ex hF 15 rfl rfl rfl rfl rfl fun w hMs hM => Yd.val (r_assign hF rfl rfl) ?_
          refine ⟨_, _, hMs, hM, .inl fun _ h => h, fun a hF => ?_⟩
          refine d_end hch (by kernel_rfl) fun w hM => ?_
          refine n_block (n_then ?_)
          have hP := Option.some.inj hP
          subst hP
          exact ⟨(decide ((x405.toNat : Int) = (y407.toNat : Int))), rfl, hF.to ⟨rfl, rfl, rfl, rfl, rfl, trivial⟩, hM⟩
        have hP := Fx.cF hb404 hP
        refine d_skip hF hch 2 rfl (by kernel_rfl) rfl rfl rfl hb404 rfl rfl fun a hF => ?_
        refine d_skip hF hch 3 rfl (by kernel_rfl) rfl rfl rfl hb404 rfl rfl fun a hF => ?_
        refine d_skip hF hch 4 rfl (by kernel_rfl) rfl rfl rfl hb404 rfl rfl fun a hF => ?_
        refine d_skip hF hch 5 rfl (by kernel_rfl) rfl rfl rfl hb404 rfl rfl fun a hF => ?_
        refine d_skip hF hch 6 rfl (by kernel_rfl) rfl rfl rfl hb404 rfl rfl fun a hF => ?_
        refine d_skip hF hch 7 rfl (by kernel_rfl) rfl rfl rfl hb404 rfl rfl fun a hF => ?_
        refine d_skip hF hch 8 rfl (by kernel_rfl) rfl rfl rfl hb404 rfl rfl fun a hF => ?_
        refine d_skip hF hch 9 rfl (by kernel_rfl) rfl rfl rfl hb404 rfl rfl fun a hF => ?_
        refine d_skip hF hch 10 rfl (by kernel_rfl) rfl rfl rfl hb404 rfl rfl fun a hF => ?_
        refine d_skip hF hch 11 rfl (by kernel_rfl) rfl rfl rfl hb404 rfl rfl fun a hF => ?_
        refine d_skip hF hch 12 rfl (by kernel_rfl) rfl rfl rfl hb404 rfl rfl fun a hF => ?_
        refine d_skip hF hch 13 rfl (by kernel_rfl) rfl rfl rfl hb404 rfl rfl fun a hF => ?_
        refine d_val hF hch 14 rfl (by kernel_rfl) rfl rfl rfl (fun w hM => (r_pick0 hF rfl rfl hb404 rfl)) fun a hF => ?_
        refine d_one hch 15 (by kernel_rfl) rfl rfl ?_
        refine d_ex hF 15 rfl rfl rfl rfl rfl fun w hMs hM => Yd.val (r_assign hF rfl rfl) ?_
        refine ⟨_, _, hMs, hM, .inl fun _ h => h, fun a hF => ?_⟩
        refine d_end hch (by kernel_rfl) fun w hM => ?_
        refine n_block (n_then ?_)
        have hP := Option.some.inj hP
        subst hP
        exact ⟨false, rfl, hF.to ⟨rfl, rfl, rfl, rfl, rfl, trivial⟩, hM⟩
      rintro v403 a w hP ⟨hF, hM⟩
      replace hP : Sh.law00_Lender_Back_j3 v392 v403 = _ := hP
      unfold Sh.law00_Lender_Back_j3 at hP
      refine n_then ?_
      refine c_region ?_
      refine s_val hF (r_move hF rfl rfl) rfl rfl rfl fun a hF => ?_
      refine s_val hF (r_add hF rfl rfl rfl) rfl rfl rfl fun a hF => ?_
      refine s_val hF (r_assign hF rfl rfl) rfl rfl rfl fun a hF => ?_
      refine c_nil (n_then ?_)
      have hP := Option.some.inj hP
      subst hP
      exact ⟨(v403, (IntKind.i64.wrap (v392 + 1))), rfl, hF.to ⟨rfl, rfl, rfl, rfl, rfl, trivial⟩, hM⟩
    have hP := Fx.cF hb394 hP
    refine c_exit (x_then (x_then (x_hit ?_)))
    refine n_then ?_
    have hP := Option.some.inj hP
    subst hP
    have hP := hK_l2 _ rfl
    subst hP
    exact ⟨v391, rfl, hF.to ⟨rfl, rfl, rfl, rfl, trivial⟩, hM⟩
  rintro v358 a w hP ⟨hF, hM⟩
  replace hP : Sh.law00_Lender_Back_j1 x0 x1 v358 = _ := hP
  unfold Sh.law00_Lender_Back_j1 at hP
  refine n_then ?_
  refine c_seq ?_
  refine c_joinX hF hM hP (fun F x a w => match x with | v472 => ∃ (s473 : SV), Fr 60 [(4, .bool false), (6, .bool v358)] a ∧ MemL w (pt b0 (RLender.enc (RLender.mk s473)) 83 :: rowL 0 s473 5 v472.room :: Lr)) (fun o_j4 hP hK_j4 hF hM => ?_) ?_
  · refine c_seq ?_
    refine c_region ?_
    refine s_val hF (r_assign hF rfl rfl) rfl rfl rfl fun a hF => ?_
    refine c_nil (n_then ?_)
    refine c_block ?_
    refine c_loopX hF hM hP (fun F x a w => match x with | (v495, v498) => ∃ (s496 : SV), Fr 60 [(8, .int .i64 v498), (0, .pointer (some ⟨b0, 0, none⟩)), (4, .bool false), (5, .int .i64 (x1.length : Int)), (6, .bool v358)] a ∧ MemL w (pt b0 (RLender.enc (RLender.mk s496)) 83 :: rowL 0 s496 5 v495.room :: Lr)) (fun hF hM => ⟨s1, hF.to ⟨rfl, rfl, rfl, rfl, rfl, trivial⟩, hM⟩) ?_
    rintro ⟨v495, v498⟩ a w o_l5 hP hK_l5 ⟨s496, hF, hM⟩
    replace hP : Sh.law00_Lender_Back_l5 x1 v495 v498 = _ := hP
    unfold Sh.law00_Lender_Back_l5 at hP
    refine c_seq ?_
    refine c_seq ?_
    refine c_region ?_
    refine s_val hF (r_move hF rfl rfl) rfl rfl rfl fun a hF => ?_
    refine s_val hF (r_move hF rfl rfl) rfl rfl rfl fun a hF => ?_
    refine s_val hF (r_lss hF rfl rfl rfl) rfl rfl rfl fun a hF => ?_
    refine c_nil (n_then ?_)
    refine c_cond hF (c := .tmp 42) rfl (fun hb500 => ?_) (fun hb500 => ?_)
    · have hP := Fx.cT hb500 hP
      refine c_skip (n_then ?_)
      refine c_seq ?_
      refine c_block ?_
      refine d_startT mixed (by kernel_rfl) hM [0, 1] 2 rfl fun hch => ?_
      refine d_val hF hch 0 rfl (by kernel_rfl) rfl rfl rfl (fun w hM => (r_move hF rfl rfl)) fun a hF => ?_
      refine d_val hF hch 1 rfl (by kernel_rfl) rfl rfl rfl (fun w hM => (r_nilCheckP hF rfl rfl)) fun a hF => ?_
      refine d_val hF hch 2 rfl (by kernel_rfl) rfl rfl rfl (fun w hM => (r_fieldAddr (off' := 0) Tryz.underlying83 rfl in23 rfl hF rfl rfl rfl)) fun a hF => ?_
      refine d_val hF hch 3 rfl (by kernel_rfl) rfl rfl rfl (fun w hM => (r_load1 Tryz.isAgg23 hF rfl rfl (hM.cell (i := 0) rfl (RLender.g_room _)))) fun a hF => ?_
      refine d_val hF hch 4 rfl (by kernel_rfl) rfl rfl rfl (fun w hM => (r_move hF rfl rfl)) fun a hF => ?_
      refine d_val hF hch 5 rfl (by kernel_rfl) rfl rfl rfl (fun w hM => (r_move hF rfl rfl)) fun a hF => ?_
      refine d_val hF hch 6 rfl (by kernel_rfl) rfl rfl rfl (fun w hM => (r_nilCheckP hF rfl rfl)) fun a hF => ?_
      refine d_val hF hch 7 rfl (by kernel_rfl) rfl rfl rfl (fun w hM => (r_fieldAddr (off' := 0) Tryz.underlying83 rfl in23 rfl hF rfl rfl rfl)) fun a hF => ?_
      refine d_val hF hch 8 rfl (by kernel_rfl) rfl rfl rfl (fun w hM => (r_load1 Tryz.isAgg23 hF rfl rfl (hM.cell (i := 0) rfl (RLender.g_room _)))) fun a hF => ?_
      refine d_val hF hch 9 rfl (by kernel_rfl) rfl rfl rfl (fun w hM => (r_move hF rfl rfl)) fun a hF => ?_
      obtain ⟨x504, hx504, hP⟩ := bind_some hP
      have h0x504 := get_some hx504
      refine d_val hF hch 10 rfl (by kernel_rfl) rfl rfl rfl (fun w hM => (r_indexZ (sz := 1) (hM.rowS (X := UInt8) (i := 1) rfl) Tryz.underlying23 in5 rfl hF rfl rfl rfl (get_bd hx504))) fun a hF => ?_
      refine d_val hF hch 11 rfl (by kernel_rfl) rfl rfl rfl (fun w hM => (r_load1 Tryz.isAgg5 hF rfl rfl ((((hM.rowS (X := UInt8) (i := 1) rfl).elemS h0x504.2)).get 0 rfl))) fun a hF => ?_
      refine d_val hF hch 12 rfl (by kernel_rfl) rfl rfl rfl (fun w hM => (r_xor8 hF rfl rfl rfl)) fun a hF => ?_
      obtain ⟨x505, hx505, hP⟩ := bind_some hP
      have h0x505 := get_some hx505
      refine d_val hF hch 13 rfl (by kernel_rfl) rfl rfl rfl (fun w hM => (r_indexZ (sz := 1) (hM.rowS (X := UInt8) (i := 1) rfl) Tryz.underlying23 in5 rfl hF rfl rfl rfl (get_bd hx505))) fun a hF => ?_
      refine d_one hch 14 (by kernel_rfl) rfl rfl ?_
      refine d_ex0 14 rfl rfl rfl rfl fun w hMs hM => ?_
      refine (w_storeRow1 (d := 0) (q := (Fw.byteOf (((BitVec.ofInt 8 (x504.toNat : Int) ^^^ BitVec.ofInt 8 90).toNat : Int)))) Tryz.sizeOf5 (hM.own (X := UInt8) (i := 1) rfl) h0x505.2 hF rfl rfl rfl rfl rfl (by decide) rfl fun w hU506 => ?_)
      have hM := hM.chg hU506 (i := 1) rfl
      replace hM : MemL _ (pt b0 (RLender.enc (RLender.mk s496)) 83 :: rowL 0 s496 5 (v495.room.set (v498 : Int).toNat (Fw.byteOf (((BitVec.ofInt 8 (x504.toNat : Int) ^^^ BitVec.ofInt 8 90).toNat : Int)))) :: Lr) := hM
      have hMs := hM
      refine ⟨_, _, hMs, hM, .inr (by kernel_rfl), ?_⟩
      refine d_end hch (by kernel_rfl) fun w hM => ?_
      refine n_block (n_then ?_)
      refine c_region ?_
      refine s_val hF (r_move hF rfl rfl) rfl rfl rfl fun a hF => ?_
      refine s_val hF (r_add hF rfl rfl rfl) rfl rfl rfl fun a hF => ?_
      refine s_val hF (r_assign hF rfl rfl) rfl rfl rfl fun a hF => ?_
      refine c_nil (n_then ?_)
      have hP := Option.some.inj hP
      subst hP
      exact ⟨((QLender.mk (v495.room.set (v498 : Int).toNat (Fw.byteOf (((BitVec.ofInt 8 (x504.toNat : Int) ^^^ BitVec.ofInt 8 90).toNat : Int))))), (IntKind.i64.wrap (v498 + 1))), rfl, s496, hF.to ⟨rfl, rfl, rfl, rfl, rfl, trivial⟩, hM⟩
    have hP := Fx.cF hb500 hP
    refine c_exit (x_then (x_then (x_hit ?_)))
    refine n_then ?_
    have hP := Option.some.inj hP
    subst hP
    have hP := hK_l5 _ rfl
    subst hP
    exact ⟨v495, rfl, s496, hF.to ⟨rfl, rfl, trivial⟩, hM⟩
  rintro v472 a w hP ⟨s473, hF, hM⟩
  replace hP : Sh.law00_Lender_Back_j4 v358 v472 = _ := hP
  unfold Sh.law00_Lender_Back_j4 at hP
  refine n_then ?_
  refine c_seq ?_
  refine c_region ?_
  refine s_val hF (r_move hF rfl rfl) rfl rfl rfl fun a hF => ?_
  refine s_val hF (r_assign hF rfl rfl) rfl rfl rfl fun a hF => ?_
  refine c_nil (n_then ?_)
  refine c_ret ?_
  have hP := Option.some.inj hP
  subst hP
  refine e_ret1 Tryz.results47 hF rfl ?_
  exact ⟨s473, rfl, hM⟩
set_option maxHeartbeats 4000000 in
theorem law23_TraceDecodes_calls {x0 : List UInt8} {s1 : SV} {out : Bool} {w0 : World} {Bf : World → Prop} {Lr : List Res} (hP : Sh.law23_TraceDecodes x0 = some out) (hM : MemL w0 (Lr)) (hsub : ∀ w, MemL w Lr → Bf w) (f2 : LIn Bf s1 x0) : Calls Tryz.prog 9 #[(s1).v] w0 (Ret fun v w' => v = .bool out ∧ MemL w' (Lr)) := by
  unfold Sh.law23_TraceDecodes at hP
  refine calls_enter (vs := [(s1).v]) Tryz.func9 rfl Tryz.ntmps9 rfl fun a hF => ?_
  refine c_seq ?_
  refine c_region ?_
  refine s_val hF (r_assign hF rfl rfl) rfl rfl rfl fun a hF => ?_
  refine c_nil (n_then ?_)
  refine c_seq ?_
  refine c_seq ?_
  refine c_region ?_
  obtain ⟨y355, hy355, hP⟩ := bind_some hP
  refine s_eff hF rfl rfl rfl (w_call (xs := []) Tryz.call22 hF rfl rfl (law23_known_calls hy355 hM ) fun v w hR => ?_)
  obtain ⟨rfl, hM⟩ := hR
  replace hM : MemL _ (Lr) := hM
  intro a hF
  refine s_val hF (r_not hF rfl rfl) rfl rfl rfl fun a hF => ?_
  refine c_nil (n_then ?_)
  refine c_cond hF (c := .tmp 12) rfl (fun hb356 => ?_) (fun hb356 => ?_)
  · have hP := Fx.cT hb356 hP
    refine c_seq ?_
    refine c_region ?_
    refine s_val hF (r_assign hF rfl rfl) rfl rfl rfl fun a hF => ?_
    refine c_nil (n_then ?_)
    refine c_ret ?_
    have hP := Option.some.inj hP
    subst hP
    refine e_ret1 Tryz.results9 hF rfl ?_
    exact ⟨rfl, hM⟩
  have hP := Fx.cF hb356 hP
  refine c_skip (n_then ?_)
  refine c_seq ?_
  refine c_region ?_
  refine s_val hF (r_build z83 Tryz.underlying83 pl83 hF (parts := []) rfl rfl fill_e) rfl rfl rfl fun a hF => ?_
  refine s_eff hF rfl rfl rfl (w_box hF rfl rfl rfl fun b_B9_14 w hzB9_14 hAB9_14 => ?_)
  have hM := hM.plus hAB9_14
  replace hM : MemL _ (pt b_B9_14 (RLender.enc (RLender.mk SV.nil)) 83 :: Lr) := hM
  intro a hF
  refine s_val hF (r_assign hF rfl rfl) rfl rfl rfl fun a hF => ?_
  refine c_nil (n_then ?_)
  refine c_seq ?_
  refine c_region ?_
  refine s_val hF (r_move hF rfl rfl) rfl rfl rfl fun a hF => ?_
  refine s_val hF (r_move hF rfl rfl) rfl rfl rfl fun a hF => ?_
  obtain ⟨o_c1, hP, hK_c1⟩ := seq_some hP
  refine s_eff hF rfl rfl rfl (w_call (xs := [.tmp 15, .tmp 16]) Tryz.call44 hF rfl rfl (R := fun v w => ∃ x, o_c1 = .inl x ∧ match x with | (v490, v493) => ∃ (s491 : SV) (s494 : SV), v = (s491).v ∧ (∀ w, (rowL 0 s494 5 v493.room).holds' w → SliceOf 0 w s491 v490) ∧ MemL w (pt b_B9_14 (RLender.enc (RLender.mk s494)) 83 :: rowL 0 s494 5 v493.room :: Lr)) ?_ fun v w hR => ?_)
  · refine calls_enter Tryz.func44 rfl Tryz.ntmps44 rfl fun a hF => ?_
    refine c_seq ?_
    refine c_region ?_
    refine s_val hF (r_assign hF rfl rfl) rfl rfl rfl fun a hF => ?_
    refine c_nil (n_then ?_)
    refine c_seq ?_
    refine c_region ?_
    refine s_val hF (r_move hF rfl rfl) rfl rfl rfl fun a hF => ?_
    refine s_val hF (r_lenL (f2 _ (hsub _ (dropM hM 1))) Tryz.underlying23 hF rfl rfl) rfl rfl rfl fun a hF => ?_
    refine s_val hF (r_assign hF rfl rfl) rfl rfl rfl fun a hF => ?_
    refine c_nil (n_then ?_)
    refine c_seq ?_
    refine c_joinX hF hM hP (fun F x a w => match x with | v502 => ∃ (s503 : SV), Fr 53 [(0, .pointer (some ⟨b_B9_14, 0, none⟩)), (1, (s1).v), (4, (SV.nil).v), (5, .int .i64 (x0.length : Int))] a ∧ MemL w (pt b_B9_14 (RLender.enc (RLender.mk s503)) 83 :: rowL 0 s503 5 v502.room :: Lr)) (fun o_j2 hP hK_j2 hF hM => ?_) ?_
    · refine c_seq ?_
      refine c_region ?_
      refine s_val hF (r_move hF rfl rfl) rfl rfl rfl fun a hF => ?_
      refine s_val hF (r_nilCheckP hF rfl rfl) rfl rfl rfl fun a hF => ?_
      refine s_val hF (r_fieldAddr (off' := 0) Tryz.underlying83 rfl in23 rfl hF rfl rfl rfl) rfl rfl rfl fun a hF => ?_
      refine s_val hF (r_load1 Tryz.isAgg23 hF rfl rfl (hM.cell (i := 0) rfl (RLender.g_room _))) rfl rfl rfl fun a hF => ?_
      refine s_val hF (r_lenL (SliceOf.nil (X := UInt8) 0 w0) Tryz.underlying23 hF rfl rfl) rfl rfl rfl fun a hF => ?_
      refine s_val hF (r_move hF rfl rfl) rfl rfl rfl fun a hF => ?_
      refine s_val hF (r_mul hF rfl rfl rfl) rfl rfl rfl fun a hF => ?_
      refine s_val hF (r_add hF rfl rfl rfl) rfl rfl rfl fun a hF => ?_
      refine s_val hF (r_lss hF rfl rfl rfl) rfl rfl rfl fun a hF => ?_
      refine c_nil (n_then ?_)
      refine c_cond hF (c := .tmp 17) rfl (fun hb505 => ?_) (fun hb505 => ?_)
      · have hP := Fx.cT hb505 hP
        refine c_region ?_
        refine s_val hF (r_move hF rfl rfl) rfl rfl rfl fun a hF => ?_
        refine s_val hF (r_move hF rfl rfl) rfl rfl rfl fun a hF => ?_
        refine s_val hF (r_mul hF rfl rfl rfl) rfl rfl rfl fun a hF => ?_
        refine s_val hF (r_add hF rfl rfl rfl) rfl rfl rfl fun a hF => ?_
        obtain ⟨x506, hx506, hP⟩ := bind_some hP
        refine s_eff hF rfl rfl rfl (w_makeB hx506 Tryz.underlying23 in5 rfl rfl rfl hF rfl rfl rfl fun s_B44_22 w hAB44_22 => ?_)
        have hM := hM.plus hAB44_22
        replace hM : MemL _ (rowL 0 s_B44_22 5 x506 :: pt b_B9_14 (RLender.enc (RLender.mk SV.nil)) 83 :: Lr) := hM
        intro a hF
        refine s_val hF (r_nilCheckP hF rfl rfl) rfl rfl rfl fun a hF => ?_
        refine s_val hF (r_fieldAddr (off' := 0) Tryz.underlying83 rfl in23 rfl hF rfl rfl rfl) rfl rfl rfl fun a hF => ?_
        refine s_eff0 rfl rfl (w_store1 Tryz.sizeOf23 (hM.obj (i := 1) rfl) hF rfl rfl rfl rfl (by rw [RLender.len]; decide) (RLender.s_room _ _) fun w hU507 => ?_)
        have hM := hM.chg hU507 (i := 1) rfl
        replace hM : MemL _ (rowL 0 s_B44_22 5 x506 :: pt b_B9_14 (RLender.enc (RLender.mk s_B44_22)) 83 :: Lr) := hM
        refine c_nil (n_then ?_)
        have hP := Option.some.inj hP
        subst hP
        exact ⟨(QLender.mk x506), rfl, s_B44_22, hF.to ⟨rfl, rfl, rfl, rfl, trivial⟩, selM hM [1, 0] 2 rfl⟩
      have hP := Fx.cF hb505 hP
      refine c_skip (n_then ?_)
      have hM := hM.rowNil (X := UInt8) 0 5
      have hP := Option.some.inj hP
      subst hP
      exact ⟨(QLender.mk []), rfl, SV.nil, hF.to ⟨rfl, rfl, rfl, rfl, trivial⟩, selM hM [1, 0] 2 rfl⟩
    rintro v502 a w hP ⟨s503, hF, hM⟩
    replace hP : Sh.law23_TraceDecodes_j2 x0 v502 = _ := hP
    unfold Sh.law23_TraceDecodes_j2 at hP
    refine n_then ?_
    refine c_seq ?_
    refine c_region ?_
    refine s_val hF (r_move hF rfl rfl) rfl rfl rfl fun a hF => ?_
    refine s_val hF (r_nilCheckP hF rfl rfl) rfl rfl rfl fun a hF => ?_
    refine s_val hF (r_fieldAddr (off' := 0) Tryz.underlying83 rfl in23 rfl hF rfl rfl rfl) rfl rfl rfl fun a hF => ?_
    refine s_val hF (r_load1 Tryz.isAgg23 hF rfl rfl (hM.cell (i := 0) rfl (RLender.g_room _))) rfl rfl rfl fun a hF => ?_
    refine s_val hF (r_move hF rfl rfl) rfl rfl rfl fun a hF => ?_
    obtain ⟨x510, hx510, hP⟩ := bind_some hP
    refine s_eff hF rfl rfl rfl (w_copyX (X := UInt8) hx510 Tryz.underlying23 in5 rfl rfl hF rfl rfl rfl (hM.own (X := UInt8) (i := 1) rfl) (f2 _ (hsub _ (dropM hM 2))) fun w hU509 => ?_)
    have hM := hM.chg hU509 (i := 1) rfl
    replace hM : MemL _ (pt b_B9_14 (RLender.enc (RLender.mk s503)) 83 :: rowL 0 s503 5 x510 :: Lr) := hM
    intro a hF
    refine c_nil (n_then ?_)
    refine c_seq ?_
    refine c_joinX hF hM hP (fun F x a w => match x with | v587 => ∃ (s588 : SV), Fr 53 [(0, .pointer (some ⟨b_B9_14, 0, none⟩)), (4, (SV.nil).v), (5, .int .i64 (x0.length : Int))] a ∧ MemL w (pt b_B9_14 (RLender.enc (RLender.mk s588)) 83 :: rowL 0 s588 5 v587.room :: Lr)) (fun o_j3 hP hK_j3 hF hM => ?_) ?_
    · refine c_seq ?_
      refine c_region ?_
      refine s_val hF (r_assign hF rfl rfl) rfl rfl rfl fun a hF => ?_
      refine c_nil (n_then ?_)
      refine c_block ?_
      refine c_loopX hF hM hP (fun F x a w => match x with | (v614, v617) => ∃ (s615 : SV), Fr 53 [(6, .int .i64 v617), (0, .pointer (some ⟨b_B9_14, 0, none⟩)), (4, (SV.nil).v), (5, .int .i64 (x0.length : Int))] a ∧ MemL w (pt b_B9_14 (RLender.enc (RLender.mk s615)) 83 :: rowL 0 s615 5 v614.room :: Lr)) (fun hF hM => ⟨s503, hF.to ⟨rfl, rfl, rfl, rfl, trivial⟩, hM⟩) ?_
      rintro ⟨v614, v617⟩ a w o_l4 hP hK_l4 ⟨s615, hF, hM⟩
      replace hP : Sh.law23_TraceDecodes_l4 x0 v614 v617 = _ := hP
      unfold Sh.law23_TraceDecodes_l4 at hP
      refine c_seq ?_
      refine c_seq ?_
      refine c_region ?_
      refine s_val hF (r_move hF rfl rfl) rfl rfl rfl fun a hF => ?_
      refine s_val hF (r_move hF rfl rfl) rfl rfl rfl fun a hF => ?_
      refine s_val hF (r_add hF rfl rfl rfl) rfl rfl rfl fun a hF => ?_
      refine s_val hF (r_lss hF rfl rfl rfl) rfl rfl rfl fun a hF => ?_
      refine c_nil (n_then ?_)
      refine c_cond hF (c := .tmp 34) rfl (fun hb619 => ?_) (fun hb619 => ?_)
      · have hP := Fx.cT hb619 hP
        refine c_skip (n_then ?_)
        refine c_seq ?_
        refine c_block ?_
        refine d_startT mixed (by kernel_rfl) hM [0, 1] 2 rfl fun hch => ?_
        refine d_val hF hch 0 rfl (by kernel_rfl) rfl rfl rfl (fun w hM => (r_move hF rfl rfl)) fun a hF => ?_
        refine d_val hF hch 1 rfl (by kernel_rfl) rfl rfl rfl (fun w hM => (r_nilCheckP hF rfl rfl)) fun a hF => ?_
        refine d_val hF hch 2 rfl (by kernel_rfl) rfl rfl rfl (fun w hM => (r_fieldAddr (off' := 0) Tryz.underlying83 rfl in23 rfl hF rfl rfl rfl)) fun a hF => ?_
        refine d_val hF hch 3 rfl (by kernel_rfl) rfl rfl rfl (fun w hM => (r_load1 Tryz.isAgg23 hF rfl rfl (hM.cell (i := 0) rfl (RLender.g_room _)))) fun a hF => ?_
        refine d_val hF hch 4 rfl (by kernel_rfl) rfl rfl rfl (fun w hM => (r_move hF rfl rfl)) fun a hF => ?_
        refine d_val hF hch 5 rfl (by kernel_rfl) rfl rfl rfl (fun w hM => (r_move hF rfl rfl)) fun a hF => ?_
        refine d_val hF hch 6 rfl (by kernel_rfl) rfl rfl rfl (fun w hM => (r_add hF rfl rfl rfl)) fun a hF => ?_
        refine d_val hF hch 7 rfl (by kernel_rfl) rfl rfl rfl (fun w hM => (r_move hF rfl rfl)) fun a hF => ?_
        refine d_one hch 8 (by kernel_rfl) rfl rfl ?_
        refine d_ex hF 8 rfl rfl rfl rfl rfl fun w hMs hM => ?_
        obtain ⟨y625, hy625, hP⟩ := bind_some hP
        refine (w_call (xs := [.tmp 44]) Tryz.call110 hF rfl rfl (law00_behind_calls hy625 hM ) fun v w hR => ?_)
        obtain ⟨rfl, hM⟩ := hR
        replace hM : MemL _ (pt b_B9_14 (RLender.enc (RLender.mk s615)) 83 :: rowL 0 s615 5 v614.room :: Lr) := hM
        have hMs := selM hM [0, 1] 2 rfl
        refine ⟨_, _, hMs, hM, .inl fun _ h => h, fun a hF => ?_⟩
        obtain ⟨x626, hx626, hP⟩ := bind_some hP
        have h0x626 := get_some hx626
        refine d_val hF hch 9 rfl (by kernel_rfl) rfl rfl rfl (fun w hM => (r_indexZ (sz := 1) (hM.rowS (X := UInt8) (i := 1) rfl) Tryz.underlying23 in5 rfl hF rfl rfl rfl (get_bd hx626))) fun a hF => ?_
        refine d_one hch 10 (by kernel_rfl) rfl rfl ?_
        refine d_ex0 10 rfl rfl rfl rfl fun w hMs hM => ?_
        refine (w_storeRow1 (d := 0) (q := y625) Tryz.sizeOf5 (hM.own (X := UInt8) (i := 1) rfl) h0x626.2 hF rfl rfl rfl rfl rfl (by decide) rfl fun w hU627 => ?_)
        have hM := hM.chg hU627 (i := 1) rfl
        replace hM : MemL _ (pt b_B9_14 (RLender.enc (RLender.mk s615)) 83 :: rowL 0 s615 5 (v614.room.set ((IntKind.i64.wrap ((x0.length : Int) + v617)) : Int).toNat y625) :: Lr) := hM
        have hMs := hM
        refine ⟨_, _, hMs, hM, .inr (by kernel_rfl), ?_⟩
        refine d_end hch (by kernel_rfl) fun w hM => ?_
        refine n_block (n_then ?_)
        refine c_region ?_
        refine s_val hF (r_move hF rfl rfl) rfl rfl rfl fun a hF => ?_
        refine s_val hF (r_add hF rfl rfl rfl) rfl rfl rfl fun a hF => ?_
        refine s_val hF (r_assign hF rfl rfl) rfl rfl rfl fun a hF => ?_
        refine c_nil (n_then ?_)
        have hP := Option.some.inj hP
        subst hP
        exact ⟨((QLender.mk (v614.room.set ((IntKind.i64.wrap ((x0.length : Int) + v617)) : Int).toNat y625)), (IntKind.i64.wrap (v617 + 1))), rfl, s615, hF.to ⟨rfl, rfl, rfl, rfl, trivial⟩, hM⟩
      have hP := Fx.cF hb619 hP
      refine c_exit (x_then (x_then (x_hit ?_)))
      refine n_then ?_
      have hP := Option.some.inj hP
      subst hP
      have hP := hK_l4 _ rfl
      subst hP
      exact ⟨v614, rfl, s615, hF.to ⟨rfl, rfl, rfl, trivial⟩, hM⟩
    rintro v587 a w hP ⟨s588, hF, hM⟩
    replace hP : Sh.law23_TraceDecodes_j3 x0 v587 = _ := hP
    unfold Sh.law23_TraceDecodes_j3 at hP
    refine n_then ?_
    refine c_seq ?_
    refine c_region ?_
    refine s_val hF (r_move hF rfl rfl) rfl rfl rfl fun a hF => ?_
    refine s_val hF (r_nilCheckP hF rfl rfl) rfl rfl rfl fun a hF => ?_
    refine s_val hF (r_fieldAddr (off' := 0) Tryz.underlying83 rfl in23 rfl hF rfl rfl rfl) rfl rfl rfl fun a hF => ?_
    refine s_val hF (r_load1 Tryz.isAgg23 hF rfl rfl (hM.cell (i := 0) rfl (RLender.g_room _))) rfl rfl rfl fun a hF => ?_
    refine s_val hF (r_move hF rfl rfl) rfl rfl rfl fun a hF => ?_
    obtain ⟨x628, hx628, hP⟩ := bind_some hP
    refine s_val hF (r_cutZ (hM.rowS (X := UInt8) (i := 1) rfl) hx628 Tryz.underlying23 in5 rfl hF rfl rfl (.inl ⟨rfl, rfl⟩) (.inr ⟨_, _, rfl, rfl⟩)) rfl rfl rfl fun a hF => ?_
    refine s_val hF (r_assign hF rfl rfl) rfl rfl rfl fun a hF => ?_
    refine c_nil (n_then ?_)
    refine c_ret ?_
    have hP := Option.some.inj hP
    subst hP
    refine e_ret1 Tryz.results44 hF rfl ?_
    exact ⟨(x628, v587), rfl, (s588.cut (0 : Int).toNat ((x0.length : Int) : Int).toNat 1), s588, rfl, (fun w h => sl_cut (row_in h) hx628 rfl), hM⟩
  obtain ⟨⟨v490, v493⟩, rfl, s491, s494, rfl, f492, hM⟩ := hR
  replace hP : Sh.law23_TraceDecodes_c1 x0 v490 v493 = _ := hK_c1
  unfold Sh.law23_TraceDecodes_c1 at hP
  intro a hF
  refine s_val hF (r_assign hF rfl rfl) rfl rfl rfl fun a hF => ?_
  refine c_nil (n_then ?_)
  refine c_seq ?_
  refine c_region ?_
  refine s_val hF (r_move hF rfl rfl) rfl rfl rfl fun a hF => ?_
  obtain ⟨y630, hy630, hP⟩ := bind_some hP
  refine s_eff hF rfl rfl rfl (w_call (xs := [.tmp 19]) Tryz.call45 hF rfl rfl (trace_Decode_calls hy630 hM (fun _ h => h) (fun w hM => (f492 _ (hM.hold 1 _ rfl)))) fun v w hR => ?_)
  obtain ⟨s631, s633, hs634, r636, s638, hs639, r641, rfl, q637, q642, hM⟩ := hR
  replace hM : MemL _ (rowL 0 s631 5 y630.1.in_.ctx :: rowL 0 s633 23 hs634 :: r636 :: rowL 0 s638 60 hs639 :: r641 :: pt b_B9_14 (RLender.enc (RLender.mk s494)) 83 :: rowL 0 s494 5 v493.room :: Lr) := hM
  intro a hF
  refine s_val hF (r_move hF rfl rfl) rfl rfl rfl fun a hF => ?_
  refine s_val hF (r_extract hF rfl rfl rfl) rfl rfl rfl fun a hF => ?_
  refine s_val hF (r_extract hF rfl rfl rfl) rfl rfl rfl fun a hF => ?_
  refine s_val hF (r_extract hF rfl rfl rfl) rfl rfl rfl fun a hF => ?_
  refine s_eff hF rfl rfl rfl (w_alloc z36 (zs := RRecord.zero.enc) rfl rfl fun b_B9_5 w hzB9_5 hAB9_5 => ?_)
  have hM := hM.plus hAB9_5
  replace hM : MemL _ (pt b_B9_5 (RRecord.enc (RRecord.mk (RInput.mk SV.nil SV.nil) SV.nil 0)) 36 :: rowL 0 s631 5 y630.1.in_.ctx :: rowL 0 s633 23 hs634 :: r636 :: rowL 0 s638 60 hs639 :: r641 :: pt b_B9_14 (RLender.enc (RLender.mk s494)) 83 :: rowL 0 s494 5 v493.room :: Lr) := hM
  intro a hF
  refine s_eff0 rfl rfl (w_storen (vs := _) Tryz.sizeOf36 (hM.obj (i := 0) rfl) hF rfl rfl rfl rfl (RRecord.len _) (RRecord.one _) (by first | (rw [RRecord.len, RRecord.len]; decide) | (rw [RRecord.len]; decide)) (put_all ((RRecord.len _).trans (RRecord.len _).symm)) fun w hU643 => ?_)
  have hM := hM.chg hU643 (i := 0) rfl
  replace hM : MemL _ (pt b_B9_5 (RRecord.enc (RRecord.mk (RInput.mk s631 s633) s638 y630.1.end_)) 36 :: rowL 0 s631 5 y630.1.in_.ctx :: rowL 0 s633 23 hs634 :: r636 :: rowL 0 s638 60 hs639 :: r641 :: pt b_B9_14 (RLender.enc (RLender.mk s494)) 83 :: rowL 0 s494 5 v493.room :: Lr) := hM
  refine s_val hF (r_assign hF rfl rfl) rfl rfl rfl fun a hF => ?_
  refine s_val hF (r_assign hF rfl rfl) rfl rfl rfl fun a hF => ?_
  refine c_nil (n_then ?_)
  refine c_seq ?_
  refine c_region ?_
  refine s_val hF (r_move hF rfl rfl) rfl rfl rfl fun a hF => ?_
  obtain ⟨y645, hy645, hP⟩ := bind_some hP
  refine s_eff hF rfl rfl rfl (w_call (xs := [.tmp 25]) Tryz.call46 hF rfl rfl (ref23_Decode_calls hy645 hM (Bf := Bf) (fun w hM => hsub _ (dropM hM 8)) f2) fun v w hR => ?_)
  obtain ⟨s646, s648, hs649, r651, s653, hs654, r656, rfl, q652, q657, hM⟩ := hR
  replace hM : MemL _ (rowL 0 s646 5 y645.1.in_.ctx :: rowL 0 s648 23 hs649 :: r651 :: rowL 0 s653 60 hs654 :: r656 :: pt b_B9_5 (RRecord.enc (RRecord.mk (RInput.mk s631 s633) s638 y630.1.end_)) 36 :: rowL 0 s631 5 y630.1.in_.ctx :: rowL 0 s633 23 hs634 :: r636 :: rowL 0 s638 60 hs639 :: r641 :: pt b_B9_14 (RLender.enc (RLender.mk s494)) 83 :: rowL 0 s494 5 v493.room :: Lr) := hM
  intro a hF
  refine s_val hF (r_move hF rfl rfl) rfl rfl rfl fun a hF => ?_
  refine s_val hF (r_extract hF rfl rfl rfl) rfl rfl rfl fun a hF => ?_
  refine s_val hF (r_extract hF rfl rfl rfl) rfl rfl rfl fun a hF => ?_
  refine s_val hF (r_extract hF rfl rfl rfl) rfl rfl rfl fun a hF => ?_
  refine s_eff hF rfl rfl rfl (w_alloc z36 (zs := RRecord.zero.enc) rfl rfl fun b_B9_8 w hzB9_8 hAB9_8 => ?_)
  have hM := hM.plus hAB9_8
  replace hM : MemL _ (pt b_B9_8 (RRecord.enc (RRecord.mk (RInput.mk SV.nil SV.nil) SV.nil 0)) 36 :: rowL 0 s646 5 y645.1.in_.ctx :: rowL 0 s648 23 hs649 :: r651 :: rowL 0 s653 60 hs654 :: r656 :: pt b_B9_5 (RRecord.enc (RRecord.mk (RInput.mk s631 s633) s638 y630.1.end_)) 36 :: rowL 0 s631 5 y630.1.in_.ctx :: rowL 0 s633 23 hs634 :: r636 :: rowL 0 s638 60 hs639 :: r641 :: pt b_B9_14 (RLender.enc (RLender.mk s494)) 83 :: rowL 0 s494 5 v493.room :: Lr) := hM
  intro a hF
  refine s_eff0 rfl rfl (w_storen (vs := _) Tryz.sizeOf36 (hM.obj (i := 0) rfl) hF rfl rfl rfl rfl (RRecord.len _) (RRecord.one _) (by first | (rw [RRecord.len, RRecord.len]; decide) | (rw [RRecord.len]; decide)) (put_all ((RRecord.len _).trans (RRecord.len _).symm)) fun w hU658 => ?_)
  have hM := hM.chg hU658 (i := 0) rfl
  replace hM : MemL _ (pt b_B9_8 (RRecord.enc (RRecord.mk (RInput.mk s646 s648) s653 y645.1.end_)) 36 :: rowL 0 s646 5 y645.1.in_.ctx :: rowL 0 s648 23 hs649 :: r651 :: rowL 0 s653 60 hs654 :: r656 :: pt b_B9_5 (RRecord.enc (RRecord.mk (RInput.mk s631 s633) s638 y630.1.end_)) 36 :: rowL 0 s631 5 y630.1.in_.ctx :: rowL 0 s633 23 hs634 :: r636 :: rowL 0 s638 60 hs639 :: r641 :: pt b_B9_14 (RLender.enc (RLender.mk s494)) 83 :: rowL 0 s494 5 v493.room :: Lr) := hM
  refine s_val hF (r_assign hF rfl rfl) rfl rfl rfl fun a hF => ?_
  refine s_val hF (r_assign hF rfl rfl) rfl rfl rfl fun a hF => ?_
  refine c_nil (n_then ?_)
  refine c_seq ?_
  refine c_joinX hF hM hP (fun F x a w => match x with | (v683, v686) => ∃ (s684 : SV), Fr 53 [(2, .bool v686)] a ∧ MemL w (pt b_B9_14 (RLender.enc (RLender.mk s684)) 83 :: rowL 0 s684 5 v683.room :: rowL 0 s646 5 y645.1.in_.ctx :: rowL 0 s648 23 hs649 :: r651 :: rowL 0 s653 60 hs654 :: r656 :: rowL 0 s631 5 y630.1.in_.ctx :: rowL 0 s633 23 hs634 :: r636 :: rowL 0 s638 60 hs639 :: r641 :: Lr)) (fun o_j5 hP hK_j5 hF hM => ?_) ?_
  · refine c_region ?_
    refine s_val hF (r_move hF rfl rfl) rfl rfl rfl fun a hF => ?_
    refine s_val hF (r_move hF rfl rfl) rfl rfl rfl fun a hF => ?_
    refine s_val hF (r_eql hF rfl rfl rfl) rfl rfl rfl fun a hF => ?_
    refine s_val hF (r_move hF rfl rfl) rfl rfl rfl fun a hF => ?_
    refine g_split 33 hF rfl (fun hb687 => ?_) (fun hb687 => ?_)
    · have hP := Fx.cT hb687 hP
      refine g_val hF rfl rfl rfl hb687 (r_move hF rfl rfl) rfl rfl fun a hF => ?_
      refine g_val hF rfl rfl rfl hb687 (r_move hF rfl rfl) rfl rfl fun a hF => ?_
      refine g_val hF rfl rfl rfl hb687 (r_eql hF rfl rfl rfl) rfl rfl fun a hF => ?_
      refine s_val hF (r_pick1 hF rfl rfl hb687 rfl) rfl rfl rfl fun a hF => ?_
      refine s_val hF (r_move hF rfl rfl) rfl rfl rfl fun a hF => ?_
      refine g_split 38 hF rfl (fun hb688 => ?_) (fun hb688 => ?_)
      · have hP := Fx.cT hb688 hP
        refine g_val hF rfl rfl rfl hb688 (r_loadn Tryz.isAgg36 Tryz.sizeOf36 hF rfl rfl (RRecord.len _) (hM.cells (i := 6) rfl (cut_all (RRecord.len _)))) rfl rfl fun a hF => ?_
        refine g_val hF rfl rfl rfl hb688 (r_loadn Tryz.isAgg36 Tryz.sizeOf36 hF rfl rfl (RRecord.len _) (hM.cells (i := 0) rfl (cut_all (RRecord.len _)))) rfl rfl fun a hF => ?_
        obtain ⟨y690, hy690, hP⟩ := bind_some hP
        refine g_eff hF rfl rfl rfl hb688 rfl rfl (w_call (xs := [.tmp 39, .tmp 40]) Tryz.call27 hF rfl rfl (law23_sameRecord_calls hy690 hM (fun _ h => h) (fun w hM => (hM.rowS (X := UInt8) (i := 7) rfl)) (fun w hM => (hM.rowS (X := SV) (i := 8) rfl)) (q637.mono fun _ _ q => q.mono fun w hM => hM.hold 9 _ rfl) (fun w hM => (hM.rowS (X := RMark) (i := 10) rfl)) (q642.mono fun _ _ q => q.mono fun w hM => hM.hold 11 _ rfl) (fun w hM => (hM.rowS (X := UInt8) (i := 1) rfl)) (fun w hM => (hM.rowS (X := SV) (i := 2) rfl)) (q652.mono fun _ _ q => q.mono fun w hM => hM.hold 3 _ rfl) (fun w hM => (hM.rowS (X := RMark) (i := 4) rfl)) (q657.mono fun _ _ q => q.mono fun w hM => hM.hold 5 _ rfl)) fun v w hR => ?_)
        obtain ⟨rfl, hM⟩ := hR
        replace hM : MemL _ (pt b_B9_8 (RRecord.enc (RRecord.mk (RInput.mk s646 s648) s653 y645.1.end_)) 36 :: rowL 0 s646 5 y645.1.in_.ctx :: rowL 0 s648 23 hs649 :: r651 :: rowL 0 s653 60 hs654 :: r656 :: pt b_B9_5 (RRecord.enc (RRecord.mk (RInput.mk s631 s633) s638 y630.1.end_)) 36 :: rowL 0 s631 5 y630.1.in_.ctx :: rowL 0 s633 23 hs634 :: r636 :: rowL 0 s638 60 hs639 :: r641 :: pt b_B9_14 (RLender.enc (RLender.mk s494)) 83 :: rowL 0 s494 5 v493.room :: Lr) := hM
        intro a hF
        refine s_val hF (r_pick1 hF rfl rfl hb688 rfl) rfl rfl rfl fun a hF => ?_
        refine s_val hF (r_move hF rfl rfl) rfl rfl rfl fun a hF => ?_
        refine g_split 43 hF rfl (fun hb691 => ?_) (fun hb691 => ?_)
        · have hP := Fx.cT hb691 hP
          refine g_val hF rfl rfl rfl hb691 (r_move hF rfl rfl) rfl rfl fun a hF => ?_
          refine g_val hF rfl rfl rfl hb691 (r_move hF rfl rfl) rfl rfl fun a hF => ?_
          obtain ⟨y693, hy693, hP⟩ := bind_some hP
          refine g_eff hF rfl rfl rfl hb691 rfl rfl (w_call (xs := [.tmp 44, .tmp 45]) Tryz.call47 hF rfl rfl (law00_Lender_Back_calls hy693 (selM hM [12, 13, 0, 1, 2, 3, 4, 5, 6, 7, 8, 9, 10, 11] 14 rfl) (Bf := Bf) (fun w hM => hsub _ (dropM hM 12)) f2) fun v w hR => ?_)
          obtain ⟨s694, rfl, hM⟩ := hR
          replace hM : MemL _ (pt b_B9_14 (RLender.enc (RLender.mk s694)) 83 :: rowL 0 s694 5 y693.2.room :: pt b_B9_8 (RRecord.enc (RRecord.mk (RInput.mk s646 s648) s653 y645.1.end_)) 36 :: rowL 0 s646 5 y645.1.in_.ctx :: rowL 0 s648 23 hs649 :: r651 :: rowL 0 s653 60 hs654 :: r656 :: pt b_B9_5 (RRecord.enc (RRecord.mk (RInput.mk s631 s633) s638 y630.1.end_)) 36 :: rowL 0 s631 5 y630.1.in_.ctx :: rowL 0 s633 23 hs634 :: r636 :: rowL 0 s638 60 hs639 :: r641 :: Lr) := hM
          intro a hF
          refine s_val hF (r_pick1 hF rfl rfl hb691 rfl) rfl rfl rfl fun a hF => ?_
          refine s_val hF (r_move hF rfl rfl) rfl rfl rfl fun a hF => ?_
          refine g_split 48 hF rfl (fun hb696 => ?_) (fun hb696 => ?_)
          · have hP := Fx.cT hb696 hP
            refine g_val hF rfl rfl rfl hb696 (r_loadn Tryz.isAgg36 Tryz.sizeOf36 hF rfl rfl (RRecord.len _) (hM.cells (i := 8) rfl (cut_all (RRecord.len _)))) rfl rfl fun a hF => ?_
            refine g_val hF rfl rfl rfl hb696 (r_loadn Tryz.isAgg36 Tryz.sizeOf36 hF rfl rfl (RRecord.len _) (hM.cells (i := 2) rfl (cut_all (RRecord.len _)))) rfl rfl fun a hF => ?_
            obtain ⟨y698, hy698, hP⟩ := bind_some hP
            refine g_eff hF rfl rfl rfl hb696 rfl rfl (w_call (xs := [.tmp 49, .tmp 50]) Tryz.call27 hF rfl rfl (law23_sameRecord_calls hy698 hM (fun _ h => h) (fun w hM => (hM.rowS (X := UInt8) (i := 9) rfl)) (fun w hM => (hM.rowS (X := SV) (i := 10) rfl)) (q637.mono fun _ _ q => q.mono fun w hM => hM.hold 11 _ rfl) (fun w hM => (hM.rowS (X := RMark) (i := 12) rfl)) (q642.mono fun _ _ q => q.mono fun w hM => hM.hold 13 _ rfl) (fun w hM => (hM.rowS (X := UInt8) (i := 3) rfl)) (fun w hM => (hM.rowS (X := SV) (i := 4) rfl)) (q652.mono fun _ _ q => q.mono fun w hM => hM.hold 5 _ rfl) (fun w hM => (hM.rowS (X := RMark) (i := 6) rfl)) (q657.mono fun _ _ q => q.mono fun w hM => hM.hold 7 _ rfl)) fun v w hR => ?_)
            obtain ⟨rfl, hM⟩ := hR
            replace hM : MemL _ (pt b_B9_14 (RLender.enc (RLender.mk s694)) 83 :: rowL 0 s694 5 y693.2.room :: pt b_B9_8 (RRecord.enc (RRecord.mk (RInput.mk s646 s648) s653 y645.1.end_)) 36 :: rowL 0 s646 5 y645.1.in_.ctx :: rowL 0 s648 23 hs649 :: r651 :: rowL 0 s653 60 hs654 :: r656 :: pt b_B9_5 (RRecord.enc (RRecord.mk (RInput.mk s631 s633) s638 y630.1.end_)) 36 :: rowL 0 s631 5 y630.1.in_.ctx :: rowL 0 s633 23 hs634 :: r636 :: rowL 0 s638 60 hs639 :: r641 :: Lr) := hM
            intro a hF
            refine s_val hF (r_pick1 hF rfl rfl hb696 rfl) rfl rfl rfl fun a hF => ?_
            refine s_val hF (r_assign hF rfl rfl) rfl rfl rfl fun a hF => ?_
            refine c_nil (n_then ?_)
            have hP := Option.some.inj hP
            subst hP
            exact ⟨(y693.2, y698), rfl, s694, hF.to ⟨rfl, trivial⟩, selM hM [0, 1, 3, 4, 5, 6, 7, 9, 10, 11, 12, 13] 14 rfl⟩
          have hP := Fx.cF hb696 hP
          refine g_skip hF rfl rfl rfl hb696 rfl rfl fun a hF => ?_
          refine g_skip hF rfl rfl rfl hb696 rfl rfl fun a hF => ?_
          refine g_skip hF rfl rfl rfl hb696 rfl rfl fun a hF => ?_
          refine s_val hF (r_pick0 hF rfl rfl hb696 rfl) rfl rfl rfl fun a hF => ?_
          refine s_val hF (r_assign hF rfl rfl) rfl rfl rfl fun a hF => ?_
          refine c_nil (n_then ?_)
          have hP := Option.some.inj hP
          subst hP
          exact ⟨(y693.2, false), rfl, s694, hF.to ⟨rfl, trivial⟩, selM hM [0, 1, 3, 4, 5, 6, 7, 9, 10, 11, 12, 13] 14 rfl⟩
        have hP := Fx.cF hb691 hP
        refine g_skip hF rfl rfl rfl hb691 rfl rfl fun a hF => ?_
        refine g_skip hF rfl rfl rfl hb691 rfl rfl fun a hF => ?_
        refine g_skip hF rfl rfl rfl hb691 rfl rfl fun a hF => ?_
        refine s_val hF (r_pick0 hF rfl rfl hb691 rfl) rfl rfl rfl fun a hF => ?_
        refine s_val hF (r_move hF rfl rfl) rfl rfl rfl fun a hF => ?_
        refine g_skip hF rfl rfl rfl rfl rfl rfl fun a hF => ?_
        refine g_skip hF rfl rfl rfl rfl rfl rfl fun a hF => ?_
        refine g_skip hF rfl rfl rfl rfl rfl rfl fun a hF => ?_
        refine s_val hF (r_pick0 hF rfl rfl rfl rfl) rfl rfl rfl fun a hF => ?_
        refine s_val hF (r_assign hF rfl rfl) rfl rfl rfl fun a hF => ?_
        refine c_nil (n_then ?_)
        have hP := Option.some.inj hP
        subst hP
        exact ⟨(v493, false), rfl, s494, hF.to ⟨rfl, trivial⟩, selM hM [12, 13, 1, 2, 3, 4, 5, 7, 8, 9, 10, 11] 14 rfl⟩
      have hP := Fx.cF hb688 hP
      refine g_skip hF rfl rfl rfl hb688 rfl rfl fun a hF => ?_
      refine g_skip hF rfl rfl rfl hb688 rfl rfl fun a hF => ?_
      refine g_skip hF rfl rfl rfl hb688 rfl rfl fun a hF => ?_
      refine s_val hF (r_pick0 hF rfl rfl hb688 rfl) rfl rfl rfl fun a hF => ?_
      refine s_val hF (r_move hF rfl rfl) rfl rfl rfl fun a hF => ?_
      refine g_skip hF rfl rfl rfl rfl rfl rfl fun a hF => ?_
      refine g_skip hF rfl rfl rfl rfl rfl rfl fun a hF => ?_
      refine g_skip hF rfl rfl rfl rfl rfl rfl fun a hF => ?_
      refine s_val hF (r_pick0 hF rfl rfl rfl rfl) rfl rfl rfl fun a hF => ?_
      refine s_val hF (r_move hF rfl rfl) rfl rfl rfl fun a hF => ?_
      refine g_skip hF rfl rfl rfl rfl rfl rfl fun a hF => ?_
      refine g_skip hF rfl rfl rfl rfl rfl rfl fun a hF => ?_
      refine g_skip hF rfl rfl rfl rfl rfl rfl fun a hF => ?_
      refine s_val hF (r_pick0 hF rfl rfl rfl rfl) rfl rfl rfl fun a hF => ?_
      refine s_val hF (r_assign hF rfl rfl) rfl rfl rfl fun a hF => ?_
      refine c_nil (n_then ?_)
      have hP := Option.some.inj hP
      subst hP
      exact ⟨(v493, false), rfl, s494, hF.to ⟨rfl, trivial⟩, selM hM [12, 13, 1, 2, 3, 4, 5, 7, 8, 9, 10, 11] 14 rfl⟩
    have hP := Fx.cF hb687 hP
    refine g_skip hF rfl rfl rfl hb687 rfl rfl fun a hF => ?_
    refine g_skip hF rfl rfl rfl hb687 rfl rfl fun a hF => ?_
    refine g_skip hF rfl rfl rfl hb687 rfl rfl fun a hF => ?_
    refine s_val hF (r_pick0 hF rfl rfl hb687 rfl) rfl rfl rfl fun a hF => ?_
    refine s_val hF (r_move hF rfl rfl) rfl rfl rfl fun a hF => ?_
    refine g_skip hF rfl rfl rfl rfl rfl rfl fun a hF => ?_
    refine g_skip hF rfl rfl rfl rfl rfl rfl fun a hF => ?_
    refine g_skip hF rfl rfl rfl rfl rfl rfl fun a hF => ?_
    refine s_val hF (r_pick0 hF rfl rfl rfl rfl) rfl rfl rfl fun a hF => ?_
    refine s_val hF (r_move hF rfl rfl) rfl rfl rfl fun a hF => ?_
    refine g_skip hF rfl rfl rfl rfl rfl rfl fun a hF => ?_
    refine g_skip hF rfl rfl rfl rfl rfl rfl fun a hF => ?_
    refine g_skip hF rfl rfl rfl rfl rfl rfl fun a hF => ?_
    refine s_val hF (r_pick0 hF rfl rfl rfl rfl) rfl rfl rfl fun a hF => ?_
    refine s_val hF (r_move hF rfl rfl) rfl rfl rfl fun a hF => ?_
    refine g_skip hF rfl rfl rfl rfl rfl rfl fun a hF => ?_
    refine g_skip hF rfl rfl rfl rfl rfl rfl fun a hF => ?_
    refine g_skip hF rfl rfl rfl rfl rfl rfl fun a hF => ?_
    refine s_val hF (r_pick0 hF rfl rfl rfl rfl) rfl rfl rfl fun a hF => ?_
    refine s_val hF (r_assign hF rfl rfl) rfl rfl rfl fun a hF => ?_
    refine c_nil (n_then ?_)
    have hP := Option.some.inj hP
    subst hP
    exact ⟨(v493, false), rfl, s494, hF.to ⟨rfl, trivial⟩, selM hM [12, 13, 1, 2, 3, 4, 5, 7, 8, 9, 10, 11] 14 rfl⟩
  rintro ⟨v683, v686⟩ a w hP ⟨s684, hF, hM⟩
  replace hP : Sh.law23_TraceDecodes_j5 v683 v686 = _ := hP
  unfold Sh.law23_TraceDecodes_j5 at hP
  refine n_then ?_
  refine c_ret ?_
  have hP := Option.some.inj hP
  subst hP
  refine e_ret1 Tryz.results9 hF rfl ?_
  exact ⟨rfl, selM hM [] 12 rfl⟩
end Go.Proofs
end
