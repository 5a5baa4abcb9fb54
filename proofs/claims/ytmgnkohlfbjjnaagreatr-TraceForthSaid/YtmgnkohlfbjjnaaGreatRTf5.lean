/- Ground for this claim: The call of TraceForth returns true, whatever the bytes and the world, and the bytes read as before. No condition. -/
import Derived.Test.YtmgnkohlfbjjnaaGreatRProg
import Derived.KernelRfl
import Derived.Test.YtmgnkohlfbjjnaaGreatRTf4
section
namespace Go.Proofs
open Go.Fw
set_option maxRecDepth 20000
theorem mixed : Tryz.prog.follows .mixedOrders = true := by kernel_rfl
theorem eq_LVal (d : Nat) (x y : LVal) (w : World) (hd : 3 ≤ d) : (Op.equalIn d 46 (.agg x.enc.toArray) (.agg y.enc.toArray)).run Tryz.prog w = .ok (decide (x = y)) w := by
  obtain ⟨d, rfl⟩ : ∃ d', d = d' + 1 := ⟨d - 1, by omega⟩
  rw [run_equalIn_struct w d 46 _ _ (by simp only [Program.fieldsOf, Tryz.underlying46]) Tryz.stoodInHeld46]
  simp only [Program.fieldsOf, Tryz.underlying46]
  have key : (x = y) ↔ x.kind = y.kind ∧ x.table = y.table ∧ x.row = y.row ∧ x.x = y.x := by cases x; cases y; simp
  rw [eqFields_one (by decide) Tryz.isAgg3 (LVal.g_kind x) (LVal.g_kind y) ((EqSpec.int (k := .i64) Tryz.underlying3) d _ _ w (by omega))]
  rw [eqFields_one (by decide) Tryz.isAgg3 (LVal.g_table x) (LVal.g_table y) ((EqSpec.int (k := .i64) Tryz.underlying3) d _ _ w (by omega))]
  rw [eqFields_one (by decide) Tryz.isAgg3 (LVal.g_row x) (LVal.g_row y) ((EqSpec.int (k := .i64) Tryz.underlying3) d _ _ w (by omega))]
  rw [eqFields_one (by decide) Tryz.isAgg3 (LVal.g_x x) (LVal.g_x y) ((EqSpec.int (k := .i64) Tryz.underlying3) d _ _ w (by omega))]
  rw [eqFields_nil]
  simp only [decide_eq_true_eq, key]
  repeat' split
  all_goals simp_all
theorem eq_arr48 : ∀ (d : Nat) (x y : Vec UInt8 8) (w : World), 2 ≤ d → (Op.equalIn d 48 (.agg (encs x.l).toArray) (.agg (encs y.l).toArray)).run Tryz.prog w = .ok (decide (x = y)) w :=
  EqSpec.vecOne Tryz.underlying48 Tryz.sizeOf5 rfl Tryz.isAgg5 (fun _ => rfl) (EqSpec.u8 Tryz.underlying5)
theorem eq_LSlot (d : Nat) (x y : LSlot) (w : World) (hd : 6 ≤ d) : (Op.equalIn d 50 (.agg x.enc.toArray) (.agg y.enc.toArray)).run Tryz.prog w = .ok (decide (x = y)) w := by
  obtain ⟨d, rfl⟩ : ∃ d', d = d' + 1 := ⟨d - 1, by omega⟩
  rw [run_equalIn_struct w d 50 _ _ (by simp only [Program.fieldsOf, Tryz.underlying50]) Tryz.stoodInHeld50]
  simp only [Program.fieldsOf, Tryz.underlying50]
  have key : (x = y) ↔ x.ptr = y.ptr ∧ x.bytes = y.bytes ∧ x.mask = y.mask := by cases x; cases y; simp
  rw [eqFields_agg (by decide) Tryz.isAgg46 Tryz.sizeOf46 (LSlot.c_ptr x) (LSlot.c_ptr y) (eq_LVal d _ _ w (by omega))]
  rw [eqFields_agg (by decide) Tryz.isAgg48 Tryz.sizeOf48 (LSlot.c_bytes x) (LSlot.c_bytes y) (eq_arr48 d _ _ w (by omega))]
  rw [eqFields_one (by decide) Tryz.isAgg3 (LSlot.g_mask x) (LSlot.g_mask y) ((EqSpec.int (k := .i64) Tryz.underlying3) d _ _ w (by omega))]
  rw [eqFields_nil]
  simp only [decide_eq_true_eq, key]
  repeat' split
  all_goals simp_all
theorem z46 (w : World) : (zeroValue 46).run Tryz.prog w = .ok (.agg LVal.zero.enc.toArray) w := (Tryz.zeroValue46 w).trans (by kernel_rfl)
theorem z50 (w : World) : (zeroValue 50).run Tryz.prog w = .ok (.agg LSlot.zero.enc.toArray) w := (Tryz.zeroValue50 w).trans (by kernel_rfl)
theorem z128 (w : World) : (zeroValue 128).run Tryz.prog w = .ok (.agg LTurn.zero.enc.toArray) w := (Tryz.zeroValue128 w).trans (by kernel_rfl)
theorem z151 (w : World) : (zeroValue 151).run Tryz.prog w = .ok (.agg LCell.zero.enc.toArray) w := (Tryz.zeroValue151 w).trans (by kernel_rfl)
theorem z156 (w : World) : (zeroValue 156).run Tryz.prog w = .ok (.agg RPiece.zero.enc.toArray) w := (Tryz.zeroValue156 w).trans (by kernel_rfl)
theorem z60 (w : World) : (zeroValue 60).run Tryz.prog w = .ok (.agg RMark.zero.enc.toArray) w := (Tryz.zeroValue60 w).trans (by kernel_rfl)
theorem z36 (w : World) : (zeroValue 36).run Tryz.prog w = .ok (.agg RRecord.zero.enc.toArray) w := (Tryz.zeroValue36 w).trans (by kernel_rfl)
theorem z167 (w : World) : (zeroValue 167).run Tryz.prog w = .ok (.agg RWriter.zero.enc.toArray) w := (Tryz.zeroValue167 w).trans (by kernel_rfl)
theorem z176 (w : World) : (zeroValue 176).run Tryz.prog w = .ok (.agg RReader.zero.enc.toArray) w := (Tryz.zeroValue176 w).trans (by kernel_rfl)
theorem in3 : Tryz.prog.info? 3 = some Tryz.t3 := by kernel_rfl
theorem in4 : Tryz.prog.info? 4 = some Tryz.t4 := by kernel_rfl
theorem in5 : Tryz.prog.info? 5 = some Tryz.t5 := by kernel_rfl
theorem in23 : Tryz.prog.info? 23 = some Tryz.t23 := by kernel_rfl
theorem in28 : Tryz.prog.info? 28 = some Tryz.t28 := by kernel_rfl
theorem in30 : Tryz.prog.info? 30 = some Tryz.t30 := by kernel_rfl
theorem in33 : Tryz.prog.info? 33 = some Tryz.t33 := by kernel_rfl
theorem in34 : Tryz.prog.info? 34 = some Tryz.t34 := by kernel_rfl
theorem in46 : Tryz.prog.info? 46 = some Tryz.t46 := by kernel_rfl
theorem in48 : Tryz.prog.info? 48 = some Tryz.t48 := by kernel_rfl
theorem in50 : Tryz.prog.info? 50 = some Tryz.t50 := by kernel_rfl
theorem in52 : Tryz.prog.info? 52 = some Tryz.t52 := by kernel_rfl
theorem in56 : Tryz.prog.info? 56 = some Tryz.t56 := by kernel_rfl
theorem in57 : Tryz.prog.info? 57 = some Tryz.t57 := by kernel_rfl
theorem in58 : Tryz.prog.info? 58 = some Tryz.t58 := by kernel_rfl
theorem in60 : Tryz.prog.info? 60 = some Tryz.t60 := by kernel_rfl
theorem in128 : Tryz.prog.info? 128 = some Tryz.t128 := by kernel_rfl
theorem in151 : Tryz.prog.info? 151 = some Tryz.t151 := by kernel_rfl
theorem in156 : Tryz.prog.info? 156 = some Tryz.t156 := by kernel_rfl
theorem pl46 : ∀ w, (plc Tryz.prog 46).run Tryz.prog w = .ok #[(0, 1), (1, 1), (2, 1), (3, 1)] w := fun w => by kernel_rfl
theorem pl50 : ∀ w, (plc Tryz.prog 50).run Tryz.prog w = .ok #[(0, 4), (4, 8), (12, 1)] w := fun w => by kernel_rfl
theorem pl128 : ∀ w, (plc Tryz.prog 128).run Tryz.prog w = .ok #[(0, 1), (1, 4), (5, 4)] w := fun w => by kernel_rfl
theorem pl151 : ∀ w, (plc Tryz.prog 151).run Tryz.prog w = .ok #[(0, 1), (1, 13), (14, 13)] w := fun w => by kernel_rfl
theorem pl156 : ∀ w, (plc Tryz.prog 156).run Tryz.prog w = .ok #[(0, 1), (1, 1), (2, 1), (3, 1)] w := fun w => by kernel_rfl
theorem pl60 : ∀ w, (plc Tryz.prog 60).run Tryz.prog w = .ok #[(0, 1), (1, 1), (2, 1), (3, 1), (4, 1), (5, 1), (6, 1)] w := fun w => by kernel_rfl
theorem pl36 : ∀ w, (plc Tryz.prog 36).run Tryz.prog w = .ok #[(0, 2), (2, 1), (3, 1)] w := fun w => by kernel_rfl
theorem pl167 : ∀ w, (plc Tryz.prog 167).run Tryz.prog w = .ok #[(0, 1)] w := fun w => by kernel_rfl
theorem pl176 : ∀ w, (plc Tryz.prog 176).run Tryz.prog w = .ok #[(0, 1), (1, 1), (2, 1), (3, 1)] w := fun w => by kernel_rfl
end Go.Proofs
end
section
namespace Go.Proofs
open Go.Fw Go.Fx
set_option maxRecDepth 10000
set_option linter.unusedVariables false
set_option linter.unusedSimpArgs false
theorem bytes_Clone_calls {x0 : List UInt8} {s : SV} {Bf : World → Prop} {Lr : List Res} {out : List UInt8} {w0 : World} (hP : Sh.bytes_Clone x0 = some out) (hM : MemL w0 Lr) (hsub : ∀ w, MemL w Lr → Bf w) (f : LIn Bf s x0) : Calls Tryz.prog 73 #[(s).v] w0 (Ret fun v w' => ∃ (s : SV), v = (s).v ∧ MemL w' (rowL 0 s 5 out :: Lr)) := by
  unfold Sh.bytes_Clone at hP
  refine calls_enter (vs := [(s).v]) Tryz.func73 rfl Tryz.ntmps73 rfl fun a hF => ?_
  refine c_seq ?_
  refine c_region ?_
  refine s_val hF (r_assign hF rfl rfl) rfl rfl rfl fun a hF => ?_
  refine c_nil (n_then ?_)
  refine c_seq ?_
  refine c_seq ?_
  refine c_region ?_
  refine s_val hF (r_move hF rfl rfl) rfl rfl rfl fun a hF => ?_
  refine s_val hF (r_eqlNil Tryz.underlying23 hF rfl rfl rfl) rfl rfl rfl fun a hF => ?_
  refine c_nil (n_then ?_)
  refine c_cond hF (c := .tmp 4) rfl (fun hb => ?_) (fun hb => ?_)
  · have hn := (f _ (hsub _ hM)).isNil hb
    subst hn
    have ho := (app_some hP).2
    subst ho
    refine c_seq ?_
    refine c_region ?_
    refine s_val hF (r_assign hF rfl rfl) rfl rfl rfl fun a hF => ?_
    refine c_nil (n_then ?_)
    refine c_ret ?_
    refine r_then ?_
    refine e_ret1 Tryz.results73 hF rfl ?_
    exact ⟨SV.nil, rfl, hM.rowNil (X := UInt8) 0 5⟩
  refine c_skip (n_then ?_)
  refine c_seq ?_
  refine c_region ?_
  refine s_eff hF rfl rfl rfl (w_slice0 (X := UInt8) 0 (Nat.zero_le _) Tryz.underlying23 in5 rfl fun s1 w hA => ?_)
  have hM := hM.plus hA
  intro a hF
  refine s_val hF (r_move hF rfl rfl) rfl rfl rfl fun a hF => ?_
  refine s_eff hF rfl rfl rfl (w_appX (X := UInt8) hP Tryz.underlying23 in5 rfl rfl rfl rfl hF rfl rfl rfl (hM.own (X := UInt8) (i := 0) rfl) (f _ (hsub _ (dropM hM 1))) fun s2 w hU => ?_)
  have hM := hM.chg hU (i := 0) rfl
  intro a hF
  refine s_val hF (r_assign hF rfl rfl) rfl rfl rfl fun a hF => ?_
  refine c_nil (n_then ?_)
  refine c_ret ?_
  refine e_ret1 Tryz.results73 hF rfl ?_
  exact ⟨s2, rfl, hM⟩
end Go.Proofs
end
section
namespace Go.Proofs
open Go.Fw Go.Fx
set_option maxRecDepth 10000
set_option linter.unusedVariables false
set_option linter.unusedSimpArgs false
set_option maxHeartbeats 4000000 in
theorem trace_reader_fault_calls {x0 : QReader} {x1 : Int} {x2 : Int} {s1 : SV} {b0 : Nat} {out : QReader} {w0 : World} {Bf : World → Prop} {Lr : List Res} (hP : Sh.trace_reader_fault x0 x1 x2 = some out) (hM : MemL w0 (pt b0 (RReader.enc (RReader.mk s1 x0.at_ x0.place x0.e)) 176 :: Lr)) (hsub : ∀ w, MemL w Lr → Bf w) (f2 : LIn Bf s1 x0.b) : Calls Tryz.prog 112 #[.pointer (some ⟨b0, 0, none⟩), .int .i64 x1, .int .i64 x2] w0 (Ret fun v w' => ∃ (s6 : SV), v = .tuple #[] ∧ LIn Bf s6 out.b ∧ MemL w' (pt b0 (RReader.enc (RReader.mk s6 out.at_ out.place out.e)) 176 :: Lr)) := by
  unfold Sh.trace_reader_fault at hP
  refine calls_enter (vs := [.pointer (some ⟨b0, 0, none⟩), .int .i64 x1, .int .i64 x2]) Tryz.func112 rfl Tryz.ntmps112 rfl fun a hF => ?_
  refine c_seq ?_
  refine c_region ?_
  refine s_val hF (r_move hF rfl rfl) rfl rfl rfl fun a hF => ?_
  refine s_val hF (r_nilCheckP hF rfl rfl) rfl rfl rfl fun a hF => ?_
  refine s_val hF (r_fieldAddr (off' := 3) Tryz.underlying176 rfl in34 rfl hF rfl rfl rfl) rfl rfl rfl fun a hF => ?_
  refine s_val hF (r_load1 Tryz.isAgg34 hF rfl rfl (hM.cell (i := 0) rfl (RReader.g_e _))) rfl rfl rfl fun a hF => ?_
  refine s_val hF (r_eql hF rfl rfl rfl) rfl rfl rfl fun a hF => ?_
  refine c_nil (n_then ?_)
  refine c_cond hF (c := .tmp 10) rfl (fun hb8 => ?_) (fun hb8 => ?_)
  · have hP := Fx.cT hb8 hP
    refine c_region ?_
    refine s_val hF (r_move hF rfl rfl) rfl rfl rfl fun a hF => ?_
    refine s_val hF (r_move hF rfl rfl) rfl rfl rfl fun a hF => ?_
    refine s_val hF (r_move hF rfl rfl) rfl rfl rfl fun a hF => ?_
    refine s_val hF (r_move hF rfl rfl) rfl rfl rfl fun a hF => ?_
    refine s_val hF (r_nilCheckP hF rfl rfl) rfl rfl rfl fun a hF => ?_
    refine s_val hF (r_fieldAddr (off' := 2) Tryz.underlying176 rfl in3 rfl hF rfl rfl rfl) rfl rfl rfl fun a hF => ?_
    refine s_eff0 rfl rfl (w_store1 Tryz.sizeOf3 (hM.obj (i := 0) rfl) hF rfl rfl rfl rfl (by rw [RReader.len]; decide) (RReader.s_place _ _) fun w hU9 => ?_)
    have hM := hM.chg hU9 (i := 0) rfl
    replace hM : MemL _ (pt b0 (RReader.enc (RReader.mk s1 x0.at_ x1 x0.e)) 176 :: Lr) := hM
    refine s_val hF (r_nilCheckP hF rfl rfl) rfl rfl rfl fun a hF => ?_
    refine s_val hF (r_fieldAddr (off' := 3) Tryz.underlying176 rfl in34 rfl hF rfl rfl rfl) rfl rfl rfl fun a hF => ?_
    refine s_eff0 rfl rfl (w_store1 Tryz.sizeOf34 (hM.obj (i := 0) rfl) hF rfl rfl rfl rfl (by rw [RReader.len]; decide) (RReader.s_e _ _) fun w hU10 => ?_)
    have hM := hM.chg hU10 (i := 0) rfl
    replace hM : MemL _ (pt b0 (RReader.enc (RReader.mk s1 x0.at_ x1 x2)) 176 :: Lr) := hM
    refine c_nil ?_
    have hP := Option.some.inj hP
    subst hP
    refine e_end0 Tryz.results112 hF ?_
    exact ⟨s1, rfl, f2, hM⟩
  have hP := Fx.cF hb8 hP
  refine c_skip ?_
  have hP := Option.some.inj hP
  subst hP
  refine e_end0 Tryz.results112 hF ?_
  exact ⟨s1, rfl, f2, hM⟩
set_option maxHeartbeats 4000000 in
theorem trace_reader_take_calls {x0 : QReader} {x1 : Int} {s1 : SV} {b0 : Nat} {out : (List UInt8 × QReader)} {w0 : World} {Bf : World → Prop} {Lr : List Res} (hP : Sh.trace_reader_take x0 x1 = some out) (hM : MemL w0 (pt b0 (RReader.enc (RReader.mk s1 x0.at_ x0.place x0.e)) 176 :: Lr)) (hsub : ∀ w, MemL w Lr → Bf w) (f2 : LIn Bf s1 x0.b) : Calls Tryz.prog 111 #[.pointer (some ⟨b0, 0, none⟩), .int .i64 x1] w0 (Ret fun v w' => ∃ (s26 : SV) (s28 : SV), v = (s26).v ∧ LIn Bf s26 out.1 ∧ LIn Bf s28 out.2.b ∧ MemL w' (pt b0 (RReader.enc (RReader.mk s28 out.2.at_ out.2.place out.2.e)) 176 :: Lr)) := by
  unfold Sh.trace_reader_take at hP
  refine calls_enter (vs := [.pointer (some ⟨b0, 0, none⟩), .int .i64 x1]) Tryz.func111 rfl Tryz.ntmps111 rfl fun a hF => ?_
  refine c_seq ?_
  refine c_region ?_
  refine s_val hF (r_assign hF rfl rfl) rfl rfl rfl fun a hF => ?_
  refine c_nil (n_then ?_)
  refine c_seq ?_
  refine c_joinX hF hM hP (fun F x a w => match x with | v40 => ∃ (s41 : SV), LIn Bf s41 v40.b ∧ Fr 52 [(0, .pointer (some ⟨b0, 0, none⟩)), (1, .int .i64 x1), (4, (SV.nil).v)] a ∧ MemL w (pt b0 (RReader.enc (RReader.mk s41 v40.at_ v40.place v40.e)) 176 :: Lr)) (fun o_j1 hP hK_j1 hF hM => ?_) ?_
  · refine c_seq ?_
    refine d_startT mixed (by kernel_rfl) hM [0] 1 rfl fun hch => ?_
    refine d_val hF hch 0 rfl (by kernel_rfl) rfl rfl rfl (fun w hM => (r_move hF rfl rfl)) fun a hF => ?_
    refine d_val hF hch 1 rfl (by kernel_rfl) rfl rfl rfl (fun w hM => (r_move hF rfl rfl)) fun a hF => ?_
    refine d_val hF hch 2 rfl (by kernel_rfl) rfl rfl rfl (fun w hM => (r_nilCheckP hF rfl rfl)) fun a hF => ?_
    refine d_val hF hch 3 rfl (by kernel_rfl) rfl rfl rfl (fun w hM => (r_fieldAddr (off' := 0) Tryz.underlying176 rfl in23 rfl hF rfl rfl rfl)) fun a hF => ?_
    refine d_val hF hch 4 rfl (by kernel_rfl) rfl rfl rfl (fun w hM => (r_load1 Tryz.isAgg23 hF rfl rfl (hM.cell (i := 0) rfl (RReader.g_b _)))) fun a hF => ?_
    refine d_val hF hch 5 rfl (by kernel_rfl) rfl rfl rfl (fun w hM => (r_lenL (f2 _ (hsub _ (dropM hM 1))) Tryz.underlying23 hF rfl rfl)) fun a hF => ?_
    refine d_val hF hch 6 rfl (by kernel_rfl) rfl rfl rfl (fun w hM => (r_move hF rfl rfl)) fun a hF => ?_
    refine d_val hF hch 7 rfl (by kernel_rfl) rfl rfl rfl (fun w hM => (r_nilCheckP hF rfl rfl)) fun a hF => ?_
    refine d_val hF hch 8 rfl (by kernel_rfl) rfl rfl rfl (fun w hM => (r_fieldAddr (off' := 1) Tryz.underlying176 rfl in3 rfl hF rfl rfl rfl)) fun a hF => ?_
    refine d_val hF hch 9 rfl (by kernel_rfl) rfl rfl rfl (fun w hM => (r_load1 Tryz.isAgg3 hF rfl rfl (hM.cell (i := 0) rfl (RReader.g_at_ _)))) fun a hF => ?_
    refine d_val hF hch 10 rfl (by kernel_rfl) rfl rfl rfl (fun w hM => (r_sub hF rfl rfl rfl)) fun a hF => ?_
    refine d_val hF hch 11 rfl (by kernel_rfl) rfl rfl rfl (fun w hM => (r_gtr hF rfl rfl rfl)) fun a hF => ?_
    refine d_end hch (by kernel_rfl) fun w hM => ?_
    refine n_then ?_
    refine c_cond hF (c := .tmp 16) rfl (fun hb43 => ?_) (fun hb43 => ?_)
    · have hP := Fx.cT hb43 hP
      refine c_region ?_
      refine s_val hF (r_move hF rfl rfl) rfl rfl rfl fun a hF => ?_
      refine s_val hF (r_move hF rfl rfl) rfl rfl rfl fun a hF => ?_
      refine s_val hF (r_nilCheckP hF rfl rfl) rfl rfl rfl fun a hF => ?_
      refine s_val hF (r_fieldAddr (off' := 0) Tryz.underlying176 rfl in23 rfl hF rfl rfl rfl) rfl rfl rfl fun a hF => ?_
      refine s_val hF (r_load1 Tryz.isAgg23 hF rfl rfl (hM.cell (i := 0) rfl (RReader.g_b _))) rfl rfl rfl fun a hF => ?_
      refine s_val hF (r_lenL (f2 _ (hsub _ (dropM hM 1))) Tryz.underlying23 hF rfl rfl) rfl rfl rfl fun a hF => ?_
      obtain ⟨y45, hy45, hP⟩ := bind_some hP
      refine s_eff hF rfl rfl rfl (w_call (xs := [.tmp 17, .tmp 22, .const (.int .i64 (236))]) Tryz.call112 hF rfl rfl (trace_reader_fault_calls hy45 hM (Bf := Bf) (fun w hM => hsub _ (dropM hM 0)) f2) fun v w hR => ?_)
      obtain ⟨s46, rfl, f47, hM⟩ := hR
      replace hM : MemL _ (pt b0 (RReader.enc (RReader.mk s46 y45.at_ y45.place y45.e)) 176 :: Lr) := hM
      intro a hF
      refine c_nil (n_then ?_)
      have hP := Option.some.inj hP
      subst hP
      exact ⟨y45, rfl, s46, f47, hF.to ⟨rfl, rfl, rfl, trivial⟩, hM⟩
    have hP := Fx.cF hb43 hP
    refine c_skip (n_then ?_)
    have hP := Option.some.inj hP
    subst hP
    exact ⟨x0, rfl, s1, f2, hF.to ⟨rfl, rfl, rfl, trivial⟩, hM⟩
  rintro v40 a w hP ⟨s41, f42, hF, hM⟩
  replace hP : Sh.trace_reader_take_j1 x1 v40 = _ := hP
  unfold Sh.trace_reader_take_j1 at hP
  refine n_then ?_
  refine c_seq ?_
  refine c_seq ?_
  refine c_region ?_
  refine s_val hF (r_move hF rfl rfl) rfl rfl rfl fun a hF => ?_
  refine s_val hF (r_nilCheckP hF rfl rfl) rfl rfl rfl fun a hF => ?_
  refine s_val hF (r_fieldAddr (off' := 3) Tryz.underlying176 rfl in34 rfl hF rfl rfl rfl) rfl rfl rfl fun a hF => ?_
  refine s_val hF (r_load1 Tryz.isAgg34 hF rfl rfl (hM.cell (i := 0) rfl (RReader.g_e _))) rfl rfl rfl fun a hF => ?_
  refine s_val hF (r_neq hF rfl rfl rfl) rfl rfl rfl fun a hF => ?_
  refine c_nil (n_then ?_)
  refine c_cond hF (c := .tmp 28) rfl (fun hb49 => ?_) (fun hb49 => ?_)
  · have hP := Fx.cT hb49 hP
    refine c_seq ?_
    refine c_region ?_
    refine s_val hF (r_assign hF rfl rfl) rfl rfl rfl fun a hF => ?_
    refine c_nil (n_then ?_)
    refine c_ret ?_
    have hP := Option.some.inj hP
    subst hP
    refine e_ret1 Tryz.results111 hF rfl ?_
    exact ⟨SV.nil, s41, rfl, LIn.nil, f42, hM⟩
  have hP := Fx.cF hb49 hP
  refine c_skip (n_then ?_)
  refine c_seq ?_
  refine c_region ?_
  refine s_val hF (r_move hF rfl rfl) rfl rfl rfl fun a hF => ?_
  refine s_val hF (r_nilCheckP hF rfl rfl) rfl rfl rfl fun a hF => ?_
  refine s_val hF (r_fieldAddr (off' := 1) Tryz.underlying176 rfl in3 rfl hF rfl rfl rfl) rfl rfl rfl fun a hF => ?_
  refine s_val hF (r_load1 Tryz.isAgg3 hF rfl rfl (hM.cell (i := 0) rfl (RReader.g_at_ _))) rfl rfl rfl fun a hF => ?_
  refine s_val hF (r_move hF rfl rfl) rfl rfl rfl fun a hF => ?_
  refine s_val hF (r_add hF rfl rfl rfl) rfl rfl rfl fun a hF => ?_
  refine s_val hF (r_nilCheckP hF rfl rfl) rfl rfl rfl fun a hF => ?_
  refine s_val hF (r_fieldAddr (off' := 1) Tryz.underlying176 rfl in3 rfl hF rfl rfl rfl) rfl rfl rfl fun a hF => ?_
  refine s_eff0 rfl rfl (w_store1 Tryz.sizeOf3 (hM.obj (i := 0) rfl) hF rfl rfl rfl rfl (by rw [RReader.len]; decide) (RReader.s_at_ _ _) fun w hU50 => ?_)
  have hM := hM.chg hU50 (i := 0) rfl
  replace hM : MemL _ (pt b0 (RReader.enc (RReader.mk s41 (IntKind.i64.wrap (v40.at_ + x1)) v40.place v40.e)) 176 :: Lr) := hM
  refine c_nil (n_then ?_)
  refine c_seq ?_
  refine d_startT mixed (by kernel_rfl) hM [0] 1 rfl fun hch => ?_
  refine d_val hF hch 0 rfl (by kernel_rfl) rfl rfl rfl (fun w hM => (r_move hF rfl rfl)) fun a hF => ?_
  refine d_val hF hch 1 rfl (by kernel_rfl) rfl rfl rfl (fun w hM => (r_nilCheckP hF rfl rfl)) fun a hF => ?_
  refine d_val hF hch 2 rfl (by kernel_rfl) rfl rfl rfl (fun w hM => (r_fieldAddr (off' := 0) Tryz.underlying176 rfl in23 rfl hF rfl rfl rfl)) fun a hF => ?_
  refine d_val hF hch 3 rfl (by kernel_rfl) rfl rfl rfl (fun w hM => (r_load1 Tryz.isAgg23 hF rfl rfl (hM.cell (i := 0) rfl (RReader.g_b _)))) fun a hF => ?_
  refine d_val hF hch 4 rfl (by kernel_rfl) rfl rfl rfl (fun w hM => (r_move hF rfl rfl)) fun a hF => ?_
  refine d_val hF hch 5 rfl (by kernel_rfl) rfl rfl rfl (fun w hM => (r_nilCheckP hF rfl rfl)) fun a hF => ?_
  refine d_val hF hch 6 rfl (by kernel_rfl) rfl rfl rfl (fun w hM => (r_fieldAddr (off' := 1) Tryz.underlying176 rfl in3 rfl hF rfl rfl rfl)) fun a hF => ?_
  refine d_val hF hch 7 rfl (by kernel_rfl) rfl rfl rfl (fun w hM => (r_load1 Tryz.isAgg3 hF rfl rfl (hM.cell (i := 0) rfl (RReader.g_at_ _)))) fun a hF => ?_
  refine d_val hF hch 8 rfl (by kernel_rfl) rfl rfl rfl (fun w hM => (r_move hF rfl rfl)) fun a hF => ?_
  refine d_val hF hch 9 rfl (by kernel_rfl) rfl rfl rfl (fun w hM => (r_sub hF rfl rfl rfl)) fun a hF => ?_
  refine d_val hF hch 10 rfl (by kernel_rfl) rfl rfl rfl (fun w hM => (r_move hF rfl rfl)) fun a hF => ?_
  refine d_val hF hch 11 rfl (by kernel_rfl) rfl rfl rfl (fun w hM => (r_nilCheckP hF rfl rfl)) fun a hF => ?_
  refine d_val hF hch 12 rfl (by kernel_rfl) rfl rfl rfl (fun w hM => (r_fieldAddr (off' := 1) Tryz.underlying176 rfl in3 rfl hF rfl rfl rfl)) fun a hF => ?_
  refine d_val hF hch 13 rfl (by kernel_rfl) rfl rfl rfl (fun w hM => (r_load1 Tryz.isAgg3 hF rfl rfl (hM.cell (i := 0) rfl (RReader.g_at_ _)))) fun a hF => ?_
  obtain ⟨x52, hx52, hP⟩ := bind_some hP
  refine d_val hF hch 14 rfl (by kernel_rfl) rfl rfl rfl (fun w hM => (r_cutZ (f42 _ (hsub _ (dropM hM 1))) hx52 Tryz.underlying23 in5 rfl hF rfl rfl (.inr ⟨_, _, rfl, rfl⟩) (.inr ⟨_, _, rfl, rfl⟩))) fun a hF => ?_
  refine d_val hF hch 15 rfl (by kernel_rfl) rfl rfl rfl (fun w hM => (r_assign hF rfl rfl)) fun a hF => ?_
  refine d_end hch (by kernel_rfl) fun w hM => ?_
  refine n_then ?_
  refine c_ret ?_
  have hP := Option.some.inj hP
  subst hP
  refine e_ret1 Tryz.results111 hF rfl ?_
  exact ⟨(s41.cut ((IntKind.i64.wrap ((IntKind.i64.wrap (v40.at_ + x1)) - x1)) : Int).toNat ((IntKind.i64.wrap (v40.at_ + x1)) : Int).toNat 1), s41, rfl, (LIn.slc f42 hx52 rfl), f42, hM⟩
set_option maxHeartbeats 4000000 in
theorem trace_reader_number_calls {x0 : QReader} {x1 : Int} {s1 : SV} {b0 : Nat} {out : (Int × QReader)} {w0 : World} {Bf : World → Prop} {Lr : List Res} (hP : Sh.trace_reader_number x0 x1 = some out) (hM : MemL w0 (pt b0 (RReader.enc (RReader.mk s1 x0.at_ x0.place x0.e)) 176 :: Lr)) (hsub : ∀ w, MemL w Lr → Bf w) (f2 : LIn Bf s1 x0.b) : Calls Tryz.prog 113 #[.pointer (some ⟨b0, 0, none⟩), .int .i64 x1] w0 (Ret fun v w' => ∃ (s91 : SV), v = .int .i64 out.1 ∧ LIn Bf s91 out.2.b ∧ MemL w' (pt b0 (RReader.enc (RReader.mk s91 out.2.at_ out.2.place out.2.e)) 176 :: Lr)) := by
  unfold Sh.trace_reader_number at hP
  refine calls_enter (vs := [.pointer (some ⟨b0, 0, none⟩), .int .i64 x1]) Tryz.func113 rfl Tryz.ntmps113 rfl fun a hF => ?_
  refine c_seq ?_
  refine c_region ?_
  refine s_val hF (r_assign hF rfl rfl) rfl rfl rfl fun a hF => ?_
  refine c_nil (n_then ?_)
  refine c_seq ?_
  refine c_region ?_
  refine s_val hF (r_assign hF rfl rfl) rfl rfl rfl fun a hF => ?_
  refine c_nil (n_then ?_)
  refine c_seq ?_
  refine c_joinX hF hM hP (fun F x a w => match x with | (v149, v152) => ∃ (s150 : SV), LIn Bf s150 v149.b ∧ Fr 26 [(5, .int .i64 v152), (4, .int .i64 0)] a ∧ MemL w (pt b0 (RReader.enc (RReader.mk s150 v149.at_ v149.place v149.e)) 176 :: Lr)) (fun o_j1 hP hK_j1 hF hM => ?_) ?_
  · refine c_seq ?_
    refine c_region ?_
    refine s_val hF (r_move hF rfl rfl) rfl rfl rfl fun a hF => ?_
    refine s_val hF (r_move hF rfl rfl) rfl rfl rfl fun a hF => ?_
    obtain ⟨y154, hy154, hP⟩ := bind_some hP
    refine s_eff hF rfl rfl rfl (w_call (xs := [.tmp 8, .tmp 9]) Tryz.call111 hF rfl rfl (trace_reader_take_calls hy154 hM (Bf := Bf) (fun w hM => hsub _ (dropM hM 0)) f2) fun v w hR => ?_)
    obtain ⟨s155, s157, rfl, f156, f158, hM⟩ := hR
    replace hM : MemL _ (pt b0 (RReader.enc (RReader.mk s157 y154.2.at_ y154.2.place y154.2.e)) 176 :: Lr) := hM
    intro a hF
    refine s_val hF (r_lenL (f156 _ (hsub _ (dropM hM 1))) Tryz.underlying23 hF rfl rfl) rfl rfl rfl fun a hF => ?_
    refine s_val hF (r_move hF rfl rfl) rfl rfl rfl fun a hF => ?_
    refine c_nil (n_then ?_)
    refine c_block ?_
    refine c_loopX hF hM hP (fun F x a w => match x with | (v173, v174) => Fr 26 [(12, .int .i64 v173), (5, .int .i64 v174), (10, (s155).v), (11, .int .i64 (y154.1.length : Int)), (4, .int .i64 0)] a ∧ MemL w (pt b0 (RReader.enc (RReader.mk s157 y154.2.at_ y154.2.place y154.2.e)) 176 :: Lr)) (fun hF hM => ⟨hF.to ⟨rfl, rfl, rfl, rfl, rfl, trivial⟩, hM⟩) ?_
    rintro ⟨v173, v174⟩ a w o_l2 hP hK_l2 ⟨hF, hM⟩
    replace hP : Sh.trace_reader_number_l2 y154 v173 v174 = _ := hP
    unfold Sh.trace_reader_number_l2 at hP
    refine c_seq ?_
    refine c_region ?_
    refine s_val hF (r_lss hF rfl rfl rfl) rfl rfl rfl fun a hF => ?_
    refine c_nil (n_then ?_)
    refine c_seq ?_
    refine c_cond hF (c := .tmp 13) rfl (fun hb176 => ?_) (fun hb176 => ?_)
    · have hP := Fx.cT hb176 hP
      refine c_skip (n_then ?_)
      refine c_seq ?_
      refine c_block ?_
      refine c_seq ?_
      refine c_region ?_
      refine s_val hF (r_move hF rfl rfl) rfl rfl rfl fun a hF => ?_
      obtain ⟨x179, hx179, hP⟩ := bind_some hP
      have h0x179 := get_some hx179
      refine s_val hF (r_indexZ (sz := 1) (f156 _ (hsub _ (dropM hM 1))) Tryz.underlying23 in5 rfl hF rfl rfl rfl (get_bd hx179)) rfl rfl rfl fun a hF => ?_
      refine s_val hF (r_load1 Tryz.isAgg5 hF rfl rfl ((((f156 _ (hsub _ (dropM hM 1))).elemS h0x179.2)).get 0 rfl)) rfl rfl rfl fun a hF => ?_
      refine s_val hF (r_assign hF rfl rfl) rfl rfl rfl fun a hF => ?_
      refine s_val hF (r_assign hF rfl rfl) rfl rfl rfl fun a hF => ?_
      refine c_nil (n_then ?_)
      refine c_region ?_
      refine s_val hF (r_move hF rfl rfl) rfl rfl rfl fun a hF => ?_
      refine s_val hF (r_move hF rfl rfl) rfl rfl rfl fun a hF => ?_
      refine s_val hF (r_convU Tryz.underlying5 Tryz.underlying3 rfl hF rfl rfl) rfl rfl rfl fun a hF => ?_
      refine s_val hF (r_move hF rfl rfl) rfl rfl rfl fun a hF => ?_
      refine s_val hF (r_mul hF rfl rfl rfl) rfl rfl rfl fun a hF => ?_
      obtain ⟨hc180, hP⟩ := must_some hP
      refine s_val hF (r_shl hF rfl rfl rfl (of_decide_eq_true hc180)) rfl rfl rfl fun a hF => ?_
      refine s_val hF (r_or hF rfl rfl rfl) rfl rfl rfl fun a hF => ?_
      refine s_val hF (r_assign hF rfl rfl) rfl rfl rfl fun a hF => ?_
      refine c_nil (n_block (n_then ?_))
      refine c_region ?_
      refine s_val hF (r_add hF rfl rfl rfl) rfl rfl rfl fun a hF => ?_
      refine s_val hF (r_move hF rfl rfl) rfl rfl rfl fun a hF => ?_
      refine c_nil (n_then ?_)
      have hP := Option.some.inj hP
      subst hP
      exact ⟨((IntKind.i64.wrap (v173 + 1)), (bor .i64 v174 (shl .i64 (x179.toNat : Int) ((IntKind.i64.wrap (8 * v173))).toNat))), rfl, hF.to ⟨rfl, rfl, rfl, rfl, rfl, trivial⟩, hM⟩
    have hP := Fx.cF hb176 hP
    refine c_exit (x_then (x_then (x_hit ?_)))
    refine n_then ?_
    have hP := Option.some.inj hP
    subst hP
    have hP := hK_l2 _ rfl
    subst hP
    exact ⟨(y154.2, v174), rfl, s157, f158, hF.to ⟨rfl, rfl, trivial⟩, hM⟩
  rintro ⟨v149, v152⟩ a w hP ⟨s150, f151, hF, hM⟩
  replace hP : Sh.trace_reader_number_j1 v149 v152 = _ := hP
  unfold Sh.trace_reader_number_j1 at hP
  refine n_then ?_
  refine c_seq ?_
  refine c_region ?_
  refine s_val hF (r_move hF rfl rfl) rfl rfl rfl fun a hF => ?_
  refine s_val hF (r_assign hF rfl rfl) rfl rfl rfl fun a hF => ?_
  refine c_nil (n_then ?_)
  refine c_ret ?_
  have hP := Option.some.inj hP
  subst hP
  refine e_ret1 Tryz.results113 hF rfl ?_
  exact ⟨s150, rfl, f151, hM⟩
set_option maxHeartbeats 4000000 in
theorem trace_reader_most_calls {x0 : QReader} {x1 : Int} {s1 : SV} {b0 : Nat} {out : (Int × QReader)} {w0 : World} {Bf : World → Prop} {Lr : List Res} (hP : Sh.trace_reader_most x0 x1 = some out) (hM : MemL w0 (pt b0 (RReader.enc (RReader.mk s1 x0.at_ x0.place x0.e)) 176 :: Lr)) (hsub : ∀ w, MemL w Lr → Bf w) (f2 : LIn Bf s1 x0.b) : Calls Tryz.prog 115 #[.pointer (some ⟨b0, 0, none⟩), .int .i64 x1] w0 (Ret fun v w' => ∃ (s17 : SV), v = .int .i64 out.1 ∧ LIn Bf s17 out.2.b ∧ MemL w' (pt b0 (RReader.enc (RReader.mk s17 out.2.at_ out.2.place out.2.e)) 176 :: Lr)) := by
  unfold Sh.trace_reader_most at hP
  refine calls_enter (vs := [.pointer (some ⟨b0, 0, none⟩), .int .i64 x1]) Tryz.func115 rfl Tryz.ntmps115 rfl fun a hF => ?_
  refine c_seq ?_
  refine c_region ?_
  refine s_val hF (r_assign hF rfl rfl) rfl rfl rfl fun a hF => ?_
  refine c_nil (n_then ?_)
  refine c_seq ?_
  refine c_region ?_
  refine s_val hF (r_move hF rfl rfl) rfl rfl rfl fun a hF => ?_
  obtain ⟨y20, hy20, hP⟩ := bind_some hP
  refine s_eff hF rfl rfl rfl (w_call (xs := [.tmp 6, .const (.int .i64 (1))]) Tryz.call113 hF rfl rfl (trace_reader_number_calls hy20 hM (Bf := Bf) (fun w hM => hsub _ (dropM hM 0)) f2) fun v w hR => ?_)
  obtain ⟨s21, rfl, f22, hM⟩ := hR
  replace hM : MemL _ (pt b0 (RReader.enc (RReader.mk s21 y20.2.at_ y20.2.place y20.2.e)) 176 :: Lr) := hM
  intro a hF
  refine s_val hF (r_assign hF rfl rfl) rfl rfl rfl fun a hF => ?_
  refine c_nil (n_then ?_)
  refine c_seq ?_
  refine c_seq ?_
  refine c_region ?_
  refine s_val hF (r_move hF rfl rfl) rfl rfl rfl fun a hF => ?_
  refine s_val hF (r_move hF rfl rfl) rfl rfl rfl fun a hF => ?_
  refine s_val hF (r_gtr hF rfl rfl rfl) rfl rfl rfl fun a hF => ?_
  refine c_nil (n_then ?_)
  refine c_cond hF (c := .tmp 10) rfl (fun hb28 => ?_) (fun hb28 => ?_)
  · have hP := Fx.cT hb28 hP
    refine c_seq ?_
    refine c_region ?_
    refine s_val hF (r_move hF rfl rfl) rfl rfl rfl fun a hF => ?_
    refine s_val hF (r_move hF rfl rfl) rfl rfl rfl fun a hF => ?_
    refine s_val hF (r_nilCheckP hF rfl rfl) rfl rfl rfl fun a hF => ?_
    refine s_val hF (r_fieldAddr (off' := 1) Tryz.underlying176 rfl in3 rfl hF rfl rfl rfl) rfl rfl rfl fun a hF => ?_
    refine s_val hF (r_load1 Tryz.isAgg3 hF rfl rfl (hM.cell (i := 0) rfl (RReader.g_at_ _))) rfl rfl rfl fun a hF => ?_
    refine s_val hF (r_sub hF rfl rfl rfl) rfl rfl rfl fun a hF => ?_
    obtain ⟨y30, hy30, hP⟩ := bind_some hP
    refine s_eff hF rfl rfl rfl (w_call (xs := [.tmp 11, .tmp 16, .const (.int .i64 (236))]) Tryz.call112 hF rfl rfl (trace_reader_fault_calls hy30 hM (Bf := Bf) (fun w hM => hsub _ (dropM hM 0)) f22) fun v w hR => ?_)
    obtain ⟨s31, rfl, f32, hM⟩ := hR
    replace hM : MemL _ (pt b0 (RReader.enc (RReader.mk s31 y30.at_ y30.place y30.e)) 176 :: Lr) := hM
    intro a hF
    refine c_nil (n_then ?_)
    refine c_seq ?_
    refine c_region ?_
    refine s_val hF (r_assign hF rfl rfl) rfl rfl rfl fun a hF => ?_
    refine c_nil (n_then ?_)
    refine c_ret ?_
    have hP := Option.some.inj hP
    subst hP
    refine e_ret1 Tryz.results115 hF rfl ?_
    exact ⟨s31, rfl, f32, hM⟩
  have hP := Fx.cF hb28 hP
  refine c_skip (n_then ?_)
  refine c_seq ?_
  refine c_region ?_
  refine s_val hF (r_move hF rfl rfl) rfl rfl rfl fun a hF => ?_
  refine s_val hF (r_assign hF rfl rfl) rfl rfl rfl fun a hF => ?_
  refine c_nil (n_then ?_)
  refine c_ret ?_
  have hP := Option.some.inj hP
  subst hP
  refine e_ret1 Tryz.results115 hF rfl ?_
  exact ⟨s21, rfl, f22, hM⟩
set_option maxHeartbeats 4000000 in
theorem trace_reader_rest_calls {x0 : QReader} {x1 : Int} {s1 : SV} {b0 : Nat} {out : (LVal × QReader)} {w0 : World} {Bf : World → Prop} {Lr : List Res} (hP : Sh.trace_reader_rest x0 x1 = some out) (hM : MemL w0 (pt b0 (RReader.enc (RReader.mk s1 x0.at_ x0.place x0.e)) 176 :: Lr)) (hsub : ∀ w, MemL w Lr → Bf w) (f2 : LIn Bf s1 x0.b) : Calls Tryz.prog 228 #[.pointer (some ⟨b0, 0, none⟩), .int .i64 x1] w0 (Ret fun v w' => ∃ (s64 : SV), v = .agg (LVal.enc out.1).toArray ∧ LIn Bf s64 out.2.b ∧ MemL w' (pt b0 (RReader.enc (RReader.mk s64 out.2.at_ out.2.place out.2.e)) 176 :: Lr)) := by
  unfold Sh.trace_reader_rest at hP
  refine calls_enter (vs := [.pointer (some ⟨b0, 0, none⟩), .int .i64 x1]) Tryz.func228 rfl Tryz.ntmps228 rfl fun a hF => ?_
  refine c_seq ?_
  refine c_region ?_
  refine s_eff hF rfl rfl rfl (w_alloc z46 (zs := LVal.zero.enc) rfl rfl fun b_B228_4 w hzB228_4 hAB228_4 => ?_)
  have hM := hM.plus hAB228_4
  replace hM : MemL _ (pt b_B228_4 (LVal.enc LVal.zero) 46 :: pt b0 (RReader.enc (RReader.mk s1 x0.at_ x0.place x0.e)) 176 :: Lr) := hM
  intro a hF
  refine c_nil (n_then ?_)
  refine c_seq ?_
  refine c_region ?_
  refine s_val hF (r_move hF rfl rfl) rfl rfl rfl fun a hF => ?_
  refine s_val hF (r_build z46 Tryz.underlying46 pl46 hF (parts := [(0, .tmp 6)]) rfl rfl (fill_s rfl rfl (by rw [LVal.len]; decide) (LVal.s_kind _ _) fill_e)) rfl rfl rfl fun a hF => ?_
  refine s_eff hF rfl rfl rfl (w_alloc z46 (zs := LVal.zero.enc) rfl rfl fun b_B228_5 w hzB228_5 hAB228_5 => ?_)
  have hM := hM.plus hAB228_5
  replace hM : MemL _ (pt b_B228_5 (LVal.enc LVal.zero) 46 :: pt b_B228_4 (LVal.enc LVal.zero) 46 :: pt b0 (RReader.enc (RReader.mk s1 x0.at_ x0.place x0.e)) 176 :: Lr) := hM
  intro a hF
  refine s_eff0 rfl rfl (w_storen (vs := _) Tryz.sizeOf46 (hM.obj (i := 0) rfl) hF rfl rfl rfl rfl (LVal.len _) (LVal.one _) (by first | (rw [LVal.len, LVal.len]; decide) | (rw [LVal.len]; decide)) (put_all ((LVal.len _).trans (LVal.len _).symm)) fun w hU66 => ?_)
  have hM := hM.chg hU66 (i := 0) rfl
  replace hM : MemL _ (pt b_B228_5 (LVal.enc (LVal.mk x1 0 0 0)) 46 :: pt b_B228_4 (LVal.enc LVal.zero) 46 :: pt b0 (RReader.enc (RReader.mk s1 x0.at_ x0.place x0.e)) 176 :: Lr) := hM
  refine c_nil (n_then ?_)
  refine c_seq ?_
  refine c_joinX hF hM hP (fun F x a w => match x with | (v89, v90) => ∃ (s91 : SV), LIn Bf s91 v90.b ∧ Fr 22 [(0, .pointer (some ⟨b0, 0, none⟩)), (1, .int .i64 x1), (4, .pointer (some ⟨b_B228_4, 0, none⟩)), (5, .pointer (some ⟨b_B228_5, 0, none⟩))] a ∧ MemL w (pt b_B228_5 (LVal.enc v89) 46 :: pt b0 (RReader.enc (RReader.mk s91 v90.at_ v90.place v90.e)) 176 :: pt b_B228_4 (LVal.enc LVal.zero) 46 :: Lr)) (fun o_j1 hP hK_j1 hF hM => ?_) ?_
  · refine c_seq ?_
    refine c_region ?_
    refine s_val hF (r_move hF rfl rfl) rfl rfl rfl fun a hF => ?_
    refine s_val hF (r_eql hF rfl rfl rfl) rfl rfl rfl fun a hF => ?_
    refine c_nil (n_then ?_)
    refine c_cond hF (c := .tmp 9) rfl (fun hb93 => ?_) (fun hb93 => ?_)
    · have hP := Fx.cT hb93 hP
      refine c_seq ?_
      refine c_region ?_
      refine s_val hF (r_move hF rfl rfl) rfl rfl rfl fun a hF => ?_
      obtain ⟨y95, hy95, hP⟩ := bind_some hP
      refine s_eff hF rfl rfl rfl (w_call (xs := [.tmp 10, .const (.int .i64 (7))]) Tryz.call115 hF rfl rfl (trace_reader_most_calls hy95 (selM hM [2, 0, 1] 3 rfl) (Bf := Bf) (fun w hM => hsub _ (dropM hM 2)) f2) fun v w hR => ?_)
      obtain ⟨s96, rfl, f97, hM⟩ := hR
      replace hM : MemL _ (pt b0 (RReader.enc (RReader.mk s96 y95.2.at_ y95.2.place y95.2.e)) 176 :: pt b_B228_5 (LVal.enc (LVal.mk x1 0 0 0)) 46 :: pt b_B228_4 (LVal.enc LVal.zero) 46 :: Lr) := hM
      intro a hF
      refine s_val hF (r_fieldAddr (off' := 1) Tryz.underlying46 rfl in3 rfl hF rfl rfl rfl) rfl rfl rfl fun a hF => ?_
      refine s_eff0 rfl rfl (w_store1 Tryz.sizeOf3 (hM.obj (i := 1) rfl) hF rfl rfl rfl rfl (by rw [LVal.len]; decide) (LVal.s_table _ _) fun w hU98 => ?_)
      have hM := hM.chg hU98 (i := 1) rfl
      replace hM : MemL _ (pt b0 (RReader.enc (RReader.mk s96 y95.2.at_ y95.2.place y95.2.e)) 176 :: pt b_B228_5 (LVal.enc (LVal.mk x1 y95.1 0 0)) 46 :: pt b_B228_4 (LVal.enc LVal.zero) 46 :: Lr) := hM
      refine c_nil (n_then ?_)
      refine c_region ?_
      refine s_val hF (r_move hF rfl rfl) rfl rfl rfl fun a hF => ?_
      obtain ⟨y100, hy100, hP⟩ := bind_some hP
      refine s_eff hF rfl rfl rfl (w_call (xs := [.tmp 13, .const (.int .i64 (63))]) Tryz.call115 hF rfl rfl (trace_reader_most_calls hy100 hM (Bf := Bf) (fun w hM => hsub _ (dropM hM 2)) f97) fun v w hR => ?_)
      obtain ⟨s101, rfl, f102, hM⟩ := hR
      replace hM : MemL _ (pt b0 (RReader.enc (RReader.mk s101 y100.2.at_ y100.2.place y100.2.e)) 176 :: pt b_B228_5 (LVal.enc (LVal.mk x1 y95.1 0 0)) 46 :: pt b_B228_4 (LVal.enc LVal.zero) 46 :: Lr) := hM
      intro a hF
      refine s_val hF (r_fieldAddr (off' := 2) Tryz.underlying46 rfl in3 rfl hF rfl rfl rfl) rfl rfl rfl fun a hF => ?_
      refine s_eff0 rfl rfl (w_store1 Tryz.sizeOf3 (hM.obj (i := 1) rfl) hF rfl rfl rfl rfl (by rw [LVal.len]; decide) (LVal.s_row _ _) fun w hU103 => ?_)
      have hM := hM.chg hU103 (i := 1) rfl
      replace hM : MemL _ (pt b0 (RReader.enc (RReader.mk s101 y100.2.at_ y100.2.place y100.2.e)) 176 :: pt b_B228_5 (LVal.enc (LVal.mk x1 y95.1 y100.1 0)) 46 :: pt b_B228_4 (LVal.enc LVal.zero) 46 :: Lr) := hM
      refine c_nil (n_then ?_)
      have hP := Option.some.inj hP
      subst hP
      exact ⟨((LVal.mk x1 y95.1 y100.1 0), y100.2), rfl, s101, f102, hF.to ⟨rfl, rfl, rfl, rfl, trivial⟩, selM hM [1, 0, 2] 3 rfl⟩
    have hP := Fx.cF hb93 hP
    refine c_skip (n_then ?_)
    have hP := Option.some.inj hP
    subst hP
    exact ⟨((LVal.mk x1 0 0 0), x0), rfl, s1, f2, hF.to ⟨rfl, rfl, rfl, rfl, trivial⟩, selM hM [0, 2, 1] 3 rfl⟩
  rintro ⟨v89, v90⟩ a w hP ⟨s91, f92, hF, hM⟩
  replace hP : Sh.trace_reader_rest_j1 x1 v89 v90 = _ := hP
  unfold Sh.trace_reader_rest_j1 at hP
  refine n_then ?_
  refine c_seq ?_
  refine c_joinX hF hM hP (fun F x a w => match x with | (v116, v117) => ∃ (s118 : SV), LIn Bf s118 v117.b ∧ Fr 22 [(4, .pointer (some ⟨b_B228_4, 0, none⟩)), (5, .pointer (some ⟨b_B228_5, 0, none⟩))] a ∧ MemL w (pt b_B228_5 (LVal.enc v116) 46 :: pt b0 (RReader.enc (RReader.mk s118 v117.at_ v117.place v117.e)) 176 :: pt b_B228_4 (LVal.enc LVal.zero) 46 :: Lr)) (fun o_j2 hP hK_j2 hF hM => ?_) ?_
  · refine c_seq ?_
    refine c_region ?_
    refine s_val hF (r_move hF rfl rfl) rfl rfl rfl fun a hF => ?_
    refine s_val hF (r_neq hF rfl rfl rfl) rfl rfl rfl fun a hF => ?_
    refine c_nil (n_then ?_)
    refine c_cond hF (c := .tmp 17) rfl (fun hb120 => ?_) (fun hb120 => ?_)
    · have hP := Fx.cT hb120 hP
      refine c_region ?_
      refine s_val hF (r_move hF rfl rfl) rfl rfl rfl fun a hF => ?_
      obtain ⟨y122, hy122, hP⟩ := bind_some hP
      refine s_eff hF rfl rfl rfl (w_call (xs := [.tmp 18, .const (.int .i64 (8))]) Tryz.call113 hF rfl rfl (trace_reader_number_calls hy122 (selM hM [1, 0, 2] 3 rfl) (Bf := Bf) (fun w hM => hsub _ (dropM hM 2)) f92) fun v w hR => ?_)
      obtain ⟨s123, rfl, f124, hM⟩ := hR
      replace hM : MemL _ (pt b0 (RReader.enc (RReader.mk s123 y122.2.at_ y122.2.place y122.2.e)) 176 :: pt b_B228_5 (LVal.enc v89) 46 :: pt b_B228_4 (LVal.enc LVal.zero) 46 :: Lr) := hM
      intro a hF
      refine s_val hF (r_fieldAddr (off' := 3) Tryz.underlying46 rfl in3 rfl hF rfl rfl rfl) rfl rfl rfl fun a hF => ?_
      refine s_eff0 rfl rfl (w_store1 Tryz.sizeOf3 (hM.obj (i := 1) rfl) hF rfl rfl rfl rfl (by rw [LVal.len]; decide) (LVal.s_x _ _) fun w hU125 => ?_)
      have hM := hM.chg hU125 (i := 1) rfl
      replace hM : MemL _ (pt b0 (RReader.enc (RReader.mk s123 y122.2.at_ y122.2.place y122.2.e)) 176 :: pt b_B228_5 (LVal.enc (LVal.mk v89.kind v89.table v89.row y122.1)) 46 :: pt b_B228_4 (LVal.enc LVal.zero) 46 :: Lr) := hM
      refine c_nil (n_then ?_)
      have hP := Option.some.inj hP
      subst hP
      exact ⟨((LVal.mk v89.kind v89.table v89.row y122.1), y122.2), rfl, s123, f124, hF.to ⟨rfl, rfl, trivial⟩, selM hM [1, 0, 2] 3 rfl⟩
    have hP := Fx.cF hb120 hP
    refine c_skip (n_then ?_)
    have hP := Option.some.inj hP
    subst hP
    exact ⟨(v89, v90), rfl, s91, f92, hF.to ⟨rfl, rfl, trivial⟩, hM⟩
  rintro ⟨v116, v117⟩ a w hP ⟨s118, f119, hF, hM⟩
  replace hP : Sh.trace_reader_rest_j2 v116 v117 = _ := hP
  unfold Sh.trace_reader_rest_j2 at hP
  refine n_then ?_
  refine c_seq ?_
  refine c_region ?_
  refine s_val hF (r_loadn Tryz.isAgg46 Tryz.sizeOf46 hF rfl rfl (LVal.len _) (hM.cells (i := 0) rfl (cut_all (LVal.len _)))) rfl rfl rfl fun a hF => ?_
  refine s_eff0 rfl rfl (w_storen (vs := _) Tryz.sizeOf46 (hM.obj (i := 2) rfl) hF rfl rfl rfl rfl (LVal.len _) (LVal.one _) (by first | (rw [LVal.len, LVal.len]; decide) | (rw [LVal.len]; decide)) (put_all ((LVal.len _).trans (LVal.len _).symm)) fun w hU126 => ?_)
  have hM := hM.chg hU126 (i := 2) rfl
  replace hM : MemL _ (pt b_B228_5 (LVal.enc v116) 46 :: pt b0 (RReader.enc (RReader.mk s118 v117.at_ v117.place v117.e)) 176 :: pt b_B228_4 (LVal.enc v116) 46 :: Lr) := hM
  refine c_nil (n_then ?_)
  refine c_ret ?_
  have hP := Option.some.inj hP
  subst hP
  refine e_ret (rs := [.cell 4 46]) Tryz.results228 hF (res_celln hF rfl Tryz.isAgg46 Tryz.sizeOf46 (LVal.len _) (hM.cells (i := 2) rfl (cut_all (LVal.len _))) res_nil) rfl ?_
  exact ⟨s118, rfl, f119, selM hM [1] 3 rfl⟩
set_option maxHeartbeats 4000000 in
theorem trace_reader_value_calls {x0 : QReader} {s1 : SV} {b0 : Nat} {out : (LVal × QReader)} {w0 : World} {Bf : World → Prop} {Lr : List Res} (hP : Sh.trace_reader_value x0 = some out) (hM : MemL w0 (pt b0 (RReader.enc (RReader.mk s1 x0.at_ x0.place x0.e)) 176 :: Lr)) (hsub : ∀ w, MemL w Lr → Bf w) (f2 : LIn Bf s1 x0.b) : Calls Tryz.prog 185 #[.pointer (some ⟨b0, 0, none⟩)] w0 (Ret fun v w' => ∃ (s12 : SV), v = .agg (LVal.enc out.1).toArray ∧ LIn Bf s12 out.2.b ∧ MemL w' (pt b0 (RReader.enc (RReader.mk s12 out.2.at_ out.2.place out.2.e)) 176 :: Lr)) := by
  unfold Sh.trace_reader_value at hP
  refine calls_enter (vs := [.pointer (some ⟨b0, 0, none⟩)]) Tryz.func185 rfl Tryz.ntmps185 rfl fun a hF => ?_
  refine c_seq ?_
  refine c_region ?_
  refine s_eff hF rfl rfl rfl (w_alloc z46 (zs := LVal.zero.enc) rfl rfl fun b_B185_2 w hzB185_2 hAB185_2 => ?_)
  have hM := hM.plus hAB185_2
  replace hM : MemL _ (pt b_B185_2 (LVal.enc LVal.zero) 46 :: pt b0 (RReader.enc (RReader.mk s1 x0.at_ x0.place x0.e)) 176 :: Lr) := hM
  intro a hF
  refine c_nil (n_then ?_)
  refine c_seq ?_
  refine c_region ?_
  refine s_val hF (r_move hF rfl rfl) rfl rfl rfl fun a hF => ?_
  refine s_val hF (r_move hF rfl rfl) rfl rfl rfl fun a hF => ?_
  obtain ⟨y15, hy15, hP⟩ := bind_some hP
  refine s_eff hF rfl rfl rfl (w_call (xs := [.tmp 4, .const (.int .i64 (5))]) Tryz.call115 hF rfl rfl (trace_reader_most_calls hy15 (selM hM [1, 0] 2 rfl) (Bf := Bf) (fun w hM => hsub _ (dropM hM 1)) f2) fun v w hR => ?_)
  obtain ⟨s16, rfl, f17, hM⟩ := hR
  replace hM : MemL _ (pt b0 (RReader.enc (RReader.mk s16 y15.2.at_ y15.2.place y15.2.e)) 176 :: pt b_B185_2 (LVal.enc LVal.zero) 46 :: Lr) := hM
  intro a hF
  obtain ⟨y19, hy19, hP⟩ := bind_some hP
  refine s_eff hF rfl rfl rfl (w_call (xs := [.tmp 3, .tmp 5]) Tryz.call228 hF rfl rfl (trace_reader_rest_calls hy19 hM (Bf := Bf) (fun w hM => hsub _ (dropM hM 1)) f17) fun v w hR => ?_)
  obtain ⟨s20, rfl, f21, hM⟩ := hR
  replace hM : MemL _ (pt b0 (RReader.enc (RReader.mk s20 y19.2.at_ y19.2.place y19.2.e)) 176 :: pt b_B185_2 (LVal.enc LVal.zero) 46 :: Lr) := hM
  intro a hF
  refine s_eff0 rfl rfl (w_storen (vs := _) Tryz.sizeOf46 (hM.obj (i := 1) rfl) hF rfl rfl rfl rfl (LVal.len _) (LVal.one _) (by first | (rw [LVal.len, LVal.len]; decide) | (rw [LVal.len]; decide)) (put_all ((LVal.len _).trans (LVal.len _).symm)) fun w hU22 => ?_)
  have hM := hM.chg hU22 (i := 1) rfl
  replace hM : MemL _ (pt b0 (RReader.enc (RReader.mk s20 y19.2.at_ y19.2.place y19.2.e)) 176 :: pt b_B185_2 (LVal.enc y19.1) 46 :: Lr) := hM
  refine c_nil (n_then ?_)
  refine c_ret ?_
  have hP := Option.some.inj hP
  subst hP
  refine e_ret (rs := [.cell 2 46]) Tryz.results185 hF (res_celln hF rfl Tryz.isAgg46 Tryz.sizeOf46 (LVal.len _) (hM.cells (i := 1) rfl (cut_all (LVal.len _))) res_nil) rfl ?_
  exact ⟨s20, rfl, f21, selM hM [0] 2 rfl⟩
set_option maxHeartbeats 4000000 in
theorem trace_reader_slot_calls {x0 : QReader} {s1 : SV} {b0 : Nat} {out : (LSlot × QReader)} {w0 : World} {Bf : World → Prop} {Lr : List Res} (hP : Sh.trace_reader_slot x0 = some out) (hM : MemL w0 (pt b0 (RReader.enc (RReader.mk s1 x0.at_ x0.place x0.e)) 176 :: Lr)) (hsub : ∀ w, MemL w Lr → Bf w) (f2 : LIn Bf s1 x0.b) : Calls Tryz.prog 187 #[.pointer (some ⟨b0, 0, none⟩)] w0 (Ret fun v w' => ∃ (s332 : SV), v = .agg (LSlot.enc out.1).toArray ∧ LIn Bf s332 out.2.b ∧ MemL w' (pt b0 (RReader.enc (RReader.mk s332 out.2.at_ out.2.place out.2.e)) 176 :: Lr)) := by
  unfold Sh.trace_reader_slot at hP
  refine calls_enter (vs := [.pointer (some ⟨b0, 0, none⟩)]) Tryz.func187 rfl Tryz.ntmps187 rfl fun a hF => ?_
  refine c_seq ?_
  refine c_region ?_
  refine s_eff hF rfl rfl rfl (w_alloc z50 (zs := LSlot.zero.enc) rfl rfl fun b_B187_2 w hzB187_2 hAB187_2 => ?_)
  have hM := hM.plus hAB187_2
  replace hM : MemL _ (pt b_B187_2 (LSlot.enc LSlot.zero) 50 :: pt b0 (RReader.enc (RReader.mk s1 x0.at_ x0.place x0.e)) 176 :: Lr) := hM
  intro a hF
  refine c_nil (n_then ?_)
  refine c_seq ?_
  refine c_region ?_
  refine s_val hF (r_move hF rfl rfl) rfl rfl rfl fun a hF => ?_
  obtain ⟨y335, hy335, hP⟩ := bind_some hP
  refine s_eff hF rfl rfl rfl (w_call (xs := [.tmp 6, .const (.int .i64 (5))]) Tryz.call115 hF rfl rfl (trace_reader_most_calls hy335 (selM hM [1, 0] 2 rfl) (Bf := Bf) (fun w hM => hsub _ (dropM hM 1)) f2) fun v w hR => ?_)
  obtain ⟨s336, rfl, f337, hM⟩ := hR
  replace hM : MemL _ (pt b0 (RReader.enc (RReader.mk s336 y335.2.at_ y335.2.place y335.2.e)) 176 :: pt b_B187_2 (LSlot.enc LSlot.zero) 50 :: Lr) := hM
  intro a hF
  refine s_val hF (r_assign hF rfl rfl) rfl rfl rfl fun a hF => ?_
  refine c_nil (n_then ?_)
  refine c_seq ?_
  refine c_seq ?_
  refine c_region ?_
  refine s_val hF (r_move hF rfl rfl) rfl rfl rfl fun a hF => ?_
  refine c_nil (n_then ?_)
  refine c_block ?_
  refine c_seq ?_
  refine c_region ?_
  refine s_val hF (r_eql hF rfl rfl rfl) rfl rfl rfl fun a hF => ?_
  refine s_val hF (r_assign hF rfl rfl) rfl rfl rfl fun a hF => ?_
  refine c_nil (n_then ?_)
  refine c_cond hF (c := .tmp 13) rfl (fun hb350 => ?_) (fun hb350 => ?_)
  · have hP := Fx.cT hb350 hP
    refine c_skip (n_block (n_then ?_))
    refine c_seq ?_
    refine c_region ?_
    refine s_val hF (r_move hF rfl rfl) rfl rfl rfl fun a hF => ?_
    obtain ⟨y352, hy352, hP⟩ := bind_some hP
    refine s_eff hF rfl rfl rfl (w_call (xs := [.tmp 25, .const (.int .i64 (1))]) Tryz.call113 hF rfl rfl (trace_reader_number_calls hy352 hM (Bf := Bf) (fun w hM => hsub _ (dropM hM 1)) f337) fun v w hR => ?_)
    obtain ⟨s353, rfl, f354, hM⟩ := hR
    replace hM : MemL _ (pt b0 (RReader.enc (RReader.mk s353 y352.2.at_ y352.2.place y352.2.e)) 176 :: pt b_B187_2 (LSlot.enc LSlot.zero) 50 :: Lr) := hM
    intro a hF
    refine s_val hF (r_build z50 Tryz.underlying50 pl50 hF (parts := [(2, .tmp 26)]) rfl rfl (fill_s rfl rfl (by rw [LSlot.len]; decide) (LSlot.s_mask _ _) fill_e)) rfl rfl rfl fun a hF => ?_
    refine s_eff hF rfl rfl rfl (w_alloc z50 (zs := LSlot.zero.enc) rfl rfl fun b_B187_4 w hzB187_4 hAB187_4 => ?_)
    have hM := hM.plus hAB187_4
    replace hM : MemL _ (pt b_B187_4 (LSlot.enc LSlot.zero) 50 :: pt b0 (RReader.enc (RReader.mk s353 y352.2.at_ y352.2.place y352.2.e)) 176 :: pt b_B187_2 (LSlot.enc LSlot.zero) 50 :: Lr) := hM
    intro a hF
    refine s_eff0 rfl rfl (w_storen (vs := _) Tryz.sizeOf50 (hM.obj (i := 0) rfl) hF rfl rfl rfl rfl (LSlot.len _) (LSlot.one _) (by first | (rw [LSlot.len, LSlot.len]; decide) | (rw [LSlot.len]; decide)) (put_all ((LSlot.len _).trans (LSlot.len _).symm)) fun w hU355 => ?_)
    have hM := hM.chg hU355 (i := 0) rfl
    replace hM : MemL _ (pt b_B187_4 (LSlot.enc (LSlot.mk LVal.zero (⟨List.replicate 8 0, rfl⟩ : Vec UInt8 8) y352.1)) 50 :: pt b0 (RReader.enc (RReader.mk s353 y352.2.at_ y352.2.place y352.2.e)) 176 :: pt b_B187_2 (LSlot.enc LSlot.zero) 50 :: Lr) := hM
    refine c_nil (n_then ?_)
    refine c_seq ?_
    refine c_joinX hF hM hP (fun F x a w => match x with | (v550, v551) => ∃ (s552 : SV), LIn Bf s552 v551.b ∧ Fr 45 [(2, .pointer (some ⟨b_B187_2, 0, none⟩)), (4, .pointer (some ⟨b_B187_4, 0, none⟩))] a ∧ MemL w (pt b_B187_4 (LSlot.enc v550) 50 :: pt b0 (RReader.enc (RReader.mk s552 v551.at_ v551.place v551.e)) 176 :: pt b_B187_2 (LSlot.enc LSlot.zero) 50 :: Lr)) (fun o_j1 hP hK_j1 hF hM => ?_) ?_
    · refine c_seq ?_
      refine c_region ?_
      refine s_val hF (r_move hF rfl rfl) rfl rfl rfl fun a hF => ?_
      refine c_nil (n_then ?_)
      refine c_block ?_
      refine c_loopX hF hM hP (fun F x a w => match x with | (v616, v617, v620) => ∃ (s618 : SV), LIn Bf s618 v617.b ∧ Fr 45 [(28, .int .i64 v620), (0, .pointer (some ⟨b0, 0, none⟩)), (2, .pointer (some ⟨b_B187_2, 0, none⟩)), (4, .pointer (some ⟨b_B187_4, 0, none⟩))] a ∧ MemL w (pt b_B187_4 (LSlot.enc v616) 50 :: pt b0 (RReader.enc (RReader.mk s618 v617.at_ v617.place v617.e)) 176 :: pt b_B187_2 (LSlot.enc LSlot.zero) 50 :: Lr)) (fun hF hM => ⟨s353, f354, hF.to ⟨rfl, rfl, rfl, rfl, trivial⟩, hM⟩) ?_
      rintro ⟨v616, v617, v620⟩ a w o_l2 hP hK_l2 ⟨s618, f619, hF, hM⟩
      replace hP : Sh.trace_reader_slot_l2 v616 v617 v620 = _ := hP
      unfold Sh.trace_reader_slot_l2 at hP
      refine c_seq ?_
      refine c_region ?_
      refine s_val hF (r_lss hF rfl rfl rfl) rfl rfl rfl fun a hF => ?_
      refine c_nil (n_then ?_)
      refine c_seq ?_
      refine c_cond hF (c := .tmp 29) rfl (fun hb622 => ?_) (fun hb622 => ?_)
      · have hP := Fx.cT hb622 hP
        refine c_skip (n_then ?_)
        refine c_seq ?_
        refine c_joinX hF hM hP (fun F x a w => match x with | (v639, v640) => ∃ (s641 : SV), LIn Bf s641 v640.b ∧ Fr 45 [(0, .pointer (some ⟨b0, 0, none⟩)), (2, .pointer (some ⟨b_B187_2, 0, none⟩)), (28, .int .i64 v620), (4, .pointer (some ⟨b_B187_4, 0, none⟩))] a ∧ MemL w (pt b_B187_4 (LSlot.enc v639) 50 :: pt b0 (RReader.enc (RReader.mk s641 v640.at_ v640.place v640.e)) 176 :: pt b_B187_2 (LSlot.enc LSlot.zero) 50 :: Lr)) (fun o_j3 hP hK_j3 hF hM => ?_) ?_
        · refine c_block ?_
          refine c_seq ?_
          refine c_region ?_
          refine s_val hF (r_move hF rfl rfl) rfl rfl rfl fun a hF => ?_
          refine s_val hF (r_assign hF rfl rfl) rfl rfl rfl fun a hF => ?_
          refine c_nil (n_then ?_)
          refine c_seq ?_
          refine c_region ?_
          refine s_val hF (r_fieldAddr (off' := 12) Tryz.underlying50 rfl in3 rfl hF rfl rfl rfl) rfl rfl rfl fun a hF => ?_
          refine s_val hF (r_load1 Tryz.isAgg3 hF rfl rfl (hM.cell (i := 0) rfl (LSlot.g_mask _))) rfl rfl rfl fun a hF => ?_
          refine s_val hF (r_move hF rfl rfl) rfl rfl rfl fun a hF => ?_
          obtain ⟨hc643, hP⟩ := must_some hP
          refine s_val hF (r_shr hF rfl rfl rfl (of_decide_eq_true hc643)) rfl rfl rfl fun a hF => ?_
          refine s_val hF (r_and hF rfl rfl rfl) rfl rfl rfl fun a hF => ?_
          refine s_val hF (r_eql hF rfl rfl rfl) rfl rfl rfl fun a hF => ?_
          refine c_nil (n_then ?_)
          refine c_cond hF (c := .tmp 36) rfl (fun hb644 => ?_) (fun hb644 => ?_)
          · have hP := Fx.cT hb644 hP
            refine c_region ?_
            refine s_val hF (r_move hF rfl rfl) rfl rfl rfl fun a hF => ?_
            refine s_val hF (r_move hF rfl rfl) rfl rfl rfl fun a hF => ?_
            obtain ⟨y646, hy646, hP⟩ := bind_some hP
            refine s_eff hF rfl rfl rfl (w_call (xs := [.tmp 38, .const (.int .i64 (1))]) Tryz.call113 hF rfl rfl (trace_reader_number_calls hy646 (selM hM [1, 0, 2] 3 rfl) (Bf := Bf) (fun w hM => hsub _ (dropM hM 2)) f619) fun v w hR => ?_)
            obtain ⟨s647, rfl, f648, hM⟩ := hR
            replace hM : MemL _ (pt b0 (RReader.enc (RReader.mk s647 y646.2.at_ y646.2.place y646.2.e)) 176 :: pt b_B187_4 (LSlot.enc v616) 50 :: pt b_B187_2 (LSlot.enc LSlot.zero) 50 :: Lr) := hM
            intro a hF
            refine s_val hF (r_convB Tryz.underlying3 Tryz.underlying5 hF rfl rfl) rfl rfl rfl fun a hF => ?_
            refine s_val hF (r_fieldAddr (off' := 4) Tryz.underlying50 rfl in48 rfl hF rfl rfl rfl) rfl rfl rfl fun a hF => ?_
            obtain ⟨x649, hx649, hP⟩ := bind_some hP
            have h0x649 := get_some hx649
            refine s_val hF (r_indexAddrA (sz := 1) Tryz.underlying48 in5 rfl hF rfl rfl rfl (get_bdv hx649)) rfl rfl rfl fun a hF => ?_
            refine s_eff0 rfl rfl (w_store1 Tryz.sizeOf5 (hM.obj (i := 1) rfl) hF rfl rfl rfl rfl (by have := (get_bdv hx649); rw [LSlot.len]; omega) (set_put (LSlot.pi_bytes _ _ _ (by have := (get_bdv hx649); omega)) (by have := (get_bdv hx649); rw [LSlot.len]; omega)) fun w hU650 => ?_)
            have hM := hM.chg hU650 (i := 1) rfl
            replace hM : MemL _ (pt b0 (RReader.enc (RReader.mk s647 y646.2.at_ y646.2.place y646.2.e)) 176 :: pt b_B187_4 (LSlot.enc (LSlot.mk v616.ptr (v616.bytes.set (v620 : Int).toNat (Fw.byteOf y646.1)) v616.mask)) 50 :: pt b_B187_2 (LSlot.enc LSlot.zero) 50 :: Lr) := hM
            refine c_nil (n_block (n_then ?_))
            have hP := Option.some.inj hP
            subst hP
            exact ⟨((LSlot.mk v616.ptr (v616.bytes.set (v620 : Int).toNat (Fw.byteOf y646.1)) v616.mask), y646.2), rfl, s647, f648, hF.to ⟨rfl, rfl, rfl, rfl, trivial⟩, selM hM [1, 0, 2] 3 rfl⟩
          have hP := Fx.cF hb644 hP
          refine c_skip (n_block (n_then ?_))
          have hP := Option.some.inj hP
          subst hP
          exact ⟨(v616, v617), rfl, s618, f619, hF.to ⟨rfl, rfl, rfl, rfl, trivial⟩, hM⟩
        rintro ⟨v639, v640⟩ a w hP ⟨s641, f642, hF, hM⟩
        replace hP : Sh.trace_reader_slot_j3 v620 v639 v640 = _ := hP
        unfold Sh.trace_reader_slot_j3 at hP
        refine n_then ?_
        refine c_region ?_
        refine s_val hF (r_add hF rfl rfl rfl) rfl rfl rfl fun a hF => ?_
        refine s_val hF (r_move hF rfl rfl) rfl rfl rfl fun a hF => ?_
        refine c_nil (n_then ?_)
        have hP := Option.some.inj hP
        subst hP
        exact ⟨(v639, v640, (IntKind.i64.wrap (v620 + 1))), rfl, s641, f642, hF.to ⟨rfl, rfl, rfl, rfl, trivial⟩, hM⟩
      have hP := Fx.cF hb622 hP
      refine c_exit (x_then (x_then (x_hit ?_)))
      refine n_then ?_
      have hP := Option.some.inj hP
      subst hP
      have hP := hK_l2 _ rfl
      subst hP
      exact ⟨(v616, v617), rfl, s618, f619, hF.to ⟨rfl, rfl, trivial⟩, hM⟩
    rintro ⟨v550, v551⟩ a w hP ⟨s552, f553, hF, hM⟩
    replace hP : Sh.trace_reader_slot_j1 v550 v551 = _ := hP
    unfold Sh.trace_reader_slot_j1 at hP
    refine n_then ?_
    refine c_seq ?_
    refine c_region ?_
    refine s_val hF (r_loadn Tryz.isAgg50 Tryz.sizeOf50 hF rfl rfl (LSlot.len _) (hM.cells (i := 0) rfl (cut_all (LSlot.len _)))) rfl rfl rfl fun a hF => ?_
    refine s_eff0 rfl rfl (w_storen (vs := _) Tryz.sizeOf50 (hM.obj (i := 2) rfl) hF rfl rfl rfl rfl (LSlot.len _) (LSlot.one _) (by first | (rw [LSlot.len, LSlot.len]; decide) | (rw [LSlot.len]; decide)) (put_all ((LSlot.len _).trans (LSlot.len _).symm)) fun w hU651 => ?_)
    have hM := hM.chg hU651 (i := 2) rfl
    replace hM : MemL _ (pt b_B187_4 (LSlot.enc v550) 50 :: pt b0 (RReader.enc (RReader.mk s552 v551.at_ v551.place v551.e)) 176 :: pt b_B187_2 (LSlot.enc v550) 50 :: Lr) := hM
    refine c_nil (n_then ?_)
    refine c_ret ?_
    have hP := Option.some.inj hP
    subst hP
    refine e_ret (rs := [.cell 2 50]) Tryz.results187 hF (res_celln hF rfl Tryz.isAgg50 Tryz.sizeOf50 (LSlot.len _) (hM.cells (i := 2) rfl (cut_all (LSlot.len _))) res_nil) rfl ?_
    exact ⟨s552, rfl, f553, selM hM [1] 3 rfl⟩
  have hP := Fx.cF hb350 hP
  refine c_seq ?_
  refine c_region ?_
  refine s_val hF (r_eql hF rfl rfl rfl) rfl rfl rfl fun a hF => ?_
  refine s_val hF (r_assign hF rfl rfl) rfl rfl rfl fun a hF => ?_
  refine c_nil (n_then ?_)
  refine c_cond hF (c := .tmp 15) rfl (fun hb652 => ?_) (fun hb652 => ?_)
  · have hP := Fx.cT hb652 hP
    refine c_seq ?_
    refine c_region ?_
    refine s_val hF (r_move hF rfl rfl) rfl rfl rfl fun a hF => ?_
    refine s_val hF (r_move hF rfl rfl) rfl rfl rfl fun a hF => ?_
    refine s_val hF (r_nilCheckP hF rfl rfl) rfl rfl rfl fun a hF => ?_
    refine s_val hF (r_fieldAddr (off' := 1) Tryz.underlying176 rfl in3 rfl hF rfl rfl rfl) rfl rfl rfl fun a hF => ?_
    refine s_val hF (r_load1 Tryz.isAgg3 hF rfl rfl (hM.cell (i := 0) rfl (RReader.g_at_ _))) rfl rfl rfl fun a hF => ?_
    refine s_val hF (r_sub hF rfl rfl rfl) rfl rfl rfl fun a hF => ?_
    obtain ⟨y654, hy654, hP⟩ := bind_some hP
    refine s_eff hF rfl rfl rfl (w_call (xs := [.tmp 17, .tmp 22, .const (.int .i64 (236))]) Tryz.call112 hF rfl rfl (trace_reader_fault_calls hy654 hM (Bf := Bf) (fun w hM => hsub _ (dropM hM 1)) f337) fun v w hR => ?_)
    obtain ⟨s655, rfl, f656, hM⟩ := hR
    replace hM : MemL _ (pt b0 (RReader.enc (RReader.mk s655 y654.at_ y654.place y654.e)) 176 :: pt b_B187_2 (LSlot.enc LSlot.zero) 50 :: Lr) := hM
    intro a hF
    refine c_nil (n_then ?_)
    refine c_seq ?_
    refine c_region ?_
    refine s_val hF (r_build z50 Tryz.underlying50 pl50 hF (parts := []) rfl rfl fill_e) rfl rfl rfl fun a hF => ?_
    refine s_eff0 rfl rfl (w_storen (vs := _) Tryz.sizeOf50 (hM.obj (i := 1) rfl) hF rfl rfl rfl rfl (LSlot.len _) (LSlot.one _) (by first | (rw [LSlot.len, LSlot.len]; decide) | (rw [LSlot.len]; decide)) (put_all ((LSlot.len _).trans (LSlot.len _).symm)) fun w hU657 => ?_)
    have hM := hM.chg hU657 (i := 1) rfl
    replace hM : MemL _ (pt b0 (RReader.enc (RReader.mk s655 y654.at_ y654.place y654.e)) 176 :: pt b_B187_2 (LSlot.enc LSlot.zero) 50 :: Lr) := hM
    refine c_nil (n_then ?_)
    refine c_ret ?_
    have hP := Option.some.inj hP
    subst hP
    refine e_ret (rs := [.cell 2 50]) Tryz.results187 hF (res_celln hF rfl Tryz.isAgg50 Tryz.sizeOf50 (LSlot.len _) (hM.cells (i := 1) rfl (cut_all (LSlot.len _))) res_nil) rfl ?_
    exact ⟨s655, rfl, f656, selM hM [0] 2 rfl⟩
  have hP := Fx.cF hb652 hP
  refine c_seq ?_
  refine c_region ?_
  refine s_val hF (r_move hF rfl rfl) rfl rfl rfl fun a hF => ?_
  refine s_val hF (r_move hF rfl rfl) rfl rfl rfl fun a hF => ?_
  obtain ⟨y659, hy659, hP⟩ := bind_some hP
  refine s_eff hF rfl rfl rfl (w_call (xs := [.tmp 9, .tmp 10]) Tryz.call228 hF rfl rfl (trace_reader_rest_calls hy659 hM (Bf := Bf) (fun w hM => hsub _ (dropM hM 1)) f337) fun v w hR => ?_)
  obtain ⟨s660, rfl, f661, hM⟩ := hR
  replace hM : MemL _ (pt b0 (RReader.enc (RReader.mk s660 y659.2.at_ y659.2.place y659.2.e)) 176 :: pt b_B187_2 (LSlot.enc LSlot.zero) 50 :: Lr) := hM
  intro a hF
  refine s_val hF (r_build z50 Tryz.underlying50 pl50 hF (parts := [(0, .tmp 11)]) rfl rfl (fill_p rfl (LVal.len _) (by rw [LVal.len, LSlot.len]; decide) (LSlot.p_ptr _ _) fill_e)) rfl rfl rfl fun a hF => ?_
  refine s_eff0 rfl rfl (w_storen (vs := _) Tryz.sizeOf50 (hM.obj (i := 1) rfl) hF rfl rfl rfl rfl (LSlot.len _) (LSlot.one _) (by first | (rw [LSlot.len, LSlot.len]; decide) | (rw [LSlot.len]; decide)) (put_all ((LSlot.len _).trans (LSlot.len _).symm)) fun w hU662 => ?_)
  have hM := hM.chg hU662 (i := 1) rfl
  replace hM : MemL _ (pt b0 (RReader.enc (RReader.mk s660 y659.2.at_ y659.2.place y659.2.e)) 176 :: pt b_B187_2 (LSlot.enc (LSlot.mk y659.1 (⟨List.replicate 8 0, rfl⟩ : Vec UInt8 8) 0)) 50 :: Lr) := hM
  refine c_nil (n_then ?_)
  refine c_ret ?_
  have hP := Option.some.inj hP
  subst hP
  refine e_ret (rs := [.cell 2 50]) Tryz.results187 hF (res_celln hF rfl Tryz.isAgg50 Tryz.sizeOf50 (LSlot.len _) (hM.cells (i := 1) rfl (cut_all (LSlot.len _))) res_nil) rfl ?_
  exact ⟨s660, rfl, f661, selM hM [0] 2 rfl⟩
end Go.Proofs
end
section
namespace Go.Proofs
open Go.Fw Go.Fx
set_option maxRecDepth 10000
set_option linter.unusedVariables false
set_option linter.unusedSimpArgs false
set_option maxHeartbeats 4000000 in
theorem trace_within_calls {x0 : Int} {x1 : Int} {x2 : Int} {out : Bool} {w0 : World} {Lr : List Res} (hP : Sh.trace_within x0 x1 x2 = some out) (hM : MemL w0 (Lr)) : Calls Tryz.prog 124 #[.int .i64 x0, .int .i64 x1, .int .i64 x2] w0 (Ret fun v w' => v = .bool out ∧ MemL w' (Lr)) := by
  unfold Sh.trace_within at hP
  refine calls_enter (vs := [.int .i64 x0, .int .i64 x1, .int .i64 x2]) Tryz.func124 rfl Tryz.ntmps124 rfl fun a hF => ?_
  refine c_seq ?_
  refine c_region ?_
  refine s_val hF (r_assign hF rfl rfl) rfl rfl rfl fun a hF => ?_
  refine c_nil (n_then ?_)
  refine c_seq ?_
  refine c_joinX hF hM hP (fun F x a w => match x with | v7 => Fr 15 [(6, .bool v7)] a ∧ MemL w (Lr)) (fun o_j1 hP hK_j1 hF hM => ?_) ?_
  · refine c_region ?_
    refine s_val hF (r_move hF rfl rfl) rfl rfl rfl fun a hF => ?_
    refine s_val hF (r_move hF rfl rfl) rfl rfl rfl fun a hF => ?_
    refine s_val hF (r_geq hF rfl rfl rfl) rfl rfl rfl fun a hF => ?_
    refine s_val hF (r_move hF rfl rfl) rfl rfl rfl fun a hF => ?_
    refine g_split 10 hF rfl (fun hb8 => ?_) (fun hb8 => ?_)
    · have hP := Fx.cT hb8 hP
      refine g_val hF rfl rfl rfl hb8 (r_move hF rfl rfl) rfl rfl fun a hF => ?_
      refine g_val hF rfl rfl rfl hb8 (r_move hF rfl rfl) rfl rfl fun a hF => ?_
      refine g_val hF rfl rfl rfl hb8 (r_leq hF rfl rfl rfl) rfl rfl fun a hF => ?_
      refine s_val hF (r_pick1 hF rfl rfl hb8 rfl) rfl rfl rfl fun a hF => ?_
      refine s_val hF (r_assign hF rfl rfl) rfl rfl rfl fun a hF => ?_
      refine c_nil (n_then ?_)
      have hP := Option.some.inj hP
      subst hP
      exact ⟨(decide (x0 ≤ x2)), rfl, hF.to ⟨rfl, trivial⟩, hM⟩
    have hP := Fx.cF hb8 hP
    refine g_skip hF rfl rfl rfl hb8 rfl rfl fun a hF => ?_
    refine g_skip hF rfl rfl rfl hb8 rfl rfl fun a hF => ?_
    refine g_skip hF rfl rfl rfl hb8 rfl rfl fun a hF => ?_
    refine s_val hF (r_pick0 hF rfl rfl hb8 rfl) rfl rfl rfl fun a hF => ?_
    refine s_val hF (r_assign hF rfl rfl) rfl rfl rfl fun a hF => ?_
    refine c_nil (n_then ?_)
    have hP := Option.some.inj hP
    subst hP
    exact ⟨false, rfl, hF.to ⟨rfl, trivial⟩, hM⟩
  rintro v7 a w hP ⟨hF, hM⟩
  replace hP : Sh.trace_within_j1 v7 = _ := hP
  unfold Sh.trace_within_j1 at hP
  refine n_then ?_
  refine c_ret ?_
  have hP := Option.some.inj hP
  subst hP
  refine e_ret1 Tryz.results124 hF rfl ?_
  exact ⟨rfl, hM⟩
set_option maxHeartbeats 4000000 in
theorem trace_goodEnd_calls {x0 : Int} {out : Bool} {w0 : World} {Lr : List Res} (hP : Sh.trace_goodEnd x0 = some out) (hM : MemL w0 (Lr)) : Calls Tryz.prog 100 #[.int .i64 x0] w0 (Ret fun v w' => v = .bool out ∧ MemL w' (Lr)) := by
  unfold Sh.trace_goodEnd at hP
  refine calls_enter (vs := [.int .i64 x0]) Tryz.func100 rfl Tryz.ntmps100 rfl fun a hF => ?_
  refine c_seq ?_
  refine c_region ?_
  refine s_val hF (r_assign hF rfl rfl) rfl rfl rfl fun a hF => ?_
  refine c_nil (n_then ?_)
  refine c_seq ?_
  refine c_joinX hF hM hP (fun F x a w => match x with | v12 => Fr 13 [(2, .bool v12)] a ∧ MemL w (Lr)) (fun o_j1 hP hK_j1 hF hM => ?_) ?_
  · refine c_region ?_
    refine s_val hF (r_move hF rfl rfl) rfl rfl rfl fun a hF => ?_
    refine s_val hF (r_eql hF rfl rfl rfl) rfl rfl rfl fun a hF => ?_
    refine s_val hF (r_move hF rfl rfl) rfl rfl rfl fun a hF => ?_
    refine g_split 5 hF rfl (fun hb13 => ?_) (fun hb13 => ?_)
    · have hP := Fx.cT hb13 hP
      refine g_skip hF rfl rfl rfl hb13 rfl rfl fun a hF => ?_
      refine g_skip hF rfl rfl rfl hb13 rfl rfl fun a hF => ?_
      refine g_skip hF rfl rfl rfl hb13 rfl rfl fun a hF => ?_
      refine g_skipU hF rfl rfl rfl rfl rfl fun a hF => ?_
      refine g_skipU hF rfl rfl rfl rfl rfl fun a hF => ?_
      refine g_skip hF rfl rfl rfl hb13 rfl rfl fun a hF => ?_
      refine s_val hF (r_pick1 hF rfl rfl hb13 rfl) rfl rfl rfl fun a hF => ?_
      refine s_val hF (r_assign hF rfl rfl) rfl rfl rfl fun a hF => ?_
      refine c_nil (n_then ?_)
      have hP := Option.some.inj hP
      subst hP
      exact ⟨true, rfl, hF.to ⟨rfl, trivial⟩, hM⟩
    have hP := Fx.cF hb13 hP
    refine g_val hF rfl rfl rfl hb13 (r_move hF rfl rfl) rfl rfl fun a hF => ?_
    refine g_val hF rfl rfl rfl hb13 (r_geq hF rfl rfl rfl) rfl rfl fun a hF => ?_
    refine g_val hF rfl rfl rfl hb13 (r_move hF rfl rfl) rfl rfl fun a hF => ?_
    refine g_split 8 hF rfl (fun hb14 => ?_) (fun hb14 => ?_)
    · have hP := Fx.cT hb14 hP
      refine g_val hF rfl rfl rfl hb14 (r_move hF rfl rfl) rfl rfl fun a hF => ?_
      refine g_val hF rfl rfl rfl hb14 (r_leq hF rfl rfl rfl) rfl rfl fun a hF => ?_
      refine g_val hF rfl rfl rfl hb13 (r_pick1 hF rfl rfl hb14 rfl) rfl rfl fun a hF => ?_
      refine s_val hF (r_pick0 hF rfl rfl hb13 rfl) rfl rfl rfl fun a hF => ?_
      refine s_val hF (r_assign hF rfl rfl) rfl rfl rfl fun a hF => ?_
      refine c_nil (n_then ?_)
      have hP := Option.some.inj hP
      subst hP
      exact ⟨(decide (x0 ≤ 89)), rfl, hF.to ⟨rfl, trivial⟩, hM⟩
    have hP := Fx.cF hb14 hP
    refine g_skip hF rfl rfl rfl hb14 rfl rfl fun a hF => ?_
    refine g_skip hF rfl rfl rfl hb14 rfl rfl fun a hF => ?_
    refine g_val hF rfl rfl rfl hb13 (r_pick0 hF rfl rfl hb14 rfl) rfl rfl fun a hF => ?_
    refine s_val hF (r_pick0 hF rfl rfl hb13 rfl) rfl rfl rfl fun a hF => ?_
    refine s_val hF (r_assign hF rfl rfl) rfl rfl rfl fun a hF => ?_
    refine c_nil (n_then ?_)
    have hP := Option.some.inj hP
    subst hP
    exact ⟨false, rfl, hF.to ⟨rfl, trivial⟩, hM⟩
  rintro v12 a w hP ⟨hF, hM⟩
  replace hP : Sh.trace_goodEnd_j1 v12 = _ := hP
  unfold Sh.trace_goodEnd_j1 at hP
  refine n_then ?_
  refine c_ret ?_
  have hP := Option.some.inj hP
  subst hP
  refine e_ret1 Tryz.results100 hF rfl ?_
  exact ⟨rfl, hM⟩
set_option maxHeartbeats 4000000 in
theorem trace_changed_byte_calls {x0 : List UInt8} {x1 : List UInt8} {s1 : SV} {s3 : SV} {out : List Int} {w0 : World} {Bf : World → Prop} {Lr : List Res} (hP : Sh.trace_changed_byte x0 x1 = some out) (hM : MemL w0 (Lr)) (hsub : ∀ w, MemL w Lr → Bf w) (f2 : LIn Bf s1 x0) (f4 : LIn Bf s3 x1) : Calls Tryz.prog 158 #[(s1).v, (s3).v] w0 (Ret fun v w' => ∃ (s281 : SV), v = (s281).v ∧ MemL w' (rowL 0 s281 3 out :: Lr)) := by
  unfold Sh.trace_changed_byte at hP
  refine calls_enter (vs := [(s1).v, (s3).v]) Tryz.func158 rfl Tryz.ntmps158 rfl fun a hF => ?_
  refine c_seq ?_
  refine c_region ?_
  refine s_val hF (r_assign hF rfl rfl) rfl rfl rfl fun a hF => ?_
  refine c_nil (n_then ?_)
  refine c_seq ?_
  refine c_region ?_
  refine s_val hF (r_assign hF rfl rfl) rfl rfl rfl fun a hF => ?_
  refine c_nil (n_then ?_)
  refine c_seq ?_
  refine c_joinX hF hM hP (fun F x a w => match x with | v465 => ∃ (s466 : SV), Fr 27 [(5, (s466).v), (4, (SV.nil).v)] a ∧ MemL w (rowL 0 s466 3 v465 :: Lr)) (fun o_j1 hP hK_j1 hF hM => ?_) ?_
  · refine c_seq ?_
    refine c_region ?_
    refine s_val hF (r_move hF rfl rfl) rfl rfl rfl fun a hF => ?_
    refine s_val hF (r_lenL (f2 _ (hsub _ (dropM hM 0))) Tryz.underlying23 hF rfl rfl) rfl rfl rfl fun a hF => ?_
    refine s_val hF (r_move hF rfl rfl) rfl rfl rfl fun a hF => ?_
    refine c_nil (n_then ?_)
    refine c_block ?_
    have hM := hM.rowNil (X := Int) 0 3
    refine c_loopX hF hM hP (fun F x a w => match x with | (v528, v531) => ∃ (s529 : SV), Fr 27 [(5, (s529).v), (9, .int .i64 v531), (0, (s1).v), (1, (s3).v), (4, (SV.nil).v), (8, .int .i64 (x0.length : Int))] a ∧ MemL w (rowL 0 s529 3 v528 :: Lr)) (fun hF hM => ⟨SV.nil, hF.to ⟨rfl, rfl, rfl, rfl, rfl, rfl, trivial⟩, hM⟩) ?_
    rintro ⟨v528, v531⟩ a w o_l2 hP hK_l2 ⟨s529, hF, hM⟩
    replace hP : Sh.trace_changed_byte_l2 x0 x1 v528 v531 = _ := hP
    unfold Sh.trace_changed_byte_l2 at hP
    refine c_seq ?_
    refine c_region ?_
    refine s_val hF (r_lss hF rfl rfl rfl) rfl rfl rfl fun a hF => ?_
    refine c_nil (n_then ?_)
    refine c_seq ?_
    refine c_cond hF (c := .tmp 10) rfl (fun hb534 => ?_) (fun hb534 => ?_)
    · have hP := Fx.cT hb534 hP
      refine c_skip (n_then ?_)
      refine c_seq ?_
      refine c_joinX hF hM hP (fun F x a w => match x with | v549 => ∃ (s550 : SV), Fr 27 [(5, (s550).v), (0, (s1).v), (1, (s3).v), (4, (SV.nil).v), (8, .int .i64 (x0.length : Int)), (9, .int .i64 v531)] a ∧ MemL w (rowL 0 s550 3 v549 :: Lr)) (fun o_j3 hP hK_j3 hF hM => ?_) ?_
      · refine c_block ?_
        refine c_seq ?_
        refine c_region ?_
        refine s_val hF (r_move hF rfl rfl) rfl rfl rfl fun a hF => ?_
        refine s_val hF (r_assign hF rfl rfl) rfl rfl rfl fun a hF => ?_
        refine c_nil (n_then ?_)
        refine c_seq ?_
        refine d_startT mixed (by kernel_rfl) hM [0] 1 rfl fun hch => ?_
        refine d_val hF hch 0 rfl (by kernel_rfl) rfl rfl rfl (fun w hM => (r_move hF rfl rfl)) fun a hF => ?_
        refine d_val hF hch 1 rfl (by kernel_rfl) rfl rfl rfl (fun w hM => (r_move hF rfl rfl)) fun a hF => ?_
        obtain ⟨x554, hx554, hP⟩ := bind_some hP
        have h0x554 := get_some hx554
        refine d_val hF hch 2 rfl (by kernel_rfl) rfl rfl rfl (fun w hM => (r_indexZ (sz := 1) (f2 _ (hsub _ (dropM hM 1))) Tryz.underlying23 in5 rfl hF rfl rfl rfl (get_bd hx554))) fun a hF => ?_
        refine d_val hF hch 3 rfl (by kernel_rfl) rfl rfl rfl (fun w hM => (r_load1 Tryz.isAgg5 hF rfl rfl ((((f2 _ (hsub _ (dropM hM 1))).elemS h0x554.2)).get 0 rfl))) fun a hF => ?_
        refine d_val hF hch 4 rfl (by kernel_rfl) rfl rfl rfl (fun w hM => (r_move hF rfl rfl)) fun a hF => ?_
        refine d_val hF hch 5 rfl (by kernel_rfl) rfl rfl rfl (fun w hM => (r_move hF rfl rfl)) fun a hF => ?_
        obtain ⟨x555, hx555, hP⟩ := bind_some hP
        have h0x555 := get_some hx555
        refine d_val hF hch 6 rfl (by kernel_rfl) rfl rfl rfl (fun w hM => (r_indexZ (sz := 1) (f4 _ (hsub _ (dropM hM 1))) Tryz.underlying23 in5 rfl hF rfl rfl rfl (get_bd hx555))) fun a hF => ?_
        refine d_val hF hch 7 rfl (by kernel_rfl) rfl rfl rfl (fun w hM => (r_load1 Tryz.isAgg5 hF rfl rfl ((((f4 _ (hsub _ (dropM hM 1))).elemS h0x555.2)).get 0 rfl))) fun a hF => ?_
        refine d_val hF hch 8 rfl (by kernel_rfl) rfl rfl rfl (fun w hM => (r_neq hF rfl rfl rfl)) fun a hF => ?_
        refine d_end hch (by kernel_rfl) fun w hM => ?_
        refine n_then ?_
        refine c_cond hF (c := .tmp 20) rfl (fun hb556 => ?_) (fun hb556 => ?_)
        · have hP := Fx.cT hb556 hP
          refine c_region ?_
          refine s_val hF (r_move hF rfl rfl) rfl rfl rfl fun a hF => ?_
          refine s_val hF (r_move hF rfl rfl) rfl rfl rfl fun a hF => ?_
          refine s_eff hF rfl rfl rfl (w_slice1 (X := Int) (y := v531) Tryz.underlying52 in3 rfl rfl rfl rfl hF rfl rfl rfl fun b_B158_23 w hzB158_23 hAB158_23 => ?_)
          have hM := hM.plus hAB158_23
          replace hM : MemL _ (pt b_B158_23 (encs ([v531] : List Int)) 3 :: rowL 0 s529 3 v528 :: Lr) := hM
          intro a hF
          obtain ⟨x558, hx558, hP⟩ := bind_some hP
          refine s_eff hF rfl rfl rfl (w_appX (X := Int) hx558 Tryz.underlying52 in3 rfl rfl rfl rfl hF rfl rfl rfl (hM.own (X := Int) (i := 1) rfl) (hM.ptS (X := Int) (i := 0) (n := 1) (c := 1) rfl rfl rfl (Nat.le_refl _)) fun s557 w hUs557 => ?_)
          have hM := hM.chg hUs557 (i := 1) rfl
          replace hM : MemL _ (pt b_B158_23 (encs ([v531] : List Int)) 3 :: rowL 0 s557 3 x558 :: Lr) := hM
          intro a hF
          refine s_val hF (r_assign hF rfl rfl) rfl rfl rfl fun a hF => ?_
          refine c_nil (n_block (n_then ?_))
          have hP := Option.some.inj hP
          subst hP
          exact ⟨x558, rfl, s557, hF.to ⟨rfl, rfl, rfl, rfl, rfl, rfl, trivial⟩, selM hM [1] 2 rfl⟩
        have hP := Fx.cF hb556 hP
        refine c_skip (n_block (n_then ?_))
        have hP := Option.some.inj hP
        subst hP
        exact ⟨v528, rfl, s529, hF.to ⟨rfl, rfl, rfl, rfl, rfl, rfl, trivial⟩, hM⟩
      rintro v549 a w hP ⟨s550, hF, hM⟩
      replace hP : Sh.trace_changed_byte_j3 v531 v549 = _ := hP
      unfold Sh.trace_changed_byte_j3 at hP
      refine n_then ?_
      refine c_region ?_
      refine s_val hF (r_add hF rfl rfl rfl) rfl rfl rfl fun a hF => ?_
      refine s_val hF (r_move hF rfl rfl) rfl rfl rfl fun a hF => ?_
      refine c_nil (n_then ?_)
      have hP := Option.some.inj hP
      subst hP
      exact ⟨(v549, (IntKind.i64.wrap (v531 + 1))), rfl, s550, hF.to ⟨rfl, rfl, rfl, rfl, rfl, rfl, trivial⟩, hM⟩
    have hP := Fx.cF hb534 hP
    refine c_exit (x_then (x_then (x_hit ?_)))
    refine n_then ?_
    have hP := Option.some.inj hP
    subst hP
    have hP := hK_l2 _ rfl
    subst hP
    exact ⟨v528, rfl, s529, hF.to ⟨rfl, rfl, trivial⟩, hM⟩
  rintro v465 a w hP ⟨s466, hF, hM⟩
  replace hP : Sh.trace_changed_byte_j1 v465 = _ := hP
  unfold Sh.trace_changed_byte_j1 at hP
  refine n_then ?_
  refine c_seq ?_
  refine c_region ?_
  refine s_val hF (r_move hF rfl rfl) rfl rfl rfl fun a hF => ?_
  refine s_val hF (r_assign hF rfl rfl) rfl rfl rfl fun a hF => ?_
  refine c_nil (n_then ?_)
  refine c_ret ?_
  have hP := Option.some.inj hP
  subst hP
  refine e_ret1 Tryz.results158 hF rfl ?_
  exact ⟨s466, rfl, hM⟩
set_option maxHeartbeats 4000000 in
theorem trace_plainPieces_calls {x0 : List QPiece} {s1 : SV} {hs2 : List RPiece} {out : Bool} {w0 : World} {Bf : World → Prop} {Lr : List Res} (hP : Sh.trace_plainPieces x0 = some out) (hM : MemL w0 (Lr)) (hsub : ∀ w, MemL w Lr → Bf w) (f3 : LIn Bf s1 hs2) (q4 : Each (QPieceIn Bf) hs2 x0) : Calls Tryz.prog 227 #[(s1).v] w0 (Ret fun v w' => v = .bool out ∧ MemL w' (Lr)) := by
  unfold Sh.trace_plainPieces at hP
  refine calls_enter (vs := [(s1).v]) Tryz.func227 rfl Tryz.ntmps227 rfl fun a hF => ?_
  refine c_seq ?_
  refine c_region ?_
  refine s_val hF (r_assign hF rfl rfl) rfl rfl rfl fun a hF => ?_
  refine c_nil (n_then ?_)
  refine c_seq ?_
  refine c_region ?_
  refine s_val hF (r_assign hF rfl rfl) rfl rfl rfl fun a hF => ?_
  refine s_val hF (r_assign hF rfl rfl) rfl rfl rfl fun a hF => ?_
  refine c_nil (n_then ?_)
  refine c_seq ?_
  refine c_joinX hF hM hP (fun F x a w => match x with | _ => Fr 68 [(2, .bool false)] a ∧ MemL w (Lr)) (fun o_j1 hP hK_j1 hF hM => ?_) ?_
  · refine c_seq ?_
    refine c_region ?_
    refine s_val hF (r_move hF rfl rfl) rfl rfl rfl fun a hF => ?_
    refine s_val hF (r_lenD (f3 _ (hsub _ (dropM hM 0))) q4.len Tryz.underlying58 hF rfl rfl) rfl rfl rfl fun a hF => ?_
    refine s_val hF (r_move hF rfl rfl) rfl rfl rfl fun a hF => ?_
    refine c_nil (n_then ?_)
    refine c_block ?_
    refine c_loopX hF hM hP (fun F x a w => match x with | (v2916, v2917, v2918) => Fr 68 [(10, .int .i64 v2916), (3, .int .i64 v2917), (4, .int .i64 v2918), (2, .bool false), (8, (s1).v), (9, .int .i64 (x0.length : Int))] a ∧ MemL w (Lr)) (fun hF hM => ⟨hF.to ⟨rfl, rfl, rfl, rfl, rfl, rfl, trivial⟩, hM⟩) ?_
    rintro ⟨v2916, v2917, v2918⟩ a w o_l2 hP hK_l2 ⟨hF, hM⟩
    replace hP : Sh.trace_plainPieces_l2 x0 v2916 v2917 v2918 = _ := hP
    unfold Sh.trace_plainPieces_l2 at hP
    refine c_seq ?_
    refine c_region ?_
    refine s_val hF (r_lss hF rfl rfl rfl) rfl rfl rfl fun a hF => ?_
    refine c_nil (n_then ?_)
    refine c_seq ?_
    refine c_cond hF (c := .tmp 11) rfl (fun hb2920 => ?_) (fun hb2920 => ?_)
    · have hP := Fx.cT hb2920 hP
      refine c_skip (n_then ?_)
      refine c_seq ?_
      refine c_block ?_
      refine c_seq ?_
      refine c_region ?_
      obtain ⟨x3005, hx3005, hP⟩ := bind_some hP
      have h0x3005 := get_some hx3005
      obtain ⟨yx3005, hgx3005, hrx3005⟩ := Each.getr q4 h0x3005.2
      have hdx3005 := Each.bd q4 (get_bd hx3005)
      obtain ⟨s3006, s3008, rfl, f3007, f3009⟩ := hrx3005
      refine s_val hF (r_indexZ (sz := 4) (f3 _ (hsub _ (dropM hM 0))) Tryz.underlying58 in156 rfl hF rfl rfl rfl hdx3005) rfl rfl rfl fun a hF => ?_
      refine s_val hF (r_loadn Tryz.isAgg156 Tryz.sizeOf156 hF rfl rfl (RPiece.len _) (((f3 _ (hsub _ (dropM hM 0))).elemS hgx3005))) rfl rfl rfl fun a hF => ?_
      refine s_eff hF rfl rfl rfl (w_alloc z156 (zs := RPiece.zero.enc) rfl rfl fun b_B227_6 w hzB227_6 hAB227_6 => ?_)
      have hM := hM.plus hAB227_6
      replace hM : MemL _ (pt b_B227_6 (RPiece.enc (RPiece.mk 0 0 SV.nil SV.nil)) 156 :: Lr) := hM
      intro a hF
      refine s_eff0 rfl rfl (w_storen (vs := _) Tryz.sizeOf156 (hM.obj (i := 0) rfl) hF rfl rfl rfl rfl (RPiece.len _) (RPiece.one _) (by first | (rw [RPiece.len, RPiece.len]; decide) | (rw [RPiece.len]; decide)) (put_all ((RPiece.len _).trans (RPiece.len _).symm)) fun w hU3010 => ?_)
      have hM := hM.chg hU3010 (i := 0) rfl
      replace hM : MemL _ (pt b_B227_6 (RPiece.enc (RPiece.mk x3005.table x3005.from_ s3006 s3008)) 156 :: Lr) := hM
      refine c_nil (n_then ?_)
      refine c_seq ?_
      refine c_joinX hF hM hP (fun F x a w => match x with | (v3019, v3020) => Fr 68 [(3, .int .i64 v3019), (4, .int .i64 v3020), (10, .int .i64 v2916), (2, .bool false), (6, .pointer (some ⟨b_B227_6, 0, none⟩)), (8, (s1).v), (9, .int .i64 (x0.length : Int))] a ∧ MemL w (pt b_B227_6 (RPiece.enc (RPiece.mk x3005.table x3005.from_ s3006 s3008)) 156 :: Lr)) (fun o_j3 hP hK_j3 hF hM => ?_) ?_
      · refine c_block ?_
        refine c_seq ?_
        refine c_region ?_
        refine s_val hF (r_fieldAddr (off' := 0) Tryz.underlying156 rfl in3 rfl hF rfl rfl rfl) rfl rfl rfl fun a hF => ?_
        refine s_val hF (r_load1 Tryz.isAgg3 hF rfl rfl (hM.cell (i := 0) rfl (RPiece.g_table _))) rfl rfl rfl fun a hF => ?_
        refine s_val hF (r_move hF rfl rfl) rfl rfl rfl fun a hF => ?_
        obtain ⟨y3022, hy3022, hP⟩ := bind_some hP
        refine s_eff hF rfl rfl rfl (w_call (xs := [.tmp 16, .tmp 17, .const (.int .i64 (7))]) Tryz.call124 hF rfl rfl (trace_within_calls hy3022 hM ) fun v w hR => ?_)
        obtain ⟨rfl, hM⟩ := hR
        replace hM : MemL _ (pt b_B227_6 (RPiece.enc (RPiece.mk x3005.table x3005.from_ s3006 s3008)) 156 :: Lr) := hM
        intro a hF
        refine s_val hF (r_not hF rfl rfl) rfl rfl rfl fun a hF => ?_
        refine s_val hF (r_assign hF rfl rfl) rfl rfl rfl fun a hF => ?_
        refine c_nil (n_then ?_)
        refine c_cond hF (c := .tmp 14) rfl (fun hb3023 => ?_) (fun hb3023 => ?_)
        · have hP := Fx.cT hb3023 hP
          refine c_seq ?_
          refine c_region ?_
          refine s_val hF (r_assign hF rfl rfl) rfl rfl rfl fun a hF => ?_
          refine c_nil (n_then ?_)
          refine c_ret ?_
          have hP := Option.some.inj hP
          subst hP
          have hP := fin_inr hK_j3
          subst hP
          have hP := hK_l2 _ rfl
          subst hP
          have hP := fin_inr hK_j1
          subst hP
          refine e_ret1 Tryz.results227 hF rfl ?_
          exact ⟨rfl, selM hM [] 1 rfl⟩
        have hP := Fx.cF hb3023 hP
        refine c_seq ?_
        refine c_region ?_
        refine s_val hF (r_fieldAddr (off' := 0) Tryz.underlying156 rfl in3 rfl hF rfl rfl rfl) rfl rfl rfl fun a hF => ?_
        refine s_val hF (r_load1 Tryz.isAgg3 hF rfl rfl (hM.cell (i := 0) rfl (RPiece.g_table _))) rfl rfl rfl fun a hF => ?_
        refine s_val hF (r_move hF rfl rfl) rfl rfl rfl fun a hF => ?_
        refine s_val hF (r_gtr hF rfl rfl rfl) rfl rfl rfl fun a hF => ?_
        refine s_val hF (r_assign hF rfl rfl) rfl rfl rfl fun a hF => ?_
        refine c_nil (n_then ?_)
        refine c_cond hF (c := .tmp 20) rfl (fun hb3024 => ?_) (fun hb3024 => ?_)
        · have hP := Fx.cT hb3024 hP
          refine c_region ?_
          refine s_val hF (r_fieldAddr (off' := 0) Tryz.underlying156 rfl in3 rfl hF rfl rfl rfl) rfl rfl rfl fun a hF => ?_
          refine s_val hF (r_load1 Tryz.isAgg3 hF rfl rfl (hM.cell (i := 0) rfl (RPiece.g_table _))) rfl rfl rfl fun a hF => ?_
          refine s_val hF (r_assign hF rfl rfl) rfl rfl rfl fun a hF => ?_
          refine s_val hF (r_assign hF rfl rfl) rfl rfl rfl fun a hF => ?_
          refine c_nil (n_block (n_then ?_))
          have hP := Option.some.inj hP
          subst hP
          exact ⟨(x3005.table, 0), rfl, hF.to ⟨rfl, rfl, rfl, rfl, rfl, rfl, rfl, trivial⟩, hM⟩
        have hP := Fx.cF hb3024 hP
        refine c_skip (n_block (n_then ?_))
        have hP := Option.some.inj hP
        subst hP
        exact ⟨(v2917, v2918), rfl, hF.to ⟨rfl, rfl, rfl, rfl, rfl, rfl, rfl, trivial⟩, hM⟩
      rintro ⟨v3019, v3020⟩ a w hP ⟨hF, hM⟩
      replace hP : Sh.trace_plainPieces_j3 v2916 x3005 v3019 v3020 = _ := hP
      unfold Sh.trace_plainPieces_j3 at hP
      refine n_then ?_
      refine c_seq ?_
      refine c_region ?_
      refine s_val hF (r_fieldAddr (off' := 2) Tryz.underlying156 rfl in23 rfl hF rfl rfl rfl) rfl rfl rfl fun a hF => ?_
      refine s_val hF (r_load1 Tryz.isAgg23 hF rfl rfl (hM.cell (i := 0) rfl (RPiece.g_old _))) rfl rfl rfl fun a hF => ?_
      refine s_val hF (r_lenL (f3007 _ (hsub _ (dropM hM 1))) Tryz.underlying23 hF rfl rfl) rfl rfl rfl fun a hF => ?_
      refine s_val hF (r_assign hF rfl rfl) rfl rfl rfl fun a hF => ?_
      refine c_nil (n_then ?_)
      refine c_seq ?_
      refine c_seq ?_
      refine c_joinX hF hM hP (fun F x a w => match x with | v3077 => Fr 68 [(61, .bool v3077), (10, .int .i64 v2916), (2, .bool false), (3, .int .i64 v3019), (4, .int .i64 v3020), (6, .pointer (some ⟨b_B227_6, 0, none⟩)), (7, .int .i64 (x3005.old.length : Int)), (8, (s1).v), (9, .int .i64 (x0.length : Int))] a ∧ MemL w (pt b_B227_6 (RPiece.enc (RPiece.mk x3005.table x3005.from_ s3006 s3008)) 156 :: Lr)) (fun o_j4 hP hK_j4 hF hM => ?_) ?_
      · refine c_region ?_
        refine s_val hF (r_move hF rfl rfl) rfl rfl rfl fun a hF => ?_
        refine s_val hF (r_eql hF rfl rfl rfl) rfl rfl rfl fun a hF => ?_
        refine s_val hF (r_move hF rfl rfl) rfl rfl rfl fun a hF => ?_
        refine g_split 32 hF rfl (fun hb3078 => ?_) (fun hb3078 => ?_)
        · have hP := Fx.cT hb3078 hP
          refine g_skip hF rfl rfl rfl hb3078 rfl rfl fun a hF => ?_
          refine g_skip hF rfl rfl rfl hb3078 rfl rfl fun a hF => ?_
          refine g_skip hF rfl rfl rfl hb3078 rfl rfl fun a hF => ?_
          refine g_skip hF rfl rfl rfl hb3078 rfl rfl fun a hF => ?_
          refine g_skip hF rfl rfl rfl hb3078 rfl rfl fun a hF => ?_
          refine s_val hF (r_pick1 hF rfl rfl hb3078 rfl) rfl rfl rfl fun a hF => ?_
          refine s_val hF (r_move hF rfl rfl) rfl rfl rfl fun a hF => ?_
          refine g_skip hF rfl rfl rfl rfl rfl rfl fun a hF => ?_
          refine g_skip hF rfl rfl rfl rfl rfl rfl fun a hF => ?_
          refine s_val hF (r_pick1 hF rfl rfl rfl rfl) rfl rfl rfl fun a hF => ?_
          refine s_val hF (r_move hF rfl rfl) rfl rfl rfl fun a hF => ?_
          refine g_skip hF rfl rfl rfl rfl rfl rfl fun a hF => ?_
          refine g_skip hF rfl rfl rfl rfl rfl rfl fun a hF => ?_
          refine g_skip hF rfl rfl rfl rfl rfl rfl fun a hF => ?_
          refine g_skip hF rfl rfl rfl rfl rfl rfl fun a hF => ?_
          refine g_skip hF rfl rfl rfl rfl rfl rfl fun a hF => ?_
          refine g_skip hF rfl rfl rfl rfl rfl rfl fun a hF => ?_
          refine g_skip hF rfl rfl rfl rfl rfl rfl fun a hF => ?_
          refine s_val hF (r_pick1 hF rfl rfl rfl rfl) rfl rfl rfl fun a hF => ?_
          refine s_val hF (r_move hF rfl rfl) rfl rfl rfl fun a hF => ?_
          refine g_skip hF rfl rfl rfl rfl rfl rfl fun a hF => ?_
          refine g_skip hF rfl rfl rfl rfl rfl rfl fun a hF => ?_
          refine g_skip hF rfl rfl rfl rfl rfl rfl fun a hF => ?_
          refine g_skip hF rfl rfl rfl rfl rfl rfl fun a hF => ?_
          refine g_skip hF rfl rfl rfl rfl rfl rfl fun a hF => ?_
          refine g_skip hF rfl rfl rfl rfl rfl rfl fun a hF => ?_
          refine g_skip hF rfl rfl rfl rfl rfl rfl fun a hF => ?_
          refine g_skip hF rfl rfl rfl rfl rfl rfl fun a hF => ?_
          refine s_val hF (r_pick1 hF rfl rfl rfl rfl) rfl rfl rfl fun a hF => ?_
          refine c_nil (n_then ?_)
          have hP := Option.some.inj hP
          subst hP
          exact ⟨true, rfl, hF.to ⟨rfl, rfl, rfl, rfl, rfl, rfl, rfl, rfl, rfl, trivial⟩, hM⟩
        have hP := Fx.cF hb3078 hP
        refine g_val hF rfl rfl rfl hb3078 (r_fieldAddr (off' := 3) Tryz.underlying156 rfl in23 rfl hF rfl rfl rfl) rfl rfl fun a hF => ?_
        refine g_val hF rfl rfl rfl hb3078 (r_load1 Tryz.isAgg23 hF rfl rfl (hM.cell (i := 0) rfl (RPiece.g_new _))) rfl rfl fun a hF => ?_
        refine g_val hF rfl rfl rfl hb3078 (r_lenL (f3009 _ (hsub _ (dropM hM 1))) Tryz.underlying23 hF rfl rfl) rfl rfl fun a hF => ?_
        refine g_val hF rfl rfl rfl hb3078 (r_move hF rfl rfl) rfl rfl fun a hF => ?_
        refine g_val hF rfl rfl rfl hb3078 (r_neq hF rfl rfl rfl) rfl rfl fun a hF => ?_
        refine s_val hF (r_pick0 hF rfl rfl hb3078 rfl) rfl rfl rfl fun a hF => ?_
        refine s_val hF (r_move hF rfl rfl) rfl rfl rfl fun a hF => ?_
        refine g_split 39 hF rfl (fun hb3079 => ?_) (fun hb3079 => ?_)
        · have hP := Fx.cT hb3079 hP
          refine g_skip hF rfl rfl rfl hb3079 rfl rfl fun a hF => ?_
          refine g_skip hF rfl rfl rfl hb3079 rfl rfl fun a hF => ?_
          refine s_val hF (r_pick1 hF rfl rfl hb3079 rfl) rfl rfl rfl fun a hF => ?_
          refine s_val hF (r_move hF rfl rfl) rfl rfl rfl fun a hF => ?_
          refine g_skip hF rfl rfl rfl rfl rfl rfl fun a hF => ?_
          refine g_skip hF rfl rfl rfl rfl rfl rfl fun a hF => ?_
          refine g_skip hF rfl rfl rfl rfl rfl rfl fun a hF => ?_
          refine g_skip hF rfl rfl rfl rfl rfl rfl fun a hF => ?_
          refine g_skip hF rfl rfl rfl rfl rfl rfl fun a hF => ?_
          refine g_skip hF rfl rfl rfl rfl rfl rfl fun a hF => ?_
          refine g_skip hF rfl rfl rfl rfl rfl rfl fun a hF => ?_
          refine s_val hF (r_pick1 hF rfl rfl rfl rfl) rfl rfl rfl fun a hF => ?_
          refine s_val hF (r_move hF rfl rfl) rfl rfl rfl fun a hF => ?_
          refine g_skip hF rfl rfl rfl rfl rfl rfl fun a hF => ?_
          refine g_skip hF rfl rfl rfl rfl rfl rfl fun a hF => ?_
          refine g_skip hF rfl rfl rfl rfl rfl rfl fun a hF => ?_
          refine g_skip hF rfl rfl rfl rfl rfl rfl fun a hF => ?_
          refine g_skip hF rfl rfl rfl rfl rfl rfl fun a hF => ?_
          refine g_skip hF rfl rfl rfl rfl rfl rfl fun a hF => ?_
          refine g_skip hF rfl rfl rfl rfl rfl rfl fun a hF => ?_
          refine g_skip hF rfl rfl rfl rfl rfl rfl fun a hF => ?_
          refine s_val hF (r_pick1 hF rfl rfl rfl rfl) rfl rfl rfl fun a hF => ?_
          refine c_nil (n_then ?_)
          have hP := Option.some.inj hP
          subst hP
          exact ⟨true, rfl, hF.to ⟨rfl, rfl, rfl, rfl, rfl, rfl, rfl, rfl, rfl, trivial⟩, hM⟩
        have hP := Fx.cF hb3079 hP
        refine g_val hF rfl rfl rfl hb3079 (r_move hF rfl rfl) rfl rfl fun a hF => ?_
        refine g_val hF rfl rfl rfl hb3079 (r_gtr hF rfl rfl rfl) rfl rfl fun a hF => ?_
        refine s_val hF (r_pick0 hF rfl rfl hb3079 rfl) rfl rfl rfl fun a hF => ?_
        refine s_val hF (r_move hF rfl rfl) rfl rfl rfl fun a hF => ?_
        refine g_split 43 hF rfl (fun hb3080 => ?_) (fun hb3080 => ?_)
        · have hP := Fx.cT hb3080 hP
          refine g_skip hF rfl rfl rfl hb3080 rfl rfl fun a hF => ?_
          refine g_skip hF rfl rfl rfl hb3080 rfl rfl fun a hF => ?_
          refine g_skip hF rfl rfl rfl hb3080 rfl rfl fun a hF => ?_
          refine g_skip hF rfl rfl rfl hb3080 rfl rfl fun a hF => ?_
          refine g_skip hF rfl rfl rfl hb3080 rfl rfl fun a hF => ?_
          refine g_skip hF rfl rfl rfl hb3080 rfl rfl fun a hF => ?_
          refine g_skip hF rfl rfl rfl hb3080 rfl rfl fun a hF => ?_
          refine s_val hF (r_pick1 hF rfl rfl hb3080 rfl) rfl rfl rfl fun a hF => ?_
          refine s_val hF (r_move hF rfl rfl) rfl rfl rfl fun a hF => ?_
          refine g_skip hF rfl rfl rfl rfl rfl rfl fun a hF => ?_
          refine g_skip hF rfl rfl rfl rfl rfl rfl fun a hF => ?_
          refine g_skip hF rfl rfl rfl rfl rfl rfl fun a hF => ?_
          refine g_skip hF rfl rfl rfl rfl rfl rfl fun a hF => ?_
          refine g_skip hF rfl rfl rfl rfl rfl rfl fun a hF => ?_
          refine g_skip hF rfl rfl rfl rfl rfl rfl fun a hF => ?_
          refine g_skip hF rfl rfl rfl rfl rfl rfl fun a hF => ?_
          refine g_skip hF rfl rfl rfl rfl rfl rfl fun a hF => ?_
          refine s_val hF (r_pick1 hF rfl rfl rfl rfl) rfl rfl rfl fun a hF => ?_
          refine c_nil (n_then ?_)
          have hP := Option.some.inj hP
          subst hP
          exact ⟨true, rfl, hF.to ⟨rfl, rfl, rfl, rfl, rfl, rfl, rfl, rfl, rfl, trivial⟩, hM⟩
        have hP := Fx.cF hb3080 hP
        refine g_val hF rfl rfl rfl hb3080 (r_fieldAddr (off' := 1) Tryz.underlying156 rfl in3 rfl hF rfl rfl rfl) rfl rfl fun a hF => ?_
        refine g_val hF rfl rfl rfl hb3080 (r_load1 Tryz.isAgg3 hF rfl rfl (hM.cell (i := 0) rfl (RPiece.g_from_ _))) rfl rfl fun a hF => ?_
        refine g_val hF rfl rfl rfl hb3080 (r_move hF rfl rfl) rfl rfl fun a hF => ?_
        refine g_val hF rfl rfl rfl hb3080 (r_move hF rfl rfl) rfl rfl fun a hF => ?_
        refine g_val hF rfl rfl rfl hb3080 (r_sub hF rfl rfl rfl) rfl rfl fun a hF => ?_
        obtain ⟨y3082, hy3082, hP⟩ := bind_some hP
        refine g_eff hF rfl rfl rfl hb3080 rfl rfl (w_call (xs := [.tmp 45, .tmp 46, .tmp 48]) Tryz.call124 hF rfl rfl (trace_within_calls hy3082 hM ) fun v w hR => ?_)
        obtain ⟨rfl, hM⟩ := hR
        replace hM : MemL _ (pt b_B227_6 (RPiece.enc (RPiece.mk x3005.table x3005.from_ s3006 s3008)) 156 :: Lr) := hM
        intro a hF
        refine g_val hF rfl rfl rfl hb3080 (r_not hF rfl rfl) rfl rfl fun a hF => ?_
        refine s_val hF (r_pick0 hF rfl rfl hb3080 rfl) rfl rfl rfl fun a hF => ?_
        refine s_val hF (r_move hF rfl rfl) rfl rfl rfl fun a hF => ?_
        refine g_split 52 hF rfl (fun hb3083 => ?_) (fun hb3083 => ?_)
        · have hP := Fx.cT hb3083 hP
          refine g_skip hF rfl rfl rfl hb3083 rfl rfl fun a hF => ?_
          refine g_skip hF rfl rfl rfl hb3083 rfl rfl fun a hF => ?_
          refine g_skip hF rfl rfl rfl hb3083 rfl rfl fun a hF => ?_
          refine g_skip hF rfl rfl rfl hb3083 rfl rfl fun a hF => ?_
          refine g_skip hF rfl rfl rfl hb3083 rfl rfl fun a hF => ?_
          refine g_skip hF rfl rfl rfl hb3083 rfl rfl fun a hF => ?_
          refine g_skip hF rfl rfl rfl hb3083 rfl rfl fun a hF => ?_
          refine g_skip hF rfl rfl rfl hb3083 rfl rfl fun a hF => ?_
          refine s_val hF (r_pick1 hF rfl rfl hb3083 rfl) rfl rfl rfl fun a hF => ?_
          refine c_nil (n_then ?_)
          have hP := Option.some.inj hP
          subst hP
          exact ⟨true, rfl, hF.to ⟨rfl, rfl, rfl, rfl, rfl, rfl, rfl, rfl, rfl, trivial⟩, hM⟩
        have hP := Fx.cF hb3083 hP
        refine g_val hF rfl rfl rfl hb3083 (r_fieldAddr (off' := 2) Tryz.underlying156 rfl in23 rfl hF rfl rfl rfl) rfl rfl fun a hF => ?_
        refine g_val hF rfl rfl rfl hb3083 (r_load1 Tryz.isAgg23 hF rfl rfl (hM.cell (i := 0) rfl (RPiece.g_old _))) rfl rfl fun a hF => ?_
        refine g_val hF rfl rfl rfl hb3083 (r_fieldAddr (off' := 3) Tryz.underlying156 rfl in23 rfl hF rfl rfl rfl) rfl rfl fun a hF => ?_
        refine g_val hF rfl rfl rfl hb3083 (r_load1 Tryz.isAgg23 hF rfl rfl (hM.cell (i := 0) rfl (RPiece.g_new _))) rfl rfl fun a hF => ?_
        obtain ⟨y3085, hy3085, hP⟩ := bind_some hP
        refine g_eff hF rfl rfl rfl hb3083 rfl rfl (w_call (xs := [.tmp 54, .tmp 56]) Tryz.call158 hF rfl rfl (trace_changed_byte_calls hy3085 hM (Bf := Bf) (fun w hM => hsub _ (dropM hM 1)) f3007 f3009) fun v w hR => ?_)
        obtain ⟨s3086, rfl, hM⟩ := hR
        replace hM : MemL _ (rowL 0 s3086 3 y3085 :: pt b_B227_6 (RPiece.enc (RPiece.mk x3005.table x3005.from_ s3006 s3008)) 156 :: Lr) := hM
        intro a hF
        refine g_val hF rfl rfl rfl hb3083 (r_lenL (hM.rowS (X := Int) (i := 0) rfl) Tryz.underlying52 hF rfl rfl) rfl rfl fun a hF => ?_
        refine g_val hF rfl rfl rfl hb3083 (r_move hF rfl rfl) rfl rfl fun a hF => ?_
        refine g_val hF rfl rfl rfl hb3083 (r_lss hF rfl rfl rfl) rfl rfl fun a hF => ?_
        refine s_val hF (r_pick0 hF rfl rfl hb3083 rfl) rfl rfl rfl fun a hF => ?_
        refine c_nil (n_then ?_)
        have hP := Option.some.inj hP
        subst hP
        exact ⟨(decide ((y3085.length : Int) < (x3005.old.length : Int))), rfl, hF.to ⟨rfl, rfl, rfl, rfl, rfl, rfl, rfl, rfl, rfl, trivial⟩, selM hM [1] 2 rfl⟩
      rintro v3077 a w hP ⟨hF, hM⟩
      replace hP : Sh.trace_plainPieces_j4 v2916 x3005 v3019 v3077 = _ := hP
      unfold Sh.trace_plainPieces_j4 at hP
      refine n_then ?_
      refine c_cond hF (c := .tmp 61) rfl (fun hb3088 => ?_) (fun hb3088 => ?_)
      · have hP := Fx.cT hb3088 hP
        refine c_seq ?_
        refine c_region ?_
        refine s_val hF (r_assign hF rfl rfl) rfl rfl rfl fun a hF => ?_
        refine c_nil (n_then ?_)
        refine c_ret ?_
        have hP := Option.some.inj hP
        subst hP
        have hP := hK_l2 _ rfl
        subst hP
        have hP := fin_inr hK_j1
        subst hP
        refine e_ret1 Tryz.results227 hF rfl ?_
        exact ⟨rfl, selM hM [] 1 rfl⟩
      have hP := Fx.cF hb3088 hP
      refine c_skip (n_then ?_)
      refine c_region ?_
      refine s_val hF (r_fieldAddr (off' := 1) Tryz.underlying156 rfl in3 rfl hF rfl rfl rfl) rfl rfl rfl fun a hF => ?_
      refine s_val hF (r_load1 Tryz.isAgg3 hF rfl rfl (hM.cell (i := 0) rfl (RPiece.g_from_ _))) rfl rfl rfl fun a hF => ?_
      refine s_val hF (r_move hF rfl rfl) rfl rfl rfl fun a hF => ?_
      refine s_val hF (r_add hF rfl rfl rfl) rfl rfl rfl fun a hF => ?_
      refine s_val hF (r_add hF rfl rfl rfl) rfl rfl rfl fun a hF => ?_
      refine s_val hF (r_assign hF rfl rfl) rfl rfl rfl fun a hF => ?_
      refine c_nil (n_block (n_then ?_))
      refine c_region ?_
      refine s_val hF (r_add hF rfl rfl rfl) rfl rfl rfl fun a hF => ?_
      refine s_val hF (r_move hF rfl rfl) rfl rfl rfl fun a hF => ?_
      refine c_nil (n_then ?_)
      have hP := Option.some.inj hP
      subst hP
      exact ⟨((IntKind.i64.wrap (v2916 + 1)), v3019, (IntKind.i64.wrap ((IntKind.i64.wrap (x3005.from_ + (x3005.old.length : Int))) + 1))), rfl, hF.to ⟨rfl, rfl, rfl, rfl, rfl, rfl, trivial⟩, selM hM [] 1 rfl⟩
    have hP := Fx.cF hb2920 hP
    refine c_exit (x_then (x_then (x_hit ?_)))
    refine n_then ?_
    have hP := Option.some.inj hP
    subst hP
    have hP := hK_l2 _ rfl
    subst hP
    exact ⟨(), rfl, hF.to ⟨rfl, trivial⟩, hM⟩
  rintro ⟨⟩ a w hP ⟨hF, hM⟩
  replace hP : Sh.trace_plainPieces_j1 = _ := hP
  unfold Sh.trace_plainPieces_j1 at hP
  refine n_then ?_
  refine c_seq ?_
  refine c_region ?_
  refine s_val hF (r_assign hF rfl rfl) rfl rfl rfl fun a hF => ?_
  refine c_nil (n_then ?_)
  refine c_ret ?_
  have hP := Option.some.inj hP
  subst hP
  refine e_ret1 Tryz.results227 hF rfl ?_
  exact ⟨rfl, hM⟩
set_option maxHeartbeats 4000000 in
theorem trace_plain_calls {x0 : QMark} {s1 : SV} {s3 : SV} {s5 : SV} {hs6 : List RPiece} {s9 : SV} {out : Bool} {w0 : World} {Bf : World → Prop} {Lr : List Res} (hP : Sh.trace_plain x0 = some out) (hM : MemL w0 (Lr)) (hsub : ∀ w, MemL w Lr → Bf w) (f2 : LIn Bf s1 x0.regs) (f4 : LIn Bf s3 x0.slots) (f7 : LIn Bf s5 hs6) (q8 : Each (QPieceIn Bf) hs6 x0.pieces) (f10 : LIn Bf s9 x0.sent) : Calls Tryz.prog 173 #[.agg (RMark.enc (RMark.mk x0.at_ x0.next x0.done s1 s3 s5 s9)).toArray] w0 (Ret fun v w' => v = .bool out ∧ MemL w' (Lr)) := by
  unfold Sh.trace_plain at hP
  refine calls_enter (vs := [.agg (RMark.enc (RMark.mk x0.at_ x0.next x0.done s1 s3 s5 s9)).toArray]) Tryz.func173 rfl Tryz.ntmps173 rfl fun a hF => ?_
  refine c_seq ?_
  refine c_region ?_
  refine s_eff hF rfl rfl rfl (w_box hF rfl rfl rfl fun b_B173_1 w hzB173_1 hAB173_1 => ?_)
  have hM := hM.plus hAB173_1
  replace hM : MemL _ (pt b_B173_1 (RMark.enc (RMark.mk x0.at_ x0.next x0.done s1 s3 s5 s9)) 60 :: Lr) := hM
  intro a hF
  refine s_val hF (r_assign hF rfl rfl) rfl rfl rfl fun a hF => ?_
  refine c_nil (n_then ?_)
  refine c_seq ?_
  refine c_seq ?_
  refine c_joinX hF hM hP (fun F x a w => match x with | v1009 => Fr 73 [(23, .bool v1009), (1, .pointer (some ⟨b_B173_1, 0, none⟩)), (2, .bool false)] a ∧ MemL w (pt b_B173_1 (RMark.enc (RMark.mk x0.at_ x0.next x0.done s1 s3 s5 s9)) 60 :: Lr)) (fun o_j1 hP hK_j1 hF hM => ?_) ?_
  · refine c_region ?_
    refine s_val hF (r_fieldAddr (off' := 0) Tryz.underlying60 rfl in3 rfl hF rfl rfl rfl) rfl rfl rfl fun a hF => ?_
    refine s_val hF (r_load1 Tryz.isAgg3 hF rfl rfl (hM.cell (i := 0) rfl (RMark.g_at_ _))) rfl rfl rfl fun a hF => ?_
    obtain ⟨y1011, hy1011, hP⟩ := bind_some hP
    refine s_eff hF rfl rfl rfl (w_call (xs := [.tmp 9, .const (.int .i64 (0)), .const (.int .i64 (4095))]) Tryz.call124 hF rfl rfl (trace_within_calls hy1011 hM ) fun v w hR => ?_)
    obtain ⟨rfl, hM⟩ := hR
    replace hM : MemL _ (pt b_B173_1 (RMark.enc (RMark.mk x0.at_ x0.next x0.done s1 s3 s5 s9)) 60 :: Lr) := hM
    intro a hF
    refine s_val hF (r_not hF rfl rfl) rfl rfl rfl fun a hF => ?_
    refine s_val hF (r_move hF rfl rfl) rfl rfl rfl fun a hF => ?_
    refine g_split 12 hF rfl (fun hb1012 => ?_) (fun hb1012 => ?_)
    · have hP := Fx.cT hb1012 hP
      refine g_skip hF rfl rfl rfl hb1012 rfl rfl fun a hF => ?_
      refine g_skip hF rfl rfl rfl hb1012 rfl rfl fun a hF => ?_
      refine g_skip hF rfl rfl rfl hb1012 rfl rfl fun a hF => ?_
      refine g_skip hF rfl rfl rfl hb1012 rfl rfl fun a hF => ?_
      refine s_val hF (r_pick1 hF rfl rfl hb1012 rfl) rfl rfl rfl fun a hF => ?_
      refine s_val hF (r_move hF rfl rfl) rfl rfl rfl fun a hF => ?_
      refine g_skip hF rfl rfl rfl rfl rfl rfl fun a hF => ?_
      refine g_skip hF rfl rfl rfl rfl rfl rfl fun a hF => ?_
      refine g_skip hF rfl rfl rfl rfl rfl rfl fun a hF => ?_
      refine g_skip hF rfl rfl rfl rfl rfl rfl fun a hF => ?_
      refine s_val hF (r_pick1 hF rfl rfl rfl rfl) rfl rfl rfl fun a hF => ?_
      refine c_nil (n_then ?_)
      have hP := Option.some.inj hP
      subst hP
      exact ⟨true, rfl, hF.to ⟨rfl, rfl, rfl, trivial⟩, hM⟩
    have hP := Fx.cF hb1012 hP
    refine g_val hF rfl rfl rfl hb1012 (r_fieldAddr (off' := 1) Tryz.underlying60 rfl in3 rfl hF rfl rfl rfl) rfl rfl fun a hF => ?_
    refine g_val hF rfl rfl rfl hb1012 (r_load1 Tryz.isAgg3 hF rfl rfl (hM.cell (i := 0) rfl (RMark.g_next _))) rfl rfl fun a hF => ?_
    obtain ⟨y1014, hy1014, hP⟩ := bind_some hP
    refine g_eff hF rfl rfl rfl hb1012 rfl rfl (w_call (xs := [.tmp 14, .const (.int .i64 (0)), .const (.int .i64 (4095))]) Tryz.call124 hF rfl rfl (trace_within_calls hy1014 hM ) fun v w hR => ?_)
    obtain ⟨rfl, hM⟩ := hR
    replace hM : MemL _ (pt b_B173_1 (RMark.enc (RMark.mk x0.at_ x0.next x0.done s1 s3 s5 s9)) 60 :: Lr) := hM
    intro a hF
    refine g_val hF rfl rfl rfl hb1012 (r_not hF rfl rfl) rfl rfl fun a hF => ?_
    refine s_val hF (r_pick0 hF rfl rfl hb1012 rfl) rfl rfl rfl fun a hF => ?_
    refine s_val hF (r_move hF rfl rfl) rfl rfl rfl fun a hF => ?_
    refine g_split 18 hF rfl (fun hb1015 => ?_) (fun hb1015 => ?_)
    · have hP := Fx.cT hb1015 hP
      refine g_skip hF rfl rfl rfl hb1015 rfl rfl fun a hF => ?_
      refine g_skip hF rfl rfl rfl hb1015 rfl rfl fun a hF => ?_
      refine g_skip hF rfl rfl rfl hb1015 rfl rfl fun a hF => ?_
      refine g_skip hF rfl rfl rfl hb1015 rfl rfl fun a hF => ?_
      refine s_val hF (r_pick1 hF rfl rfl hb1015 rfl) rfl rfl rfl fun a hF => ?_
      refine c_nil (n_then ?_)
      have hP := Option.some.inj hP
      subst hP
      exact ⟨true, rfl, hF.to ⟨rfl, rfl, rfl, trivial⟩, hM⟩
    have hP := Fx.cF hb1015 hP
    refine g_val hF rfl rfl rfl hb1015 (r_fieldAddr (off' := 6) Tryz.underlying60 rfl in52 rfl hF rfl rfl rfl) rfl rfl fun a hF => ?_
    refine g_val hF rfl rfl rfl hb1015 (r_load1 Tryz.isAgg52 hF rfl rfl (hM.cell (i := 0) rfl (RMark.g_sent _))) rfl rfl fun a hF => ?_
    refine g_val hF rfl rfl rfl hb1015 (r_lenL (f10 _ (hsub _ (dropM hM 1))) Tryz.underlying52 hF rfl rfl) rfl rfl fun a hF => ?_
    refine g_val hF rfl rfl rfl hb1015 (r_gtr hF rfl rfl rfl) rfl rfl fun a hF => ?_
    refine s_val hF (r_pick0 hF rfl rfl hb1015 rfl) rfl rfl rfl fun a hF => ?_
    refine c_nil (n_then ?_)
    have hP := Option.some.inj hP
    subst hP
    exact ⟨(decide (1 < (x0.sent.length : Int))), rfl, hF.to ⟨rfl, rfl, rfl, trivial⟩, hM⟩
  rintro v1009 a w hP ⟨hF, hM⟩
  replace hP : Sh.trace_plain_j1 x0 v1009 = _ := hP
  unfold Sh.trace_plain_j1 at hP
  refine n_then ?_
  refine c_cond hF (c := .tmp 23) rfl (fun hb1016 => ?_) (fun hb1016 => ?_)
  · have hP := Fx.cT hb1016 hP
    refine c_seq ?_
    refine c_region ?_
    refine s_val hF (r_assign hF rfl rfl) rfl rfl rfl fun a hF => ?_
    refine c_nil (n_then ?_)
    refine c_ret ?_
    have hP := Option.some.inj hP
    subst hP
    refine e_ret1 Tryz.results173 hF rfl ?_
    exact ⟨rfl, selM hM [] 1 rfl⟩
  have hP := Fx.cF hb1016 hP
  refine c_skip (n_then ?_)
  refine c_seq ?_
  refine c_region ?_
  refine s_val hF (r_assign hF rfl rfl) rfl rfl rfl fun a hF => ?_
  refine c_nil (n_then ?_)
  refine c_seq ?_
  refine c_joinX hF hM hP (fun F x a w => match x with | _ => Fr 73 [(1, .pointer (some ⟨b_B173_1, 0, none⟩)), (2, .bool false)] a ∧ MemL w (pt b_B173_1 (RMark.enc (RMark.mk x0.at_ x0.next x0.done s1 s3 s5 s9)) 60 :: Lr)) (fun o_j2 hP hK_j2 hF hM => ?_) ?_
  · refine c_seq ?_
    refine c_region ?_
    refine s_val hF (r_fieldAddr (off' := 3) Tryz.underlying60 rfl in56 rfl hF rfl rfl rfl) rfl rfl rfl fun a hF => ?_
    refine s_val hF (r_load1 Tryz.isAgg56 hF rfl rfl (hM.cell (i := 0) rfl (RMark.g_regs _))) rfl rfl rfl fun a hF => ?_
    refine s_val hF (r_lenL (f2 _ (hsub _ (dropM hM 1))) Tryz.underlying56 hF rfl rfl) rfl rfl rfl fun a hF => ?_
    refine s_val hF (r_move hF rfl rfl) rfl rfl rfl fun a hF => ?_
    refine c_nil (n_then ?_)
    refine c_block ?_
    refine c_loopX hF hM hP (fun F x a w => match x with | (v1427, v1428) => Fr 73 [(27, .int .i64 v1427), (3, .int .i64 v1428), (1, .pointer (some ⟨b_B173_1, 0, none⟩)), (2, .bool false), (25, (s1).v), (26, .int .i64 (x0.regs.length : Int))] a ∧ MemL w (pt b_B173_1 (RMark.enc (RMark.mk x0.at_ x0.next x0.done s1 s3 s5 s9)) 60 :: Lr)) (fun hF hM => ⟨hF.to ⟨rfl, rfl, rfl, rfl, rfl, rfl, trivial⟩, hM⟩) ?_
    rintro ⟨v1427, v1428⟩ a w o_l3 hP hK_l3 ⟨hF, hM⟩
    replace hP : Sh.trace_plain_l3 x0 v1427 v1428 = _ := hP
    unfold Sh.trace_plain_l3 at hP
    refine c_seq ?_
    refine c_region ?_
    refine s_val hF (r_lss hF rfl rfl rfl) rfl rfl rfl fun a hF => ?_
    refine c_nil (n_then ?_)
    refine c_seq ?_
    refine c_cond hF (c := .tmp 28) rfl (fun hb1430 => ?_) (fun hb1430 => ?_)
    · have hP := Fx.cT hb1430 hP
      refine c_skip (n_then ?_)
      refine c_seq ?_
      refine c_block ?_
      refine c_seq ?_
      refine c_region ?_
      obtain ⟨x1455, hx1455, hP⟩ := bind_some hP
      have h0x1455 := get_some hx1455
      refine s_val hF (r_indexZ (sz := 9) (f2 _ (hsub _ (dropM hM 1))) Tryz.underlying56 in128 rfl hF rfl rfl rfl (get_bd hx1455)) rfl rfl rfl fun a hF => ?_
      refine s_val hF (r_loadn Tryz.isAgg128 Tryz.sizeOf128 hF rfl rfl (LTurn.len _) (((f2 _ (hsub _ (dropM hM 1))).elemS h0x1455.2))) rfl rfl rfl fun a hF => ?_
      refine s_eff hF rfl rfl rfl (w_alloc z128 (zs := LTurn.zero.enc) rfl rfl fun b_B173_5 w hzB173_5 hAB173_5 => ?_)
      have hM := hM.plus hAB173_5
      replace hM : MemL _ (pt b_B173_5 (LTurn.enc LTurn.zero) 128 :: pt b_B173_1 (RMark.enc (RMark.mk x0.at_ x0.next x0.done s1 s3 s5 s9)) 60 :: Lr) := hM
      intro a hF
      refine s_eff0 rfl rfl (w_storen (vs := _) Tryz.sizeOf128 (hM.obj (i := 0) rfl) hF rfl rfl rfl rfl (LTurn.len _) (LTurn.one _) (by first | (rw [LTurn.len, LTurn.len]; decide) | (rw [LTurn.len]; decide)) (put_all ((LTurn.len _).trans (LTurn.len _).symm)) fun w hU1456 => ?_)
      have hM := hM.chg hU1456 (i := 0) rfl
      replace hM : MemL _ (pt b_B173_5 (LTurn.enc x1455) 128 :: pt b_B173_1 (RMark.enc (RMark.mk x0.at_ x0.next x0.done s1 s3 s5 s9)) 60 :: Lr) := hM
      refine c_nil (n_then ?_)
      refine c_seq ?_
      refine c_seq ?_
      refine c_joinX hF hM hP (fun F x a w => match x with | v1474 => Fr 73 [(43, .bool v1474), (1, .pointer (some ⟨b_B173_1, 0, none⟩)), (2, .bool false), (25, (s1).v), (26, .int .i64 (x0.regs.length : Int)), (27, .int .i64 v1427), (3, .int .i64 v1428), (5, .pointer (some ⟨b_B173_5, 0, none⟩))] a ∧ MemL w (pt b_B173_5 (LTurn.enc x1455) 128 :: pt b_B173_1 (RMark.enc (RMark.mk x0.at_ x0.next x0.done s1 s3 s5 s9)) 60 :: Lr)) (fun o_j4 hP hK_j4 hF hM => ?_) ?_
      · refine c_region ?_
        refine s_val hF (r_fieldAddr (off' := 0) Tryz.underlying128 rfl in3 rfl hF rfl rfl rfl) rfl rfl rfl fun a hF => ?_
        refine s_val hF (r_load1 Tryz.isAgg3 hF rfl rfl (hM.cell (i := 0) rfl (LTurn.g_reg _))) rfl rfl rfl fun a hF => ?_
        refine s_val hF (r_move hF rfl rfl) rfl rfl rfl fun a hF => ?_
        refine s_val hF (r_add hF rfl rfl rfl) rfl rfl rfl fun a hF => ?_
        obtain ⟨y1476, hy1476, hP⟩ := bind_some hP
        refine s_eff hF rfl rfl rfl (w_call (xs := [.tmp 32, .tmp 34, .const (.int .i64 (10))]) Tryz.call124 hF rfl rfl (trace_within_calls hy1476 hM ) fun v w hR => ?_)
        obtain ⟨rfl, hM⟩ := hR
        replace hM : MemL _ (pt b_B173_5 (LTurn.enc x1455) 128 :: pt b_B173_1 (RMark.enc (RMark.mk x0.at_ x0.next x0.done s1 s3 s5 s9)) 60 :: Lr) := hM
        intro a hF
        refine s_val hF (r_not hF rfl rfl) rfl rfl rfl fun a hF => ?_
        refine s_val hF (r_move hF rfl rfl) rfl rfl rfl fun a hF => ?_
        refine g_split 37 hF rfl (fun hb1477 => ?_) (fun hb1477 => ?_)
        · have hP := Fx.cT hb1477 hP
          refine g_skip hF rfl rfl rfl hb1477 rfl rfl fun a hF => ?_
          refine g_skip hF rfl rfl rfl hb1477 rfl rfl fun a hF => ?_
          refine g_skip hF rfl rfl rfl hb1477 rfl rfl fun a hF => ?_
          refine g_skip hF rfl rfl rfl hb1477 rfl rfl fun a hF => ?_
          refine g_skip hF rfl rfl rfl hb1477 rfl rfl fun a hF => ?_
          refine s_val hF (r_pick1 hF rfl rfl hb1477 rfl) rfl rfl rfl fun a hF => ?_
          refine c_nil (n_then ?_)
          have hP := Option.some.inj hP
          subst hP
          exact ⟨true, rfl, hF.to ⟨rfl, rfl, rfl, rfl, rfl, rfl, rfl, rfl, trivial⟩, hM⟩
        have hP := Fx.cF hb1477 hP
        refine g_val hF rfl rfl rfl hb1477 (r_fieldAddr (off' := 1) Tryz.underlying128 rfl in46 rfl hF rfl rfl rfl) rfl rfl fun a hF => ?_
        refine g_val hF rfl rfl rfl hb1477 (r_loadn Tryz.isAgg46 Tryz.sizeOf46 hF rfl rfl (LVal.len _) (hM.cells (i := 0) rfl (LTurn.c_old _))) rfl rfl fun a hF => ?_
        refine g_val hF rfl rfl rfl hb1477 (r_fieldAddr (off' := 5) Tryz.underlying128 rfl in46 rfl hF rfl rfl rfl) rfl rfl fun a hF => ?_
        refine g_val hF rfl rfl rfl hb1477 (r_loadn Tryz.isAgg46 Tryz.sizeOf46 hF rfl rfl (LVal.len _) (hM.cells (i := 0) rfl (LTurn.c_new _))) rfl rfl fun a hF => ?_
        refine g_val hF rfl rfl rfl hb1477 (r_eqlA Tryz.eqGuardType46 (eq_LVal _ _ _ _ (by decide)) hF rfl rfl rfl) rfl rfl fun a hF => ?_
        refine s_val hF (r_pick0 hF rfl rfl hb1477 rfl) rfl rfl rfl fun a hF => ?_
        refine c_nil (n_then ?_)
        have hP := Option.some.inj hP
        subst hP
        exact ⟨(decide (x1455.old = x1455.new)), rfl, hF.to ⟨rfl, rfl, rfl, rfl, rfl, rfl, rfl, rfl, trivial⟩, hM⟩
      rintro v1474 a w hP ⟨hF, hM⟩
      replace hP : Sh.trace_plain_j4 v1427 x1455 v1474 = _ := hP
      unfold Sh.trace_plain_j4 at hP
      refine n_then ?_
      refine c_cond hF (c := .tmp 43) rfl (fun hb1478 => ?_) (fun hb1478 => ?_)
      · have hP := Fx.cT hb1478 hP
        refine c_seq ?_
        refine c_region ?_
        refine s_val hF (r_assign hF rfl rfl) rfl rfl rfl fun a hF => ?_
        refine c_nil (n_then ?_)
        refine c_ret ?_
        have hP := Option.some.inj hP
        subst hP
        have hP := hK_l3 _ rfl
        subst hP
        have hP := fin_inr hK_j2
        subst hP
        refine e_ret1 Tryz.results173 hF rfl ?_
        exact ⟨rfl, selM hM [] 2 rfl⟩
      have hP := Fx.cF hb1478 hP
      refine c_skip (n_then ?_)
      refine c_region ?_
      refine s_val hF (r_fieldAddr (off' := 0) Tryz.underlying128 rfl in3 rfl hF rfl rfl rfl) rfl rfl rfl fun a hF => ?_
      refine s_val hF (r_load1 Tryz.isAgg3 hF rfl rfl (hM.cell (i := 0) rfl (LTurn.g_reg _))) rfl rfl rfl fun a hF => ?_
      refine s_val hF (r_assign hF rfl rfl) rfl rfl rfl fun a hF => ?_
      refine c_nil (n_block (n_then ?_))
      refine c_region ?_
      refine s_val hF (r_add hF rfl rfl rfl) rfl rfl rfl fun a hF => ?_
      refine s_val hF (r_move hF rfl rfl) rfl rfl rfl fun a hF => ?_
      refine c_nil (n_then ?_)
      have hP := Option.some.inj hP
      subst hP
      exact ⟨((IntKind.i64.wrap (v1427 + 1)), x1455.reg), rfl, hF.to ⟨rfl, rfl, rfl, rfl, rfl, rfl, trivial⟩, selM hM [1] 2 rfl⟩
    have hP := Fx.cF hb1430 hP
    refine c_exit (x_then (x_then (x_hit ?_)))
    refine n_then ?_
    have hP := Option.some.inj hP
    subst hP
    have hP := hK_l3 _ rfl
    subst hP
    exact ⟨(), rfl, hF.to ⟨rfl, rfl, trivial⟩, hM⟩
  rintro ⟨⟩ a w hP ⟨hF, hM⟩
  replace hP : Sh.trace_plain_j2 x0 = _ := hP
  unfold Sh.trace_plain_j2 at hP
  refine n_then ?_
  refine c_seq ?_
  refine c_region ?_
  refine s_val hF (r_assign hF rfl rfl) rfl rfl rfl fun a hF => ?_
  refine c_nil (n_then ?_)
  refine c_seq ?_
  refine c_joinX hF hM hP (fun F x a w => match x with | _ => Fr 73 [(1, .pointer (some ⟨b_B173_1, 0, none⟩)), (2, .bool false)] a ∧ MemL w (pt b_B173_1 (RMark.enc (RMark.mk x0.at_ x0.next x0.done s1 s3 s5 s9)) 60 :: Lr)) (fun o_j5 hP hK_j5 hF hM => ?_) ?_
  · refine c_seq ?_
    refine c_region ?_
    refine s_val hF (r_fieldAddr (off' := 4) Tryz.underlying60 rfl in57 rfl hF rfl rfl rfl) rfl rfl rfl fun a hF => ?_
    refine s_val hF (r_load1 Tryz.isAgg57 hF rfl rfl (hM.cell (i := 0) rfl (RMark.g_slots _))) rfl rfl rfl fun a hF => ?_
    refine s_val hF (r_lenL (f4 _ (hsub _ (dropM hM 1))) Tryz.underlying57 hF rfl rfl) rfl rfl rfl fun a hF => ?_
    refine s_val hF (r_move hF rfl rfl) rfl rfl rfl fun a hF => ?_
    refine c_nil (n_then ?_)
    refine c_block ?_
    refine c_loopX hF hM hP (fun F x a w => match x with | (v1889, v1890) => Fr 73 [(3, .int .i64 v1889), (50, .int .i64 v1890), (1, .pointer (some ⟨b_B173_1, 0, none⟩)), (2, .bool false), (48, (s3).v), (49, .int .i64 (x0.slots.length : Int))] a ∧ MemL w (pt b_B173_1 (RMark.enc (RMark.mk x0.at_ x0.next x0.done s1 s3 s5 s9)) 60 :: Lr)) (fun hF hM => ⟨hF.to ⟨rfl, rfl, rfl, rfl, rfl, rfl, trivial⟩, hM⟩) ?_
    rintro ⟨v1889, v1890⟩ a w o_l6 hP hK_l6 ⟨hF, hM⟩
    replace hP : Sh.trace_plain_l6 x0 v1889 v1890 = _ := hP
    unfold Sh.trace_plain_l6 at hP
    refine c_seq ?_
    refine c_region ?_
    refine s_val hF (r_lss hF rfl rfl rfl) rfl rfl rfl fun a hF => ?_
    refine c_nil (n_then ?_)
    refine c_seq ?_
    refine c_cond hF (c := .tmp 51) rfl (fun hb1892 => ?_) (fun hb1892 => ?_)
    · have hP := Fx.cT hb1892 hP
      refine c_skip (n_then ?_)
      refine c_seq ?_
      refine c_block ?_
      refine c_seq ?_
      refine c_region ?_
      obtain ⟨x1917, hx1917, hP⟩ := bind_some hP
      have h0x1917 := get_some hx1917
      refine s_val hF (r_indexZ (sz := 27) (f4 _ (hsub _ (dropM hM 1))) Tryz.underlying57 in151 rfl hF rfl rfl rfl (get_bd hx1917)) rfl rfl rfl fun a hF => ?_
      refine s_val hF (r_loadn Tryz.isAgg151 Tryz.sizeOf151 hF rfl rfl (LCell.len _) (((f4 _ (hsub _ (dropM hM 1))).elemS h0x1917.2))) rfl rfl rfl fun a hF => ?_
      refine s_eff hF rfl rfl rfl (w_alloc z151 (zs := LCell.zero.enc) rfl rfl fun b_B173_7 w hzB173_7 hAB173_7 => ?_)
      have hM := hM.plus hAB173_7
      replace hM : MemL _ (pt b_B173_7 (LCell.enc LCell.zero) 151 :: pt b_B173_1 (RMark.enc (RMark.mk x0.at_ x0.next x0.done s1 s3 s5 s9)) 60 :: Lr) := hM
      intro a hF
      refine s_eff0 rfl rfl (w_storen (vs := _) Tryz.sizeOf151 (hM.obj (i := 0) rfl) hF rfl rfl rfl rfl (LCell.len _) (LCell.one _) (by first | (rw [LCell.len, LCell.len]; decide) | (rw [LCell.len]; decide)) (put_all ((LCell.len _).trans (LCell.len _).symm)) fun w hU1918 => ?_)
      have hM := hM.chg hU1918 (i := 0) rfl
      replace hM : MemL _ (pt b_B173_7 (LCell.enc x1917) 151 :: pt b_B173_1 (RMark.enc (RMark.mk x0.at_ x0.next x0.done s1 s3 s5 s9)) 60 :: Lr) := hM
      refine c_nil (n_then ?_)
      refine c_seq ?_
      refine c_seq ?_
      refine c_joinX hF hM hP (fun F x a w => match x with | v1936 => Fr 73 [(66, .bool v1936), (1, .pointer (some ⟨b_B173_1, 0, none⟩)), (2, .bool false), (3, .int .i64 v1889), (48, (s3).v), (49, .int .i64 (x0.slots.length : Int)), (50, .int .i64 v1890), (7, .pointer (some ⟨b_B173_7, 0, none⟩))] a ∧ MemL w (pt b_B173_7 (LCell.enc x1917) 151 :: pt b_B173_1 (RMark.enc (RMark.mk x0.at_ x0.next x0.done s1 s3 s5 s9)) 60 :: Lr)) (fun o_j7 hP hK_j7 hF hM => ?_) ?_
      · refine c_region ?_
        refine s_val hF (r_fieldAddr (off' := 0) Tryz.underlying151 rfl in3 rfl hF rfl rfl rfl) rfl rfl rfl fun a hF => ?_
        refine s_val hF (r_load1 Tryz.isAgg3 hF rfl rfl (hM.cell (i := 0) rfl (LCell.g_slot _))) rfl rfl rfl fun a hF => ?_
        refine s_val hF (r_move hF rfl rfl) rfl rfl rfl fun a hF => ?_
        refine s_val hF (r_add hF rfl rfl rfl) rfl rfl rfl fun a hF => ?_
        obtain ⟨y1938, hy1938, hP⟩ := bind_some hP
        refine s_eff hF rfl rfl rfl (w_call (xs := [.tmp 55, .tmp 57, .const (.int .i64 (31))]) Tryz.call124 hF rfl rfl (trace_within_calls hy1938 hM ) fun v w hR => ?_)
        obtain ⟨rfl, hM⟩ := hR
        replace hM : MemL _ (pt b_B173_7 (LCell.enc x1917) 151 :: pt b_B173_1 (RMark.enc (RMark.mk x0.at_ x0.next x0.done s1 s3 s5 s9)) 60 :: Lr) := hM
        intro a hF
        refine s_val hF (r_not hF rfl rfl) rfl rfl rfl fun a hF => ?_
        refine s_val hF (r_move hF rfl rfl) rfl rfl rfl fun a hF => ?_
        refine g_split 60 hF rfl (fun hb1939 => ?_) (fun hb1939 => ?_)
        · have hP := Fx.cT hb1939 hP
          refine g_skip hF rfl rfl rfl hb1939 rfl rfl fun a hF => ?_
          refine g_skip hF rfl rfl rfl hb1939 rfl rfl fun a hF => ?_
          refine g_skip hF rfl rfl rfl hb1939 rfl rfl fun a hF => ?_
          refine g_skip hF rfl rfl rfl hb1939 rfl rfl fun a hF => ?_
          refine g_skip hF rfl rfl rfl hb1939 rfl rfl fun a hF => ?_
          refine s_val hF (r_pick1 hF rfl rfl hb1939 rfl) rfl rfl rfl fun a hF => ?_
          refine c_nil (n_then ?_)
          have hP := Option.some.inj hP
          subst hP
          exact ⟨true, rfl, hF.to ⟨rfl, rfl, rfl, rfl, rfl, rfl, rfl, rfl, trivial⟩, hM⟩
        have hP := Fx.cF hb1939 hP
        refine g_val hF rfl rfl rfl hb1939 (r_fieldAddr (off' := 1) Tryz.underlying151 rfl in50 rfl hF rfl rfl rfl) rfl rfl fun a hF => ?_
        refine g_val hF rfl rfl rfl hb1939 (r_loadn Tryz.isAgg50 Tryz.sizeOf50 hF rfl rfl (LSlot.len _) (hM.cells (i := 0) rfl (LCell.c_old _))) rfl rfl fun a hF => ?_
        refine g_val hF rfl rfl rfl hb1939 (r_fieldAddr (off' := 14) Tryz.underlying151 rfl in50 rfl hF rfl rfl rfl) rfl rfl fun a hF => ?_
        refine g_val hF rfl rfl rfl hb1939 (r_loadn Tryz.isAgg50 Tryz.sizeOf50 hF rfl rfl (LSlot.len _) (hM.cells (i := 0) rfl (LCell.c_new _))) rfl rfl fun a hF => ?_
        refine g_val hF rfl rfl rfl hb1939 (r_eqlA Tryz.eqGuardType50 (eq_LSlot _ _ _ _ (by decide)) hF rfl rfl rfl) rfl rfl fun a hF => ?_
        refine s_val hF (r_pick0 hF rfl rfl hb1939 rfl) rfl rfl rfl fun a hF => ?_
        refine c_nil (n_then ?_)
        have hP := Option.some.inj hP
        subst hP
        exact ⟨(decide (x1917.old = x1917.new)), rfl, hF.to ⟨rfl, rfl, rfl, rfl, rfl, rfl, rfl, rfl, trivial⟩, hM⟩
      rintro v1936 a w hP ⟨hF, hM⟩
      replace hP : Sh.trace_plain_j7 v1890 x1917 v1936 = _ := hP
      unfold Sh.trace_plain_j7 at hP
      refine n_then ?_
      refine c_cond hF (c := .tmp 66) rfl (fun hb1940 => ?_) (fun hb1940 => ?_)
      · have hP := Fx.cT hb1940 hP
        refine c_seq ?_
        refine c_region ?_
        refine s_val hF (r_assign hF rfl rfl) rfl rfl rfl fun a hF => ?_
        refine c_nil (n_then ?_)
        refine c_ret ?_
        have hP := Option.some.inj hP
        subst hP
        have hP := hK_l6 _ rfl
        subst hP
        have hP := fin_inr hK_j5
        subst hP
        refine e_ret1 Tryz.results173 hF rfl ?_
        exact ⟨rfl, selM hM [] 2 rfl⟩
      have hP := Fx.cF hb1940 hP
      refine c_skip (n_then ?_)
      refine c_region ?_
      refine s_val hF (r_fieldAddr (off' := 0) Tryz.underlying151 rfl in3 rfl hF rfl rfl rfl) rfl rfl rfl fun a hF => ?_
      refine s_val hF (r_load1 Tryz.isAgg3 hF rfl rfl (hM.cell (i := 0) rfl (LCell.g_slot _))) rfl rfl rfl fun a hF => ?_
      refine s_val hF (r_assign hF rfl rfl) rfl rfl rfl fun a hF => ?_
      refine c_nil (n_block (n_then ?_))
      refine c_region ?_
      refine s_val hF (r_add hF rfl rfl rfl) rfl rfl rfl fun a hF => ?_
      refine s_val hF (r_move hF rfl rfl) rfl rfl rfl fun a hF => ?_
      refine c_nil (n_then ?_)
      have hP := Option.some.inj hP
      subst hP
      exact ⟨(x1917.slot, (IntKind.i64.wrap (v1890 + 1))), rfl, hF.to ⟨rfl, rfl, rfl, rfl, rfl, rfl, trivial⟩, selM hM [1] 2 rfl⟩
    have hP := Fx.cF hb1892 hP
    refine c_exit (x_then (x_then (x_hit ?_)))
    refine n_then ?_
    have hP := Option.some.inj hP
    subst hP
    have hP := hK_l6 _ rfl
    subst hP
    exact ⟨(), rfl, hF.to ⟨rfl, rfl, trivial⟩, hM⟩
  rintro ⟨⟩ a w hP ⟨hF, hM⟩
  replace hP : Sh.trace_plain_j5 x0 = _ := hP
  unfold Sh.trace_plain_j5 at hP
  refine n_then ?_
  refine c_seq ?_
  refine c_region ?_
  refine s_val hF (r_fieldAddr (off' := 5) Tryz.underlying60 rfl in58 rfl hF rfl rfl rfl) rfl rfl rfl fun a hF => ?_
  refine s_val hF (r_load1 Tryz.isAgg58 hF rfl rfl (hM.cell (i := 0) rfl (RMark.g_pieces _))) rfl rfl rfl fun a hF => ?_
  obtain ⟨y1942, hy1942, hP⟩ := bind_some hP
  refine s_eff hF rfl rfl rfl (w_call (xs := [.tmp 71]) Tryz.call227 hF rfl rfl (trace_plainPieces_calls hy1942 hM (Bf := Bf) (fun w hM => hsub _ (dropM hM 1)) f7 q8) fun v w hR => ?_)
  obtain ⟨rfl, hM⟩ := hR
  replace hM : MemL _ (pt b_B173_1 (RMark.enc (RMark.mk x0.at_ x0.next x0.done s1 s3 s5 s9)) 60 :: Lr) := hM
  intro a hF
  refine s_val hF (r_assign hF rfl rfl) rfl rfl rfl fun a hF => ?_
  refine c_nil (n_then ?_)
  refine c_ret ?_
  have hP := Option.some.inj hP
  subst hP
  refine e_ret1 Tryz.results173 hF rfl ?_
  exact ⟨rfl, selM hM [] 1 rfl⟩
set_option maxHeartbeats 4000000 in
theorem trace_goodValue_calls {x0 : LVal} {out : Bool} {w0 : World} {Lr : List Res} (hP : Sh.trace_goodValue x0 = some out) (hM : MemL w0 (Lr)) : Calls Tryz.prog 174 #[.agg (LVal.enc x0).toArray] w0 (Ret fun v w' => v = .bool out ∧ MemL w' (Lr)) := by
  unfold Sh.trace_goodValue at hP
  refine calls_enter (vs := [.agg (LVal.enc x0).toArray]) Tryz.func174 rfl Tryz.ntmps174 rfl fun a hF => ?_
  refine c_seq ?_
  refine c_region ?_
  refine s_eff hF rfl rfl rfl (w_box hF rfl rfl rfl fun b_B174_1 w hzB174_1 hAB174_1 => ?_)
  have hM := hM.plus hAB174_1
  replace hM : MemL _ (pt b_B174_1 (LVal.enc x0) 46 :: Lr) := hM
  intro a hF
  refine s_val hF (r_assign hF rfl rfl) rfl rfl rfl fun a hF => ?_
  refine c_nil (n_then ?_)
  refine c_seq ?_
  refine c_block ?_
  refine c_seq ?_
  refine c_region ?_
  refine s_val hF (r_fieldAddr (off' := 0) Tryz.underlying46 rfl in3 rfl hF rfl rfl rfl) rfl rfl rfl fun a hF => ?_
  refine s_val hF (r_load1 Tryz.isAgg3 hF rfl rfl (hM.cell (i := 0) rfl (LVal.g_kind _))) rfl rfl rfl fun a hF => ?_
  refine s_val hF (r_eql hF rfl rfl rfl) rfl rfl rfl fun a hF => ?_
  refine s_val hF (r_assign hF rfl rfl) rfl rfl rfl fun a hF => ?_
  refine c_nil (n_then ?_)
  refine c_cond hF (c := .tmp 3) rfl (fun hb65 => ?_) (fun hb65 => ?_)
  · have hP := Fx.cT hb65 hP
    refine c_seq ?_
    refine c_joinX hF hM hP (fun F x a w => match x with | v76 => Fr 34 [(2, .bool v76), (1, .pointer (some ⟨b_B174_1, 0, none⟩))] a ∧ MemL w (pt b_B174_1 (LVal.enc x0) 46 :: Lr)) (fun o_j1 hP hK_j1 hF hM => ?_) ?_
    · refine c_region ?_
      refine s_val hF (r_fieldAddr (off' := 1) Tryz.underlying46 rfl in3 rfl hF rfl rfl rfl) rfl rfl rfl fun a hF => ?_
      refine s_val hF (r_load1 Tryz.isAgg3 hF rfl rfl (hM.cell (i := 0) rfl (LVal.g_table _))) rfl rfl rfl fun a hF => ?_
      obtain ⟨y78, hy78, hP⟩ := bind_some hP
      refine s_eff hF rfl rfl rfl (w_call (xs := [.tmp 8, .const (.int .i64 (0)), .const (.int .i64 (7))]) Tryz.call124 hF rfl rfl (trace_within_calls hy78 hM ) fun v w hR => ?_)
      obtain ⟨rfl, hM⟩ := hR
      replace hM : MemL _ (pt b_B174_1 (LVal.enc x0) 46 :: Lr) := hM
      intro a hF
      refine s_val hF (r_move hF rfl rfl) rfl rfl rfl fun a hF => ?_
      refine g_split 10 hF rfl (fun hb79 => ?_) (fun hb79 => ?_)
      · have hP := Fx.cT hb79 hP
        refine g_val hF rfl rfl rfl hb79 (r_fieldAddr (off' := 2) Tryz.underlying46 rfl in3 rfl hF rfl rfl rfl) rfl rfl fun a hF => ?_
        refine g_val hF rfl rfl rfl hb79 (r_load1 Tryz.isAgg3 hF rfl rfl (hM.cell (i := 0) rfl (LVal.g_row _))) rfl rfl fun a hF => ?_
        obtain ⟨y81, hy81, hP⟩ := bind_some hP
        refine g_eff hF rfl rfl rfl hb79 rfl rfl (w_call (xs := [.tmp 12, .const (.int .i64 (0)), .const (.int .i64 (63))]) Tryz.call124 hF rfl rfl (trace_within_calls hy81 hM ) fun v w hR => ?_)
        obtain ⟨rfl, hM⟩ := hR
        replace hM : MemL _ (pt b_B174_1 (LVal.enc x0) 46 :: Lr) := hM
        intro a hF
        refine s_val hF (r_pick1 hF rfl rfl hb79 rfl) rfl rfl rfl fun a hF => ?_
        refine s_val hF (r_assign hF rfl rfl) rfl rfl rfl fun a hF => ?_
        refine c_nil (n_then ?_)
        have hP := Option.some.inj hP
        subst hP
        exact ⟨y81, rfl, hF.to ⟨rfl, rfl, trivial⟩, hM⟩
      have hP := Fx.cF hb79 hP
      refine g_skip hF rfl rfl rfl hb79 rfl rfl fun a hF => ?_
      refine g_skip hF rfl rfl rfl hb79 rfl rfl fun a hF => ?_
      refine g_skip hF rfl rfl rfl hb79 rfl rfl fun a hF => ?_
      refine s_val hF (r_pick0 hF rfl rfl hb79 rfl) rfl rfl rfl fun a hF => ?_
      refine s_val hF (r_assign hF rfl rfl) rfl rfl rfl fun a hF => ?_
      refine c_nil (n_then ?_)
      have hP := Option.some.inj hP
      subst hP
      exact ⟨false, rfl, hF.to ⟨rfl, rfl, trivial⟩, hM⟩
    rintro v76 a w hP ⟨hF, hM⟩
    replace hP : Sh.trace_goodValue_j1 v76 = _ := hP
    unfold Sh.trace_goodValue_j1 at hP
    refine n_then ?_
    refine c_ret ?_
    have hP := Option.some.inj hP
    subst hP
    refine e_ret1 Tryz.results174 hF rfl ?_
    exact ⟨rfl, selM hM [] 1 rfl⟩
  have hP := Fx.cF hb65 hP
  refine c_seq ?_
  refine c_region ?_
  refine s_val hF (r_fieldAddr (off' := 0) Tryz.underlying46 rfl in3 rfl hF rfl rfl rfl) rfl rfl rfl fun a hF => ?_
  refine s_val hF (r_load1 Tryz.isAgg3 hF rfl rfl (hM.cell (i := 0) rfl (LVal.g_kind _))) rfl rfl rfl fun a hF => ?_
  refine s_val hF (r_eql hF rfl rfl rfl) rfl rfl rfl fun a hF => ?_
  refine s_val hF (r_assign hF rfl rfl) rfl rfl rfl fun a hF => ?_
  refine c_nil (n_then ?_)
  refine c_cond hF (c := .tmp 15) rfl (fun hb82 => ?_) (fun hb82 => ?_)
  · have hP := Fx.cT hb82 hP
    refine c_seq ?_
    refine c_region ?_
    refine s_val hF (r_loadn Tryz.isAgg46 Tryz.sizeOf46 hF rfl rfl (LVal.len _) (hM.cells (i := 0) rfl (cut_all (LVal.len _)))) rfl rfl rfl fun a hF => ?_
    refine s_val hF (r_build z46 Tryz.underlying46 pl46 hF (parts := []) rfl rfl fill_e) rfl rfl rfl fun a hF => ?_
    refine s_val hF (r_eqlA Tryz.eqGuardType46 (eq_LVal _ _ _ _ (by decide)) hF rfl rfl rfl) rfl rfl rfl fun a hF => ?_
    refine s_val hF (r_assign hF rfl rfl) rfl rfl rfl fun a hF => ?_
    refine c_nil (n_then ?_)
    refine c_ret ?_
    have hP := Option.some.inj hP
    subst hP
    refine e_ret1 Tryz.results174 hF rfl ?_
    exact ⟨rfl, selM hM [] 1 rfl⟩
  have hP := Fx.cF hb82 hP
  refine c_skip (n_block (n_then ?_))
  refine c_seq ?_
  refine c_joinX hF hM hP (fun F x a w => match x with | v89 => Fr 34 [(2, .bool v89)] a ∧ MemL w (Lr)) (fun o_j2 hP hK_j2 hF hM => ?_) ?_
  · refine c_region ?_
    refine s_val hF (r_fieldAddr (off' := 0) Tryz.underlying46 rfl in3 rfl hF rfl rfl rfl) rfl rfl rfl fun a hF => ?_
    refine s_val hF (r_load1 Tryz.isAgg3 hF rfl rfl (hM.cell (i := 0) rfl (LVal.g_kind _))) rfl rfl rfl fun a hF => ?_
    obtain ⟨y91, hy91, hP⟩ := bind_some hP
    refine s_eff hF rfl rfl rfl (w_call (xs := [.tmp 23, .const (.int .i64 (1)), .const (.int .i64 (4))]) Tryz.call124 hF rfl rfl (trace_within_calls hy91 hM ) fun v w hR => ?_)
    obtain ⟨rfl, hM⟩ := hR
    replace hM : MemL _ (pt b_B174_1 (LVal.enc x0) 46 :: Lr) := hM
    intro a hF
    refine s_val hF (r_move hF rfl rfl) rfl rfl rfl fun a hF => ?_
    refine g_split 25 hF rfl (fun hb92 => ?_) (fun hb92 => ?_)
    · have hP := Fx.cT hb92 hP
      refine g_val hF rfl rfl rfl hb92 (r_loadn Tryz.isAgg46 Tryz.sizeOf46 hF rfl rfl (LVal.len _) (hM.cells (i := 0) rfl (cut_all (LVal.len _)))) rfl rfl fun a hF => ?_
      refine g_val hF rfl rfl rfl hb92 (r_fieldAddr (off' := 0) Tryz.underlying46 rfl in3 rfl hF rfl rfl rfl) rfl rfl fun a hF => ?_
      refine g_val hF rfl rfl rfl hb92 (r_load1 Tryz.isAgg3 hF rfl rfl (hM.cell (i := 0) rfl (LVal.g_kind _))) rfl rfl fun a hF => ?_
      refine g_val hF rfl rfl rfl hb92 (r_fieldAddr (off' := 3) Tryz.underlying46 rfl in3 rfl hF rfl rfl rfl) rfl rfl fun a hF => ?_
      refine g_val hF rfl rfl rfl hb92 (r_load1 Tryz.isAgg3 hF rfl rfl (hM.cell (i := 0) rfl (LVal.g_x _))) rfl rfl fun a hF => ?_
      refine g_val hF rfl rfl rfl hb92 (r_build z46 Tryz.underlying46 pl46 hF (parts := [(0, .tmp 28), (3, .tmp 30)]) rfl rfl (fill_s rfl rfl (by rw [LVal.len]; decide) (LVal.s_kind _ _) (fill_s rfl rfl (by rw [LVal.len]; decide) (LVal.s_x _ _) fill_e))) rfl rfl fun a hF => ?_
      refine g_val hF rfl rfl rfl hb92 (r_eqlA Tryz.eqGuardType46 (eq_LVal _ _ _ _ (by decide)) hF rfl rfl rfl) rfl rfl fun a hF => ?_
      refine s_val hF (r_pick1 hF rfl rfl hb92 rfl) rfl rfl rfl fun a hF => ?_
      refine s_val hF (r_assign hF rfl rfl) rfl rfl rfl fun a hF => ?_
      refine c_nil (n_then ?_)
      have hP := Option.some.inj hP
      subst hP
      exact ⟨(decide (x0 = (LVal.mk x0.kind 0 0 x0.x))), rfl, hF.to ⟨rfl, trivial⟩, selM hM [] 1 rfl⟩
    have hP := Fx.cF hb92 hP
    refine g_skip hF rfl rfl rfl hb92 rfl rfl fun a hF => ?_
    refine g_skip hF rfl rfl rfl hb92 rfl rfl fun a hF => ?_
    refine g_skip hF rfl rfl rfl hb92 rfl rfl fun a hF => ?_
    refine g_skip hF rfl rfl rfl hb92 rfl rfl fun a hF => ?_
    refine g_skip hF rfl rfl rfl hb92 rfl rfl fun a hF => ?_
    refine g_skip hF rfl rfl rfl hb92 rfl rfl fun a hF => ?_
    refine g_skip hF rfl rfl rfl hb92 rfl rfl fun a hF => ?_
    refine s_val hF (r_pick0 hF rfl rfl hb92 rfl) rfl rfl rfl fun a hF => ?_
    refine s_val hF (r_assign hF rfl rfl) rfl rfl rfl fun a hF => ?_
    refine c_nil (n_then ?_)
    have hP := Option.some.inj hP
    subst hP
    exact ⟨false, rfl, hF.to ⟨rfl, trivial⟩, selM hM [] 1 rfl⟩
  rintro v89 a w hP ⟨hF, hM⟩
  replace hP : Sh.trace_goodValue_j2 v89 = _ := hP
  unfold Sh.trace_goodValue_j2 at hP
  refine n_then ?_
  refine c_ret ?_
  have hP := Option.some.inj hP
  subst hP
  refine e_ret1 Tryz.results174 hF rfl ?_
  exact ⟨rfl, hM⟩
set_option maxHeartbeats 4000000 in
theorem trace_goodSlot_calls {x0 : LSlot} {out : Bool} {w0 : World} {Lr : List Res} (hP : Sh.trace_goodSlot x0 = some out) (hM : MemL w0 (Lr)) : Calls Tryz.prog 175 #[.agg (LSlot.enc x0).toArray] w0 (Ret fun v w' => v = .bool out ∧ MemL w' (Lr)) := by
  unfold Sh.trace_goodSlot at hP
  refine calls_enter (vs := [.agg (LSlot.enc x0).toArray]) Tryz.func175 rfl Tryz.ntmps175 rfl fun a hF => ?_
  refine c_seq ?_
  refine c_region ?_
  refine s_eff hF rfl rfl rfl (w_box hF rfl rfl rfl fun b_B175_1 w hzB175_1 hAB175_1 => ?_)
  have hM := hM.plus hAB175_1
  replace hM : MemL _ (pt b_B175_1 (LSlot.enc x0) 50 :: Lr) := hM
  intro a hF
  refine s_val hF (r_assign hF rfl rfl) rfl rfl rfl fun a hF => ?_
  refine c_nil (n_then ?_)
  refine c_seq ?_
  refine c_seq ?_
  refine c_region ?_
  refine s_val hF (r_fieldAddr (off' := 0) Tryz.underlying50 rfl in46 rfl hF rfl rfl rfl) rfl rfl rfl fun a hF => ?_
  refine s_val hF (r_fieldAddr (off' := 0) Tryz.underlying46 rfl in3 rfl hF rfl rfl rfl) rfl rfl rfl fun a hF => ?_
  refine s_val hF (r_load1 Tryz.isAgg3 hF rfl rfl ((hM.cells (i := 0) rfl (LSlot.c_ptr _)).get 0 (LVal.g_kind _))) rfl rfl rfl fun a hF => ?_
  refine s_val hF (r_neq hF rfl rfl rfl) rfl rfl rfl fun a hF => ?_
  refine c_nil (n_then ?_)
  refine c_cond hF (c := .tmp 8) rfl (fun hb221 => ?_) (fun hb221 => ?_)
  · have hP := Fx.cT hb221 hP
    refine c_seq ?_
    refine c_joinX hF hM hP (fun F x a w => match x with | v230 => Fr 51 [(2, .bool v230), (1, .pointer (some ⟨b_B175_1, 0, none⟩))] a ∧ MemL w (pt b_B175_1 (LSlot.enc x0) 50 :: Lr)) (fun o_j1 hP hK_j1 hF hM => ?_) ?_
    · refine c_region ?_
      refine s_val hF (r_fieldAddr (off' := 0) Tryz.underlying50 rfl in46 rfl hF rfl rfl rfl) rfl rfl rfl fun a hF => ?_
      refine s_val hF (r_loadn Tryz.isAgg46 Tryz.sizeOf46 hF rfl rfl (LVal.len _) (hM.cells (i := 0) rfl (LSlot.c_ptr _))) rfl rfl rfl fun a hF => ?_
      obtain ⟨y232, hy232, hP⟩ := bind_some hP
      refine s_eff hF rfl rfl rfl (w_call (xs := [.tmp 10]) Tryz.call174 hF rfl rfl (trace_goodValue_calls hy232 hM ) fun v w hR => ?_)
      obtain ⟨rfl, hM⟩ := hR
      replace hM : MemL _ (pt b_B175_1 (LSlot.enc x0) 50 :: Lr) := hM
      intro a hF
      refine s_val hF (r_move hF rfl rfl) rfl rfl rfl fun a hF => ?_
      refine g_split 12 hF rfl (fun hb233 => ?_) (fun hb233 => ?_)
      · have hP := Fx.cT hb233 hP
        refine g_val hF rfl rfl rfl hb233 (r_fieldAddr (off' := 0) Tryz.underlying50 rfl in46 rfl hF rfl rfl rfl) rfl rfl fun a hF => ?_
        refine g_val hF rfl rfl rfl hb233 (r_fieldAddr (off' := 0) Tryz.underlying46 rfl in3 rfl hF rfl rfl rfl) rfl rfl fun a hF => ?_
        refine g_val hF rfl rfl rfl hb233 (r_load1 Tryz.isAgg3 hF rfl rfl ((hM.cells (i := 0) rfl (LSlot.c_ptr _)).get 0 (LVal.g_kind _))) rfl rfl fun a hF => ?_
        refine g_val hF rfl rfl rfl hb233 (r_neq hF rfl rfl rfl) rfl rfl fun a hF => ?_
        refine s_val hF (r_pick1 hF rfl rfl hb233 rfl) rfl rfl rfl fun a hF => ?_
        refine s_val hF (r_move hF rfl rfl) rfl rfl rfl fun a hF => ?_
        refine g_split 18 hF rfl (fun hb234 => ?_) (fun hb234 => ?_)
        · have hP := Fx.cT hb234 hP
          refine g_val hF rfl rfl rfl hb234 (r_loadn Tryz.isAgg50 Tryz.sizeOf50 hF rfl rfl (LSlot.len _) (hM.cells (i := 0) rfl (cut_all (LSlot.len _)))) rfl rfl fun a hF => ?_
          refine g_val hF rfl rfl rfl hb234 (r_fieldAddr (off' := 0) Tryz.underlying50 rfl in46 rfl hF rfl rfl rfl) rfl rfl fun a hF => ?_
          refine g_val hF rfl rfl rfl hb234 (r_loadn Tryz.isAgg46 Tryz.sizeOf46 hF rfl rfl (LVal.len _) (hM.cells (i := 0) rfl (LSlot.c_ptr _))) rfl rfl fun a hF => ?_
          refine g_val hF rfl rfl rfl hb234 (r_build z50 Tryz.underlying50 pl50 hF (parts := [(0, .tmp 21)]) rfl rfl (fill_p rfl (LVal.len _) (by rw [LVal.len, LSlot.len]; decide) (LSlot.p_ptr _ _) fill_e)) rfl rfl fun a hF => ?_
          refine g_val hF rfl rfl rfl hb234 (r_eqlA Tryz.eqGuardType50 (eq_LSlot _ _ _ _ (by decide)) hF rfl rfl rfl) rfl rfl fun a hF => ?_
          refine s_val hF (r_pick1 hF rfl rfl hb234 rfl) rfl rfl rfl fun a hF => ?_
          refine s_val hF (r_assign hF rfl rfl) rfl rfl rfl fun a hF => ?_
          refine c_nil (n_then ?_)
          have hP := Option.some.inj hP
          subst hP
          exact ⟨(decide (x0 = (LSlot.mk x0.ptr (⟨List.replicate 8 0, rfl⟩ : Vec UInt8 8) 0))), rfl, hF.to ⟨rfl, rfl, trivial⟩, hM⟩
        have hP := Fx.cF hb234 hP
        refine g_skip hF rfl rfl rfl hb234 rfl rfl fun a hF => ?_
        refine g_skip hF rfl rfl rfl hb234 rfl rfl fun a hF => ?_
        refine g_skip hF rfl rfl rfl hb234 rfl rfl fun a hF => ?_
        refine g_skip hF rfl rfl rfl hb234 rfl rfl fun a hF => ?_
        refine g_skip hF rfl rfl rfl hb234 rfl rfl fun a hF => ?_
        refine s_val hF (r_pick0 hF rfl rfl hb234 rfl) rfl rfl rfl fun a hF => ?_
        refine s_val hF (r_assign hF rfl rfl) rfl rfl rfl fun a hF => ?_
        refine c_nil (n_then ?_)
        have hP := Option.some.inj hP
        subst hP
        exact ⟨false, rfl, hF.to ⟨rfl, rfl, trivial⟩, hM⟩
      have hP := Fx.cF hb233 hP
      refine g_skip hF rfl rfl rfl hb233 rfl rfl fun a hF => ?_
      refine g_skip hF rfl rfl rfl hb233 rfl rfl fun a hF => ?_
      refine g_skip hF rfl rfl rfl hb233 rfl rfl fun a hF => ?_
      refine g_skip hF rfl rfl rfl hb233 rfl rfl fun a hF => ?_
      refine s_val hF (r_pick0 hF rfl rfl hb233 rfl) rfl rfl rfl fun a hF => ?_
      refine s_val hF (r_move hF rfl rfl) rfl rfl rfl fun a hF => ?_
      refine g_skip hF rfl rfl rfl rfl rfl rfl fun a hF => ?_
      refine g_skip hF rfl rfl rfl rfl rfl rfl fun a hF => ?_
      refine g_skip hF rfl rfl rfl rfl rfl rfl fun a hF => ?_
      refine g_skip hF rfl rfl rfl rfl rfl rfl fun a hF => ?_
      refine g_skip hF rfl rfl rfl rfl rfl rfl fun a hF => ?_
      refine s_val hF (r_pick0 hF rfl rfl rfl rfl) rfl rfl rfl fun a hF => ?_
      refine s_val hF (r_assign hF rfl rfl) rfl rfl rfl fun a hF => ?_
      refine c_nil (n_then ?_)
      have hP := Option.some.inj hP
      subst hP
      exact ⟨false, rfl, hF.to ⟨rfl, rfl, trivial⟩, hM⟩
    rintro v230 a w hP ⟨hF, hM⟩
    replace hP : Sh.trace_goodSlot_j1 v230 = _ := hP
    unfold Sh.trace_goodSlot_j1 at hP
    refine n_then ?_
    refine c_ret ?_
    have hP := Option.some.inj hP
    subst hP
    refine e_ret1 Tryz.results175 hF rfl ?_
    exact ⟨rfl, selM hM [] 1 rfl⟩
  have hP := Fx.cF hb221 hP
  refine c_skip (n_then ?_)
  refine c_seq ?_
  refine c_joinX hF hM hP (fun F x a w => match x with | _ => Fr 51 [(1, .pointer (some ⟨b_B175_1, 0, none⟩)), (2, .bool false)] a ∧ MemL w (pt b_B175_1 (LSlot.enc x0) 50 :: Lr)) (fun o_j2 hP hK_j2 hF hM => ?_) ?_
  · refine c_seq ?_
    refine c_region ?_
    refine s_val hF (r_fieldAddr (off' := 4) Tryz.underlying50 rfl in48 rfl hF rfl rfl rfl) rfl rfl rfl fun a hF => ?_
    refine s_val hF (r_loadn Tryz.isAgg48 Tryz.sizeOf48 hF rfl rfl (encs_vec _) (hM.cells (i := 0) rfl (LSlot.c_bytes _))) rfl rfl rfl fun a hF => ?_
    refine s_val hF (r_move hF rfl rfl) rfl rfl rfl fun a hF => ?_
    refine c_nil (n_then ?_)
    refine c_block ?_
    refine c_loopX hF hM hP (fun F x a w => match x with | v382 => Fr 51 [(27, .int .i64 v382), (1, .pointer (some ⟨b_B175_1, 0, none⟩)), (2, .bool false), (26, .agg (encs x0.bytes.l).toArray)] a ∧ MemL w (pt b_B175_1 (LSlot.enc x0) 50 :: Lr)) (fun hF hM => ⟨hF.to ⟨rfl, rfl, rfl, rfl, trivial⟩, hM⟩) ?_
    rintro v382 a w o_l3 hP hK_l3 ⟨hF, hM⟩
    replace hP : Sh.trace_goodSlot_l3 x0 v382 = _ := hP
    unfold Sh.trace_goodSlot_l3 at hP
    refine c_seq ?_
    refine c_region ?_
    refine s_val hF (r_lss hF rfl rfl rfl) rfl rfl rfl fun a hF => ?_
    refine c_nil (n_then ?_)
    refine c_seq ?_
    refine c_cond hF (c := .tmp 28) rfl (fun hb384 => ?_) (fun hb384 => ?_)
    · have hP := Fx.cT hb384 hP
      refine c_skip (n_then ?_)
      refine c_seq ?_
      refine c_block ?_
      refine c_seq ?_
      refine c_region ?_
      refine s_val hF (r_move hF rfl rfl) rfl rfl rfl fun a hF => ?_
      obtain ⟨x394, hx394, hP⟩ := bind_some hP
      refine s_val hF (r_indexV1Z Tryz.underlying48 Tryz.sizeOf5 Tryz.isAgg5 hF rfl rfl rfl (get_bdv hx394) (encs_at (get_some hx394).2 rfl)) rfl rfl rfl fun a hF => ?_
      refine s_val hF (r_assign hF rfl rfl) rfl rfl rfl fun a hF => ?_
      refine s_val hF (r_assign hF rfl rfl) rfl rfl rfl fun a hF => ?_
      refine c_nil (n_then ?_)
      refine c_seq ?_
      refine c_joinX hF hM hP (fun F x a w => match x with | v399 => Fr 51 [(40, .bool v399), (1, .pointer (some ⟨b_B175_1, 0, none⟩)), (2, .bool false), (26, .agg (encs x0.bytes.l).toArray), (27, .int .i64 v382)] a ∧ MemL w (pt b_B175_1 (LSlot.enc x0) 50 :: Lr)) (fun o_j4 hP hK_j4 hF hM => ?_) ?_
      · refine c_region ?_
        refine s_val hF (r_move hF rfl rfl) rfl rfl rfl fun a hF => ?_
        refine s_val hF (r_neq hF rfl rfl rfl) rfl rfl rfl fun a hF => ?_
        refine s_val hF (r_move hF rfl rfl) rfl rfl rfl fun a hF => ?_
        refine g_split 33 hF rfl (fun hb400 => ?_) (fun hb400 => ?_)
        · have hP := Fx.cT hb400 hP
          refine g_val hF rfl rfl rfl hb400 (r_fieldAddr (off' := 12) Tryz.underlying50 rfl in3 rfl hF rfl rfl rfl) rfl rfl fun a hF => ?_
          refine g_val hF rfl rfl rfl hb400 (r_load1 Tryz.isAgg3 hF rfl rfl (hM.cell (i := 0) rfl (LSlot.g_mask _))) rfl rfl fun a hF => ?_
          refine g_val hF rfl rfl rfl hb400 (r_move hF rfl rfl) rfl rfl fun a hF => ?_
          obtain ⟨hc401, hP⟩ := must_some hP
          refine g_val hF rfl rfl rfl hb400 (r_shr hF rfl rfl rfl (of_decide_eq_true hc401)) rfl rfl fun a hF => ?_
          refine g_val hF rfl rfl rfl hb400 (r_and hF rfl rfl rfl) rfl rfl fun a hF => ?_
          refine g_val hF rfl rfl rfl hb400 (r_eql hF rfl rfl rfl) rfl rfl fun a hF => ?_
          refine s_val hF (r_pick1 hF rfl rfl hb400 rfl) rfl rfl rfl fun a hF => ?_
          refine c_nil (n_then ?_)
          have hP := Option.some.inj hP
          subst hP
          exact ⟨(decide ((band .i64 (shr .i64 x0.mask (v382).toNat) 1) = 0)), rfl, hF.to ⟨rfl, rfl, rfl, rfl, rfl, trivial⟩, hM⟩
        have hP := Fx.cF hb400 hP
        refine g_skip hF rfl rfl rfl hb400 rfl rfl fun a hF => ?_
        refine g_skip hF rfl rfl rfl hb400 rfl rfl fun a hF => ?_
        refine g_skip hF rfl rfl rfl hb400 rfl rfl fun a hF => ?_
        refine g_skip hF rfl rfl rfl hb400 rfl rfl fun a hF => ?_
        refine g_skip hF rfl rfl rfl hb400 rfl rfl fun a hF => ?_
        refine g_skip hF rfl rfl rfl hb400 rfl rfl fun a hF => ?_
        refine s_val hF (r_pick0 hF rfl rfl hb400 rfl) rfl rfl rfl fun a hF => ?_
        refine c_nil (n_then ?_)
        have hP := Option.some.inj hP
        subst hP
        exact ⟨false, rfl, hF.to ⟨rfl, rfl, rfl, rfl, rfl, trivial⟩, hM⟩
      rintro v399 a w hP ⟨hF, hM⟩
      replace hP : Sh.trace_goodSlot_j4 v382 v399 = _ := hP
      unfold Sh.trace_goodSlot_j4 at hP
      refine n_then ?_
      refine c_cond hF (c := .tmp 40) rfl (fun hb402 => ?_) (fun hb402 => ?_)
      · have hP := Fx.cT hb402 hP
        refine c_seq ?_
        refine c_region ?_
        refine s_val hF (r_assign hF rfl rfl) rfl rfl rfl fun a hF => ?_
        refine c_nil (n_then ?_)
        refine c_ret ?_
        have hP := Option.some.inj hP
        subst hP
        have hP := hK_l3 _ rfl
        subst hP
        have hP := fin_inr hK_j2
        subst hP
        refine e_ret1 Tryz.results175 hF rfl ?_
        exact ⟨rfl, selM hM [] 1 rfl⟩
      have hP := Fx.cF hb402 hP
      refine c_skip (n_block (n_then ?_))
      refine c_region ?_
      refine s_val hF (r_add hF rfl rfl rfl) rfl rfl rfl fun a hF => ?_
      refine s_val hF (r_move hF rfl rfl) rfl rfl rfl fun a hF => ?_
      refine c_nil (n_then ?_)
      have hP := Option.some.inj hP
      subst hP
      exact ⟨(IntKind.i64.wrap (v382 + 1)), rfl, hF.to ⟨rfl, rfl, rfl, rfl, trivial⟩, hM⟩
    have hP := Fx.cF hb384 hP
    refine c_exit (x_then (x_then (x_hit ?_)))
    refine n_then ?_
    have hP := Option.some.inj hP
    subst hP
    have hP := hK_l3 _ rfl
    subst hP
    exact ⟨(), rfl, hF.to ⟨rfl, rfl, trivial⟩, hM⟩
  rintro ⟨⟩ a w hP ⟨hF, hM⟩
  replace hP : Sh.trace_goodSlot_j2 x0 = _ := hP
  unfold Sh.trace_goodSlot_j2 at hP
  refine n_then ?_
  refine c_seq ?_
  refine c_joinX hF hM hP (fun F x a w => match x with | v409 => Fr 51 [(2, .bool v409)] a ∧ MemL w (Lr)) (fun o_j5 hP hK_j5 hF hM => ?_) ?_
  · refine c_region ?_
    refine s_val hF (r_fieldAddr (off' := 0) Tryz.underlying50 rfl in46 rfl hF rfl rfl rfl) rfl rfl rfl fun a hF => ?_
    refine s_val hF (r_loadn Tryz.isAgg46 Tryz.sizeOf46 hF rfl rfl (LVal.len _) (hM.cells (i := 0) rfl (LSlot.c_ptr _))) rfl rfl rfl fun a hF => ?_
    refine s_val hF (r_build z46 Tryz.underlying46 pl46 hF (parts := []) rfl rfl fill_e) rfl rfl rfl fun a hF => ?_
    refine s_val hF (r_eqlA Tryz.eqGuardType46 (eq_LVal _ _ _ _ (by decide)) hF rfl rfl rfl) rfl rfl rfl fun a hF => ?_
    refine s_val hF (r_move hF rfl rfl) rfl rfl rfl fun a hF => ?_
    refine g_split 46 hF rfl (fun hb410 => ?_) (fun hb410 => ?_)
    · have hP := Fx.cT hb410 hP
      refine g_val hF rfl rfl rfl hb410 (r_fieldAddr (off' := 12) Tryz.underlying50 rfl in3 rfl hF rfl rfl rfl) rfl rfl fun a hF => ?_
      refine g_val hF rfl rfl rfl hb410 (r_load1 Tryz.isAgg3 hF rfl rfl (hM.cell (i := 0) rfl (LSlot.g_mask _))) rfl rfl fun a hF => ?_
      obtain ⟨y412, hy412, hP⟩ := bind_some hP
      refine g_eff hF rfl rfl rfl hb410 rfl rfl (w_call (xs := [.tmp 48, .const (.int .i64 (0)), .const (.int .i64 (255))]) Tryz.call124 hF rfl rfl (trace_within_calls hy412 hM ) fun v w hR => ?_)
      obtain ⟨rfl, hM⟩ := hR
      replace hM : MemL _ (pt b_B175_1 (LSlot.enc x0) 50 :: Lr) := hM
      intro a hF
      refine s_val hF (r_pick1 hF rfl rfl hb410 rfl) rfl rfl rfl fun a hF => ?_
      refine s_val hF (r_assign hF rfl rfl) rfl rfl rfl fun a hF => ?_
      refine c_nil (n_then ?_)
      have hP := Option.some.inj hP
      subst hP
      exact ⟨y412, rfl, hF.to ⟨rfl, trivial⟩, selM hM [] 1 rfl⟩
    have hP := Fx.cF hb410 hP
    refine g_skip hF rfl rfl rfl hb410 rfl rfl fun a hF => ?_
    refine g_skip hF rfl rfl rfl hb410 rfl rfl fun a hF => ?_
    refine g_skip hF rfl rfl rfl hb410 rfl rfl fun a hF => ?_
    refine s_val hF (r_pick0 hF rfl rfl hb410 rfl) rfl rfl rfl fun a hF => ?_
    refine s_val hF (r_assign hF rfl rfl) rfl rfl rfl fun a hF => ?_
    refine c_nil (n_then ?_)
    have hP := Option.some.inj hP
    subst hP
    exact ⟨false, rfl, hF.to ⟨rfl, trivial⟩, selM hM [] 1 rfl⟩
  rintro v409 a w hP ⟨hF, hM⟩
  replace hP : Sh.trace_goodSlot_j5 v409 = _ := hP
  unfold Sh.trace_goodSlot_j5 at hP
  refine n_then ?_
  refine c_ret ?_
  have hP := Option.some.inj hP
  subst hP
  refine e_ret1 Tryz.results175 hF rfl ?_
  exact ⟨rfl, hM⟩
set_option maxHeartbeats 4000000 in
theorem trace_goodMark_calls {x0 : QMark} {s1 : SV} {s3 : SV} {s5 : SV} {hs6 : List RPiece} {s9 : SV} {out : Bool} {w0 : World} {Bf : World → Prop} {Lr : List Res} (hP : Sh.trace_goodMark x0 = some out) (hM : MemL w0 (Lr)) (hsub : ∀ w, MemL w Lr → Bf w) (f2 : LIn Bf s1 x0.regs) (f4 : LIn Bf s3 x0.slots) (f7 : LIn Bf s5 hs6) (q8 : Each (QPieceIn Bf) hs6 x0.pieces) (f10 : LIn Bf s9 x0.sent) : Calls Tryz.prog 99 #[.agg (RMark.enc (RMark.mk x0.at_ x0.next x0.done s1 s3 s5 s9)).toArray] w0 (Ret fun v w' => v = .bool out ∧ MemL w' (Lr)) := by
  unfold Sh.trace_goodMark at hP
  refine calls_enter (vs := [.agg (RMark.enc (RMark.mk x0.at_ x0.next x0.done s1 s3 s5 s9)).toArray]) Tryz.func99 rfl Tryz.ntmps99 rfl fun a hF => ?_
  refine c_seq ?_
  refine c_region ?_
  refine s_eff hF rfl rfl rfl (w_box hF rfl rfl rfl fun b_B99_1 w hzB99_1 hAB99_1 => ?_)
  have hM := hM.plus hAB99_1
  replace hM : MemL _ (pt b_B99_1 (RMark.enc (RMark.mk x0.at_ x0.next x0.done s1 s3 s5 s9)) 60 :: Lr) := hM
  intro a hF
  refine s_val hF (r_assign hF rfl rfl) rfl rfl rfl fun a hF => ?_
  refine c_nil (n_then ?_)
  refine c_seq ?_
  refine c_seq ?_
  refine c_region ?_
  refine s_val hF (r_loadn Tryz.isAgg60 Tryz.sizeOf60 hF rfl rfl (RMark.len _) (hM.cells (i := 0) rfl (cut_all (RMark.len _)))) rfl rfl rfl fun a hF => ?_
  obtain ⟨y753, hy753, hP⟩ := bind_some hP
  refine s_eff hF rfl rfl rfl (w_call (xs := [.tmp 7]) Tryz.call173 hF rfl rfl (trace_plain_calls hy753 hM (Bf := Bf) (fun w hM => hsub _ (dropM hM 1)) f2 f4 f7 q8 f10) fun v w hR => ?_)
  obtain ⟨rfl, hM⟩ := hR
  replace hM : MemL _ (pt b_B99_1 (RMark.enc (RMark.mk x0.at_ x0.next x0.done s1 s3 s5 s9)) 60 :: Lr) := hM
  intro a hF
  refine s_val hF (r_not hF rfl rfl) rfl rfl rfl fun a hF => ?_
  refine c_nil (n_then ?_)
  refine c_cond hF (c := .tmp 9) rfl (fun hb754 => ?_) (fun hb754 => ?_)
  · have hP := Fx.cT hb754 hP
    refine c_seq ?_
    refine c_region ?_
    refine s_val hF (r_assign hF rfl rfl) rfl rfl rfl fun a hF => ?_
    refine c_nil (n_then ?_)
    refine c_ret ?_
    have hP := Option.some.inj hP
    subst hP
    refine e_ret1 Tryz.results99 hF rfl ?_
    exact ⟨rfl, selM hM [] 1 rfl⟩
  have hP := Fx.cF hb754 hP
  refine c_skip (n_then ?_)
  refine c_seq ?_
  refine c_joinX hF hM hP (fun F x a w => match x with | _ => Fr 46 [(1, .pointer (some ⟨b_B99_1, 0, none⟩)), (2, .bool false)] a ∧ MemL w (pt b_B99_1 (RMark.enc (RMark.mk x0.at_ x0.next x0.done s1 s3 s5 s9)) 60 :: Lr)) (fun o_j1 hP hK_j1 hF hM => ?_) ?_
  · refine c_seq ?_
    refine c_region ?_
    refine s_val hF (r_fieldAddr (off' := 3) Tryz.underlying60 rfl in56 rfl hF rfl rfl rfl) rfl rfl rfl fun a hF => ?_
    refine s_val hF (r_load1 Tryz.isAgg56 hF rfl rfl (hM.cell (i := 0) rfl (RMark.g_regs _))) rfl rfl rfl fun a hF => ?_
    refine s_val hF (r_lenL (f2 _ (hsub _ (dropM hM 1))) Tryz.underlying56 hF rfl rfl) rfl rfl rfl fun a hF => ?_
    refine s_val hF (r_move hF rfl rfl) rfl rfl rfl fun a hF => ?_
    refine c_nil (n_then ?_)
    refine c_block ?_
    refine c_loopX hF hM hP (fun F x a w => match x with | v1080 => Fr 46 [(13, .int .i64 v1080), (1, .pointer (some ⟨b_B99_1, 0, none⟩)), (11, (s1).v), (12, .int .i64 (x0.regs.length : Int)), (2, .bool false)] a ∧ MemL w (pt b_B99_1 (RMark.enc (RMark.mk x0.at_ x0.next x0.done s1 s3 s5 s9)) 60 :: Lr)) (fun hF hM => ⟨hF.to ⟨rfl, rfl, rfl, rfl, rfl, trivial⟩, hM⟩) ?_
    rintro v1080 a w o_l2 hP hK_l2 ⟨hF, hM⟩
    replace hP : Sh.trace_goodMark_l2 x0 v1080 = _ := hP
    unfold Sh.trace_goodMark_l2 at hP
    refine c_seq ?_
    refine c_region ?_
    refine s_val hF (r_lss hF rfl rfl rfl) rfl rfl rfl fun a hF => ?_
    refine c_nil (n_then ?_)
    refine c_seq ?_
    refine c_cond hF (c := .tmp 14) rfl (fun hb1082 => ?_) (fun hb1082 => ?_)
    · have hP := Fx.cT hb1082 hP
      refine c_skip (n_then ?_)
      refine c_seq ?_
      refine c_block ?_
      refine c_seq ?_
      refine c_region ?_
      obtain ⟨x1102, hx1102, hP⟩ := bind_some hP
      have h0x1102 := get_some hx1102
      refine s_val hF (r_indexZ (sz := 9) (f2 _ (hsub _ (dropM hM 1))) Tryz.underlying56 in128 rfl hF rfl rfl rfl (get_bd hx1102)) rfl rfl rfl fun a hF => ?_
      refine s_val hF (r_loadn Tryz.isAgg128 Tryz.sizeOf128 hF rfl rfl (LTurn.len _) (((f2 _ (hsub _ (dropM hM 1))).elemS h0x1102.2))) rfl rfl rfl fun a hF => ?_
      refine s_eff hF rfl rfl rfl (w_alloc z128 (zs := LTurn.zero.enc) rfl rfl fun b_B99_4 w hzB99_4 hAB99_4 => ?_)
      have hM := hM.plus hAB99_4
      replace hM : MemL _ (pt b_B99_4 (LTurn.enc LTurn.zero) 128 :: pt b_B99_1 (RMark.enc (RMark.mk x0.at_ x0.next x0.done s1 s3 s5 s9)) 60 :: Lr) := hM
      intro a hF
      refine s_eff0 rfl rfl (w_storen (vs := _) Tryz.sizeOf128 (hM.obj (i := 0) rfl) hF rfl rfl rfl rfl (LTurn.len _) (LTurn.one _) (by first | (rw [LTurn.len, LTurn.len]; decide) | (rw [LTurn.len]; decide)) (put_all ((LTurn.len _).trans (LTurn.len _).symm)) fun w hU1103 => ?_)
      have hM := hM.chg hU1103 (i := 0) rfl
      replace hM : MemL _ (pt b_B99_4 (LTurn.enc x1102) 128 :: pt b_B99_1 (RMark.enc (RMark.mk x0.at_ x0.next x0.done s1 s3 s5 s9)) 60 :: Lr) := hM
      refine c_nil (n_then ?_)
      refine c_seq ?_
      refine c_joinX hF hM hP (fun F x a w => match x with | v1114 => Fr 46 [(26, .bool v1114), (1, .pointer (some ⟨b_B99_1, 0, none⟩)), (11, (s1).v), (12, .int .i64 (x0.regs.length : Int)), (13, .int .i64 v1080), (2, .bool false)] a ∧ MemL w (pt b_B99_1 (RMark.enc (RMark.mk x0.at_ x0.next x0.done s1 s3 s5 s9)) 60 :: Lr)) (fun o_j3 hP hK_j3 hF hM => ?_) ?_
      · refine c_region ?_
        refine s_val hF (r_fieldAddr (off' := 1) Tryz.underlying128 rfl in46 rfl hF rfl rfl rfl) rfl rfl rfl fun a hF => ?_
        refine s_val hF (r_loadn Tryz.isAgg46 Tryz.sizeOf46 hF rfl rfl (LVal.len _) (hM.cells (i := 0) rfl (LTurn.c_old _))) rfl rfl rfl fun a hF => ?_
        obtain ⟨y1116, hy1116, hP⟩ := bind_some hP
        refine s_eff hF rfl rfl rfl (w_call (xs := [.tmp 18]) Tryz.call174 hF rfl rfl (trace_goodValue_calls hy1116 hM ) fun v w hR => ?_)
        obtain ⟨rfl, hM⟩ := hR
        replace hM : MemL _ (pt b_B99_4 (LTurn.enc x1102) 128 :: pt b_B99_1 (RMark.enc (RMark.mk x0.at_ x0.next x0.done s1 s3 s5 s9)) 60 :: Lr) := hM
        intro a hF
        refine s_val hF (r_not hF rfl rfl) rfl rfl rfl fun a hF => ?_
        refine s_val hF (r_move hF rfl rfl) rfl rfl rfl fun a hF => ?_
        refine g_split 21 hF rfl (fun hb1117 => ?_) (fun hb1117 => ?_)
        · have hP := Fx.cT hb1117 hP
          refine g_skip hF rfl rfl rfl hb1117 rfl rfl fun a hF => ?_
          refine g_skip hF rfl rfl rfl hb1117 rfl rfl fun a hF => ?_
          refine g_skip hF rfl rfl rfl hb1117 rfl rfl fun a hF => ?_
          refine g_skip hF rfl rfl rfl hb1117 rfl rfl fun a hF => ?_
          refine s_val hF (r_pick1 hF rfl rfl hb1117 rfl) rfl rfl rfl fun a hF => ?_
          refine c_nil (n_then ?_)
          have hP := Option.some.inj hP
          subst hP
          exact ⟨true, rfl, hF.to ⟨rfl, rfl, rfl, rfl, rfl, rfl, trivial⟩, selM hM [1] 2 rfl⟩
        have hP := Fx.cF hb1117 hP
        refine g_val hF rfl rfl rfl hb1117 (r_fieldAddr (off' := 5) Tryz.underlying128 rfl in46 rfl hF rfl rfl rfl) rfl rfl fun a hF => ?_
        refine g_val hF rfl rfl rfl hb1117 (r_loadn Tryz.isAgg46 Tryz.sizeOf46 hF rfl rfl (LVal.len _) (hM.cells (i := 0) rfl (LTurn.c_new _))) rfl rfl fun a hF => ?_
        obtain ⟨y1119, hy1119, hP⟩ := bind_some hP
        refine g_eff hF rfl rfl rfl hb1117 rfl rfl (w_call (xs := [.tmp 23]) Tryz.call174 hF rfl rfl (trace_goodValue_calls hy1119 hM ) fun v w hR => ?_)
        obtain ⟨rfl, hM⟩ := hR
        replace hM : MemL _ (pt b_B99_4 (LTurn.enc x1102) 128 :: pt b_B99_1 (RMark.enc (RMark.mk x0.at_ x0.next x0.done s1 s3 s5 s9)) 60 :: Lr) := hM
        intro a hF
        refine g_val hF rfl rfl rfl hb1117 (r_not hF rfl rfl) rfl rfl fun a hF => ?_
        refine s_val hF (r_pick0 hF rfl rfl hb1117 rfl) rfl rfl rfl fun a hF => ?_
        refine c_nil (n_then ?_)
        have hP := Option.some.inj hP
        subst hP
        exact ⟨(!y1119), rfl, hF.to ⟨rfl, rfl, rfl, rfl, rfl, rfl, trivial⟩, selM hM [1] 2 rfl⟩
      rintro v1114 a w hP ⟨hF, hM⟩
      replace hP : Sh.trace_goodMark_j3 v1080 v1114 = _ := hP
      unfold Sh.trace_goodMark_j3 at hP
      refine n_then ?_
      refine c_cond hF (c := .tmp 26) rfl (fun hb1120 => ?_) (fun hb1120 => ?_)
      · have hP := Fx.cT hb1120 hP
        refine c_seq ?_
        refine c_region ?_
        refine s_val hF (r_assign hF rfl rfl) rfl rfl rfl fun a hF => ?_
        refine c_nil (n_then ?_)
        refine c_ret ?_
        have hP := Option.some.inj hP
        subst hP
        have hP := hK_l2 _ rfl
        subst hP
        have hP := fin_inr hK_j1
        subst hP
        refine e_ret1 Tryz.results99 hF rfl ?_
        exact ⟨rfl, selM hM [] 1 rfl⟩
      have hP := Fx.cF hb1120 hP
      refine c_skip (n_block (n_then ?_))
      refine c_region ?_
      refine s_val hF (r_add hF rfl rfl rfl) rfl rfl rfl fun a hF => ?_
      refine s_val hF (r_move hF rfl rfl) rfl rfl rfl fun a hF => ?_
      refine c_nil (n_then ?_)
      have hP := Option.some.inj hP
      subst hP
      exact ⟨(IntKind.i64.wrap (v1080 + 1)), rfl, hF.to ⟨rfl, rfl, rfl, rfl, rfl, trivial⟩, hM⟩
    have hP := Fx.cF hb1082 hP
    refine c_exit (x_then (x_then (x_hit ?_)))
    refine n_then ?_
    have hP := Option.some.inj hP
    subst hP
    have hP := hK_l2 _ rfl
    subst hP
    exact ⟨(), rfl, hF.to ⟨rfl, rfl, trivial⟩, hM⟩
  rintro ⟨⟩ a w hP ⟨hF, hM⟩
  replace hP : Sh.trace_goodMark_j1 x0 = _ := hP
  unfold Sh.trace_goodMark_j1 at hP
  refine n_then ?_
  refine c_seq ?_
  refine c_joinX hF hM hP (fun F x a w => match x with | _ => Fr 46 [(2, .bool false)] a ∧ MemL w (Lr)) (fun o_j4 hP hK_j4 hF hM => ?_) ?_
  · refine c_seq ?_
    refine c_region ?_
    refine s_val hF (r_fieldAddr (off' := 4) Tryz.underlying60 rfl in57 rfl hF rfl rfl rfl) rfl rfl rfl fun a hF => ?_
    refine s_val hF (r_load1 Tryz.isAgg57 hF rfl rfl (hM.cell (i := 0) rfl (RMark.g_slots _))) rfl rfl rfl fun a hF => ?_
    refine s_val hF (r_lenL (f4 _ (hsub _ (dropM hM 1))) Tryz.underlying57 hF rfl rfl) rfl rfl rfl fun a hF => ?_
    refine s_val hF (r_move hF rfl rfl) rfl rfl rfl fun a hF => ?_
    refine c_nil (n_then ?_)
    refine c_block ?_
    refine c_loopX hF hM hP (fun F x a w => match x with | v1446 => Fr 46 [(31, .int .i64 v1446), (2, .bool false), (29, (s3).v), (30, .int .i64 (x0.slots.length : Int))] a ∧ MemL w (Lr)) (fun hF hM => ⟨hF.to ⟨rfl, rfl, rfl, rfl, trivial⟩, selM hM [] 1 rfl⟩) ?_
    rintro v1446 a w o_l5 hP hK_l5 ⟨hF, hM⟩
    replace hP : Sh.trace_goodMark_l5 x0 v1446 = _ := hP
    unfold Sh.trace_goodMark_l5 at hP
    refine c_seq ?_
    refine c_region ?_
    refine s_val hF (r_lss hF rfl rfl rfl) rfl rfl rfl fun a hF => ?_
    refine c_nil (n_then ?_)
    refine c_seq ?_
    refine c_cond hF (c := .tmp 32) rfl (fun hb1448 => ?_) (fun hb1448 => ?_)
    · have hP := Fx.cT hb1448 hP
      refine c_skip (n_then ?_)
      refine c_seq ?_
      refine c_block ?_
      refine c_seq ?_
      refine c_region ?_
      obtain ⟨x1468, hx1468, hP⟩ := bind_some hP
      have h0x1468 := get_some hx1468
      refine s_val hF (r_indexZ (sz := 27) (f4 _ (hsub _ (dropM hM 0))) Tryz.underlying57 in151 rfl hF rfl rfl rfl (get_bd hx1468)) rfl rfl rfl fun a hF => ?_
      refine s_val hF (r_loadn Tryz.isAgg151 Tryz.sizeOf151 hF rfl rfl (LCell.len _) (((f4 _ (hsub _ (dropM hM 0))).elemS h0x1468.2))) rfl rfl rfl fun a hF => ?_
      refine s_eff hF rfl rfl rfl (w_alloc z151 (zs := LCell.zero.enc) rfl rfl fun b_B99_6 w hzB99_6 hAB99_6 => ?_)
      have hM := hM.plus hAB99_6
      replace hM : MemL _ (pt b_B99_6 (LCell.enc LCell.zero) 151 :: Lr) := hM
      intro a hF
      refine s_eff0 rfl rfl (w_storen (vs := _) Tryz.sizeOf151 (hM.obj (i := 0) rfl) hF rfl rfl rfl rfl (LCell.len _) (LCell.one _) (by first | (rw [LCell.len, LCell.len]; decide) | (rw [LCell.len]; decide)) (put_all ((LCell.len _).trans (LCell.len _).symm)) fun w hU1469 => ?_)
      have hM := hM.chg hU1469 (i := 0) rfl
      replace hM : MemL _ (pt b_B99_6 (LCell.enc x1468) 151 :: Lr) := hM
      refine c_nil (n_then ?_)
      refine c_seq ?_
      refine c_joinX hF hM hP (fun F x a w => match x with | v1480 => Fr 46 [(44, .bool v1480), (2, .bool false), (29, (s3).v), (30, .int .i64 (x0.slots.length : Int)), (31, .int .i64 v1446)] a ∧ MemL w (Lr)) (fun o_j6 hP hK_j6 hF hM => ?_) ?_
      · refine c_region ?_
        refine s_val hF (r_fieldAddr (off' := 1) Tryz.underlying151 rfl in50 rfl hF rfl rfl rfl) rfl rfl rfl fun a hF => ?_
        refine s_val hF (r_loadn Tryz.isAgg50 Tryz.sizeOf50 hF rfl rfl (LSlot.len _) (hM.cells (i := 0) rfl (LCell.c_old _))) rfl rfl rfl fun a hF => ?_
        obtain ⟨y1482, hy1482, hP⟩ := bind_some hP
        refine s_eff hF rfl rfl rfl (w_call (xs := [.tmp 36]) Tryz.call175 hF rfl rfl (trace_goodSlot_calls hy1482 hM ) fun v w hR => ?_)
        obtain ⟨rfl, hM⟩ := hR
        replace hM : MemL _ (pt b_B99_6 (LCell.enc x1468) 151 :: Lr) := hM
        intro a hF
        refine s_val hF (r_not hF rfl rfl) rfl rfl rfl fun a hF => ?_
        refine s_val hF (r_move hF rfl rfl) rfl rfl rfl fun a hF => ?_
        refine g_split 39 hF rfl (fun hb1483 => ?_) (fun hb1483 => ?_)
        · have hP := Fx.cT hb1483 hP
          refine g_skip hF rfl rfl rfl hb1483 rfl rfl fun a hF => ?_
          refine g_skip hF rfl rfl rfl hb1483 rfl rfl fun a hF => ?_
          refine g_skip hF rfl rfl rfl hb1483 rfl rfl fun a hF => ?_
          refine g_skip hF rfl rfl rfl hb1483 rfl rfl fun a hF => ?_
          refine s_val hF (r_pick1 hF rfl rfl hb1483 rfl) rfl rfl rfl fun a hF => ?_
          refine c_nil (n_then ?_)
          have hP := Option.some.inj hP
          subst hP
          exact ⟨true, rfl, hF.to ⟨rfl, rfl, rfl, rfl, rfl, trivial⟩, selM hM [] 1 rfl⟩
        have hP := Fx.cF hb1483 hP
        refine g_val hF rfl rfl rfl hb1483 (r_fieldAddr (off' := 14) Tryz.underlying151 rfl in50 rfl hF rfl rfl rfl) rfl rfl fun a hF => ?_
        refine g_val hF rfl rfl rfl hb1483 (r_loadn Tryz.isAgg50 Tryz.sizeOf50 hF rfl rfl (LSlot.len _) (hM.cells (i := 0) rfl (LCell.c_new _))) rfl rfl fun a hF => ?_
        obtain ⟨y1485, hy1485, hP⟩ := bind_some hP
        refine g_eff hF rfl rfl rfl hb1483 rfl rfl (w_call (xs := [.tmp 41]) Tryz.call175 hF rfl rfl (trace_goodSlot_calls hy1485 hM ) fun v w hR => ?_)
        obtain ⟨rfl, hM⟩ := hR
        replace hM : MemL _ (pt b_B99_6 (LCell.enc x1468) 151 :: Lr) := hM
        intro a hF
        refine g_val hF rfl rfl rfl hb1483 (r_not hF rfl rfl) rfl rfl fun a hF => ?_
        refine s_val hF (r_pick0 hF rfl rfl hb1483 rfl) rfl rfl rfl fun a hF => ?_
        refine c_nil (n_then ?_)
        have hP := Option.some.inj hP
        subst hP
        exact ⟨(!y1485), rfl, hF.to ⟨rfl, rfl, rfl, rfl, rfl, trivial⟩, selM hM [] 1 rfl⟩
      rintro v1480 a w hP ⟨hF, hM⟩
      replace hP : Sh.trace_goodMark_j6 v1446 v1480 = _ := hP
      unfold Sh.trace_goodMark_j6 at hP
      refine n_then ?_
      refine c_cond hF (c := .tmp 44) rfl (fun hb1486 => ?_) (fun hb1486 => ?_)
      · have hP := Fx.cT hb1486 hP
        refine c_seq ?_
        refine c_region ?_
        refine s_val hF (r_assign hF rfl rfl) rfl rfl rfl fun a hF => ?_
        refine c_nil (n_then ?_)
        refine c_ret ?_
        have hP := Option.some.inj hP
        subst hP
        have hP := hK_l5 _ rfl
        subst hP
        have hP := fin_inr hK_j4
        subst hP
        refine e_ret1 Tryz.results99 hF rfl ?_
        exact ⟨rfl, hM⟩
      have hP := Fx.cF hb1486 hP
      refine c_skip (n_block (n_then ?_))
      refine c_region ?_
      refine s_val hF (r_add hF rfl rfl rfl) rfl rfl rfl fun a hF => ?_
      refine s_val hF (r_move hF rfl rfl) rfl rfl rfl fun a hF => ?_
      refine c_nil (n_then ?_)
      have hP := Option.some.inj hP
      subst hP
      exact ⟨(IntKind.i64.wrap (v1446 + 1)), rfl, hF.to ⟨rfl, rfl, rfl, rfl, trivial⟩, hM⟩
    have hP := Fx.cF hb1448 hP
    refine c_exit (x_then (x_then (x_hit ?_)))
    refine n_then ?_
    have hP := Option.some.inj hP
    subst hP
    have hP := hK_l5 _ rfl
    subst hP
    exact ⟨(), rfl, hF.to ⟨rfl, trivial⟩, hM⟩
  rintro ⟨⟩ a w hP ⟨hF, hM⟩
  replace hP : Sh.trace_goodMark_j4 = _ := hP
  unfold Sh.trace_goodMark_j4 at hP
  refine n_then ?_
  refine c_seq ?_
  refine c_region ?_
  refine s_val hF (r_assign hF rfl rfl) rfl rfl rfl fun a hF => ?_
  refine c_nil (n_then ?_)
  refine c_ret ?_
  have hP := Option.some.inj hP
  subst hP
  refine e_ret1 Tryz.results99 hF rfl ?_
  exact ⟨rfl, hM⟩
end Go.Proofs
end
section
namespace Go.Proofs
open Go.Fw Go.Fx
set_option maxRecDepth 10000
set_option linter.unusedVariables false
set_option linter.unusedSimpArgs false
set_option maxHeartbeats 4000000 in
theorem law00_SameBytes_calls {x0 : List UInt8} {x1 : List UInt8} {s1 : SV} {s3 : SV} {out : Bool} {w0 : World} {Bf : World → Prop} {Lr : List Res} (hP : Sh.law00_SameBytes x0 x1 = some out) (hM : MemL w0 (Lr)) (hsub : ∀ w, MemL w Lr → Bf w) (f2 : LIn Bf s1 x0) (f4 : LIn Bf s3 x1) : Calls Tryz.prog 43 #[(s1).v, (s3).v] w0 (Ret fun v w' => v = .bool out ∧ MemL w' (Lr)) := by
  unfold Sh.law00_SameBytes at hP
  refine calls_enter (vs := [(s1).v, (s3).v]) Tryz.func43 rfl Tryz.ntmps43 rfl fun a hF => ?_
  refine c_seq ?_
  refine c_region ?_
  refine s_val hF (r_assign hF rfl rfl) rfl rfl rfl fun a hF => ?_
  refine c_nil (n_then ?_)
  refine c_seq ?_
  refine c_region ?_
  refine s_val hF (r_move hF rfl rfl) rfl rfl rfl fun a hF => ?_
  refine s_val hF (r_convStr0 (f2 _ (hsub _ (dropM hM 0))) Tryz.underlying23 Tryz.underlying5 Tryz.underlying9 hF rfl rfl) rfl rfl rfl fun a hF => ?_
  refine s_val hF (r_move hF rfl rfl) rfl rfl rfl fun a hF => ?_
  refine s_val hF (r_convStr0 (f4 _ (hsub _ (dropM hM 0))) Tryz.underlying23 Tryz.underlying5 Tryz.underlying9 hF rfl rfl) rfl rfl rfl fun a hF => ?_
  refine s_val hF (r_eqlStr (i := x0) (j := x1) hF rfl rfl rfl) rfl rfl rfl fun a hF => ?_
  refine s_val hF (r_assign hF rfl rfl) rfl rfl rfl fun a hF => ?_
  refine c_nil (n_then ?_)
  refine c_ret ?_
  have hP := Option.some.inj hP
  subst hP
  refine e_ret1 Tryz.results43 hF rfl ?_
  exact ⟨rfl, hM⟩
end Go.Proofs
end
