/- Ground for this claim: The call of TraceDecodes returns true, and the bytes read as before. Condition: what is read is of bulk at most 1048576. -/
import Derived.Test.YtmgnkohlfbjjnaaGreatRProg
import Derived.KernelRfl
import Derived.Test.YtmgnkohlfbjjnaaGreatRTd5
section
namespace Go.Proofs
open Go.Fw
set_option maxRecDepth 20000
theorem mixed : Tryz.prog.follows .mixedOrders = true := by kernel_rfl
theorem eq_LVal (d : Nat) (x y : LVal) (w : World) (hd : 3 ≤ d) : (Op.equalIn d 46 (.agg x.enc.toArray) (.agg y.enc.toArray)).run Tryz.prog w = .ok (decide (x = y)) w := by
  obtain ⟨d, rfl⟩ : ∃ d', d = d' + 1 := ⟨d - 1, by omega⟩
  rw [run_equalIn_struct w d 46 _ _ (by simp only [Program.fieldsOf, Tryz.underlying46]) Tryz.stoodInHeld46]
  simp only [Program.fieldsOf, Tryz.underlying46]
  have key : (x = y) ↔ x.kind = y.kind ∧ x.table = y.table ∧ x.row = y.row ∧ x.x = y.x := by cases x; cases y; simp
  rw [eqFields_one (by decide) Tryz.isAgg3 (LVal.g_kind x) (LVal.g_kind y) ((EqSpec.int (k := .i64) Tryz.underlying3) d _ _ w (by omega))]
  rw [eqFields_one (by decide) Tryz.isAgg3 (LVal.g_table x) (LVal.g_table y) ((EqSpec.int (k := .i64) Tryz.underlying3) d _ _ w (by omega))]
  rw [eqFields_one (by decide) Tryz.isAgg3 (LVal.g_row x) (LVal.g_row y) ((EqSpec.int (k := .i64) Tryz.underlying3) d _ _ w (by omega))]
  rw [eqFields_one (by decide) Tryz.isAgg3 (LVal.g_x x) (LVal.g_x y) ((EqSpec.int (k := .i64) Tryz.underlying3) d _ _ w (by omega))]
  rw [eqFields_nil]
  simp only [decide_eq_true_eq, key]
  repeat' split
  all_goals simp_all
theorem eq_arr48 : ∀ (d : Nat) (x y : Vec UInt8 8) (w : World), 2 ≤ d → (Op.equalIn d 48 (.agg (encs x.l).toArray) (.agg (encs y.l).toArray)).run Tryz.prog w = .ok (decide (x = y)) w :=
  EqSpec.vecOne Tryz.underlying48 Tryz.sizeOf5 rfl Tryz.isAgg5 (fun _ => rfl) (EqSpec.u8 Tryz.underlying5)
theorem eq_LSlot (d : Nat) (x y : LSlot) (w : World) (hd : 6 ≤ d) : (Op.equalIn d 50 (.agg x.enc.toArray) (.agg y.enc.toArray)).run Tryz.prog w = .ok (decide (x = y)) w := by
  obtain ⟨d, rfl⟩ : ∃ d', d = d' + 1 := ⟨d - 1, by omega⟩
  rw [run_equalIn_struct w d 50 _ _ (by simp only [Program.fieldsOf, Tryz.underlying50]) Tryz.stoodInHeld50]
  simp only [Program.fieldsOf, Tryz.underlying50]
  have key : (x = y) ↔ x.ptr = y.ptr ∧ x.bytes = y.bytes ∧ x.mask = y.mask := by cases x; cases y; simp
  rw [eqFields_agg (by decide) Tryz.isAgg46 Tryz.sizeOf46 (LSlot.c_ptr x) (LSlot.c_ptr y) (eq_LVal d _ _ w (by omega))]
  rw [eqFields_agg (by decide) Tryz.isAgg48 Tryz.sizeOf48 (LSlot.c_bytes x) (LSlot.c_bytes y) (eq_arr48 d _ _ w (by omega))]
  rw [eqFields_one (by decide) Tryz.isAgg3 (LSlot.g_mask x) (LSlot.g_mask y) ((EqSpec.int (k := .i64) Tryz.underlying3) d _ _ w (by omega))]
  rw [eqFields_nil]
  simp only [decide_eq_true_eq, key]
  repeat' split
  all_goals simp_all
theorem eq_LTurn (d : Nat) (x y : LTurn) (w : World) (hd : 6 ≤ d) : (Op.equalIn d 128 (.agg x.enc.toArray) (.agg y.enc.toArray)).run Tryz.prog w = .ok (decide (x = y)) w := by
  obtain ⟨d, rfl⟩ : ∃ d', d = d' + 1 := ⟨d - 1, by omega⟩
  rw [run_equalIn_struct w d 128 _ _ (by simp only [Program.fieldsOf, Tryz.underlying128]) Tryz.stoodInHeld128]
  simp only [Program.fieldsOf, Tryz.underlying128]
  have key : (x = y) ↔ x.reg = y.reg ∧ x.old = y.old ∧ x.new = y.new := by cases x; cases y; simp
  rw [eqFields_one (by decide) Tryz.isAgg3 (LTurn.g_reg x) (LTurn.g_reg y) ((EqSpec.int (k := .i64) Tryz.underlying3) d _ _ w (by omega))]
  rw [eqFields_agg (by decide) Tryz.isAgg46 Tryz.sizeOf46 (LTurn.c_old x) (LTurn.c_old y) (eq_LVal d _ _ w (by omega))]
  rw [eqFields_agg (by decide) Tryz.isAgg46 Tryz.sizeOf46 (LTurn.c_new x) (LTurn.c_new y) (eq_LVal d _ _ w (by omega))]
  rw [eqFields_nil]
  simp only [decide_eq_true_eq, key]
  repeat' split
  all_goals simp_all
theorem eq_LCell (d : Nat) (x y : LCell) (w : World) (hd : 8 ≤ d) : (Op.equalIn d 151 (.agg x.enc.toArray) (.agg y.enc.toArray)).run Tryz.prog w = .ok (decide (x = y)) w := by
  obtain ⟨d, rfl⟩ : ∃ d', d = d' + 1 := ⟨d - 1, by omega⟩
  rw [run_equalIn_struct w d 151 _ _ (by simp only [Program.fieldsOf, Tryz.underlying151]) Tryz.stoodInHeld151]
  simp only [Program.fieldsOf, Tryz.underlying151]
  have key : (x = y) ↔ x.slot = y.slot ∧ x.old = y.old ∧ x.new = y.new := by cases x; cases y; simp
  rw [eqFields_one (by decide) Tryz.isAgg3 (LCell.g_slot x) (LCell.g_slot y) ((EqSpec.int (k := .i64) Tryz.underlying3) d _ _ w (by omega))]
  rw [eqFields_agg (by decide) Tryz.isAgg50 Tryz.sizeOf50 (LCell.c_old x) (LCell.c_old y) (eq_LSlot d _ _ w (by omega))]
  rw [eqFields_agg (by decide) Tryz.isAgg50 Tryz.sizeOf50 (LCell.c_new x) (LCell.c_new y) (eq_LSlot d _ _ w (by omega))]
  rw [eqFields_nil]
  simp only [decide_eq_true_eq, key]
  repeat' split
  all_goals simp_all
theorem z46 (w : World) : (zeroValue 46).run Tryz.prog w = .ok (.agg LVal.zero.enc.toArray) w := (Tryz.zeroValue46 w).trans (by kernel_rfl)
theorem z50 (w : World) : (zeroValue 50).run Tryz.prog w = .ok (.agg LSlot.zero.enc.toArray) w := (Tryz.zeroValue50 w).trans (by kernel_rfl)
theorem z128 (w : World) : (zeroValue 128).run Tryz.prog w = .ok (.agg LTurn.zero.enc.toArray) w := (Tryz.zeroValue128 w).trans (by kernel_rfl)
theorem z151 (w : World) : (zeroValue 151).run Tryz.prog w = .ok (.agg LCell.zero.enc.toArray) w := (Tryz.zeroValue151 w).trans (by kernel_rfl)
theorem z156 (w : World) : (zeroValue 156).run Tryz.prog w = .ok (.agg RPiece.zero.enc.toArray) w := (Tryz.zeroValue156 w).trans (by kernel_rfl)
theorem z60 (w : World) : (zeroValue 60).run Tryz.prog w = .ok (.agg RMark.zero.enc.toArray) w := (Tryz.zeroValue60 w).trans (by kernel_rfl)
theorem z36 (w : World) : (zeroValue 36).run Tryz.prog w = .ok (.agg RRecord.zero.enc.toArray) w := (Tryz.zeroValue36 w).trans (by kernel_rfl)
theorem z176 (w : World) : (zeroValue 176).run Tryz.prog w = .ok (.agg RReader.zero.enc.toArray) w := (Tryz.zeroValue176 w).trans (by kernel_rfl)
theorem z184 (w : World) : (zeroValue 184).run Tryz.prog w = .ok (.agg RCursor.zero.enc.toArray) w := (Tryz.zeroValue184 w).trans (by kernel_rfl)
theorem z83 (w : World) : (zeroValue 83).run Tryz.prog w = .ok (.agg RLender.zero.enc.toArray) w := (Tryz.zeroValue83 w).trans (by kernel_rfl)
theorem in3 : Tryz.prog.info? 3 = some Tryz.t3 := by kernel_rfl
theorem in4 : Tryz.prog.info? 4 = some Tryz.t4 := by kernel_rfl
theorem in5 : Tryz.prog.info? 5 = some Tryz.t5 := by kernel_rfl
theorem in23 : Tryz.prog.info? 23 = some Tryz.t23 := by kernel_rfl
theorem in28 : Tryz.prog.info? 28 = some Tryz.t28 := by kernel_rfl
theorem in30 : Tryz.prog.info? 30 = some Tryz.t30 := by kernel_rfl
theorem in33 : Tryz.prog.info? 33 = some Tryz.t33 := by kernel_rfl
theorem in34 : Tryz.prog.info? 34 = some Tryz.t34 := by kernel_rfl
theorem in46 : Tryz.prog.info? 46 = some Tryz.t46 := by kernel_rfl
theorem in48 : Tryz.prog.info? 48 = some Tryz.t48 := by kernel_rfl
theorem in50 : Tryz.prog.info? 50 = some Tryz.t50 := by kernel_rfl
theorem in52 : Tryz.prog.info? 52 = some Tryz.t52 := by kernel_rfl
theorem in56 : Tryz.prog.info? 56 = some Tryz.t56 := by kernel_rfl
theorem in57 : Tryz.prog.info? 57 = some Tryz.t57 := by kernel_rfl
theorem in58 : Tryz.prog.info? 58 = some Tryz.t58 := by kernel_rfl
theorem in60 : Tryz.prog.info? 60 = some Tryz.t60 := by kernel_rfl
theorem in128 : Tryz.prog.info? 128 = some Tryz.t128 := by kernel_rfl
theorem in151 : Tryz.prog.info? 151 = some Tryz.t151 := by kernel_rfl
theorem in156 : Tryz.prog.info? 156 = some Tryz.t156 := by kernel_rfl
theorem pl46 : ∀ w, (plc Tryz.prog 46).run Tryz.prog w = .ok #[(0, 1), (1, 1), (2, 1), (3, 1)] w := fun w => by kernel_rfl
theorem pl50 : ∀ w, (plc Tryz.prog 50).run Tryz.prog w = .ok #[(0, 4), (4, 8), (12, 1)] w := fun w => by kernel_rfl
theorem pl128 : ∀ w, (plc Tryz.prog 128).run Tryz.prog w = .ok #[(0, 1), (1, 4), (5, 4)] w := fun w => by kernel_rfl
theorem pl151 : ∀ w, (plc Tryz.prog 151).run Tryz.prog w = .ok #[(0, 1), (1, 13), (14, 13)] w := fun w => by kernel_rfl
theorem pl156 : ∀ w, (plc Tryz.prog 156).run Tryz.prog w = .ok #[(0, 1), (1, 1), (2, 1), (3, 1)] w := fun w => by kernel_rfl
theorem pl60 : ∀ w, (plc Tryz.prog 60).run Tryz.prog w = .ok #[(0, 1), (1, 1), (2, 1), (3, 1), (4, 1), (5, 1), (6, 1)] w := fun w => by kernel_rfl
theorem pl36 : ∀ w, (plc Tryz.prog 36).run Tryz.prog w = .ok #[(0, 2), (2, 1), (3, 1)] w := fun w => by kernel_rfl
theorem pl176 : ∀ w, (plc Tryz.prog 176).run Tryz.prog w = .ok #[(0, 1), (1, 1), (2, 1), (3, 1)] w := fun w => by kernel_rfl
theorem pl184 : ∀ w, (plc Tryz.prog 184).run Tryz.prog w = .ok #[(0, 1), (1, 1), (2, 1), (3, 1)] w := fun w => by kernel_rfl
theorem pl83 : ∀ w, (plc Tryz.prog 83).run Tryz.prog w = .ok #[(0, 1)] w := fun w => by kernel_rfl
end Go.Proofs
end
section
namespace Go.Proofs
open Go.Fw Go.Fx
set_option maxRecDepth 10000
set_option linter.unusedVariables false
set_option linter.unusedSimpArgs false
theorem bytes_Clone_calls {x0 : List UInt8} {s : SV} {Bf : World → Prop} {Lr : List Res} {out : List UInt8} {w0 : World} (hP : Sh.bytes_Clone x0 = some out) (hM : MemL w0 Lr) (hsub : ∀ w, MemL w Lr → Bf w) (f : LIn Bf s x0) : Calls Tryz.prog 73 #[(s).v] w0 (Ret fun v w' => ∃ (s : SV), v = (s).v ∧ MemL w' (rowL 0 s 5 out :: Lr)) := by
  unfold Sh.bytes_Clone at hP
  refine calls_enter (vs := [(s).v]) Tryz.func73 rfl Tryz.ntmps73 rfl fun a hF => ?_
  refine c_seq ?_
  refine c_region ?_
  refine s_val hF (r_assign hF rfl rfl) rfl rfl rfl fun a hF => ?_
  refine c_nil (n_then ?_)
  refine c_seq ?_
  refine c_seq ?_
  refine c_region ?_
  refine s_val hF (r_move hF rfl rfl) rfl rfl rfl fun a hF => ?_
  refine s_val hF (r_eqlNil Tryz.underlying23 hF rfl rfl rfl) rfl rfl rfl fun a hF => ?_
  refine c_nil (n_then ?_)
  refine c_cond hF (c := .tmp 4) rfl (fun hb => ?_) (fun hb => ?_)
  · have hn := (f _ (hsub _ hM)).isNil hb
    subst hn
    have ho := (app_some hP).2
    subst ho
    refine c_seq ?_
    refine c_region ?_
    refine s_val hF (r_assign hF rfl rfl) rfl rfl rfl fun a hF => ?_
    refine c_nil (n_then ?_)
    refine c_ret ?_
    refine r_then ?_
    refine e_ret1 Tryz.results73 hF rfl ?_
    exact ⟨SV.nil, rfl, hM.rowNil (X := UInt8) 0 5⟩
  refine c_skip (n_then ?_)
  refine c_seq ?_
  refine c_region ?_
  refine s_eff hF rfl rfl rfl (w_slice0 (X := UInt8) 0 (Nat.zero_le _) Tryz.underlying23 in5 rfl fun s1 w hA => ?_)
  have hM := hM.plus hA
  intro a hF
  refine s_val hF (r_move hF rfl rfl) rfl rfl rfl fun a hF => ?_
  refine s_eff hF rfl rfl rfl (w_appX (X := UInt8) hP Tryz.underlying23 in5 rfl rfl rfl rfl hF rfl rfl rfl (hM.own (X := UInt8) (i := 0) rfl) (f _ (hsub _ (dropM hM 1))) fun s2 w hU => ?_)
  have hM := hM.chg hU (i := 0) rfl
  intro a hF
  refine s_val hF (r_assign hF rfl rfl) rfl rfl rfl fun a hF => ?_
  refine c_nil (n_then ?_)
  refine c_ret ?_
  refine e_ret1 Tryz.results73 hF rfl ?_
  exact ⟨s2, rfl, hM⟩
end Go.Proofs
end
section
namespace Go.Proofs
open Go.Fw Go.Fx
set_option maxRecDepth 10000
set_option linter.unusedVariables false
set_option linter.unusedSimpArgs false
set_option maxHeartbeats 4000000 in
theorem trace_reader_fault_calls {x0 : QReader} {x1 : Int} {x2 : Int} {s1 : SV} {b0 : Nat} {out : QReader} {w0 : World} {Bf : World → Prop} {Lr : List Res} (hP : Sh.trace_reader_fault x0 x1 x2 = some out) (hM : MemL w0 (pt b0 (RReader.enc (RReader.mk s1 x0.at_ x0.place x0.e)) 176 :: Lr)) (hsub : ∀ w, MemL w Lr → Bf w) (f2 : LIn Bf s1 x0.b) : Calls Tryz.prog 112 #[.pointer (some ⟨b0, 0, none⟩), .int .i64 x1, .int .i64 x2] w0 (Ret fun v w' => ∃ (s6 : SV), v = .tuple #[] ∧ LIn Bf s6 out.b ∧ MemL w' (pt b0 (RReader.enc (RReader.mk s6 out.at_ out.place out.e)) 176 :: Lr)) := by
  unfold Sh.trace_reader_fault at hP
  refine calls_enter (vs := [.pointer (some ⟨b0, 0, none⟩), .int .i64 x1, .int .i64 x2]) Tryz.func112 rfl Tryz.ntmps112 rfl fun a hF => ?_
  refine c_seq ?_
  refine c_region ?_
  refine s_val hF (r_move hF rfl rfl) rfl rfl rfl fun a hF => ?_
  refine s_val hF (r_nilCheckP hF rfl rfl) rfl rfl rfl fun a hF => ?_
  refine s_val hF (r_fieldAddr (off' := 3) Tryz.underlying176 rfl in34 rfl hF rfl rfl rfl) rfl rfl rfl fun a hF => ?_
  refine s_val hF (r_load1 Tryz.isAgg34 hF rfl rfl (hM.cell (i := 0) rfl (RReader.g_e _))) rfl rfl rfl fun a hF => ?_
  refine s_val hF (r_eql hF rfl rfl rfl) rfl rfl rfl fun a hF => ?_
  refine c_nil (n_then ?_)
  refine c_cond hF (c := .tmp 10) rfl (fun hb8 => ?_) (fun hb8 => ?_)
  · have hP := Fx.cT hb8 hP
    refine c_region ?_
    refine s_val hF (r_move hF rfl rfl) rfl rfl rfl fun a hF => ?_
    refine s_val hF (r_move hF rfl rfl) rfl rfl rfl fun a hF => ?_
    refine s_val hF (r_move hF rfl rfl) rfl rfl rfl fun a hF => ?_
    refine s_val hF (r_move hF rfl rfl) rfl rfl rfl fun a hF => ?_
    refine s_val hF (r_nilCheckP hF rfl rfl) rfl rfl rfl fun a hF => ?_
    refine s_val hF (r_fieldAddr (off' := 2) Tryz.underlying176 rfl in3 rfl hF rfl rfl rfl) rfl rfl rfl fun a hF => ?_
    refine s_eff0 rfl rfl (w_store1 Tryz.sizeOf3 (hM.obj (i := 0) rfl) hF rfl rfl rfl rfl (by rw [RReader.len]; decide) (RReader.s_place _ _) fun w hU9 => ?_)
    have hM := hM.chg hU9 (i := 0) rfl
    replace hM : MemL _ (pt b0 (RReader.enc (RReader.mk s1 x0.at_ x1 x0.e)) 176 :: Lr) := hM
    refine s_val hF (r_nilCheckP hF rfl rfl) rfl rfl rfl fun a hF => ?_
    refine s_val hF (r_fieldAddr (off' := 3) Tryz.underlying176 rfl in34 rfl hF rfl rfl rfl) rfl rfl rfl fun a hF => ?_
    refine s_eff0 rfl rfl (w_store1 Tryz.sizeOf34 (hM.obj (i := 0) rfl) hF rfl rfl rfl rfl (by rw [RReader.len]; decide) (RReader.s_e _ _) fun w hU10 => ?_)
    have hM := hM.chg hU10 (i := 0) rfl
    replace hM : MemL _ (pt b0 (RReader.enc (RReader.mk s1 x0.at_ x1 x2)) 176 :: Lr) := hM
    refine c_nil ?_
    have hP := Option.some.inj hP
    subst hP
    refine e_end0 Tryz.results112 hF ?_
    exact ⟨s1, rfl, f2, hM⟩
  have hP := Fx.cF hb8 hP
  refine c_skip ?_
  have hP := Option.some.inj hP
  subst hP
  refine e_end0 Tryz.results112 hF ?_
  exact ⟨s1, rfl, f2, hM⟩
set_option maxHeartbeats 4000000 in
theorem trace_reader_take_calls {x0 : QReader} {x1 : Int} {s1 : SV} {b0 : Nat} {out : (List UInt8 × QReader)} {w0 : World} {Bf : World → Prop} {Lr : List Res} (hP : Sh.trace_reader_take x0 x1 = some out) (hM : MemL w0 (pt b0 (RReader.enc (RReader.mk s1 x0.at_ x0.place x0.e)) 176 :: Lr)) (hsub : ∀ w, MemL w Lr → Bf w) (f2 : LIn Bf s1 x0.b) : Calls Tryz.prog 111 #[.pointer (some ⟨b0, 0, none⟩), .int .i64 x1] w0 (Ret fun v w' => ∃ (s26 : SV) (s28 : SV), v = (s26).v ∧ LIn Bf s26 out.1 ∧ LIn Bf s28 out.2.b ∧ MemL w' (pt b0 (RReader.enc (RReader.mk s28 out.2.at_ out.2.place out.2.e)) 176 :: Lr)) := by
  unfold Sh.trace_reader_take at hP
  refine calls_enter (vs := [.pointer (some ⟨b0, 0, none⟩), .int .i64 x1]) Tryz.func111 rfl Tryz.ntmps111 rfl fun a hF => ?_
  refine c_seq ?_
  refine c_region ?_
  refine s_val hF (r_assign hF rfl rfl) rfl rfl rfl fun a hF => ?_
  refine c_nil (n_then ?_)
  refine c_seq ?_
  refine c_joinX hF hM hP (fun F x a w => match x with | v40 => ∃ (s41 : SV), LIn Bf s41 v40.b ∧ Fr 52 [(0, .pointer (some ⟨b0, 0, none⟩)), (1, .int .i64 x1), (4, (SV.nil).v)] a ∧ MemL w (pt b0 (RReader.enc (RReader.mk s41 v40.at_ v40.place v40.e)) 176 :: Lr)) (fun o_j1 hP hK_j1 hF hM => ?_) ?_
  · refine c_seq ?_
    refine d_startT mixed (by kernel_rfl) hM [0] 1 rfl fun hch => ?_
    refine d_val hF hch 0 rfl (by kernel_rfl) rfl rfl rfl (fun w hM => (r_move hF rfl rfl)) fun a hF => ?_
    refine d_val hF hch 1 rfl (by kernel_rfl) rfl rfl rfl (fun w hM => (r_move hF rfl rfl)) fun a hF => ?_
    refine d_val hF hch 2 rfl (by kernel_rfl) rfl rfl rfl (fun w hM => (r_nilCheckP hF rfl rfl)) fun a hF => ?_
    refine d_val hF hch 3 rfl (by kernel_rfl) rfl rfl rfl (fun w hM => (r_fieldAddr (off' := 0) Tryz.underlying176 rfl in23 rfl hF rfl rfl rfl)) fun a hF => ?_
    refine d_val hF hch 4 rfl (by kernel_rfl) rfl rfl rfl (fun w hM => (r_load1 Tryz.isAgg23 hF rfl rfl (hM.cell (i := 0) rfl (RReader.g_b _)))) fun a hF => ?_
    refine d_val hF hch 5 rfl (by kernel_rfl) rfl rfl rfl (fun w hM => (r_lenL (f2 _ (hsub _ (dropM hM 1))) Tryz.underlying23 hF rfl rfl)) fun a hF => ?_
    refine d_val hF hch 6 rfl (by kernel_rfl) rfl rfl rfl (fun w hM => (r_move hF rfl rfl)) fun a hF => ?_
    refine d_val hF hch 7 rfl (by kernel_rfl) rfl rfl rfl (fun w hM => (r_nilCheckP hF rfl rfl)) fun a hF => ?_
    refine d_val hF hch 8 rfl (by kernel_rfl) rfl rfl rfl (fun w hM => (r_fieldAddr (off' := 1) Tryz.underlying176 rfl in3 rfl hF rfl rfl rfl)) fun a hF => ?_
    refine d_val hF hch 9 rfl (by kernel_rfl) rfl rfl rfl (fun w hM => (r_load1 Tryz.isAgg3 hF rfl rfl (hM.cell (i := 0) rfl (RReader.g_at_ _)))) fun a hF => ?_
    refine d_val hF hch 10 rfl (by kernel_rfl) rfl rfl rfl (fun w hM => (r_sub hF rfl rfl rfl)) fun a hF => ?_
    refine d_val hF hch 11 rfl (by kernel_rfl) rfl rfl rfl (fun w hM => (r_gtr hF rfl rfl rfl)) fun a hF => ?_
    refine d_end hch (by kernel_rfl) fun w hM => ?_
    refine n_then ?_
    refine c_cond hF (c := .tmp 16) rfl (fun hb43 => ?_) (fun hb43 => ?_)
    · have hP := Fx.cT hb43 hP
      refine c_region ?_
      refine s_val hF (r_move hF rfl rfl) rfl rfl rfl fun a hF => ?_
      refine s_val hF (r_move hF rfl rfl) rfl rfl rfl fun a hF => ?_
      refine s_val hF (r_nilCheckP hF rfl rfl) rfl rfl rfl fun a hF => ?_
      refine s_val hF (r_fieldAddr (off' := 0) Tryz.underlying176 rfl in23 rfl hF rfl rfl rfl) rfl rfl rfl fun a hF => ?_
      refine s_val hF (r_load1 Tryz.isAgg23 hF rfl rfl (hM.cell (i := 0) rfl (RReader.g_b _))) rfl rfl rfl fun a hF => ?_
      refine s_val hF (r_lenL (f2 _ (hsub _ (dropM hM 1))) Tryz.underlying23 hF rfl rfl) rfl rfl rfl fun a hF => ?_
      obtain ⟨y45, hy45, hP⟩ := bind_some hP
      refine s_eff hF rfl rfl rfl (w_call (xs := [.tmp 17, .tmp 22, .const (.int .i64 (236))]) Tryz.call112 hF rfl rfl (trace_reader_fault_calls hy45 hM (Bf := Bf) (fun w hM => hsub _ (dropM hM 0)) f2) fun v w hR => ?_)
      obtain ⟨s46, rfl, f47, hM⟩ := hR
      replace hM : MemL _ (pt b0 (RReader.enc (RReader.mk s46 y45.at_ y45.place y45.e)) 176 :: Lr) := hM
      intro a hF
      refine c_nil (n_then ?_)
      have hP := Option.some.inj hP
      subst hP
      exact ⟨y45, rfl, s46, f47, hF.to ⟨rfl, rfl, rfl, trivial⟩, hM⟩
    have hP := Fx.cF hb43 hP
    refine c_skip (n_then ?_)
    have hP := Option.some.inj hP
    subst hP
    exact ⟨x0, rfl, s1, f2, hF.to ⟨rfl, rfl, rfl, trivial⟩, hM⟩
  rintro v40 a w hP ⟨s41, f42, hF, hM⟩
  replace hP : Sh.trace_reader_take_j1 x1 v40 = _ := hP
  unfold Sh.trace_reader_take_j1 at hP
  refine n_then ?_
  refine c_seq ?_
  refine c_seq ?_
  refine c_region ?_
  refine s_val hF (r_move hF rfl rfl) rfl rfl rfl fun a hF => ?_
  refine s_val hF (r_nilCheckP hF rfl rfl) rfl rfl rfl fun a hF => ?_
  refine s_val hF (r_fieldAddr (off' := 3) Tryz.underlying176 rfl in34 rfl hF rfl rfl rfl) rfl rfl rfl fun a hF => ?_
  refine s_val hF (r_load1 Tryz.isAgg34 hF rfl rfl (hM.cell (i := 0) rfl (RReader.g_e _))) rfl rfl rfl fun a hF => ?_
  refine s_val hF (r_neq hF rfl rfl rfl) rfl rfl rfl fun a hF => ?_
  refine c_nil (n_then ?_)
  refine c_cond hF (c := .tmp 28) rfl (fun hb49 => ?_) (fun hb49 => ?_)
  · have hP := Fx.cT hb49 hP
    refine c_seq ?_
    refine c_region ?_
    refine s_val hF (r_assign hF rfl rfl) rfl rfl rfl fun a hF => ?_
    refine c_nil (n_then ?_)
    refine c_ret ?_
    have hP := Option.some.inj hP
    subst hP
    refine e_ret1 Tryz.results111 hF rfl ?_
    exact ⟨SV.nil, s41, rfl, LIn.nil, f42, hM⟩
  have hP := Fx.cF hb49 hP
  refine c_skip (n_then ?_)
  refine c_seq ?_
  refine c_region ?_
  refine s_val hF (r_move hF rfl rfl) rfl rfl rfl fun a hF => ?_
  refine s_val hF (r_nilCheckP hF rfl rfl) rfl rfl rfl fun a hF => ?_
  refine s_val hF (r_fieldAddr (off' := 1) Tryz.underlying176 rfl in3 rfl hF rfl rfl rfl) rfl rfl rfl fun a hF => ?_
  refine s_val hF (r_load1 Tryz.isAgg3 hF rfl rfl (hM.cell (i := 0) rfl (RReader.g_at_ _))) rfl rfl rfl fun a hF => ?_
  refine s_val hF (r_move hF rfl rfl) rfl rfl rfl fun a hF => ?_
  refine s_val hF (r_add hF rfl rfl rfl) rfl rfl rfl fun a hF => ?_
  refine s_val hF (r_nilCheckP hF rfl rfl) rfl rfl rfl fun a hF => ?_
  refine s_val hF (r_fieldAddr (off' := 1) Tryz.underlying176 rfl in3 rfl hF rfl rfl rfl) rfl rfl rfl fun a hF => ?_
  refine s_eff0 rfl rfl (w_store1 Tryz.sizeOf3 (hM.obj (i := 0) rfl) hF rfl rfl rfl rfl (by rw [RReader.len]; decide) (RReader.s_at_ _ _) fun w hU50 => ?_)
  have hM := hM.chg hU50 (i := 0) rfl
  replace hM : MemL _ (pt b0 (RReader.enc (RReader.mk s41 (IntKind.i64.wrap (v40.at_ + x1)) v40.place v40.e)) 176 :: Lr) := hM
  refine c_nil (n_then ?_)
  refine c_seq ?_
  refine d_startT mixed (by kernel_rfl) hM [0] 1 rfl fun hch => ?_
  refine d_val hF hch 0 rfl (by kernel_rfl) rfl rfl rfl (fun w hM => (r_move hF rfl rfl)) fun a hF => ?_
  refine d_val hF hch 1 rfl (by kernel_rfl) rfl rfl rfl (fun w hM => (r_nilCheckP hF rfl rfl)) fun a hF => ?_
  refine d_val hF hch 2 rfl (by kernel_rfl) rfl rfl rfl (fun w hM => (r_fieldAddr (off' := 0) Tryz.underlying176 rfl in23 rfl hF rfl rfl rfl)) fun a hF => ?_
  refine d_val hF hch 3 rfl (by kernel_rfl) rfl rfl rfl (fun w hM => (r_load1 Tryz.isAgg23 hF rfl rfl (hM.cell (i := 0) rfl (RReader.g_b _)))) fun a hF => ?_
  refine d_val hF hch 4 rfl (by kernel_rfl) rfl rfl rfl (fun w hM => (r_move hF rfl rfl)) fun a hF => ?_
  refine d_val hF hch 5 rfl (by kernel_rfl) rfl rfl rfl (fun w hM => (r_nilCheckP hF rfl rfl)) fun a hF => ?_
  refine d_val hF hch 6 rfl (by kernel_rfl) rfl rfl rfl (fun w hM => (r_fieldAddr (off' := 1) Tryz.underlying176 rfl in3 rfl hF rfl rfl rfl)) fun a hF => ?_
  refine d_val hF hch 7 rfl (by kernel_rfl) rfl rfl rfl (fun w hM => (r_load1 Tryz.isAgg3 hF rfl rfl (hM.cell (i := 0) rfl (RReader.g_at_ _)))) fun a hF => ?_
  refine d_val hF hch 8 rfl (by kernel_rfl) rfl rfl rfl (fun w hM => (r_move hF rfl rfl)) fun a hF => ?_
  refine d_val hF hch 9 rfl (by kernel_rfl) rfl rfl rfl (fun w hM => (r_sub hF rfl rfl rfl)) fun a hF => ?_
  refine d_val hF hch 10 rfl (by kernel_rfl) rfl rfl rfl (fun w hM => (r_move hF rfl rfl)) fun a hF => ?_
  refine d_val hF hch 11 rfl (by kernel_rfl) rfl rfl rfl (fun w hM => (r_nilCheckP hF rfl rfl)) fun a hF => ?_
  refine d_val hF hch 12 rfl (by kernel_rfl) rfl rfl rfl (fun w hM => (r_fieldAddr (off' := 1) Tryz.underlying176 rfl in3 rfl hF rfl rfl rfl)) fun a hF => ?_
  refine d_val hF hch 13 rfl (by kernel_rfl) rfl rfl rfl (fun w hM => (r_load1 Tryz.isAgg3 hF rfl rfl (hM.cell (i := 0) rfl (RReader.g_at_ _)))) fun a hF => ?_
  obtain ⟨x52, hx52, hP⟩ := bind_some hP
  refine d_val hF hch 14 rfl (by kernel_rfl) rfl rfl rfl (fun w hM => (r_cutZ (f42 _ (hsub _ (dropM hM 1))) hx52 Tryz.underlying23 in5 rfl hF rfl rfl (.inr ⟨_, _, rfl, rfl⟩) (.inr ⟨_, _, rfl, rfl⟩))) fun a hF => ?_
  refine d_val hF hch 15 rfl (by kernel_rfl) rfl rfl rfl (fun w hM => (r_assign hF rfl rfl)) fun a hF => ?_
  refine d_end hch (by kernel_rfl) fun w hM => ?_
  refine n_then ?_
  refine c_ret ?_
  have hP := Option.some.inj hP
  subst hP
  refine e_ret1 Tryz.results111 hF rfl ?_
  exact ⟨(s41.cut ((IntKind.i64.wrap ((IntKind.i64.wrap (v40.at_ + x1)) - x1)) : Int).toNat ((IntKind.i64.wrap (v40.at_ + x1)) : Int).toNat 1), s41, rfl, (LIn.slc f42 hx52 rfl), f42, hM⟩
set_option maxHeartbeats 4000000 in
theorem trace_reader_number_calls {x0 : QReader} {x1 : Int} {s1 : SV} {b0 : Nat} {out : (Int × QReader)} {w0 : World} {Bf : World → Prop} {Lr : List Res} (hP : Sh.trace_reader_number x0 x1 = some out) (hM : MemL w0 (pt b0 (RReader.enc (RReader.mk s1 x0.at_ x0.place x0.e)) 176 :: Lr)) (hsub : ∀ w, MemL w Lr → Bf w) (f2 : LIn Bf s1 x0.b) : Calls Tryz.prog 113 #[.pointer (some ⟨b0, 0, none⟩), .int .i64 x1] w0 (Ret fun v w' => ∃ (s91 : SV), v = .int .i64 out.1 ∧ LIn Bf s91 out.2.b ∧ MemL w' (pt b0 (RReader.enc (RReader.mk s91 out.2.at_ out.2.place out.2.e)) 176 :: Lr)) := by
  unfold Sh.trace_reader_number at hP
  refine calls_enter (vs := [.pointer (some ⟨b0, 0, none⟩), .int .i64 x1]) Tryz.func113 rfl Tryz.ntmps113 rfl fun a hF => ?_
  refine c_seq ?_
  refine c_region ?_
  refine s_val hF (r_assign hF rfl rfl) rfl rfl rfl fun a hF => ?_
  refine c_nil (n_then ?_)
  refine c_seq ?_
  refine c_region ?_
  refine s_val hF (r_assign hF rfl rfl) rfl rfl rfl fun a hF => ?_
  refine c_nil (n_then ?_)
  refine c_seq ?_
  refine c_joinX hF hM hP (fun F x a w => match x with | (v149, v152) => ∃ (s150 : SV), LIn Bf s150 v149.b ∧ Fr 26 [(5, .int .i64 v152), (4, .int .i64 0)] a ∧ MemL w (pt b0 (RReader.enc (RReader.mk s150 v149.at_ v149.place v149.e)) 176 :: Lr)) (fun o_j1 hP hK_j1 hF hM => ?_) ?_
  · refine c_seq ?_
    refine c_region ?_
    refine s_val hF (r_move hF rfl rfl) rfl rfl rfl fun a hF => ?_
    refine s_val hF (r_move hF rfl rfl) rfl rfl rfl fun a hF => ?_
    obtain ⟨y154, hy154, hP⟩ := bind_some hP
    refine s_eff hF rfl rfl rfl (w_call (xs := [.tmp 8, .tmp 9]) Tryz.call111 hF rfl rfl (trace_reader_take_calls hy154 hM (Bf := Bf) (fun w hM => hsub _ (dropM hM 0)) f2) fun v w hR => ?_)
    obtain ⟨s155, s157, rfl, f156, f158, hM⟩ := hR
    replace hM : MemL _ (pt b0 (RReader.enc (RReader.mk s157 y154.2.at_ y154.2.place y154.2.e)) 176 :: Lr) := hM
    intro a hF
    refine s_val hF (r_lenL (f156 _ (hsub _ (dropM hM 1))) Tryz.underlying23 hF rfl rfl) rfl rfl rfl fun a hF => ?_
    refine s_val hF (r_move hF rfl rfl) rfl rfl rfl fun a hF => ?_
    refine c_nil (n_then ?_)
    refine c_block ?_
    refine c_loopX hF hM hP (fun F x a w => match x with | (v173, v174) => Fr 26 [(12, .int .i64 v173), (5, .int .i64 v174), (10, (s155).v), (11, .int .i64 (y154.1.length : Int)), (4, .int .i64 0)] a ∧ MemL w (pt b0 (RReader.enc (RReader.mk s157 y154.2.at_ y154.2.place y154.2.e)) 176 :: Lr)) (fun hF hM => ⟨hF.to ⟨rfl, rfl, rfl, rfl, rfl, trivial⟩, hM⟩) ?_
    rintro ⟨v173, v174⟩ a w o_l2 hP hK_l2 ⟨hF, hM⟩
    replace hP : Sh.trace_reader_number_l2 y154 v173 v174 = _ := hP
    unfold Sh.trace_reader_number_l2 at hP
    refine c_seq ?_
    refine c_region ?_
    refine s_val hF (r_lss hF rfl rfl rfl) rfl rfl rfl fun a hF => ?_
    refine c_nil (n_then ?_)
    refine c_seq ?_
    refine c_cond hF (c := .tmp 13) rfl (fun hb176 => ?_) (fun hb176 => ?_)
    · have hP := Fx.cT hb176 hP
      refine c_skip (n_then ?_)
      refine c_seq ?_
      refine c_block ?_
      refine c_seq ?_
      refine c_region ?_
      refine s_val hF (r_move hF rfl rfl) rfl rfl rfl fun a hF => ?_
      obtain ⟨x179, hx179, hP⟩ := bind_some hP
      have h0x179 := get_some hx179
      refine s_val hF (r_indexZ (sz := 1) (f156 _ (hsub _ (dropM hM 1))) Tryz.underlying23 in5 rfl hF rfl rfl rfl (get_bd hx179)) rfl rfl rfl fun a hF => ?_
      refine s_val hF (r_load1 Tryz.isAgg5 hF rfl rfl ((((f156 _ (hsub _ (dropM hM 1))).elemS h0x179.2)).get 0 rfl)) rfl rfl rfl fun a hF => ?_
      refine s_val hF (r_assign hF rfl rfl) rfl rfl rfl fun a hF => ?_
      refine s_val hF (r_assign hF rfl rfl) rfl rfl rfl fun a hF => ?_
      refine c_nil (n_then ?_)
      refine c_region ?_
      refine s_val hF (r_move hF rfl rfl) rfl rfl rfl fun a hF => ?_
      refine s_val hF (r_move hF rfl rfl) rfl rfl rfl fun a hF => ?_
      refine s_val hF (r_convU Tryz.underlying5 Tryz.underlying3 rfl hF rfl rfl) rfl rfl rfl fun a hF => ?_
      refine s_val hF (r_move hF rfl rfl) rfl rfl rfl fun a hF => ?_
      refine s_val hF (r_mul hF rfl rfl rfl) rfl rfl rfl fun a hF => ?_
      obtain ⟨hc180, hP⟩ := must_some hP
      refine s_val hF (r_shl hF rfl rfl rfl (of_decide_eq_true hc180)) rfl rfl rfl fun a hF => ?_
      refine s_val hF (r_or hF rfl rfl rfl) rfl rfl rfl fun a hF => ?_
      refine s_val hF (r_assign hF rfl rfl) rfl rfl rfl fun a hF => ?_
      refine c_nil (n_block (n_then ?_))
      refine c_region ?_
      refine s_val hF (r_add hF rfl rfl rfl) rfl rfl rfl fun a hF => ?_
      refine s_val hF (r_move hF rfl rfl) rfl rfl rfl fun a hF => ?_
      refine c_nil (n_then ?_)
      have hP := Option.some.inj hP
      subst hP
      exact ⟨((IntKind.i64.wrap (v173 + 1)), (bor .i64 v174 (shl .i64 (x179.toNat : Int) ((IntKind.i64.wrap (8 * v173))).toNat))), rfl, hF.to ⟨rfl, rfl, rfl, rfl, rfl, trivial⟩, hM⟩
    have hP := Fx.cF hb176 hP
    refine c_exit (x_then (x_then (x_hit ?_)))
    refine n_then ?_
    have hP := Option.some.inj hP
    subst hP
    have hP := hK_l2 _ rfl
    subst hP
    exact ⟨(y154.2, v174), rfl, s157, f158, hF.to ⟨rfl, rfl, trivial⟩, hM⟩
  rintro ⟨v149, v152⟩ a w hP ⟨s150, f151, hF, hM⟩
  replace hP : Sh.trace_reader_number_j1 v149 v152 = _ := hP
  unfold Sh.trace_reader_number_j1 at hP
  refine n_then ?_
  refine c_seq ?_
  refine c_region ?_
  refine s_val hF (r_move hF rfl rfl) rfl rfl rfl fun a hF => ?_
  refine s_val hF (r_assign hF rfl rfl) rfl rfl rfl fun a hF => ?_
  refine c_nil (n_then ?_)
  refine c_ret ?_
  have hP := Option.some.inj hP
  subst hP
  refine e_ret1 Tryz.results113 hF rfl ?_
  exact ⟨s150, rfl, f151, hM⟩
set_option maxHeartbeats 4000000 in
theorem trace_reader_most_calls {x0 : QReader} {x1 : Int} {s1 : SV} {b0 : Nat} {out : (Int × QReader)} {w0 : World} {Bf : World → Prop} {Lr : List Res} (hP : Sh.trace_reader_most x0 x1 = some out) (hM : MemL w0 (pt b0 (RReader.enc (RReader.mk s1 x0.at_ x0.place x0.e)) 176 :: Lr)) (hsub : ∀ w, MemL w Lr → Bf w) (f2 : LIn Bf s1 x0.b) : Calls Tryz.prog 115 #[.pointer (some ⟨b0, 0, none⟩), .int .i64 x1] w0 (Ret fun v w' => ∃ (s17 : SV), v = .int .i64 out.1 ∧ LIn Bf s17 out.2.b ∧ MemL w' (pt b0 (RReader.enc (RReader.mk s17 out.2.at_ out.2.place out.2.e)) 176 :: Lr)) := by
  unfold Sh.trace_reader_most at hP
  refine calls_enter (vs := [.pointer (some ⟨b0, 0, none⟩), .int .i64 x1]) Tryz.func115 rfl Tryz.ntmps115 rfl fun a hF => ?_
  refine c_seq ?_
  refine c_region ?_
  refine s_val hF (r_assign hF rfl rfl) rfl rfl rfl fun a hF => ?_
  refine c_nil (n_then ?_)
  refine c_seq ?_
  refine c_region ?_
  refine s_val hF (r_move hF rfl rfl) rfl rfl rfl fun a hF => ?_
  obtain ⟨y20, hy20, hP⟩ := bind_some hP
  refine s_eff hF rfl rfl rfl (w_call (xs := [.tmp 6, .const (.int .i64 (1))]) Tryz.call113 hF rfl rfl (trace_reader_number_calls hy20 hM (Bf := Bf) (fun w hM => hsub _ (dropM hM 0)) f2) fun v w hR => ?_)
  obtain ⟨s21, rfl, f22, hM⟩ := hR
  replace hM : MemL _ (pt b0 (RReader.enc (RReader.mk s21 y20.2.at_ y20.2.place y20.2.e)) 176 :: Lr) := hM
  intro a hF
  refine s_val hF (r_assign hF rfl rfl) rfl rfl rfl fun a hF => ?_
  refine c_nil (n_then ?_)
  refine c_seq ?_
  refine c_seq ?_
  refine c_region ?_
  refine s_val hF (r_move hF rfl rfl) rfl rfl rfl fun a hF => ?_
  refine s_val hF (r_move hF rfl rfl) rfl rfl rfl fun a hF => ?_
  refine s_val hF (r_gtr hF rfl rfl rfl) rfl rfl rfl fun a hF => ?_
  refine c_nil (n_then ?_)
  refine c_cond hF (c := .tmp 10) rfl (fun hb28 => ?_) (fun hb28 => ?_)
  · have hP := Fx.cT hb28 hP
    refine c_seq ?_
    refine c_region ?_
    refine s_val hF (r_move hF rfl rfl) rfl rfl rfl fun a hF => ?_
    refine s_val hF (r_move hF rfl rfl) rfl rfl rfl fun a hF => ?_
    refine s_val hF (r_nilCheckP hF rfl rfl) rfl rfl rfl fun a hF => ?_
    refine s_val hF (r_fieldAddr (off' := 1) Tryz.underlying176 rfl in3 rfl hF rfl rfl rfl) rfl rfl rfl fun a hF => ?_
    refine s_val hF (r_load1 Tryz.isAgg3 hF rfl rfl (hM.cell (i := 0) rfl (RReader.g_at_ _))) rfl rfl rfl fun a hF => ?_
    refine s_val hF (r_sub hF rfl rfl rfl) rfl rfl rfl fun a hF => ?_
    obtain ⟨y30, hy30, hP⟩ := bind_some hP
    refine s_eff hF rfl rfl rfl (w_call (xs := [.tmp 11, .tmp 16, .const (.int .i64 (236))]) Tryz.call112 hF rfl rfl (trace_reader_fault_calls hy30 hM (Bf := Bf) (fun w hM => hsub _ (dropM hM 0)) f22) fun v w hR => ?_)
    obtain ⟨s31, rfl, f32, hM⟩ := hR
    replace hM : MemL _ (pt b0 (RReader.enc (RReader.mk s31 y30.at_ y30.place y30.e)) 176 :: Lr) := hM
    intro a hF
    refine c_nil (n_then ?_)
    refine c_seq ?_
    refine c_region ?_
    refine s_val hF (r_assign hF rfl rfl) rfl rfl rfl fun a hF => ?_
    refine c_nil (n_then ?_)
    refine c_ret ?_
    have hP := Option.some.inj hP
    subst hP
    refine e_ret1 Tryz.results115 hF rfl ?_
    exact ⟨s31, rfl, f32, hM⟩
  have hP := Fx.cF hb28 hP
  refine c_skip (n_then ?_)
  refine c_seq ?_
  refine c_region ?_
  refine s_val hF (r_move hF rfl rfl) rfl rfl rfl fun a hF => ?_
  refine s_val hF (r_assign hF rfl rfl) rfl rfl rfl fun a hF => ?_
  refine c_nil (n_then ?_)
  refine c_ret ?_
  have hP := Option.some.inj hP
  subst hP
  refine e_ret1 Tryz.results115 hF rfl ?_
  exact ⟨s21, rfl, f22, hM⟩
set_option maxHeartbeats 4000000 in
theorem trace_reader_rest_calls {x0 : QReader} {x1 : Int} {s1 : SV} {b0 : Nat} {out : (LVal × QReader)} {w0 : World} {Bf : World → Prop} {Lr : List Res} (hP : Sh.trace_reader_rest x0 x1 = some out) (hM : MemL w0 (pt b0 (RReader.enc (RReader.mk s1 x0.at_ x0.place x0.e)) 176 :: Lr)) (hsub : ∀ w, MemL w Lr → Bf w) (f2 : LIn Bf s1 x0.b) : Calls Tryz.prog 228 #[.pointer (some ⟨b0, 0, none⟩), .int .i64 x1] w0 (Ret fun v w' => ∃ (s64 : SV), v = .agg (LVal.enc out.1).toArray ∧ LIn Bf s64 out.2.b ∧ MemL w' (pt b0 (RReader.enc (RReader.mk s64 out.2.at_ out.2.place out.2.e)) 176 :: Lr)) := by
  unfold Sh.trace_reader_rest at hP
  refine calls_enter (vs := [.pointer (some ⟨b0, 0, none⟩), .int .i64 x1]) Tryz.func228 rfl Tryz.ntmps228 rfl fun a hF => ?_
  refine c_seq ?_
  refine c_region ?_
  refine s_eff hF rfl rfl rfl (w_alloc z46 (zs := LVal.zero.enc) rfl rfl fun b_B228_4 w hzB228_4 hAB228_4 => ?_)
  have hM := hM.plus hAB228_4
  replace hM : MemL _ (pt b_B228_4 (LVal.enc LVal.zero) 46 :: pt b0 (RReader.enc (RReader.mk s1 x0.at_ x0.place x0.e)) 176 :: Lr) := hM
  intro a hF
  refine c_nil (n_then ?_)
  refine c_seq ?_
  refine c_region ?_
  refine s_val hF (r_move hF rfl rfl) rfl rfl rfl fun a hF => ?_
  refine s_val hF (r_build z46 Tryz.underlying46 pl46 hF (parts := [(0, .tmp 6)]) rfl rfl (fill_s rfl rfl (by rw [LVal.len]; decide) (LVal.s_kind _ _) fill_e)) rfl rfl rfl fun a hF => ?_
  refine s_eff hF rfl rfl rfl (w_alloc z46 (zs := LVal.zero.enc) rfl rfl fun b_B228_5 w hzB228_5 hAB228_5 => ?_)
  have hM := hM.plus hAB228_5
  replace hM : MemL _ (pt b_B228_5 (LVal.enc LVal.zero) 46 :: pt b_B228_4 (LVal.enc LVal.zero) 46 :: pt b0 (RReader.enc (RReader.mk s1 x0.at_ x0.place x0.e)) 176 :: Lr) := hM
  intro a hF
  refine s_eff0 rfl rfl (w_storen (vs := _) Tryz.sizeOf46 (hM.obj (i := 0) rfl) hF rfl rfl rfl rfl (LVal.len _) (LVal.one _) (by first | (rw [LVal.len, LVal.len]; decide) | (rw [LVal.len]; decide)) (put_all ((LVal.len _).trans (LVal.len _).symm)) fun w hU66 => ?_)
  have hM := hM.chg hU66 (i := 0) rfl
  replace hM : MemL _ (pt b_B228_5 (LVal.enc (LVal.mk x1 0 0 0)) 46 :: pt b_B228_4 (LVal.enc LVal.zero) 46 :: pt b0 (RReader.enc (RReader.mk s1 x0.at_ x0.place x0.e)) 176 :: Lr) := hM
  refine c_nil (n_then ?_)
  refine c_seq ?_
  refine c_joinX hF hM hP (fun F x a w => match x with | (v89, v90) => ∃ (s91 : SV), LIn Bf s91 v90.b ∧ Fr 22 [(0, .pointer (some ⟨b0, 0, none⟩)), (1, .int .i64 x1), (4, .pointer (some ⟨b_B228_4, 0, none⟩)), (5, .pointer (some ⟨b_B228_5, 0, none⟩))] a ∧ MemL w (pt b_B228_5 (LVal.enc v89) 46 :: pt b0 (RReader.enc (RReader.mk s91 v90.at_ v90.place v90.e)) 176 :: pt b_B228_4 (LVal.enc LVal.zero) 46 :: Lr)) (fun o_j1 hP hK_j1 hF hM => ?_) ?_
  · refine c_seq ?_
    refine c_region ?_
    refine s_val hF (r_move hF rfl rfl) rfl rfl rfl fun a hF => ?_
    refine s_val hF (r_eql hF rfl rfl rfl) rfl rfl rfl fun a hF => ?_
    refine c_nil (n_then ?_)
    refine c_cond hF (c := .tmp 9) rfl (fun hb93 => ?_) (fun hb93 => ?_)
    · have hP := Fx.cT hb93 hP
      refine c_seq ?_
      refine c_region ?_
      refine s_val hF (r_move hF rfl rfl) rfl rfl rfl fun a hF => ?_
      obtain ⟨y95, hy95, hP⟩ := bind_some hP
      refine s_eff hF rfl rfl rfl (w_call (xs := [.tmp 10, .const (.int .i64 (7))]) Tryz.call115 hF rfl rfl (trace_reader_most_calls hy95 (selM hM [2, 0, 1] 3 rfl) (Bf := Bf) (fun w hM => hsub _ (dropM hM 2)) f2) fun v w hR => ?_)
      obtain ⟨s96, rfl, f97, hM⟩ := hR
      replace hM : MemL _ (pt b0 (RReader.enc (RReader.mk s96 y95.2.at_ y95.2.place y95.2.e)) 176 :: pt b_B228_5 (LVal.enc (LVal.mk x1 0 0 0)) 46 :: pt b_B228_4 (LVal.enc LVal.zero) 46 :: Lr) := hM
      intro a hF
      refine s_val hF (r_fieldAddr (off' := 1) Tryz.underlying46 rfl in3 rfl hF rfl rfl rfl) rfl rfl rfl fun a hF => ?_
      refine s_eff0 rfl rfl (w_store1 Tryz.sizeOf3 (hM.obj (i := 1) rfl) hF rfl rfl rfl rfl (by rw [LVal.len]; decide) (LVal.s_table _ _) fun w hU98 => ?_)
      have hM := hM.chg hU98 (i := 1) rfl
      replace hM : MemL _ (pt b0 (RReader.enc (RReader.mk s96 y95.2.at_ y95.2.place y95.2.e)) 176 :: pt b_B228_5 (LVal.enc (LVal.mk x1 y95.1 0 0)) 46 :: pt b_B228_4 (LVal.enc LVal.zero) 46 :: Lr) := hM
      refine c_nil (n_then ?_)
      refine c_region ?_
      refine s_val hF (r_move hF rfl rfl) rfl rfl rfl fun a hF => ?_
      obtain ⟨y100, hy100, hP⟩ := bind_some hP
      refine s_eff hF rfl rfl rfl (w_call (xs := [.tmp 13, .const (.int .i64 (63))]) Tryz.call115 hF rfl rfl (trace_reader_most_calls hy100 hM (Bf := Bf) (fun w hM => hsub _ (dropM hM 2)) f97) fun v w hR => ?_)
      obtain ⟨s101, rfl, f102, hM⟩ := hR
      replace hM : MemL _ (pt b0 (RReader.enc (RReader.mk s101 y100.2.at_ y100.2.place y100.2.e)) 176 :: pt b_B228_5 (LVal.enc (LVal.mk x1 y95.1 0 0)) 46 :: pt b_B228_4 (LVal.enc LVal.zero) 46 :: Lr) := hM
      intro a hF
      refine s_val hF (r_fieldAddr (off' := 2) Tryz.underlying46 rfl in3 rfl hF rfl rfl rfl) rfl rfl rfl fun a hF => ?_
      refine s_eff0 rfl rfl (w_store1 Tryz.sizeOf3 (hM.obj (i := 1) rfl) hF rfl rfl rfl rfl (by rw [LVal.len]; decide) (LVal.s_row _ _) fun w hU103 => ?_)
      have hM := hM.chg hU103 (i := 1) rfl
      replace hM : MemL _ (pt b0 (RReader.enc (RReader.mk s101 y100.2.at_ y100.2.place y100.2.e)) 176 :: pt b_B228_5 (LVal.enc (LVal.mk x1 y95.1 y100.1 0)) 46 :: pt b_B228_4 (LVal.enc LVal.zero) 46 :: Lr) := hM
      refine c_nil (n_then ?_)
      have hP := Option.some.inj hP
      subst hP
      exact ⟨((LVal.mk x1 y95.1 y100.1 0), y100.2), rfl, s101, f102, hF.to ⟨rfl, rfl, rfl, rfl, trivial⟩, selM hM [1, 0, 2] 3 rfl⟩
    have hP := Fx.cF hb93 hP
    refine c_skip (n_then ?_)
    have hP := Option.some.inj hP
    subst hP
    exact ⟨((LVal.mk x1 0 0 0), x0), rfl, s1, f2, hF.to ⟨rfl, rfl, rfl, rfl, trivial⟩, selM hM [0, 2, 1] 3 rfl⟩
  rintro ⟨v89, v90⟩ a w hP ⟨s91, f92, hF, hM⟩
  replace hP : Sh.trace_reader_rest_j1 x1 v89 v90 = _ := hP
  unfold Sh.trace_reader_rest_j1 at hP
  refine n_then ?_
  refine c_seq ?_
  refine c_joinX hF hM hP (fun F x a w => match x with | (v116, v117) => ∃ (s118 : SV), LIn Bf s118 v117.b ∧ Fr 22 [(4, .pointer (some ⟨b_B228_4, 0, none⟩)), (5, .pointer (some ⟨b_B228_5, 0, none⟩))] a ∧ MemL w (pt b_B228_5 (LVal.enc v116) 46 :: pt b0 (RReader.enc (RReader.mk s118 v117.at_ v117.place v117.e)) 176 :: pt b_B228_4 (LVal.enc LVal.zero) 46 :: Lr)) (fun o_j2 hP hK_j2 hF hM => ?_) ?_
  · refine c_seq ?_
    refine c_region ?_
    refine s_val hF (r_move hF rfl rfl) rfl rfl rfl fun a hF => ?_
    refine s_val hF (r_neq hF rfl rfl rfl) rfl rfl rfl fun a hF => ?_
    refine c_nil (n_then ?_)
    refine c_cond hF (c := .tmp 17) rfl (fun hb120 => ?_) (fun hb120 => ?_)
    · have hP := Fx.cT hb120 hP
      refine c_region ?_
      refine s_val hF (r_move hF rfl rfl) rfl rfl rfl fun a hF => ?_
      obtain ⟨y122, hy122, hP⟩ := bind_some hP
      refine s_eff hF rfl rfl rfl (w_call (xs := [.tmp 18, .const (.int .i64 (8))]) Tryz.call113 hF rfl rfl (trace_reader_number_calls hy122 (selM hM [1, 0, 2] 3 rfl) (Bf := Bf) (fun w hM => hsub _ (dropM hM 2)) f92) fun v w hR => ?_)
      obtain ⟨s123, rfl, f124, hM⟩ := hR
      replace hM : MemL _ (pt b0 (RReader.enc (RReader.mk s123 y122.2.at_ y122.2.place y122.2.e)) 176 :: pt b_B228_5 (LVal.enc v89) 46 :: pt b_B228_4 (LVal.enc LVal.zero) 46 :: Lr) := hM
      intro a hF
      refine s_val hF (r_fieldAddr (off' := 3) Tryz.underlying46 rfl in3 rfl hF rfl rfl rfl) rfl rfl rfl fun a hF => ?_
      refine s_eff0 rfl rfl (w_store1 Tryz.sizeOf3 (hM.obj (i := 1) rfl) hF rfl rfl rfl rfl (by rw [LVal.len]; decide) (LVal.s_x _ _) fun w hU125 => ?_)
      have hM := hM.chg hU125 (i := 1) rfl
      replace hM : MemL _ (pt b0 (RReader.enc (RReader.mk s123 y122.2.at_ y122.2.place y122.2.e)) 176 :: pt b_B228_5 (LVal.enc (LVal.mk v89.kind v89.table v89.row y122.1)) 46 :: pt b_B228_4 (LVal.enc LVal.zero) 46 :: Lr) := hM
      refine c_nil (n_then ?_)
      have hP := Option.some.inj hP
      subst hP
      exact ⟨((LVal.mk v89.kind v89.table v89.row y122.1), y122.2), rfl, s123, f124, hF.to ⟨rfl, rfl, trivial⟩, selM hM [1, 0, 2] 3 rfl⟩
    have hP := Fx.cF hb120 hP
    refine c_skip (n_then ?_)
    have hP := Option.some.inj hP
    subst hP
    exact ⟨(v89, v90), rfl, s91, f92, hF.to ⟨rfl, rfl, trivial⟩, hM⟩
  rintro ⟨v116, v117⟩ a w hP ⟨s118, f119, hF, hM⟩
  replace hP : Sh.trace_reader_rest_j2 v116 v117 = _ := hP
  unfold Sh.trace_reader_rest_j2 at hP
  refine n_then ?_
  refine c_seq ?_
  refine c_region ?_
  refine s_val hF (r_loadn Tryz.isAgg46 Tryz.sizeOf46 hF rfl rfl (LVal.len _) (hM.cells (i := 0) rfl (cut_all (LVal.len _)))) rfl rfl rfl fun a hF => ?_
  refine s_eff0 rfl rfl (w_storen (vs := _) Tryz.sizeOf46 (hM.obj (i := 2) rfl) hF rfl rfl rfl rfl (LVal.len _) (LVal.one _) (by first | (rw [LVal.len, LVal.len]; decide) | (rw [LVal.len]; decide)) (put_all ((LVal.len _).trans (LVal.len _).symm)) fun w hU126 => ?_)
  have hM := hM.chg hU126 (i := 2) rfl
  replace hM : MemL _ (pt b_B228_5 (LVal.enc v116) 46 :: pt b0 (RReader.enc (RReader.mk s118 v117.at_ v117.place v117.e)) 176 :: pt b_B228_4 (LVal.enc v116) 46 :: Lr) := hM
  refine c_nil (n_then ?_)
  refine c_ret ?_
  have hP := Option.some.inj hP
  subst hP
  refine e_ret (rs := [.cell 4 46]) Tryz.results228 hF (res_celln hF rfl Tryz.isAgg46 Tryz.sizeOf46 (LVal.len _) (hM.cells (i := 2) rfl (cut_all (LVal.len _))) res_nil) rfl ?_
  exact ⟨s118, rfl, f119, selM hM [1] 3 rfl⟩
set_option maxHeartbeats 4000000 in
theorem trace_reader_value_calls {x0 : QReader} {s1 : SV} {b0 : Nat} {out : (LVal × QReader)} {w0 : World} {Bf : World → Prop} {Lr : List Res} (hP : Sh.trace_reader_value x0 = some out) (hM : MemL w0 (pt b0 (RReader.enc (RReader.mk s1 x0.at_ x0.place x0.e)) 176 :: Lr)) (hsub : ∀ w, MemL w Lr → Bf w) (f2 : LIn Bf s1 x0.b) : Calls Tryz.prog 185 #[.pointer (some ⟨b0, 0, none⟩)] w0 (Ret fun v w' => ∃ (s12 : SV), v = .agg (LVal.enc out.1).toArray ∧ LIn Bf s12 out.2.b ∧ MemL w' (pt b0 (RReader.enc (RReader.mk s12 out.2.at_ out.2.place out.2.e)) 176 :: Lr)) := by
  unfold Sh.trace_reader_value at hP
  refine calls_enter (vs := [.pointer (some ⟨b0, 0, none⟩)]) Tryz.func185 rfl Tryz.ntmps185 rfl fun a hF => ?_
  refine c_seq ?_
  refine c_region ?_
  refine s_eff hF rfl rfl rfl (w_alloc z46 (zs := LVal.zero.enc) rfl rfl fun b_B185_2 w hzB185_2 hAB185_2 => ?_)
  have hM := hM.plus hAB185_2
  replace hM : MemL _ (pt b_B185_2 (LVal.enc LVal.zero) 46 :: pt b0 (RReader.enc (RReader.mk s1 x0.at_ x0.place x0.e)) 176 :: Lr) := hM
  intro a hF
  refine c_nil (n_then ?_)
  refine c_seq ?_
  refine c_region ?_
  refine s_val hF (r_move hF rfl rfl) rfl rfl rfl fun a hF => ?_
  refine s_val hF (r_move hF rfl rfl) rfl rfl rfl fun a hF => ?_
  obtain ⟨y15, hy15, hP⟩ := bind_some hP
  refine s_eff hF rfl rfl rfl (w_call (xs := [.tmp 4, .const (.int .i64 (5))]) Tryz.call115 hF rfl rfl (trace_reader_most_calls hy15 (selM hM [1, 0] 2 rfl) (Bf := Bf) (fun w hM => hsub _ (dropM hM 1)) f2) fun v w hR => ?_)
  obtain ⟨s16, rfl, f17, hM⟩ := hR
  replace hM : MemL _ (pt b0 (RReader.enc (RReader.mk s16 y15.2.at_ y15.2.place y15.2.e)) 176 :: pt b_B185_2 (LVal.enc LVal.zero) 46 :: Lr) := hM
  intro a hF
  obtain ⟨y19, hy19, hP⟩ := bind_some hP
  refine s_eff hF rfl rfl rfl (w_call (xs := [.tmp 3, .tmp 5]) Tryz.call228 hF rfl rfl (trace_reader_rest_calls hy19 hM (Bf := Bf) (fun w hM => hsub _ (dropM hM 1)) f17) fun v w hR => ?_)
  obtain ⟨s20, rfl, f21, hM⟩ := hR
  replace hM : MemL _ (pt b0 (RReader.enc (RReader.mk s20 y19.2.at_ y19.2.place y19.2.e)) 176 :: pt b_B185_2 (LVal.enc LVal.zero) 46 :: Lr) := hM
  intro a hF
  refine s_eff0 rfl rfl (w_storen (vs := _) Tryz.sizeOf46 (hM.obj (i := 1) rfl) hF rfl rfl rfl rfl (LVal.len _) (LVal.one _) (by first | (rw [LVal.len, LVal.len]; decide) | (rw [LVal.len]; decide)) (put_all ((LVal.len _).trans (LVal.len _).symm)) fun w hU22 => ?_)
  have hM := hM.chg hU22 (i := 1) rfl
  replace hM : MemL _ (pt b0 (RReader.enc (RReader.mk s20 y19.2.at_ y19.2.place y19.2.e)) 176 :: pt b_B185_2 (LVal.enc y19.1) 46 :: Lr) := hM
  refine c_nil (n_then ?_)
  refine c_ret ?_
  have hP := Option.some.inj hP
  subst hP
  refine e_ret (rs := [.cell 2 46]) Tryz.results185 hF (res_celln hF rfl Tryz.isAgg46 Tryz.sizeOf46 (LVal.len _) (hM.cells (i := 1) rfl (cut_all (LVal.len _))) res_nil) rfl ?_
  exact ⟨s20, rfl, f21, selM hM [0] 2 rfl⟩
set_option maxHeartbeats 4000000 in
theorem trace_reader_slot_calls {x0 : QReader} {s1 : SV} {b0 : Nat} {out : (LSlot × QReader)} {w0 : World} {Bf : World → Prop} {Lr : List Res} (hP : Sh.trace_reader_slot x0 = some out) (hM : MemL w0 (pt b0 (RReader.enc (RReader.mk s1 x0.at_ x0.place x0.e)) 176 :: Lr)) (hsub : ∀ w, MemL w Lr → Bf w) (f2 : LIn Bf s1 x0.b) : Calls Tryz.prog 187 #[.pointer (some ⟨b0, 0, none⟩)] w0 (Ret fun v w' => ∃ (s332 : SV), v = .agg (LSlot.enc out.1).toArray ∧ LIn Bf s332 out.2.b ∧ MemL w' (pt b0 (RReader.enc (RReader.mk s332 out.2.at_ out.2.place out.2.e)) 176 :: Lr)) := by
  unfold Sh.trace_reader_slot at hP
  refine calls_enter (vs := [.pointer (some ⟨b0, 0, none⟩)]) Tryz.func187 rfl Tryz.ntmps187 rfl fun a hF => ?_
  refine c_seq ?_
  refine c_region ?_
  refine s_eff hF rfl rfl rfl (w_alloc z50 (zs := LSlot.zero.enc) rfl rfl fun b_B187_2 w hzB187_2 hAB187_2 => ?_)
  have hM := hM.plus hAB187_2
  replace hM : MemL _ (pt b_B187_2 (LSlot.enc LSlot.zero) 50 :: pt b0 (RReader.enc (RReader.mk s1 x0.at_ x0.place x0.e)) 176 :: Lr) := hM
  intro a hF
  refine c_nil (n_then ?_)
  refine c_seq ?_
  refine c_region ?_
  refine s_val hF (r_move hF rfl rfl) rfl rfl rfl fun a hF => ?_
  obtain ⟨y335, hy335, hP⟩ := bind_some hP
  refine s_eff hF rfl rfl rfl (w_call (xs := [.tmp 6, .const (.int .i64 (5))]) Tryz.call115 hF rfl rfl (trace_reader_most_calls hy335 (selM hM [1, 0] 2 rfl) (Bf := Bf) (fun w hM => hsub _ (dropM hM 1)) f2) fun v w hR => ?_)
  obtain ⟨s336, rfl, f337, hM⟩ := hR
  replace hM : MemL _ (pt b0 (RReader.enc (RReader.mk s336 y335.2.at_ y335.2.place y335.2.e)) 176 :: pt b_B187_2 (LSlot.enc LSlot.zero) 50 :: Lr) := hM
  intro a hF
  refine s_val hF (r_assign hF rfl rfl) rfl rfl rfl fun a hF => ?_
  refine c_nil (n_then ?_)
  refine c_seq ?_
  refine c_seq ?_
  refine c_region ?_
  refine s_val hF (r_move hF rfl rfl) rfl rfl rfl fun a hF => ?_
  refine c_nil (n_then ?_)
  refine c_block ?_
  refine c_seq ?_
  refine c_region ?_
  refine s_val hF (r_eql hF rfl rfl rfl) rfl rfl rfl fun a hF => ?_
  refine s_val hF (r_assign hF rfl rfl) rfl rfl rfl fun a hF => ?_
  refine c_nil (n_then ?_)
  refine c_cond hF (c := .tmp 13) rfl (fun hb350 => ?_) (fun hb350 => ?_)
  · have hP := Fx.cT hb350 hP
    refine c_skip (n_block (n_then ?_))
    refine c_seq ?_
    refine c_region ?_
    refine s_val hF (r_move hF rfl rfl) rfl rfl rfl fun a hF => ?_
    obtain ⟨y352, hy352, hP⟩ := bind_some hP
    refine s_eff hF rfl rfl rfl (w_call (xs := [.tmp 25, .const (.int .i64 (1))]) Tryz.call113 hF rfl rfl (trace_reader_number_calls hy352 hM (Bf := Bf) (fun w hM => hsub _ (dropM hM 1)) f337) fun v w hR => ?_)
    obtain ⟨s353, rfl, f354, hM⟩ := hR
    replace hM : MemL _ (pt b0 (RReader.enc (RReader.mk s353 y352.2.at_ y352.2.place y352.2.e)) 176 :: pt b_B187_2 (LSlot.enc LSlot.zero) 50 :: Lr) := hM
    intro a hF
    refine s_val hF (r_build z50 Tryz.underlying50 pl50 hF (parts := [(2, .tmp 26)]) rfl rfl (fill_s rfl rfl (by rw [LSlot.len]; decide) (LSlot.s_mask _ _) fill_e)) rfl rfl rfl fun a hF => ?_
    refine s_eff hF rfl rfl rfl (w_alloc z50 (zs := LSlot.zero.enc) rfl rfl fun b_B187_4 w hzB187_4 hAB187_4 => ?_)
    have hM := hM.plus hAB187_4
    replace hM : MemL _ (pt b_B187_4 (LSlot.enc LSlot.zero) 50 :: pt b0 (RReader.enc (RReader.mk s353 y352.2.at_ y352.2.place y352.2.e)) 176 :: pt b_B187_2 (LSlot.enc LSlot.zero) 50 :: Lr) := hM
    intro a hF
    refine s_eff0 rfl rfl (w_storen (vs := _) Tryz.sizeOf50 (hM.obj (i := 0) rfl) hF rfl rfl rfl rfl (LSlot.len _) (LSlot.one _) (by first | (rw [LSlot.len, LSlot.len]; decide) | (rw [LSlot.len]; decide)) (put_all ((LSlot.len _).trans (LSlot.len _).symm)) fun w hU355 => ?_)
    have hM := hM.chg hU355 (i := 0) rfl
    replace hM : MemL _ (pt b_B187_4 (LSlot.enc (LSlot.mk LVal.zero (⟨List.replicate 8 0, rfl⟩ : Vec UInt8 8) y352.1)) 50 :: pt b0 (RReader.enc (RReader.mk s353 y352.2.at_ y352.2.place y352.2.e)) 176 :: pt b_B187_2 (LSlot.enc LSlot.zero) 50 :: Lr) := hM
    refine c_nil (n_then ?_)
    refine c_seq ?_
    refine c_joinX hF hM hP (fun F x a w => match x with | (v550, v551) => ∃ (s552 : SV), LIn Bf s552 v551.b ∧ Fr 45 [(2, .pointer (some ⟨b_B187_2, 0, none⟩)), (4, .pointer (some ⟨b_B187_4, 0, none⟩))] a ∧ MemL w (pt b_B187_4 (LSlot.enc v550) 50 :: pt b0 (RReader.enc (RReader.mk s552 v551.at_ v551.place v551.e)) 176 :: pt b_B187_2 (LSlot.enc LSlot.zero) 50 :: Lr)) (fun o_j1 hP hK_j1 hF hM => ?_) ?_
    · refine c_seq ?_
      refine c_region ?_
      refine s_val hF (r_move hF rfl rfl) rfl rfl rfl fun a hF => ?_
      refine c_nil (n_then ?_)
      refine c_block ?_
      refine c_loopX hF hM hP (fun F x a w => match x with | (v616, v617, v620) => ∃ (s618 : SV), LIn Bf s618 v617.b ∧ Fr 45 [(28, .int .i64 v620), (0, .pointer (some ⟨b0, 0, none⟩)), (2, .pointer (some ⟨b_B187_2, 0, none⟩)), (4, .pointer (some ⟨b_B187_4, 0, none⟩))] a ∧ MemL w (pt b_B187_4 (LSlot.enc v616) 50 :: pt b0 (RReader.enc (RReader.mk s618 v617.at_ v617.place v617.e)) 176 :: pt b_B187_2 (LSlot.enc LSlot.zero) 50 :: Lr)) (fun hF hM => ⟨s353, f354, hF.to ⟨rfl, rfl, rfl, rfl, trivial⟩, hM⟩) ?_
      rintro ⟨v616, v617, v620⟩ a w o_l2 hP hK_l2 ⟨s618, f619, hF, hM⟩
      replace hP : Sh.trace_reader_slot_l2 v616 v617 v620 = _ := hP
      unfold Sh.trace_reader_slot_l2 at hP
      refine c_seq ?_
      refine c_region ?_
      refine s_val hF (r_lss hF rfl rfl rfl) rfl rfl rfl fun a hF => ?_
      refine c_nil (n_then ?_)
      refine c_seq ?_
      refine c_cond hF (c := .tmp 29) rfl (fun hb622 => ?_) (fun hb622 => ?_)
      · have hP := Fx.cT hb622 hP
        refine c_skip (n_then ?_)
        refine c_seq ?_
        refine c_joinX hF hM hP (fun F x a w => match x with | (v639, v640) => ∃ (s641 : SV), LIn Bf s641 v640.b ∧ Fr 45 [(0, .pointer (some ⟨b0, 0, none⟩)), (2, .pointer (some ⟨b_B187_2, 0, none⟩)), (28, .int .i64 v620), (4, .pointer (some ⟨b_B187_4, 0, none⟩))] a ∧ MemL w (pt b_B187_4 (LSlot.enc v639) 50 :: pt b0 (RReader.enc (RReader.mk s641 v640.at_ v640.place v640.e)) 176 :: pt b_B187_2 (LSlot.enc LSlot.zero) 50 :: Lr)) (fun o_j3 hP hK_j3 hF hM => ?_) ?_
        · refine c_block ?_
          refine c_seq ?_
          refine c_region ?_
          refine s_val hF (r_move hF rfl rfl) rfl rfl rfl fun a hF => ?_
          refine s_val hF (r_assign hF rfl rfl) rfl rfl rfl fun a hF => ?_
          refine c_nil (n_then ?_)
          refine c_seq ?_
          refine c_region ?_
          refine s_val hF (r_fieldAddr (off' := 12) Tryz.underlying50 rfl in3 rfl hF rfl rfl rfl) rfl rfl rfl fun a hF => ?_
          refine s_val hF (r_load1 Tryz.isAgg3 hF rfl rfl (hM.cell (i := 0) rfl (LSlot.g_mask _))) rfl rfl rfl fun a hF => ?_
          refine s_val hF (r_move hF rfl rfl) rfl rfl rfl fun a hF => ?_
          obtain ⟨hc643, hP⟩ := must_some hP
          refine s_val hF (r_shr hF rfl rfl rfl (of_decide_eq_true hc643)) rfl rfl rfl fun a hF => ?_
          refine s_val hF (r_and hF rfl rfl rfl) rfl rfl rfl fun a hF => ?_
          refine s_val hF (r_eql hF rfl rfl rfl) rfl rfl rfl fun a hF => ?_
          refine c_nil (n_then ?_)
          refine c_cond hF (c := .tmp 36) rfl (fun hb644 => ?_) (fun hb644 => ?_)
          · have hP := Fx.cT hb644 hP
            refine c_region ?_
            refine s_val hF (r_move hF rfl rfl) rfl rfl rfl fun a hF => ?_
            refine s_val hF (r_move hF rfl rfl) rfl rfl rfl fun a hF => ?_
            obtain ⟨y646, hy646, hP⟩ := bind_some hP
            refine s_eff hF rfl rfl rfl (w_call (xs := [.tmp 38, .const (.int .i64 (1))]) Tryz.call113 hF rfl rfl (trace_reader_number_calls hy646 (selM hM [1, 0, 2] 3 rfl) (Bf := Bf) (fun w hM => hsub _ (dropM hM 2)) f619) fun v w hR => ?_)
            obtain ⟨s647, rfl, f648, hM⟩ := hR
            replace hM : MemL _ (pt b0 (RReader.enc (RReader.mk s647 y646.2.at_ y646.2.place y646.2.e)) 176 :: pt b_B187_4 (LSlot.enc v616) 50 :: pt b_B187_2 (LSlot.enc LSlot.zero) 50 :: Lr) := hM
            intro a hF
            refine s_val hF (r_convB Tryz.underlying3 Tryz.underlying5 hF rfl rfl) rfl rfl rfl fun a hF => ?_
            refine s_val hF (r_fieldAddr (off' := 4) Tryz.underlying50 rfl in48 rfl hF rfl rfl rfl) rfl rfl rfl fun a hF => ?_
            obtain ⟨x649, hx649, hP⟩ := bind_some hP
            have h0x649 := get_some hx649
            refine s_val hF (r_indexAddrA (sz := 1) Tryz.underlying48 in5 rfl hF rfl rfl rfl (get_bdv hx649)) rfl rfl rfl fun a hF => ?_
            refine s_eff0 rfl rfl (w_store1 Tryz.sizeOf5 (hM.obj (i := 1) rfl) hF rfl rfl rfl rfl (by have := (get_bdv hx649); rw [LSlot.len]; omega) (set_put (LSlot.pi_bytes _ _ _ (by have := (get_bdv hx649); omega)) (by have := (get_bdv hx649); rw [LSlot.len]; omega)) fun w hU650 => ?_)
            have hM := hM.chg hU650 (i := 1) rfl
            replace hM : MemL _ (pt b0 (RReader.enc (RReader.mk s647 y646.2.at_ y646.2.place y646.2.e)) 176 :: pt b_B187_4 (LSlot.enc (LSlot.mk v616.ptr (v616.bytes.set (v620 : Int).toNat (Fw.byteOf y646.1)) v616.mask)) 50 :: pt b_B187_2 (LSlot.enc LSlot.zero) 50 :: Lr) := hM
            refine c_nil (n_block (n_then ?_))
            have hP := Option.some.inj hP
            subst hP
            exact ⟨((LSlot.mk v616.ptr (v616.bytes.set (v620 : Int).toNat (Fw.byteOf y646.1)) v616.mask), y646.2), rfl, s647, f648, hF.to ⟨rfl, rfl, rfl, rfl, trivial⟩, selM hM [1, 0, 2] 3 rfl⟩
          have hP := Fx.cF hb644 hP
          refine c_skip (n_block (n_then ?_))
          have hP := Option.some.inj hP
          subst hP
          exact ⟨(v616, v617), rfl, s618, f619, hF.to ⟨rfl, rfl, rfl, rfl, trivial⟩, hM⟩
        rintro ⟨v639, v640⟩ a w hP ⟨s641, f642, hF, hM⟩
        replace hP : Sh.trace_reader_slot_j3 v620 v639 v640 = _ := hP
        unfold Sh.trace_reader_slot_j3 at hP
        refine n_then ?_
        refine c_region ?_
        refine s_val hF (r_add hF rfl rfl rfl) rfl rfl rfl fun a hF => ?_
        refine s_val hF (r_move hF rfl rfl) rfl rfl rfl fun a hF => ?_
        refine c_nil (n_then ?_)
        have hP := Option.some.inj hP
        subst hP
        exact ⟨(v639, v640, (IntKind.i64.wrap (v620 + 1))), rfl, s641, f642, hF.to ⟨rfl, rfl, rfl, rfl, trivial⟩, hM⟩
      have hP := Fx.cF hb622 hP
      refine c_exit (x_then (x_then (x_hit ?_)))
      refine n_then ?_
      have hP := Option.some.inj hP
      subst hP
      have hP := hK_l2 _ rfl
      subst hP
      exact ⟨(v616, v617), rfl, s618, f619, hF.to ⟨rfl, rfl, trivial⟩, hM⟩
    rintro ⟨v550, v551⟩ a w hP ⟨s552, f553, hF, hM⟩
    replace hP : Sh.trace_reader_slot_j1 v550 v551 = _ := hP
    unfold Sh.trace_reader_slot_j1 at hP
    refine n_then ?_
    refine c_seq ?_
    refine c_region ?_
    refine s_val hF (r_loadn Tryz.isAgg50 Tryz.sizeOf50 hF rfl rfl (LSlot.len _) (hM.cells (i := 0) rfl (cut_all (LSlot.len _)))) rfl rfl rfl fun a hF => ?_
    refine s_eff0 rfl rfl (w_storen (vs := _) Tryz.sizeOf50 (hM.obj (i := 2) rfl) hF rfl rfl rfl rfl (LSlot.len _) (LSlot.one _) (by first | (rw [LSlot.len, LSlot.len]; decide) | (rw [LSlot.len]; decide)) (put_all ((LSlot.len _).trans (LSlot.len _).symm)) fun w hU651 => ?_)
    have hM := hM.chg hU651 (i := 2) rfl
    replace hM : MemL _ (pt b_B187_4 (LSlot.enc v550) 50 :: pt b0 (RReader.enc (RReader.mk s552 v551.at_ v551.place v551.e)) 176 :: pt b_B187_2 (LSlot.enc v550) 50 :: Lr) := hM
    refine c_nil (n_then ?_)
    refine c_ret ?_
    have hP := Option.some.inj hP
    subst hP
    refine e_ret (rs := [.cell 2 50]) Tryz.results187 hF (res_celln hF rfl Tryz.isAgg50 Tryz.sizeOf50 (LSlot.len _) (hM.cells (i := 2) rfl (cut_all (LSlot.len _))) res_nil) rfl ?_
    exact ⟨s552, rfl, f553, selM hM [1] 3 rfl⟩
  have hP := Fx.cF hb350 hP
  refine c_seq ?_
  refine c_region ?_
  refine s_val hF (r_eql hF rfl rfl rfl) rfl rfl rfl fun a hF => ?_
  refine s_val hF (r_assign hF rfl rfl) rfl rfl rfl fun a hF => ?_
  refine c_nil (n_then ?_)
  refine c_cond hF (c := .tmp 15) rfl (fun hb652 => ?_) (fun hb652 => ?_)
  · have hP := Fx.cT hb652 hP
    refine c_seq ?_
    refine c_region ?_
    refine s_val hF (r_move hF rfl rfl) rfl rfl rfl fun a hF => ?_
    refine s_val hF (r_move hF rfl rfl) rfl rfl rfl fun a hF => ?_
    refine s_val hF (r_nilCheckP hF rfl rfl) rfl rfl rfl fun a hF => ?_
    refine s_val hF (r_fieldAddr (off' := 1) Tryz.underlying176 rfl in3 rfl hF rfl rfl rfl) rfl rfl rfl fun a hF => ?_
    refine s_val hF (r_load1 Tryz.isAgg3 hF rfl rfl (hM.cell (i := 0) rfl (RReader.g_at_ _))) rfl rfl rfl fun a hF => ?_
    refine s_val hF (r_sub hF rfl rfl rfl) rfl rfl rfl fun a hF => ?_
    obtain ⟨y654, hy654, hP⟩ := bind_some hP
    refine s_eff hF rfl rfl rfl (w_call (xs := [.tmp 17, .tmp 22, .const (.int .i64 (236))]) Tryz.call112 hF rfl rfl (trace_reader_fault_calls hy654 hM (Bf := Bf) (fun w hM => hsub _ (dropM hM 1)) f337) fun v w hR => ?_)
    obtain ⟨s655, rfl, f656, hM⟩ := hR
    replace hM : MemL _ (pt b0 (RReader.enc (RReader.mk s655 y654.at_ y654.place y654.e)) 176 :: pt b_B187_2 (LSlot.enc LSlot.zero) 50 :: Lr) := hM
    intro a hF
    refine c_nil (n_then ?_)
    refine c_seq ?_
    refine c_region ?_
    refine s_val hF (r_build z50 Tryz.underlying50 pl50 hF (parts := []) rfl rfl fill_e) rfl rfl rfl fun a hF => ?_
    refine s_eff0 rfl rfl (w_storen (vs := _) Tryz.sizeOf50 (hM.obj (i := 1) rfl) hF rfl rfl rfl rfl (LSlot.len _) (LSlot.one _) (by first | (rw [LSlot.len, LSlot.len]; decide) | (rw [LSlot.len]; decide)) (put_all ((LSlot.len _).trans (LSlot.len _).symm)) fun w hU657 => ?_)
    have hM := hM.chg hU657 (i := 1) rfl
    replace hM : MemL _ (pt b0 (RReader.enc (RReader.mk s655 y654.at_ y654.place y654.e)) 176 :: pt b_B187_2 (LSlot.enc LSlot.zero) 50 :: Lr) := hM
    refine c_nil (n_then ?_)
    refine c_ret ?_
    have hP := Option.some.inj hP
    subst hP
    refine e_ret (rs := [.cell 2 50]) Tryz.results187 hF (res_celln hF rfl Tryz.isAgg50 Tryz.sizeOf50 (LSlot.len _) (hM.cells (i := 1) rfl (cut_all (LSlot.len _))) res_nil) rfl ?_
    exact ⟨s655, rfl, f656, selM hM [0] 2 rfl⟩
  have hP := Fx.cF hb652 hP
  refine c_seq ?_
  refine c_region ?_
  refine s_val hF (r_move hF rfl rfl) rfl rfl rfl fun a hF => ?_
  refine s_val hF (r_move hF rfl rfl) rfl rfl rfl fun a hF => ?_
  obtain ⟨y659, hy659, hP⟩ := bind_some hP
  refine s_eff hF rfl rfl rfl (w_call (xs := [.tmp 9, .tmp 10]) Tryz.call228 hF rfl rfl (trace_reader_rest_calls hy659 hM (Bf := Bf) (fun w hM => hsub _ (dropM hM 1)) f337) fun v w hR => ?_)
  obtain ⟨s660, rfl, f661, hM⟩ := hR
  replace hM : MemL _ (pt b0 (RReader.enc (RReader.mk s660 y659.2.at_ y659.2.place y659.2.e)) 176 :: pt b_B187_2 (LSlot.enc LSlot.zero) 50 :: Lr) := hM
  intro a hF
  refine s_val hF (r_build z50 Tryz.underlying50 pl50 hF (parts := [(0, .tmp 11)]) rfl rfl (fill_p rfl (LVal.len _) (by rw [LVal.len, LSlot.len]; decide) (LSlot.p_ptr _ _) fill_e)) rfl rfl rfl fun a hF => ?_
  refine s_eff0 rfl rfl (w_storen (vs := _) Tryz.sizeOf50 (hM.obj (i := 1) rfl) hF rfl rfl rfl rfl (LSlot.len _) (LSlot.one _) (by first | (rw [LSlot.len, LSlot.len]; decide) | (rw [LSlot.len]; decide)) (put_all ((LSlot.len _).trans (LSlot.len _).symm)) fun w hU662 => ?_)
  have hM := hM.chg hU662 (i := 1) rfl
  replace hM : MemL _ (pt b0 (RReader.enc (RReader.mk s660 y659.2.at_ y659.2.place y659.2.e)) 176 :: pt b_B187_2 (LSlot.enc (LSlot.mk y659.1 (⟨List.replicate 8 0, rfl⟩ : Vec UInt8 8) 0)) 50 :: Lr) := hM
  refine c_nil (n_then ?_)
  refine c_ret ?_
  have hP := Option.some.inj hP
  subst hP
  refine e_ret (rs := [.cell 2 50]) Tryz.results187 hF (res_celln hF rfl Tryz.isAgg50 Tryz.sizeOf50 (LSlot.len _) (hM.cells (i := 1) rfl (cut_all (LSlot.len _))) res_nil) rfl ?_
  exact ⟨s660, rfl, f661, selM hM [0] 2 rfl⟩
end Go.Proofs
end
section
namespace Go.Proofs
open Go.Fw Go.Fx
set_option maxRecDepth 10000
set_option linter.unusedVariables false
set_option linter.unusedSimpArgs false
set_option maxHeartbeats 4000000 in
theorem trace_within_calls {x0 : Int} {x1 : Int} {x2 : Int} {out : Bool} {w0 : World} {Lr : List Res} (hP : Sh.trace_within x0 x1 x2 = some out) (hM : MemL w0 (Lr)) : Calls Tryz.prog 124 #[.int .i64 x0, .int .i64 x1, .int .i64 x2] w0 (Ret fun v w' => v = .bool out ∧ MemL w' (Lr)) := by
  unfold Sh.trace_within at hP
  refine calls_enter (vs := [.int .i64 x0, .int .i64 x1, .int .i64 x2]) Tryz.func124 rfl Tryz.ntmps124 rfl fun a hF => ?_
  refine c_seq ?_
  refine c_region ?_
  refine s_val hF (r_assign hF rfl rfl) rfl rfl rfl fun a hF => ?_
  refine c_nil (n_then ?_)
  refine c_seq ?_
  refine c_joinX hF hM hP (fun F x a w => match x with | v7 => Fr 15 [(6, .bool v7)] a ∧ MemL w (Lr)) (fun o_j1 hP hK_j1 hF hM => ?_) ?_
  · refine c_region ?_
    refine s_val hF (r_move hF rfl rfl) rfl rfl rfl fun a hF => ?_
    refine s_val hF (r_move hF rfl rfl) rfl rfl rfl fun a hF => ?_
    refine s_val hF (r_geq hF rfl rfl rfl) rfl rfl rfl fun a hF => ?_
    refine s_val hF (r_move hF rfl rfl) rfl rfl rfl fun a hF => ?_
    refine g_split 10 hF rfl (fun hb8 => ?_) (fun hb8 => ?_)
    · have hP := Fx.cT hb8 hP
      refine g_val hF rfl rfl rfl hb8 (r_move hF rfl rfl) rfl rfl fun a hF => ?_
      refine g_val hF rfl rfl rfl hb8 (r_move hF rfl rfl) rfl rfl fun a hF => ?_
      refine g_val hF rfl rfl rfl hb8 (r_leq hF rfl rfl rfl) rfl rfl fun a hF => ?_
      refine s_val hF (r_pick1 hF rfl rfl hb8 rfl) rfl rfl rfl fun a hF => ?_
      refine s_val hF (r_assign hF rfl rfl) rfl rfl rfl fun a hF => ?_
      refine c_nil (n_then ?_)
      have hP := Option.some.inj hP
      subst hP
      exact ⟨(decide (x0 ≤ x2)), rfl, hF.to ⟨rfl, trivial⟩, hM⟩
    have hP := Fx.cF hb8 hP
    refine g_skip hF rfl rfl rfl hb8 rfl rfl fun a hF => ?_
    refine g_skip hF rfl rfl rfl hb8 rfl rfl fun a hF => ?_
    refine g_skip hF rfl rfl rfl hb8 rfl rfl fun a hF => ?_
    refine s_val hF (r_pick0 hF rfl rfl hb8 rfl) rfl rfl rfl fun a hF => ?_
    refine s_val hF (r_assign hF rfl rfl) rfl rfl rfl fun a hF => ?_
    refine c_nil (n_then ?_)
    have hP := Option.some.inj hP
    subst hP
    exact ⟨false, rfl, hF.to ⟨rfl, trivial⟩, hM⟩
  rintro v7 a w hP ⟨hF, hM⟩
  replace hP : Sh.trace_within_j1 v7 = _ := hP
  unfold Sh.trace_within_j1 at hP
  refine n_then ?_
  refine c_ret ?_
  have hP := Option.some.inj hP
  subst hP
  refine e_ret1 Tryz.results124 hF rfl ?_
  exact ⟨rfl, hM⟩
set_option maxHeartbeats 4000000 in
theorem trace_goodEnd_calls {x0 : Int} {out : Bool} {w0 : World} {Lr : List Res} (hP : Sh.trace_goodEnd x0 = some out) (hM : MemL w0 (Lr)) : Calls Tryz.prog 100 #[.int .i64 x0] w0 (Ret fun v w' => v = .bool out ∧ MemL w' (Lr)) := by
  unfold Sh.trace_goodEnd at hP
  refine calls_enter (vs := [.int .i64 x0]) Tryz.func100 rfl Tryz.ntmps100 rfl fun a hF => ?_
  refine c_seq ?_
  refine c_region ?_
  refine s_val hF (r_assign hF rfl rfl) rfl rfl rfl fun a hF => ?_
  refine c_nil (n_then ?_)
  refine c_seq ?_
  refine c_joinX hF hM hP (fun F x a w => match x with | v12 => Fr 13 [(2, .bool v12)] a ∧ MemL w (Lr)) (fun o_j1 hP hK_j1 hF hM => ?_) ?_
  · refine c_region ?_
    refine s_val hF (r_move hF rfl rfl) rfl rfl rfl fun a hF => ?_
    refine s_val hF (r_eql hF rfl rfl rfl) rfl rfl rfl fun a hF => ?_
    refine s_val hF (r_move hF rfl rfl) rfl rfl rfl fun a hF => ?_
    refine g_split 5 hF rfl (fun hb13 => ?_) (fun hb13 => ?_)
    · have hP := Fx.cT hb13 hP
      refine g_skip hF rfl rfl rfl hb13 rfl rfl fun a hF => ?_
      refine g_skip hF rfl rfl rfl hb13 rfl rfl fun a hF => ?_
      refine g_skip hF rfl rfl rfl hb13 rfl rfl fun a hF => ?_
      refine g_skipU hF rfl rfl rfl rfl rfl fun a hF => ?_
      refine g_skipU hF rfl rfl rfl rfl rfl fun a hF => ?_
      refine g_skip hF rfl rfl rfl hb13 rfl rfl fun a hF => ?_
      refine s_val hF (r_pick1 hF rfl rfl hb13 rfl) rfl rfl rfl fun a hF => ?_
      refine s_val hF (r_assign hF rfl rfl) rfl rfl rfl fun a hF => ?_
      refine c_nil (n_then ?_)
      have hP := Option.some.inj hP
      subst hP
      exact ⟨true, rfl, hF.to ⟨rfl, trivial⟩, hM⟩
    have hP := Fx.cF hb13 hP
    refine g_val hF rfl rfl rfl hb13 (r_move hF rfl rfl) rfl rfl fun a hF => ?_
    refine g_val hF rfl rfl rfl hb13 (r_geq hF rfl rfl rfl) rfl rfl fun a hF => ?_
    refine g_val hF rfl rfl rfl hb13 (r_move hF rfl rfl) rfl rfl fun a hF => ?_
    refine g_split 8 hF rfl (fun hb14 => ?_) (fun hb14 => ?_)
    · have hP := Fx.cT hb14 hP
      refine g_val hF rfl rfl rfl hb14 (r_move hF rfl rfl) rfl rfl fun a hF => ?_
      refine g_val hF rfl rfl rfl hb14 (r_leq hF rfl rfl rfl) rfl rfl fun a hF => ?_
      refine g_val hF rfl rfl rfl hb13 (r_pick1 hF rfl rfl hb14 rfl) rfl rfl fun a hF => ?_
      refine s_val hF (r_pick0 hF rfl rfl hb13 rfl) rfl rfl rfl fun a hF => ?_
      refine s_val hF (r_assign hF rfl rfl) rfl rfl rfl fun a hF => ?_
      refine c_nil (n_then ?_)
      have hP := Option.some.inj hP
      subst hP
      exact ⟨(decide (x0 ≤ 89)), rfl, hF.to ⟨rfl, trivial⟩, hM⟩
    have hP := Fx.cF hb14 hP
    refine g_skip hF rfl rfl rfl hb14 rfl rfl fun a hF => ?_
    refine g_skip hF rfl rfl rfl hb14 rfl rfl fun a hF => ?_
    refine g_val hF rfl rfl rfl hb13 (r_pick0 hF rfl rfl hb14 rfl) rfl rfl fun a hF => ?_
    refine s_val hF (r_pick0 hF rfl rfl hb13 rfl) rfl rfl rfl fun a hF => ?_
    refine s_val hF (r_assign hF rfl rfl) rfl rfl rfl fun a hF => ?_
    refine c_nil (n_then ?_)
    have hP := Option.some.inj hP
    subst hP
    exact ⟨false, rfl, hF.to ⟨rfl, trivial⟩, hM⟩
  rintro v12 a w hP ⟨hF, hM⟩
  replace hP : Sh.trace_goodEnd_j1 v12 = _ := hP
  unfold Sh.trace_goodEnd_j1 at hP
  refine n_then ?_
  refine c_ret ?_
  have hP := Option.some.inj hP
  subst hP
  refine e_ret1 Tryz.results100 hF rfl ?_
  exact ⟨rfl, hM⟩
set_option maxHeartbeats 4000000 in
theorem trace_changed_byte_calls {x0 : List UInt8} {x1 : List UInt8} {s1 : SV} {s3 : SV} {out : List Int} {w0 : World} {Bf : World → Prop} {Lr : List Res} (hP : Sh.trace_changed_byte x0 x1 = some out) (hM : MemL w0 (Lr)) (hsub : ∀ w, MemL w Lr → Bf w) (f2 : LIn Bf s1 x0) (f4 : LIn Bf s3 x1) : Calls Tryz.prog 158 #[(s1).v, (s3).v] w0 (Ret fun v w' => ∃ (s281 : SV), v = (s281).v ∧ MemL w' (rowL 0 s281 3 out :: Lr)) := by
  unfold Sh.trace_changed_byte at hP
  refine calls_enter (vs := [(s1).v, (s3).v]) Tryz.func158 rfl Tryz.ntmps158 rfl fun a hF => ?_
  refine c_seq ?_
  refine c_region ?_
  refine s_val hF (r_assign hF rfl rfl) rfl rfl rfl fun a hF => ?_
  refine c_nil (n_then ?_)
  refine c_seq ?_
  refine c_region ?_
  refine s_val hF (r_assign hF rfl rfl) rfl rfl rfl fun a hF => ?_
  refine c_nil (n_then ?_)
  refine c_seq ?_
  refine c_joinX hF hM hP (fun F x a w => match x with | v465 => ∃ (s466 : SV), Fr 27 [(5, (s466).v), (4, (SV.nil).v)] a ∧ MemL w (rowL 0 s466 3 v465 :: Lr)) (fun o_j1 hP hK_j1 hF hM => ?_) ?_
  · refine c_seq ?_
    refine c_region ?_
    refine s_val hF (r_move hF rfl rfl) rfl rfl rfl fun a hF => ?_
    refine s_val hF (r_lenL (f2 _ (hsub _ (dropM hM 0))) Tryz.underlying23 hF rfl rfl) rfl rfl rfl fun a hF => ?_
    refine s_val hF (r_move hF rfl rfl) rfl rfl rfl fun a hF => ?_
    refine c_nil (n_then ?_)
    refine c_block ?_
    have hM := hM.rowNil (X := Int) 0 3
    refine c_loopX hF hM hP (fun F x a w => match x with | (v528, v531) => ∃ (s529 : SV), Fr 27 [(5, (s529).v), (9, .int .i64 v531), (0, (s1).v), (1, (s3).v), (4, (SV.nil).v), (8, .int .i64 (x0.length : Int))] a ∧ MemL w (rowL 0 s529 3 v528 :: Lr)) (fun hF hM => ⟨SV.nil, hF.to ⟨rfl, rfl, rfl, rfl, rfl, rfl, trivial⟩, hM⟩) ?_
    rintro ⟨v528, v531⟩ a w o_l2 hP hK_l2 ⟨s529, hF, hM⟩
    replace hP : Sh.trace_changed_byte_l2 x0 x1 v528 v531 = _ := hP
    unfold Sh.trace_changed_byte_l2 at hP
    refine c_seq ?_
    refine c_region ?_
    refine s_val hF (r_lss hF rfl rfl rfl) rfl rfl rfl fun a hF => ?_
    refine c_nil (n_then ?_)
    refine c_seq ?_
    refine c_cond hF (c := .tmp 10) rfl (fun hb534 => ?_) (fun hb534 => ?_)
    · have hP := Fx.cT hb534 hP
      refine c_skip (n_then ?_)
      refine c_seq ?_
      refine c_joinX hF hM hP (fun F x a w => match x with | v549 => ∃ (s550 : SV), Fr 27 [(5, (s550).v), (0, (s1).v), (1, (s3).v), (4, (SV.nil).v), (8, .int .i64 (x0.length : Int)), (9, .int .i64 v531)] a ∧ MemL w (rowL 0 s550 3 v549 :: Lr)) (fun o_j3 hP hK_j3 hF hM => ?_) ?_
      · refine c_block ?_
        refine c_seq ?_
        refine c_region ?_
        refine s_val hF (r_move hF rfl rfl) rfl rfl rfl fun a hF => ?_
        refine s_val hF (r_assign hF rfl rfl) rfl rfl rfl fun a hF => ?_
        refine c_nil (n_then ?_)
        refine c_seq ?_
        refine d_startT mixed (by kernel_rfl) hM [0] 1 rfl fun hch => ?_
        refine d_val hF hch 0 rfl (by kernel_rfl) rfl rfl rfl (fun w hM => (r_move hF rfl rfl)) fun a hF => ?_
        refine d_val hF hch 1 rfl (by kernel_rfl) rfl rfl rfl (fun w hM => (r_move hF rfl rfl)) fun a hF => ?_
        obtain ⟨x554, hx554, hP⟩ := bind_some hP
        have h0x554 := get_some hx554
        refine d_val hF hch 2 rfl (by kernel_rfl) rfl rfl rfl (fun w hM => (r_indexZ (sz := 1) (f2 _ (hsub _ (dropM hM 1))) Tryz.underlying23 in5 rfl hF rfl rfl rfl (get_bd hx554))) fun a hF => ?_
        refine d_val hF hch 3 rfl (by kernel_rfl) rfl rfl rfl (fun w hM => (r_load1 Tryz.isAgg5 hF rfl rfl ((((f2 _ (hsub _ (dropM hM 1))).elemS h0x554.2)).get 0 rfl))) fun a hF => ?_
        refine d_val hF hch 4 rfl (by kernel_rfl) rfl rfl rfl (fun w hM => (r_move hF rfl rfl)) fun a hF => ?_
        refine d_val hF hch 5 rfl (by kernel_rfl) rfl rfl rfl (fun w hM => (r_move hF rfl rfl)) fun a hF => ?_
        obtain ⟨x555, hx555, hP⟩ := bind_some hP
        have h0x555 := get_some hx555
        refine d_val hF hch 6 rfl (by kernel_rfl) rfl rfl rfl (fun w hM => (r_indexZ (sz := 1) (f4 _ (hsub _ (dropM hM 1))) Tryz.underlying23 in5 rfl hF rfl rfl rfl (get_bd hx555))) fun a hF => ?_
        refine d_val hF hch 7 rfl (by kernel_rfl) rfl rfl rfl (fun w hM => (r_load1 Tryz.isAgg5 hF rfl rfl ((((f4 _ (hsub _ (dropM hM 1))).elemS h0x555.2)).get 0 rfl))) fun a hF => ?_
        refine d_val hF hch 8 rfl (by kernel_rfl) rfl rfl rfl (fun w hM => (r_neq hF rfl rfl rfl)) fun a hF => ?_
        refine d_end hch (by kernel_rfl) fun w hM => ?_
        refine n_then ?_
        refine c_cond hF (c := .tmp 20) rfl (fun hb556 => ?_) (fun hb556 => ?_)
        · have hP := Fx.cT hb556 hP
          refine c_region ?_
          refine s_val hF (r_move hF rfl rfl) rfl rfl rfl fun a hF => ?_
          refine s_val hF (r_move hF rfl rfl) rfl rfl rfl fun a hF => ?_
          refine s_eff hF rfl rfl rfl (w_slice1 (X := Int) (y := v531) Tryz.underlying52 in3 rfl rfl rfl rfl hF rfl rfl rfl fun b_B158_23 w hzB158_23 hAB158_23 => ?_)
          have hM := hM.plus hAB158_23
          replace hM : MemL _ (pt b_B158_23 (encs ([v531] : List Int)) 3 :: rowL 0 s529 3 v528 :: Lr) := hM
          intro a hF
          obtain ⟨x558, hx558, hP⟩ := bind_some hP
          refine s_eff hF rfl rfl rfl (w_appX (X := Int) hx558 Tryz.underlying52 in3 rfl rfl rfl rfl hF rfl rfl rfl (hM.own (X := Int) (i := 1) rfl) (hM.ptS (X := Int) (i := 0) (n := 1) (c := 1) rfl rfl rfl (Nat.le_refl _)) fun s557 w hUs557 => ?_)
          have hM := hM.chg hUs557 (i := 1) rfl
          replace hM : MemL _ (pt b_B158_23 (encs ([v531] : List Int)) 3 :: rowL 0 s557 3 x558 :: Lr) := hM
          intro a hF
          refine s_val hF (r_assign hF rfl rfl) rfl rfl rfl fun a hF => ?_
          refine c_nil (n_block (n_then ?_))
          have hP := Option.some.inj hP
          subst hP
          exact ⟨x558, rfl, s557, hF.to ⟨rfl, rfl, rfl, rfl, rfl, rfl, trivial⟩, selM hM [1] 2 rfl⟩
        have hP := Fx.cF hb556 hP
        refine c_skip (n_block (n_then ?_))
        have hP := Option.some.inj hP
        subst hP
        exact ⟨v528, rfl, s529, hF.to ⟨rfl, rfl, rfl, rfl, rfl, rfl, trivial⟩, hM⟩
      rintro v549 a w hP ⟨s550, hF, hM⟩
      replace hP : Sh.trace_changed_byte_j3 v531 v549 = _ := hP
      unfold Sh.trace_changed_byte_j3 at hP
      refine n_then ?_
      refine c_region ?_
      refine s_val hF (r_add hF rfl rfl rfl) rfl rfl rfl fun a hF => ?_
      refine s_val hF (r_move hF rfl rfl) rfl rfl rfl fun a hF => ?_
      refine c_nil (n_then ?_)
      have hP := Option.some.inj hP
      subst hP
      exact ⟨(v549, (IntKind.i64.wrap (v531 + 1))), rfl, s550, hF.to ⟨rfl, rfl, rfl, rfl, rfl, rfl, trivial⟩, hM⟩
    have hP := Fx.cF hb534 hP
    refine c_exit (x_then (x_then (x_hit ?_)))
    refine n_then ?_
    have hP := Option.some.inj hP
    subst hP
    have hP := hK_l2 _ rfl
    subst hP
    exact ⟨v528, rfl, s529, hF.to ⟨rfl, rfl, trivial⟩, hM⟩
  rintro v465 a w hP ⟨s466, hF, hM⟩
  replace hP : Sh.trace_changed_byte_j1 v465 = _ := hP
  unfold Sh.trace_changed_byte_j1 at hP
  refine n_then ?_
  refine c_seq ?_
  refine c_region ?_
  refine s_val hF (r_move hF rfl rfl) rfl rfl rfl fun a hF => ?_
  refine s_val hF (r_assign hF rfl rfl) rfl rfl rfl fun a hF => ?_
  refine c_nil (n_then ?_)
  refine c_ret ?_
  have hP := Option.some.inj hP
  subst hP
  refine e_ret1 Tryz.results158 hF rfl ?_
  exact ⟨s466, rfl, hM⟩
set_option maxHeartbeats 4000000 in
theorem trace_plainPieces_calls {x0 : List QPiece} {s1 : SV} {hs2 : List RPiece} {out : Bool} {w0 : World} {Bf : World → Prop} {Lr : List Res} (hP : Sh.trace_plainPieces x0 = some out) (hM : MemL w0 (Lr)) (hsub : ∀ w, MemL w Lr → Bf w) (f3 : LIn Bf s1 hs2) (q4 : Each (QPieceIn Bf) hs2 x0) : Calls Tryz.prog 227 #[(s1).v] w0 (Ret fun v w' => v = .bool out ∧ MemL w' (Lr)) := by
  unfold Sh.trace_plainPieces at hP
  refine calls_enter (vs := [(s1).v]) Tryz.func227 rfl Tryz.ntmps227 rfl fun a hF => ?_
  refine c_seq ?_
  refine c_region ?_
  refine s_val hF (r_assign hF rfl rfl) rfl rfl rfl fun a hF => ?_
  refine c_nil (n_then ?_)
  refine c_seq ?_
  refine c_region ?_
  refine s_val hF (r_assign hF rfl rfl) rfl rfl rfl fun a hF => ?_
  refine s_val hF (r_assign hF rfl rfl) rfl rfl rfl fun a hF => ?_
  refine c_nil (n_then ?_)
  refine c_seq ?_
  refine c_joinX hF hM hP (fun F x a w => match x with | _ => Fr 68 [(2, .bool false)] a ∧ MemL w (Lr)) (fun o_j1 hP hK_j1 hF hM => ?_) ?_
  · refine c_seq ?_
    refine c_region ?_
    refine s_val hF (r_move hF rfl rfl) rfl rfl rfl fun a hF => ?_
    refine s_val hF (r_lenD (f3 _ (hsub _ (dropM hM 0))) q4.len Tryz.underlying58 hF rfl rfl) rfl rfl rfl fun a hF => ?_
    refine s_val hF (r_move hF rfl rfl) rfl rfl rfl fun a hF => ?_
    refine c_nil (n_then ?_)
    refine c_block ?_
    refine c_loopX hF hM hP (fun F x a w => match x with | (v2916, v2917, v2918) => Fr 68 [(10, .int .i64 v2916), (3, .int .i64 v2917), (4, .int .i64 v2918), (2, .bool false), (8, (s1).v), (9, .int .i64 (x0.length : Int))] a ∧ MemL w (Lr)) (fun hF hM => ⟨hF.to ⟨rfl, rfl, rfl, rfl, rfl, rfl, trivial⟩, hM⟩) ?_
    rintro ⟨v2916, v2917, v2918⟩ a w o_l2 hP hK_l2 ⟨hF, hM⟩
    replace hP : Sh.trace_plainPieces_l2 x0 v2916 v2917 v2918 = _ := hP
    unfold Sh.trace_plainPieces_l2 at hP
    refine c_seq ?_
    refine c_region ?_
    refine s_val hF (r_lss hF rfl rfl rfl) rfl rfl rfl fun a hF => ?_
    refine c_nil (n_then ?_)
    refine c_seq ?_
    refine c_cond hF (c := .tmp 11) rfl (fun hb2920 => ?_) (fun hb2920 => ?_)
    · have hP := Fx.cT hb2920 hP
      refine c_skip (n_then ?_)
      refine c_seq ?_
      refine c_block ?_
      refine c_seq ?_
      refine c_region ?_
      obtain ⟨x3005, hx3005, hP⟩ := bind_some hP
      have h0x3005 := get_some hx3005
      obtain ⟨yx3005, hgx3005, hrx3005⟩ := Each.getr q4 h0x3005.2
      have hdx3005 := Each.bd q4 (get_bd hx3005)
      obtain ⟨s3006, s3008, rfl, f3007, f3009⟩ := hrx3005
      refine s_val hF (r_indexZ (sz := 4) (f3 _ (hsub _ (dropM hM 0))) Tryz.underlying58 in156 rfl hF rfl rfl rfl hdx3005) rfl rfl rfl fun a hF => ?_
      refine s_val hF (r_loadn Tryz.isAgg156 Tryz.sizeOf156 hF rfl rfl (RPiece.len _) (((f3 _ (hsub _ (dropM hM 0))).elemS hgx3005))) rfl rfl rfl fun a hF => ?_
      refine s_eff hF rfl rfl rfl (w_alloc z156 (zs := RPiece.zero.enc) rfl rfl fun b_B227_6 w hzB227_6 hAB227_6 => ?_)
      have hM := hM.plus hAB227_6
      replace hM : MemL _ (pt b_B227_6 (RPiece.enc (RPiece.mk 0 0 SV.nil SV.nil)) 156 :: Lr) := hM
      intro a hF
      refine s_eff0 rfl rfl (w_storen (vs := _) Tryz.sizeOf156 (hM.obj (i := 0) rfl) hF rfl rfl rfl rfl (RPiece.len _) (RPiece.one _) (by first | (rw [RPiece.len, RPiece.len]; decide) | (rw [RPiece.len]; decide)) (put_all ((RPiece.len _).trans (RPiece.len _).symm)) fun w hU3010 => ?_)
      have hM := hM.chg hU3010 (i := 0) rfl
      replace hM : MemL _ (pt b_B227_6 (RPiece.enc (RPiece.mk x3005.table x3005.from_ s3006 s3008)) 156 :: Lr) := hM
      refine c_nil (n_then ?_)
      refine c_seq ?_
      refine c_joinX hF hM hP (fun F x a w => match x with | (v3019, v3020) => Fr 68 [(3, .int .i64 v3019), (4, .int .i64 v3020), (10, .int .i64 v2916), (2, .bool false), (6, .pointer (some ⟨b_B227_6, 0, none⟩)), (8, (s1).v), (9, .int .i64 (x0.length : Int))] a ∧ MemL w (pt b_B227_6 (RPiece.enc (RPiece.mk x3005.table x3005.from_ s3006 s3008)) 156 :: Lr)) (fun o_j3 hP hK_j3 hF hM => ?_) ?_
      · refine c_block ?_
        refine c_seq ?_
        refine c_region ?_
        refine s_val hF (r_fieldAddr (off' := 0) Tryz.underlying156 rfl in3 rfl hF rfl rfl rfl) rfl rfl rfl fun a hF => ?_
        refine s_val hF (r_load1 Tryz.isAgg3 hF rfl rfl (hM.cell (i := 0) rfl (RPiece.g_table _))) rfl rfl rfl fun a hF => ?_
        refine s_val hF (r_move hF rfl rfl) rfl rfl rfl fun a hF => ?_
        obtain ⟨y3022, hy3022, hP⟩ := bind_some hP
        refine s_eff hF rfl rfl rfl (w_call (xs := [.tmp 16, .tmp 17, .const (.int .i64 (7))]) Tryz.call124 hF rfl rfl (trace_within_calls hy3022 hM ) fun v w hR => ?_)
        obtain ⟨rfl, hM⟩ := hR
        replace hM : MemL _ (pt b_B227_6 (RPiece.enc (RPiece.mk x3005.table x3005.from_ s3006 s3008)) 156 :: Lr) := hM
        intro a hF
        refine s_val hF (r_not hF rfl rfl) rfl rfl rfl fun a hF => ?_
        refine s_val hF (r_assign hF rfl rfl) rfl rfl rfl fun a hF => ?_
        refine c_nil (n_then ?_)
        refine c_cond hF (c := .tmp 14) rfl (fun hb3023 => ?_) (fun hb3023 => ?_)
        · have hP := Fx.cT hb3023 hP
          refine c_seq ?_
          refine c_region ?_
          refine s_val hF (r_assign hF rfl rfl) rfl rfl rfl fun a hF => ?_
          refine c_nil (n_then ?_)
          refine c_ret ?_
          have hP := Option.some.inj hP
          subst hP
          have hP := fin_inr hK_j3
          subst hP
          have hP := hK_l2 _ rfl
          subst hP
          have hP := fin_inr hK_j1
          subst hP
          refine e_ret1 Tryz.results227 hF rfl ?_
          exact ⟨rfl, selM hM [] 1 rfl⟩
        have hP := Fx.cF hb3023 hP
        refine c_seq ?_
        refine c_region ?_
        refine s_val hF (r_fieldAddr (off' := 0) Tryz.underlying156 rfl in3 rfl hF rfl rfl rfl) rfl rfl rfl fun a hF => ?_
        refine s_val hF (r_load1 Tryz.isAgg3 hF rfl rfl (hM.cell (i := 0) rfl (RPiece.g_table _))) rfl rfl rfl fun a hF => ?_
        refine s_val hF (r_move hF rfl rfl) rfl rfl rfl fun a hF => ?_
        refine s_val hF (r_gtr hF rfl rfl rfl) rfl rfl rfl fun a hF => ?_
        refine s_val hF (r_assign hF rfl rfl) rfl rfl rfl fun a hF => ?_
        refine c_nil (n_then ?_)
        refine c_cond hF (c := .tmp 20) rfl (fun hb3024 => ?_) (fun hb3024 => ?_)
        · have hP := Fx.cT hb3024 hP
          refine c_region ?_
          refine s_val hF (r_fieldAddr (off' := 0) Tryz.underlying156 rfl in3 rfl hF rfl rfl rfl) rfl rfl rfl fun a hF => ?_
          refine s_val hF (r_load1 Tryz.isAgg3 hF rfl rfl (hM.cell (i := 0) rfl (RPiece.g_table _))) rfl rfl rfl fun a hF => ?_
          refine s_val hF (r_assign hF rfl rfl) rfl rfl rfl fun a hF => ?_
          refine s_val hF (r_assign hF rfl rfl) rfl rfl rfl fun a hF => ?_
          refine c_nil (n_block (n_then ?_))
          have hP := Option.some.inj hP
          subst hP
          exact ⟨(x3005.table, 0), rfl, hF.to ⟨rfl, rfl, rfl, rfl, rfl, rfl, rfl, trivial⟩, hM⟩
        have hP := Fx.cF hb3024 hP
        refine c_skip (n_block (n_then ?_))
        have hP := Option.some.inj hP
        subst hP
        exact ⟨(v2917, v2918), rfl, hF.to ⟨rfl, rfl, rfl, rfl, rfl, rfl, rfl, trivial⟩, hM⟩
      rintro ⟨v3019, v3020⟩ a w hP ⟨hF, hM⟩
      replace hP : Sh.trace_plainPieces_j3 v2916 x3005 v3019 v3020 = _ := hP
      unfold Sh.trace_plainPieces_j3 at hP
      refine n_then ?_
      refine c_seq ?_
      refine c_region ?_
      refine s_val hF (r_fieldAddr (off' := 2) Tryz.underlying156 rfl in23 rfl hF rfl rfl rfl) rfl rfl rfl fun a hF => ?_
      refine s_val hF (r_load1 Tryz.isAgg23 hF rfl rfl (hM.cell (i := 0) rfl (RPiece.g_old _))) rfl rfl rfl fun a hF => ?_
      refine s_val hF (r_lenL (f3007 _ (hsub _ (dropM hM 1))) Tryz.underlying23 hF rfl rfl) rfl rfl rfl fun a hF => ?_
      refine s_val hF (r_assign hF rfl rfl) rfl rfl rfl fun a hF => ?_
      refine c_nil (n_then ?_)
      refine c_seq ?_
      refine c_seq ?_
      refine c_joinX hF hM hP (fun F x a w => match x with | v3077 => Fr 68 [(61, .bool v3077), (10, .int .i64 v2916), (2, .bool false), (3, .int .i64 v3019), (4, .int .i64 v3020), (6, .pointer (some ⟨b_B227_6, 0, none⟩)), (7, .int .i64 (x3005.old.length : Int)), (8, (s1).v), (9, .int .i64 (x0.length : Int))] a ∧ MemL w (pt b_B227_6 (RPiece.enc (RPiece.mk x3005.table x3005.from_ s3006 s3008)) 156 :: Lr)) (fun o_j4 hP hK_j4 hF hM => ?_) ?_
      · refine c_region ?_
        refine s_val hF (r_move hF rfl rfl) rfl rfl rfl fun a hF => ?_
        refine s_val hF (r_eql hF rfl rfl rfl) rfl rfl rfl fun a hF => ?_
        refine s_val hF (r_move hF rfl rfl) rfl rfl rfl fun a hF => ?_
        refine g_split 32 hF rfl (fun hb3078 => ?_) (fun hb3078 => ?_)
        · have hP := Fx.cT hb3078 hP
          refine g_skip hF rfl rfl rfl hb3078 rfl rfl fun a hF => ?_
          refine g_skip hF rfl rfl rfl hb3078 rfl rfl fun a hF => ?_
          refine g_skip hF rfl rfl rfl hb3078 rfl rfl fun a hF => ?_
          refine g_skip hF rfl rfl rfl hb3078 rfl rfl fun a hF => ?_
          refine g_skip hF rfl rfl rfl hb3078 rfl rfl fun a hF => ?_
          refine s_val hF (r_pick1 hF rfl rfl hb3078 rfl) rfl rfl rfl fun a hF => ?_
          refine s_val hF (r_move hF rfl rfl) rfl rfl rfl fun a hF => ?_
          refine g_skip hF rfl rfl rfl rfl rfl rfl fun a hF => ?_
          refine g_skip hF rfl rfl rfl rfl rfl rfl fun a hF => ?_
          refine s_val hF (r_pick1 hF rfl rfl rfl rfl) rfl rfl rfl fun a hF => ?_
          refine s_val hF (r_move hF rfl rfl) rfl rfl rfl fun a hF => ?_
          refine g_skip hF rfl rfl rfl rfl rfl rfl fun a hF => ?_
          refine g_skip hF rfl rfl rfl rfl rfl rfl fun a hF => ?_
          refine g_skip hF rfl rfl rfl rfl rfl rfl fun a hF => ?_
          refine g_skip hF rfl rfl rfl rfl rfl rfl fun a hF => ?_
          refine g_skip hF rfl rfl rfl rfl rfl rfl fun a hF => ?_
          refine g_skip hF rfl rfl rfl rfl rfl rfl fun a hF => ?_
          refine g_skip hF rfl rfl rfl rfl rfl rfl fun a hF => ?_
          refine s_val hF (r_pick1 hF rfl rfl rfl rfl) rfl rfl rfl fun a hF => ?_
          refine s_val hF (r_move hF rfl rfl) rfl rfl rfl fun a hF => ?_
          refine g_skip hF rfl rfl rfl rfl rfl rfl fun a hF => ?_
          refine g_skip hF rfl rfl rfl rfl rfl rfl fun a hF => ?_
          refine g_skip hF rfl rfl rfl rfl rfl rfl fun a hF => ?_
          refine g_skip hF rfl rfl rfl rfl rfl rfl fun a hF => ?_
          refine g_skip hF rfl rfl rfl rfl rfl rfl fun a hF => ?_
          refine g_skip hF rfl rfl rfl rfl rfl rfl fun a hF => ?_
          refine g_skip hF rfl rfl rfl rfl rfl rfl fun a hF => ?_
          refine g_skip hF rfl rfl rfl rfl rfl rfl fun a hF => ?_
          refine s_val hF (r_pick1 hF rfl rfl rfl rfl) rfl rfl rfl fun a hF => ?_
          refine c_nil (n_then ?_)
          have hP := Option.some.inj hP
          subst hP
          exact ⟨true, rfl, hF.to ⟨rfl, rfl, rfl, rfl, rfl, rfl, rfl, rfl, rfl, trivial⟩, hM⟩
        have hP := Fx.cF hb3078 hP
        refine g_val hF rfl rfl rfl hb3078 (r_fieldAddr (off' := 3) Tryz.underlying156 rfl in23 rfl hF rfl rfl rfl) rfl rfl fun a hF => ?_
        refine g_val hF rfl rfl rfl hb3078 (r_load1 Tryz.isAgg23 hF rfl rfl (hM.cell (i := 0) rfl (RPiece.g_new _))) rfl rfl fun a hF => ?_
        refine g_val hF rfl rfl rfl hb3078 (r_lenL (f3009 _ (hsub _ (dropM hM 1))) Tryz.underlying23 hF rfl rfl) rfl rfl fun a hF => ?_
        refine g_val hF rfl rfl rfl hb3078 (r_move hF rfl rfl) rfl rfl fun a hF => ?_
        refine g_val hF rfl rfl rfl hb3078 (r_neq hF rfl rfl rfl) rfl rfl fun a hF => ?_
        refine s_val hF (r_pick0 hF rfl rfl hb3078 rfl) rfl rfl rfl fun a hF => ?_
        refine s_val hF (r_move hF rfl rfl) rfl rfl rfl fun a hF => ?_
        refine g_split 39 hF rfl (fun hb3079 => ?_) (fun hb3079 => ?_)
        · have hP := Fx.cT hb3079 hP
          refine g_skip hF rfl rfl rfl hb3079 rfl rfl fun a hF => ?_
          refine g_skip hF rfl rfl rfl hb3079 rfl rfl fun a hF => ?_
          refine s_val hF (r_pick1 hF rfl rfl hb3079 rfl) rfl rfl rfl fun a hF => ?_
          refine s_val hF (r_move hF rfl rfl) rfl rfl rfl fun a hF => ?_
          refine g_skip hF rfl rfl rfl rfl rfl rfl fun a hF => ?_
          refine g_skip hF rfl rfl rfl rfl rfl rfl fun a hF => ?_
          refine g_skip hF rfl rfl rfl rfl rfl rfl fun a hF => ?_
          refine g_skip hF rfl rfl rfl rfl rfl rfl fun a hF => ?_
          refine g_skip hF rfl rfl rfl rfl rfl rfl fun a hF => ?_
          refine g_skip hF rfl rfl rfl rfl rfl rfl fun a hF => ?_
          refine g_skip hF rfl rfl rfl rfl rfl rfl fun a hF => ?_
          refine s_val hF (r_pick1 hF rfl rfl rfl rfl) rfl rfl rfl fun a hF => ?_
          refine s_val hF (r_move hF rfl rfl) rfl rfl rfl fun a hF => ?_
          refine g_skip hF rfl rfl rfl rfl rfl rfl fun a hF => ?_
          refine g_skip hF rfl rfl rfl rfl rfl rfl fun a hF => ?_
          refine g_skip hF rfl rfl rfl rfl rfl rfl fun a hF => ?_
          refine g_skip hF rfl rfl rfl rfl rfl rfl fun a hF => ?_
          refine g_skip hF rfl rfl rfl rfl rfl rfl fun a hF => ?_
          refine g_skip hF rfl rfl rfl rfl rfl rfl fun a hF => ?_
          refine g_skip hF rfl rfl rfl rfl rfl rfl fun a hF => ?_
          refine g_skip hF rfl rfl rfl rfl rfl rfl fun a hF => ?_
          refine s_val hF (r_pick1 hF rfl rfl rfl rfl) rfl rfl rfl fun a hF => ?_
          refine c_nil (n_then ?_)
          have hP := Option.some.inj hP
          subst hP
          exact ⟨true, rfl, hF.to ⟨rfl, rfl, rfl, rfl, rfl, rfl, rfl, rfl, rfl, trivial⟩, hM⟩
        have hP := Fx.cF hb3079 hP
        refine g_val hF rfl rfl rfl hb3079 (r_move hF rfl rfl) rfl rfl fun a hF => ?_
        refine g_val hF rfl rfl rfl hb3079 (r_gtr hF rfl rfl rfl) rfl rfl fun a hF => ?_
        refine s_val hF (r_pick0 hF rfl rfl hb3079 rfl) rfl rfl rfl fun a hF => ?_
        refine s_val hF (r_move hF rfl rfl) rfl rfl rfl fun a hF => ?_
        refine g_split 43 hF rfl (fun hb3080 => ?_) (fun hb3080 => ?_)
        · have hP := Fx.cT hb3080 hP
          refine g_skip hF rfl rfl rfl hb3080 rfl rfl fun a hF => ?_
          refine g_skip hF rfl rfl rfl hb3080 rfl rfl fun a hF => ?_
          refine g_skip hF rfl rfl rfl hb3080 rfl rfl fun a hF => ?_
          refine g_skip hF rfl rfl rfl hb3080 rfl rfl fun a hF => ?_
          refine g_skip hF rfl rfl rfl hb3080 rfl rfl fun a hF => ?_
          refine g_skip hF rfl rfl rfl hb3080 rfl rfl fun a hF => ?_
          refine g_skip hF rfl rfl rfl hb3080 rfl rfl fun a hF => ?_
          refine s_val hF (r_pick1 hF rfl rfl hb3080 rfl) rfl rfl rfl fun a hF => ?_
          refine s_val hF (r_move hF rfl rfl) rfl rfl rfl fun a hF => ?_
          refine g_skip hF rfl rfl rfl rfl rfl rfl fun a hF => ?_
          refine g_skip hF rfl rfl rfl rfl rfl rfl fun a hF => ?_
          refine g_skip hF rfl rfl rfl rfl rfl rfl fun a hF => ?_
          refine g_skip hF rfl rfl rfl rfl rfl rfl fun a hF => ?_
          refine g_skip hF rfl rfl rfl rfl rfl rfl fun a hF => ?_
          refine g_skip hF rfl rfl rfl rfl rfl rfl fun a hF => ?_
          refine g_skip hF rfl rfl rfl rfl rfl rfl fun a hF => ?_
          refine g_skip hF rfl rfl rfl rfl rfl rfl fun a hF => ?_
          refine s_val hF (r_pick1 hF rfl rfl rfl rfl) rfl rfl rfl fun a hF => ?_
          refine c_nil (n_then ?_)
          have hP := Option.some.inj hP
          subst hP
          exact ⟨true, rfl, hF.to ⟨rfl, rfl, rfl, rfl, rfl, rfl, rfl, rfl, rfl, trivial⟩, hM⟩
        have hP := Fx.cF hb3080 hP
        refine g_val hF rfl rfl rfl hb3080 (r_fieldAddr (off' := 1) Tryz.underlying156 rfl in3 rfl hF rfl rfl rfl) rfl rfl fun a hF => ?_
        refine g_val hF rfl rfl rfl hb3080 (r_load1 Tryz.isAgg3 hF rfl rfl (hM.cell (i := 0) rfl (RPiece.g_from_ _))) rfl rfl fun a hF => ?_
        refine g_val hF rfl rfl rfl hb3080 (r_move hF rfl rfl) rfl rfl fun a hF => ?_
        refine g_val hF rfl rfl rfl hb3080 (r_move hF rfl rfl) rfl rfl fun a hF => ?_
        refine g_val hF rfl rfl rfl hb3080 (r_sub hF rfl rfl rfl) rfl rfl fun a hF => ?_
        obtain ⟨y3082, hy3082, hP⟩ := bind_some hP
        refine g_eff hF rfl rfl rfl hb3080 rfl rfl (w_call (xs := [.tmp 45, .tmp 46, .tmp 48]) Tryz.call124 hF rfl rfl (trace_within_calls hy3082 hM ) fun v w hR => ?_)
        obtain ⟨rfl, hM⟩ := hR
        replace hM : MemL _ (pt b_B227_6 (RPiece.enc (RPiece.mk x3005.table x3005.from_ s3006 s3008)) 156 :: Lr) := hM
        intro a hF
        refine g_val hF rfl rfl rfl hb3080 (r_not hF rfl rfl) rfl rfl fun a hF => ?_
        refine s_val hF (r_pick0 hF rfl rfl hb3080 rfl) rfl rfl rfl fun a hF => ?_
        refine s_val hF (r_move hF rfl rfl) rfl rfl rfl fun a hF => ?_
        refine g_split 52 hF rfl (fun hb3083 => ?_) (fun hb3083 => ?_)
        · have hP := Fx.cT hb3083 hP
          refine g_skip hF rfl rfl rfl hb3083 rfl rfl fun a hF => ?_
          refine g_skip hF rfl rfl rfl hb3083 rfl rfl fun a hF => ?_
          refine g_skip hF rfl rfl rfl hb3083 rfl rfl fun a hF => ?_
          refine g_skip hF rfl rfl rfl hb3083 rfl rfl fun a hF => ?_
          refine g_skip hF rfl rfl rfl hb3083 rfl rfl fun a hF => ?_
          refine g_skip hF rfl rfl rfl hb3083 rfl rfl fun a hF => ?_
          refine g_skip hF rfl rfl rfl hb3083 rfl rfl fun a hF => ?_
          refine g_skip hF rfl rfl rfl hb3083 rfl rfl fun a hF => ?_
          refine s_val hF (r_pick1 hF rfl rfl hb3083 rfl) rfl rfl rfl fun a hF => ?_
          refine c_nil (n_then ?_)
          have hP := Option.some.inj hP
          subst hP
          exact ⟨true, rfl, hF.to ⟨rfl, rfl, rfl, rfl, rfl, rfl, rfl, rfl, rfl, trivial⟩, hM⟩
        have hP := Fx.cF hb3083 hP
        refine g_val hF rfl rfl rfl hb3083 (r_fieldAddr (off' := 2) Tryz.underlying156 rfl in23 rfl hF rfl rfl rfl) rfl rfl fun a hF => ?_
        refine g_val hF rfl rfl rfl hb3083 (r_load1 Tryz.isAgg23 hF rfl rfl (hM.cell (i := 0) rfl (RPiece.g_old _))) rfl rfl fun a hF => ?_
        refine g_val hF rfl rfl rfl hb3083 (r_fieldAddr (off' := 3) Tryz.underlying156 rfl in23 rfl hF rfl rfl rfl) rfl rfl fun a hF => ?_
        refine g_val hF rfl rfl rfl hb3083 (r_load1 Tryz.isAgg23 hF rfl rfl (hM.cell (i := 0) rfl (RPiece.g_new _))) rfl rfl fun a hF => ?_
        obtain ⟨y3085, hy3085, hP⟩ := bind_some hP
        refine g_eff hF rfl rfl rfl hb3083 rfl rfl (w_call (xs := [.tmp 54, .tmp 56]) Tryz.call158 hF rfl rfl (trace_changed_byte_calls hy3085 hM (Bf := Bf) (fun w hM => hsub _ (dropM hM 1)) f3007 f3009) fun v w hR => ?_)
        obtain ⟨s3086, rfl, hM⟩ := hR
        replace hM : MemL _ (rowL 0 s3086 3 y3085 :: pt b_B227_6 (RPiece.enc (RPiece.mk x3005.table x3005.from_ s3006 s3008)) 156 :: Lr) := hM
        intro a hF
        refine g_val hF rfl rfl rfl hb3083 (r_lenL (hM.rowS (X := Int) (i := 0) rfl) Tryz.underlying52 hF rfl rfl) rfl rfl fun a hF => ?_
        refine g_val hF rfl rfl rfl hb3083 (r_move hF rfl rfl) rfl rfl fun a hF => ?_
        refine g_val hF rfl rfl rfl hb3083 (r_lss hF rfl rfl rfl) rfl rfl fun a hF => ?_
        refine s_val hF (r_pick0 hF rfl rfl hb3083 rfl) rfl rfl rfl fun a hF => ?_
        refine c_nil (n_then ?_)
        have hP := Option.some.inj hP
        subst hP
        exact ⟨(decide ((y3085.length : Int) < (x3005.old.length : Int))), rfl, hF.to ⟨rfl, rfl, rfl, rfl, rfl, rfl, rfl, rfl, rfl, trivial⟩, selM hM [1] 2 rfl⟩
      rintro v3077 a w hP ⟨hF, hM⟩
      replace hP : Sh.trace_plainPieces_j4 v2916 x3005 v3019 v3077 = _ := hP
      unfold Sh.trace_plainPieces_j4 at hP
      refine n_then ?_
      refine c_cond hF (c := .tmp 61) rfl (fun hb3088 => ?_) (fun hb3088 => ?_)
      · have hP := Fx.cT hb3088 hP
        refine c_seq ?_
        refine c_region ?_
        refine s_val hF (r_assign hF rfl rfl) rfl rfl rfl fun a hF => ?_
        refine c_nil (n_then ?_)
        refine c_ret ?_
        have hP := Option.some.inj hP
        subst hP
        have hP := hK_l2 _ rfl
        subst hP
        have hP := fin_inr hK_j1
        subst hP
        refine e_ret1 Tryz.results227 hF rfl ?_
        exact ⟨rfl, selM hM [] 1 rfl⟩
      have hP := Fx.cF hb3088 hP
      refine c_skip (n_then ?_)
      refine c_region ?_
      refine s_val hF (r_fieldAddr (off' := 1) Tryz.underlying156 rfl in3 rfl hF rfl rfl rfl) rfl rfl rfl fun a hF => ?_
      refine s_val hF (r_load1 Tryz.isAgg3 hF rfl rfl (hM.cell (i := 0) rfl (RPiece.g_from_ _))) rfl rfl rfl fun a hF => ?_
      refine s_val hF (r_move hF rfl rfl) rfl rfl rfl fun a hF => ?_
      refine s_val hF (r_add hF rfl rfl rfl) rfl rfl rfl fun a hF => ?_
      refine s_val hF (r_add hF rfl rfl rfl) rfl rfl rfl fun a hF => ?_
      refine s_val hF (r_assign hF rfl rfl) rfl rfl rfl fun a hF => ?_
      refine c_nil (n_block (n_then ?_))
      refine c_region ?_
      refine s_val hF (r_add hF rfl rfl rfl) rfl rfl rfl fun a hF => ?_
      refine s_val hF (r_move hF rfl rfl) rfl rfl rfl fun a hF => ?_
      refine c_nil (n_then ?_)
      have hP := Option.some.inj hP
      subst hP
      exact ⟨((IntKind.i64.wrap (v2916 + 1)), v3019, (IntKind.i64.wrap ((IntKind.i64.wrap (x3005.from_ + (x3005.old.length : Int))) + 1))), rfl, hF.to ⟨rfl, rfl, rfl, rfl, rfl, rfl, trivial⟩, selM hM [] 1 rfl⟩
    have hP := Fx.cF hb2920 hP
    refine c_exit (x_then (x_then (x_hit ?_)))
    refine n_then ?_
    have hP := Option.some.inj hP
    subst hP
    have hP := hK_l2 _ rfl
    subst hP
    exact ⟨(), rfl, hF.to ⟨rfl, trivial⟩, hM⟩
  rintro ⟨⟩ a w hP ⟨hF, hM⟩
  replace hP : Sh.trace_plainPieces_j1 = _ := hP
  unfold Sh.trace_plainPieces_j1 at hP
  refine n_then ?_
  refine c_seq ?_
  refine c_region ?_
  refine s_val hF (r_assign hF rfl rfl) rfl rfl rfl fun a hF => ?_
  refine c_nil (n_then ?_)
  refine c_ret ?_
  have hP := Option.some.inj hP
  subst hP
  refine e_ret1 Tryz.results227 hF rfl ?_
  exact ⟨rfl, hM⟩
set_option maxHeartbeats 4000000 in
theorem trace_plain_calls {x0 : QMark} {s1 : SV} {s3 : SV} {s5 : SV} {hs6 : List RPiece} {s9 : SV} {out : Bool} {w0 : World} {Bf : World → Prop} {Lr : List Res} (hP : Sh.trace_plain x0 = some out) (hM : MemL w0 (Lr)) (hsub : ∀ w, MemL w Lr → Bf w) (f2 : LIn Bf s1 x0.regs) (f4 : LIn Bf s3 x0.slots) (f7 : LIn Bf s5 hs6) (q8 : Each (QPieceIn Bf) hs6 x0.pieces) (f10 : LIn Bf s9 x0.sent) : Calls Tryz.prog 173 #[.agg (RMark.enc (RMark.mk x0.at_ x0.next x0.done s1 s3 s5 s9)).toArray] w0 (Ret fun v w' => v = .bool out ∧ MemL w' (Lr)) := by
  unfold Sh.trace_plain at hP
  refine calls_enter (vs := [.agg (RMark.enc (RMark.mk x0.at_ x0.next x0.done s1 s3 s5 s9)).toArray]) Tryz.func173 rfl Tryz.ntmps173 rfl fun a hF => ?_
  refine c_seq ?_
  refine c_region ?_
  refine s_eff hF rfl rfl rfl (w_box hF rfl rfl rfl fun b_B173_1 w hzB173_1 hAB173_1 => ?_)
  have hM := hM.plus hAB173_1
  replace hM : MemL _ (pt b_B173_1 (RMark.enc (RMark.mk x0.at_ x0.next x0.done s1 s3 s5 s9)) 60 :: Lr) := hM
  intro a hF
  refine s_val hF (r_assign hF rfl rfl) rfl rfl rfl fun a hF => ?_
  refine c_nil (n_then ?_)
  refine c_seq ?_
  refine c_seq ?_
  refine c_joinX hF hM hP (fun F x a w => match x with | v1009 => Fr 73 [(23, .bool v1009), (1, .pointer (some ⟨b_B173_1, 0, none⟩)), (2, .bool false)] a ∧ MemL w (pt b_B173_1 (RMark.enc (RMark.mk x0.at_ x0.next x0.done s1 s3 s5 s9)) 60 :: Lr)) (fun o_j1 hP hK_j1 hF hM => ?_) ?_
  · refine c_region ?_
    refine s_val hF (r_fieldAddr (off' := 0) Tryz.underlying60 rfl in3 rfl hF rfl rfl rfl) rfl rfl rfl fun a hF => ?_
    refine s_val hF (r_load1 Tryz.isAgg3 hF rfl rfl (hM.cell (i := 0) rfl (RMark.g_at_ _))) rfl rfl rfl fun a hF => ?_
    obtain ⟨y1011, hy1011, hP⟩ := bind_some hP
    refine s_eff hF rfl rfl rfl (w_call (xs := [.tmp 9, .const (.int .i64 (0)), .const (.int .i64 (4095))]) Tryz.call124 hF rfl rfl (trace_within_calls hy1011 hM ) fun v w hR => ?_)
    obtain ⟨rfl, hM⟩ := hR
    replace hM : MemL _ (pt b_B173_1 (RMark.enc (RMark.mk x0.at_ x0.next x0.done s1 s3 s5 s9)) 60 :: Lr) := hM
    intro a hF
    refine s_val hF (r_not hF rfl rfl) rfl rfl rfl fun a hF => ?_
    refine s_val hF (r_move hF rfl rfl) rfl rfl rfl fun a hF => ?_
    refine g_split 12 hF rfl (fun hb1012 => ?_) (fun hb1012 => ?_)
    · have hP := Fx.cT hb1012 hP
      refine g_skip hF rfl rfl rfl hb1012 rfl rfl fun a hF => ?_
      refine g_skip hF rfl rfl rfl hb1012 rfl rfl fun a hF => ?_
      refine g_skip hF rfl rfl rfl hb1012 rfl rfl fun a hF => ?_
      refine g_skip hF rfl rfl rfl hb1012 rfl rfl fun a hF => ?_
      refine s_val hF (r_pick1 hF rfl rfl hb1012 rfl) rfl rfl rfl fun a hF => ?_
      refine s_val hF (r_move hF rfl rfl) rfl rfl rfl fun a hF => ?_
      refine g_skip hF rfl rfl rfl rfl rfl rfl fun a hF => ?_
      refine g_skip hF rfl rfl rfl rfl rfl rfl fun a hF => ?_
      refine g_skip hF rfl rfl rfl rfl rfl rfl fun a hF => ?_
      refine g_skip hF rfl rfl rfl rfl rfl rfl fun a hF => ?_
      refine s_val hF (r_pick1 hF rfl rfl rfl rfl) rfl rfl rfl fun a hF => ?_
      refine c_nil (n_then ?_)
      have hP := Option.some.inj hP
      subst hP
      exact ⟨true, rfl, hF.to ⟨rfl, rfl, rfl, trivial⟩, hM⟩
    have hP := Fx.cF hb1012 hP
    refine g_val hF rfl rfl rfl hb1012 (r_fieldAddr (off' := 1) Tryz.underlying60 rfl in3 rfl hF rfl rfl rfl) rfl rfl fun a hF => ?_
    refine g_val hF rfl rfl rfl hb1012 (r_load1 Tryz.isAgg3 hF rfl rfl (hM.cell (i := 0) rfl (RMark.g_next _))) rfl rfl fun a hF => ?_
    obtain ⟨y1014, hy1014, hP⟩ := bind_some hP
    refine g_eff hF rfl rfl rfl hb1012 rfl rfl (w_call (xs := [.tmp 14, .const (.int .i64 (0)), .const (.int .i64 (4095))]) Tryz.call124 hF rfl rfl (trace_within_calls hy1014 hM ) fun v w hR => ?_)
    obtain ⟨rfl, hM⟩ := hR
    replace hM : MemL _ (pt b_B173_1 (RMark.enc (RMark.mk x0.at_ x0.next x0.done s1 s3 s5 s9)) 60 :: Lr) := hM
    intro a hF
    refine g_val hF rfl rfl rfl hb1012 (r_not hF rfl rfl) rfl rfl fun a hF => ?_
    refine s_val hF (r_pick0 hF rfl rfl hb1012 rfl) rfl rfl rfl fun a hF => ?_
    refine s_val hF (r_move hF rfl rfl) rfl rfl rfl fun a hF => ?_
    refine g_split 18 hF rfl (fun hb1015 => ?_) (fun hb1015 => ?_)
    · have hP := Fx.cT hb1015 hP
      refine g_skip hF rfl rfl rfl hb1015 rfl rfl fun a hF => ?_
      refine g_skip hF rfl rfl rfl hb1015 rfl rfl fun a hF => ?_
      refine g_skip hF rfl rfl rfl hb1015 rfl rfl fun a hF => ?_
      refine g_skip hF rfl rfl rfl hb1015 rfl rfl fun a hF => ?_
      refine s_val hF (r_pick1 hF rfl rfl hb1015 rfl) rfl rfl rfl fun a hF => ?_
      refine c_nil (n_then ?_)
      have hP := Option.some.inj hP
      subst hP
      exact ⟨true, rfl, hF.to ⟨rfl, rfl, rfl, trivial⟩, hM⟩
    have hP := Fx.cF hb1015 hP
    refine g_val hF rfl rfl rfl hb1015 (r_fieldAddr (off' := 6) Tryz.underlying60 rfl in52 rfl hF rfl rfl rfl) rfl rfl fun a hF => ?_
    refine g_val hF rfl rfl rfl hb1015 (r_load1 Tryz.isAgg52 hF rfl rfl (hM.cell (i := 0) rfl (RMark.g_sent _))) rfl rfl fun a hF => ?_
    refine g_val hF rfl rfl rfl hb1015 (r_lenL (f10 _ (hsub _ (dropM hM 1))) Tryz.underlying52 hF rfl rfl) rfl rfl fun a hF => ?_
    refine g_val hF rfl rfl rfl hb1015 (r_gtr hF rfl rfl rfl) rfl rfl fun a hF => ?_
    refine s_val hF (r_pick0 hF rfl rfl hb1015 rfl) rfl rfl rfl fun a hF => ?_
    refine c_nil (n_then ?_)
    have hP := Option.some.inj hP
    subst hP
    exact ⟨(decide (1 < (x0.sent.length : Int))), rfl, hF.to ⟨rfl, rfl, rfl, trivial⟩, hM⟩
  rintro v1009 a w hP ⟨hF, hM⟩
  replace hP : Sh.trace_plain_j1 x0 v1009 = _ := hP
  unfold Sh.trace_plain_j1 at hP
  refine n_then ?_
  refine c_cond hF (c := .tmp 23) rfl (fun hb1016 => ?_) (fun hb1016 => ?_)
  · have hP := Fx.cT hb1016 hP
    refine c_seq ?_
    refine c_region ?_
    refine s_val hF (r_assign hF rfl rfl) rfl rfl rfl fun a hF => ?_
    refine c_nil (n_then ?_)
    refine c_ret ?_
    have hP := Option.some.inj hP
    subst hP
    refine e_ret1 Tryz.results173 hF rfl ?_
    exact ⟨rfl, selM hM [] 1 rfl⟩
  have hP := Fx.cF hb1016 hP
  refine c_skip (n_then ?_)
  refine c_seq ?_
  refine c_region ?_
  refine s_val hF (r_assign hF rfl rfl) rfl rfl rfl fun a hF => ?_
  refine c_nil (n_then ?_)
  refine c_seq ?_
  refine c_joinX hF hM hP (fun F x a w => match x with | _ => Fr 73 [(1, .pointer (some ⟨b_B173_1, 0, none⟩)), (2, .bool false)] a ∧ MemL w (pt b_B173_1 (RMark.enc (RMark.mk x0.at_ x0.next x0.done s1 s3 s5 s9)) 60 :: Lr)) (fun o_j2 hP hK_j2 hF hM => ?_) ?_
  · refine c_seq ?_
    refine c_region ?_
    refine s_val hF (r_fieldAddr (off' := 3) Tryz.underlying60 rfl in56 rfl hF rfl rfl rfl) rfl rfl rfl fun a hF => ?_
    refine s_val hF (r_load1 Tryz.isAgg56 hF rfl rfl (hM.cell (i := 0) rfl (RMark.g_regs _))) rfl rfl rfl fun a hF => ?_
    refine s_val hF (r_lenL (f2 _ (hsub _ (dropM hM 1))) Tryz.underlying56 hF rfl rfl) rfl rfl rfl fun a hF => ?_
    refine s_val hF (r_move hF rfl rfl) rfl rfl rfl fun a hF => ?_
    refine c_nil (n_then ?_)
    refine c_block ?_
    refine c_loopX hF hM hP (fun F x a w => match x with | (v1427, v1428) => Fr 73 [(27, .int .i64 v1427), (3, .int .i64 v1428), (1, .pointer (some ⟨b_B173_1, 0, none⟩)), (2, .bool false), (25, (s1).v), (26, .int .i64 (x0.regs.length : Int))] a ∧ MemL w (pt b_B173_1 (RMark.enc (RMark.mk x0.at_ x0.next x0.done s1 s3 s5 s9)) 60 :: Lr)) (fun hF hM => ⟨hF.to ⟨rfl, rfl, rfl, rfl, rfl, rfl, trivial⟩, hM⟩) ?_
    rintro ⟨v1427, v1428⟩ a w o_l3 hP hK_l3 ⟨hF, hM⟩
    replace hP : Sh.trace_plain_l3 x0 v1427 v1428 = _ := hP
    unfold Sh.trace_plain_l3 at hP
    refine c_seq ?_
    refine c_region ?_
    refine s_val hF (r_lss hF rfl rfl rfl) rfl rfl rfl fun a hF => ?_
    refine c_nil (n_then ?_)
    refine c_seq ?_
    refine c_cond hF (c := .tmp 28) rfl (fun hb1430 => ?_) (fun hb1430 => ?_)
    · have hP := Fx.cT hb1430 hP
      refine c_skip (n_then ?_)
      refine c_seq ?_
      refine c_block ?_
      refine c_seq ?_
      refine c_region ?_
      obtain ⟨x1455, hx1455, hP⟩ := bind_some hP
      have h0x1455 := get_some hx1455
      refine s_val hF (r_indexZ (sz := 9) (f2 _ (hsub _ (dropM hM 1))) Tryz.underlying56 in128 rfl hF rfl rfl rfl (get_bd hx1455)) rfl rfl rfl fun a hF => ?_
      refine s_val hF (r_loadn Tryz.isAgg128 Tryz.sizeOf128 hF rfl rfl (LTurn.len _) (((f2 _ (hsub _ (dropM hM 1))).elemS h0x1455.2))) rfl rfl rfl fun a hF => ?_
      refine s_eff hF rfl rfl rfl (w_alloc z128 (zs := LTurn.zero.enc) rfl rfl fun b_B173_5 w hzB173_5 hAB173_5 => ?_)
      have hM := hM.plus hAB173_5
      replace hM : MemL _ (pt b_B173_5 (LTurn.enc LTurn.zero) 128 :: pt b_B173_1 (RMark.enc (RMark.mk x0.at_ x0.next x0.done s1 s3 s5 s9)) 60 :: Lr) := hM
      intro a hF
      refine s_eff0 rfl rfl (w_storen (vs := _) Tryz.sizeOf128 (hM.obj (i := 0) rfl) hF rfl rfl rfl rfl (LTurn.len _) (LTurn.one _) (by first | (rw [LTurn.len, LTurn.len]; decide) | (rw [LTurn.len]; decide)) (put_all ((LTurn.len _).trans (LTurn.len _).symm)) fun w hU1456 => ?_)
      have hM := hM.chg hU1456 (i := 0) rfl
      replace hM : MemL _ (pt b_B173_5 (LTurn.enc x1455) 128 :: pt b_B173_1 (RMark.enc (RMark.mk x0.at_ x0.next x0.done s1 s3 s5 s9)) 60 :: Lr) := hM
      refine c_nil (n_then ?_)
      refine c_seq ?_
      refine c_seq ?_
      refine c_joinX hF hM hP (fun F x a w => match x with | v1474 => Fr 73 [(43, .bool v1474), (1, .pointer (some ⟨b_B173_1, 0, none⟩)), (2, .bool false), (25, (s1).v), (26, .int .i64 (x0.regs.length : Int)), (27, .int .i64 v1427), (3, .int .i64 v1428), (5, .pointer (some ⟨b_B173_5, 0, none⟩))] a ∧ MemL w (pt b_B173_5 (LTurn.enc x1455) 128 :: pt b_B173_1 (RMark.enc (RMark.mk x0.at_ x0.next x0.done s1 s3 s5 s9)) 60 :: Lr)) (fun o_j4 hP hK_j4 hF hM => ?_) ?_
      · refine c_region ?_
        refine s_val hF (r_fieldAddr (off' := 0) Tryz.underlying128 rfl in3 rfl hF rfl rfl rfl) rfl rfl rfl fun a hF => ?_
        refine s_val hF (r_load1 Tryz.isAgg3 hF rfl rfl (hM.cell (i := 0) rfl (LTurn.g_reg _))) rfl rfl rfl fun a hF => ?_
        refine s_val hF (r_move hF rfl rfl) rfl rfl rfl fun a hF => ?_
        refine s_val hF (r_add hF rfl rfl rfl) rfl rfl rfl fun a hF => ?_
        obtain ⟨y1476, hy1476, hP⟩ := bind_some hP
        refine s_eff hF rfl rfl rfl (w_call (xs := [.tmp 32, .tmp 34, .const (.int .i64 (10))]) Tryz.call124 hF rfl rfl (trace_within_calls hy1476 hM ) fun v w hR => ?_)
        obtain ⟨rfl, hM⟩ := hR
        replace hM : MemL _ (pt b_B173_5 (LTurn.enc x1455) 128 :: pt b_B173_1 (RMark.enc (RMark.mk x0.at_ x0.next x0.done s1 s3 s5 s9)) 60 :: Lr) := hM
        intro a hF
        refine s_val hF (r_not hF rfl rfl) rfl rfl rfl fun a hF => ?_
        refine s_val hF (r_move hF rfl rfl) rfl rfl rfl fun a hF => ?_
        refine g_split 37 hF rfl (fun hb1477 => ?_) (fun hb1477 => ?_)
        · have hP := Fx.cT hb1477 hP
          refine g_skip hF rfl rfl rfl hb1477 rfl rfl fun a hF => ?_
          refine g_skip hF rfl rfl rfl hb1477 rfl rfl fun a hF => ?_
          refine g_skip hF rfl rfl rfl hb1477 rfl rfl fun a hF => ?_
          refine g_skip hF rfl rfl rfl hb1477 rfl rfl fun a hF => ?_
          refine g_skip hF rfl rfl rfl hb1477 rfl rfl fun a hF => ?_
          refine s_val hF (r_pick1 hF rfl rfl hb1477 rfl) rfl rfl rfl fun a hF => ?_
          refine c_nil (n_then ?_)
          have hP := Option.some.inj hP
          subst hP
          exact ⟨true, rfl, hF.to ⟨rfl, rfl, rfl, rfl, rfl, rfl, rfl, rfl, trivial⟩, hM⟩
        have hP := Fx.cF hb1477 hP
        refine g_val hF rfl rfl rfl hb1477 (r_fieldAddr (off' := 1) Tryz.underlying128 rfl in46 rfl hF rfl rfl rfl) rfl rfl fun a hF => ?_
        refine g_val hF rfl rfl rfl hb1477 (r_loadn Tryz.isAgg46 Tryz.sizeOf46 hF rfl rfl (LVal.len _) (hM.cells (i := 0) rfl (LTurn.c_old _))) rfl rfl fun a hF => ?_
        refine g_val hF rfl rfl rfl hb1477 (r_fieldAddr (off' := 5) Tryz.underlying128 rfl in46 rfl hF rfl rfl rfl) rfl rfl fun a hF => ?_
        refine g_val hF rfl rfl rfl hb1477 (r_loadn Tryz.isAgg46 Tryz.sizeOf46 hF rfl rfl (LVal.len _) (hM.cells (i := 0) rfl (LTurn.c_new _))) rfl rfl fun a hF => ?_
        refine g_val hF rfl rfl rfl hb1477 (r_eqlA Tryz.eqGuardType46 (eq_LVal _ _ _ _ (by decide)) hF rfl rfl rfl) rfl rfl fun a hF => ?_
        refine s_val hF (r_pick0 hF rfl rfl hb1477 rfl) rfl rfl rfl fun a hF => ?_
        refine c_nil (n_then ?_)
        have hP := Option.some.inj hP
        subst hP
        exact ⟨(decide (x1455.old = x1455.new)), rfl, hF.to ⟨rfl, rfl, rfl, rfl, rfl, rfl, rfl, rfl, trivial⟩, hM⟩
      rintro v1474 a w hP ⟨hF, hM⟩
      replace hP : Sh.trace_plain_j4 v1427 x1455 v1474 = _ := hP
      unfold Sh.trace_plain_j4 at hP
      refine n_then ?_
      refine c_cond hF (c := .tmp 43) rfl (fun hb1478 => ?_) (fun hb1478 => ?_)
      · have hP := Fx.cT hb1478 hP
        refine c_seq ?_
        refine c_region ?_
        refine s_val hF (r_assign hF rfl rfl) rfl rfl rfl fun a hF => ?_
        refine c_nil (n_then ?_)
        refine c_ret ?_
        have hP := Option.some.inj hP
        subst hP
        have hP := hK_l3 _ rfl
        subst hP
        have hP := fin_inr hK_j2
        subst hP
        refine e_ret1 Tryz.results173 hF rfl ?_
        exact ⟨rfl, selM hM [] 2 rfl⟩
      have hP := Fx.cF hb1478 hP
      refine c_skip (n_then ?_)
      refine c_region ?_
      refine s_val hF (r_fieldAddr (off' := 0) Tryz.underlying128 rfl in3 rfl hF rfl rfl rfl) rfl rfl rfl fun a hF => ?_
      refine s_val hF (r_load1 Tryz.isAgg3 hF rfl rfl (hM.cell (i := 0) rfl (LTurn.g_reg _))) rfl rfl rfl fun a hF => ?_
      refine s_val hF (r_assign hF rfl rfl) rfl rfl rfl fun a hF => ?_
      refine c_nil (n_block (n_then ?_))
      refine c_region ?_
      refine s_val hF (r_add hF rfl rfl rfl) rfl rfl rfl fun a hF => ?_
      refine s_val hF (r_move hF rfl rfl) rfl rfl rfl fun a hF => ?_
      refine c_nil (n_then ?_)
      have hP := Option.some.inj hP
      subst hP
      exact ⟨((IntKind.i64.wrap (v1427 + 1)), x1455.reg), rfl, hF.to ⟨rfl, rfl, rfl, rfl, rfl, rfl, trivial⟩, selM hM [1] 2 rfl⟩
    have hP := Fx.cF hb1430 hP
    refine c_exit (x_then (x_then (x_hit ?_)))
    refine n_then ?_
    have hP := Option.some.inj hP
    subst hP
    have hP := hK_l3 _ rfl
    subst hP
    exact ⟨(), rfl, hF.to ⟨rfl, rfl, trivial⟩, hM⟩
  rintro ⟨⟩ a w hP ⟨hF, hM⟩
  replace hP : Sh.trace_plain_j2 x0 = _ := hP
  unfold Sh.trace_plain_j2 at hP
  refine n_then ?_
  refine c_seq ?_
  refine c_region ?_
  refine s_val hF (r_assign hF rfl rfl) rfl rfl rfl fun a hF => ?_
  refine c_nil (n_then ?_)
  refine c_seq ?_
  refine c_joinX hF hM hP (fun F x a w => match x with | _ => Fr 73 [(1, .pointer (some ⟨b_B173_1, 0, none⟩)), (2, .bool false)] a ∧ MemL w (pt b_B173_1 (RMark.enc (RMark.mk x0.at_ x0.next x0.done s1 s3 s5 s9)) 60 :: Lr)) (fun o_j5 hP hK_j5 hF hM => ?_) ?_
  · refine c_seq ?_
    refine c_region ?_
    refine s_val hF (r_fieldAddr (off' := 4) Tryz.underlying60 rfl in57 rfl hF rfl rfl rfl) rfl rfl rfl fun a hF => ?_
    refine s_val hF (r_load1 Tryz.isAgg57 hF rfl rfl (hM.cell (i := 0) rfl (RMark.g_slots _))) rfl rfl rfl fun a hF => ?_
    refine s_val hF (r_lenL (f4 _ (hsub _ (dropM hM 1))) Tryz.underlying57 hF rfl rfl) rfl rfl rfl fun a hF => ?_
    refine s_val hF (r_move hF rfl rfl) rfl rfl rfl fun a hF => ?_
    refine c_nil (n_then ?_)
    refine c_block ?_
    refine c_loopX hF hM hP (fun F x a w => match x with | (v1889, v1890) => Fr 73 [(3, .int .i64 v1889), (50, .int .i64 v1890), (1, .pointer (some ⟨b_B173_1, 0, none⟩)), (2, .bool false), (48, (s3).v), (49, .int .i64 (x0.slots.length : Int))] a ∧ MemL w (pt b_B173_1 (RMark.enc (RMark.mk x0.at_ x0.next x0.done s1 s3 s5 s9)) 60 :: Lr)) (fun hF hM => ⟨hF.to ⟨rfl, rfl, rfl, rfl, rfl, rfl, trivial⟩, hM⟩) ?_
    rintro ⟨v1889, v1890⟩ a w o_l6 hP hK_l6 ⟨hF, hM⟩
    replace hP : Sh.trace_plain_l6 x0 v1889 v1890 = _ := hP
    unfold Sh.trace_plain_l6 at hP
    refine c_seq ?_
    refine c_region ?_
    refine s_val hF (r_lss hF rfl rfl rfl) rfl rfl rfl fun a hF => ?_
    refine c_nil (n_then ?_)
    refine c_seq ?_
    refine c_cond hF (c := .tmp 51) rfl (fun hb1892 => ?_) (fun hb1892 => ?_)
    · have hP := Fx.cT hb1892 hP
      refine c_skip (n_then ?_)
      refine c_seq ?_
      refine c_block ?_
      refine c_seq ?_
      refine c_region ?_
      obtain ⟨x1917, hx1917, hP⟩ := bind_some hP
      have h0x1917 := get_some hx1917
      refine s_val hF (r_indexZ (sz := 27) (f4 _ (hsub _ (dropM hM 1))) Tryz.underlying57 in151 rfl hF rfl rfl rfl (get_bd hx1917)) rfl rfl rfl fun a hF => ?_
      refine s_val hF (r_loadn Tryz.isAgg151 Tryz.sizeOf151 hF rfl rfl (LCell.len _) (((f4 _ (hsub _ (dropM hM 1))).elemS h0x1917.2))) rfl rfl rfl fun a hF => ?_
      refine s_eff hF rfl rfl rfl (w_alloc z151 (zs := LCell.zero.enc) rfl rfl fun b_B173_7 w hzB173_7 hAB173_7 => ?_)
      have hM := hM.plus hAB173_7
      replace hM : MemL _ (pt b_B173_7 (LCell.enc LCell.zero) 151 :: pt b_B173_1 (RMark.enc (RMark.mk x0.at_ x0.next x0.done s1 s3 s5 s9)) 60 :: Lr) := hM
      intro a hF
      refine s_eff0 rfl rfl (w_storen (vs := _) Tryz.sizeOf151 (hM.obj (i := 0) rfl) hF rfl rfl rfl rfl (LCell.len _) (LCell.one _) (by first | (rw [LCell.len, LCell.len]; decide) | (rw [LCell.len]; decide)) (put_all ((LCell.len _).trans (LCell.len _).symm)) fun w hU1918 => ?_)
      have hM := hM.chg hU1918 (i := 0) rfl
      replace hM : MemL _ (pt b_B173_7 (LCell.enc x1917) 151 :: pt b_B173_1 (RMark.enc (RMark.mk x0.at_ x0.next x0.done s1 s3 s5 s9)) 60 :: Lr) := hM
      refine c_nil (n_then ?_)
      refine c_seq ?_
      refine c_seq ?_
      refine c_joinX hF hM hP (fun F x a w => match x with | v1936 => Fr 73 [(66, .bool v1936), (1, .pointer (some ⟨b_B173_1, 0, none⟩)), (2, .bool false), (3, .int .i64 v1889), (48, (s3).v), (49, .int .i64 (x0.slots.length : Int)), (50, .int .i64 v1890), (7, .pointer (some ⟨b_B173_7, 0, none⟩))] a ∧ MemL w (pt b_B173_7 (LCell.enc x1917) 151 :: pt b_B173_1 (RMark.enc (RMark.mk x0.at_ x0.next x0.done s1 s3 s5 s9)) 60 :: Lr)) (fun o_j7 hP hK_j7 hF hM => ?_) ?_
      · refine c_region ?_
        refine s_val hF (r_fieldAddr (off' := 0) Tryz.underlying151 rfl in3 rfl hF rfl rfl rfl) rfl rfl rfl fun a hF => ?_
        refine s_val hF (r_load1 Tryz.isAgg3 hF rfl rfl (hM.cell (i := 0) rfl (LCell.g_slot _))) rfl rfl rfl fun a hF => ?_
        refine s_val hF (r_move hF rfl rfl) rfl rfl rfl fun a hF => ?_
        refine s_val hF (r_add hF rfl rfl rfl) rfl rfl rfl fun a hF => ?_
        obtain ⟨y1938, hy1938, hP⟩ := bind_some hP
        refine s_eff hF rfl rfl rfl (w_call (xs := [.tmp 55, .tmp 57, .const (.int .i64 (31))]) Tryz.call124 hF rfl rfl (trace_within_calls hy1938 hM ) fun v w hR => ?_)
        obtain ⟨rfl, hM⟩ := hR
        replace hM : MemL _ (pt b_B173_7 (LCell.enc x1917) 151 :: pt b_B173_1 (RMark.enc (RMark.mk x0.at_ x0.next x0.done s1 s3 s5 s9)) 60 :: Lr) := hM
        intro a hF
        refine s_val hF (r_not hF rfl rfl) rfl rfl rfl fun a hF => ?_
        refine s_val hF (r_move hF rfl rfl) rfl rfl rfl fun a hF => ?_
        refine g_split 60 hF rfl (fun hb1939 => ?_) (fun hb1939 => ?_)
        · have hP := Fx.cT hb1939 hP
          refine g_skip hF rfl rfl rfl hb1939 rfl rfl fun a hF => ?_
          refine g_skip hF rfl rfl rfl hb1939 rfl rfl fun a hF => ?_
          refine g_skip hF rfl rfl rfl hb1939 rfl rfl fun a hF => ?_
          refine g_skip hF rfl rfl rfl hb1939 rfl rfl fun a hF => ?_
          refine g_skip hF rfl rfl rfl hb1939 rfl rfl fun a hF => ?_
          refine s_val hF (r_pick1 hF rfl rfl hb1939 rfl) rfl rfl rfl fun a hF => ?_
          refine c_nil (n_then ?_)
          have hP := Option.some.inj hP
          subst hP
          exact ⟨true, rfl, hF.to ⟨rfl, rfl, rfl, rfl, rfl, rfl, rfl, rfl, trivial⟩, hM⟩
        have hP := Fx.cF hb1939 hP
        refine g_val hF rfl rfl rfl hb1939 (r_fieldAddr (off' := 1) Tryz.underlying151 rfl in50 rfl hF rfl rfl rfl) rfl rfl fun a hF => ?_
        refine g_val hF rfl rfl rfl hb1939 (r_loadn Tryz.isAgg50 Tryz.sizeOf50 hF rfl rfl (LSlot.len _) (hM.cells (i := 0) rfl (LCell.c_old _))) rfl rfl fun a hF => ?_
        refine g_val hF rfl rfl rfl hb1939 (r_fieldAddr (off' := 14) Tryz.underlying151 rfl in50 rfl hF rfl rfl rfl) rfl rfl fun a hF => ?_
        refine g_val hF rfl rfl rfl hb1939 (r_loadn Tryz.isAgg50 Tryz.sizeOf50 hF rfl rfl (LSlot.len _) (hM.cells (i := 0) rfl (LCell.c_new _))) rfl rfl fun a hF => ?_
        refine g_val hF rfl rfl rfl hb1939 (r_eqlA Tryz.eqGuardType50 (eq_LSlot _ _ _ _ (by decide)) hF rfl rfl rfl) rfl rfl fun a hF => ?_
        refine s_val hF (r_pick0 hF rfl rfl hb1939 rfl) rfl rfl rfl fun a hF => ?_
        refine c_nil (n_then ?_)
        have hP := Option.some.inj hP
        subst hP
        exact ⟨(decide (x1917.old = x1917.new)), rfl, hF.to ⟨rfl, rfl, rfl, rfl, rfl, rfl, rfl, rfl, trivial⟩, hM⟩
      rintro v1936 a w hP ⟨hF, hM⟩
      replace hP : Sh.trace_plain_j7 v1890 x1917 v1936 = _ := hP
      unfold Sh.trace_plain_j7 at hP
      refine n_then ?_
      refine c_cond hF (c := .tmp 66) rfl (fun hb1940 => ?_) (fun hb1940 => ?_)
      · have hP := Fx.cT hb1940 hP
        refine c_seq ?_
        refine c_region ?_
        refine s_val hF (r_assign hF rfl rfl) rfl rfl rfl fun a hF => ?_
        refine c_nil (n_then ?_)
        refine c_ret ?_
        have hP := Option.some.inj hP
        subst hP
        have hP := hK_l6 _ rfl
        subst hP
        have hP := fin_inr hK_j5
        subst hP
        refine e_ret1 Tryz.results173 hF rfl ?_
        exact ⟨rfl, selM hM [] 2 rfl⟩
      have hP := Fx.cF hb1940 hP
      refine c_skip (n_then ?_)
      refine c_region ?_
      refine s_val hF (r_fieldAddr (off' := 0) Tryz.underlying151 rfl in3 rfl hF rfl rfl rfl) rfl rfl rfl fun a hF => ?_
      refine s_val hF (r_load1 Tryz.isAgg3 hF rfl rfl (hM.cell (i := 0) rfl (LCell.g_slot _))) rfl rfl rfl fun a hF => ?_
      refine s_val hF (r_assign hF rfl rfl) rfl rfl rfl fun a hF => ?_
      refine c_nil (n_block (n_then ?_))
      refine c_region ?_
      refine s_val hF (r_add hF rfl rfl rfl) rfl rfl rfl fun a hF => ?_
      refine s_val hF (r_move hF rfl rfl) rfl rfl rfl fun a hF => ?_
      refine c_nil (n_then ?_)
      have hP := Option.some.inj hP
      subst hP
      exact ⟨(x1917.slot, (IntKind.i64.wrap (v1890 + 1))), rfl, hF.to ⟨rfl, rfl, rfl, rfl, rfl, rfl, trivial⟩, selM hM [1] 2 rfl⟩
    have hP := Fx.cF hb1892 hP
    refine c_exit (x_then (x_then (x_hit ?_)))
    refine n_then ?_
    have hP := Option.some.inj hP
    subst hP
    have hP := hK_l6 _ rfl
    subst hP
    exact ⟨(), rfl, hF.to ⟨rfl, rfl, trivial⟩, hM⟩
  rintro ⟨⟩ a w hP ⟨hF, hM⟩
  replace hP : Sh.trace_plain_j5 x0 = _ := hP
  unfold Sh.trace_plain_j5 at hP
  refine n_then ?_
  refine c_seq ?_
  refine c_region ?_
  refine s_val hF (r_fieldAddr (off' := 5) Tryz.underlying60 rfl in58 rfl hF rfl rfl rfl) rfl rfl rfl fun a hF => ?_
  refine s_val hF (r_load1 Tryz.isAgg58 hF rfl rfl (hM.cell (i := 0) rfl (RMark.g_pieces _))) rfl rfl rfl fun a hF => ?_
  obtain ⟨y1942, hy1942, hP⟩ := bind_some hP
  refine s_eff hF rfl rfl rfl (w_call (xs := [.tmp 71]) Tryz.call227 hF rfl rfl (trace_plainPieces_calls hy1942 hM (Bf := Bf) (fun w hM => hsub _ (dropM hM 1)) f7 q8) fun v w hR => ?_)
  obtain ⟨rfl, hM⟩ := hR
  replace hM : MemL _ (pt b_B173_1 (RMark.enc (RMark.mk x0.at_ x0.next x0.done s1 s3 s5 s9)) 60 :: Lr) := hM
  intro a hF
  refine s_val hF (r_assign hF rfl rfl) rfl rfl rfl fun a hF => ?_
  refine c_nil (n_then ?_)
  refine c_ret ?_
  have hP := Option.some.inj hP
  subst hP
  refine e_ret1 Tryz.results173 hF rfl ?_
  exact ⟨rfl, selM hM [] 1 rfl⟩
end Go.Proofs
end
section
namespace Go.Proofs
open Go.Fw Go.Fx
set_option maxRecDepth 10000
set_option linter.unusedVariables false
set_option linter.unusedSimpArgs false
set_option maxHeartbeats 4000000 in
theorem ref23_cursor_fault_calls {x0 : QCursor} {x1 : Int} {x2 : Int} {s1 : SV} {b0 : Nat} {out : QCursor} {w0 : World} {Bf : World → Prop} {Lr : List Res} (hP : Sh.ref23_cursor_fault x0 x1 x2 = some out) (hM : MemL w0 (pt b0 (RCursor.enc (RCursor.mk s1 x0.at_ x0.place x0.e)) 184 :: Lr)) (hsub : ∀ w, MemL w Lr → Bf w) (f2 : LIn Bf s1 x0.b) : Calls Tryz.prog 119 #[.pointer (some ⟨b0, 0, none⟩), .int .i64 x1, .int .i64 x2] w0 (Ret fun v w' => ∃ (s6 : SV), v = .tuple #[] ∧ LIn Bf s6 out.b ∧ MemL w' (pt b0 (RCursor.enc (RCursor.mk s6 out.at_ out.place out.e)) 184 :: Lr)) := by
  unfold Sh.ref23_cursor_fault at hP
  refine calls_enter (vs := [.pointer (some ⟨b0, 0, none⟩), .int .i64 x1, .int .i64 x2]) Tryz.func119 rfl Tryz.ntmps119 rfl fun a hF => ?_
  refine c_seq ?_
  refine c_region ?_
  refine s_val hF (r_move hF rfl rfl) rfl rfl rfl fun a hF => ?_
  refine s_val hF (r_nilCheckP hF rfl rfl) rfl rfl rfl fun a hF => ?_
  refine s_val hF (r_fieldAddr (off' := 3) Tryz.underlying184 rfl in3 rfl hF rfl rfl rfl) rfl rfl rfl fun a hF => ?_
  refine s_val hF (r_load1 Tryz.isAgg3 hF rfl rfl (hM.cell (i := 0) rfl (RCursor.g_e _))) rfl rfl rfl fun a hF => ?_
  refine s_val hF (r_eql hF rfl rfl rfl) rfl rfl rfl fun a hF => ?_
  refine c_nil (n_then ?_)
  refine c_cond hF (c := .tmp 10) rfl (fun hb8 => ?_) (fun hb8 => ?_)
  · have hP := Fx.cT hb8 hP
    refine c_seq ?_
    refine c_region ?_
    refine s_val hF (r_move hF rfl rfl) rfl rfl rfl fun a hF => ?_
    refine s_val hF (r_move hF rfl rfl) rfl rfl rfl fun a hF => ?_
    refine s_val hF (r_nilCheckP hF rfl rfl) rfl rfl rfl fun a hF => ?_
    refine s_val hF (r_fieldAddr (off' := 2) Tryz.underlying184 rfl in3 rfl hF rfl rfl rfl) rfl rfl rfl fun a hF => ?_
    refine s_eff0 rfl rfl (w_store1 Tryz.sizeOf3 (hM.obj (i := 0) rfl) hF rfl rfl rfl rfl (by rw [RCursor.len]; decide) (RCursor.s_place _ _) fun w hU9 => ?_)
    have hM := hM.chg hU9 (i := 0) rfl
    replace hM : MemL _ (pt b0 (RCursor.enc (RCursor.mk s1 x0.at_ x1 x0.e)) 184 :: Lr) := hM
    refine c_nil (n_then ?_)
    refine c_region ?_
    refine s_val hF (r_move hF rfl rfl) rfl rfl rfl fun a hF => ?_
    refine s_val hF (r_move hF rfl rfl) rfl rfl rfl fun a hF => ?_
    refine s_val hF (r_nilCheckP hF rfl rfl) rfl rfl rfl fun a hF => ?_
    refine s_val hF (r_fieldAddr (off' := 3) Tryz.underlying184 rfl in3 rfl hF rfl rfl rfl) rfl rfl rfl fun a hF => ?_
    refine s_eff0 rfl rfl (w_store1 Tryz.sizeOf3 (hM.obj (i := 0) rfl) hF rfl rfl rfl rfl (by rw [RCursor.len]; decide) (RCursor.s_e _ _) fun w hU10 => ?_)
    have hM := hM.chg hU10 (i := 0) rfl
    replace hM : MemL _ (pt b0 (RCursor.enc (RCursor.mk s1 x0.at_ x1 x2)) 184 :: Lr) := hM
    refine c_nil ?_
    have hP := Option.some.inj hP
    subst hP
    refine e_end0 Tryz.results119 hF ?_
    exact ⟨s1, rfl, f2, hM⟩
  have hP := Fx.cF hb8 hP
  refine c_skip ?_
  have hP := Option.some.inj hP
  subst hP
  refine e_end0 Tryz.results119 hF ?_
  exact ⟨s1, rfl, f2, hM⟩
set_option maxHeartbeats 4000000 in
theorem ref23_cursor_number_calls {x0 : QCursor} {x1 : Int} {s1 : SV} {b0 : Nat} {out : (Int × QCursor)} {w0 : World} {Bf : World → Prop} {Lr : List Res} (hP : Sh.ref23_cursor_number x0 x1 = some out) (hM : MemL w0 (pt b0 (RCursor.enc (RCursor.mk s1 x0.at_ x0.place x0.e)) 184 :: Lr)) (hsub : ∀ w, MemL w Lr → Bf w) (f2 : LIn Bf s1 x0.b) : Calls Tryz.prog 121 #[.pointer (some ⟨b0, 0, none⟩), .int .i64 x1] w0 (Ret fun v w' => ∃ (s85 : SV), v = .int .i64 out.1 ∧ LIn Bf s85 out.2.b ∧ MemL w' (pt b0 (RCursor.enc (RCursor.mk s85 out.2.at_ out.2.place out.2.e)) 184 :: Lr)) := by
  unfold Sh.ref23_cursor_number at hP
  refine calls_enter (vs := [.pointer (some ⟨b0, 0, none⟩), .int .i64 x1]) Tryz.func121 rfl Tryz.ntmps121 rfl fun a hF => ?_
  refine c_seq ?_
  refine c_region ?_
  refine s_val hF (r_assign hF rfl rfl) rfl rfl rfl fun a hF => ?_
  refine c_nil (n_then ?_)
  refine c_seq ?_
  refine c_joinX hF hM hP (fun F x a w => match x with | v105 => ∃ (s106 : SV), LIn Bf s106 v105.b ∧ Fr 71 [(0, .pointer (some ⟨b0, 0, none⟩)), (1, .int .i64 x1), (4, .int .i64 0)] a ∧ MemL w (pt b0 (RCursor.enc (RCursor.mk s106 v105.at_ v105.place v105.e)) 184 :: Lr)) (fun o_j1 hP hK_j1 hF hM => ?_) ?_
  · refine c_seq ?_
    refine c_joinX hF hM hP (fun F x a w => match x with | v110 => Fr 71 [(25, .bool v110), (0, .pointer (some ⟨b0, 0, none⟩)), (1, .int .i64 x1), (4, .int .i64 0)] a ∧ MemL w (pt b0 (RCursor.enc (RCursor.mk s1 x0.at_ x0.place x0.e)) 184 :: Lr)) (fun o_j2 hP hK_j2 hF hM => ?_) ?_
    · refine d_startT mixed (by kernel_rfl) hM [0] 1 rfl fun hch => ?_
      refine d_val hF hch 0 rfl (by kernel_rfl) rfl rfl rfl (fun w hM => (r_move hF rfl rfl)) fun a hF => ?_
      refine d_val hF hch 1 rfl (by kernel_rfl) rfl rfl rfl (fun w hM => (r_nilCheckP hF rfl rfl)) fun a hF => ?_
      refine d_val hF hch 2 rfl (by kernel_rfl) rfl rfl rfl (fun w hM => (r_fieldAddr (off' := 3) Tryz.underlying184 rfl in3 rfl hF rfl rfl rfl)) fun a hF => ?_
      refine d_val hF hch 3 rfl (by kernel_rfl) rfl rfl rfl (fun w hM => (r_load1 Tryz.isAgg3 hF rfl rfl (hM.cell (i := 0) rfl (RCursor.g_e _)))) fun a hF => ?_
      refine d_val hF hch 4 rfl (by kernel_rfl) rfl rfl rfl (fun w hM => (r_eql hF rfl rfl rfl)) fun a hF => ?_
      refine d_val hF hch 5 rfl (by kernel_rfl) rfl rfl rfl (fun w hM => (r_move hF rfl rfl)) fun a hF => ?_
      refine g_split 12 hF rfl (fun hb111 => ?_) (fun hb111 => ?_)
      · have hP := Fx.cT hb111 hP
        refine d_valg hF hch 6 rfl (by kernel_rfl) rfl rfl rfl hb111 rfl rfl (fun w hM => (r_move hF rfl rfl)) fun a hF => ?_
        refine d_valg hF hch 7 rfl (by kernel_rfl) rfl rfl rfl hb111 rfl rfl (fun w hM => (r_nilCheckP hF rfl rfl)) fun a hF => ?_
        refine d_valg hF hch 8 rfl (by kernel_rfl) rfl rfl rfl hb111 rfl rfl (fun w hM => (r_fieldAddr (off' := 1) Tryz.underlying184 rfl in3 rfl hF rfl rfl rfl)) fun a hF => ?_
        refine d_valg hF hch 9 rfl (by kernel_rfl) rfl rfl rfl hb111 rfl rfl (fun w hM => (r_load1 Tryz.isAgg3 hF rfl rfl (hM.cell (i := 0) rfl (RCursor.g_at_ _)))) fun a hF => ?_
        refine d_valg hF hch 10 rfl (by kernel_rfl) rfl rfl rfl hb111 rfl rfl (fun w hM => (r_move hF rfl rfl)) fun a hF => ?_
        refine d_valg hF hch 11 rfl (by kernel_rfl) rfl rfl rfl hb111 rfl rfl (fun w hM => (r_add hF rfl rfl rfl)) fun a hF => ?_
        refine d_valg hF hch 12 rfl (by kernel_rfl) rfl rfl rfl hb111 rfl rfl (fun w hM => (r_move hF rfl rfl)) fun a hF => ?_
        refine d_valg hF hch 13 rfl (by kernel_rfl) rfl rfl rfl hb111 rfl rfl (fun w hM => (r_nilCheckP hF rfl rfl)) fun a hF => ?_
        refine d_valg hF hch 14 rfl (by kernel_rfl) rfl rfl rfl hb111 rfl rfl (fun w hM => (r_fieldAddr (off' := 0) Tryz.underlying184 rfl in23 rfl hF rfl rfl rfl)) fun a hF => ?_
        refine d_valg hF hch 15 rfl (by kernel_rfl) rfl rfl rfl hb111 rfl rfl (fun w hM => (r_load1 Tryz.isAgg23 hF rfl rfl (hM.cell (i := 0) rfl (RCursor.g_b _)))) fun a hF => ?_
        refine d_valg hF hch 16 rfl (by kernel_rfl) rfl rfl rfl hb111 rfl rfl (fun w hM => (r_lenL (f2 _ (hsub _ (dropM hM 1))) Tryz.underlying23 hF rfl rfl)) fun a hF => ?_
        refine d_valg hF hch 17 rfl (by kernel_rfl) rfl rfl rfl hb111 rfl rfl (fun w hM => (r_gtr hF rfl rfl rfl)) fun a hF => ?_
        refine d_val hF hch 18 rfl (by kernel_rfl) rfl rfl rfl (fun w hM => (r_pick1 hF rfl rfl hb111 rfl)) fun a hF => ?_
        refine d_end hch (by kernel_rfl) fun w hM => ?_
        refine n_then ?_
        have hP := Option.some.inj hP
        subst hP
        exact ⟨(decide ((x0.b.length : Int) < (IntKind.i64.wrap (x0.at_ + x1)))), rfl, hF.to ⟨rfl, rfl, rfl, rfl, trivial⟩, hM⟩
      have hP := Fx.cF hb111 hP
      refine d_skip hF hch 6 rfl (by kernel_rfl) rfl rfl rfl hb111 rfl rfl fun a hF => ?_
      refine d_skip hF hch 7 rfl (by kernel_rfl) rfl rfl rfl hb111 rfl rfl fun a hF => ?_
      refine d_skip hF hch 8 rfl (by kernel_rfl) rfl rfl rfl hb111 rfl rfl fun a hF => ?_
      refine d_skip hF hch 9 rfl (by kernel_rfl) rfl rfl rfl hb111 rfl rfl fun a hF => ?_
      refine d_skip hF hch 10 rfl (by kernel_rfl) rfl rfl rfl hb111 rfl rfl fun a hF => ?_
      refine d_skip hF hch 11 rfl (by kernel_rfl) rfl rfl rfl hb111 rfl rfl fun a hF => ?_
      refine d_skip hF hch 12 rfl (by kernel_rfl) rfl rfl rfl hb111 rfl rfl fun a hF => ?_
      refine d_skip hF hch 13 rfl (by kernel_rfl) rfl rfl rfl hb111 rfl rfl fun a hF => ?_
      refine d_skip hF hch 14 rfl (by kernel_rfl) rfl rfl rfl hb111 rfl rfl fun a hF => ?_
      refine d_skip hF hch 15 rfl (by kernel_rfl) rfl rfl rfl hb111 rfl rfl fun a hF => ?_
      refine d_skip hF hch 16 rfl (by kernel_rfl) rfl rfl rfl hb111 rfl rfl fun a hF => ?_
      refine d_skip hF hch 17 rfl (by kernel_rfl) rfl rfl rfl hb111 rfl rfl fun a hF => ?_
      refine d_val hF hch 18 rfl (by kernel_rfl) rfl rfl rfl (fun w hM => (r_pick0 hF rfl rfl hb111 rfl)) fun a hF => ?_
      refine d_end hch (by kernel_rfl) fun w hM => ?_
      refine n_then ?_
      have hP := Option.some.inj hP
      subst hP
      exact ⟨false, rfl, hF.to ⟨rfl, rfl, rfl, rfl, trivial⟩, hM⟩
    rintro v110 a w hP ⟨hF, hM⟩
    replace hP : Sh.ref23_cursor_number_j2 x0 v110 = _ := hP
    unfold Sh.ref23_cursor_number_j2 at hP
    refine n_then ?_
    refine c_cond hF (c := .tmp 25) rfl (fun hb112 => ?_) (fun hb112 => ?_)
    · have hP := Fx.cT hb112 hP
      refine c_region ?_
      refine s_val hF (r_move hF rfl rfl) rfl rfl rfl fun a hF => ?_
      refine s_val hF (r_move hF rfl rfl) rfl rfl rfl fun a hF => ?_
      refine s_val hF (r_nilCheckP hF rfl rfl) rfl rfl rfl fun a hF => ?_
      refine s_val hF (r_fieldAddr (off' := 0) Tryz.underlying184 rfl in23 rfl hF rfl rfl rfl) rfl rfl rfl fun a hF => ?_
      refine s_val hF (r_load1 Tryz.isAgg23 hF rfl rfl (hM.cell (i := 0) rfl (RCursor.g_b _))) rfl rfl rfl fun a hF => ?_
      refine s_val hF (r_lenL (f2 _ (hsub _ (dropM hM 1))) Tryz.underlying23 hF rfl rfl) rfl rfl rfl fun a hF => ?_
      obtain ⟨y114, hy114, hP⟩ := bind_some hP
      refine s_eff hF rfl rfl rfl (w_call (xs := [.tmp 26, .tmp 31, .const (.int .i64 (236))]) Tryz.call119 hF rfl rfl (ref23_cursor_fault_calls hy114 hM (Bf := Bf) (fun w hM => hsub _ (dropM hM 0)) f2) fun v w hR => ?_)
      obtain ⟨s115, rfl, f116, hM⟩ := hR
      replace hM : MemL _ (pt b0 (RCursor.enc (RCursor.mk s115 y114.at_ y114.place y114.e)) 184 :: Lr) := hM
      intro a hF
      refine c_nil (n_then ?_)
      have hP := Option.some.inj hP
      subst hP
      exact ⟨y114, rfl, s115, f116, hF.to ⟨rfl, rfl, rfl, trivial⟩, hM⟩
    have hP := Fx.cF hb112 hP
    refine c_skip (n_then ?_)
    have hP := Option.some.inj hP
    subst hP
    exact ⟨x0, rfl, s1, f2, hF.to ⟨rfl, rfl, rfl, trivial⟩, hM⟩
  rintro v105 a w hP ⟨s106, f107, hF, hM⟩
  replace hP : Sh.ref23_cursor_number_j1 x1 v105 = _ := hP
  unfold Sh.ref23_cursor_number_j1 at hP
  refine n_then ?_
  refine c_seq ?_
  refine c_seq ?_
  refine c_region ?_
  refine s_val hF (r_move hF rfl rfl) rfl rfl rfl fun a hF => ?_
  refine s_val hF (r_nilCheckP hF rfl rfl) rfl rfl rfl fun a hF => ?_
  refine s_val hF (r_fieldAddr (off' := 3) Tryz.underlying184 rfl in3 rfl hF rfl rfl rfl) rfl rfl rfl fun a hF => ?_
  refine s_val hF (r_load1 Tryz.isAgg3 hF rfl rfl (hM.cell (i := 0) rfl (RCursor.g_e _))) rfl rfl rfl fun a hF => ?_
  refine s_val hF (r_neq hF rfl rfl rfl) rfl rfl rfl fun a hF => ?_
  refine c_nil (n_then ?_)
  refine c_cond hF (c := .tmp 37) rfl (fun hb118 => ?_) (fun hb118 => ?_)
  · have hP := Fx.cT hb118 hP
    refine c_seq ?_
    refine c_region ?_
    refine s_val hF (r_assign hF rfl rfl) rfl rfl rfl fun a hF => ?_
    refine c_nil (n_then ?_)
    refine c_ret ?_
    have hP := Option.some.inj hP
    subst hP
    refine e_ret1 Tryz.results121 hF rfl ?_
    exact ⟨s106, rfl, f107, hM⟩
  have hP := Fx.cF hb118 hP
  refine c_skip (n_then ?_)
  refine c_seq ?_
  refine c_region ?_
  refine s_val hF (r_assign hF rfl rfl) rfl rfl rfl fun a hF => ?_
  refine c_nil (n_then ?_)
  refine c_seq ?_
  refine c_joinX hF hM hP (fun F x a w => match x with | v151 => Fr 71 [(5, .int .u64 v151), (0, .pointer (some ⟨b0, 0, none⟩)), (1, .int .i64 x1), (4, .int .i64 0)] a ∧ MemL w (pt b0 (RCursor.enc (RCursor.mk s106 v105.at_ v105.place v105.e)) 184 :: Lr)) (fun o_j3 hP hK_j3 hF hM => ?_) ?_
  · refine c_seq ?_
    refine c_region ?_
    refine s_val hF (r_move hF rfl rfl) rfl rfl rfl fun a hF => ?_
    refine s_val hF (r_sub hF rfl rfl rfl) rfl rfl rfl fun a hF => ?_
    refine s_val hF (r_assign hF rfl rfl) rfl rfl rfl fun a hF => ?_
    refine c_nil (n_then ?_)
    refine c_block ?_
    refine c_loopX hF hM hP (fun F x a w => match x with | (v162, v163) => Fr 71 [(5, .int .u64 v162), (6, .int .i64 v163), (0, .pointer (some ⟨b0, 0, none⟩)), (1, .int .i64 x1), (4, .int .i64 0)] a ∧ MemL w (pt b0 (RCursor.enc (RCursor.mk s106 v105.at_ v105.place v105.e)) 184 :: Lr)) (fun hF hM => ⟨hF.to ⟨rfl, rfl, rfl, rfl, rfl, trivial⟩, hM⟩) ?_
    rintro ⟨v162, v163⟩ a w o_l4 hP hK_l4 ⟨hF, hM⟩
    replace hP : Sh.ref23_cursor_number_l4 v105 v162 v163 = _ := hP
    unfold Sh.ref23_cursor_number_l4 at hP
    refine c_seq ?_
    refine c_seq ?_
    refine c_region ?_
    refine s_val hF (r_move hF rfl rfl) rfl rfl rfl fun a hF => ?_
    refine s_val hF (r_geq hF rfl rfl rfl) rfl rfl rfl fun a hF => ?_
    refine c_nil (n_then ?_)
    refine c_cond hF (c := .tmp 41) rfl (fun hb165 => ?_) (fun hb165 => ?_)
    · have hP := Fx.cT hb165 hP
      refine c_skip (n_then ?_)
      refine c_seq ?_
      refine c_block ?_
      refine d_startT mixed (by kernel_rfl) hM [0] 1 rfl fun hch => ?_
      refine d_val hF hch 0 rfl (by kernel_rfl) rfl rfl rfl (fun w hM => (r_move hF rfl rfl)) fun a hF => ?_
      refine d_val hF hch 1 rfl (by kernel_rfl) rfl rfl rfl (fun w hM => (r_mul hF rfl rfl rfl)) fun a hF => ?_
      refine d_val hF hch 2 rfl (by kernel_rfl) rfl rfl rfl (fun w hM => (r_move hF rfl rfl)) fun a hF => ?_
      refine d_val hF hch 3 rfl (by kernel_rfl) rfl rfl rfl (fun w hM => (r_nilCheckP hF rfl rfl)) fun a hF => ?_
      refine d_val hF hch 4 rfl (by kernel_rfl) rfl rfl rfl (fun w hM => (r_fieldAddr (off' := 0) Tryz.underlying184 rfl in23 rfl hF rfl rfl rfl)) fun a hF => ?_
      refine d_val hF hch 5 rfl (by kernel_rfl) rfl rfl rfl (fun w hM => (r_load1 Tryz.isAgg23 hF rfl rfl (hM.cell (i := 0) rfl (RCursor.g_b _)))) fun a hF => ?_
      refine d_val hF hch 6 rfl (by kernel_rfl) rfl rfl rfl (fun w hM => (r_move hF rfl rfl)) fun a hF => ?_
      refine d_val hF hch 7 rfl (by kernel_rfl) rfl rfl rfl (fun w hM => (r_nilCheckP hF rfl rfl)) fun a hF => ?_
      refine d_val hF hch 8 rfl (by kernel_rfl) rfl rfl rfl (fun w hM => (r_fieldAddr (off' := 1) Tryz.underlying184 rfl in3 rfl hF rfl rfl rfl)) fun a hF => ?_
      refine d_val hF hch 9 rfl (by kernel_rfl) rfl rfl rfl (fun w hM => (r_load1 Tryz.isAgg3 hF rfl rfl (hM.cell (i := 0) rfl (RCursor.g_at_ _)))) fun a hF => ?_
      refine d_val hF hch 10 rfl (by kernel_rfl) rfl rfl rfl (fun w hM => (r_move hF rfl rfl)) fun a hF => ?_
      refine d_val hF hch 11 rfl (by kernel_rfl) rfl rfl rfl (fun w hM => (r_add hF rfl rfl rfl)) fun a hF => ?_
      obtain ⟨x167, hx167, hP⟩ := bind_some hP
      have h0x167 := get_some hx167
      refine d_val hF hch 12 rfl (by kernel_rfl) rfl rfl rfl (fun w hM => (r_indexZ (sz := 1) (f107 _ (hsub _ (dropM hM 1))) Tryz.underlying23 in5 rfl hF rfl rfl rfl (get_bd hx167))) fun a hF => ?_
      refine d_val hF hch 13 rfl (by kernel_rfl) rfl rfl rfl (fun w hM => (r_load1 Tryz.isAgg5 hF rfl rfl ((((f107 _ (hsub _ (dropM hM 1))).elemS h0x167.2)).get 0 rfl))) fun a hF => ?_
      refine d_val hF hch 14 rfl (by kernel_rfl) rfl rfl rfl (fun w hM => (r_convU Tryz.underlying5 Tryz.underlying233 rfl hF rfl rfl)) fun a hF => ?_
      refine d_val hF hch 15 rfl (by kernel_rfl) rfl rfl rfl (fun w hM => (r_add hF rfl rfl rfl)) fun a hF => ?_
      refine d_one hch 16 (by kernel_rfl) rfl rfl ?_
      refine d_ex hF 16 rfl rfl rfl rfl rfl fun w hMs hM => Yd.val (r_assign hF rfl rfl) ?_
      refine ⟨_, _, hMs, hM, .inl fun _ h => h, fun a hF => ?_⟩
      refine d_end hch (by kernel_rfl) fun w hM => ?_
      refine n_block (n_then ?_)
      refine c_region ?_
      refine s_val hF (r_move hF rfl rfl) rfl rfl rfl fun a hF => ?_
      refine s_val hF (r_sub hF rfl rfl rfl) rfl rfl rfl fun a hF => ?_
      refine s_val hF (r_assign hF rfl rfl) rfl rfl rfl fun a hF => ?_
      refine c_nil (n_then ?_)
      have hP := Option.some.inj hP
      subst hP
      exact ⟨((IntKind.u64.wrap ((IntKind.u64.wrap (v162 * 256)) + (x167.toNat : Int))), (IntKind.i64.wrap (v163 - 1))), rfl, hF.to ⟨rfl, rfl, rfl, rfl, rfl, trivial⟩, hM⟩
    have hP := Fx.cF hb165 hP
    refine c_exit (x_then (x_then (x_hit ?_)))
    refine n_then ?_
    have hP := Option.some.inj hP
    subst hP
    have hP := hK_l4 _ rfl
    subst hP
    exact ⟨v162, rfl, hF.to ⟨rfl, rfl, rfl, rfl, trivial⟩, hM⟩
  rintro v151 a w hP ⟨hF, hM⟩
  replace hP : Sh.ref23_cursor_number_j3 x1 v105 v151 = _ := hP
  unfold Sh.ref23_cursor_number_j3 at hP
  refine n_then ?_
  refine c_seq ?_
  refine c_region ?_
  refine s_val hF (r_move hF rfl rfl) rfl rfl rfl fun a hF => ?_
  refine s_val hF (r_move hF rfl rfl) rfl rfl rfl fun a hF => ?_
  refine s_val hF (r_nilCheckP hF rfl rfl) rfl rfl rfl fun a hF => ?_
  refine s_val hF (r_fieldAddr (off' := 1) Tryz.underlying184 rfl in3 rfl hF rfl rfl rfl) rfl rfl rfl fun a hF => ?_
  refine s_val hF (r_load1 Tryz.isAgg3 hF rfl rfl (hM.cell (i := 0) rfl (RCursor.g_at_ _))) rfl rfl rfl fun a hF => ?_
  refine s_val hF (r_move hF rfl rfl) rfl rfl rfl fun a hF => ?_
  refine s_val hF (r_add hF rfl rfl rfl) rfl rfl rfl fun a hF => ?_
  refine s_val hF (r_nilCheckP hF rfl rfl) rfl rfl rfl fun a hF => ?_
  refine s_val hF (r_fieldAddr (off' := 1) Tryz.underlying184 rfl in3 rfl hF rfl rfl rfl) rfl rfl rfl fun a hF => ?_
  refine s_eff0 rfl rfl (w_store1 Tryz.sizeOf3 (hM.obj (i := 0) rfl) hF rfl rfl rfl rfl (by rw [RCursor.len]; decide) (RCursor.s_at_ _ _) fun w hU168 => ?_)
  have hM := hM.chg hU168 (i := 0) rfl
  replace hM : MemL _ (pt b0 (RCursor.enc (RCursor.mk s106 (IntKind.i64.wrap (v105.at_ + x1)) v105.place v105.e)) 184 :: Lr) := hM
  refine c_nil (n_then ?_)
  refine c_seq ?_
  refine c_region ?_
  refine s_val hF (r_move hF rfl rfl) rfl rfl rfl fun a hF => ?_
  refine s_val hF (r_conv Tryz.underlying233 Tryz.underlying3 hF rfl rfl) rfl rfl rfl fun a hF => ?_
  refine s_val hF (r_assign hF rfl rfl) rfl rfl rfl fun a hF => ?_
  refine c_nil (n_then ?_)
  refine c_ret ?_
  have hP := Option.some.inj hP
  subst hP
  refine e_ret1 Tryz.results121 hF rfl ?_
  exact ⟨s106, rfl, f107, hM⟩
set_option maxHeartbeats 4000000 in
theorem ref23_cursor_most_calls {x0 : QCursor} {x1 : Int} {x2 : Int} {s1 : SV} {b0 : Nat} {out : (Int × QCursor)} {w0 : World} {Bf : World → Prop} {Lr : List Res} (hP : Sh.ref23_cursor_most x0 x1 x2 = some out) (hM : MemL w0 (pt b0 (RCursor.enc (RCursor.mk s1 x0.at_ x0.place x0.e)) 184 :: Lr)) (hsub : ∀ w, MemL w Lr → Bf w) (f2 : LIn Bf s1 x0.b) : Calls Tryz.prog 122 #[.pointer (some ⟨b0, 0, none⟩), .int .i64 x1, .int .i64 x2] w0 (Ret fun v w' => ∃ (s39 : SV), v = .int .i64 out.1 ∧ LIn Bf s39 out.2.b ∧ MemL w' (pt b0 (RCursor.enc (RCursor.mk s39 out.2.at_ out.2.place out.2.e)) 184 :: Lr)) := by
  unfold Sh.ref23_cursor_most at hP
  refine calls_enter (vs := [.pointer (some ⟨b0, 0, none⟩), .int .i64 x1, .int .i64 x2]) Tryz.func122 rfl Tryz.ntmps122 rfl fun a hF => ?_
  refine c_seq ?_
  refine c_region ?_
  refine s_val hF (r_assign hF rfl rfl) rfl rfl rfl fun a hF => ?_
  refine c_nil (n_then ?_)
  refine c_seq ?_
  refine c_region ?_
  refine s_val hF (r_move hF rfl rfl) rfl rfl rfl fun a hF => ?_
  refine s_val hF (r_nilCheckP hF rfl rfl) rfl rfl rfl fun a hF => ?_
  refine s_val hF (r_fieldAddr (off' := 1) Tryz.underlying184 rfl in3 rfl hF rfl rfl rfl) rfl rfl rfl fun a hF => ?_
  refine s_val hF (r_load1 Tryz.isAgg3 hF rfl rfl (hM.cell (i := 0) rfl (RCursor.g_at_ _))) rfl rfl rfl fun a hF => ?_
  refine s_val hF (r_assign hF rfl rfl) rfl rfl rfl fun a hF => ?_
  refine c_nil (n_then ?_)
  refine c_seq ?_
  refine c_region ?_
  refine s_val hF (r_move hF rfl rfl) rfl rfl rfl fun a hF => ?_
  refine s_val hF (r_move hF rfl rfl) rfl rfl rfl fun a hF => ?_
  obtain ⟨y42, hy42, hP⟩ := bind_some hP
  refine s_eff hF rfl rfl rfl (w_call (xs := [.tmp 13, .tmp 14]) Tryz.call121 hF rfl rfl (ref23_cursor_number_calls hy42 hM (Bf := Bf) (fun w hM => hsub _ (dropM hM 0)) f2) fun v w hR => ?_)
  obtain ⟨s43, rfl, f44, hM⟩ := hR
  replace hM : MemL _ (pt b0 (RCursor.enc (RCursor.mk s43 y42.2.at_ y42.2.place y42.2.e)) 184 :: Lr) := hM
  intro a hF
  refine s_val hF (r_assign hF rfl rfl) rfl rfl rfl fun a hF => ?_
  refine c_nil (n_then ?_)
  refine c_seq ?_
  refine c_joinX hF hM hP (fun F x a w => match x with | v63 => ∃ (s64 : SV), LIn Bf s64 v63.b ∧ Fr 35 [(0, .pointer (some ⟨b0, 0, none⟩)), (6, .int .i64 0), (8, .int .i64 y42.1)] a ∧ MemL w (pt b0 (RCursor.enc (RCursor.mk s64 v63.at_ v63.place v63.e)) 184 :: Lr)) (fun o_j1 hP hK_j1 hF hM => ?_) ?_
  · refine c_seq ?_
    refine c_joinX hF hM hP (fun F x a w => match x with | v68 => Fr 35 [(25, .bool v68), (0, .pointer (some ⟨b0, 0, none⟩)), (6, .int .i64 0), (7, .int .i64 x0.at_), (8, .int .i64 y42.1)] a ∧ MemL w (pt b0 (RCursor.enc (RCursor.mk s43 y42.2.at_ y42.2.place y42.2.e)) 184 :: Lr)) (fun o_j2 hP hK_j2 hF hM => ?_) ?_
    · refine c_region ?_
      refine s_val hF (r_move hF rfl rfl) rfl rfl rfl fun a hF => ?_
      refine s_val hF (r_nilCheckP hF rfl rfl) rfl rfl rfl fun a hF => ?_
      refine s_val hF (r_fieldAddr (off' := 3) Tryz.underlying184 rfl in3 rfl hF rfl rfl rfl) rfl rfl rfl fun a hF => ?_
      refine s_val hF (r_load1 Tryz.isAgg3 hF rfl rfl (hM.cell (i := 0) rfl (RCursor.g_e _))) rfl rfl rfl fun a hF => ?_
      refine s_val hF (r_eql hF rfl rfl rfl) rfl rfl rfl fun a hF => ?_
      refine s_val hF (r_move hF rfl rfl) rfl rfl rfl fun a hF => ?_
      refine g_split 21 hF rfl (fun hb69 => ?_) (fun hb69 => ?_)
      · have hP := Fx.cT hb69 hP
        refine g_val hF rfl rfl rfl hb69 (r_move hF rfl rfl) rfl rfl fun a hF => ?_
        refine g_val hF rfl rfl rfl hb69 (r_move hF rfl rfl) rfl rfl fun a hF => ?_
        refine g_val hF rfl rfl rfl hb69 (r_gtr hF rfl rfl rfl) rfl rfl fun a hF => ?_
        refine s_val hF (r_pick1 hF rfl rfl hb69 rfl) rfl rfl rfl fun a hF => ?_
        refine c_nil (n_then ?_)
        have hP := Option.some.inj hP
        subst hP
        exact ⟨(decide (x2 < y42.1)), rfl, hF.to ⟨rfl, rfl, rfl, rfl, rfl, trivial⟩, hM⟩
      have hP := Fx.cF hb69 hP
      refine g_skip hF rfl rfl rfl hb69 rfl rfl fun a hF => ?_
      refine g_skip hF rfl rfl rfl hb69 rfl rfl fun a hF => ?_
      refine g_skip hF rfl rfl rfl hb69 rfl rfl fun a hF => ?_
      refine s_val hF (r_pick0 hF rfl rfl hb69 rfl) rfl rfl rfl fun a hF => ?_
      refine c_nil (n_then ?_)
      have hP := Option.some.inj hP
      subst hP
      exact ⟨false, rfl, hF.to ⟨rfl, rfl, rfl, rfl, rfl, trivial⟩, hM⟩
    rintro v68 a w hP ⟨hF, hM⟩
    replace hP : Sh.ref23_cursor_most_j2 x0 y42 v68 = _ := hP
    unfold Sh.ref23_cursor_most_j2 at hP
    refine n_then ?_
    refine c_cond hF (c := .tmp 25) rfl (fun hb70 => ?_) (fun hb70 => ?_)
    · have hP := Fx.cT hb70 hP
      refine c_region ?_
      refine s_val hF (r_move hF rfl rfl) rfl rfl rfl fun a hF => ?_
      refine s_val hF (r_move hF rfl rfl) rfl rfl rfl fun a hF => ?_
      obtain ⟨y72, hy72, hP⟩ := bind_some hP
      refine s_eff hF rfl rfl rfl (w_call (xs := [.tmp 26, .tmp 27, .const (.int .i64 (236))]) Tryz.call119 hF rfl rfl (ref23_cursor_fault_calls hy72 hM (Bf := Bf) (fun w hM => hsub _ (dropM hM 0)) f44) fun v w hR => ?_)
      obtain ⟨s73, rfl, f74, hM⟩ := hR
      replace hM : MemL _ (pt b0 (RCursor.enc (RCursor.mk s73 y72.at_ y72.place y72.e)) 184 :: Lr) := hM
      intro a hF
      refine c_nil (n_then ?_)
      have hP := Option.some.inj hP
      subst hP
      exact ⟨y72, rfl, s73, f74, hF.to ⟨rfl, rfl, rfl, trivial⟩, hM⟩
    have hP := Fx.cF hb70 hP
    refine c_skip (n_then ?_)
    have hP := Option.some.inj hP
    subst hP
    exact ⟨y42.2, rfl, s43, f44, hF.to ⟨rfl, rfl, rfl, trivial⟩, hM⟩
  rintro v63 a w hP ⟨s64, f65, hF, hM⟩
  replace hP : Sh.ref23_cursor_most_j1 y42 v63 = _ := hP
  unfold Sh.ref23_cursor_most_j1 at hP
  refine n_then ?_
  refine c_seq ?_
  refine c_seq ?_
  refine c_region ?_
  refine s_val hF (r_move hF rfl rfl) rfl rfl rfl fun a hF => ?_
  refine s_val hF (r_nilCheckP hF rfl rfl) rfl rfl rfl fun a hF => ?_
  refine s_val hF (r_fieldAddr (off' := 3) Tryz.underlying184 rfl in3 rfl hF rfl rfl rfl) rfl rfl rfl fun a hF => ?_
  refine s_val hF (r_load1 Tryz.isAgg3 hF rfl rfl (hM.cell (i := 0) rfl (RCursor.g_e _))) rfl rfl rfl fun a hF => ?_
  refine s_val hF (r_neq hF rfl rfl rfl) rfl rfl rfl fun a hF => ?_
  refine c_nil (n_then ?_)
  refine c_cond hF (c := .tmp 33) rfl (fun hb76 => ?_) (fun hb76 => ?_)
  · have hP := Fx.cT hb76 hP
    refine c_seq ?_
    refine c_region ?_
    refine s_val hF (r_assign hF rfl rfl) rfl rfl rfl fun a hF => ?_
    refine c_nil (n_then ?_)
    refine c_ret ?_
    have hP := Option.some.inj hP
    subst hP
    refine e_ret1 Tryz.results122 hF rfl ?_
    exact ⟨s64, rfl, f65, hM⟩
  have hP := Fx.cF hb76 hP
  refine c_skip (n_then ?_)
  refine c_seq ?_
  refine c_region ?_
  refine s_val hF (r_move hF rfl rfl) rfl rfl rfl fun a hF => ?_
  refine s_val hF (r_assign hF rfl rfl) rfl rfl rfl fun a hF => ?_
  refine c_nil (n_then ?_)
  refine c_ret ?_
  have hP := Option.some.inj hP
  subst hP
  refine e_ret1 Tryz.results122 hF rfl ?_
  exact ⟨s64, rfl, f65, hM⟩
set_option maxHeartbeats 4000000 in
theorem ref23_cursor_bytes_calls {x0 : QCursor} {x1 : Int} {s1 : SV} {b0 : Nat} {out : (List UInt8 × QCursor)} {w0 : World} {Bf : World → Prop} {Lr : List Res} (hP : Sh.ref23_cursor_bytes x0 x1 = some out) (hM : MemL w0 (pt b0 (RCursor.enc (RCursor.mk s1 x0.at_ x0.place x0.e)) 184 :: Lr)) (hsub : ∀ w, MemL w Lr → Bf w) (f2 : LIn Bf s1 x0.b) : Calls Tryz.prog 120 #[.pointer (some ⟨b0, 0, none⟩), .int .i64 x1] w0 (Ret fun v w' => ∃ (s44 : SV) (s46 : SV), v = (s44).v ∧ LIn Bf s46 out.2.b ∧ MemL w' (rowL 0 s44 5 out.1 :: pt b0 (RCursor.enc (RCursor.mk s46 out.2.at_ out.2.place out.2.e)) 184 :: Lr)) := by
  unfold Sh.ref23_cursor_bytes at hP
  refine calls_enter (vs := [.pointer (some ⟨b0, 0, none⟩), .int .i64 x1]) Tryz.func120 rfl Tryz.ntmps120 rfl fun a hF => ?_
  refine c_seq ?_
  refine c_region ?_
  refine s_val hF (r_assign hF rfl rfl) rfl rfl rfl fun a hF => ?_
  refine c_nil (n_then ?_)
  refine c_seq ?_
  refine c_joinX hF hM hP (fun F x a w => match x with | v66 => ∃ (s67 : SV), LIn Bf s67 v66.b ∧ Fr 61 [(0, .pointer (some ⟨b0, 0, none⟩)), (1, .int .i64 x1), (4, (SV.nil).v)] a ∧ MemL w (pt b0 (RCursor.enc (RCursor.mk s67 v66.at_ v66.place v66.e)) 184 :: Lr)) (fun o_j1 hP hK_j1 hF hM => ?_) ?_
  · refine c_seq ?_
    refine c_joinX hF hM hP (fun F x a w => match x with | v71 => Fr 61 [(23, .bool v71), (0, .pointer (some ⟨b0, 0, none⟩)), (1, .int .i64 x1), (4, (SV.nil).v)] a ∧ MemL w (pt b0 (RCursor.enc (RCursor.mk s1 x0.at_ x0.place x0.e)) 184 :: Lr)) (fun o_j2 hP hK_j2 hF hM => ?_) ?_
    · refine d_startT mixed (by kernel_rfl) hM [0] 1 rfl fun hch => ?_
      refine d_val hF hch 0 rfl (by kernel_rfl) rfl rfl rfl (fun w hM => (r_move hF rfl rfl)) fun a hF => ?_
      refine d_val hF hch 1 rfl (by kernel_rfl) rfl rfl rfl (fun w hM => (r_nilCheckP hF rfl rfl)) fun a hF => ?_
      refine d_val hF hch 2 rfl (by kernel_rfl) rfl rfl rfl (fun w hM => (r_fieldAddr (off' := 3) Tryz.underlying184 rfl in3 rfl hF rfl rfl rfl)) fun a hF => ?_
      refine d_val hF hch 3 rfl (by kernel_rfl) rfl rfl rfl (fun w hM => (r_load1 Tryz.isAgg3 hF rfl rfl (hM.cell (i := 0) rfl (RCursor.g_e _)))) fun a hF => ?_
      refine d_val hF hch 4 rfl (by kernel_rfl) rfl rfl rfl (fun w hM => (r_eql hF rfl rfl rfl)) fun a hF => ?_
      refine d_val hF hch 5 rfl (by kernel_rfl) rfl rfl rfl (fun w hM => (r_move hF rfl rfl)) fun a hF => ?_
      refine g_split 10 hF rfl (fun hb72 => ?_) (fun hb72 => ?_)
      · have hP := Fx.cT hb72 hP
        refine d_valg hF hch 6 rfl (by kernel_rfl) rfl rfl rfl hb72 rfl rfl (fun w hM => (r_move hF rfl rfl)) fun a hF => ?_
        refine d_valg hF hch 7 rfl (by kernel_rfl) rfl rfl rfl hb72 rfl rfl (fun w hM => (r_nilCheckP hF rfl rfl)) fun a hF => ?_
        refine d_valg hF hch 8 rfl (by kernel_rfl) rfl rfl rfl hb72 rfl rfl (fun w hM => (r_fieldAddr (off' := 1) Tryz.underlying184 rfl in3 rfl hF rfl rfl rfl)) fun a hF => ?_
        refine d_valg hF hch 9 rfl (by kernel_rfl) rfl rfl rfl hb72 rfl rfl (fun w hM => (r_load1 Tryz.isAgg3 hF rfl rfl (hM.cell (i := 0) rfl (RCursor.g_at_ _)))) fun a hF => ?_
        refine d_valg hF hch 10 rfl (by kernel_rfl) rfl rfl rfl hb72 rfl rfl (fun w hM => (r_move hF rfl rfl)) fun a hF => ?_
        refine d_valg hF hch 11 rfl (by kernel_rfl) rfl rfl rfl hb72 rfl rfl (fun w hM => (r_add hF rfl rfl rfl)) fun a hF => ?_
        refine d_valg hF hch 12 rfl (by kernel_rfl) rfl rfl rfl hb72 rfl rfl (fun w hM => (r_move hF rfl rfl)) fun a hF => ?_
        refine d_valg hF hch 13 rfl (by kernel_rfl) rfl rfl rfl hb72 rfl rfl (fun w hM => (r_nilCheckP hF rfl rfl)) fun a hF => ?_
        refine d_valg hF hch 14 rfl (by kernel_rfl) rfl rfl rfl hb72 rfl rfl (fun w hM => (r_fieldAddr (off' := 0) Tryz.underlying184 rfl in23 rfl hF rfl rfl rfl)) fun a hF => ?_
        refine d_valg hF hch 15 rfl (by kernel_rfl) rfl rfl rfl hb72 rfl rfl (fun w hM => (r_load1 Tryz.isAgg23 hF rfl rfl (hM.cell (i := 0) rfl (RCursor.g_b _)))) fun a hF => ?_
        refine d_valg hF hch 16 rfl (by kernel_rfl) rfl rfl rfl hb72 rfl rfl (fun w hM => (r_lenL (f2 _ (hsub _ (dropM hM 1))) Tryz.underlying23 hF rfl rfl)) fun a hF => ?_
        refine d_valg hF hch 17 rfl (by kernel_rfl) rfl rfl rfl hb72 rfl rfl (fun w hM => (r_gtr hF rfl rfl rfl)) fun a hF => ?_
        refine d_val hF hch 18 rfl (by kernel_rfl) rfl rfl rfl (fun w hM => (r_pick1 hF rfl rfl hb72 rfl)) fun a hF => ?_
        refine d_end hch (by kernel_rfl) fun w hM => ?_
        refine n_then ?_
        have hP := Option.some.inj hP
        subst hP
        exact ⟨(decide ((x0.b.length : Int) < (IntKind.i64.wrap (x0.at_ + x1)))), rfl, hF.to ⟨rfl, rfl, rfl, rfl, trivial⟩, hM⟩
      have hP := Fx.cF hb72 hP
      refine d_skip hF hch 6 rfl (by kernel_rfl) rfl rfl rfl hb72 rfl rfl fun a hF => ?_
      refine d_skip hF hch 7 rfl (by kernel_rfl) rfl rfl rfl hb72 rfl rfl fun a hF => ?_
      refine d_skip hF hch 8 rfl (by kernel_rfl) rfl rfl rfl hb72 rfl rfl fun a hF => ?_
      refine d_skip hF hch 9 rfl (by kernel_rfl) rfl rfl rfl hb72 rfl rfl fun a hF => ?_
      refine d_skip hF hch 10 rfl (by kernel_rfl) rfl rfl rfl hb72 rfl rfl fun a hF => ?_
      refine d_skip hF hch 11 rfl (by kernel_rfl) rfl rfl rfl hb72 rfl rfl fun a hF => ?_
      refine d_skip hF hch 12 rfl (by kernel_rfl) rfl rfl rfl hb72 rfl rfl fun a hF => ?_
      refine d_skip hF hch 13 rfl (by kernel_rfl) rfl rfl rfl hb72 rfl rfl fun a hF => ?_
      refine d_skip hF hch 14 rfl (by kernel_rfl) rfl rfl rfl hb72 rfl rfl fun a hF => ?_
      refine d_skip hF hch 15 rfl (by kernel_rfl) rfl rfl rfl hb72 rfl rfl fun a hF => ?_
      refine d_skip hF hch 16 rfl (by kernel_rfl) rfl rfl rfl hb72 rfl rfl fun a hF => ?_
      refine d_skip hF hch 17 rfl (by kernel_rfl) rfl rfl rfl hb72 rfl rfl fun a hF => ?_
      refine d_val hF hch 18 rfl (by kernel_rfl) rfl rfl rfl (fun w hM => (r_pick0 hF rfl rfl hb72 rfl)) fun a hF => ?_
      refine d_end hch (by kernel_rfl) fun w hM => ?_
      refine n_then ?_
      have hP := Option.some.inj hP
      subst hP
      exact ⟨false, rfl, hF.to ⟨rfl, rfl, rfl, rfl, trivial⟩, hM⟩
    rintro v71 a w hP ⟨hF, hM⟩
    replace hP : Sh.ref23_cursor_bytes_j2 x0 v71 = _ := hP
    unfold Sh.ref23_cursor_bytes_j2 at hP
    refine n_then ?_
    refine c_cond hF (c := .tmp 23) rfl (fun hb73 => ?_) (fun hb73 => ?_)
    · have hP := Fx.cT hb73 hP
      refine c_region ?_
      refine s_val hF (r_move hF rfl rfl) rfl rfl rfl fun a hF => ?_
      refine s_val hF (r_move hF rfl rfl) rfl rfl rfl fun a hF => ?_
      refine s_val hF (r_nilCheckP hF rfl rfl) rfl rfl rfl fun a hF => ?_
      refine s_val hF (r_fieldAddr (off' := 0) Tryz.underlying184 rfl in23 rfl hF rfl rfl rfl) rfl rfl rfl fun a hF => ?_
      refine s_val hF (r_load1 Tryz.isAgg23 hF rfl rfl (hM.cell (i := 0) rfl (RCursor.g_b _))) rfl rfl rfl fun a hF => ?_
      refine s_val hF (r_lenL (f2 _ (hsub _ (dropM hM 1))) Tryz.underlying23 hF rfl rfl) rfl rfl rfl fun a hF => ?_
      obtain ⟨y75, hy75, hP⟩ := bind_some hP
      refine s_eff hF rfl rfl rfl (w_call (xs := [.tmp 24, .tmp 29, .const (.int .i64 (236))]) Tryz.call119 hF rfl rfl (ref23_cursor_fault_calls hy75 hM (Bf := Bf) (fun w hM => hsub _ (dropM hM 0)) f2) fun v w hR => ?_)
      obtain ⟨s76, rfl, f77, hM⟩ := hR
      replace hM : MemL _ (pt b0 (RCursor.enc (RCursor.mk s76 y75.at_ y75.place y75.e)) 184 :: Lr) := hM
      intro a hF
      refine c_nil (n_then ?_)
      have hP := Option.some.inj hP
      subst hP
      exact ⟨y75, rfl, s76, f77, hF.to ⟨rfl, rfl, rfl, trivial⟩, hM⟩
    have hP := Fx.cF hb73 hP
    refine c_skip (n_then ?_)
    have hP := Option.some.inj hP
    subst hP
    exact ⟨x0, rfl, s1, f2, hF.to ⟨rfl, rfl, rfl, trivial⟩, hM⟩
  rintro v66 a w hP ⟨s67, f68, hF, hM⟩
  replace hP : Sh.ref23_cursor_bytes_j1 x1 v66 = _ := hP
  unfold Sh.ref23_cursor_bytes_j1 at hP
  refine n_then ?_
  refine c_seq ?_
  refine c_seq ?_
  refine c_region ?_
  refine s_val hF (r_move hF rfl rfl) rfl rfl rfl fun a hF => ?_
  refine s_val hF (r_nilCheckP hF rfl rfl) rfl rfl rfl fun a hF => ?_
  refine s_val hF (r_fieldAddr (off' := 3) Tryz.underlying184 rfl in3 rfl hF rfl rfl rfl) rfl rfl rfl fun a hF => ?_
  refine s_val hF (r_load1 Tryz.isAgg3 hF rfl rfl (hM.cell (i := 0) rfl (RCursor.g_e _))) rfl rfl rfl fun a hF => ?_
  refine s_val hF (r_neq hF rfl rfl rfl) rfl rfl rfl fun a hF => ?_
  refine c_nil (n_then ?_)
  refine c_cond hF (c := .tmp 35) rfl (fun hb79 => ?_) (fun hb79 => ?_)
  · have hP := Fx.cT hb79 hP
    refine c_seq ?_
    refine c_region ?_
    refine s_val hF (r_assign hF rfl rfl) rfl rfl rfl fun a hF => ?_
    refine c_nil (n_then ?_)
    refine c_ret ?_
    have hM := hM.rowNil (X := UInt8) 0 5
    have hP := Option.some.inj hP
    subst hP
    refine e_ret1 Tryz.results120 hF rfl ?_
    exact ⟨SV.nil, s67, rfl, f68, hM⟩
  have hP := Fx.cF hb79 hP
  refine c_skip (n_then ?_)
  refine c_seq ?_
  refine c_region ?_
  refine s_val hF (r_move hF rfl rfl) rfl rfl rfl fun a hF => ?_
  refine s_val hF (r_move hF rfl rfl) rfl rfl rfl fun a hF => ?_
  refine s_val hF (r_nilCheckP hF rfl rfl) rfl rfl rfl fun a hF => ?_
  refine s_val hF (r_fieldAddr (off' := 1) Tryz.underlying184 rfl in3 rfl hF rfl rfl rfl) rfl rfl rfl fun a hF => ?_
  refine s_val hF (r_load1 Tryz.isAgg3 hF rfl rfl (hM.cell (i := 0) rfl (RCursor.g_at_ _))) rfl rfl rfl fun a hF => ?_
  refine s_val hF (r_move hF rfl rfl) rfl rfl rfl fun a hF => ?_
  refine s_val hF (r_add hF rfl rfl rfl) rfl rfl rfl fun a hF => ?_
  refine s_val hF (r_nilCheckP hF rfl rfl) rfl rfl rfl fun a hF => ?_
  refine s_val hF (r_fieldAddr (off' := 1) Tryz.underlying184 rfl in3 rfl hF rfl rfl rfl) rfl rfl rfl fun a hF => ?_
  refine s_eff0 rfl rfl (w_store1 Tryz.sizeOf3 (hM.obj (i := 0) rfl) hF rfl rfl rfl rfl (by rw [RCursor.len]; decide) (RCursor.s_at_ _ _) fun w hU81 => ?_)
  have hM := hM.chg hU81 (i := 0) rfl
  replace hM : MemL _ (pt b0 (RCursor.enc (RCursor.mk s67 (IntKind.i64.wrap (v66.at_ + x1)) v66.place v66.e)) 184 :: Lr) := hM
  refine c_nil (n_then ?_)
  refine c_seq ?_
  refine d_startT mixed (by kernel_rfl) hM [0] 1 rfl fun hch => ?_
  refine d_val hF hch 0 rfl (by kernel_rfl) rfl rfl rfl (fun w hM => (r_move hF rfl rfl)) fun a hF => ?_
  refine d_val hF hch 1 rfl (by kernel_rfl) rfl rfl rfl (fun w hM => (r_nilCheckP hF rfl rfl)) fun a hF => ?_
  refine d_val hF hch 2 rfl (by kernel_rfl) rfl rfl rfl (fun w hM => (r_fieldAddr (off' := 0) Tryz.underlying184 rfl in23 rfl hF rfl rfl rfl)) fun a hF => ?_
  refine d_val hF hch 3 rfl (by kernel_rfl) rfl rfl rfl (fun w hM => (r_load1 Tryz.isAgg23 hF rfl rfl (hM.cell (i := 0) rfl (RCursor.g_b _)))) fun a hF => ?_
  refine d_val hF hch 4 rfl (by kernel_rfl) rfl rfl rfl (fun w hM => (r_move hF rfl rfl)) fun a hF => ?_
  refine d_val hF hch 5 rfl (by kernel_rfl) rfl rfl rfl (fun w hM => (r_nilCheckP hF rfl rfl)) fun a hF => ?_
  refine d_val hF hch 6 rfl (by kernel_rfl) rfl rfl rfl (fun w hM => (r_fieldAddr (off' := 1) Tryz.underlying184 rfl in3 rfl hF rfl rfl rfl)) fun a hF => ?_
  refine d_val hF hch 7 rfl (by kernel_rfl) rfl rfl rfl (fun w hM => (r_load1 Tryz.isAgg3 hF rfl rfl (hM.cell (i := 0) rfl (RCursor.g_at_ _)))) fun a hF => ?_
  refine d_val hF hch 8 rfl (by kernel_rfl) rfl rfl rfl (fun w hM => (r_move hF rfl rfl)) fun a hF => ?_
  refine d_val hF hch 9 rfl (by kernel_rfl) rfl rfl rfl (fun w hM => (r_sub hF rfl rfl rfl)) fun a hF => ?_
  refine d_val hF hch 10 rfl (by kernel_rfl) rfl rfl rfl (fun w hM => (r_move hF rfl rfl)) fun a hF => ?_
  refine d_val hF hch 11 rfl (by kernel_rfl) rfl rfl rfl (fun w hM => (r_nilCheckP hF rfl rfl)) fun a hF => ?_
  refine d_val hF hch 12 rfl (by kernel_rfl) rfl rfl rfl (fun w hM => (r_fieldAddr (off' := 1) Tryz.underlying184 rfl in3 rfl hF rfl rfl rfl)) fun a hF => ?_
  refine d_val hF hch 13 rfl (by kernel_rfl) rfl rfl rfl (fun w hM => (r_load1 Tryz.isAgg3 hF rfl rfl (hM.cell (i := 0) rfl (RCursor.g_at_ _)))) fun a hF => ?_
  obtain ⟨x86, hx86, hP⟩ := bind_some hP
  refine d_val hF hch 14 rfl (by kernel_rfl) rfl rfl rfl (fun w hM => (r_cutZ (f68 _ (hsub _ (dropM hM 1))) hx86 Tryz.underlying23 in5 rfl hF rfl rfl (.inr ⟨_, _, rfl, rfl⟩) (.inr ⟨_, _, rfl, rfl⟩))) fun a hF => ?_
  refine d_one hch 15 (by kernel_rfl) rfl rfl ?_
  refine d_ex hF 15 rfl rfl rfl rfl rfl fun w hMs hM => ?_
  have hM := hM.rowNil (X := UInt8) 0 5
  obtain ⟨x89, hx89, hP⟩ := bind_some hP
  refine (w_appX (X := UInt8) hx89 Tryz.underlying23 in5 rfl rfl rfl rfl hF rfl rfl rfl (hM.own (X := UInt8) (i := 0) rfl) ((LIn.slc f68 hx86 rfl) _ (hsub _ (dropM hM 2))) fun s87 w hUs87 => ?_)
  have hM := hM.chg hUs87 (i := 0) rfl
  replace hM : MemL _ (rowL 0 s87 5 x89 :: pt b0 (RCursor.enc (RCursor.mk s67 (IntKind.i64.wrap (v66.at_ + x1)) v66.place v66.e)) 184 :: Lr) := hM
  have hMs := selM hM [0, 1] 2 rfl
  refine ⟨_, _, hMs, hM, .inl fun _ h => dropM h 1, fun a hF => ?_⟩
  refine d_val hF hch 16 rfl (by kernel_rfl) rfl rfl rfl (fun w hM => (r_assign hF rfl rfl)) fun a hF => ?_
  refine d_end hch (by kernel_rfl) fun w hM => ?_
  refine n_then ?_
  refine c_ret ?_
  have hP := Option.some.inj hP
  subst hP
  refine e_ret1 Tryz.results120 hF rfl ?_
  exact ⟨s87, s67, rfl, f68, hM⟩
set_option maxHeartbeats 4000000 in
theorem ref23_cursor_behind_calls {x0 : QCursor} {x1 : Int} {s1 : SV} {b0 : Nat} {out : (LVal × QCursor)} {w0 : World} {Bf : World → Prop} {Lr : List Res} (hP : Sh.ref23_cursor_behind x0 x1 = some out) (hM : MemL w0 (pt b0 (RCursor.enc (RCursor.mk s1 x0.at_ x0.place x0.e)) 184 :: Lr)) (hsub : ∀ w, MemL w Lr → Bf w) (f2 : LIn Bf s1 x0.b) : Calls Tryz.prog 229 #[.pointer (some ⟨b0, 0, none⟩), .int .i64 x1] w0 (Ret fun v w' => ∃ (s64 : SV), v = .agg (LVal.enc out.1).toArray ∧ LIn Bf s64 out.2.b ∧ MemL w' (pt b0 (RCursor.enc (RCursor.mk s64 out.2.at_ out.2.place out.2.e)) 184 :: Lr)) := by
  unfold Sh.ref23_cursor_behind at hP
  refine calls_enter (vs := [.pointer (some ⟨b0, 0, none⟩), .int .i64 x1]) Tryz.func229 rfl Tryz.ntmps229 rfl fun a hF => ?_
  refine c_seq ?_
  refine c_region ?_
  refine s_eff hF rfl rfl rfl (w_alloc z46 (zs := LVal.zero.enc) rfl rfl fun b_B229_4 w hzB229_4 hAB229_4 => ?_)
  have hM := hM.plus hAB229_4
  replace hM : MemL _ (pt b_B229_4 (LVal.enc LVal.zero) 46 :: pt b0 (RCursor.enc (RCursor.mk s1 x0.at_ x0.place x0.e)) 184 :: Lr) := hM
  intro a hF
  refine c_nil (n_then ?_)
  refine c_seq ?_
  refine c_region ?_
  refine s_val hF (r_move hF rfl rfl) rfl rfl rfl fun a hF => ?_
  refine s_val hF (r_build z46 Tryz.underlying46 pl46 hF (parts := [(0, .tmp 6)]) rfl rfl (fill_s rfl rfl (by rw [LVal.len]; decide) (LVal.s_kind _ _) fill_e)) rfl rfl rfl fun a hF => ?_
  refine s_eff hF rfl rfl rfl (w_alloc z46 (zs := LVal.zero.enc) rfl rfl fun b_B229_5 w hzB229_5 hAB229_5 => ?_)
  have hM := hM.plus hAB229_5
  replace hM : MemL _ (pt b_B229_5 (LVal.enc LVal.zero) 46 :: pt b_B229_4 (LVal.enc LVal.zero) 46 :: pt b0 (RCursor.enc (RCursor.mk s1 x0.at_ x0.place x0.e)) 184 :: Lr) := hM
  intro a hF
  refine s_eff0 rfl rfl (w_storen (vs := _) Tryz.sizeOf46 (hM.obj (i := 0) rfl) hF rfl rfl rfl rfl (LVal.len _) (LVal.one _) (by first | (rw [LVal.len, LVal.len]; decide) | (rw [LVal.len]; decide)) (put_all ((LVal.len _).trans (LVal.len _).symm)) fun w hU66 => ?_)
  have hM := hM.chg hU66 (i := 0) rfl
  replace hM : MemL _ (pt b_B229_5 (LVal.enc (LVal.mk x1 0 0 0)) 46 :: pt b_B229_4 (LVal.enc LVal.zero) 46 :: pt b0 (RCursor.enc (RCursor.mk s1 x0.at_ x0.place x0.e)) 184 :: Lr) := hM
  refine c_nil (n_then ?_)
  refine c_seq ?_
  refine c_joinX hF hM hP (fun F x a w => match x with | (v89, v90) => ∃ (s91 : SV), LIn Bf s91 v90.b ∧ Fr 22 [(0, .pointer (some ⟨b0, 0, none⟩)), (1, .int .i64 x1), (4, .pointer (some ⟨b_B229_4, 0, none⟩)), (5, .pointer (some ⟨b_B229_5, 0, none⟩))] a ∧ MemL w (pt b_B229_5 (LVal.enc v89) 46 :: pt b0 (RCursor.enc (RCursor.mk s91 v90.at_ v90.place v90.e)) 184 :: pt b_B229_4 (LVal.enc LVal.zero) 46 :: Lr)) (fun o_j1 hP hK_j1 hF hM => ?_) ?_
  · refine c_seq ?_
    refine c_region ?_
    refine s_val hF (r_move hF rfl rfl) rfl rfl rfl fun a hF => ?_
    refine s_val hF (r_eql hF rfl rfl rfl) rfl rfl rfl fun a hF => ?_
    refine c_nil (n_then ?_)
    refine c_cond hF (c := .tmp 9) rfl (fun hb93 => ?_) (fun hb93 => ?_)
    · have hP := Fx.cT hb93 hP
      refine c_seq ?_
      refine c_region ?_
      refine s_val hF (r_move hF rfl rfl) rfl rfl rfl fun a hF => ?_
      obtain ⟨y95, hy95, hP⟩ := bind_some hP
      refine s_eff hF rfl rfl rfl (w_call (xs := [.tmp 10, .const (.int .i64 (1)), .const (.int .i64 (7))]) Tryz.call122 hF rfl rfl (ref23_cursor_most_calls hy95 (selM hM [2, 0, 1] 3 rfl) (Bf := Bf) (fun w hM => hsub _ (dropM hM 2)) f2) fun v w hR => ?_)
      obtain ⟨s96, rfl, f97, hM⟩ := hR
      replace hM : MemL _ (pt b0 (RCursor.enc (RCursor.mk s96 y95.2.at_ y95.2.place y95.2.e)) 184 :: pt b_B229_5 (LVal.enc (LVal.mk x1 0 0 0)) 46 :: pt b_B229_4 (LVal.enc LVal.zero) 46 :: Lr) := hM
      intro a hF
      refine s_val hF (r_fieldAddr (off' := 1) Tryz.underlying46 rfl in3 rfl hF rfl rfl rfl) rfl rfl rfl fun a hF => ?_
      refine s_eff0 rfl rfl (w_store1 Tryz.sizeOf3 (hM.obj (i := 1) rfl) hF rfl rfl rfl rfl (by rw [LVal.len]; decide) (LVal.s_table _ _) fun w hU98 => ?_)
      have hM := hM.chg hU98 (i := 1) rfl
      replace hM : MemL _ (pt b0 (RCursor.enc (RCursor.mk s96 y95.2.at_ y95.2.place y95.2.e)) 184 :: pt b_B229_5 (LVal.enc (LVal.mk x1 y95.1 0 0)) 46 :: pt b_B229_4 (LVal.enc LVal.zero) 46 :: Lr) := hM
      refine c_nil (n_then ?_)
      refine c_region ?_
      refine s_val hF (r_move hF rfl rfl) rfl rfl rfl fun a hF => ?_
      obtain ⟨y100, hy100, hP⟩ := bind_some hP
      refine s_eff hF rfl rfl rfl (w_call (xs := [.tmp 13, .const (.int .i64 (1)), .const (.int .i64 (63))]) Tryz.call122 hF rfl rfl (ref23_cursor_most_calls hy100 hM (Bf := Bf) (fun w hM => hsub _ (dropM hM 2)) f97) fun v w hR => ?_)
      obtain ⟨s101, rfl, f102, hM⟩ := hR
      replace hM : MemL _ (pt b0 (RCursor.enc (RCursor.mk s101 y100.2.at_ y100.2.place y100.2.e)) 184 :: pt b_B229_5 (LVal.enc (LVal.mk x1 y95.1 0 0)) 46 :: pt b_B229_4 (LVal.enc LVal.zero) 46 :: Lr) := hM
      intro a hF
      refine s_val hF (r_fieldAddr (off' := 2) Tryz.underlying46 rfl in3 rfl hF rfl rfl rfl) rfl rfl rfl fun a hF => ?_
      refine s_eff0 rfl rfl (w_store1 Tryz.sizeOf3 (hM.obj (i := 1) rfl) hF rfl rfl rfl rfl (by rw [LVal.len]; decide) (LVal.s_row _ _) fun w hU103 => ?_)
      have hM := hM.chg hU103 (i := 1) rfl
      replace hM : MemL _ (pt b0 (RCursor.enc (RCursor.mk s101 y100.2.at_ y100.2.place y100.2.e)) 184 :: pt b_B229_5 (LVal.enc (LVal.mk x1 y95.1 y100.1 0)) 46 :: pt b_B229_4 (LVal.enc LVal.zero) 46 :: Lr) := hM
      refine c_nil (n_then ?_)
      have hP := Option.some.inj hP
      subst hP
      exact ⟨((LVal.mk x1 y95.1 y100.1 0), y100.2), rfl, s101, f102, hF.to ⟨rfl, rfl, rfl, rfl, trivial⟩, selM hM [1, 0, 2] 3 rfl⟩
    have hP := Fx.cF hb93 hP
    refine c_skip (n_then ?_)
    have hP := Option.some.inj hP
    subst hP
    exact ⟨((LVal.mk x1 0 0 0), x0), rfl, s1, f2, hF.to ⟨rfl, rfl, rfl, rfl, trivial⟩, selM hM [0, 2, 1] 3 rfl⟩
  rintro ⟨v89, v90⟩ a w hP ⟨s91, f92, hF, hM⟩
  replace hP : Sh.ref23_cursor_behind_j1 x1 v89 v90 = _ := hP
  unfold Sh.ref23_cursor_behind_j1 at hP
  refine n_then ?_
  refine c_seq ?_
  refine c_joinX hF hM hP (fun F x a w => match x with | (v116, v117) => ∃ (s118 : SV), LIn Bf s118 v117.b ∧ Fr 22 [(4, .pointer (some ⟨b_B229_4, 0, none⟩)), (5, .pointer (some ⟨b_B229_5, 0, none⟩))] a ∧ MemL w (pt b_B229_5 (LVal.enc v116) 46 :: pt b0 (RCursor.enc (RCursor.mk s118 v117.at_ v117.place v117.e)) 184 :: pt b_B229_4 (LVal.enc LVal.zero) 46 :: Lr)) (fun o_j2 hP hK_j2 hF hM => ?_) ?_
  · refine c_seq ?_
    refine c_region ?_
    refine s_val hF (r_move hF rfl rfl) rfl rfl rfl fun a hF => ?_
    refine s_val hF (r_neq hF rfl rfl rfl) rfl rfl rfl fun a hF => ?_
    refine c_nil (n_then ?_)
    refine c_cond hF (c := .tmp 17) rfl (fun hb120 => ?_) (fun hb120 => ?_)
    · have hP := Fx.cT hb120 hP
      refine c_region ?_
      refine s_val hF (r_move hF rfl rfl) rfl rfl rfl fun a hF => ?_
      obtain ⟨y122, hy122, hP⟩ := bind_some hP
      refine s_eff hF rfl rfl rfl (w_call (xs := [.tmp 18, .const (.int .i64 (8))]) Tryz.call121 hF rfl rfl (ref23_cursor_number_calls hy122 (selM hM [1, 0, 2] 3 rfl) (Bf := Bf) (fun w hM => hsub _ (dropM hM 2)) f92) fun v w hR => ?_)
      obtain ⟨s123, rfl, f124, hM⟩ := hR
      replace hM : MemL _ (pt b0 (RCursor.enc (RCursor.mk s123 y122.2.at_ y122.2.place y122.2.e)) 184 :: pt b_B229_5 (LVal.enc v89) 46 :: pt b_B229_4 (LVal.enc LVal.zero) 46 :: Lr) := hM
      intro a hF
      refine s_val hF (r_fieldAddr (off' := 3) Tryz.underlying46 rfl in3 rfl hF rfl rfl rfl) rfl rfl rfl fun a hF => ?_
      refine s_eff0 rfl rfl (w_store1 Tryz.sizeOf3 (hM.obj (i := 1) rfl) hF rfl rfl rfl rfl (by rw [LVal.len]; decide) (LVal.s_x _ _) fun w hU125 => ?_)
      have hM := hM.chg hU125 (i := 1) rfl
      replace hM : MemL _ (pt b0 (RCursor.enc (RCursor.mk s123 y122.2.at_ y122.2.place y122.2.e)) 184 :: pt b_B229_5 (LVal.enc (LVal.mk v89.kind v89.table v89.row y122.1)) 46 :: pt b_B229_4 (LVal.enc LVal.zero) 46 :: Lr) := hM
      refine c_nil (n_then ?_)
      have hP := Option.some.inj hP
      subst hP
      exact ⟨((LVal.mk v89.kind v89.table v89.row y122.1), y122.2), rfl, s123, f124, hF.to ⟨rfl, rfl, trivial⟩, selM hM [1, 0, 2] 3 rfl⟩
    have hP := Fx.cF hb120 hP
    refine c_skip (n_then ?_)
    have hP := Option.some.inj hP
    subst hP
    exact ⟨(v89, v90), rfl, s91, f92, hF.to ⟨rfl, rfl, trivial⟩, hM⟩
  rintro ⟨v116, v117⟩ a w hP ⟨s118, f119, hF, hM⟩
  replace hP : Sh.ref23_cursor_behind_j2 v116 v117 = _ := hP
  unfold Sh.ref23_cursor_behind_j2 at hP
  refine n_then ?_
  refine c_seq ?_
  refine c_region ?_
  refine s_val hF (r_loadn Tryz.isAgg46 Tryz.sizeOf46 hF rfl rfl (LVal.len _) (hM.cells (i := 0) rfl (cut_all (LVal.len _)))) rfl rfl rfl fun a hF => ?_
  refine s_eff0 rfl rfl (w_storen (vs := _) Tryz.sizeOf46 (hM.obj (i := 2) rfl) hF rfl rfl rfl rfl (LVal.len _) (LVal.one _) (by first | (rw [LVal.len, LVal.len]; decide) | (rw [LVal.len]; decide)) (put_all ((LVal.len _).trans (LVal.len _).symm)) fun w hU126 => ?_)
  have hM := hM.chg hU126 (i := 2) rfl
  replace hM : MemL _ (pt b_B229_5 (LVal.enc v116) 46 :: pt b0 (RCursor.enc (RCursor.mk s118 v117.at_ v117.place v117.e)) 184 :: pt b_B229_4 (LVal.enc v116) 46 :: Lr) := hM
  refine c_nil (n_then ?_)
  refine c_ret ?_
  have hP := Option.some.inj hP
  subst hP
  refine e_ret (rs := [.cell 4 46]) Tryz.results229 hF (res_celln hF rfl Tryz.isAgg46 Tryz.sizeOf46 (LVal.len _) (hM.cells (i := 2) rfl (cut_all (LVal.len _))) res_nil) rfl ?_
  exact ⟨s118, rfl, f119, selM hM [1] 3 rfl⟩
set_option maxHeartbeats 4000000 in
theorem ref23_cursor_value_calls {x0 : QCursor} {s1 : SV} {b0 : Nat} {out : (LVal × QCursor)} {w0 : World} {Bf : World → Prop} {Lr : List Res} (hP : Sh.ref23_cursor_value x0 = some out) (hM : MemL w0 (pt b0 (RCursor.enc (RCursor.mk s1 x0.at_ x0.place x0.e)) 184 :: Lr)) (hsub : ∀ w, MemL w Lr → Bf w) (f2 : LIn Bf s1 x0.b) : Calls Tryz.prog 190 #[.pointer (some ⟨b0, 0, none⟩)] w0 (Ret fun v w' => ∃ (s12 : SV), v = .agg (LVal.enc out.1).toArray ∧ LIn Bf s12 out.2.b ∧ MemL w' (pt b0 (RCursor.enc (RCursor.mk s12 out.2.at_ out.2.place out.2.e)) 184 :: Lr)) := by
  unfold Sh.ref23_cursor_value at hP
  refine calls_enter (vs := [.pointer (some ⟨b0, 0, none⟩)]) Tryz.func190 rfl Tryz.ntmps190 rfl fun a hF => ?_
  refine c_seq ?_
  refine c_region ?_
  refine s_eff hF rfl rfl rfl (w_alloc z46 (zs := LVal.zero.enc) rfl rfl fun b_B190_2 w hzB190_2 hAB190_2 => ?_)
  have hM := hM.plus hAB190_2
  replace hM : MemL _ (pt b_B190_2 (LVal.enc LVal.zero) 46 :: pt b0 (RCursor.enc (RCursor.mk s1 x0.at_ x0.place x0.e)) 184 :: Lr) := hM
  intro a hF
  refine c_nil (n_then ?_)
  refine c_seq ?_
  refine c_region ?_
  refine s_val hF (r_move hF rfl rfl) rfl rfl rfl fun a hF => ?_
  refine s_val hF (r_move hF rfl rfl) rfl rfl rfl fun a hF => ?_
  obtain ⟨y15, hy15, hP⟩ := bind_some hP
  refine s_eff hF rfl rfl rfl (w_call (xs := [.tmp 4, .const (.int .i64 (1)), .const (.int .i64 (5))]) Tryz.call122 hF rfl rfl (ref23_cursor_most_calls hy15 (selM hM [1, 0] 2 rfl) (Bf := Bf) (fun w hM => hsub _ (dropM hM 1)) f2) fun v w hR => ?_)
  obtain ⟨s16, rfl, f17, hM⟩ := hR
  replace hM : MemL _ (pt b0 (RCursor.enc (RCursor.mk s16 y15.2.at_ y15.2.place y15.2.e)) 184 :: pt b_B190_2 (LVal.enc LVal.zero) 46 :: Lr) := hM
  intro a hF
  obtain ⟨y19, hy19, hP⟩ := bind_some hP
  refine s_eff hF rfl rfl rfl (w_call (xs := [.tmp 3, .tmp 5]) Tryz.call229 hF rfl rfl (ref23_cursor_behind_calls hy19 hM (Bf := Bf) (fun w hM => hsub _ (dropM hM 1)) f17) fun v w hR => ?_)
  obtain ⟨s20, rfl, f21, hM⟩ := hR
  replace hM : MemL _ (pt b0 (RCursor.enc (RCursor.mk s20 y19.2.at_ y19.2.place y19.2.e)) 184 :: pt b_B190_2 (LVal.enc LVal.zero) 46 :: Lr) := hM
  intro a hF
  refine s_eff0 rfl rfl (w_storen (vs := _) Tryz.sizeOf46 (hM.obj (i := 1) rfl) hF rfl rfl rfl rfl (LVal.len _) (LVal.one _) (by first | (rw [LVal.len, LVal.len]; decide) | (rw [LVal.len]; decide)) (put_all ((LVal.len _).trans (LVal.len _).symm)) fun w hU22 => ?_)
  have hM := hM.chg hU22 (i := 1) rfl
  replace hM : MemL _ (pt b0 (RCursor.enc (RCursor.mk s20 y19.2.at_ y19.2.place y19.2.e)) 184 :: pt b_B190_2 (LVal.enc y19.1) 46 :: Lr) := hM
  refine c_nil (n_then ?_)
  refine c_ret ?_
  have hP := Option.some.inj hP
  subst hP
  refine e_ret (rs := [.cell 2 46]) Tryz.results190 hF (res_celln hF rfl Tryz.isAgg46 Tryz.sizeOf46 (LVal.len _) (hM.cells (i := 1) rfl (cut_all (LVal.len _))) res_nil) rfl ?_
  exact ⟨s20, rfl, f21, selM hM [0] 2 rfl⟩
set_option maxHeartbeats 4000000 in
theorem ref23_cursor_slot_calls {x0 : QCursor} {s1 : SV} {b0 : Nat} {out : (LSlot × QCursor)} {w0 : World} {Bf : World → Prop} {Lr : List Res} (hP : Sh.ref23_cursor_slot x0 = some out) (hM : MemL w0 (pt b0 (RCursor.enc (RCursor.mk s1 x0.at_ x0.place x0.e)) 184 :: Lr)) (hsub : ∀ w, MemL w Lr → Bf w) (f2 : LIn Bf s1 x0.b) : Calls Tryz.prog 191 #[.pointer (some ⟨b0, 0, none⟩)] w0 (Ret fun v w' => ∃ (s338 : SV), v = .agg (LSlot.enc out.1).toArray ∧ LIn Bf s338 out.2.b ∧ MemL w' (pt b0 (RCursor.enc (RCursor.mk s338 out.2.at_ out.2.place out.2.e)) 184 :: Lr)) := by
  unfold Sh.ref23_cursor_slot at hP
  refine calls_enter (vs := [.pointer (some ⟨b0, 0, none⟩)]) Tryz.func191 rfl Tryz.ntmps191 rfl fun a hF => ?_
  refine c_seq ?_
  refine c_region ?_
  refine s_eff hF rfl rfl rfl (w_alloc z50 (zs := LSlot.zero.enc) rfl rfl fun b_B191_2 w hzB191_2 hAB191_2 => ?_)
  have hM := hM.plus hAB191_2
  replace hM : MemL _ (pt b_B191_2 (LSlot.enc LSlot.zero) 50 :: pt b0 (RCursor.enc (RCursor.mk s1 x0.at_ x0.place x0.e)) 184 :: Lr) := hM
  intro a hF
  refine c_nil (n_then ?_)
  refine c_seq ?_
  refine c_region ?_
  refine s_val hF (r_move hF rfl rfl) rfl rfl rfl fun a hF => ?_
  refine s_val hF (r_nilCheckP hF rfl rfl) rfl rfl rfl fun a hF => ?_
  refine s_val hF (r_fieldAddr (off' := 1) Tryz.underlying184 rfl in3 rfl hF rfl rfl rfl) rfl rfl rfl fun a hF => ?_
  refine s_val hF (r_load1 Tryz.isAgg3 hF rfl rfl (hM.cell (i := 1) rfl (RCursor.g_at_ _))) rfl rfl rfl fun a hF => ?_
  refine s_val hF (r_assign hF rfl rfl) rfl rfl rfl fun a hF => ?_
  refine c_nil (n_then ?_)
  refine c_seq ?_
  refine c_region ?_
  refine s_val hF (r_move hF rfl rfl) rfl rfl rfl fun a hF => ?_
  obtain ⟨y341, hy341, hP⟩ := bind_some hP
  refine s_eff hF rfl rfl rfl (w_call (xs := [.tmp 11, .const (.int .i64 (1)), .const (.int .i64 (5))]) Tryz.call122 hF rfl rfl (ref23_cursor_most_calls hy341 (selM hM [1, 0] 2 rfl) (Bf := Bf) (fun w hM => hsub _ (dropM hM 1)) f2) fun v w hR => ?_)
  obtain ⟨s342, rfl, f343, hM⟩ := hR
  replace hM : MemL _ (pt b0 (RCursor.enc (RCursor.mk s342 y341.2.at_ y341.2.place y341.2.e)) 184 :: pt b_B191_2 (LSlot.enc LSlot.zero) 50 :: Lr) := hM
  intro a hF
  refine s_val hF (r_assign hF rfl rfl) rfl rfl rfl fun a hF => ?_
  refine c_nil (n_then ?_)
  refine c_seq ?_
  refine c_joinX hF hM hP (fun F x a w => match x with | v354 => ∃ (s355 : SV), LIn Bf s355 v354.b ∧ Fr 44 [(0, .pointer (some ⟨b0, 0, none⟩)), (2, .pointer (some ⟨b_B191_2, 0, none⟩)), (4, .int .i64 y341.1)] a ∧ MemL w (pt b0 (RCursor.enc (RCursor.mk s355 v354.at_ v354.place v354.e)) 184 :: pt b_B191_2 (LSlot.enc LSlot.zero) 50 :: Lr)) (fun o_j1 hP hK_j1 hF hM => ?_) ?_
  · refine c_seq ?_
    refine c_region ?_
    refine s_val hF (r_move hF rfl rfl) rfl rfl rfl fun a hF => ?_
    refine s_val hF (r_eql hF rfl rfl rfl) rfl rfl rfl fun a hF => ?_
    refine c_nil (n_then ?_)
    refine c_cond hF (c := .tmp 14) rfl (fun hb357 => ?_) (fun hb357 => ?_)
    · have hP := Fx.cT hb357 hP
      refine c_region ?_
      refine s_val hF (r_move hF rfl rfl) rfl rfl rfl fun a hF => ?_
      refine s_val hF (r_move hF rfl rfl) rfl rfl rfl fun a hF => ?_
      obtain ⟨y359, hy359, hP⟩ := bind_some hP
      refine s_eff hF rfl rfl rfl (w_call (xs := [.tmp 15, .tmp 16, .const (.int .i64 (236))]) Tryz.call119 hF rfl rfl (ref23_cursor_fault_calls hy359 hM (Bf := Bf) (fun w hM => hsub _ (dropM hM 1)) f343) fun v w hR => ?_)
      obtain ⟨s360, rfl, f361, hM⟩ := hR
      replace hM : MemL _ (pt b0 (RCursor.enc (RCursor.mk s360 y359.at_ y359.place y359.e)) 184 :: pt b_B191_2 (LSlot.enc LSlot.zero) 50 :: Lr) := hM
      intro a hF
      refine c_nil (n_then ?_)
      have hP := Option.some.inj hP
      subst hP
      exact ⟨y359, rfl, s360, f361, hF.to ⟨rfl, rfl, rfl, trivial⟩, hM⟩
    have hP := Fx.cF hb357 hP
    refine c_skip (n_then ?_)
    have hP := Option.some.inj hP
    subst hP
    exact ⟨y341.2, rfl, s342, f343, hF.to ⟨rfl, rfl, rfl, trivial⟩, hM⟩
  rintro v354 a w hP ⟨s355, f356, hF, hM⟩
  replace hP : Sh.ref23_cursor_slot_j1 y341 v354 = _ := hP
  unfold Sh.ref23_cursor_slot_j1 at hP
  refine n_then ?_
  refine c_seq ?_
  refine c_seq ?_
  refine c_region ?_
  refine s_val hF (r_move hF rfl rfl) rfl rfl rfl fun a hF => ?_
  refine s_val hF (r_neq hF rfl rfl rfl) rfl rfl rfl fun a hF => ?_
  refine c_nil (n_then ?_)
  refine c_cond hF (c := .tmp 19) rfl (fun hb368 => ?_) (fun hb368 => ?_)
  · have hP := Fx.cT hb368 hP
    refine c_seq ?_
    refine c_region ?_
    refine s_val hF (r_move hF rfl rfl) rfl rfl rfl fun a hF => ?_
    refine s_val hF (r_move hF rfl rfl) rfl rfl rfl fun a hF => ?_
    obtain ⟨y370, hy370, hP⟩ := bind_some hP
    refine s_eff hF rfl rfl rfl (w_call (xs := [.tmp 20, .tmp 21]) Tryz.call229 hF rfl rfl (ref23_cursor_behind_calls hy370 hM (Bf := Bf) (fun w hM => hsub _ (dropM hM 1)) f356) fun v w hR => ?_)
    obtain ⟨s371, rfl, f372, hM⟩ := hR
    replace hM : MemL _ (pt b0 (RCursor.enc (RCursor.mk s371 y370.2.at_ y370.2.place y370.2.e)) 184 :: pt b_B191_2 (LSlot.enc LSlot.zero) 50 :: Lr) := hM
    intro a hF
    refine s_val hF (r_build z50 Tryz.underlying50 pl50 hF (parts := [(0, .tmp 22)]) rfl rfl (fill_p rfl (LVal.len _) (by rw [LVal.len, LSlot.len]; decide) (LSlot.p_ptr _ _) fill_e)) rfl rfl rfl fun a hF => ?_
    refine s_eff0 rfl rfl (w_storen (vs := _) Tryz.sizeOf50 (hM.obj (i := 1) rfl) hF rfl rfl rfl rfl (LSlot.len _) (LSlot.one _) (by first | (rw [LSlot.len, LSlot.len]; decide) | (rw [LSlot.len]; decide)) (put_all ((LSlot.len _).trans (LSlot.len _).symm)) fun w hU373 => ?_)
    have hM := hM.chg hU373 (i := 1) rfl
    replace hM : MemL _ (pt b0 (RCursor.enc (RCursor.mk s371 y370.2.at_ y370.2.place y370.2.e)) 184 :: pt b_B191_2 (LSlot.enc (LSlot.mk y370.1 (⟨List.replicate 8 0, rfl⟩ : Vec UInt8 8) 0)) 50 :: Lr) := hM
    refine c_nil (n_then ?_)
    refine c_ret ?_
    have hP := Option.some.inj hP
    subst hP
    refine e_ret (rs := [.cell 2 50]) Tryz.results191 hF (res_celln hF rfl Tryz.isAgg50 Tryz.sizeOf50 (LSlot.len _) (hM.cells (i := 1) rfl (cut_all (LSlot.len _))) res_nil) rfl ?_
    exact ⟨s371, rfl, f372, selM hM [0] 2 rfl⟩
  have hP := Fx.cF hb368 hP
  refine c_skip (n_then ?_)
  refine c_seq ?_
  refine c_region ?_
  refine s_val hF (r_move hF rfl rfl) rfl rfl rfl fun a hF => ?_
  obtain ⟨y375, hy375, hP⟩ := bind_some hP
  refine s_eff hF rfl rfl rfl (w_call (xs := [.tmp 24, .const (.int .i64 (1))]) Tryz.call121 hF rfl rfl (ref23_cursor_number_calls hy375 hM (Bf := Bf) (fun w hM => hsub _ (dropM hM 1)) f356) fun v w hR => ?_)
  obtain ⟨s376, rfl, f377, hM⟩ := hR
  replace hM : MemL _ (pt b0 (RCursor.enc (RCursor.mk s376 y375.2.at_ y375.2.place y375.2.e)) 184 :: pt b_B191_2 (LSlot.enc LSlot.zero) 50 :: Lr) := hM
  intro a hF
  refine s_val hF (r_build z50 Tryz.underlying50 pl50 hF (parts := [(2, .tmp 25)]) rfl rfl (fill_s rfl rfl (by rw [LSlot.len]; decide) (LSlot.s_mask _ _) fill_e)) rfl rfl rfl fun a hF => ?_
  refine s_eff hF rfl rfl rfl (w_alloc z50 (zs := LSlot.zero.enc) rfl rfl fun b_B191_5 w hzB191_5 hAB191_5 => ?_)
  have hM := hM.plus hAB191_5
  replace hM : MemL _ (pt b_B191_5 (LSlot.enc LSlot.zero) 50 :: pt b0 (RCursor.enc (RCursor.mk s376 y375.2.at_ y375.2.place y375.2.e)) 184 :: pt b_B191_2 (LSlot.enc LSlot.zero) 50 :: Lr) := hM
  intro a hF
  refine s_eff0 rfl rfl (w_storen (vs := _) Tryz.sizeOf50 (hM.obj (i := 0) rfl) hF rfl rfl rfl rfl (LSlot.len _) (LSlot.one _) (by first | (rw [LSlot.len, LSlot.len]; decide) | (rw [LSlot.len]; decide)) (put_all ((LSlot.len _).trans (LSlot.len _).symm)) fun w hU378 => ?_)
  have hM := hM.chg hU378 (i := 0) rfl
  replace hM : MemL _ (pt b_B191_5 (LSlot.enc (LSlot.mk LVal.zero (⟨List.replicate 8 0, rfl⟩ : Vec UInt8 8) y375.1)) 50 :: pt b0 (RCursor.enc (RCursor.mk s376 y375.2.at_ y375.2.place y375.2.e)) 184 :: pt b_B191_2 (LSlot.enc LSlot.zero) 50 :: Lr) := hM
  refine c_nil (n_then ?_)
  refine c_seq ?_
  refine c_joinX hF hM hP (fun F x a w => match x with | (v573, v574) => ∃ (s575 : SV), LIn Bf s575 v574.b ∧ Fr 44 [(2, .pointer (some ⟨b_B191_2, 0, none⟩)), (5, .pointer (some ⟨b_B191_5, 0, none⟩))] a ∧ MemL w (pt b_B191_5 (LSlot.enc v573) 50 :: pt b0 (RCursor.enc (RCursor.mk s575 v574.at_ v574.place v574.e)) 184 :: pt b_B191_2 (LSlot.enc LSlot.zero) 50 :: Lr)) (fun o_j2 hP hK_j2 hF hM => ?_) ?_
  · refine c_seq ?_
    refine c_region ?_
    refine s_val hF (r_assign hF rfl rfl) rfl rfl rfl fun a hF => ?_
    refine c_nil (n_then ?_)
    refine c_block ?_
    refine c_loopX hF hM hP (fun F x a w => match x with | (v639, v640, v643) => ∃ (s641 : SV), LIn Bf s641 v640.b ∧ Fr 44 [(6, .int .i64 v643), (0, .pointer (some ⟨b0, 0, none⟩)), (2, .pointer (some ⟨b_B191_2, 0, none⟩)), (5, .pointer (some ⟨b_B191_5, 0, none⟩))] a ∧ MemL w (pt b_B191_5 (LSlot.enc v639) 50 :: pt b0 (RCursor.enc (RCursor.mk s641 v640.at_ v640.place v640.e)) 184 :: pt b_B191_2 (LSlot.enc LSlot.zero) 50 :: Lr)) (fun hF hM => ⟨s376, f377, hF.to ⟨rfl, rfl, rfl, rfl, trivial⟩, hM⟩) ?_
    rintro ⟨v639, v640, v643⟩ a w o_l3 hP hK_l3 ⟨s641, f642, hF, hM⟩
    replace hP : Sh.ref23_cursor_slot_l3 v639 v640 v643 = _ := hP
    unfold Sh.ref23_cursor_slot_l3 at hP
    refine c_seq ?_
    refine c_seq ?_
    refine c_region ?_
    refine s_val hF (r_move hF rfl rfl) rfl rfl rfl fun a hF => ?_
    refine s_val hF (r_lss hF rfl rfl rfl) rfl rfl rfl fun a hF => ?_
    refine c_nil (n_then ?_)
    refine c_cond hF (c := .tmp 28) rfl (fun hb645 => ?_) (fun hb645 => ?_)
    · have hP := Fx.cT hb645 hP
      refine c_skip (n_then ?_)
      refine c_seq ?_
      refine c_joinX hF hM hP (fun F x a w => match x with | (v662, v663) => ∃ (s664 : SV), LIn Bf s664 v663.b ∧ Fr 44 [(0, .pointer (some ⟨b0, 0, none⟩)), (2, .pointer (some ⟨b_B191_2, 0, none⟩)), (5, .pointer (some ⟨b_B191_5, 0, none⟩)), (6, .int .i64 v643)] a ∧ MemL w (pt b_B191_5 (LSlot.enc v662) 50 :: pt b0 (RCursor.enc (RCursor.mk s664 v663.at_ v663.place v663.e)) 184 :: pt b_B191_2 (LSlot.enc LSlot.zero) 50 :: Lr)) (fun o_j4 hP hK_j4 hF hM => ?_) ?_
      · refine c_block ?_
        refine c_seq ?_
        refine c_region ?_
        refine s_val hF (r_fieldAddr (off' := 12) Tryz.underlying50 rfl in3 rfl hF rfl rfl rfl) rfl rfl rfl fun a hF => ?_
        refine s_val hF (r_load1 Tryz.isAgg3 hF rfl rfl (hM.cell (i := 0) rfl (LSlot.g_mask _))) rfl rfl rfl fun a hF => ?_
        refine s_val hF (r_move hF rfl rfl) rfl rfl rfl fun a hF => ?_
        obtain ⟨hc666, hP⟩ := must_some hP
        refine s_val hF (r_shr hF rfl rfl rfl (of_decide_eq_true hc666)) rfl rfl rfl fun a hF => ?_
        refine s_val hF (r_and hF rfl rfl rfl) rfl rfl rfl fun a hF => ?_
        refine s_val hF (r_eql hF rfl rfl rfl) rfl rfl rfl fun a hF => ?_
        refine c_nil (n_then ?_)
        refine c_cond hF (c := .tmp 36) rfl (fun hb667 => ?_) (fun hb667 => ?_)
        · have hP := Fx.cT hb667 hP
          refine c_region ?_
          refine s_val hF (r_move hF rfl rfl) rfl rfl rfl fun a hF => ?_
          refine s_val hF (r_move hF rfl rfl) rfl rfl rfl fun a hF => ?_
          obtain ⟨y669, hy669, hP⟩ := bind_some hP
          refine s_eff hF rfl rfl rfl (w_call (xs := [.tmp 38, .const (.int .i64 (1))]) Tryz.call121 hF rfl rfl (ref23_cursor_number_calls hy669 (selM hM [1, 0, 2] 3 rfl) (Bf := Bf) (fun w hM => hsub _ (dropM hM 2)) f642) fun v w hR => ?_)
          obtain ⟨s670, rfl, f671, hM⟩ := hR
          replace hM : MemL _ (pt b0 (RCursor.enc (RCursor.mk s670 y669.2.at_ y669.2.place y669.2.e)) 184 :: pt b_B191_5 (LSlot.enc v639) 50 :: pt b_B191_2 (LSlot.enc LSlot.zero) 50 :: Lr) := hM
          intro a hF
          refine s_val hF (r_convB Tryz.underlying3 Tryz.underlying5 hF rfl rfl) rfl rfl rfl fun a hF => ?_
          refine s_val hF (r_fieldAddr (off' := 4) Tryz.underlying50 rfl in48 rfl hF rfl rfl rfl) rfl rfl rfl fun a hF => ?_
          obtain ⟨x672, hx672, hP⟩ := bind_some hP
          have h0x672 := get_some hx672
          refine s_val hF (r_indexAddrA (sz := 1) Tryz.underlying48 in5 rfl hF rfl rfl rfl (get_bdv hx672)) rfl rfl rfl fun a hF => ?_
          refine s_eff0 rfl rfl (w_store1 Tryz.sizeOf5 (hM.obj (i := 1) rfl) hF rfl rfl rfl rfl (by have := (get_bdv hx672); rw [LSlot.len]; omega) (set_put (LSlot.pi_bytes _ _ _ (by have := (get_bdv hx672); omega)) (by have := (get_bdv hx672); rw [LSlot.len]; omega)) fun w hU673 => ?_)
          have hM := hM.chg hU673 (i := 1) rfl
          replace hM : MemL _ (pt b0 (RCursor.enc (RCursor.mk s670 y669.2.at_ y669.2.place y669.2.e)) 184 :: pt b_B191_5 (LSlot.enc (LSlot.mk v639.ptr (v639.bytes.set (v643 : Int).toNat (Fw.byteOf y669.1)) v639.mask)) 50 :: pt b_B191_2 (LSlot.enc LSlot.zero) 50 :: Lr) := hM
          refine c_nil (n_block (n_then ?_))
          have hP := Option.some.inj hP
          subst hP
          exact ⟨((LSlot.mk v639.ptr (v639.bytes.set (v643 : Int).toNat (Fw.byteOf y669.1)) v639.mask), y669.2), rfl, s670, f671, hF.to ⟨rfl, rfl, rfl, rfl, trivial⟩, selM hM [1, 0, 2] 3 rfl⟩
        have hP := Fx.cF hb667 hP
        refine c_skip (n_block (n_then ?_))
        have hP := Option.some.inj hP
        subst hP
        exact ⟨(v639, v640), rfl, s641, f642, hF.to ⟨rfl, rfl, rfl, rfl, trivial⟩, hM⟩
      rintro ⟨v662, v663⟩ a w hP ⟨s664, f665, hF, hM⟩
      replace hP : Sh.ref23_cursor_slot_j4 v643 v662 v663 = _ := hP
      unfold Sh.ref23_cursor_slot_j4 at hP
      refine n_then ?_
      refine c_region ?_
      refine s_val hF (r_move hF rfl rfl) rfl rfl rfl fun a hF => ?_
      refine s_val hF (r_add hF rfl rfl rfl) rfl rfl rfl fun a hF => ?_
      refine s_val hF (r_assign hF rfl rfl) rfl rfl rfl fun a hF => ?_
      refine c_nil (n_then ?_)
      have hP := Option.some.inj hP
      subst hP
      exact ⟨(v662, v663, (IntKind.i64.wrap (v643 + 1))), rfl, s664, f665, hF.to ⟨rfl, rfl, rfl, rfl, trivial⟩, hM⟩
    have hP := Fx.cF hb645 hP
    refine c_exit (x_then (x_then (x_hit ?_)))
    refine n_then ?_
    have hP := Option.some.inj hP
    subst hP
    have hP := hK_l3 _ rfl
    subst hP
    exact ⟨(v639, v640), rfl, s641, f642, hF.to ⟨rfl, rfl, trivial⟩, hM⟩
  rintro ⟨v573, v574⟩ a w hP ⟨s575, f576, hF, hM⟩
  replace hP : Sh.ref23_cursor_slot_j2 v573 v574 = _ := hP
  unfold Sh.ref23_cursor_slot_j2 at hP
  refine n_then ?_
  refine c_seq ?_
  refine c_region ?_
  refine s_val hF (r_loadn Tryz.isAgg50 Tryz.sizeOf50 hF rfl rfl (LSlot.len _) (hM.cells (i := 0) rfl (cut_all (LSlot.len _)))) rfl rfl rfl fun a hF => ?_
  refine s_eff0 rfl rfl (w_storen (vs := _) Tryz.sizeOf50 (hM.obj (i := 2) rfl) hF rfl rfl rfl rfl (LSlot.len _) (LSlot.one _) (by first | (rw [LSlot.len, LSlot.len]; decide) | (rw [LSlot.len]; decide)) (put_all ((LSlot.len _).trans (LSlot.len _).symm)) fun w hU674 => ?_)
  have hM := hM.chg hU674 (i := 2) rfl
  replace hM : MemL _ (pt b_B191_5 (LSlot.enc v573) 50 :: pt b0 (RCursor.enc (RCursor.mk s575 v574.at_ v574.place v574.e)) 184 :: pt b_B191_2 (LSlot.enc v573) 50 :: Lr) := hM
  refine c_nil (n_then ?_)
  refine c_ret ?_
  have hP := Option.some.inj hP
  subst hP
  refine e_ret (rs := [.cell 2 50]) Tryz.results191 hF (res_celln hF rfl Tryz.isAgg50 Tryz.sizeOf50 (LSlot.len _) (hM.cells (i := 2) rfl (cut_all (LSlot.len _))) res_nil) rfl ?_
  exact ⟨s575, rfl, f576, selM hM [1] 3 rfl⟩
end Go.Proofs
end
section
namespace Go.Proofs
open Go.Fw Go.Fx
set_option maxRecDepth 10000
set_option linter.unusedVariables false
set_option linter.unusedSimpArgs false
set_option maxHeartbeats 4000000 in
theorem ref23_within_calls {x0 : Int} {x1 : Int} {x2 : Int} {out : Bool} {w0 : World} {Lr : List Res} (hP : Sh.ref23_within x0 x1 x2 = some out) (hM : MemL w0 (Lr)) : Calls Tryz.prog 159 #[.int .i64 x0, .int .i64 x1, .int .i64 x2] w0 (Ret fun v w' => v = .bool out ∧ MemL w' (Lr)) := by
  unfold Sh.ref23_within at hP
  refine calls_enter (vs := [.int .i64 x0, .int .i64 x1, .int .i64 x2]) Tryz.func159 rfl Tryz.ntmps159 rfl fun a hF => ?_
  refine c_seq ?_
  refine c_region ?_
  refine s_val hF (r_assign hF rfl rfl) rfl rfl rfl fun a hF => ?_
  refine c_nil (n_then ?_)
  refine c_seq ?_
  refine c_joinX hF hM hP (fun F x a w => match x with | v7 => Fr 15 [(6, .bool v7)] a ∧ MemL w (Lr)) (fun o_j1 hP hK_j1 hF hM => ?_) ?_
  · refine c_region ?_
    refine s_val hF (r_move hF rfl rfl) rfl rfl rfl fun a hF => ?_
    refine s_val hF (r_move hF rfl rfl) rfl rfl rfl fun a hF => ?_
    refine s_val hF (r_geq hF rfl rfl rfl) rfl rfl rfl fun a hF => ?_
    refine s_val hF (r_move hF rfl rfl) rfl rfl rfl fun a hF => ?_
    refine g_split 10 hF rfl (fun hb8 => ?_) (fun hb8 => ?_)
    · have hP := Fx.cT hb8 hP
      refine g_val hF rfl rfl rfl hb8 (r_move hF rfl rfl) rfl rfl fun a hF => ?_
      refine g_val hF rfl rfl rfl hb8 (r_move hF rfl rfl) rfl rfl fun a hF => ?_
      refine g_val hF rfl rfl rfl hb8 (r_leq hF rfl rfl rfl) rfl rfl fun a hF => ?_
      refine s_val hF (r_pick1 hF rfl rfl hb8 rfl) rfl rfl rfl fun a hF => ?_
      refine s_val hF (r_assign hF rfl rfl) rfl rfl rfl fun a hF => ?_
      refine c_nil (n_then ?_)
      have hP := Option.some.inj hP
      subst hP
      exact ⟨(decide (x0 ≤ x2)), rfl, hF.to ⟨rfl, trivial⟩, hM⟩
    have hP := Fx.cF hb8 hP
    refine g_skip hF rfl rfl rfl hb8 rfl rfl fun a hF => ?_
    refine g_skip hF rfl rfl rfl hb8 rfl rfl fun a hF => ?_
    refine g_skip hF rfl rfl rfl hb8 rfl rfl fun a hF => ?_
    refine s_val hF (r_pick0 hF rfl rfl hb8 rfl) rfl rfl rfl fun a hF => ?_
    refine s_val hF (r_assign hF rfl rfl) rfl rfl rfl fun a hF => ?_
    refine c_nil (n_then ?_)
    have hP := Option.some.inj hP
    subst hP
    exact ⟨false, rfl, hF.to ⟨rfl, trivial⟩, hM⟩
  rintro v7 a w hP ⟨hF, hM⟩
  replace hP : Sh.ref23_within_j1 v7 = _ := hP
  unfold Sh.ref23_within_j1 at hP
  refine n_then ?_
  refine c_ret ?_
  have hP := Option.some.inj hP
  subst hP
  refine e_ret1 Tryz.results159 hF rfl ?_
  exact ⟨rfl, hM⟩
set_option maxHeartbeats 4000000 in
theorem ref23_pieces_calls {x0 : List QPiece} {s1 : SV} {hs2 : List RPiece} {out : Bool} {w0 : World} {Bf : World → Prop} {Lr : List Res} (hP : Sh.ref23_pieces x0 = some out) (hM : MemL w0 (Lr)) (hsub : ∀ w, MemL w Lr → Bf w) (f3 : LIn Bf s1 hs2) (q4 : Each (QPieceIn Bf) hs2 x0) : Calls Tryz.prog 198 #[(s1).v] w0 (Ret fun v w' => v = .bool out ∧ MemL w' (Lr)) := by
  unfold Sh.ref23_pieces at hP
  refine calls_enter (vs := [(s1).v]) Tryz.func198 rfl Tryz.ntmps198 rfl fun a hF => ?_
  refine c_seq ?_
  refine c_region ?_
  refine s_val hF (r_assign hF rfl rfl) rfl rfl rfl fun a hF => ?_
  refine c_nil (n_then ?_)
  refine c_seq ?_
  refine c_joinX hF hM hP (fun F x a w => match x with | _ => Fr 99 [(2, .bool false)] a ∧ MemL w (Lr)) (fun o_j1 hP hK_j1 hF hM => ?_) ?_
  · refine c_seq ?_
    refine c_region ?_
    refine s_val hF (r_assign hF rfl rfl) rfl rfl rfl fun a hF => ?_
    refine c_nil (n_then ?_)
    refine c_block ?_
    refine c_loopX hF hM hP (fun F x a w => match x with | v9638 => Fr 99 [(3, .int .i64 v9638), (0, (s1).v), (2, .bool false)] a ∧ MemL w (Lr)) (fun hF hM => ⟨hF.to ⟨rfl, rfl, rfl, trivial⟩, hM⟩) ?_
    rintro v9638 a w o_l2 hP hK_l2 ⟨hF, hM⟩
    replace hP : Sh.ref23_pieces_l2 x0 v9638 = _ := hP
    unfold Sh.ref23_pieces_l2 at hP
    refine c_seq ?_
    refine c_seq ?_
    refine c_region ?_
    refine s_val hF (r_move hF rfl rfl) rfl rfl rfl fun a hF => ?_
    refine s_val hF (r_move hF rfl rfl) rfl rfl rfl fun a hF => ?_
    refine s_val hF (r_lenD (f3 _ (hsub _ (dropM hM 0))) q4.len Tryz.underlying58 hF rfl rfl) rfl rfl rfl fun a hF => ?_
    refine s_val hF (r_lss hF rfl rfl rfl) rfl rfl rfl fun a hF => ?_
    refine c_nil (n_then ?_)
    refine c_cond hF (c := .tmp 10) rfl (fun hb9640 => ?_) (fun hb9640 => ?_)
    · have hP := Fx.cT hb9640 hP
      refine c_skip (n_then ?_)
      refine c_seq ?_
      refine c_joinX hF hM hP (fun F x a w => match x with | _ => Fr 99 [(0, (s1).v), (2, .bool false), (3, .int .i64 v9638)] a ∧ MemL w (Lr)) (fun o_j3 hP hK_j3 hF hM => ?_) ?_
      · refine c_block ?_
        refine c_seq ?_
        refine c_region ?_
        refine s_val hF (r_move hF rfl rfl) rfl rfl rfl fun a hF => ?_
        refine s_val hF (r_move hF rfl rfl) rfl rfl rfl fun a hF => ?_
        obtain ⟨x10017, hx10017, hP⟩ := bind_some hP
        have h0x10017 := get_some hx10017
        obtain ⟨yx10017, hgx10017, hrx10017⟩ := Each.getr q4 h0x10017.2
        have hdx10017 := Each.bd q4 (get_bd hx10017)
        obtain ⟨s10018, s10020, rfl, f10019, f10021⟩ := hrx10017
        refine s_val hF (r_indexZ (sz := 4) (f3 _ (hsub _ (dropM hM 0))) Tryz.underlying58 in156 rfl hF rfl rfl rfl hdx10017) rfl rfl rfl fun a hF => ?_
        refine s_val hF (r_loadn Tryz.isAgg156 Tryz.sizeOf156 hF rfl rfl (RPiece.len _) (((f3 _ (hsub _ (dropM hM 0))).elemS hgx10017))) rfl rfl rfl fun a hF => ?_
        refine s_eff hF rfl rfl rfl (w_alloc z156 (zs := RPiece.zero.enc) rfl rfl fun b_B198_4 w hzB198_4 hAB198_4 => ?_)
        have hM := hM.plus hAB198_4
        replace hM : MemL _ (pt b_B198_4 (RPiece.enc (RPiece.mk 0 0 SV.nil SV.nil)) 156 :: Lr) := hM
        intro a hF
        refine s_eff0 rfl rfl (w_storen (vs := _) Tryz.sizeOf156 (hM.obj (i := 0) rfl) hF rfl rfl rfl rfl (RPiece.len _) (RPiece.one _) (by first | (rw [RPiece.len, RPiece.len]; decide) | (rw [RPiece.len]; decide)) (put_all ((RPiece.len _).trans (RPiece.len _).symm)) fun w hU10022 => ?_)
        have hM := hM.chg hU10022 (i := 0) rfl
        replace hM : MemL _ (pt b_B198_4 (RPiece.enc (RPiece.mk x10017.table x10017.from_ s10018 s10020)) 156 :: Lr) := hM
        refine c_nil (n_then ?_)
        refine c_seq ?_
        refine c_seq ?_
        refine c_joinX hF hM hP (fun F x a w => match x with | v10065 => Fr 99 [(50, .bool v10065), (0, (s1).v), (2, .bool false), (3, .int .i64 v9638), (4, .pointer (some ⟨b_B198_4, 0, none⟩))] a ∧ MemL w (pt b_B198_4 (RPiece.enc (RPiece.mk x10017.table x10017.from_ s10018 s10020)) 156 :: Lr)) (fun o_j4 hP hK_j4 hF hM => ?_) ?_
        · refine c_region ?_
          refine s_val hF (r_fieldAddr (off' := 0) Tryz.underlying156 rfl in3 rfl hF rfl rfl rfl) rfl rfl rfl fun a hF => ?_
          refine s_val hF (r_load1 Tryz.isAgg3 hF rfl rfl (hM.cell (i := 0) rfl (RPiece.g_table _))) rfl rfl rfl fun a hF => ?_
          obtain ⟨y10067, hy10067, hP⟩ := bind_some hP
          refine s_eff hF rfl rfl rfl (w_call (xs := [.tmp 18, .const (.int .i64 (-1)), .const (.int .i64 (7))]) Tryz.call159 hF rfl rfl (ref23_within_calls hy10067 hM ) fun v w hR => ?_)
          obtain ⟨rfl, hM⟩ := hR
          replace hM : MemL _ (pt b_B198_4 (RPiece.enc (RPiece.mk x10017.table x10017.from_ s10018 s10020)) 156 :: Lr) := hM
          intro a hF
          refine s_val hF (r_not hF rfl rfl) rfl rfl rfl fun a hF => ?_
          refine s_val hF (r_move hF rfl rfl) rfl rfl rfl fun a hF => ?_
          refine g_split 21 hF rfl (fun hb10068 => ?_) (fun hb10068 => ?_)
          · have hP := Fx.cT hb10068 hP
            refine g_skip hF rfl rfl rfl hb10068 rfl rfl fun a hF => ?_
            refine g_skip hF rfl rfl rfl hb10068 rfl rfl fun a hF => ?_
            refine g_skip hF rfl rfl rfl hb10068 rfl rfl fun a hF => ?_
            refine g_skip hF rfl rfl rfl hb10068 rfl rfl fun a hF => ?_
            refine s_val hF (r_pick1 hF rfl rfl hb10068 rfl) rfl rfl rfl fun a hF => ?_
            refine s_val hF (r_move hF rfl rfl) rfl rfl rfl fun a hF => ?_
            refine g_skip hF rfl rfl rfl rfl rfl rfl fun a hF => ?_
            refine g_skip hF rfl rfl rfl rfl rfl rfl fun a hF => ?_
            refine g_skip hF rfl rfl rfl rfl rfl rfl fun a hF => ?_
            refine g_skip hF rfl rfl rfl rfl rfl rfl fun a hF => ?_
            refine g_skip hF rfl rfl rfl rfl rfl rfl fun a hF => ?_
            refine g_skip hF rfl rfl rfl rfl rfl rfl fun a hF => ?_
            refine g_skip hF rfl rfl rfl rfl rfl rfl fun a hF => ?_
            refine s_val hF (r_pick1 hF rfl rfl rfl rfl) rfl rfl rfl fun a hF => ?_
            refine s_val hF (r_move hF rfl rfl) rfl rfl rfl fun a hF => ?_
            refine g_skip hF rfl rfl rfl rfl rfl rfl fun a hF => ?_
            refine g_skip hF rfl rfl rfl rfl rfl rfl fun a hF => ?_
            refine g_skip hF rfl rfl rfl rfl rfl rfl fun a hF => ?_
            refine g_skip hF rfl rfl rfl rfl rfl rfl fun a hF => ?_
            refine s_val hF (r_pick1 hF rfl rfl rfl rfl) rfl rfl rfl fun a hF => ?_
            refine s_val hF (r_move hF rfl rfl) rfl rfl rfl fun a hF => ?_
            refine g_skip hF rfl rfl rfl rfl rfl rfl fun a hF => ?_
            refine g_skip hF rfl rfl rfl rfl rfl rfl fun a hF => ?_
            refine g_skip hF rfl rfl rfl rfl rfl rfl fun a hF => ?_
            refine g_skip hF rfl rfl rfl rfl rfl rfl fun a hF => ?_
            refine g_skip hF rfl rfl rfl rfl rfl rfl fun a hF => ?_
            refine g_skip hF rfl rfl rfl rfl rfl rfl fun a hF => ?_
            refine g_skip hF rfl rfl rfl rfl rfl rfl fun a hF => ?_
            refine s_val hF (r_pick1 hF rfl rfl rfl rfl) rfl rfl rfl fun a hF => ?_
            refine c_nil (n_then ?_)
            have hP := Option.some.inj hP
            subst hP
            exact ⟨true, rfl, hF.to ⟨rfl, rfl, rfl, rfl, rfl, trivial⟩, hM⟩
          have hP := Fx.cF hb10068 hP
          refine g_val hF rfl rfl rfl hb10068 (r_fieldAddr (off' := 1) Tryz.underlying156 rfl in3 rfl hF rfl rfl rfl) rfl rfl fun a hF => ?_
          refine g_val hF rfl rfl rfl hb10068 (r_load1 Tryz.isAgg3 hF rfl rfl (hM.cell (i := 0) rfl (RPiece.g_from_ _))) rfl rfl fun a hF => ?_
          obtain ⟨y10070, hy10070, hP⟩ := bind_some hP
          refine g_eff hF rfl rfl rfl hb10068 rfl rfl (w_call (xs := [.tmp 23, .const (.int .i64 (0)), .const (.int .i64 (65535))]) Tryz.call159 hF rfl rfl (ref23_within_calls hy10070 hM ) fun v w hR => ?_)
          obtain ⟨rfl, hM⟩ := hR
          replace hM : MemL _ (pt b_B198_4 (RPiece.enc (RPiece.mk x10017.table x10017.from_ s10018 s10020)) 156 :: Lr) := hM
          intro a hF
          refine g_val hF rfl rfl rfl hb10068 (r_not hF rfl rfl) rfl rfl fun a hF => ?_
          refine s_val hF (r_pick0 hF rfl rfl hb10068 rfl) rfl rfl rfl fun a hF => ?_
          refine s_val hF (r_move hF rfl rfl) rfl rfl rfl fun a hF => ?_
          refine g_split 27 hF rfl (fun hb10071 => ?_) (fun hb10071 => ?_)
          · have hP := Fx.cT hb10071 hP
            refine g_skip hF rfl rfl rfl hb10071 rfl rfl fun a hF => ?_
            refine g_skip hF rfl rfl rfl hb10071 rfl rfl fun a hF => ?_
            refine g_skip hF rfl rfl rfl hb10071 rfl rfl fun a hF => ?_
            refine g_skip hF rfl rfl rfl hb10071 rfl rfl fun a hF => ?_
            refine g_skip hF rfl rfl rfl hb10071 rfl rfl fun a hF => ?_
            refine g_skip hF rfl rfl rfl hb10071 rfl rfl fun a hF => ?_
            refine g_skip hF rfl rfl rfl hb10071 rfl rfl fun a hF => ?_
            refine s_val hF (r_pick1 hF rfl rfl hb10071 rfl) rfl rfl rfl fun a hF => ?_
            refine s_val hF (r_move hF rfl rfl) rfl rfl rfl fun a hF => ?_
            refine g_skip hF rfl rfl rfl rfl rfl rfl fun a hF => ?_
            refine g_skip hF rfl rfl rfl rfl rfl rfl fun a hF => ?_
            refine g_skip hF rfl rfl rfl rfl rfl rfl fun a hF => ?_
            refine g_skip hF rfl rfl rfl rfl rfl rfl fun a hF => ?_
            refine s_val hF (r_pick1 hF rfl rfl rfl rfl) rfl rfl rfl fun a hF => ?_
            refine s_val hF (r_move hF rfl rfl) rfl rfl rfl fun a hF => ?_
            refine g_skip hF rfl rfl rfl rfl rfl rfl fun a hF => ?_
            refine g_skip hF rfl rfl rfl rfl rfl rfl fun a hF => ?_
            refine g_skip hF rfl rfl rfl rfl rfl rfl fun a hF => ?_
            refine g_skip hF rfl rfl rfl rfl rfl rfl fun a hF => ?_
            refine g_skip hF rfl rfl rfl rfl rfl rfl fun a hF => ?_
            refine g_skip hF rfl rfl rfl rfl rfl rfl fun a hF => ?_
            refine g_skip hF rfl rfl rfl rfl rfl rfl fun a hF => ?_
            refine s_val hF (r_pick1 hF rfl rfl rfl rfl) rfl rfl rfl fun a hF => ?_
            refine c_nil (n_then ?_)
            have hP := Option.some.inj hP
            subst hP
            exact ⟨true, rfl, hF.to ⟨rfl, rfl, rfl, rfl, rfl, trivial⟩, hM⟩
          have hP := Fx.cF hb10071 hP
          refine g_val hF rfl rfl rfl hb10071 (r_fieldAddr (off' := 2) Tryz.underlying156 rfl in23 rfl hF rfl rfl rfl) rfl rfl fun a hF => ?_
          refine g_val hF rfl rfl rfl hb10071 (r_load1 Tryz.isAgg23 hF rfl rfl (hM.cell (i := 0) rfl (RPiece.g_old _))) rfl rfl fun a hF => ?_
          refine g_val hF rfl rfl rfl hb10071 (r_lenL (f10019 _ (hsub _ (dropM hM 1))) Tryz.underlying23 hF rfl rfl) rfl rfl fun a hF => ?_
          refine g_val hF rfl rfl rfl hb10071 (r_fieldAddr (off' := 3) Tryz.underlying156 rfl in23 rfl hF rfl rfl rfl) rfl rfl fun a hF => ?_
          refine g_val hF rfl rfl rfl hb10071 (r_load1 Tryz.isAgg23 hF rfl rfl (hM.cell (i := 0) rfl (RPiece.g_new _))) rfl rfl fun a hF => ?_
          refine g_val hF rfl rfl rfl hb10071 (r_lenL (f10021 _ (hsub _ (dropM hM 1))) Tryz.underlying23 hF rfl rfl) rfl rfl fun a hF => ?_
          refine g_val hF rfl rfl rfl hb10071 (r_neq hF rfl rfl rfl) rfl rfl fun a hF => ?_
          refine s_val hF (r_pick0 hF rfl rfl hb10071 rfl) rfl rfl rfl fun a hF => ?_
          refine s_val hF (r_move hF rfl rfl) rfl rfl rfl fun a hF => ?_
          refine g_split 36 hF rfl (fun hb10072 => ?_) (fun hb10072 => ?_)
          · have hP := Fx.cT hb10072 hP
            refine g_skip hF rfl rfl rfl hb10072 rfl rfl fun a hF => ?_
            refine g_skip hF rfl rfl rfl hb10072 rfl rfl fun a hF => ?_
            refine g_skip hF rfl rfl rfl hb10072 rfl rfl fun a hF => ?_
            refine g_skip hF rfl rfl rfl hb10072 rfl rfl fun a hF => ?_
            refine s_val hF (r_pick1 hF rfl rfl hb10072 rfl) rfl rfl rfl fun a hF => ?_
            refine s_val hF (r_move hF rfl rfl) rfl rfl rfl fun a hF => ?_
            refine g_skip hF rfl rfl rfl rfl rfl rfl fun a hF => ?_
            refine g_skip hF rfl rfl rfl rfl rfl rfl fun a hF => ?_
            refine g_skip hF rfl rfl rfl rfl rfl rfl fun a hF => ?_
            refine g_skip hF rfl rfl rfl rfl rfl rfl fun a hF => ?_
            refine g_skip hF rfl rfl rfl rfl rfl rfl fun a hF => ?_
            refine g_skip hF rfl rfl rfl rfl rfl rfl fun a hF => ?_
            refine g_skip hF rfl rfl rfl rfl rfl rfl fun a hF => ?_
            refine s_val hF (r_pick1 hF rfl rfl rfl rfl) rfl rfl rfl fun a hF => ?_
            refine c_nil (n_then ?_)
            have hP := Option.some.inj hP
            subst hP
            exact ⟨true, rfl, hF.to ⟨rfl, rfl, rfl, rfl, rfl, trivial⟩, hM⟩
          have hP := Fx.cF hb10072 hP
          refine g_val hF rfl rfl rfl hb10072 (r_fieldAddr (off' := 2) Tryz.underlying156 rfl in23 rfl hF rfl rfl rfl) rfl rfl fun a hF => ?_
          refine g_val hF rfl rfl rfl hb10072 (r_load1 Tryz.isAgg23 hF rfl rfl (hM.cell (i := 0) rfl (RPiece.g_old _))) rfl rfl fun a hF => ?_
          refine g_val hF rfl rfl rfl hb10072 (r_lenL (f10019 _ (hsub _ (dropM hM 1))) Tryz.underlying23 hF rfl rfl) rfl rfl fun a hF => ?_
          refine g_val hF rfl rfl rfl hb10072 (r_eql hF rfl rfl rfl) rfl rfl fun a hF => ?_
          refine s_val hF (r_pick0 hF rfl rfl hb10072 rfl) rfl rfl rfl fun a hF => ?_
          refine s_val hF (r_move hF rfl rfl) rfl rfl rfl fun a hF => ?_
          refine g_split 42 hF rfl (fun hb10073 => ?_) (fun hb10073 => ?_)
          · have hP := Fx.cT hb10073 hP
            refine g_skip hF rfl rfl rfl hb10073 rfl rfl fun a hF => ?_
            refine g_skip hF rfl rfl rfl hb10073 rfl rfl fun a hF => ?_
            refine g_skip hF rfl rfl rfl hb10073 rfl rfl fun a hF => ?_
            refine g_skip hF rfl rfl rfl hb10073 rfl rfl fun a hF => ?_
            refine g_skip hF rfl rfl rfl hb10073 rfl rfl fun a hF => ?_
            refine g_skip hF rfl rfl rfl hb10073 rfl rfl fun a hF => ?_
            refine g_skip hF rfl rfl rfl hb10073 rfl rfl fun a hF => ?_
            refine s_val hF (r_pick1 hF rfl rfl hb10073 rfl) rfl rfl rfl fun a hF => ?_
            refine c_nil (n_then ?_)
            have hP := Option.some.inj hP
            subst hP
            exact ⟨true, rfl, hF.to ⟨rfl, rfl, rfl, rfl, rfl, trivial⟩, hM⟩
          have hP := Fx.cF hb10073 hP
          refine g_val hF rfl rfl rfl hb10073 (r_fieldAddr (off' := 1) Tryz.underlying156 rfl in3 rfl hF rfl rfl rfl) rfl rfl fun a hF => ?_
          refine g_val hF rfl rfl rfl hb10073 (r_load1 Tryz.isAgg3 hF rfl rfl (hM.cell (i := 0) rfl (RPiece.g_from_ _))) rfl rfl fun a hF => ?_
          refine g_val hF rfl rfl rfl hb10073 (r_fieldAddr (off' := 2) Tryz.underlying156 rfl in23 rfl hF rfl rfl rfl) rfl rfl fun a hF => ?_
          refine g_val hF rfl rfl rfl hb10073 (r_load1 Tryz.isAgg23 hF rfl rfl (hM.cell (i := 0) rfl (RPiece.g_old _))) rfl rfl fun a hF => ?_
          refine g_val hF rfl rfl rfl hb10073 (r_lenL (f10019 _ (hsub _ (dropM hM 1))) Tryz.underlying23 hF rfl rfl) rfl rfl fun a hF => ?_
          refine g_val hF rfl rfl rfl hb10073 (r_add hF rfl rfl rfl) rfl rfl fun a hF => ?_
          refine g_val hF rfl rfl rfl hb10073 (r_gtr hF rfl rfl rfl) rfl rfl fun a hF => ?_
          refine s_val hF (r_pick0 hF rfl rfl hb10073 rfl) rfl rfl rfl fun a hF => ?_
          refine c_nil (n_then ?_)
          have hP := Option.some.inj hP
          subst hP
          exact ⟨(decide (65535 < (IntKind.i64.wrap (x10017.from_ + (x10017.old.length : Int))))), rfl, hF.to ⟨rfl, rfl, rfl, rfl, rfl, trivial⟩, hM⟩
        rintro v10065 a w hP ⟨hF, hM⟩
        replace hP : Sh.ref23_pieces_j4 x0 v9638 x10017 v10065 = _ := hP
        unfold Sh.ref23_pieces_j4 at hP
        refine n_then ?_
        refine c_cond hF (c := .tmp 50) rfl (fun hb10074 => ?_) (fun hb10074 => ?_)
        · have hP := Fx.cT hb10074 hP
          refine c_seq ?_
          refine c_region ?_
          refine s_val hF (r_assign hF rfl rfl) rfl rfl rfl fun a hF => ?_
          refine c_nil (n_then ?_)
          refine c_ret ?_
          have hP := Option.some.inj hP
          subst hP
          have hP := fin_inr hK_j3
          subst hP
          have hP := hK_l2 _ rfl
          subst hP
          have hP := fin_inr hK_j1
          subst hP
          refine e_ret1 Tryz.results198 hF rfl ?_
          exact ⟨rfl, selM hM [] 1 rfl⟩
        have hP := Fx.cF hb10074 hP
        refine c_skip (n_then ?_)
        refine c_seq ?_
        refine c_joinX hF hM hP (fun F x a w => match x with | _ => Fr 99 [(0, (s1).v), (2, .bool false), (3, .int .i64 v9638), (4, .pointer (some ⟨b_B198_4, 0, none⟩))] a ∧ MemL w (pt b_B198_4 (RPiece.enc (RPiece.mk x10017.table x10017.from_ s10018 s10020)) 156 :: Lr)) (fun o_j5 hP hK_j5 hF hM => ?_) ?_
        · refine c_seq ?_
          refine c_region ?_
          refine s_val hF (r_assign hF rfl rfl) rfl rfl rfl fun a hF => ?_
          refine c_nil (n_then ?_)
          refine c_block ?_
          refine c_loopX hF hM hP (fun F x a w => match x with | v10176 => Fr 99 [(5, .int .i64 v10176), (0, (s1).v), (2, .bool false), (3, .int .i64 v9638), (4, .pointer (some ⟨b_B198_4, 0, none⟩))] a ∧ MemL w (pt b_B198_4 (RPiece.enc (RPiece.mk x10017.table x10017.from_ s10018 s10020)) 156 :: Lr)) (fun hF hM => ⟨hF.to ⟨rfl, rfl, rfl, rfl, rfl, trivial⟩, hM⟩) ?_
          rintro v10176 a w o_l6 hP hK_l6 ⟨hF, hM⟩
          replace hP : Sh.ref23_pieces_l6 x10017 v10176 = _ := hP
          unfold Sh.ref23_pieces_l6 at hP
          refine c_seq ?_
          refine c_seq ?_
          refine c_region ?_
          refine s_val hF (r_move hF rfl rfl) rfl rfl rfl fun a hF => ?_
          refine s_val hF (r_fieldAddr (off' := 2) Tryz.underlying156 rfl in23 rfl hF rfl rfl rfl) rfl rfl rfl fun a hF => ?_
          refine s_val hF (r_load1 Tryz.isAgg23 hF rfl rfl (hM.cell (i := 0) rfl (RPiece.g_old _))) rfl rfl rfl fun a hF => ?_
          refine s_val hF (r_lenL (f10019 _ (hsub _ (dropM hM 1))) Tryz.underlying23 hF rfl rfl) rfl rfl rfl fun a hF => ?_
          refine s_val hF (r_lss hF rfl rfl rfl) rfl rfl rfl fun a hF => ?_
          refine c_nil (n_then ?_)
          refine c_cond hF (c := .tmp 55) rfl (fun hb10178 => ?_) (fun hb10178 => ?_)
          · have hP := Fx.cT hb10178 hP
            refine c_skip (n_then ?_)
            refine c_seq ?_
            refine c_block ?_
            refine c_seq ?_
            refine d_startT mixed (by kernel_rfl) hM [0] 1 rfl fun hch => ?_
            refine d_val hF hch 0 rfl (by kernel_rfl) rfl rfl rfl (fun w hM => (r_fieldAddr (off' := 2) Tryz.underlying156 rfl in23 rfl hF rfl rfl rfl)) fun a hF => ?_
            refine d_val hF hch 1 rfl (by kernel_rfl) rfl rfl rfl (fun w hM => (r_load1 Tryz.isAgg23 hF rfl rfl (hM.cell (i := 0) rfl (RPiece.g_old _)))) fun a hF => ?_
            refine d_val hF hch 2 rfl (by kernel_rfl) rfl rfl rfl (fun w hM => (r_move hF rfl rfl)) fun a hF => ?_
            obtain ⟨x10186, hx10186, hP⟩ := bind_some hP
            have h0x10186 := get_some hx10186
            refine d_val hF hch 3 rfl (by kernel_rfl) rfl rfl rfl (fun w hM => (r_indexZ (sz := 1) (f10019 _ (hsub _ (dropM hM 1))) Tryz.underlying23 in5 rfl hF rfl rfl rfl (get_bd hx10186))) fun a hF => ?_
            refine d_val hF hch 4 rfl (by kernel_rfl) rfl rfl rfl (fun w hM => (r_load1 Tryz.isAgg5 hF rfl rfl ((((f10019 _ (hsub _ (dropM hM 1))).elemS h0x10186.2)).get 0 rfl))) fun a hF => ?_
            refine d_val hF hch 5 rfl (by kernel_rfl) rfl rfl rfl (fun w hM => (r_fieldAddr (off' := 3) Tryz.underlying156 rfl in23 rfl hF rfl rfl rfl)) fun a hF => ?_
            refine d_val hF hch 6 rfl (by kernel_rfl) rfl rfl rfl (fun w hM => (r_load1 Tryz.isAgg23 hF rfl rfl (hM.cell (i := 0) rfl (RPiece.g_new _)))) fun a hF => ?_
            refine d_val hF hch 7 rfl (by kernel_rfl) rfl rfl rfl (fun w hM => (r_move hF rfl rfl)) fun a hF => ?_
            obtain ⟨x10187, hx10187, hP⟩ := bind_some hP
            have h0x10187 := get_some hx10187
            refine d_val hF hch 8 rfl (by kernel_rfl) rfl rfl rfl (fun w hM => (r_indexZ (sz := 1) (f10021 _ (hsub _ (dropM hM 1))) Tryz.underlying23 in5 rfl hF rfl rfl rfl (get_bd hx10187))) fun a hF => ?_
            refine d_val hF hch 9 rfl (by kernel_rfl) rfl rfl rfl (fun w hM => (r_load1 Tryz.isAgg5 hF rfl rfl ((((f10021 _ (hsub _ (dropM hM 1))).elemS h0x10187.2)).get 0 rfl))) fun a hF => ?_
            refine d_val hF hch 10 rfl (by kernel_rfl) rfl rfl rfl (fun w hM => (r_eql hF rfl rfl rfl)) fun a hF => ?_
            refine d_end hch (by kernel_rfl) fun w hM => ?_
            refine n_then ?_
            refine c_cond hF (c := .tmp 68) rfl (fun hb10188 => ?_) (fun hb10188 => ?_)
            · have hP := Fx.cT hb10188 hP
              refine c_seq ?_
              refine c_region ?_
              refine s_val hF (r_assign hF rfl rfl) rfl rfl rfl fun a hF => ?_
              refine c_nil (n_then ?_)
              refine c_ret ?_
              have hP := Option.some.inj hP
              subst hP
              have hP := hK_l6 _ rfl
              subst hP
              have hP := fin_inr hK_j5
              subst hP
              have hP := fin_inr hK_j3
              subst hP
              have hP := hK_l2 _ rfl
              subst hP
              have hP := fin_inr hK_j1
              subst hP
              refine e_ret1 Tryz.results198 hF rfl ?_
              exact ⟨rfl, selM hM [] 1 rfl⟩
            have hP := Fx.cF hb10188 hP
            refine c_skip (n_block (n_then ?_))
            refine c_region ?_
            refine s_val hF (r_move hF rfl rfl) rfl rfl rfl fun a hF => ?_
            refine s_val hF (r_add hF rfl rfl rfl) rfl rfl rfl fun a hF => ?_
            refine s_val hF (r_assign hF rfl rfl) rfl rfl rfl fun a hF => ?_
            refine c_nil (n_then ?_)
            have hP := Option.some.inj hP
            subst hP
            exact ⟨(IntKind.i64.wrap (v10176 + 1)), rfl, hF.to ⟨rfl, rfl, rfl, rfl, rfl, trivial⟩, hM⟩
          have hP := Fx.cF hb10178 hP
          refine c_exit (x_then (x_then (x_hit ?_)))
          refine n_then ?_
          have hP := Option.some.inj hP
          subst hP
          have hP := hK_l6 _ rfl
          subst hP
          exact ⟨(), rfl, hF.to ⟨rfl, rfl, rfl, rfl, trivial⟩, hM⟩
        rintro ⟨⟩ a w hP ⟨hF, hM⟩
        replace hP : Sh.ref23_pieces_j5 x0 v9638 x10017 = _ := hP
        unfold Sh.ref23_pieces_j5 at hP
        refine n_then ?_
        refine c_seq ?_
        refine c_seq ?_
        refine c_region ?_
        refine s_val hF (r_move hF rfl rfl) rfl rfl rfl fun a hF => ?_
        refine s_val hF (r_eql hF rfl rfl rfl) rfl rfl rfl fun a hF => ?_
        refine c_nil (n_then ?_)
        refine c_cond hF (c := .tmp 70) rfl (fun hb10190 => ?_) (fun hb10190 => ?_)
        · have hP := Fx.cT hb10190 hP
          refine c_exit (x_then (x_hit ?_))
          refine n_then ?_
          have hP := Option.some.inj hP
          subst hP
          exact ⟨(), rfl, hF.to ⟨rfl, rfl, rfl, trivial⟩, selM hM [] 1 rfl⟩
        have hP := Fx.cF hb10190 hP
        refine c_skip (n_then ?_)
        refine c_seq ?_
        refine c_region ?_
        refine s_val hF (r_move hF rfl rfl) rfl rfl rfl fun a hF => ?_
        refine s_val hF (r_move hF rfl rfl) rfl rfl rfl fun a hF => ?_
        refine s_val hF (r_sub hF rfl rfl rfl) rfl rfl rfl fun a hF => ?_
        obtain ⟨x10191, hx10191, hP⟩ := bind_some hP
        have h0x10191 := get_some hx10191
        obtain ⟨yx10191, hgx10191, hrx10191⟩ := Each.getr q4 h0x10191.2
        have hdx10191 := Each.bd q4 (get_bd hx10191)
        obtain ⟨s10192, s10194, rfl, f10193, f10195⟩ := hrx10191
        refine s_val hF (r_indexZ (sz := 4) (f3 _ (hsub _ (dropM hM 1))) Tryz.underlying58 in156 rfl hF rfl rfl rfl hdx10191) rfl rfl rfl fun a hF => ?_
        refine s_val hF (r_loadn Tryz.isAgg156 Tryz.sizeOf156 hF rfl rfl (RPiece.len _) (((f3 _ (hsub _ (dropM hM 1))).elemS hgx10191))) rfl rfl rfl fun a hF => ?_
        refine s_eff hF rfl rfl rfl (w_alloc z156 (zs := RPiece.zero.enc) rfl rfl fun b_B198_6 w hzB198_6 hAB198_6 => ?_)
        have hM := hM.plus hAB198_6
        replace hM : MemL _ (pt b_B198_6 (RPiece.enc (RPiece.mk 0 0 SV.nil SV.nil)) 156 :: pt b_B198_4 (RPiece.enc (RPiece.mk x10017.table x10017.from_ s10018 s10020)) 156 :: Lr) := hM
        intro a hF
        refine s_eff0 rfl rfl (w_storen (vs := _) Tryz.sizeOf156 (hM.obj (i := 0) rfl) hF rfl rfl rfl rfl (RPiece.len _) (RPiece.one _) (by first | (rw [RPiece.len, RPiece.len]; decide) | (rw [RPiece.len]; decide)) (put_all ((RPiece.len _).trans (RPiece.len _).symm)) fun w hU10196 => ?_)
        have hM := hM.chg hU10196 (i := 0) rfl
        replace hM : MemL _ (pt b_B198_6 (RPiece.enc (RPiece.mk x10191.table x10191.from_ s10192 s10194)) 156 :: pt b_B198_4 (RPiece.enc (RPiece.mk x10017.table x10017.from_ s10018 s10020)) 156 :: Lr) := hM
        refine c_nil (n_then ?_)
        refine c_seq ?_
        refine c_joinX hF hM hP (fun F x a w => match x with | v10201 => Fr 99 [(98, .bool v10201), (0, (s1).v), (2, .bool false), (3, .int .i64 v9638)] a ∧ MemL w (Lr)) (fun o_j7 hP hK_j7 hF hM => ?_) ?_
        · refine c_region ?_
          refine s_val hF (r_fieldAddr (off' := 0) Tryz.underlying156 rfl in3 rfl hF rfl rfl rfl) rfl rfl rfl fun a hF => ?_
          refine s_val hF (r_load1 Tryz.isAgg3 hF rfl rfl (hM.cell (i := 1) rfl (RPiece.g_table _))) rfl rfl rfl fun a hF => ?_
          refine s_val hF (r_fieldAddr (off' := 0) Tryz.underlying156 rfl in3 rfl hF rfl rfl rfl) rfl rfl rfl fun a hF => ?_
          refine s_val hF (r_load1 Tryz.isAgg3 hF rfl rfl (hM.cell (i := 0) rfl (RPiece.g_table _))) rfl rfl rfl fun a hF => ?_
          refine s_val hF (r_lss hF rfl rfl rfl) rfl rfl rfl fun a hF => ?_
          refine s_val hF (r_move hF rfl rfl) rfl rfl rfl fun a hF => ?_
          refine g_split 81 hF rfl (fun hb10202 => ?_) (fun hb10202 => ?_)
          · have hP := Fx.cT hb10202 hP
            refine g_skip hF rfl rfl rfl hb10202 rfl rfl fun a hF => ?_
            refine g_skip hF rfl rfl rfl hb10202 rfl rfl fun a hF => ?_
            refine g_skip hF rfl rfl rfl hb10202 rfl rfl fun a hF => ?_
            refine g_skip hF rfl rfl rfl hb10202 rfl rfl fun a hF => ?_
            refine g_skip hF rfl rfl rfl hb10202 rfl rfl fun a hF => ?_
            refine g_skip hF rfl rfl rfl hb10202 rfl rfl fun a hF => ?_
            refine g_skipU hF rfl rfl rfl rfl rfl fun a hF => ?_
            refine g_skipU hF rfl rfl rfl rfl rfl fun a hF => ?_
            refine g_skipU hF rfl rfl rfl rfl rfl fun a hF => ?_
            refine g_skipU hF rfl rfl rfl rfl rfl fun a hF => ?_
            refine g_skipU hF rfl rfl rfl rfl rfl fun a hF => ?_
            refine g_skipU hF rfl rfl rfl rfl rfl fun a hF => ?_
            refine g_skipU hF rfl rfl rfl rfl rfl fun a hF => ?_
            refine g_skipU hF rfl rfl rfl rfl rfl fun a hF => ?_
            refine g_skipU hF rfl rfl rfl rfl rfl fun a hF => ?_
            refine g_skip hF rfl rfl rfl hb10202 rfl rfl fun a hF => ?_
            refine s_val hF (r_pick1 hF rfl rfl hb10202 rfl) rfl rfl rfl fun a hF => ?_
            refine c_nil (n_then ?_)
            have hP := Option.some.inj hP
            subst hP
            exact ⟨true, rfl, hF.to ⟨rfl, rfl, rfl, rfl, trivial⟩, selM hM [] 2 rfl⟩
          have hP := Fx.cF hb10202 hP
          refine g_val hF rfl rfl rfl hb10202 (r_fieldAddr (off' := 0) Tryz.underlying156 rfl in3 rfl hF rfl rfl rfl) rfl rfl fun a hF => ?_
          refine g_val hF rfl rfl rfl hb10202 (r_load1 Tryz.isAgg3 hF rfl rfl (hM.cell (i := 1) rfl (RPiece.g_table _))) rfl rfl fun a hF => ?_
          refine g_val hF rfl rfl rfl hb10202 (r_fieldAddr (off' := 0) Tryz.underlying156 rfl in3 rfl hF rfl rfl rfl) rfl rfl fun a hF => ?_
          refine g_val hF rfl rfl rfl hb10202 (r_load1 Tryz.isAgg3 hF rfl rfl (hM.cell (i := 0) rfl (RPiece.g_table _))) rfl rfl fun a hF => ?_
          refine g_val hF rfl rfl rfl hb10202 (r_eql hF rfl rfl rfl) rfl rfl fun a hF => ?_
          refine g_val hF rfl rfl rfl hb10202 (r_move hF rfl rfl) rfl rfl fun a hF => ?_
          refine g_split 87 hF rfl (fun hb10203 => ?_) (fun hb10203 => ?_)
          · have hP := Fx.cT hb10203 hP
            refine g_val hF rfl rfl rfl hb10203 (r_fieldAddr (off' := 1) Tryz.underlying156 rfl in3 rfl hF rfl rfl rfl) rfl rfl fun a hF => ?_
            refine g_val hF rfl rfl rfl hb10203 (r_load1 Tryz.isAgg3 hF rfl rfl (hM.cell (i := 1) rfl (RPiece.g_from_ _))) rfl rfl fun a hF => ?_
            refine g_val hF rfl rfl rfl hb10203 (r_fieldAddr (off' := 1) Tryz.underlying156 rfl in3 rfl hF rfl rfl rfl) rfl rfl fun a hF => ?_
            refine g_val hF rfl rfl rfl hb10203 (r_load1 Tryz.isAgg3 hF rfl rfl (hM.cell (i := 0) rfl (RPiece.g_from_ _))) rfl rfl fun a hF => ?_
            refine g_val hF rfl rfl rfl hb10203 (r_fieldAddr (off' := 2) Tryz.underlying156 rfl in23 rfl hF rfl rfl rfl) rfl rfl fun a hF => ?_
            refine g_val hF rfl rfl rfl hb10203 (r_load1 Tryz.isAgg23 hF rfl rfl (hM.cell (i := 0) rfl (RPiece.g_old _))) rfl rfl fun a hF => ?_
            refine g_val hF rfl rfl rfl hb10203 (r_lenL (f10193 _ (hsub _ (dropM hM 2))) Tryz.underlying23 hF rfl rfl) rfl rfl fun a hF => ?_
            refine g_val hF rfl rfl rfl hb10203 (r_add hF rfl rfl rfl) rfl rfl fun a hF => ?_
            refine g_val hF rfl rfl rfl hb10203 (r_leq hF rfl rfl rfl) rfl rfl fun a hF => ?_
            refine g_val hF rfl rfl rfl hb10202 (r_pick1 hF rfl rfl hb10203 rfl) rfl rfl fun a hF => ?_
            refine s_val hF (r_pick0 hF rfl rfl hb10202 rfl) rfl rfl rfl fun a hF => ?_
            refine c_nil (n_then ?_)
            have hP := Option.some.inj hP
            subst hP
            exact ⟨(decide (x10017.from_ ≤ (IntKind.i64.wrap (x10191.from_ + (x10191.old.length : Int))))), rfl, hF.to ⟨rfl, rfl, rfl, rfl, trivial⟩, selM hM [] 2 rfl⟩
          have hP := Fx.cF hb10203 hP
          refine g_skip hF rfl rfl rfl hb10203 rfl rfl fun a hF => ?_
          refine g_skip hF rfl rfl rfl hb10203 rfl rfl fun a hF => ?_
          refine g_skip hF rfl rfl rfl hb10203 rfl rfl fun a hF => ?_
          refine g_skip hF rfl rfl rfl hb10203 rfl rfl fun a hF => ?_
          refine g_skip hF rfl rfl rfl hb10203 rfl rfl fun a hF => ?_
          refine g_skip hF rfl rfl rfl hb10203 rfl rfl fun a hF => ?_
          refine g_skip hF rfl rfl rfl hb10203 rfl rfl fun a hF => ?_
          refine g_skip hF rfl rfl rfl hb10203 rfl rfl fun a hF => ?_
          refine g_skip hF rfl rfl rfl hb10203 rfl rfl fun a hF => ?_
          refine g_val hF rfl rfl rfl hb10202 (r_pick0 hF rfl rfl hb10203 rfl) rfl rfl fun a hF => ?_
          refine s_val hF (r_pick0 hF rfl rfl hb10202 rfl) rfl rfl rfl fun a hF => ?_
          refine c_nil (n_then ?_)
          have hP := Option.some.inj hP
          subst hP
          exact ⟨false, rfl, hF.to ⟨rfl, rfl, rfl, rfl, trivial⟩, selM hM [] 2 rfl⟩
        rintro v10201 a w hP ⟨hF, hM⟩
        replace hP : Sh.ref23_pieces_j7 v10201 = _ := hP
        unfold Sh.ref23_pieces_j7 at hP
        refine n_then ?_
        refine c_cond hF (c := .tmp 98) rfl (fun hb10204 => ?_) (fun hb10204 => ?_)
        · have hP := Fx.cT hb10204 hP
          refine c_seq ?_
          refine c_region ?_
          refine s_val hF (r_assign hF rfl rfl) rfl rfl rfl fun a hF => ?_
          refine c_nil (n_then ?_)
          refine c_ret ?_
          have hP := Option.some.inj hP
          subst hP
          have hP := fin_inr hK_j3
          subst hP
          have hP := hK_l2 _ rfl
          subst hP
          have hP := fin_inr hK_j1
          subst hP
          refine e_ret1 Tryz.results198 hF rfl ?_
          exact ⟨rfl, hM⟩
        have hP := Fx.cF hb10204 hP
        refine c_skip (n_block (n_then ?_))
        have hP := Option.some.inj hP
        subst hP
        exact ⟨(), rfl, hF.to ⟨rfl, rfl, rfl, trivial⟩, hM⟩
      rintro ⟨⟩ a w hP ⟨hF, hM⟩
      replace hP : Sh.ref23_pieces_j3 v9638 = _ := hP
      unfold Sh.ref23_pieces_j3 at hP
      refine n_then ?_
      refine c_region ?_
      refine s_val hF (r_move hF rfl rfl) rfl rfl rfl fun a hF => ?_
      refine s_val hF (r_add hF rfl rfl rfl) rfl rfl rfl fun a hF => ?_
      refine s_val hF (r_assign hF rfl rfl) rfl rfl rfl fun a hF => ?_
      refine c_nil (n_then ?_)
      have hP := Option.some.inj hP
      subst hP
      exact ⟨(IntKind.i64.wrap (v9638 + 1)), rfl, hF.to ⟨rfl, rfl, rfl, trivial⟩, hM⟩
    have hP := Fx.cF hb9640 hP
    refine c_exit (x_then (x_then (x_hit ?_)))
    refine n_then ?_
    have hP := Option.some.inj hP
    subst hP
    have hP := hK_l2 _ rfl
    subst hP
    exact ⟨(), rfl, hF.to ⟨rfl, trivial⟩, hM⟩
  rintro ⟨⟩ a w hP ⟨hF, hM⟩
  replace hP : Sh.ref23_pieces_j1 = _ := hP
  unfold Sh.ref23_pieces_j1 at hP
  refine n_then ?_
  refine c_seq ?_
  refine c_region ?_
  refine s_val hF (r_assign hF rfl rfl) rfl rfl rfl fun a hF => ?_
  refine c_nil (n_then ?_)
  refine c_ret ?_
  have hP := Option.some.inj hP
  subst hP
  refine e_ret1 Tryz.results198 hF rfl ?_
  exact ⟨rfl, hM⟩
set_option maxHeartbeats 4000000 in
theorem ref23_Plain_calls {x0 : QMark} {s1 : SV} {s3 : SV} {s5 : SV} {hs6 : List RPiece} {s9 : SV} {out : Bool} {w0 : World} {Bf : World → Prop} {Lr : List Res} (hP : Sh.ref23_Plain x0 = some out) (hM : MemL w0 (Lr)) (hsub : ∀ w, MemL w Lr → Bf w) (f2 : LIn Bf s1 x0.regs) (f4 : LIn Bf s3 x0.slots) (f7 : LIn Bf s5 hs6) (q8 : Each (QPieceIn Bf) hs6 x0.pieces) (f10 : LIn Bf s9 x0.sent) : Calls Tryz.prog 135 #[.agg (RMark.enc (RMark.mk x0.at_ x0.next x0.done s1 s3 s5 s9)).toArray] w0 (Ret fun v w' => v = .bool out ∧ MemL w' (Lr)) := by
  unfold Sh.ref23_Plain at hP
  refine calls_enter (vs := [.agg (RMark.enc (RMark.mk x0.at_ x0.next x0.done s1 s3 s5 s9)).toArray]) Tryz.func135 rfl Tryz.ntmps135 rfl fun a hF => ?_
  refine c_seq ?_
  refine c_region ?_
  refine s_eff hF rfl rfl rfl (w_box hF rfl rfl rfl fun b_B135_1 w hzB135_1 hAB135_1 => ?_)
  have hM := hM.plus hAB135_1
  replace hM : MemL _ (pt b_B135_1 (RMark.enc (RMark.mk x0.at_ x0.next x0.done s1 s3 s5 s9)) 60 :: Lr) := hM
  intro a hF
  refine s_val hF (r_assign hF rfl rfl) rfl rfl rfl fun a hF => ?_
  refine c_nil (n_then ?_)
  refine c_seq ?_
  refine c_seq ?_
  refine c_joinX hF hM hP (fun F x a w => match x with | v925 => Fr 104 [(22, .bool v925), (1, .pointer (some ⟨b_B135_1, 0, none⟩)), (2, .bool false)] a ∧ MemL w (pt b_B135_1 (RMark.enc (RMark.mk x0.at_ x0.next x0.done s1 s3 s5 s9)) 60 :: Lr)) (fun o_j1 hP hK_j1 hF hM => ?_) ?_
  · refine c_region ?_
    refine s_val hF (r_fieldAddr (off' := 0) Tryz.underlying60 rfl in3 rfl hF rfl rfl rfl) rfl rfl rfl fun a hF => ?_
    refine s_val hF (r_load1 Tryz.isAgg3 hF rfl rfl (hM.cell (i := 0) rfl (RMark.g_at_ _))) rfl rfl rfl fun a hF => ?_
    obtain ⟨y927, hy927, hP⟩ := bind_some hP
    refine s_eff hF rfl rfl rfl (w_call (xs := [.tmp 8, .const (.int .i64 (0)), .const (.int .i64 (4095))]) Tryz.call159 hF rfl rfl (ref23_within_calls hy927 hM ) fun v w hR => ?_)
    obtain ⟨rfl, hM⟩ := hR
    replace hM : MemL _ (pt b_B135_1 (RMark.enc (RMark.mk x0.at_ x0.next x0.done s1 s3 s5 s9)) 60 :: Lr) := hM
    intro a hF
    refine s_val hF (r_not hF rfl rfl) rfl rfl rfl fun a hF => ?_
    refine s_val hF (r_move hF rfl rfl) rfl rfl rfl fun a hF => ?_
    refine g_split 11 hF rfl (fun hb928 => ?_) (fun hb928 => ?_)
    · have hP := Fx.cT hb928 hP
      refine g_skip hF rfl rfl rfl hb928 rfl rfl fun a hF => ?_
      refine g_skip hF rfl rfl rfl hb928 rfl rfl fun a hF => ?_
      refine g_skip hF rfl rfl rfl hb928 rfl rfl fun a hF => ?_
      refine g_skip hF rfl rfl rfl hb928 rfl rfl fun a hF => ?_
      refine s_val hF (r_pick1 hF rfl rfl hb928 rfl) rfl rfl rfl fun a hF => ?_
      refine s_val hF (r_move hF rfl rfl) rfl rfl rfl fun a hF => ?_
      refine g_skip hF rfl rfl rfl rfl rfl rfl fun a hF => ?_
      refine g_skip hF rfl rfl rfl rfl rfl rfl fun a hF => ?_
      refine g_skip hF rfl rfl rfl rfl rfl rfl fun a hF => ?_
      refine g_skip hF rfl rfl rfl rfl rfl rfl fun a hF => ?_
      refine s_val hF (r_pick1 hF rfl rfl rfl rfl) rfl rfl rfl fun a hF => ?_
      refine c_nil (n_then ?_)
      have hP := Option.some.inj hP
      subst hP
      exact ⟨true, rfl, hF.to ⟨rfl, rfl, rfl, trivial⟩, hM⟩
    have hP := Fx.cF hb928 hP
    refine g_val hF rfl rfl rfl hb928 (r_fieldAddr (off' := 1) Tryz.underlying60 rfl in3 rfl hF rfl rfl rfl) rfl rfl fun a hF => ?_
    refine g_val hF rfl rfl rfl hb928 (r_load1 Tryz.isAgg3 hF rfl rfl (hM.cell (i := 0) rfl (RMark.g_next _))) rfl rfl fun a hF => ?_
    obtain ⟨y930, hy930, hP⟩ := bind_some hP
    refine g_eff hF rfl rfl rfl hb928 rfl rfl (w_call (xs := [.tmp 13, .const (.int .i64 (0)), .const (.int .i64 (4095))]) Tryz.call159 hF rfl rfl (ref23_within_calls hy930 hM ) fun v w hR => ?_)
    obtain ⟨rfl, hM⟩ := hR
    replace hM : MemL _ (pt b_B135_1 (RMark.enc (RMark.mk x0.at_ x0.next x0.done s1 s3 s5 s9)) 60 :: Lr) := hM
    intro a hF
    refine g_val hF rfl rfl rfl hb928 (r_not hF rfl rfl) rfl rfl fun a hF => ?_
    refine s_val hF (r_pick0 hF rfl rfl hb928 rfl) rfl rfl rfl fun a hF => ?_
    refine s_val hF (r_move hF rfl rfl) rfl rfl rfl fun a hF => ?_
    refine g_split 17 hF rfl (fun hb931 => ?_) (fun hb931 => ?_)
    · have hP := Fx.cT hb931 hP
      refine g_skip hF rfl rfl rfl hb931 rfl rfl fun a hF => ?_
      refine g_skip hF rfl rfl rfl hb931 rfl rfl fun a hF => ?_
      refine g_skip hF rfl rfl rfl hb931 rfl rfl fun a hF => ?_
      refine g_skip hF rfl rfl rfl hb931 rfl rfl fun a hF => ?_
      refine s_val hF (r_pick1 hF rfl rfl hb931 rfl) rfl rfl rfl fun a hF => ?_
      refine c_nil (n_then ?_)
      have hP := Option.some.inj hP
      subst hP
      exact ⟨true, rfl, hF.to ⟨rfl, rfl, rfl, trivial⟩, hM⟩
    have hP := Fx.cF hb931 hP
    refine g_val hF rfl rfl rfl hb931 (r_fieldAddr (off' := 6) Tryz.underlying60 rfl in52 rfl hF rfl rfl rfl) rfl rfl fun a hF => ?_
    refine g_val hF rfl rfl rfl hb931 (r_load1 Tryz.isAgg52 hF rfl rfl (hM.cell (i := 0) rfl (RMark.g_sent _))) rfl rfl fun a hF => ?_
    refine g_val hF rfl rfl rfl hb931 (r_lenL (f10 _ (hsub _ (dropM hM 1))) Tryz.underlying52 hF rfl rfl) rfl rfl fun a hF => ?_
    refine g_val hF rfl rfl rfl hb931 (r_gtr hF rfl rfl rfl) rfl rfl fun a hF => ?_
    refine s_val hF (r_pick0 hF rfl rfl hb931 rfl) rfl rfl rfl fun a hF => ?_
    refine c_nil (n_then ?_)
    have hP := Option.some.inj hP
    subst hP
    exact ⟨(decide (1 < (x0.sent.length : Int))), rfl, hF.to ⟨rfl, rfl, rfl, trivial⟩, hM⟩
  rintro v925 a w hP ⟨hF, hM⟩
  replace hP : Sh.ref23_Plain_j1 x0 v925 = _ := hP
  unfold Sh.ref23_Plain_j1 at hP
  refine n_then ?_
  refine c_cond hF (c := .tmp 22) rfl (fun hb932 => ?_) (fun hb932 => ?_)
  · have hP := Fx.cT hb932 hP
    refine c_seq ?_
    refine c_region ?_
    refine s_val hF (r_assign hF rfl rfl) rfl rfl rfl fun a hF => ?_
    refine c_nil (n_then ?_)
    refine c_ret ?_
    have hP := Option.some.inj hP
    subst hP
    refine e_ret1 Tryz.results135 hF rfl ?_
    exact ⟨rfl, selM hM [] 1 rfl⟩
  have hP := Fx.cF hb932 hP
  refine c_skip (n_then ?_)
  refine c_seq ?_
  refine c_joinX hF hM hP (fun F x a w => match x with | _ => Fr 104 [(1, .pointer (some ⟨b_B135_1, 0, none⟩)), (2, .bool false)] a ∧ MemL w (pt b_B135_1 (RMark.enc (RMark.mk x0.at_ x0.next x0.done s1 s3 s5 s9)) 60 :: Lr)) (fun o_j2 hP hK_j2 hF hM => ?_) ?_
  · refine c_seq ?_
    refine c_region ?_
    refine s_val hF (r_assign hF rfl rfl) rfl rfl rfl fun a hF => ?_
    refine c_nil (n_then ?_)
    refine c_block ?_
    refine c_loopX hF hM hP (fun F x a w => match x with | v1306 => Fr 104 [(3, .int .i64 v1306), (1, .pointer (some ⟨b_B135_1, 0, none⟩)), (2, .bool false)] a ∧ MemL w (pt b_B135_1 (RMark.enc (RMark.mk x0.at_ x0.next x0.done s1 s3 s5 s9)) 60 :: Lr)) (fun hF hM => ⟨hF.to ⟨rfl, rfl, rfl, trivial⟩, hM⟩) ?_
    rintro v1306 a w o_l3 hP hK_l3 ⟨hF, hM⟩
    replace hP : Sh.ref23_Plain_l3 x0 v1306 = _ := hP
    unfold Sh.ref23_Plain_l3 at hP
    refine c_seq ?_
    refine c_seq ?_
    refine c_region ?_
    refine s_val hF (r_move hF rfl rfl) rfl rfl rfl fun a hF => ?_
    refine s_val hF (r_fieldAddr (off' := 3) Tryz.underlying60 rfl in56 rfl hF rfl rfl rfl) rfl rfl rfl fun a hF => ?_
    refine s_val hF (r_load1 Tryz.isAgg56 hF rfl rfl (hM.cell (i := 0) rfl (RMark.g_regs _))) rfl rfl rfl fun a hF => ?_
    refine s_val hF (r_lenL (f2 _ (hsub _ (dropM hM 1))) Tryz.underlying56 hF rfl rfl) rfl rfl rfl fun a hF => ?_
    refine s_val hF (r_lss hF rfl rfl rfl) rfl rfl rfl fun a hF => ?_
    refine c_nil (n_then ?_)
    refine c_cond hF (c := .tmp 27) rfl (fun hb1308 => ?_) (fun hb1308 => ?_)
    · have hP := Fx.cT hb1308 hP
      refine c_skip (n_then ?_)
      refine c_seq ?_
      refine c_block ?_
      refine c_seq ?_
      refine c_region ?_
      refine s_val hF (r_fieldAddr (off' := 3) Tryz.underlying60 rfl in56 rfl hF rfl rfl rfl) rfl rfl rfl fun a hF => ?_
      refine s_val hF (r_load1 Tryz.isAgg56 hF rfl rfl (hM.cell (i := 0) rfl (RMark.g_regs _))) rfl rfl rfl fun a hF => ?_
      refine s_val hF (r_move hF rfl rfl) rfl rfl rfl fun a hF => ?_
      obtain ⟨x1331, hx1331, hP⟩ := bind_some hP
      have h0x1331 := get_some hx1331
      refine s_val hF (r_indexZ (sz := 9) (f2 _ (hsub _ (dropM hM 1))) Tryz.underlying56 in128 rfl hF rfl rfl rfl (get_bd hx1331)) rfl rfl rfl fun a hF => ?_
      refine s_val hF (r_loadn Tryz.isAgg128 Tryz.sizeOf128 hF rfl rfl (LTurn.len _) (((f2 _ (hsub _ (dropM hM 1))).elemS h0x1331.2))) rfl rfl rfl fun a hF => ?_
      refine s_eff hF rfl rfl rfl (w_alloc z128 (zs := LTurn.zero.enc) rfl rfl fun b_B135_4 w hzB135_4 hAB135_4 => ?_)
      have hM := hM.plus hAB135_4
      replace hM : MemL _ (pt b_B135_4 (LTurn.enc LTurn.zero) 128 :: pt b_B135_1 (RMark.enc (RMark.mk x0.at_ x0.next x0.done s1 s3 s5 s9)) 60 :: Lr) := hM
      intro a hF
      refine s_eff0 rfl rfl (w_storen (vs := _) Tryz.sizeOf128 (hM.obj (i := 0) rfl) hF rfl rfl rfl rfl (LTurn.len _) (LTurn.one _) (by first | (rw [LTurn.len, LTurn.len]; decide) | (rw [LTurn.len]; decide)) (put_all ((LTurn.len _).trans (LTurn.len _).symm)) fun w hU1332 => ?_)
      have hM := hM.chg hU1332 (i := 0) rfl
      replace hM : MemL _ (pt b_B135_4 (LTurn.enc x1331) 128 :: pt b_B135_1 (RMark.enc (RMark.mk x0.at_ x0.next x0.done s1 s3 s5 s9)) 60 :: Lr) := hM
      refine c_nil (n_then ?_)
      refine c_seq ?_
      refine c_joinX hF hM hP (fun F x a w => match x with | v1345 => Fr 104 [(61, .bool v1345), (1, .pointer (some ⟨b_B135_1, 0, none⟩)), (2, .bool false), (3, .int .i64 v1306)] a ∧ MemL w (pt b_B135_1 (RMark.enc (RMark.mk x0.at_ x0.next x0.done s1 s3 s5 s9)) 60 :: Lr)) (fun o_j4 hP hK_j4 hF hM => ?_) ?_
      · refine d_startT mixed (by kernel_rfl) hM [0, 1] 2 rfl fun hch => ?_
        refine d_val hF hch 0 rfl (by kernel_rfl) rfl rfl rfl (fun w hM => (r_fieldAddr (off' := 0) Tryz.underlying128 rfl in3 rfl hF rfl rfl rfl)) fun a hF => ?_
        refine d_val hF hch 1 rfl (by kernel_rfl) rfl rfl rfl (fun w hM => (r_load1 Tryz.isAgg3 hF rfl rfl (hM.cell (i := 0) rfl (LTurn.g_reg _)))) fun a hF => ?_
        refine d_one hch 2 (by kernel_rfl) rfl rfl ?_
        refine d_ex hF 2 rfl rfl rfl rfl rfl fun w hMs hM => ?_
        obtain ⟨y1347, hy1347, hP⟩ := bind_some hP
        refine (w_call (xs := [.tmp 36, .const (.int .i64 (0)), .const (.int .i64 (10))]) Tryz.call159 hF rfl rfl (ref23_within_calls hy1347 hM ) fun v w hR => ?_)
        obtain ⟨rfl, hM⟩ := hR
        replace hM : MemL _ (pt b_B135_4 (LTurn.enc x1331) 128 :: pt b_B135_1 (RMark.enc (RMark.mk x0.at_ x0.next x0.done s1 s3 s5 s9)) 60 :: Lr) := hM
        have hMs := selM hM [0, 1] 2 rfl
        refine ⟨_, _, hMs, hM, .inl fun _ h => h, fun a hF => ?_⟩
        refine d_val hF hch 3 rfl (by kernel_rfl) rfl rfl rfl (fun w hM => (r_not hF rfl rfl)) fun a hF => ?_
        refine d_val hF hch 4 rfl (by kernel_rfl) rfl rfl rfl (fun w hM => (r_move hF rfl rfl)) fun a hF => ?_
        refine g_split 39 hF rfl (fun hb1348 => ?_) (fun hb1348 => ?_)
        · have hP := Fx.cT hb1348 hP
          refine d_skip hF hch 5 rfl (by kernel_rfl) rfl rfl rfl hb1348 rfl rfl fun a hF => ?_
          refine d_skip hF hch 6 rfl (by kernel_rfl) rfl rfl rfl hb1348 rfl rfl fun a hF => ?_
          refine d_skip hF hch 7 rfl (by kernel_rfl) rfl rfl rfl hb1348 rfl rfl fun a hF => ?_
          refine d_skip hF hch 8 rfl (by kernel_rfl) rfl rfl rfl hb1348 rfl rfl fun a hF => ?_
          refine d_skip hF hch 9 rfl (by kernel_rfl) rfl rfl rfl hb1348 rfl rfl fun a hF => ?_
          refine d_val hF hch 10 rfl (by kernel_rfl) rfl rfl rfl (fun w hM => (r_pick1 hF rfl rfl hb1348 rfl)) fun a hF => ?_
          refine d_val hF hch 11 rfl (by kernel_rfl) rfl rfl rfl (fun w hM => (r_move hF rfl rfl)) fun a hF => ?_
          refine d_skip hF hch 12 rfl (by kernel_rfl) rfl rfl rfl rfl rfl rfl fun a hF => ?_
          refine d_skip hF hch 13 rfl (by kernel_rfl) rfl rfl rfl rfl rfl rfl fun a hF => ?_
          refine d_skip hF hch 14 rfl (by kernel_rfl) rfl rfl rfl rfl rfl rfl fun a hF => ?_
          refine d_skipU hF hch 15 rfl (by kernel_rfl) rfl rfl rfl rfl rfl fun a hF => ?_
          refine d_skipU hF hch 16 rfl (by kernel_rfl) rfl rfl rfl rfl rfl fun a hF => ?_
          refine d_skipU hF hch 17 rfl (by kernel_rfl) rfl rfl rfl rfl rfl fun a hF => ?_
          refine d_skipU hF hch 18 rfl (by kernel_rfl) rfl rfl rfl rfl rfl fun a hF => ?_
          refine d_skipU hF hch 19 rfl (by kernel_rfl) rfl rfl rfl rfl rfl fun a hF => ?_
          refine d_skipU hF hch 20 rfl (by kernel_rfl) rfl rfl rfl rfl rfl fun a hF => ?_
          refine d_skipU hF hch 21 rfl (by kernel_rfl) rfl rfl rfl rfl rfl fun a hF => ?_
          refine d_skipU hF hch 22 rfl (by kernel_rfl) rfl rfl rfl rfl rfl fun a hF => ?_
          refine d_skipU hF hch 23 rfl (by kernel_rfl) rfl rfl rfl rfl rfl fun a hF => ?_
          refine d_skipU hF hch 24 rfl (by kernel_rfl) rfl rfl rfl rfl rfl fun a hF => ?_
          refine d_skip hF hch 25 rfl (by kernel_rfl) rfl rfl rfl rfl rfl rfl fun a hF => ?_
          refine d_val hF hch 26 rfl (by kernel_rfl) rfl rfl rfl (fun w hM => (r_pick1 hF rfl rfl rfl rfl)) fun a hF => ?_
          refine d_end hch (by kernel_rfl) fun w hM => ?_
          refine n_then ?_
          have hP := Option.some.inj hP
          subst hP
          exact ⟨true, rfl, hF.to ⟨rfl, rfl, rfl, rfl, trivial⟩, selM hM [1] 2 rfl⟩
        have hP := Fx.cF hb1348 hP
        refine d_valg hF hch 5 rfl (by kernel_rfl) rfl rfl rfl hb1348 rfl rfl (fun w hM => (r_fieldAddr (off' := 1) Tryz.underlying128 rfl in46 rfl hF rfl rfl rfl)) fun a hF => ?_
        refine d_valg hF hch 6 rfl (by kernel_rfl) rfl rfl rfl hb1348 rfl rfl (fun w hM => (r_loadn Tryz.isAgg46 Tryz.sizeOf46 hF rfl rfl (LVal.len _) (hM.cells (i := 0) rfl (LTurn.c_old _)))) fun a hF => ?_
        refine d_valg hF hch 7 rfl (by kernel_rfl) rfl rfl rfl hb1348 rfl rfl (fun w hM => (r_fieldAddr (off' := 5) Tryz.underlying128 rfl in46 rfl hF rfl rfl rfl)) fun a hF => ?_
        refine d_valg hF hch 8 rfl (by kernel_rfl) rfl rfl rfl hb1348 rfl rfl (fun w hM => (r_loadn Tryz.isAgg46 Tryz.sizeOf46 hF rfl rfl (LVal.len _) (hM.cells (i := 0) rfl (LTurn.c_new _)))) fun a hF => ?_
        refine d_valg hF hch 9 rfl (by kernel_rfl) rfl rfl rfl hb1348 rfl rfl (fun w hM => (r_eqlA Tryz.eqGuardType46 (eq_LVal _ _ _ _ (by decide)) hF rfl rfl rfl)) fun a hF => ?_
        refine d_val hF hch 10 rfl (by kernel_rfl) rfl rfl rfl (fun w hM => (r_pick0 hF rfl rfl hb1348 rfl)) fun a hF => ?_
        refine d_val hF hch 11 rfl (by kernel_rfl) rfl rfl rfl (fun w hM => (r_move hF rfl rfl)) fun a hF => ?_
        refine g_split 46 hF rfl (fun hb1349 => ?_) (fun hb1349 => ?_)
        · have hP := Fx.cT hb1349 hP
          refine d_skip hF hch 12 rfl (by kernel_rfl) rfl rfl rfl hb1349 rfl rfl fun a hF => ?_
          refine d_skip hF hch 13 rfl (by kernel_rfl) rfl rfl rfl hb1349 rfl rfl fun a hF => ?_
          refine d_skip hF hch 14 rfl (by kernel_rfl) rfl rfl rfl hb1349 rfl rfl fun a hF => ?_
          refine d_skipU hF hch 15 rfl (by kernel_rfl) rfl rfl rfl rfl rfl fun a hF => ?_
          refine d_skipU hF hch 16 rfl (by kernel_rfl) rfl rfl rfl rfl rfl fun a hF => ?_
          refine d_skipU hF hch 17 rfl (by kernel_rfl) rfl rfl rfl rfl rfl fun a hF => ?_
          refine d_skipU hF hch 18 rfl (by kernel_rfl) rfl rfl rfl rfl rfl fun a hF => ?_
          refine d_skipU hF hch 19 rfl (by kernel_rfl) rfl rfl rfl rfl rfl fun a hF => ?_
          refine d_skipU hF hch 20 rfl (by kernel_rfl) rfl rfl rfl rfl rfl fun a hF => ?_
          refine d_skipU hF hch 21 rfl (by kernel_rfl) rfl rfl rfl rfl rfl fun a hF => ?_
          refine d_skipU hF hch 22 rfl (by kernel_rfl) rfl rfl rfl rfl rfl fun a hF => ?_
          refine d_skipU hF hch 23 rfl (by kernel_rfl) rfl rfl rfl rfl rfl fun a hF => ?_
          refine d_skipU hF hch 24 rfl (by kernel_rfl) rfl rfl rfl rfl rfl fun a hF => ?_
          refine d_skip hF hch 25 rfl (by kernel_rfl) rfl rfl rfl hb1349 rfl rfl fun a hF => ?_
          refine d_val hF hch 26 rfl (by kernel_rfl) rfl rfl rfl (fun w hM => (r_pick1 hF rfl rfl hb1349 rfl)) fun a hF => ?_
          refine d_end hch (by kernel_rfl) fun w hM => ?_
          refine n_then ?_
          have hP := Option.some.inj hP
          subst hP
          exact ⟨true, rfl, hF.to ⟨rfl, rfl, rfl, rfl, trivial⟩, selM hM [1] 2 rfl⟩
        have hP := Fx.cF hb1349 hP
        refine d_valg hF hch 12 rfl (by kernel_rfl) rfl rfl rfl hb1349 rfl rfl (fun w hM => (r_move hF rfl rfl)) fun a hF => ?_
        refine d_valg hF hch 13 rfl (by kernel_rfl) rfl rfl rfl hb1349 rfl rfl (fun w hM => (r_gtr hF rfl rfl rfl)) fun a hF => ?_
        refine d_valg hF hch 14 rfl (by kernel_rfl) rfl rfl rfl hb1349 rfl rfl (fun w hM => (r_move hF rfl rfl)) fun a hF => ?_
        refine g_split 49 hF rfl (fun hb1350 => ?_) (fun hb1350 => ?_)
        · have hP := Fx.cT hb1350 hP
          refine d_valg hF hch 15 rfl (by kernel_rfl) rfl rfl rfl hb1350 rfl rfl (fun w hM => (r_fieldAddr (off' := 0) Tryz.underlying128 rfl in3 rfl hF rfl rfl rfl)) fun a hF => ?_
          refine d_valg hF hch 16 rfl (by kernel_rfl) rfl rfl rfl hb1350 rfl rfl (fun w hM => (r_load1 Tryz.isAgg3 hF rfl rfl (hM.cell (i := 0) rfl (LTurn.g_reg _)))) fun a hF => ?_
          refine d_valg hF hch 17 rfl (by kernel_rfl) rfl rfl rfl hb1350 rfl rfl (fun w hM => (r_fieldAddr (off' := 3) Tryz.underlying60 rfl in56 rfl hF rfl rfl rfl)) fun a hF => ?_
          refine d_valg hF hch 18 rfl (by kernel_rfl) rfl rfl rfl hb1350 rfl rfl (fun w hM => (r_load1 Tryz.isAgg56 hF rfl rfl (hM.cell (i := 1) rfl (RMark.g_regs _)))) fun a hF => ?_
          refine d_valg hF hch 19 rfl (by kernel_rfl) rfl rfl rfl hb1350 rfl rfl (fun w hM => (r_move hF rfl rfl)) fun a hF => ?_
          refine d_valg hF hch 20 rfl (by kernel_rfl) rfl rfl rfl hb1350 rfl rfl (fun w hM => (r_sub hF rfl rfl rfl)) fun a hF => ?_
          obtain ⟨x1351, hx1351, hP⟩ := bind_some hP
          have h0x1351 := get_some hx1351
          refine d_valg hF hch 21 rfl (by kernel_rfl) rfl rfl rfl hb1350 rfl rfl (fun w hM => (r_indexZ (sz := 9) (f2 _ (hsub _ (dropM hM 2))) Tryz.underlying56 in128 rfl hF rfl rfl rfl (get_bd hx1351))) fun a hF => ?_
          refine d_valg hF hch 22 rfl (by kernel_rfl) rfl rfl rfl hb1350 rfl rfl (fun w hM => (r_fieldAddr Tryz.underlying128 rfl in3 rfl hF rfl rfl rfl)) fun a hF => ?_
          refine d_valg hF hch 23 rfl (by kernel_rfl) rfl rfl rfl hb1350 rfl rfl (fun w hM => (r_load1 Tryz.isAgg3 hF rfl rfl ((((f2 _ (hsub _ (dropM hM 2))).elemS h0x1351.2)).get 0 (LTurn.g_reg _)))) fun a hF => ?_
          refine d_valg hF hch 24 rfl (by kernel_rfl) rfl rfl rfl hb1350 rfl rfl (fun w hM => (r_leq hF rfl rfl rfl)) fun a hF => ?_
          refine d_valg hF hch 25 rfl (by kernel_rfl) rfl rfl rfl hb1349 rfl rfl (fun w hM => (r_pick1 hF rfl rfl hb1350 rfl)) fun a hF => ?_
          refine d_val hF hch 26 rfl (by kernel_rfl) rfl rfl rfl (fun w hM => (r_pick0 hF rfl rfl hb1349 rfl)) fun a hF => ?_
          refine d_end hch (by kernel_rfl) fun w hM => ?_
          refine n_then ?_
          have hP := Option.some.inj hP
          subst hP
          exact ⟨(decide (x1331.reg ≤ x1351.reg)), rfl, hF.to ⟨rfl, rfl, rfl, rfl, trivial⟩, selM hM [1] 2 rfl⟩
        have hP := Fx.cF hb1350 hP
        refine d_skip hF hch 15 rfl (by kernel_rfl) rfl rfl rfl hb1350 rfl rfl fun a hF => ?_
        refine d_skip hF hch 16 rfl (by kernel_rfl) rfl rfl rfl hb1350 rfl rfl fun a hF => ?_
        refine d_skip hF hch 17 rfl (by kernel_rfl) rfl rfl rfl hb1350 rfl rfl fun a hF => ?_
        refine d_skip hF hch 18 rfl (by kernel_rfl) rfl rfl rfl hb1350 rfl rfl fun a hF => ?_
        refine d_skip hF hch 19 rfl (by kernel_rfl) rfl rfl rfl hb1350 rfl rfl fun a hF => ?_
        refine d_skip hF hch 20 rfl (by kernel_rfl) rfl rfl rfl hb1350 rfl rfl fun a hF => ?_
        refine d_skip hF hch 21 rfl (by kernel_rfl) rfl rfl rfl hb1350 rfl rfl fun a hF => ?_
        refine d_skip hF hch 22 rfl (by kernel_rfl) rfl rfl rfl hb1350 rfl rfl fun a hF => ?_
        refine d_skip hF hch 23 rfl (by kernel_rfl) rfl rfl rfl hb1350 rfl rfl fun a hF => ?_
        refine d_skip hF hch 24 rfl (by kernel_rfl) rfl rfl rfl hb1350 rfl rfl fun a hF => ?_
        refine d_valg hF hch 25 rfl (by kernel_rfl) rfl rfl rfl hb1349 rfl rfl (fun w hM => (r_pick0 hF rfl rfl hb1350 rfl)) fun a hF => ?_
        refine d_val hF hch 26 rfl (by kernel_rfl) rfl rfl rfl (fun w hM => (r_pick0 hF rfl rfl hb1349 rfl)) fun a hF => ?_
        refine d_end hch (by kernel_rfl) fun w hM => ?_
        refine n_then ?_
        have hP := Option.some.inj hP
        subst hP
        exact ⟨false, rfl, hF.to ⟨rfl, rfl, rfl, rfl, trivial⟩, selM hM [1] 2 rfl⟩
      rintro v1345 a w hP ⟨hF, hM⟩
      replace hP : Sh.ref23_Plain_j4 v1306 v1345 = _ := hP
      unfold Sh.ref23_Plain_j4 at hP
      refine n_then ?_
      refine c_cond hF (c := .tmp 61) rfl (fun hb1352 => ?_) (fun hb1352 => ?_)
      · have hP := Fx.cT hb1352 hP
        refine c_seq ?_
        refine c_region ?_
        refine s_val hF (r_assign hF rfl rfl) rfl rfl rfl fun a hF => ?_
        refine c_nil (n_then ?_)
        refine c_ret ?_
        have hP := Option.some.inj hP
        subst hP
        have hP := hK_l3 _ rfl
        subst hP
        have hP := fin_inr hK_j2
        subst hP
        refine e_ret1 Tryz.results135 hF rfl ?_
        exact ⟨rfl, selM hM [] 1 rfl⟩
      have hP := Fx.cF hb1352 hP
      refine c_skip (n_block (n_then ?_))
      refine c_region ?_
      refine s_val hF (r_move hF rfl rfl) rfl rfl rfl fun a hF => ?_
      refine s_val hF (r_add hF rfl rfl rfl) rfl rfl rfl fun a hF => ?_
      refine s_val hF (r_assign hF rfl rfl) rfl rfl rfl fun a hF => ?_
      refine c_nil (n_then ?_)
      have hP := Option.some.inj hP
      subst hP
      exact ⟨(IntKind.i64.wrap (v1306 + 1)), rfl, hF.to ⟨rfl, rfl, rfl, trivial⟩, hM⟩
    have hP := Fx.cF hb1308 hP
    refine c_exit (x_then (x_then (x_hit ?_)))
    refine n_then ?_
    have hP := Option.some.inj hP
    subst hP
    have hP := hK_l3 _ rfl
    subst hP
    exact ⟨(), rfl, hF.to ⟨rfl, rfl, trivial⟩, hM⟩
  rintro ⟨⟩ a w hP ⟨hF, hM⟩
  replace hP : Sh.ref23_Plain_j2 x0 = _ := hP
  unfold Sh.ref23_Plain_j2 at hP
  refine n_then ?_
  refine c_seq ?_
  refine c_joinX hF hM hP (fun F x a w => match x with | _ => Fr 104 [(1, .pointer (some ⟨b_B135_1, 0, none⟩)), (2, .bool false)] a ∧ MemL w (pt b_B135_1 (RMark.enc (RMark.mk x0.at_ x0.next x0.done s1 s3 s5 s9)) 60 :: Lr)) (fun o_j5 hP hK_j5 hF hM => ?_) ?_
  · refine c_seq ?_
    refine c_region ?_
    refine s_val hF (r_assign hF rfl rfl) rfl rfl rfl fun a hF => ?_
    refine c_nil (n_then ?_)
    refine c_block ?_
    refine c_loopX hF hM hP (fun F x a w => match x with | v1726 => Fr 104 [(5, .int .i64 v1726), (1, .pointer (some ⟨b_B135_1, 0, none⟩)), (2, .bool false)] a ∧ MemL w (pt b_B135_1 (RMark.enc (RMark.mk x0.at_ x0.next x0.done s1 s3 s5 s9)) 60 :: Lr)) (fun hF hM => ⟨hF.to ⟨rfl, rfl, rfl, trivial⟩, hM⟩) ?_
    rintro v1726 a w o_l6 hP hK_l6 ⟨hF, hM⟩
    replace hP : Sh.ref23_Plain_l6 x0 v1726 = _ := hP
    unfold Sh.ref23_Plain_l6 at hP
    refine c_seq ?_
    refine c_seq ?_
    refine c_region ?_
    refine s_val hF (r_move hF rfl rfl) rfl rfl rfl fun a hF => ?_
    refine s_val hF (r_fieldAddr (off' := 4) Tryz.underlying60 rfl in57 rfl hF rfl rfl rfl) rfl rfl rfl fun a hF => ?_
    refine s_val hF (r_load1 Tryz.isAgg57 hF rfl rfl (hM.cell (i := 0) rfl (RMark.g_slots _))) rfl rfl rfl fun a hF => ?_
    refine s_val hF (r_lenL (f4 _ (hsub _ (dropM hM 1))) Tryz.underlying57 hF rfl rfl) rfl rfl rfl fun a hF => ?_
    refine s_val hF (r_lss hF rfl rfl rfl) rfl rfl rfl fun a hF => ?_
    refine c_nil (n_then ?_)
    refine c_cond hF (c := .tmp 66) rfl (fun hb1728 => ?_) (fun hb1728 => ?_)
    · have hP := Fx.cT hb1728 hP
      refine c_skip (n_then ?_)
      refine c_seq ?_
      refine c_block ?_
      refine c_seq ?_
      refine c_region ?_
      refine s_val hF (r_fieldAddr (off' := 4) Tryz.underlying60 rfl in57 rfl hF rfl rfl rfl) rfl rfl rfl fun a hF => ?_
      refine s_val hF (r_load1 Tryz.isAgg57 hF rfl rfl (hM.cell (i := 0) rfl (RMark.g_slots _))) rfl rfl rfl fun a hF => ?_
      refine s_val hF (r_move hF rfl rfl) rfl rfl rfl fun a hF => ?_
      obtain ⟨x1751, hx1751, hP⟩ := bind_some hP
      have h0x1751 := get_some hx1751
      refine s_val hF (r_indexZ (sz := 27) (f4 _ (hsub _ (dropM hM 1))) Tryz.underlying57 in151 rfl hF rfl rfl rfl (get_bd hx1751)) rfl rfl rfl fun a hF => ?_
      refine s_val hF (r_loadn Tryz.isAgg151 Tryz.sizeOf151 hF rfl rfl (LCell.len _) (((f4 _ (hsub _ (dropM hM 1))).elemS h0x1751.2))) rfl rfl rfl fun a hF => ?_
      refine s_eff hF rfl rfl rfl (w_alloc z151 (zs := LCell.zero.enc) rfl rfl fun b_B135_6 w hzB135_6 hAB135_6 => ?_)
      have hM := hM.plus hAB135_6
      replace hM : MemL _ (pt b_B135_6 (LCell.enc LCell.zero) 151 :: pt b_B135_1 (RMark.enc (RMark.mk x0.at_ x0.next x0.done s1 s3 s5 s9)) 60 :: Lr) := hM
      intro a hF
      refine s_eff0 rfl rfl (w_storen (vs := _) Tryz.sizeOf151 (hM.obj (i := 0) rfl) hF rfl rfl rfl rfl (LCell.len _) (LCell.one _) (by first | (rw [LCell.len, LCell.len]; decide) | (rw [LCell.len]; decide)) (put_all ((LCell.len _).trans (LCell.len _).symm)) fun w hU1752 => ?_)
      have hM := hM.chg hU1752 (i := 0) rfl
      replace hM : MemL _ (pt b_B135_6 (LCell.enc x1751) 151 :: pt b_B135_1 (RMark.enc (RMark.mk x0.at_ x0.next x0.done s1 s3 s5 s9)) 60 :: Lr) := hM
      refine c_nil (n_then ?_)
      refine c_seq ?_
      refine c_joinX hF hM hP (fun F x a w => match x with | v1765 => Fr 104 [(100, .bool v1765), (1, .pointer (some ⟨b_B135_1, 0, none⟩)), (2, .bool false), (5, .int .i64 v1726)] a ∧ MemL w (pt b_B135_1 (RMark.enc (RMark.mk x0.at_ x0.next x0.done s1 s3 s5 s9)) 60 :: Lr)) (fun o_j7 hP hK_j7 hF hM => ?_) ?_
      · refine d_startT mixed (by kernel_rfl) hM [0, 1] 2 rfl fun hch => ?_
        refine d_val hF hch 0 rfl (by kernel_rfl) rfl rfl rfl (fun w hM => (r_fieldAddr (off' := 0) Tryz.underlying151 rfl in3 rfl hF rfl rfl rfl)) fun a hF => ?_
        refine d_val hF hch 1 rfl (by kernel_rfl) rfl rfl rfl (fun w hM => (r_load1 Tryz.isAgg3 hF rfl rfl (hM.cell (i := 0) rfl (LCell.g_slot _)))) fun a hF => ?_
        refine d_one hch 2 (by kernel_rfl) rfl rfl ?_
        refine d_ex hF 2 rfl rfl rfl rfl rfl fun w hMs hM => ?_
        obtain ⟨y1767, hy1767, hP⟩ := bind_some hP
        refine (w_call (xs := [.tmp 75, .const (.int .i64 (0)), .const (.int .i64 (31))]) Tryz.call159 hF rfl rfl (ref23_within_calls hy1767 hM ) fun v w hR => ?_)
        obtain ⟨rfl, hM⟩ := hR
        replace hM : MemL _ (pt b_B135_6 (LCell.enc x1751) 151 :: pt b_B135_1 (RMark.enc (RMark.mk x0.at_ x0.next x0.done s1 s3 s5 s9)) 60 :: Lr) := hM
        have hMs := selM hM [0, 1] 2 rfl
        refine ⟨_, _, hMs, hM, .inl fun _ h => h, fun a hF => ?_⟩
        refine d_val hF hch 3 rfl (by kernel_rfl) rfl rfl rfl (fun w hM => (r_not hF rfl rfl)) fun a hF => ?_
        refine d_val hF hch 4 rfl (by kernel_rfl) rfl rfl rfl (fun w hM => (r_move hF rfl rfl)) fun a hF => ?_
        refine g_split 78 hF rfl (fun hb1768 => ?_) (fun hb1768 => ?_)
        · have hP := Fx.cT hb1768 hP
          refine d_skip hF hch 5 rfl (by kernel_rfl) rfl rfl rfl hb1768 rfl rfl fun a hF => ?_
          refine d_skip hF hch 6 rfl (by kernel_rfl) rfl rfl rfl hb1768 rfl rfl fun a hF => ?_
          refine d_skip hF hch 7 rfl (by kernel_rfl) rfl rfl rfl hb1768 rfl rfl fun a hF => ?_
          refine d_skip hF hch 8 rfl (by kernel_rfl) rfl rfl rfl hb1768 rfl rfl fun a hF => ?_
          refine d_skip hF hch 9 rfl (by kernel_rfl) rfl rfl rfl hb1768 rfl rfl fun a hF => ?_
          refine d_val hF hch 10 rfl (by kernel_rfl) rfl rfl rfl (fun w hM => (r_pick1 hF rfl rfl hb1768 rfl)) fun a hF => ?_
          refine d_val hF hch 11 rfl (by kernel_rfl) rfl rfl rfl (fun w hM => (r_move hF rfl rfl)) fun a hF => ?_
          refine d_skip hF hch 12 rfl (by kernel_rfl) rfl rfl rfl rfl rfl rfl fun a hF => ?_
          refine d_skip hF hch 13 rfl (by kernel_rfl) rfl rfl rfl rfl rfl rfl fun a hF => ?_
          refine d_skip hF hch 14 rfl (by kernel_rfl) rfl rfl rfl rfl rfl rfl fun a hF => ?_
          refine d_skipU hF hch 15 rfl (by kernel_rfl) rfl rfl rfl rfl rfl fun a hF => ?_
          refine d_skipU hF hch 16 rfl (by kernel_rfl) rfl rfl rfl rfl rfl fun a hF => ?_
          refine d_skipU hF hch 17 rfl (by kernel_rfl) rfl rfl rfl rfl rfl fun a hF => ?_
          refine d_skipU hF hch 18 rfl (by kernel_rfl) rfl rfl rfl rfl rfl fun a hF => ?_
          refine d_skipU hF hch 19 rfl (by kernel_rfl) rfl rfl rfl rfl rfl fun a hF => ?_
          refine d_skipU hF hch 20 rfl (by kernel_rfl) rfl rfl rfl rfl rfl fun a hF => ?_
          refine d_skipU hF hch 21 rfl (by kernel_rfl) rfl rfl rfl rfl rfl fun a hF => ?_
          refine d_skipU hF hch 22 rfl (by kernel_rfl) rfl rfl rfl rfl rfl fun a hF => ?_
          refine d_skipU hF hch 23 rfl (by kernel_rfl) rfl rfl rfl rfl rfl fun a hF => ?_
          refine d_skipU hF hch 24 rfl (by kernel_rfl) rfl rfl rfl rfl rfl fun a hF => ?_
          refine d_skip hF hch 25 rfl (by kernel_rfl) rfl rfl rfl rfl rfl rfl fun a hF => ?_
          refine d_val hF hch 26 rfl (by kernel_rfl) rfl rfl rfl (fun w hM => (r_pick1 hF rfl rfl rfl rfl)) fun a hF => ?_
          refine d_end hch (by kernel_rfl) fun w hM => ?_
          refine n_then ?_
          have hP := Option.some.inj hP
          subst hP
          exact ⟨true, rfl, hF.to ⟨rfl, rfl, rfl, rfl, trivial⟩, selM hM [1] 2 rfl⟩
        have hP := Fx.cF hb1768 hP
        refine d_valg hF hch 5 rfl (by kernel_rfl) rfl rfl rfl hb1768 rfl rfl (fun w hM => (r_fieldAddr (off' := 1) Tryz.underlying151 rfl in50 rfl hF rfl rfl rfl)) fun a hF => ?_
        refine d_valg hF hch 6 rfl (by kernel_rfl) rfl rfl rfl hb1768 rfl rfl (fun w hM => (r_loadn Tryz.isAgg50 Tryz.sizeOf50 hF rfl rfl (LSlot.len _) (hM.cells (i := 0) rfl (LCell.c_old _)))) fun a hF => ?_
        refine d_valg hF hch 7 rfl (by kernel_rfl) rfl rfl rfl hb1768 rfl rfl (fun w hM => (r_fieldAddr (off' := 14) Tryz.underlying151 rfl in50 rfl hF rfl rfl rfl)) fun a hF => ?_
        refine d_valg hF hch 8 rfl (by kernel_rfl) rfl rfl rfl hb1768 rfl rfl (fun w hM => (r_loadn Tryz.isAgg50 Tryz.sizeOf50 hF rfl rfl (LSlot.len _) (hM.cells (i := 0) rfl (LCell.c_new _)))) fun a hF => ?_
        refine d_valg hF hch 9 rfl (by kernel_rfl) rfl rfl rfl hb1768 rfl rfl (fun w hM => (r_eqlA Tryz.eqGuardType50 (eq_LSlot _ _ _ _ (by decide)) hF rfl rfl rfl)) fun a hF => ?_
        refine d_val hF hch 10 rfl (by kernel_rfl) rfl rfl rfl (fun w hM => (r_pick0 hF rfl rfl hb1768 rfl)) fun a hF => ?_
        refine d_val hF hch 11 rfl (by kernel_rfl) rfl rfl rfl (fun w hM => (r_move hF rfl rfl)) fun a hF => ?_
        refine g_split 85 hF rfl (fun hb1769 => ?_) (fun hb1769 => ?_)
        · have hP := Fx.cT hb1769 hP
          refine d_skip hF hch 12 rfl (by kernel_rfl) rfl rfl rfl hb1769 rfl rfl fun a hF => ?_
          refine d_skip hF hch 13 rfl (by kernel_rfl) rfl rfl rfl hb1769 rfl rfl fun a hF => ?_
          refine d_skip hF hch 14 rfl (by kernel_rfl) rfl rfl rfl hb1769 rfl rfl fun a hF => ?_
          refine d_skipU hF hch 15 rfl (by kernel_rfl) rfl rfl rfl rfl rfl fun a hF => ?_
          refine d_skipU hF hch 16 rfl (by kernel_rfl) rfl rfl rfl rfl rfl fun a hF => ?_
          refine d_skipU hF hch 17 rfl (by kernel_rfl) rfl rfl rfl rfl rfl fun a hF => ?_
          refine d_skipU hF hch 18 rfl (by kernel_rfl) rfl rfl rfl rfl rfl fun a hF => ?_
          refine d_skipU hF hch 19 rfl (by kernel_rfl) rfl rfl rfl rfl rfl fun a hF => ?_
          refine d_skipU hF hch 20 rfl (by kernel_rfl) rfl rfl rfl rfl rfl fun a hF => ?_
          refine d_skipU hF hch 21 rfl (by kernel_rfl) rfl rfl rfl rfl rfl fun a hF => ?_
          refine d_skipU hF hch 22 rfl (by kernel_rfl) rfl rfl rfl rfl rfl fun a hF => ?_
          refine d_skipU hF hch 23 rfl (by kernel_rfl) rfl rfl rfl rfl rfl fun a hF => ?_
          refine d_skipU hF hch 24 rfl (by kernel_rfl) rfl rfl rfl rfl rfl fun a hF => ?_
          refine d_skip hF hch 25 rfl (by kernel_rfl) rfl rfl rfl hb1769 rfl rfl fun a hF => ?_
          refine d_val hF hch 26 rfl (by kernel_rfl) rfl rfl rfl (fun w hM => (r_pick1 hF rfl rfl hb1769 rfl)) fun a hF => ?_
          refine d_end hch (by kernel_rfl) fun w hM => ?_
          refine n_then ?_
          have hP := Option.some.inj hP
          subst hP
          exact ⟨true, rfl, hF.to ⟨rfl, rfl, rfl, rfl, trivial⟩, selM hM [1] 2 rfl⟩
        have hP := Fx.cF hb1769 hP
        refine d_valg hF hch 12 rfl (by kernel_rfl) rfl rfl rfl hb1769 rfl rfl (fun w hM => (r_move hF rfl rfl)) fun a hF => ?_
        refine d_valg hF hch 13 rfl (by kernel_rfl) rfl rfl rfl hb1769 rfl rfl (fun w hM => (r_gtr hF rfl rfl rfl)) fun a hF => ?_
        refine d_valg hF hch 14 rfl (by kernel_rfl) rfl rfl rfl hb1769 rfl rfl (fun w hM => (r_move hF rfl rfl)) fun a hF => ?_
        refine g_split 88 hF rfl (fun hb1770 => ?_) (fun hb1770 => ?_)
        · have hP := Fx.cT hb1770 hP
          refine d_valg hF hch 15 rfl (by kernel_rfl) rfl rfl rfl hb1770 rfl rfl (fun w hM => (r_fieldAddr (off' := 0) Tryz.underlying151 rfl in3 rfl hF rfl rfl rfl)) fun a hF => ?_
          refine d_valg hF hch 16 rfl (by kernel_rfl) rfl rfl rfl hb1770 rfl rfl (fun w hM => (r_load1 Tryz.isAgg3 hF rfl rfl (hM.cell (i := 0) rfl (LCell.g_slot _)))) fun a hF => ?_
          refine d_valg hF hch 17 rfl (by kernel_rfl) rfl rfl rfl hb1770 rfl rfl (fun w hM => (r_fieldAddr (off' := 4) Tryz.underlying60 rfl in57 rfl hF rfl rfl rfl)) fun a hF => ?_
          refine d_valg hF hch 18 rfl (by kernel_rfl) rfl rfl rfl hb1770 rfl rfl (fun w hM => (r_load1 Tryz.isAgg57 hF rfl rfl (hM.cell (i := 1) rfl (RMark.g_slots _)))) fun a hF => ?_
          refine d_valg hF hch 19 rfl (by kernel_rfl) rfl rfl rfl hb1770 rfl rfl (fun w hM => (r_move hF rfl rfl)) fun a hF => ?_
          refine d_valg hF hch 20 rfl (by kernel_rfl) rfl rfl rfl hb1770 rfl rfl (fun w hM => (r_sub hF rfl rfl rfl)) fun a hF => ?_
          obtain ⟨x1771, hx1771, hP⟩ := bind_some hP
          have h0x1771 := get_some hx1771
          refine d_valg hF hch 21 rfl (by kernel_rfl) rfl rfl rfl hb1770 rfl rfl (fun w hM => (r_indexZ (sz := 27) (f4 _ (hsub _ (dropM hM 2))) Tryz.underlying57 in151 rfl hF rfl rfl rfl (get_bd hx1771))) fun a hF => ?_
          refine d_valg hF hch 22 rfl (by kernel_rfl) rfl rfl rfl hb1770 rfl rfl (fun w hM => (r_fieldAddr Tryz.underlying151 rfl in3 rfl hF rfl rfl rfl)) fun a hF => ?_
          refine d_valg hF hch 23 rfl (by kernel_rfl) rfl rfl rfl hb1770 rfl rfl (fun w hM => (r_load1 Tryz.isAgg3 hF rfl rfl ((((f4 _ (hsub _ (dropM hM 2))).elemS h0x1771.2)).get 0 (LCell.g_slot _)))) fun a hF => ?_
          refine d_valg hF hch 24 rfl (by kernel_rfl) rfl rfl rfl hb1770 rfl rfl (fun w hM => (r_leq hF rfl rfl rfl)) fun a hF => ?_
          refine d_valg hF hch 25 rfl (by kernel_rfl) rfl rfl rfl hb1769 rfl rfl (fun w hM => (r_pick1 hF rfl rfl hb1770 rfl)) fun a hF => ?_
          refine d_val hF hch 26 rfl (by kernel_rfl) rfl rfl rfl (fun w hM => (r_pick0 hF rfl rfl hb1769 rfl)) fun a hF => ?_
          refine d_end hch (by kernel_rfl) fun w hM => ?_
          refine n_then ?_
          have hP := Option.some.inj hP
          subst hP
          exact ⟨(decide (x1751.slot ≤ x1771.slot)), rfl, hF.to ⟨rfl, rfl, rfl, rfl, trivial⟩, selM hM [1] 2 rfl⟩
        have hP := Fx.cF hb1770 hP
        refine d_skip hF hch 15 rfl (by kernel_rfl) rfl rfl rfl hb1770 rfl rfl fun a hF => ?_
        refine d_skip hF hch 16 rfl (by kernel_rfl) rfl rfl rfl hb1770 rfl rfl fun a hF => ?_
        refine d_skip hF hch 17 rfl (by kernel_rfl) rfl rfl rfl hb1770 rfl rfl fun a hF => ?_
        refine d_skip hF hch 18 rfl (by kernel_rfl) rfl rfl rfl hb1770 rfl rfl fun a hF => ?_
        refine d_skip hF hch 19 rfl (by kernel_rfl) rfl rfl rfl hb1770 rfl rfl fun a hF => ?_
        refine d_skip hF hch 20 rfl (by kernel_rfl) rfl rfl rfl hb1770 rfl rfl fun a hF => ?_
        refine d_skip hF hch 21 rfl (by kernel_rfl) rfl rfl rfl hb1770 rfl rfl fun a hF => ?_
        refine d_skip hF hch 22 rfl (by kernel_rfl) rfl rfl rfl hb1770 rfl rfl fun a hF => ?_
        refine d_skip hF hch 23 rfl (by kernel_rfl) rfl rfl rfl hb1770 rfl rfl fun a hF => ?_
        refine d_skip hF hch 24 rfl (by kernel_rfl) rfl rfl rfl hb1770 rfl rfl fun a hF => ?_
        refine d_valg hF hch 25 rfl (by kernel_rfl) rfl rfl rfl hb1769 rfl rfl (fun w hM => (r_pick0 hF rfl rfl hb1770 rfl)) fun a hF => ?_
        refine d_val hF hch 26 rfl (by kernel_rfl) rfl rfl rfl (fun w hM => (r_pick0 hF rfl rfl hb1769 rfl)) fun a hF => ?_
        refine d_end hch (by kernel_rfl) fun w hM => ?_
        refine n_then ?_
        have hP := Option.some.inj hP
        subst hP
        exact ⟨false, rfl, hF.to ⟨rfl, rfl, rfl, rfl, trivial⟩, selM hM [1] 2 rfl⟩
      rintro v1765 a w hP ⟨hF, hM⟩
      replace hP : Sh.ref23_Plain_j7 v1726 v1765 = _ := hP
      unfold Sh.ref23_Plain_j7 at hP
      refine n_then ?_
      refine c_cond hF (c := .tmp 100) rfl (fun hb1772 => ?_) (fun hb1772 => ?_)
      · have hP := Fx.cT hb1772 hP
        refine c_seq ?_
        refine c_region ?_
        refine s_val hF (r_assign hF rfl rfl) rfl rfl rfl fun a hF => ?_
        refine c_nil (n_then ?_)
        refine c_ret ?_
        have hP := Option.some.inj hP
        subst hP
        have hP := hK_l6 _ rfl
        subst hP
        have hP := fin_inr hK_j5
        subst hP
        refine e_ret1 Tryz.results135 hF rfl ?_
        exact ⟨rfl, selM hM [] 1 rfl⟩
      have hP := Fx.cF hb1772 hP
      refine c_skip (n_block (n_then ?_))
      refine c_region ?_
      refine s_val hF (r_move hF rfl rfl) rfl rfl rfl fun a hF => ?_
      refine s_val hF (r_add hF rfl rfl rfl) rfl rfl rfl fun a hF => ?_
      refine s_val hF (r_assign hF rfl rfl) rfl rfl rfl fun a hF => ?_
      refine c_nil (n_then ?_)
      have hP := Option.some.inj hP
      subst hP
      exact ⟨(IntKind.i64.wrap (v1726 + 1)), rfl, hF.to ⟨rfl, rfl, rfl, trivial⟩, hM⟩
    have hP := Fx.cF hb1728 hP
    refine c_exit (x_then (x_then (x_hit ?_)))
    refine n_then ?_
    have hP := Option.some.inj hP
    subst hP
    have hP := hK_l6 _ rfl
    subst hP
    exact ⟨(), rfl, hF.to ⟨rfl, rfl, trivial⟩, hM⟩
  rintro ⟨⟩ a w hP ⟨hF, hM⟩
  replace hP : Sh.ref23_Plain_j5 x0 = _ := hP
  unfold Sh.ref23_Plain_j5 at hP
  refine n_then ?_
  refine c_seq ?_
  refine c_region ?_
  refine s_val hF (r_fieldAddr (off' := 5) Tryz.underlying60 rfl in58 rfl hF rfl rfl rfl) rfl rfl rfl fun a hF => ?_
  refine s_val hF (r_load1 Tryz.isAgg58 hF rfl rfl (hM.cell (i := 0) rfl (RMark.g_pieces _))) rfl rfl rfl fun a hF => ?_
  obtain ⟨y1774, hy1774, hP⟩ := bind_some hP
  refine s_eff hF rfl rfl rfl (w_call (xs := [.tmp 102]) Tryz.call198 hF rfl rfl (ref23_pieces_calls hy1774 hM (Bf := Bf) (fun w hM => hsub _ (dropM hM 1)) f7 q8) fun v w hR => ?_)
  obtain ⟨rfl, hM⟩ := hR
  replace hM : MemL _ (pt b_B135_1 (RMark.enc (RMark.mk x0.at_ x0.next x0.done s1 s3 s5 s9)) 60 :: Lr) := hM
  intro a hF
  refine s_val hF (r_assign hF rfl rfl) rfl rfl rfl fun a hF => ?_
  refine c_nil (n_then ?_)
  refine c_ret ?_
  have hP := Option.some.inj hP
  subst hP
  refine e_ret1 Tryz.results135 hF rfl ?_
  exact ⟨rfl, selM hM [] 1 rfl⟩
set_option maxHeartbeats 4000000 in
theorem ref23_goodEnd_calls {x0 : Int} {out : Bool} {w0 : World} {Lr : List Res} (hP : Sh.ref23_goodEnd x0 = some out) (hM : MemL w0 (Lr)) : Calls Tryz.prog 107 #[.int .i64 x0] w0 (Ret fun v w' => v = .bool out ∧ MemL w' (Lr)) := by
  unfold Sh.ref23_goodEnd at hP
  refine calls_enter (vs := [.int .i64 x0]) Tryz.func107 rfl Tryz.ntmps107 rfl fun a hF => ?_
  refine c_seq ?_
  refine c_region ?_
  refine s_val hF (r_assign hF rfl rfl) rfl rfl rfl fun a hF => ?_
  refine c_nil (n_then ?_)
  refine c_seq ?_
  refine c_joinX hF hM hP (fun F x a w => match x with | v17 => Fr 9 [(2, .bool v17)] a ∧ MemL w (Lr)) (fun o_j1 hP hK_j1 hF hM => ?_) ?_
  · refine c_region ?_
    refine s_val hF (r_move hF rfl rfl) rfl rfl rfl fun a hF => ?_
    refine s_val hF (r_eql hF rfl rfl rfl) rfl rfl rfl fun a hF => ?_
    refine s_val hF (r_move hF rfl rfl) rfl rfl rfl fun a hF => ?_
    refine g_split 5 hF rfl (fun hb18 => ?_) (fun hb18 => ?_)
    · have hP := Fx.cT hb18 hP
      refine g_skip hF rfl rfl rfl hb18 rfl rfl fun a hF => ?_
      refine g_skip hF rfl rfl rfl hb18 rfl rfl fun a hF => ?_
      refine s_val hF (r_pick1 hF rfl rfl hb18 rfl) rfl rfl rfl fun a hF => ?_
      refine s_val hF (r_assign hF rfl rfl) rfl rfl rfl fun a hF => ?_
      refine c_nil (n_then ?_)
      have hP := Option.some.inj hP
      subst hP
      exact ⟨true, rfl, hF.to ⟨rfl, trivial⟩, hM⟩
    have hP := Fx.cF hb18 hP
    refine g_val hF rfl rfl rfl hb18 (r_move hF rfl rfl) rfl rfl fun a hF => ?_
    obtain ⟨y20, hy20, hP⟩ := bind_some hP
    refine g_eff hF rfl rfl rfl hb18 rfl rfl (w_call (xs := [.tmp 6, .const (.int .i64 (80)), .const (.int .i64 (89))]) Tryz.call159 hF rfl rfl (ref23_within_calls hy20 hM ) fun v w hR => ?_)
    obtain ⟨rfl, hM⟩ := hR
    replace hM : MemL _ (Lr) := hM
    intro a hF
    refine s_val hF (r_pick0 hF rfl rfl hb18 rfl) rfl rfl rfl fun a hF => ?_
    refine s_val hF (r_assign hF rfl rfl) rfl rfl rfl fun a hF => ?_
    refine c_nil (n_then ?_)
    have hP := Option.some.inj hP
    subst hP
    exact ⟨y20, rfl, hF.to ⟨rfl, trivial⟩, hM⟩
  rintro v17 a w hP ⟨hF, hM⟩
  replace hP : Sh.ref23_goodEnd_j1 v17 = _ := hP
  unfold Sh.ref23_goodEnd_j1 at hP
  refine n_then ?_
  refine c_ret ?_
  have hP := Option.some.inj hP
  subst hP
  refine e_ret1 Tryz.results107 hF rfl ?_
  exact ⟨rfl, hM⟩
end Go.Proofs
end
