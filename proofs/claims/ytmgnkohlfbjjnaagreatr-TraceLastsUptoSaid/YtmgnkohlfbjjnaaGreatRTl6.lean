/- Ground for this claim: The call of TraceLasts returns true, and what is read reads as before. Condition: what is read is of bulk at most 1048576. -/
import Derived.Test.YtmgnkohlfbjjnaaGreatRProg
import Derived.KernelRfl
import Derived.Test.YtmgnkohlfbjjnaaGreatRTl5
section
namespace Go.Proofs
open Go.Fw
set_option maxRecDepth 20000
theorem mixed : Tryz.prog.follows .mixedOrders = true := by kernel_rfl
theorem eq_LVal (d : Nat) (x y : LVal) (w : World) (hd : 3 ≤ d) : (Op.equalIn d 46 (.agg x.enc.toArray) (.agg y.enc.toArray)).run Tryz.prog w = .ok (decide (x = y)) w := by
  obtain ⟨d, rfl⟩ : ∃ d', d = d' + 1 := ⟨d - 1, by omega⟩
  rw [run_equalIn_struct w d 46 _ _ (by simp only [Program.fieldsOf, Tryz.underlying46]) Tryz.stoodInHeld46]
  simp only [Program.fieldsOf, Tryz.underlying46]
  have key : (x = y) ↔ x.kind = y.kind ∧ x.table = y.table ∧ x.row = y.row ∧ x.x = y.x := by cases x; cases y; simp
  rw [eqFields_one (by decide) Tryz.isAgg3 (LVal.g_kind x) (LVal.g_kind y) ((EqSpec.int (k := .i64) Tryz.underlying3) d _ _ w (by omega))]
  rw [eqFields_one (by decide) Tryz.isAgg3 (LVal.g_table x) (LVal.g_table y) ((EqSpec.int (k := .i64) Tryz.underlying3) d _ _ w (by omega))]
  rw [eqFields_one (by decide) Tryz.isAgg3 (LVal.g_row x) (LVal.g_row y) ((EqSpec.int (k := .i64) Tryz.underlying3) d _ _ w (by omega))]
  rw [eqFields_one (by decide) Tryz.isAgg3 (LVal.g_x x) (LVal.g_x y) ((EqSpec.int (k := .i64) Tryz.underlying3) d _ _ w (by omega))]
  rw [eqFields_nil]
  simp only [decide_eq_true_eq, key]
  repeat' split
  all_goals simp_all
theorem eq_arr48 : ∀ (d : Nat) (x y : Vec UInt8 8) (w : World), 2 ≤ d → (Op.equalIn d 48 (.agg (encs x.l).toArray) (.agg (encs y.l).toArray)).run Tryz.prog w = .ok (decide (x = y)) w :=
  EqSpec.vecOne Tryz.underlying48 Tryz.sizeOf5 rfl Tryz.isAgg5 (fun _ => rfl) (EqSpec.u8 Tryz.underlying5)
theorem eq_LSlot (d : Nat) (x y : LSlot) (w : World) (hd : 6 ≤ d) : (Op.equalIn d 50 (.agg x.enc.toArray) (.agg y.enc.toArray)).run Tryz.prog w = .ok (decide (x = y)) w := by
  obtain ⟨d, rfl⟩ : ∃ d', d = d' + 1 := ⟨d - 1, by omega⟩
  rw [run_equalIn_struct w d 50 _ _ (by simp only [Program.fieldsOf, Tryz.underlying50]) Tryz.stoodInHeld50]
  simp only [Program.fieldsOf, Tryz.underlying50]
  have key : (x = y) ↔ x.ptr = y.ptr ∧ x.bytes = y.bytes ∧ x.mask = y.mask := by cases x; cases y; simp
  rw [eqFields_agg (by decide) Tryz.isAgg46 Tryz.sizeOf46 (LSlot.c_ptr x) (LSlot.c_ptr y) (eq_LVal d _ _ w (by omega))]
  rw [eqFields_agg (by decide) Tryz.isAgg48 Tryz.sizeOf48 (LSlot.c_bytes x) (LSlot.c_bytes y) (eq_arr48 d _ _ w (by omega))]
  rw [eqFields_one (by decide) Tryz.isAgg3 (LSlot.g_mask x) (LSlot.g_mask y) ((EqSpec.int (k := .i64) Tryz.underlying3) d _ _ w (by omega))]
  rw [eqFields_nil]
  simp only [decide_eq_true_eq, key]
  repeat' split
  all_goals simp_all
theorem eq_LTurn (d : Nat) (x y : LTurn) (w : World) (hd : 6 ≤ d) : (Op.equalIn d 128 (.agg x.enc.toArray) (.agg y.enc.toArray)).run Tryz.prog w = .ok (decide (x = y)) w := by
  obtain ⟨d, rfl⟩ : ∃ d', d = d' + 1 := ⟨d - 1, by omega⟩
  rw [run_equalIn_struct w d 128 _ _ (by simp only [Program.fieldsOf, Tryz.underlying128]) Tryz.stoodInHeld128]
  simp only [Program.fieldsOf, Tryz.underlying128]
  have key : (x = y) ↔ x.reg = y.reg ∧ x.old = y.old ∧ x.new = y.new := by cases x; cases y; simp
  rw [eqFields_one (by decide) Tryz.isAgg3 (LTurn.g_reg x) (LTurn.g_reg y) ((EqSpec.int (k := .i64) Tryz.underlying3) d _ _ w (by omega))]
  rw [eqFields_agg (by decide) Tryz.isAgg46 Tryz.sizeOf46 (LTurn.c_old x) (LTurn.c_old y) (eq_LVal d _ _ w (by omega))]
  rw [eqFields_agg (by decide) Tryz.isAgg46 Tryz.sizeOf46 (LTurn.c_new x) (LTurn.c_new y) (eq_LVal d _ _ w (by omega))]
  rw [eqFields_nil]
  simp only [decide_eq_true_eq, key]
  repeat' split
  all_goals simp_all
theorem eq_LCell (d : Nat) (x y : LCell) (w : World) (hd : 8 ≤ d) : (Op.equalIn d 151 (.agg x.enc.toArray) (.agg y.enc.toArray)).run Tryz.prog w = .ok (decide (x = y)) w := by
  obtain ⟨d, rfl⟩ : ∃ d', d = d' + 1 := ⟨d - 1, by omega⟩
  rw [run_equalIn_struct w d 151 _ _ (by simp only [Program.fieldsOf, Tryz.underlying151]) Tryz.stoodInHeld151]
  simp only [Program.fieldsOf, Tryz.underlying151]
  have key : (x = y) ↔ x.slot = y.slot ∧ x.old = y.old ∧ x.new = y.new := by cases x; cases y; simp
  rw [eqFields_one (by decide) Tryz.isAgg3 (LCell.g_slot x) (LCell.g_slot y) ((EqSpec.int (k := .i64) Tryz.underlying3) d _ _ w (by omega))]
  rw [eqFields_agg (by decide) Tryz.isAgg50 Tryz.sizeOf50 (LCell.c_old x) (LCell.c_old y) (eq_LSlot d _ _ w (by omega))]
  rw [eqFields_agg (by decide) Tryz.isAgg50 Tryz.sizeOf50 (LCell.c_new x) (LCell.c_new y) (eq_LSlot d _ _ w (by omega))]
  rw [eqFields_nil]
  simp only [decide_eq_true_eq, key]
  repeat' split
  all_goals simp_all
theorem z128 (w : World) : (zeroValue 128).run Tryz.prog w = .ok (.agg LTurn.zero.enc.toArray) w := (Tryz.zeroValue128 w).trans (by kernel_rfl)
theorem z151 (w : World) : (zeroValue 151).run Tryz.prog w = .ok (.agg LCell.zero.enc.toArray) w := (Tryz.zeroValue151 w).trans (by kernel_rfl)
theorem z156 (w : World) : (zeroValue 156).run Tryz.prog w = .ok (.agg RPiece.zero.enc.toArray) w := (Tryz.zeroValue156 w).trans (by kernel_rfl)
theorem z60 (w : World) : (zeroValue 60).run Tryz.prog w = .ok (.agg RMark.zero.enc.toArray) w := (Tryz.zeroValue60 w).trans (by kernel_rfl)
theorem z36 (w : World) : (zeroValue 36).run Tryz.prog w = .ok (.agg RRecord.zero.enc.toArray) w := (Tryz.zeroValue36 w).trans (by kernel_rfl)
theorem in3 : Tryz.prog.info? 3 = some Tryz.t3 := by kernel_rfl
theorem in4 : Tryz.prog.info? 4 = some Tryz.t4 := by kernel_rfl
theorem in5 : Tryz.prog.info? 5 = some Tryz.t5 := by kernel_rfl
theorem in23 : Tryz.prog.info? 23 = some Tryz.t23 := by kernel_rfl
theorem in28 : Tryz.prog.info? 28 = some Tryz.t28 := by kernel_rfl
theorem in30 : Tryz.prog.info? 30 = some Tryz.t30 := by kernel_rfl
theorem in33 : Tryz.prog.info? 33 = some Tryz.t33 := by kernel_rfl
theorem in34 : Tryz.prog.info? 34 = some Tryz.t34 := by kernel_rfl
theorem in52 : Tryz.prog.info? 52 = some Tryz.t52 := by kernel_rfl
theorem in56 : Tryz.prog.info? 56 = some Tryz.t56 := by kernel_rfl
theorem in57 : Tryz.prog.info? 57 = some Tryz.t57 := by kernel_rfl
theorem in58 : Tryz.prog.info? 58 = some Tryz.t58 := by kernel_rfl
theorem in60 : Tryz.prog.info? 60 = some Tryz.t60 := by kernel_rfl
theorem in128 : Tryz.prog.info? 128 = some Tryz.t128 := by kernel_rfl
theorem in151 : Tryz.prog.info? 151 = some Tryz.t151 := by kernel_rfl
theorem in156 : Tryz.prog.info? 156 = some Tryz.t156 := by kernel_rfl
theorem pl128 : ∀ w, (plc Tryz.prog 128).run Tryz.prog w = .ok #[(0, 1), (1, 4), (5, 4)] w := fun w => by kernel_rfl
theorem pl151 : ∀ w, (plc Tryz.prog 151).run Tryz.prog w = .ok #[(0, 1), (1, 13), (14, 13)] w := fun w => by kernel_rfl
theorem pl156 : ∀ w, (plc Tryz.prog 156).run Tryz.prog w = .ok #[(0, 1), (1, 1), (2, 1), (3, 1)] w := fun w => by kernel_rfl
theorem pl60 : ∀ w, (plc Tryz.prog 60).run Tryz.prog w = .ok #[(0, 1), (1, 1), (2, 1), (3, 1), (4, 1), (5, 1), (6, 1)] w := fun w => by kernel_rfl
theorem pl36 : ∀ w, (plc Tryz.prog 36).run Tryz.prog w = .ok #[(0, 2), (2, 1), (3, 1)] w := fun w => by kernel_rfl
end Go.Proofs
end
section
namespace Go.Proofs
open Go.Fw Go.Fx
set_option maxRecDepth 10000
set_option linter.unusedVariables false
set_option linter.unusedSimpArgs false
set_option maxHeartbeats 4000000 in
theorem trace_does_calls {x0 : QMark} {x1 : Int} {x2 : Int} {x3 : Int} {s1 : SV} {s3 : SV} {s5 : SV} {hs6 : List RPiece} {s9 : SV} {out : Bool} {w0 : World} {Bf : World → Prop} {Lr : List Res} (hP : Sh.trace_does x0 x1 x2 x3 = some out) (hM : MemL w0 (Lr)) (hsub : ∀ w, MemL w Lr → Bf w) (f2 : LIn Bf s1 x0.regs) (f4 : LIn Bf s3 x0.slots) (f7 : LIn Bf s5 hs6) (q8 : Each (QPieceIn Bf) hs6 x0.pieces) (f10 : LIn Bf s9 x0.sent) : Calls Tryz.prog 91 #[.agg (RMark.enc (RMark.mk x0.at_ x0.next x0.done s1 s3 s5 s9)).toArray, .int .i64 x1, .int .i64 x2, .int .i64 x3] w0 (Ret fun v w' => v = .bool out ∧ MemL w' (Lr)) := by
  unfold Sh.trace_does at hP
  refine calls_enter (vs := [.agg (RMark.enc (RMark.mk x0.at_ x0.next x0.done s1 s3 s5 s9)).toArray, .int .i64 x1, .int .i64 x2, .int .i64 x3]) Tryz.func91 rfl Tryz.ntmps91 rfl fun a hF => ?_
  refine c_seq ?_
  refine c_region ?_
  refine s_eff hF rfl rfl rfl (w_box hF rfl rfl rfl fun b_B91_4 w hzB91_4 hAB91_4 => ?_)
  have hM := hM.plus hAB91_4
  replace hM : MemL _ (pt b_B91_4 (RMark.enc (RMark.mk x0.at_ x0.next x0.done s1 s3 s5 s9)) 60 :: Lr) := hM
  intro a hF
  refine s_eff hF rfl rfl rfl (w_box hF rfl rfl rfl fun b_B91_6 w hzB91_6 hAB91_6 => ?_)
  have hM := hM.plus hAB91_6
  replace hM : MemL _ (pt b_B91_6 [.int .i64 x2] 3 :: pt b_B91_4 (RMark.enc (RMark.mk x0.at_ x0.next x0.done s1 s3 s5 s9)) 60 :: Lr) := hM
  intro a hF
  refine s_eff hF rfl rfl rfl (w_box hF rfl rfl rfl fun b_B91_7 w hzB91_7 hAB91_7 => ?_)
  have hM := hM.plus hAB91_7
  replace hM : MemL _ (pt b_B91_7 [.int .i64 x3] 3 :: pt b_B91_6 [.int .i64 x2] 3 :: pt b_B91_4 (RMark.enc (RMark.mk x0.at_ x0.next x0.done s1 s3 s5 s9)) 60 :: Lr) := hM
  intro a hF
  refine s_val hF (r_assign hF rfl rfl) rfl rfl rfl fun a hF => ?_
  refine c_nil (n_then ?_)
  refine c_seq ?_
  refine c_seq ?_
  refine c_region ?_
  refine s_val hF (r_move hF rfl rfl) rfl rfl rfl fun a hF => ?_
  refine c_nil (n_then ?_)
  refine c_block ?_
  refine c_seq ?_
  refine c_region ?_
  refine s_val hF (r_eql hF rfl rfl rfl) rfl rfl rfl fun a hF => ?_
  refine s_val hF (r_assign hF rfl rfl) rfl rfl rfl fun a hF => ?_
  refine c_nil (n_then ?_)
  refine c_cond hF (c := .tmp 10) rfl (fun hb8045 => ?_) (fun hb8045 => ?_)
  · have hP := Fx.cT hb8045 hP
    refine c_seq ?_
    refine c_region ?_
    refine s_val hF (r_fieldAddr (off' := 3) Tryz.underlying60 rfl in56 rfl hF rfl rfl rfl) rfl rfl rfl fun a hF => ?_
    refine s_val hF (r_load1 Tryz.isAgg56 hF rfl rfl (hM.cell (i := 2) rfl (RMark.g_regs _))) rfl rfl rfl fun a hF => ?_
    refine s_val hF (r_makeFunc hF (fs := []) (cs := [.tmp 6]) rfl rfl rfl) rfl rfl rfl fun a hF => ?_
    obtain ⟨o_c1, hP, hK_c1⟩ := seq_some hP
    refine s_eff hF rfl rfl rfl (w_call (xs := [.tmp 13, .tmp 14]) Tryz.call160 hF rfl rfl (R := fun v w => ∃ x, o_c1 = .inl x ∧ match x with | v8203 => v = .bool v8203 ∧ MemL w (pt b_B91_7 [.int .i64 x3] 3 :: pt b_B91_6 [.int .i64 x2] 3 :: pt b_B91_4 (RMark.enc (RMark.mk x0.at_ x0.next x0.done s1 s3 s5 s9)) 60 :: Lr)) ?_ fun v w hR => ?_)
    · refine calls_enter Tryz.func160 rfl Tryz.ntmps160 rfl fun a hF => ?_
      refine c_seq ?_
      refine c_region ?_
      refine s_val hF (r_assign hF rfl rfl) rfl rfl rfl fun a hF => ?_
      refine c_nil (n_then ?_)
      refine c_seq ?_
      refine c_region ?_
      refine s_val hF (r_move hF rfl rfl) rfl rfl rfl fun a hF => ?_
      refine s_val hF (r_move hF rfl rfl) rfl rfl rfl fun a hF => ?_
      obtain ⟨o_c2, hP, hK_c2⟩ := seq_some hP
      refine s_eff hF rfl rfl rfl (w_call (xs := [.tmp 5, .tmp 6]) Tryz.call223 hF rfl rfl (R := fun v w => ∃ x, o_c2 = .inl x ∧ match x with | v8282 => v = .int .i64 v8282 ∧ MemL w (pt b_B91_7 [.int .i64 x3] 3 :: pt b_B91_6 [.int .i64 x2] 3 :: pt b_B91_4 (RMark.enc (RMark.mk x0.at_ x0.next x0.done s1 s3 s5 s9)) 60 :: Lr)) ?_ fun v w hR => ?_)
      · refine calls_enter Tryz.func223 rfl Tryz.ntmps223 rfl fun a hF => ?_
        refine c_seq ?_
        refine c_region ?_
        refine s_val hF (r_assign hF rfl rfl) rfl rfl rfl fun a hF => ?_
        refine c_nil (n_then ?_)
        refine c_seq ?_
        refine c_joinX hF hM hP (fun F x a w => match x with | _ => Fr 19 [(4, .int .i64 0)] a ∧ MemL w (pt b_B91_7 [.int .i64 x3] 3 :: pt b_B91_6 [.int .i64 x2] 3 :: pt b_B91_4 (RMark.enc (RMark.mk x0.at_ x0.next x0.done s1 s3 s5 s9)) 60 :: Lr)) (fun o_j3 hP hK_j3 hF hM => ?_) ?_
        · refine c_seq ?_
          refine c_region ?_
          refine s_val hF (r_move hF rfl rfl) rfl rfl rfl fun a hF => ?_
          refine s_val hF (r_lenL (f2 _ (hsub _ (dropM hM 3))) Tryz.underlying56 hF rfl rfl) rfl rfl rfl fun a hF => ?_
          refine s_val hF (r_move hF rfl rfl) rfl rfl rfl fun a hF => ?_
          refine c_nil (n_then ?_)
          refine c_block ?_
          refine c_loopX hF hM hP (fun F x a w => match x with | v8352 => Fr 19 [(8, .int .i64 v8352), (0, (s1).v), (1, .func (.func 161) [].toArray [.pointer (some ⟨b_B91_6, 0, none⟩)].toArray), (4, .int .i64 0), (7, .int .i64 (x0.regs.length : Int))] a ∧ MemL w (pt b_B91_7 [.int .i64 x3] 3 :: pt b_B91_6 [.int .i64 x2] 3 :: pt b_B91_4 (RMark.enc (RMark.mk x0.at_ x0.next x0.done s1 s3 s5 s9)) 60 :: Lr)) (fun hF hM => ⟨hF.to ⟨rfl, rfl, rfl, rfl, rfl, trivial⟩, hM⟩) ?_
          rintro v8352 a w o_l4 hP hK_l4 ⟨hF, hM⟩
          replace hP : Sh.trace_does_l4 x0 x2 v8352 = _ := hP
          unfold Sh.trace_does_l4 at hP
          refine c_seq ?_
          refine c_region ?_
          refine s_val hF (r_lss hF rfl rfl rfl) rfl rfl rfl fun a hF => ?_
          refine c_nil (n_then ?_)
          refine c_seq ?_
          refine c_cond hF (c := .tmp 9) rfl (fun hb8354 => ?_) (fun hb8354 => ?_)
          · have hP := Fx.cT hb8354 hP
            refine c_skip (n_then ?_)
            refine c_seq ?_
            refine c_block ?_
            refine c_seq ?_
            refine c_region ?_
            refine s_val hF (r_move hF rfl rfl) rfl rfl rfl fun a hF => ?_
            refine s_val hF (r_assign hF rfl rfl) rfl rfl rfl fun a hF => ?_
            refine c_nil (n_then ?_)
            refine c_seq ?_
            refine c_region ?_
            refine s_val hF (r_move hF rfl rfl) rfl rfl rfl fun a hF => ?_
            refine s_val hF (r_move hF rfl rfl) rfl rfl rfl fun a hF => ?_
            refine s_val hF (r_move hF rfl rfl) rfl rfl rfl fun a hF => ?_
            obtain ⟨x8358, hx8358, hP⟩ := bind_some hP
            have h0x8358 := get_some hx8358
            refine s_val hF (r_indexZ (sz := 9) (f2 _ (hsub _ (dropM hM 3))) Tryz.underlying56 in128 rfl hF rfl rfl rfl (get_bd hx8358)) rfl rfl rfl fun a hF => ?_
            refine s_val hF (r_loadn Tryz.isAgg128 Tryz.sizeOf128 hF rfl rfl (LTurn.len _) (((f2 _ (hsub _ (dropM hM 3))).elemS h0x8358.2))) rfl rfl rfl fun a hF => ?_
            obtain ⟨o_c5, hP, hK_c5⟩ := seq_some hP
            refine s_eff hF rfl rfl rfl (w_callF (xs := [.tmp 15]) Tryz.call161 hF rfl rfl rfl (R := fun v w => ∃ x, o_c5 = .inl x ∧ match x with | v8359 => v = .bool v8359 ∧ MemL w (pt b_B91_7 [.int .i64 x3] 3 :: pt b_B91_6 [.int .i64 x2] 3 :: pt b_B91_4 (RMark.enc (RMark.mk x0.at_ x0.next x0.done s1 s3 s5 s9)) 60 :: Lr)) ?_ fun v w hR => ?_)
            · refine calls_enter Tryz.func161 rfl Tryz.ntmps161 rfl fun a hF => ?_
              refine c_seq ?_
              refine c_region ?_
              refine s_eff hF rfl rfl rfl (w_box hF rfl rfl rfl fun b_B161_2 w hzB161_2 hAB161_2 => ?_)
              have hM := hM.plus hAB161_2
              replace hM : MemL _ (pt b_B161_2 (LTurn.enc x8358) 128 :: pt b_B91_7 [.int .i64 x3] 3 :: pt b_B91_6 [.int .i64 x2] 3 :: pt b_B91_4 (RMark.enc (RMark.mk x0.at_ x0.next x0.done s1 s3 s5 s9)) 60 :: Lr) := hM
              intro a hF
              refine s_val hF (r_assign hF rfl rfl) rfl rfl rfl fun a hF => ?_
              refine c_nil (n_then ?_)
              refine c_seq ?_
              refine c_region ?_
              refine s_val hF (r_fieldAddr (off' := 0) Tryz.underlying128 rfl in3 rfl hF rfl rfl rfl) rfl rfl rfl fun a hF => ?_
              refine s_val hF (r_load1 Tryz.isAgg3 hF rfl rfl (hM.cell (i := 0) rfl (LTurn.g_reg _))) rfl rfl rfl fun a hF => ?_
              refine s_val hF (r_load1 Tryz.isAgg3 hF rfl rfl (hM.cell (i := 2) rfl rfl)) rfl rfl rfl fun a hF => ?_
              refine s_val hF (r_eql hF rfl rfl rfl) rfl rfl rfl fun a hF => ?_
              refine s_val hF (r_assign hF rfl rfl) rfl rfl rfl fun a hF => ?_
              refine c_nil (n_then ?_)
              refine c_ret ?_
              have hP := Option.some.inj hP
              subst hP
              refine e_ret1 Tryz.results161 hF rfl ?_
              exact ⟨(decide (x8358.reg = x2)), rfl, rfl, selM hM [1, 2, 3] 4 rfl⟩
            obtain ⟨v8359, rfl, rfl, hM⟩ := hR
            replace hP : Sh.trace_does_c5 v8352 v8359 = _ := hK_c5
            unfold Sh.trace_does_c5 at hP
            intro a hF
            refine c_nil (n_then ?_)
            refine c_cond hF (c := .tmp 16) rfl (fun hb8360 => ?_) (fun hb8360 => ?_)
            · have hP := Fx.cT hb8360 hP
              refine c_seq ?_
              refine c_region ?_
              refine s_val hF (r_move hF rfl rfl) rfl rfl rfl fun a hF => ?_
              refine s_val hF (r_assign hF rfl rfl) rfl rfl rfl fun a hF => ?_
              refine c_nil (n_then ?_)
              refine c_ret ?_
              have hP := Option.some.inj hP
              subst hP
              have hP := hK_l4 _ rfl
              subst hP
              have hP := fin_inr hK_j3
              subst hP
              refine e_ret1 Tryz.results223 hF rfl ?_
              exact ⟨v8352, rfl, rfl, hM⟩
            have hP := Fx.cF hb8360 hP
            refine c_skip (n_block (n_then ?_))
            refine c_region ?_
            refine s_val hF (r_add hF rfl rfl rfl) rfl rfl rfl fun a hF => ?_
            refine s_val hF (r_move hF rfl rfl) rfl rfl rfl fun a hF => ?_
            refine c_nil (n_then ?_)
            have hP := Option.some.inj hP
            subst hP
            exact ⟨(IntKind.i64.wrap (v8352 + 1)), rfl, hF.to ⟨rfl, rfl, rfl, rfl, rfl, trivial⟩, hM⟩
          have hP := Fx.cF hb8354 hP
          refine c_exit (x_then (x_then (x_hit ?_)))
          refine n_then ?_
          have hP := Option.some.inj hP
          subst hP
          have hP := hK_l4 _ rfl
          subst hP
          exact ⟨(), rfl, hF.to ⟨rfl, trivial⟩, hM⟩
        rintro ⟨⟩ a w hP ⟨hF, hM⟩
        replace hP : Sh.trace_does_j3 = _ := hP
        unfold Sh.trace_does_j3 at hP
        refine n_then ?_
        refine c_seq ?_
        refine c_region ?_
        refine s_val hF (r_assign hF rfl rfl) rfl rfl rfl fun a hF => ?_
        refine c_nil (n_then ?_)
        refine c_ret ?_
        have hP := Option.some.inj hP
        subst hP
        refine e_ret1 Tryz.results223 hF rfl ?_
        exact ⟨(-1), rfl, rfl, hM⟩
      obtain ⟨v8282, rfl, rfl, hM⟩ := hR
      replace hP : Sh.trace_does_c2 v8282 = _ := hK_c2
      unfold Sh.trace_does_c2 at hP
      intro a hF
      refine s_val hF (r_geq hF rfl rfl rfl) rfl rfl rfl fun a hF => ?_
      refine s_val hF (r_assign hF rfl rfl) rfl rfl rfl fun a hF => ?_
      refine c_nil (n_then ?_)
      refine c_ret ?_
      have hP := Option.some.inj hP
      subst hP
      refine e_ret1 Tryz.results160 hF rfl ?_
      exact ⟨(decide (0 ≤ v8282)), rfl, rfl, hM⟩
    obtain ⟨v8203, rfl, rfl, hM⟩ := hR
    replace hP : Sh.trace_does_c1 v8203 = _ := hK_c1
    unfold Sh.trace_does_c1 at hP
    intro a hF
    refine s_val hF (r_assign hF rfl rfl) rfl rfl rfl fun a hF => ?_
    refine c_nil (n_then ?_)
    refine c_ret ?_
    have hP := Option.some.inj hP
    subst hP
    refine e_ret1 Tryz.results91 hF rfl ?_
    exact ⟨rfl, selM hM [] 3 rfl⟩
  have hP := Fx.cF hb8045 hP
  refine c_seq ?_
  refine c_region ?_
  refine s_val hF (r_eql hF rfl rfl rfl) rfl rfl rfl fun a hF => ?_
  refine s_val hF (r_assign hF rfl rfl) rfl rfl rfl fun a hF => ?_
  refine c_nil (n_then ?_)
  refine c_cond hF (c := .tmp 16) rfl (fun hb8361 => ?_) (fun hb8361 => ?_)
  · have hP := Fx.cT hb8361 hP
    refine c_seq ?_
    refine c_region ?_
    refine s_val hF (r_fieldAddr (off' := 4) Tryz.underlying60 rfl in57 rfl hF rfl rfl rfl) rfl rfl rfl fun a hF => ?_
    refine s_val hF (r_load1 Tryz.isAgg57 hF rfl rfl (hM.cell (i := 2) rfl (RMark.g_slots _))) rfl rfl rfl fun a hF => ?_
    refine s_val hF (r_makeFunc hF (fs := []) (cs := [.tmp 6]) rfl rfl rfl) rfl rfl rfl fun a hF => ?_
    obtain ⟨o_c6, hP, hK_c6⟩ := seq_some hP
    refine s_eff hF rfl rfl rfl (w_call (xs := [.tmp 19, .tmp 20]) Tryz.call162 hF rfl rfl (R := fun v w => ∃ x, o_c6 = .inl x ∧ match x with | v8519 => v = .bool v8519 ∧ MemL w (pt b_B91_7 [.int .i64 x3] 3 :: pt b_B91_6 [.int .i64 x2] 3 :: pt b_B91_4 (RMark.enc (RMark.mk x0.at_ x0.next x0.done s1 s3 s5 s9)) 60 :: Lr)) ?_ fun v w hR => ?_)
    · refine calls_enter Tryz.func162 rfl Tryz.ntmps162 rfl fun a hF => ?_
      refine c_seq ?_
      refine c_region ?_
      refine s_val hF (r_assign hF rfl rfl) rfl rfl rfl fun a hF => ?_
      refine c_nil (n_then ?_)
      refine c_seq ?_
      refine c_region ?_
      refine s_val hF (r_move hF rfl rfl) rfl rfl rfl fun a hF => ?_
      refine s_val hF (r_move hF rfl rfl) rfl rfl rfl fun a hF => ?_
      obtain ⟨o_c7, hP, hK_c7⟩ := seq_some hP
      refine s_eff hF rfl rfl rfl (w_call (xs := [.tmp 5, .tmp 6]) Tryz.call224 hF rfl rfl (R := fun v w => ∃ x, o_c7 = .inl x ∧ match x with | v8598 => v = .int .i64 v8598 ∧ MemL w (pt b_B91_7 [.int .i64 x3] 3 :: pt b_B91_6 [.int .i64 x2] 3 :: pt b_B91_4 (RMark.enc (RMark.mk x0.at_ x0.next x0.done s1 s3 s5 s9)) 60 :: Lr)) ?_ fun v w hR => ?_)
      · refine calls_enter Tryz.func224 rfl Tryz.ntmps224 rfl fun a hF => ?_
        refine c_seq ?_
        refine c_region ?_
        refine s_val hF (r_assign hF rfl rfl) rfl rfl rfl fun a hF => ?_
        refine c_nil (n_then ?_)
        refine c_seq ?_
        refine c_joinX hF hM hP (fun F x a w => match x with | _ => Fr 19 [(4, .int .i64 0)] a ∧ MemL w (pt b_B91_7 [.int .i64 x3] 3 :: pt b_B91_6 [.int .i64 x2] 3 :: pt b_B91_4 (RMark.enc (RMark.mk x0.at_ x0.next x0.done s1 s3 s5 s9)) 60 :: Lr)) (fun o_j8 hP hK_j8 hF hM => ?_) ?_
        · refine c_seq ?_
          refine c_region ?_
          refine s_val hF (r_move hF rfl rfl) rfl rfl rfl fun a hF => ?_
          refine s_val hF (r_lenL (f4 _ (hsub _ (dropM hM 3))) Tryz.underlying57 hF rfl rfl) rfl rfl rfl fun a hF => ?_
          refine s_val hF (r_move hF rfl rfl) rfl rfl rfl fun a hF => ?_
          refine c_nil (n_then ?_)
          refine c_block ?_
          refine c_loopX hF hM hP (fun F x a w => match x with | v8668 => Fr 19 [(8, .int .i64 v8668), (0, (s3).v), (1, .func (.func 163) [].toArray [.pointer (some ⟨b_B91_6, 0, none⟩)].toArray), (4, .int .i64 0), (7, .int .i64 (x0.slots.length : Int))] a ∧ MemL w (pt b_B91_7 [.int .i64 x3] 3 :: pt b_B91_6 [.int .i64 x2] 3 :: pt b_B91_4 (RMark.enc (RMark.mk x0.at_ x0.next x0.done s1 s3 s5 s9)) 60 :: Lr)) (fun hF hM => ⟨hF.to ⟨rfl, rfl, rfl, rfl, rfl, trivial⟩, hM⟩) ?_
          rintro v8668 a w o_l9 hP hK_l9 ⟨hF, hM⟩
          replace hP : Sh.trace_does_l9 x0 x2 v8668 = _ := hP
          unfold Sh.trace_does_l9 at hP
          refine c_seq ?_
          refine c_region ?_
          refine s_val hF (r_lss hF rfl rfl rfl) rfl rfl rfl fun a hF => ?_
          refine c_nil (n_then ?_)
          refine c_seq ?_
          refine c_cond hF (c := .tmp 9) rfl (fun hb8670 => ?_) (fun hb8670 => ?_)
          · have hP := Fx.cT hb8670 hP
            refine c_skip (n_then ?_)
            refine c_seq ?_
            refine c_block ?_
            refine c_seq ?_
            refine c_region ?_
            refine s_val hF (r_move hF rfl rfl) rfl rfl rfl fun a hF => ?_
            refine s_val hF (r_assign hF rfl rfl) rfl rfl rfl fun a hF => ?_
            refine c_nil (n_then ?_)
            refine c_seq ?_
            refine c_region ?_
            refine s_val hF (r_move hF rfl rfl) rfl rfl rfl fun a hF => ?_
            refine s_val hF (r_move hF rfl rfl) rfl rfl rfl fun a hF => ?_
            refine s_val hF (r_move hF rfl rfl) rfl rfl rfl fun a hF => ?_
            obtain ⟨x8674, hx8674, hP⟩ := bind_some hP
            have h0x8674 := get_some hx8674
            refine s_val hF (r_indexZ (sz := 27) (f4 _ (hsub _ (dropM hM 3))) Tryz.underlying57 in151 rfl hF rfl rfl rfl (get_bd hx8674)) rfl rfl rfl fun a hF => ?_
            refine s_val hF (r_loadn Tryz.isAgg151 Tryz.sizeOf151 hF rfl rfl (LCell.len _) (((f4 _ (hsub _ (dropM hM 3))).elemS h0x8674.2))) rfl rfl rfl fun a hF => ?_
            obtain ⟨o_c10, hP, hK_c10⟩ := seq_some hP
            refine s_eff hF rfl rfl rfl (w_callF (xs := [.tmp 15]) Tryz.call163 hF rfl rfl rfl (R := fun v w => ∃ x, o_c10 = .inl x ∧ match x with | v8675 => v = .bool v8675 ∧ MemL w (pt b_B91_7 [.int .i64 x3] 3 :: pt b_B91_6 [.int .i64 x2] 3 :: pt b_B91_4 (RMark.enc (RMark.mk x0.at_ x0.next x0.done s1 s3 s5 s9)) 60 :: Lr)) ?_ fun v w hR => ?_)
            · refine calls_enter Tryz.func163 rfl Tryz.ntmps163 rfl fun a hF => ?_
              refine c_seq ?_
              refine c_region ?_
              refine s_eff hF rfl rfl rfl (w_box hF rfl rfl rfl fun b_B163_2 w hzB163_2 hAB163_2 => ?_)
              have hM := hM.plus hAB163_2
              replace hM : MemL _ (pt b_B163_2 (LCell.enc x8674) 151 :: pt b_B91_7 [.int .i64 x3] 3 :: pt b_B91_6 [.int .i64 x2] 3 :: pt b_B91_4 (RMark.enc (RMark.mk x0.at_ x0.next x0.done s1 s3 s5 s9)) 60 :: Lr) := hM
              intro a hF
              refine s_val hF (r_assign hF rfl rfl) rfl rfl rfl fun a hF => ?_
              refine c_nil (n_then ?_)
              refine c_seq ?_
              refine c_region ?_
              refine s_val hF (r_fieldAddr (off' := 0) Tryz.underlying151 rfl in3 rfl hF rfl rfl rfl) rfl rfl rfl fun a hF => ?_
              refine s_val hF (r_load1 Tryz.isAgg3 hF rfl rfl (hM.cell (i := 0) rfl (LCell.g_slot _))) rfl rfl rfl fun a hF => ?_
              refine s_val hF (r_load1 Tryz.isAgg3 hF rfl rfl (hM.cell (i := 2) rfl rfl)) rfl rfl rfl fun a hF => ?_
              refine s_val hF (r_eql hF rfl rfl rfl) rfl rfl rfl fun a hF => ?_
              refine s_val hF (r_assign hF rfl rfl) rfl rfl rfl fun a hF => ?_
              refine c_nil (n_then ?_)
              refine c_ret ?_
              have hP := Option.some.inj hP
              subst hP
              refine e_ret1 Tryz.results163 hF rfl ?_
              exact ⟨(decide (x8674.slot = x2)), rfl, rfl, selM hM [1, 2, 3] 4 rfl⟩
            obtain ⟨v8675, rfl, rfl, hM⟩ := hR
            replace hP : Sh.trace_does_c10 v8668 v8675 = _ := hK_c10
            unfold Sh.trace_does_c10 at hP
            intro a hF
            refine c_nil (n_then ?_)
            refine c_cond hF (c := .tmp 16) rfl (fun hb8676 => ?_) (fun hb8676 => ?_)
            · have hP := Fx.cT hb8676 hP
              refine c_seq ?_
              refine c_region ?_
              refine s_val hF (r_move hF rfl rfl) rfl rfl rfl fun a hF => ?_
              refine s_val hF (r_assign hF rfl rfl) rfl rfl rfl fun a hF => ?_
              refine c_nil (n_then ?_)
              refine c_ret ?_
              have hP := Option.some.inj hP
              subst hP
              have hP := hK_l9 _ rfl
              subst hP
              have hP := fin_inr hK_j8
              subst hP
              refine e_ret1 Tryz.results224 hF rfl ?_
              exact ⟨v8668, rfl, rfl, hM⟩
            have hP := Fx.cF hb8676 hP
            refine c_skip (n_block (n_then ?_))
            refine c_region ?_
            refine s_val hF (r_add hF rfl rfl rfl) rfl rfl rfl fun a hF => ?_
            refine s_val hF (r_move hF rfl rfl) rfl rfl rfl fun a hF => ?_
            refine c_nil (n_then ?_)
            have hP := Option.some.inj hP
            subst hP
            exact ⟨(IntKind.i64.wrap (v8668 + 1)), rfl, hF.to ⟨rfl, rfl, rfl, rfl, rfl, trivial⟩, hM⟩
          have hP := Fx.cF hb8670 hP
          refine c_exit (x_then (x_then (x_hit ?_)))
          refine n_then ?_
          have hP := Option.some.inj hP
          subst hP
          have hP := hK_l9 _ rfl
          subst hP
          exact ⟨(), rfl, hF.to ⟨rfl, trivial⟩, hM⟩
        rintro ⟨⟩ a w hP ⟨hF, hM⟩
        replace hP : Sh.trace_does_j8 = _ := hP
        unfold Sh.trace_does_j8 at hP
        refine n_then ?_
        refine c_seq ?_
        refine c_region ?_
        refine s_val hF (r_assign hF rfl rfl) rfl rfl rfl fun a hF => ?_
        refine c_nil (n_then ?_)
        refine c_ret ?_
        have hP := Option.some.inj hP
        subst hP
        refine e_ret1 Tryz.results224 hF rfl ?_
        exact ⟨(-1), rfl, rfl, hM⟩
      obtain ⟨v8598, rfl, rfl, hM⟩ := hR
      replace hP : Sh.trace_does_c7 v8598 = _ := hK_c7
      unfold Sh.trace_does_c7 at hP
      intro a hF
      refine s_val hF (r_geq hF rfl rfl rfl) rfl rfl rfl fun a hF => ?_
      refine s_val hF (r_assign hF rfl rfl) rfl rfl rfl fun a hF => ?_
      refine c_nil (n_then ?_)
      refine c_ret ?_
      have hP := Option.some.inj hP
      subst hP
      refine e_ret1 Tryz.results162 hF rfl ?_
      exact ⟨(decide (0 ≤ v8598)), rfl, rfl, hM⟩
    obtain ⟨v8519, rfl, rfl, hM⟩ := hR
    replace hP : Sh.trace_does_c6 v8519 = _ := hK_c6
    unfold Sh.trace_does_c6 at hP
    intro a hF
    refine s_val hF (r_assign hF rfl rfl) rfl rfl rfl fun a hF => ?_
    refine c_nil (n_then ?_)
    refine c_ret ?_
    have hP := Option.some.inj hP
    subst hP
    refine e_ret1 Tryz.results91 hF rfl ?_
    exact ⟨rfl, selM hM [] 3 rfl⟩
  have hP := Fx.cF hb8361 hP
  refine c_seq ?_
  refine c_region ?_
  refine s_val hF (r_eql hF rfl rfl rfl) rfl rfl rfl fun a hF => ?_
  refine s_val hF (r_assign hF rfl rfl) rfl rfl rfl fun a hF => ?_
  refine c_nil (n_then ?_)
  refine c_cond hF (c := .tmp 22) rfl (fun hb8677 => ?_) (fun hb8677 => ?_)
  · have hP := Fx.cT hb8677 hP
    refine c_seq ?_
    refine c_region ?_
    refine s_val hF (r_fieldAddr (off' := 5) Tryz.underlying60 rfl in58 rfl hF rfl rfl rfl) rfl rfl rfl fun a hF => ?_
    refine s_val hF (r_load1 Tryz.isAgg58 hF rfl rfl (hM.cell (i := 2) rfl (RMark.g_pieces _))) rfl rfl rfl fun a hF => ?_
    refine s_val hF (r_makeFunc hF (fs := []) (cs := [.tmp 6, .tmp 7]) rfl rfl rfl) rfl rfl rfl fun a hF => ?_
    obtain ⟨o_c11, hP, hK_c11⟩ := seq_some hP
    refine s_eff hF rfl rfl rfl (w_call (xs := [.tmp 25, .tmp 26]) Tryz.call164 hF rfl rfl (R := fun v w => ∃ x, o_c11 = .inl x ∧ match x with | v9699 => v = .bool v9699 ∧ MemL w (pt b_B91_7 [.int .i64 x3] 3 :: pt b_B91_6 [.int .i64 x2] 3 :: pt b_B91_4 (RMark.enc (RMark.mk x0.at_ x0.next x0.done s1 s3 s5 s9)) 60 :: Lr)) ?_ fun v w hR => ?_)
    · refine calls_enter Tryz.func164 rfl Tryz.ntmps164 rfl fun a hF => ?_
      refine c_seq ?_
      refine c_region ?_
      refine s_val hF (r_assign hF rfl rfl) rfl rfl rfl fun a hF => ?_
      refine c_nil (n_then ?_)
      refine c_seq ?_
      refine c_region ?_
      refine s_val hF (r_move hF rfl rfl) rfl rfl rfl fun a hF => ?_
      refine s_val hF (r_move hF rfl rfl) rfl rfl rfl fun a hF => ?_
      obtain ⟨o_c12, hP, hK_c12⟩ := seq_some hP
      refine s_eff hF rfl rfl rfl (w_call (xs := [.tmp 5, .tmp 6]) Tryz.call225 hF rfl rfl (R := fun v w => ∃ x, o_c12 = .inl x ∧ match x with | v10210 => v = .int .i64 v10210 ∧ MemL w (pt b_B91_7 [.int .i64 x3] 3 :: pt b_B91_6 [.int .i64 x2] 3 :: pt b_B91_4 (RMark.enc (RMark.mk x0.at_ x0.next x0.done s1 s3 s5 s9)) 60 :: Lr)) ?_ fun v w hR => ?_)
      · refine calls_enter Tryz.func225 rfl Tryz.ntmps225 rfl fun a hF => ?_
        refine c_seq ?_
        refine c_region ?_
        refine s_val hF (r_assign hF rfl rfl) rfl rfl rfl fun a hF => ?_
        refine c_nil (n_then ?_)
        refine c_seq ?_
        refine c_joinX hF hM hP (fun F x a w => match x with | _ => Fr 19 [(4, .int .i64 0)] a ∧ MemL w (pt b_B91_7 [.int .i64 x3] 3 :: pt b_B91_6 [.int .i64 x2] 3 :: pt b_B91_4 (RMark.enc (RMark.mk x0.at_ x0.next x0.done s1 s3 s5 s9)) 60 :: Lr)) (fun o_j13 hP hK_j13 hF hM => ?_) ?_
        · refine c_seq ?_
          refine c_region ?_
          refine s_val hF (r_move hF rfl rfl) rfl rfl rfl fun a hF => ?_
          refine s_val hF (r_lenD (f7 _ (hsub _ (dropM hM 3))) q8.len Tryz.underlying58 hF rfl rfl) rfl rfl rfl fun a hF => ?_
          refine s_val hF (r_move hF rfl rfl) rfl rfl rfl fun a hF => ?_
          refine c_nil (n_then ?_)
          refine c_block ?_
          refine c_loopX hF hM hP (fun F x a w => match x with | v10664 => Fr 19 [(8, .int .i64 v10664), (0, (s5).v), (1, .func (.func 165) [].toArray [.pointer (some ⟨b_B91_6, 0, none⟩), .pointer (some ⟨b_B91_7, 0, none⟩)].toArray), (4, .int .i64 0), (7, .int .i64 (x0.pieces.length : Int))] a ∧ MemL w (pt b_B91_7 [.int .i64 x3] 3 :: pt b_B91_6 [.int .i64 x2] 3 :: pt b_B91_4 (RMark.enc (RMark.mk x0.at_ x0.next x0.done s1 s3 s5 s9)) 60 :: Lr)) (fun hF hM => ⟨hF.to ⟨rfl, rfl, rfl, rfl, rfl, trivial⟩, hM⟩) ?_
          rintro v10664 a w o_l14 hP hK_l14 ⟨hF, hM⟩
          replace hP : Sh.trace_does_l14 x0 x2 x3 v10664 = _ := hP
          unfold Sh.trace_does_l14 at hP
          refine c_seq ?_
          refine c_region ?_
          refine s_val hF (r_lss hF rfl rfl rfl) rfl rfl rfl fun a hF => ?_
          refine c_nil (n_then ?_)
          refine c_seq ?_
          refine c_cond hF (c := .tmp 9) rfl (fun hb10666 => ?_) (fun hb10666 => ?_)
          · have hP := Fx.cT hb10666 hP
            refine c_skip (n_then ?_)
            refine c_seq ?_
            refine c_block ?_
            refine c_seq ?_
            refine c_region ?_
            refine s_val hF (r_move hF rfl rfl) rfl rfl rfl fun a hF => ?_
            refine s_val hF (r_assign hF rfl rfl) rfl rfl rfl fun a hF => ?_
            refine c_nil (n_then ?_)
            refine c_seq ?_
            refine c_region ?_
            refine s_val hF (r_move hF rfl rfl) rfl rfl rfl fun a hF => ?_
            refine s_val hF (r_move hF rfl rfl) rfl rfl rfl fun a hF => ?_
            refine s_val hF (r_move hF rfl rfl) rfl rfl rfl fun a hF => ?_
            obtain ⟨x10694, hx10694, hP⟩ := bind_some hP
            have h0x10694 := get_some hx10694
            obtain ⟨yx10694, hgx10694, hrx10694⟩ := Each.getr q8 h0x10694.2
            have hdx10694 := Each.bd q8 (get_bd hx10694)
            obtain ⟨s10695, s10697, rfl, f10696, f10698⟩ := hrx10694
            refine s_val hF (r_indexZ (sz := 4) (f7 _ (hsub _ (dropM hM 3))) Tryz.underlying58 in156 rfl hF rfl rfl rfl hdx10694) rfl rfl rfl fun a hF => ?_
            refine s_val hF (r_loadn Tryz.isAgg156 Tryz.sizeOf156 hF rfl rfl (RPiece.len _) (((f7 _ (hsub _ (dropM hM 3))).elemS hgx10694))) rfl rfl rfl fun a hF => ?_
            obtain ⟨o_c15, hP, hK_c15⟩ := seq_some hP
            refine s_eff hF rfl rfl rfl (w_callF (xs := [.tmp 15]) Tryz.call165 hF rfl rfl rfl (R := fun v w => ∃ x, o_c15 = .inl x ∧ match x with | v10709 => v = .bool v10709 ∧ MemL w (pt b_B91_7 [.int .i64 x3] 3 :: pt b_B91_6 [.int .i64 x2] 3 :: pt b_B91_4 (RMark.enc (RMark.mk x0.at_ x0.next x0.done s1 s3 s5 s9)) 60 :: Lr)) ?_ fun v w hR => ?_)
            · refine calls_enter Tryz.func165 rfl Tryz.ntmps165 rfl fun a hF => ?_
              refine c_seq ?_
              refine c_region ?_
              refine s_eff hF rfl rfl rfl (w_box hF rfl rfl rfl fun b_B165_3 w hzB165_3 hAB165_3 => ?_)
              have hM := hM.plus hAB165_3
              replace hM : MemL _ (pt b_B165_3 (RPiece.enc (RPiece.mk x10694.table x10694.from_ s10695 s10697)) 156 :: pt b_B91_7 [.int .i64 x3] 3 :: pt b_B91_6 [.int .i64 x2] 3 :: pt b_B91_4 (RMark.enc (RMark.mk x0.at_ x0.next x0.done s1 s3 s5 s9)) 60 :: Lr) := hM
              intro a hF
              refine s_val hF (r_assign hF rfl rfl) rfl rfl rfl fun a hF => ?_
              refine c_nil (n_then ?_)
              refine c_seq ?_
              refine c_region ?_
              refine s_val hF (r_load1 Tryz.isAgg3 hF rfl rfl (hM.cell (i := 2) rfl rfl)) rfl rfl rfl fun a hF => ?_
              refine s_val hF (r_fieldAddr (off' := 1) Tryz.underlying156 rfl in3 rfl hF rfl rfl rfl) rfl rfl rfl fun a hF => ?_
              refine s_val hF (r_load1 Tryz.isAgg3 hF rfl rfl (hM.cell (i := 0) rfl (RPiece.g_from_ _))) rfl rfl rfl fun a hF => ?_
              refine s_val hF (r_sub hF rfl rfl rfl) rfl rfl rfl fun a hF => ?_
              refine s_val hF (r_assign hF rfl rfl) rfl rfl rfl fun a hF => ?_
              refine c_nil (n_then ?_)
              refine c_seq ?_
              refine c_joinX hF hM hP (fun F x a w => match x with | v10716 => Fr 35 [(4, .bool v10716)] a ∧ MemL w (pt b_B91_7 [.int .i64 x3] 3 :: pt b_B91_6 [.int .i64 x2] 3 :: pt b_B91_4 (RMark.enc (RMark.mk x0.at_ x0.next x0.done s1 s3 s5 s9)) 60 :: Lr)) (fun o_j16 hP hK_j16 hF hM => ?_) ?_
              · refine c_region ?_
                refine s_val hF (r_fieldAddr (off' := 0) Tryz.underlying156 rfl in3 rfl hF rfl rfl rfl) rfl rfl rfl fun a hF => ?_
                refine s_val hF (r_load1 Tryz.isAgg3 hF rfl rfl (hM.cell (i := 0) rfl (RPiece.g_table _))) rfl rfl rfl fun a hF => ?_
                refine s_val hF (r_load1 Tryz.isAgg3 hF rfl rfl (hM.cell (i := 1) rfl rfl)) rfl rfl rfl fun a hF => ?_
                refine s_val hF (r_eql hF rfl rfl rfl) rfl rfl rfl fun a hF => ?_
                refine s_val hF (r_move hF rfl rfl) rfl rfl rfl fun a hF => ?_
                refine g_split 14 hF rfl (fun hb10717 => ?_) (fun hb10717 => ?_)
                · have hP := Fx.cT hb10717 hP
                  refine g_val hF rfl rfl rfl hb10717 (r_load1 Tryz.isAgg3 hF rfl rfl (hM.cell (i := 2) rfl rfl)) rfl rfl fun a hF => ?_
                  refine g_val hF rfl rfl rfl hb10717 (r_fieldAddr (off' := 1) Tryz.underlying156 rfl in3 rfl hF rfl rfl rfl) rfl rfl fun a hF => ?_
                  refine g_val hF rfl rfl rfl hb10717 (r_load1 Tryz.isAgg3 hF rfl rfl (hM.cell (i := 0) rfl (RPiece.g_from_ _))) rfl rfl fun a hF => ?_
                  refine g_val hF rfl rfl rfl hb10717 (r_geq hF rfl rfl rfl) rfl rfl fun a hF => ?_
                  refine s_val hF (r_pick1 hF rfl rfl hb10717 rfl) rfl rfl rfl fun a hF => ?_
                  refine s_val hF (r_move hF rfl rfl) rfl rfl rfl fun a hF => ?_
                  refine g_split 20 hF rfl (fun hb10718 => ?_) (fun hb10718 => ?_)
                  · have hP := Fx.cT hb10718 hP
                    refine g_val hF rfl rfl rfl hb10718 (r_move hF rfl rfl) rfl rfl fun a hF => ?_
                    refine g_val hF rfl rfl rfl hb10718 (r_geq hF rfl rfl rfl) rfl rfl fun a hF => ?_
                    refine s_val hF (r_pick1 hF rfl rfl hb10718 rfl) rfl rfl rfl fun a hF => ?_
                    refine s_val hF (r_move hF rfl rfl) rfl rfl rfl fun a hF => ?_
                    refine g_split 24 hF rfl (fun hb10719 => ?_) (fun hb10719 => ?_)
                    · have hP := Fx.cT hb10719 hP
                      refine g_val hF rfl rfl rfl hb10719 (r_move hF rfl rfl) rfl rfl fun a hF => ?_
                      refine g_val hF rfl rfl rfl hb10719 (r_fieldAddr (off' := 2) Tryz.underlying156 rfl in23 rfl hF rfl rfl rfl) rfl rfl fun a hF => ?_
                      refine g_val hF rfl rfl rfl hb10719 (r_load1 Tryz.isAgg23 hF rfl rfl (hM.cell (i := 0) rfl (RPiece.g_old _))) rfl rfl fun a hF => ?_
                      refine g_val hF rfl rfl rfl hb10719 (r_lenL (f10696 _ (hsub _ (dropM hM 4))) Tryz.underlying23 hF rfl rfl) rfl rfl fun a hF => ?_
                      refine g_val hF rfl rfl rfl hb10719 (r_fieldAddr (off' := 3) Tryz.underlying156 rfl in23 rfl hF rfl rfl rfl) rfl rfl fun a hF => ?_
                      refine g_val hF rfl rfl rfl hb10719 (r_load1 Tryz.isAgg23 hF rfl rfl (hM.cell (i := 0) rfl (RPiece.g_new _))) rfl rfl fun a hF => ?_
                      refine g_val hF rfl rfl rfl hb10719 (r_lenL (f10698 _ (hsub _ (dropM hM 4))) Tryz.underlying23 hF rfl rfl) rfl rfl fun a hF => ?_
                      refine g_val hF rfl rfl rfl hb10719 (r_max hF rfl rfl rfl) rfl rfl fun a hF => ?_
                      refine g_val hF rfl rfl rfl hb10719 (r_lss hF rfl rfl rfl) rfl rfl fun a hF => ?_
                      refine s_val hF (r_pick1 hF rfl rfl hb10719 rfl) rfl rfl rfl fun a hF => ?_
                      refine s_val hF (r_assign hF rfl rfl) rfl rfl rfl fun a hF => ?_
                      refine c_nil (n_then ?_)
                      have hP := Option.some.inj hP
                      subst hP
                      exact ⟨(decide ((IntKind.i64.wrap (x2 - x10694.from_)) < (if (x10694.old.length : Int) < (x10694.new.length : Int) then (x10694.new.length : Int) else (x10694.old.length : Int)))), rfl, hF.to ⟨rfl, trivial⟩, selM hM [1, 2, 3] 4 rfl⟩
                    have hP := Fx.cF hb10719 hP
                    refine g_skip hF rfl rfl rfl hb10719 rfl rfl fun a hF => ?_
                    refine g_skip hF rfl rfl rfl hb10719 rfl rfl fun a hF => ?_
                    refine g_skip hF rfl rfl rfl hb10719 rfl rfl fun a hF => ?_
                    refine g_skip hF rfl rfl rfl hb10719 rfl rfl fun a hF => ?_
                    refine g_skip hF rfl rfl rfl hb10719 rfl rfl fun a hF => ?_
                    refine g_skip hF rfl rfl rfl hb10719 rfl rfl fun a hF => ?_
                    refine g_skip hF rfl rfl rfl hb10719 rfl rfl fun a hF => ?_
                    refine g_skip hF rfl rfl rfl hb10719 rfl rfl fun a hF => ?_
                    refine g_skip hF rfl rfl rfl hb10719 rfl rfl fun a hF => ?_
                    refine s_val hF (r_pick0 hF rfl rfl hb10719 rfl) rfl rfl rfl fun a hF => ?_
                    refine s_val hF (r_assign hF rfl rfl) rfl rfl rfl fun a hF => ?_
                    refine c_nil (n_then ?_)
                    have hP := Option.some.inj hP
                    subst hP
                    exact ⟨false, rfl, hF.to ⟨rfl, trivial⟩, selM hM [1, 2, 3] 4 rfl⟩
                  have hP := Fx.cF hb10718 hP
                  refine g_skip hF rfl rfl rfl hb10718 rfl rfl fun a hF => ?_
                  refine g_skip hF rfl rfl rfl hb10718 rfl rfl fun a hF => ?_
                  refine s_val hF (r_pick0 hF rfl rfl hb10718 rfl) rfl rfl rfl fun a hF => ?_
                  refine s_val hF (r_move hF rfl rfl) rfl rfl rfl fun a hF => ?_
                  refine g_skip hF rfl rfl rfl rfl rfl rfl fun a hF => ?_
                  refine g_skip hF rfl rfl rfl rfl rfl rfl fun a hF => ?_
                  refine g_skip hF rfl rfl rfl rfl rfl rfl fun a hF => ?_
                  refine g_skip hF rfl rfl rfl rfl rfl rfl fun a hF => ?_
                  refine g_skip hF rfl rfl rfl rfl rfl rfl fun a hF => ?_
                  refine g_skip hF rfl rfl rfl rfl rfl rfl fun a hF => ?_
                  refine g_skip hF rfl rfl rfl rfl rfl rfl fun a hF => ?_
                  refine g_skip hF rfl rfl rfl rfl rfl rfl fun a hF => ?_
                  refine g_skip hF rfl rfl rfl rfl rfl rfl fun a hF => ?_
                  refine s_val hF (r_pick0 hF rfl rfl rfl rfl) rfl rfl rfl fun a hF => ?_
                  refine s_val hF (r_assign hF rfl rfl) rfl rfl rfl fun a hF => ?_
                  refine c_nil (n_then ?_)
                  have hP := Option.some.inj hP
                  subst hP
                  exact ⟨false, rfl, hF.to ⟨rfl, trivial⟩, selM hM [1, 2, 3] 4 rfl⟩
                have hP := Fx.cF hb10717 hP
                refine g_skip hF rfl rfl rfl hb10717 rfl rfl fun a hF => ?_
                refine g_skip hF rfl rfl rfl hb10717 rfl rfl fun a hF => ?_
                refine g_skip hF rfl rfl rfl hb10717 rfl rfl fun a hF => ?_
                refine g_skip hF rfl rfl rfl hb10717 rfl rfl fun a hF => ?_
                refine s_val hF (r_pick0 hF rfl rfl hb10717 rfl) rfl rfl rfl fun a hF => ?_
                refine s_val hF (r_move hF rfl rfl) rfl rfl rfl fun a hF => ?_
                refine g_skip hF rfl rfl rfl rfl rfl rfl fun a hF => ?_
                refine g_skip hF rfl rfl rfl rfl rfl rfl fun a hF => ?_
                refine s_val hF (r_pick0 hF rfl rfl rfl rfl) rfl rfl rfl fun a hF => ?_
                refine s_val hF (r_move hF rfl rfl) rfl rfl rfl fun a hF => ?_
                refine g_skip hF rfl rfl rfl rfl rfl rfl fun a hF => ?_
                refine g_skip hF rfl rfl rfl rfl rfl rfl fun a hF => ?_
                refine g_skip hF rfl rfl rfl rfl rfl rfl fun a hF => ?_
                refine g_skip hF rfl rfl rfl rfl rfl rfl fun a hF => ?_
                refine g_skip hF rfl rfl rfl rfl rfl rfl fun a hF => ?_
                refine g_skip hF rfl rfl rfl rfl rfl rfl fun a hF => ?_
                refine g_skip hF rfl rfl rfl rfl rfl rfl fun a hF => ?_
                refine g_skip hF rfl rfl rfl rfl rfl rfl fun a hF => ?_
                refine g_skip hF rfl rfl rfl rfl rfl rfl fun a hF => ?_
                refine s_val hF (r_pick0 hF rfl rfl rfl rfl) rfl rfl rfl fun a hF => ?_
                refine s_val hF (r_assign hF rfl rfl) rfl rfl rfl fun a hF => ?_
                refine c_nil (n_then ?_)
                have hP := Option.some.inj hP
                subst hP
                exact ⟨false, rfl, hF.to ⟨rfl, trivial⟩, selM hM [1, 2, 3] 4 rfl⟩
              rintro v10716 a w hP ⟨hF, hM⟩
              replace hP : Sh.trace_does_j16 v10716 = _ := hP
              unfold Sh.trace_does_j16 at hP
              refine n_then ?_
              refine c_ret ?_
              have hP := Option.some.inj hP
              subst hP
              refine e_ret1 Tryz.results165 hF rfl ?_
              exact ⟨v10716, rfl, rfl, hM⟩
            obtain ⟨v10709, rfl, rfl, hM⟩ := hR
            replace hP : Sh.trace_does_c15 v10664 v10709 = _ := hK_c15
            unfold Sh.trace_does_c15 at hP
            intro a hF
            refine c_nil (n_then ?_)
            refine c_cond hF (c := .tmp 16) rfl (fun hb10720 => ?_) (fun hb10720 => ?_)
            · have hP := Fx.cT hb10720 hP
              refine c_seq ?_
              refine c_region ?_
              refine s_val hF (r_move hF rfl rfl) rfl rfl rfl fun a hF => ?_
              refine s_val hF (r_assign hF rfl rfl) rfl rfl rfl fun a hF => ?_
              refine c_nil (n_then ?_)
              refine c_ret ?_
              have hP := Option.some.inj hP
              subst hP
              have hP := hK_l14 _ rfl
              subst hP
              have hP := fin_inr hK_j13
              subst hP
              refine e_ret1 Tryz.results225 hF rfl ?_
              exact ⟨v10664, rfl, rfl, hM⟩
            have hP := Fx.cF hb10720 hP
            refine c_skip (n_block (n_then ?_))
            refine c_region ?_
            refine s_val hF (r_add hF rfl rfl rfl) rfl rfl rfl fun a hF => ?_
            refine s_val hF (r_move hF rfl rfl) rfl rfl rfl fun a hF => ?_
            refine c_nil (n_then ?_)
            have hP := Option.some.inj hP
            subst hP
            exact ⟨(IntKind.i64.wrap (v10664 + 1)), rfl, hF.to ⟨rfl, rfl, rfl, rfl, rfl, trivial⟩, hM⟩
          have hP := Fx.cF hb10666 hP
          refine c_exit (x_then (x_then (x_hit ?_)))
          refine n_then ?_
          have hP := Option.some.inj hP
          subst hP
          have hP := hK_l14 _ rfl
          subst hP
          exact ⟨(), rfl, hF.to ⟨rfl, trivial⟩, hM⟩
        rintro ⟨⟩ a w hP ⟨hF, hM⟩
        replace hP : Sh.trace_does_j13 = _ := hP
        unfold Sh.trace_does_j13 at hP
        refine n_then ?_
        refine c_seq ?_
        refine c_region ?_
        refine s_val hF (r_assign hF rfl rfl) rfl rfl rfl fun a hF => ?_
        refine c_nil (n_then ?_)
        refine c_ret ?_
        have hP := Option.some.inj hP
        subst hP
        refine e_ret1 Tryz.results225 hF rfl ?_
        exact ⟨(-1), rfl, rfl, hM⟩
      obtain ⟨v10210, rfl, rfl, hM⟩ := hR
      replace hP : Sh.trace_does_c12 v10210 = _ := hK_c12
      unfold Sh.trace_does_c12 at hP
      intro a hF
      refine s_val hF (r_geq hF rfl rfl rfl) rfl rfl rfl fun a hF => ?_
      refine s_val hF (r_assign hF rfl rfl) rfl rfl rfl fun a hF => ?_
      refine c_nil (n_then ?_)
      refine c_ret ?_
      have hP := Option.some.inj hP
      subst hP
      refine e_ret1 Tryz.results164 hF rfl ?_
      exact ⟨(decide (0 ≤ v10210)), rfl, rfl, hM⟩
    obtain ⟨v9699, rfl, rfl, hM⟩ := hR
    replace hP : Sh.trace_does_c11 v9699 = _ := hK_c11
    unfold Sh.trace_does_c11 at hP
    intro a hF
    refine s_val hF (r_assign hF rfl rfl) rfl rfl rfl fun a hF => ?_
    refine c_nil (n_then ?_)
    refine c_ret ?_
    have hP := Option.some.inj hP
    subst hP
    refine e_ret1 Tryz.results91 hF rfl ?_
    exact ⟨rfl, selM hM [] 3 rfl⟩
  have hP := Fx.cF hb8677 hP
  refine c_seq ?_
  refine c_region ?_
  refine s_val hF (r_eql hF rfl rfl rfl) rfl rfl rfl fun a hF => ?_
  refine s_val hF (r_assign hF rfl rfl) rfl rfl rfl fun a hF => ?_
  refine c_nil (n_then ?_)
  refine c_cond hF (c := .tmp 28) rfl (fun hb10721 => ?_) (fun hb10721 => ?_)
  · have hP := Fx.cT hb10721 hP
    refine c_seq ?_
    refine c_region ?_
    refine s_val hF (r_fieldAddr (off' := 0) Tryz.underlying60 rfl in3 rfl hF rfl rfl rfl) rfl rfl rfl fun a hF => ?_
    refine s_val hF (r_load1 Tryz.isAgg3 hF rfl rfl (hM.cell (i := 2) rfl (RMark.g_at_ _))) rfl rfl rfl fun a hF => ?_
    refine s_val hF (r_load1 Tryz.isAgg3 hF rfl rfl (hM.cell (i := 1) rfl rfl)) rfl rfl rfl fun a hF => ?_
    refine s_val hF (r_eql hF rfl rfl rfl) rfl rfl rfl fun a hF => ?_
    refine s_val hF (r_assign hF rfl rfl) rfl rfl rfl fun a hF => ?_
    refine c_nil (n_then ?_)
    refine c_ret ?_
    have hP := Option.some.inj hP
    subst hP
    refine e_ret1 Tryz.results91 hF rfl ?_
    exact ⟨rfl, selM hM [] 3 rfl⟩
  have hP := Fx.cF hb10721 hP
  refine c_seq ?_
  refine c_region ?_
  refine s_val hF (r_eql hF rfl rfl rfl) rfl rfl rfl fun a hF => ?_
  refine s_val hF (r_assign hF rfl rfl) rfl rfl rfl fun a hF => ?_
  refine c_nil (n_then ?_)
  refine c_cond hF (c := .tmp 34) rfl (fun hb10722 => ?_) (fun hb10722 => ?_)
  · have hP := Fx.cT hb10722 hP
    refine c_seq ?_
    refine c_region ?_
    refine s_val hF (r_fieldAddr (off' := 6) Tryz.underlying60 rfl in52 rfl hF rfl rfl rfl) rfl rfl rfl fun a hF => ?_
    refine s_val hF (r_load1 Tryz.isAgg52 hF rfl rfl (hM.cell (i := 2) rfl (RMark.g_sent _))) rfl rfl rfl fun a hF => ?_
    refine s_val hF (r_lenL (f10 _ (hsub _ (dropM hM 3))) Tryz.underlying52 hF rfl rfl) rfl rfl rfl fun a hF => ?_
    refine s_val hF (r_gtr hF rfl rfl rfl) rfl rfl rfl fun a hF => ?_
    refine s_val hF (r_assign hF rfl rfl) rfl rfl rfl fun a hF => ?_
    refine c_nil (n_then ?_)
    refine c_ret ?_
    have hP := Option.some.inj hP
    subst hP
    refine e_ret1 Tryz.results91 hF rfl ?_
    exact ⟨rfl, selM hM [] 3 rfl⟩
  have hP := Fx.cF hb10722 hP
  refine c_skip (n_block (n_then ?_))
  refine c_seq ?_
  refine c_region ?_
  refine s_val hF (r_assign hF rfl rfl) rfl rfl rfl fun a hF => ?_
  refine c_nil (n_then ?_)
  refine c_ret ?_
  have hP := Option.some.inj hP
  subst hP
  refine e_ret1 Tryz.results91 hF rfl ?_
  exact ⟨rfl, selM hM [] 3 rfl⟩
end Go.Proofs
end
section
namespace Go.Proofs
open Go.Fw Go.Fx
set_option maxRecDepth 10000
set_option linter.unusedVariables false
set_option linter.unusedSimpArgs false
set_option maxHeartbeats 4000000 in
theorem law00_SameBytes_calls {x0 : List UInt8} {x1 : List UInt8} {s1 : SV} {s3 : SV} {out : Bool} {w0 : World} {Bf : World → Prop} {Lr : List Res} (hP : Sh.law00_SameBytes x0 x1 = some out) (hM : MemL w0 (Lr)) (hsub : ∀ w, MemL w Lr → Bf w) (f2 : LIn Bf s1 x0) (f4 : LIn Bf s3 x1) : Calls Tryz.prog 43 #[(s1).v, (s3).v] w0 (Ret fun v w' => v = .bool out ∧ MemL w' (Lr)) := by
  unfold Sh.law00_SameBytes at hP
  refine calls_enter (vs := [(s1).v, (s3).v]) Tryz.func43 rfl Tryz.ntmps43 rfl fun a hF => ?_
  refine c_seq ?_
  refine c_region ?_
  refine s_val hF (r_assign hF rfl rfl) rfl rfl rfl fun a hF => ?_
  refine c_nil (n_then ?_)
  refine c_seq ?_
  refine c_region ?_
  refine s_val hF (r_move hF rfl rfl) rfl rfl rfl fun a hF => ?_
  refine s_val hF (r_convStr0 (f2 _ (hsub _ (dropM hM 0))) Tryz.underlying23 Tryz.underlying5 Tryz.underlying9 hF rfl rfl) rfl rfl rfl fun a hF => ?_
  refine s_val hF (r_move hF rfl rfl) rfl rfl rfl fun a hF => ?_
  refine s_val hF (r_convStr0 (f4 _ (hsub _ (dropM hM 0))) Tryz.underlying23 Tryz.underlying5 Tryz.underlying9 hF rfl rfl) rfl rfl rfl fun a hF => ?_
  refine s_val hF (r_eqlStr (i := x0) (j := x1) hF rfl rfl rfl) rfl rfl rfl fun a hF => ?_
  refine s_val hF (r_assign hF rfl rfl) rfl rfl rfl fun a hF => ?_
  refine c_nil (n_then ?_)
  refine c_ret ?_
  have hP := Option.some.inj hP
  subst hP
  refine e_ret1 Tryz.results43 hF rfl ?_
  exact ⟨rfl, hM⟩
set_option maxHeartbeats 4000000 in
theorem law00_SameInts_calls {x0 : List Int} {x1 : List Int} {s1 : SV} {s3 : SV} {out : Bool} {w0 : World} {Bf : World → Prop} {Lr : List Res} (hP : Sh.law00_SameInts x0 x1 = some out) (hM : MemL w0 (Lr)) (hsub : ∀ w, MemL w Lr → Bf w) (f2 : LIn Bf s1 x0) (f4 : LIn Bf s3 x1) : Calls Tryz.prog 89 #[(s1).v, (s3).v] w0 (Ret fun v w' => v = .bool out ∧ MemL w' (Lr)) := by
  unfold Sh.law00_SameInts at hP
  refine calls_enter (vs := [(s1).v, (s3).v]) Tryz.func89 rfl Tryz.ntmps89 rfl fun a hF => ?_
  refine c_seq ?_
  refine c_region ?_
  refine s_val hF (r_assign hF rfl rfl) rfl rfl rfl fun a hF => ?_
  refine c_nil (n_then ?_)
  refine c_seq ?_
  refine c_seq ?_
  refine c_region ?_
  refine s_val hF (r_move hF rfl rfl) rfl rfl rfl fun a hF => ?_
  refine s_val hF (r_lenL (f2 _ (hsub _ (dropM hM 0))) Tryz.underlying52 hF rfl rfl) rfl rfl rfl fun a hF => ?_
  refine s_val hF (r_move hF rfl rfl) rfl rfl rfl fun a hF => ?_
  refine s_val hF (r_lenL (f4 _ (hsub _ (dropM hM 0))) Tryz.underlying52 hF rfl rfl) rfl rfl rfl fun a hF => ?_
  refine s_val hF (r_neq hF rfl rfl rfl) rfl rfl rfl fun a hF => ?_
  refine c_nil (n_then ?_)
  refine c_cond hF (c := .tmp 10) rfl (fun hb122 => ?_) (fun hb122 => ?_)
  · have hP := Fx.cT hb122 hP
    refine c_seq ?_
    refine c_region ?_
    refine s_val hF (r_assign hF rfl rfl) rfl rfl rfl fun a hF => ?_
    refine c_nil (n_then ?_)
    refine c_ret ?_
    have hP := Option.some.inj hP
    subst hP
    refine e_ret1 Tryz.results89 hF rfl ?_
    exact ⟨rfl, hM⟩
  have hP := Fx.cF hb122 hP
  refine c_skip (n_then ?_)
  refine c_seq ?_
  refine c_joinX hF hM hP (fun F x a w => match x with | _ => Fr 26 [(4, .bool false)] a ∧ MemL w (Lr)) (fun o_j1 hP hK_j1 hF hM => ?_) ?_
  · refine c_seq ?_
    refine c_region ?_
    refine s_val hF (r_assign hF rfl rfl) rfl rfl rfl fun a hF => ?_
    refine c_nil (n_then ?_)
    refine c_block ?_
    refine c_loopX hF hM hP (fun F x a w => match x with | v224 => Fr 26 [(5, .int .i64 v224), (0, (s1).v), (1, (s3).v), (4, .bool false)] a ∧ MemL w (Lr)) (fun hF hM => ⟨hF.to ⟨rfl, rfl, rfl, rfl, trivial⟩, hM⟩) ?_
    rintro v224 a w o_l2 hP hK_l2 ⟨hF, hM⟩
    replace hP : Sh.law00_SameInts_l2 x0 x1 v224 = _ := hP
    unfold Sh.law00_SameInts_l2 at hP
    refine c_seq ?_
    refine c_seq ?_
    refine c_region ?_
    refine s_val hF (r_move hF rfl rfl) rfl rfl rfl fun a hF => ?_
    refine s_val hF (r_move hF rfl rfl) rfl rfl rfl fun a hF => ?_
    refine s_val hF (r_lenL (f2 _ (hsub _ (dropM hM 0))) Tryz.underlying52 hF rfl rfl) rfl rfl rfl fun a hF => ?_
    refine s_val hF (r_lss hF rfl rfl rfl) rfl rfl rfl fun a hF => ?_
    refine c_nil (n_then ?_)
    refine c_cond hF (c := .tmp 14) rfl (fun hb226 => ?_) (fun hb226 => ?_)
    · have hP := Fx.cT hb226 hP
      refine c_skip (n_then ?_)
      refine c_seq ?_
      refine c_block ?_
      refine c_seq ?_
      refine d_startT mixed (by kernel_rfl) hM [] 0 rfl fun hch => ?_
      refine d_val hF hch 0 rfl (by kernel_rfl) rfl rfl rfl (fun w hM => (r_move hF rfl rfl)) fun a hF => ?_
      refine d_val hF hch 1 rfl (by kernel_rfl) rfl rfl rfl (fun w hM => (r_move hF rfl rfl)) fun a hF => ?_
      obtain ⟨x234, hx234, hP⟩ := bind_some hP
      have h0x234 := get_some hx234
      refine d_val hF hch 2 rfl (by kernel_rfl) rfl rfl rfl (fun w hM => (r_indexZ (sz := 1) (f2 _ (hsub _ (dropM hM 0))) Tryz.underlying52 in3 rfl hF rfl rfl rfl (get_bd hx234))) fun a hF => ?_
      refine d_val hF hch 3 rfl (by kernel_rfl) rfl rfl rfl (fun w hM => (r_load1 Tryz.isAgg3 hF rfl rfl ((((f2 _ (hsub _ (dropM hM 0))).elemS h0x234.2)).get 0 rfl))) fun a hF => ?_
      refine d_val hF hch 4 rfl (by kernel_rfl) rfl rfl rfl (fun w hM => (r_move hF rfl rfl)) fun a hF => ?_
      refine d_val hF hch 5 rfl (by kernel_rfl) rfl rfl rfl (fun w hM => (r_move hF rfl rfl)) fun a hF => ?_
      obtain ⟨x235, hx235, hP⟩ := bind_some hP
      have h0x235 := get_some hx235
      refine d_val hF hch 6 rfl (by kernel_rfl) rfl rfl rfl (fun w hM => (r_indexZ (sz := 1) (f4 _ (hsub _ (dropM hM 0))) Tryz.underlying52 in3 rfl hF rfl rfl rfl (get_bd hx235))) fun a hF => ?_
      refine d_val hF hch 7 rfl (by kernel_rfl) rfl rfl rfl (fun w hM => (r_load1 Tryz.isAgg3 hF rfl rfl ((((f4 _ (hsub _ (dropM hM 0))).elemS h0x235.2)).get 0 rfl))) fun a hF => ?_
      refine d_val hF hch 8 rfl (by kernel_rfl) rfl rfl rfl (fun w hM => (r_neq hF rfl rfl rfl)) fun a hF => ?_
      refine d_end hch (by kernel_rfl) fun w hM => ?_
      refine n_then ?_
      refine c_cond hF (c := .tmp 25) rfl (fun hb236 => ?_) (fun hb236 => ?_)
      · have hP := Fx.cT hb236 hP
        refine c_seq ?_
        refine c_region ?_
        refine s_val hF (r_assign hF rfl rfl) rfl rfl rfl fun a hF => ?_
        refine c_nil (n_then ?_)
        refine c_ret ?_
        have hP := Option.some.inj hP
        subst hP
        have hP := hK_l2 _ rfl
        subst hP
        have hP := fin_inr hK_j1
        subst hP
        refine e_ret1 Tryz.results89 hF rfl ?_
        exact ⟨rfl, hM⟩
      have hP := Fx.cF hb236 hP
      refine c_skip (n_block (n_then ?_))
      refine c_region ?_
      refine s_val hF (r_move hF rfl rfl) rfl rfl rfl fun a hF => ?_
      refine s_val hF (r_add hF rfl rfl rfl) rfl rfl rfl fun a hF => ?_
      refine s_val hF (r_assign hF rfl rfl) rfl rfl rfl fun a hF => ?_
      refine c_nil (n_then ?_)
      have hP := Option.some.inj hP
      subst hP
      exact ⟨(IntKind.i64.wrap (v224 + 1)), rfl, hF.to ⟨rfl, rfl, rfl, rfl, trivial⟩, hM⟩
    have hP := Fx.cF hb226 hP
    refine c_exit (x_then (x_then (x_hit ?_)))
    refine n_then ?_
    have hP := Option.some.inj hP
    subst hP
    have hP := hK_l2 _ rfl
    subst hP
    exact ⟨(), rfl, hF.to ⟨rfl, trivial⟩, hM⟩
  rintro ⟨⟩ a w hP ⟨hF, hM⟩
  replace hP : Sh.law00_SameInts_j1 = _ := hP
  unfold Sh.law00_SameInts_j1 at hP
  refine n_then ?_
  refine c_seq ?_
  refine c_region ?_
  refine s_val hF (r_assign hF rfl rfl) rfl rfl rfl fun a hF => ?_
  refine c_nil (n_then ?_)
  refine c_ret ?_
  have hP := Option.some.inj hP
  subst hP
  refine e_ret1 Tryz.results89 hF rfl ?_
  exact ⟨rfl, hM⟩
set_option maxHeartbeats 4000000 in
theorem law00_CopyBytes_calls {x0 : List UInt8} {s1 : SV} {out : List UInt8} {w0 : World} {Bf : World → Prop} {Lr : List Res} (hP : Sh.law00_CopyBytes x0 = some out) (hM : MemL w0 (Lr)) (hsub : ∀ w, MemL w Lr → Bf w) (f2 : LIn Bf s1 x0) : Calls Tryz.prog 50 #[(s1).v] w0 (Ret fun v w' => ∃ (s6 : SV), v = (s6).v ∧ MemL w' (rowL 0 s6 5 out :: Lr)) := by
  unfold Sh.law00_CopyBytes at hP
  refine calls_enter (vs := [(s1).v]) Tryz.func50 rfl Tryz.ntmps50 rfl fun a hF => ?_
  refine c_seq ?_
  refine c_region ?_
  refine s_val hF (r_assign hF rfl rfl) rfl rfl rfl fun a hF => ?_
  refine c_nil (n_then ?_)
  refine c_seq ?_
  refine c_region ?_
  refine s_val hF (r_move hF rfl rfl) rfl rfl rfl fun a hF => ?_
  have hM := hM.rowNil (X := UInt8) 0 5
  obtain ⟨x10, hx10, hP⟩ := bind_some hP
  refine s_eff hF rfl rfl rfl (w_appX (X := UInt8) hx10 Tryz.underlying23 in5 rfl rfl rfl rfl hF rfl rfl rfl (hM.own (X := UInt8) (i := 0) rfl) (f2 _ (hsub _ (dropM hM 1))) fun s8 w hUs8 => ?_)
  have hM := hM.chg hUs8 (i := 0) rfl
  replace hM : MemL _ (rowL 0 s8 5 x10 :: Lr) := hM
  intro a hF
  refine s_val hF (r_assign hF rfl rfl) rfl rfl rfl fun a hF => ?_
  refine c_nil (n_then ?_)
  refine c_ret ?_
  have hP := Option.some.inj hP
  subst hP
  refine e_ret1 Tryz.results50 hF rfl ?_
  exact ⟨s8, rfl, hM⟩
set_option maxHeartbeats 4000000 in
theorem law00_CopyInts_calls {x0 : List Int} {s1 : SV} {out : List Int} {w0 : World} {Bf : World → Prop} {Lr : List Res} (hP : Sh.law00_CopyInts x0 = some out) (hM : MemL w0 (Lr)) (hsub : ∀ w, MemL w Lr → Bf w) (f2 : LIn Bf s1 x0) : Calls Tryz.prog 81 #[(s1).v] w0 (Ret fun v w' => ∃ (s6 : SV), v = (s6).v ∧ MemL w' (rowL 0 s6 3 out :: Lr)) := by
  unfold Sh.law00_CopyInts at hP
  refine calls_enter (vs := [(s1).v]) Tryz.func81 rfl Tryz.ntmps81 rfl fun a hF => ?_
  refine c_seq ?_
  refine c_region ?_
  refine s_val hF (r_assign hF rfl rfl) rfl rfl rfl fun a hF => ?_
  refine c_nil (n_then ?_)
  refine c_seq ?_
  refine c_region ?_
  refine s_val hF (r_move hF rfl rfl) rfl rfl rfl fun a hF => ?_
  have hM := hM.rowNil (X := Int) 0 3
  obtain ⟨x10, hx10, hP⟩ := bind_some hP
  refine s_eff hF rfl rfl rfl (w_appX (X := Int) hx10 Tryz.underlying52 in3 rfl rfl rfl rfl hF rfl rfl rfl (hM.own (X := Int) (i := 0) rfl) (f2 _ (hsub _ (dropM hM 1))) fun s8 w hUs8 => ?_)
  have hM := hM.chg hUs8 (i := 0) rfl
  replace hM : MemL _ (rowL 0 s8 3 x10 :: Lr) := hM
  intro a hF
  refine s_val hF (r_assign hF rfl rfl) rfl rfl rfl fun a hF => ?_
  refine c_nil (n_then ?_)
  refine c_ret ?_
  have hP := Option.some.inj hP
  subst hP
  refine e_ret1 Tryz.results81 hF rfl ?_
  exact ⟨s8, rfl, hM⟩
set_option maxHeartbeats 4000000 in
theorem law00_SameRows_calls {x0 : List (List UInt8)} {x1 : List (List UInt8)} {s1 : SV} {hs2 : List SV} {s5 : SV} {hs6 : List SV} {out : Bool} {w0 : World} {Bf : World → Prop} {Lr : List Res} (hP : Sh.law00_SameRows x0 x1 = some out) (hM : MemL w0 (Lr)) (hsub : ∀ w, MemL w Lr → Bf w) (f3 : LIn Bf s1 hs2) (q4 : Each (LIn (X := UInt8) Bf) hs2 x0) (f7 : LIn Bf s5 hs6) (q8 : Each (LIn (X := UInt8) Bf) hs6 x1) : Calls Tryz.prog 64 #[(s1).v, (s5).v] w0 (Ret fun v w' => v = .bool out ∧ MemL w' (Lr)) := by
  unfold Sh.law00_SameRows at hP
  refine calls_enter (vs := [(s1).v, (s5).v]) Tryz.func64 rfl Tryz.ntmps64 rfl fun a hF => ?_
  refine c_seq ?_
  refine c_region ?_
  refine s_val hF (r_assign hF rfl rfl) rfl rfl rfl fun a hF => ?_
  refine c_nil (n_then ?_)
  refine c_seq ?_
  refine c_seq ?_
  refine c_region ?_
  refine s_val hF (r_move hF rfl rfl) rfl rfl rfl fun a hF => ?_
  refine s_val hF (r_lenD (f3 _ (hsub _ (dropM hM 0))) q4.len Tryz.underlying28 hF rfl rfl) rfl rfl rfl fun a hF => ?_
  refine s_val hF (r_move hF rfl rfl) rfl rfl rfl fun a hF => ?_
  refine s_val hF (r_lenD (f7 _ (hsub _ (dropM hM 0))) q8.len Tryz.underlying28 hF rfl rfl) rfl rfl rfl fun a hF => ?_
  refine s_val hF (r_neq hF rfl rfl rfl) rfl rfl rfl fun a hF => ?_
  refine c_nil (n_then ?_)
  refine c_cond hF (c := .tmp 10) rfl (fun hb198 => ?_) (fun hb198 => ?_)
  · have hP := Fx.cT hb198 hP
    refine c_seq ?_
    refine c_region ?_
    refine s_val hF (r_assign hF rfl rfl) rfl rfl rfl fun a hF => ?_
    refine c_nil (n_then ?_)
    refine c_ret ?_
    have hP := Option.some.inj hP
    subst hP
    refine e_ret1 Tryz.results64 hF rfl ?_
    exact ⟨rfl, hM⟩
  have hP := Fx.cF hb198 hP
  refine c_skip (n_then ?_)
  refine c_seq ?_
  refine c_joinX hF hM hP (fun F x a w => match x with | _ => Fr 27 [(4, .bool false)] a ∧ MemL w (Lr)) (fun o_j1 hP hK_j1 hF hM => ?_) ?_
  · refine c_seq ?_
    refine c_region ?_
    refine s_val hF (r_assign hF rfl rfl) rfl rfl rfl fun a hF => ?_
    refine c_nil (n_then ?_)
    refine c_block ?_
    refine c_loopX hF hM hP (fun F x a w => match x with | v364 => Fr 27 [(5, .int .i64 v364), (0, (s1).v), (1, (s5).v), (4, .bool false)] a ∧ MemL w (Lr)) (fun hF hM => ⟨hF.to ⟨rfl, rfl, rfl, rfl, trivial⟩, hM⟩) ?_
    rintro v364 a w o_l2 hP hK_l2 ⟨hF, hM⟩
    replace hP : Sh.law00_SameRows_l2 x0 x1 v364 = _ := hP
    unfold Sh.law00_SameRows_l2 at hP
    refine c_seq ?_
    refine c_seq ?_
    refine c_region ?_
    refine s_val hF (r_move hF rfl rfl) rfl rfl rfl fun a hF => ?_
    refine s_val hF (r_move hF rfl rfl) rfl rfl rfl fun a hF => ?_
    refine s_val hF (r_lenD (f3 _ (hsub _ (dropM hM 0))) q4.len Tryz.underlying28 hF rfl rfl) rfl rfl rfl fun a hF => ?_
    refine s_val hF (r_lss hF rfl rfl rfl) rfl rfl rfl fun a hF => ?_
    refine c_nil (n_then ?_)
    refine c_cond hF (c := .tmp 14) rfl (fun hb366 => ?_) (fun hb366 => ?_)
    · have hP := Fx.cT hb366 hP
      refine c_skip (n_then ?_)
      refine c_seq ?_
      refine c_block ?_
      refine c_seq ?_
      refine d_startT mixed (by kernel_rfl) hM [] 0 rfl fun hch => ?_
      refine d_val hF hch 0 rfl (by kernel_rfl) rfl rfl rfl (fun w hM => (r_move hF rfl rfl)) fun a hF => ?_
      refine d_val hF hch 1 rfl (by kernel_rfl) rfl rfl rfl (fun w hM => (r_move hF rfl rfl)) fun a hF => ?_
      obtain ⟨x380, hx380, hP⟩ := bind_some hP
      have h0x380 := get_some hx380
      obtain ⟨yx380, hgx380, hrx380⟩ := Each.getr q4 h0x380.2
      have hdx380 := Each.bd q4 (get_bd hx380)
      refine d_val hF hch 2 rfl (by kernel_rfl) rfl rfl rfl (fun w hM => (r_indexZ (sz := 1) (f3 _ (hsub _ (dropM hM 0))) Tryz.underlying28 in23 rfl hF rfl rfl rfl hdx380)) fun a hF => ?_
      refine d_val hF hch 3 rfl (by kernel_rfl) rfl rfl rfl (fun w hM => (r_load1 Tryz.isAgg23 hF rfl rfl ((((f3 _ (hsub _ (dropM hM 0))).elemS hgx380)).get 0 rfl))) fun a hF => ?_
      refine d_val hF hch 4 rfl (by kernel_rfl) rfl rfl rfl (fun w hM => (r_move hF rfl rfl)) fun a hF => ?_
      refine d_val hF hch 5 rfl (by kernel_rfl) rfl rfl rfl (fun w hM => (r_move hF rfl rfl)) fun a hF => ?_
      obtain ⟨x381, hx381, hP⟩ := bind_some hP
      have h0x381 := get_some hx381
      obtain ⟨yx381, hgx381, hrx381⟩ := Each.getr q8 h0x381.2
      have hdx381 := Each.bd q8 (get_bd hx381)
      refine d_val hF hch 6 rfl (by kernel_rfl) rfl rfl rfl (fun w hM => (r_indexZ (sz := 1) (f7 _ (hsub _ (dropM hM 0))) Tryz.underlying28 in23 rfl hF rfl rfl rfl hdx381)) fun a hF => ?_
      refine d_val hF hch 7 rfl (by kernel_rfl) rfl rfl rfl (fun w hM => (r_load1 Tryz.isAgg23 hF rfl rfl ((((f7 _ (hsub _ (dropM hM 0))).elemS hgx381)).get 0 rfl))) fun a hF => ?_
      refine d_one hch 8 (by kernel_rfl) rfl rfl ?_
      refine d_ex hF 8 rfl rfl rfl rfl rfl fun w hMs hM => ?_
      obtain ⟨y383, hy383, hP⟩ := bind_some hP
      refine (w_call (xs := [.tmp 20, .tmp 24]) Tryz.call43 hF rfl rfl (law00_SameBytes_calls hy383 hM (Bf := Bf) (fun w hM => hsub _ (dropM hM 0)) hrx380 hrx381) fun v w hR => ?_)
      obtain ⟨rfl, hM⟩ := hR
      replace hM : MemL _ (Lr) := hM
      have hMs := selM hM [] 0 rfl
      refine ⟨_, _, hMs, hM, .inl fun _ h => h, fun a hF => ?_⟩
      refine d_val hF hch 9 rfl (by kernel_rfl) rfl rfl rfl (fun w hM => (r_not hF rfl rfl)) fun a hF => ?_
      refine d_end hch (by kernel_rfl) fun w hM => ?_
      refine n_then ?_
      refine c_cond hF (c := .tmp 26) rfl (fun hb384 => ?_) (fun hb384 => ?_)
      · have hP := Fx.cT hb384 hP
        refine c_seq ?_
        refine c_region ?_
        refine s_val hF (r_assign hF rfl rfl) rfl rfl rfl fun a hF => ?_
        refine c_nil (n_then ?_)
        refine c_ret ?_
        have hP := Option.some.inj hP
        subst hP
        have hP := hK_l2 _ rfl
        subst hP
        have hP := fin_inr hK_j1
        subst hP
        refine e_ret1 Tryz.results64 hF rfl ?_
        exact ⟨rfl, hM⟩
      have hP := Fx.cF hb384 hP
      refine c_skip (n_block (n_then ?_))
      refine c_region ?_
      refine s_val hF (r_move hF rfl rfl) rfl rfl rfl fun a hF => ?_
      refine s_val hF (r_add hF rfl rfl rfl) rfl rfl rfl fun a hF => ?_
      refine s_val hF (r_assign hF rfl rfl) rfl rfl rfl fun a hF => ?_
      refine c_nil (n_then ?_)
      have hP := Option.some.inj hP
      subst hP
      exact ⟨(IntKind.i64.wrap (v364 + 1)), rfl, hF.to ⟨rfl, rfl, rfl, rfl, trivial⟩, hM⟩
    have hP := Fx.cF hb366 hP
    refine c_exit (x_then (x_then (x_hit ?_)))
    refine n_then ?_
    have hP := Option.some.inj hP
    subst hP
    have hP := hK_l2 _ rfl
    subst hP
    exact ⟨(), rfl, hF.to ⟨rfl, trivial⟩, hM⟩
  rintro ⟨⟩ a w hP ⟨hF, hM⟩
  replace hP : Sh.law00_SameRows_j1 = _ := hP
  unfold Sh.law00_SameRows_j1 at hP
  refine n_then ?_
  refine c_seq ?_
  refine c_region ?_
  refine s_val hF (r_assign hF rfl rfl) rfl rfl rfl fun a hF => ?_
  refine c_nil (n_then ?_)
  refine c_ret ?_
  have hP := Option.some.inj hP
  subst hP
  refine e_ret1 Tryz.results64 hF rfl ?_
  exact ⟨rfl, hM⟩
set_option maxHeartbeats 4000000 in
theorem law00_SameInput_calls {x0 : QInput} {x1 : QInput} {s1 : SV} {s3 : SV} {hs4 : List SV} {s7 : SV} {s9 : SV} {hs10 : List SV} {out : Bool} {w0 : World} {Bf : World → Prop} {Lr : List Res} (hP : Sh.law00_SameInput x0 x1 = some out) (hM : MemL w0 (Lr)) (hsub : ∀ w, MemL w Lr → Bf w) (f2 : LIn Bf s1 x0.ctx) (f5 : LIn Bf s3 hs4) (q6 : Each (LIn (X := UInt8) Bf) hs4 x0.tables) (f8 : LIn Bf s7 x1.ctx) (f11 : LIn Bf s9 hs10) (q12 : Each (LIn (X := UInt8) Bf) hs10 x1.tables) : Calls Tryz.prog 29 #[.agg (RInput.enc (RInput.mk s1 s3)).toArray, .agg (RInput.enc (RInput.mk s7 s9)).toArray] w0 (Ret fun v w' => v = .bool out ∧ MemL w' (Lr)) := by
  unfold Sh.law00_SameInput at hP
  refine calls_enter (vs := [.agg (RInput.enc (RInput.mk s1 s3)).toArray, .agg (RInput.enc (RInput.mk s7 s9)).toArray]) Tryz.func29 rfl Tryz.ntmps29 rfl fun a hF => ?_
  refine c_seq ?_
  refine c_region ?_
  refine s_eff hF rfl rfl rfl (w_box hF rfl rfl rfl fun b_B29_2 w hzB29_2 hAB29_2 => ?_)
  have hM := hM.plus hAB29_2
  replace hM : MemL _ (pt b_B29_2 (RInput.enc (RInput.mk s1 s3)) 30 :: Lr) := hM
  intro a hF
  refine s_eff hF rfl rfl rfl (w_box hF rfl rfl rfl fun b_B29_3 w hzB29_3 hAB29_3 => ?_)
  have hM := hM.plus hAB29_3
  replace hM : MemL _ (pt b_B29_3 (RInput.enc (RInput.mk s7 s9)) 30 :: pt b_B29_2 (RInput.enc (RInput.mk s1 s3)) 30 :: Lr) := hM
  intro a hF
  refine s_val hF (r_assign hF rfl rfl) rfl rfl rfl fun a hF => ?_
  refine c_nil (n_then ?_)
  refine c_seq ?_
  refine c_joinX hF hM hP (fun F x a w => match x with | v39 => Fr 17 [(4, .bool v39)] a ∧ MemL w (Lr)) (fun o_j1 hP hK_j1 hF hM => ?_) ?_
  · refine c_region ?_
    refine s_val hF (r_fieldAddr (off' := 0) Tryz.underlying30 rfl in23 rfl hF rfl rfl rfl) rfl rfl rfl fun a hF => ?_
    refine s_val hF (r_load1 Tryz.isAgg23 hF rfl rfl (hM.cell (i := 1) rfl (RInput.g_ctx _))) rfl rfl rfl fun a hF => ?_
    refine s_val hF (r_fieldAddr (off' := 0) Tryz.underlying30 rfl in23 rfl hF rfl rfl rfl) rfl rfl rfl fun a hF => ?_
    refine s_val hF (r_load1 Tryz.isAgg23 hF rfl rfl (hM.cell (i := 0) rfl (RInput.g_ctx _))) rfl rfl rfl fun a hF => ?_
    obtain ⟨y41, hy41, hP⟩ := bind_some hP
    refine s_eff hF rfl rfl rfl (w_call (xs := [.tmp 6, .tmp 8]) Tryz.call43 hF rfl rfl (law00_SameBytes_calls hy41 hM (Bf := Bf) (fun w hM => hsub _ (dropM hM 2)) f2 f8) fun v w hR => ?_)
    obtain ⟨rfl, hM⟩ := hR
    replace hM : MemL _ (pt b_B29_3 (RInput.enc (RInput.mk s7 s9)) 30 :: pt b_B29_2 (RInput.enc (RInput.mk s1 s3)) 30 :: Lr) := hM
    intro a hF
    refine s_val hF (r_move hF rfl rfl) rfl rfl rfl fun a hF => ?_
    refine g_split 10 hF rfl (fun hb42 => ?_) (fun hb42 => ?_)
    · have hP := Fx.cT hb42 hP
      refine g_val hF rfl rfl rfl hb42 (r_fieldAddr (off' := 1) Tryz.underlying30 rfl in28 rfl hF rfl rfl rfl) rfl rfl fun a hF => ?_
      refine g_val hF rfl rfl rfl hb42 (r_load1 Tryz.isAgg28 hF rfl rfl (hM.cell (i := 1) rfl (RInput.g_tables _))) rfl rfl fun a hF => ?_
      refine g_val hF rfl rfl rfl hb42 (r_fieldAddr (off' := 1) Tryz.underlying30 rfl in28 rfl hF rfl rfl rfl) rfl rfl fun a hF => ?_
      refine g_val hF rfl rfl rfl hb42 (r_load1 Tryz.isAgg28 hF rfl rfl (hM.cell (i := 0) rfl (RInput.g_tables _))) rfl rfl fun a hF => ?_
      obtain ⟨y44, hy44, hP⟩ := bind_some hP
      refine g_eff hF rfl rfl rfl hb42 rfl rfl (w_call (xs := [.tmp 12, .tmp 14]) Tryz.call64 hF rfl rfl (law00_SameRows_calls hy44 hM (Bf := Bf) (fun w hM => hsub _ (dropM hM 2)) f5 q6 f11 q12) fun v w hR => ?_)
      obtain ⟨rfl, hM⟩ := hR
      replace hM : MemL _ (pt b_B29_3 (RInput.enc (RInput.mk s7 s9)) 30 :: pt b_B29_2 (RInput.enc (RInput.mk s1 s3)) 30 :: Lr) := hM
      intro a hF
      refine s_val hF (r_pick1 hF rfl rfl hb42 rfl) rfl rfl rfl fun a hF => ?_
      refine s_val hF (r_assign hF rfl rfl) rfl rfl rfl fun a hF => ?_
      refine c_nil (n_then ?_)
      have hP := Option.some.inj hP
      subst hP
      exact ⟨y44, rfl, hF.to ⟨rfl, trivial⟩, selM hM [] 2 rfl⟩
    have hP := Fx.cF hb42 hP
    refine g_skip hF rfl rfl rfl hb42 rfl rfl fun a hF => ?_
    refine g_skip hF rfl rfl rfl hb42 rfl rfl fun a hF => ?_
    refine g_skip hF rfl rfl rfl hb42 rfl rfl fun a hF => ?_
    refine g_skip hF rfl rfl rfl hb42 rfl rfl fun a hF => ?_
    refine g_skip hF rfl rfl rfl hb42 rfl rfl fun a hF => ?_
    refine s_val hF (r_pick0 hF rfl rfl hb42 rfl) rfl rfl rfl fun a hF => ?_
    refine s_val hF (r_assign hF rfl rfl) rfl rfl rfl fun a hF => ?_
    refine c_nil (n_then ?_)
    have hP := Option.some.inj hP
    subst hP
    exact ⟨false, rfl, hF.to ⟨rfl, trivial⟩, selM hM [] 2 rfl⟩
  rintro v39 a w hP ⟨hF, hM⟩
  replace hP : Sh.law00_SameInput_j1 v39 = _ := hP
  unfold Sh.law00_SameInput_j1 at hP
  refine n_then ?_
  refine c_ret ?_
  have hP := Option.some.inj hP
  subst hP
  refine e_ret1 Tryz.results29 hF rfl ?_
  exact ⟨rfl, hM⟩
set_option maxHeartbeats 4000000 in
theorem law23_sameMark_calls {x0 : QMark} {x1 : QMark} {s1 : SV} {s3 : SV} {s5 : SV} {hs6 : List RPiece} {s9 : SV} {s11 : SV} {s13 : SV} {s15 : SV} {hs16 : List RPiece} {s19 : SV} {out : Bool} {w0 : World} {Bf : World → Prop} {Lr : List Res} (hP : Sh.law23_sameMark x0 x1 = some out) (hM : MemL w0 (Lr)) (hsub : ∀ w, MemL w Lr → Bf w) (f2 : LIn Bf s1 x0.regs) (f4 : LIn Bf s3 x0.slots) (f7 : LIn Bf s5 hs6) (q8 : Each (QPieceIn Bf) hs6 x0.pieces) (f10 : LIn Bf s9 x0.sent) (f12 : LIn Bf s11 x1.regs) (f14 : LIn Bf s13 x1.slots) (f17 : LIn Bf s15 hs16) (q18 : Each (QPieceIn Bf) hs16 x1.pieces) (f20 : LIn Bf s19 x1.sent) : Calls Tryz.prog 33 #[.agg (RMark.enc (RMark.mk x0.at_ x0.next x0.done s1 s3 s5 s9)).toArray, .agg (RMark.enc (RMark.mk x1.at_ x1.next x1.done s11 s13 s15 s19)).toArray] w0 (Ret fun v w' => v = .bool out ∧ MemL w' (Lr)) := by
  unfold Sh.law23_sameMark at hP
  refine calls_enter (vs := [.agg (RMark.enc (RMark.mk x0.at_ x0.next x0.done s1 s3 s5 s9)).toArray, .agg (RMark.enc (RMark.mk x1.at_ x1.next x1.done s11 s13 s15 s19)).toArray]) Tryz.func33 rfl Tryz.ntmps33 rfl fun a hF => ?_
  refine c_seq ?_
  refine c_region ?_
  refine s_eff hF rfl rfl rfl (w_box hF rfl rfl rfl fun b_B33_2 w hzB33_2 hAB33_2 => ?_)
  have hM := hM.plus hAB33_2
  replace hM : MemL _ (pt b_B33_2 (RMark.enc (RMark.mk x0.at_ x0.next x0.done s1 s3 s5 s9)) 60 :: Lr) := hM
  intro a hF
  refine s_eff hF rfl rfl rfl (w_box hF rfl rfl rfl fun b_B33_3 w hzB33_3 hAB33_3 => ?_)
  have hM := hM.plus hAB33_3
  replace hM : MemL _ (pt b_B33_3 (RMark.enc (RMark.mk x1.at_ x1.next x1.done s11 s13 s15 s19)) 60 :: pt b_B33_2 (RMark.enc (RMark.mk x0.at_ x0.next x0.done s1 s3 s5 s9)) 60 :: Lr) := hM
  intro a hF
  refine s_val hF (r_assign hF rfl rfl) rfl rfl rfl fun a hF => ?_
  refine c_nil (n_then ?_)
  refine c_seq ?_
  refine c_seq ?_
  refine c_joinX hF hM hP (fun F x a w => match x with | v997 => Fr 145 [(63, .bool v997), (2, .pointer (some ⟨b_B33_2, 0, none⟩)), (3, .pointer (some ⟨b_B33_3, 0, none⟩)), (4, .bool false)] a ∧ MemL w (pt b_B33_3 (RMark.enc (RMark.mk x1.at_ x1.next x1.done s11 s13 s15 s19)) 60 :: pt b_B33_2 (RMark.enc (RMark.mk x0.at_ x0.next x0.done s1 s3 s5 s9)) 60 :: Lr)) (fun o_j1 hP hK_j1 hF hM => ?_) ?_
  · refine c_region ?_
    refine s_val hF (r_fieldAddr (off' := 0) Tryz.underlying60 rfl in3 rfl hF rfl rfl rfl) rfl rfl rfl fun a hF => ?_
    refine s_val hF (r_load1 Tryz.isAgg3 hF rfl rfl (hM.cell (i := 1) rfl (RMark.g_at_ _))) rfl rfl rfl fun a hF => ?_
    refine s_val hF (r_fieldAddr (off' := 0) Tryz.underlying60 rfl in3 rfl hF rfl rfl rfl) rfl rfl rfl fun a hF => ?_
    refine s_val hF (r_load1 Tryz.isAgg3 hF rfl rfl (hM.cell (i := 0) rfl (RMark.g_at_ _))) rfl rfl rfl fun a hF => ?_
    refine s_val hF (r_neq hF rfl rfl rfl) rfl rfl rfl fun a hF => ?_
    refine s_val hF (r_move hF rfl rfl) rfl rfl rfl fun a hF => ?_
    refine g_split 15 hF rfl (fun hb998 => ?_) (fun hb998 => ?_)
    · have hP := Fx.cT hb998 hP
      refine g_skip hF rfl rfl rfl hb998 rfl rfl fun a hF => ?_
      refine g_skip hF rfl rfl rfl hb998 rfl rfl fun a hF => ?_
      refine g_skip hF rfl rfl rfl hb998 rfl rfl fun a hF => ?_
      refine g_skip hF rfl rfl rfl hb998 rfl rfl fun a hF => ?_
      refine g_skip hF rfl rfl rfl hb998 rfl rfl fun a hF => ?_
      refine s_val hF (r_pick1 hF rfl rfl hb998 rfl) rfl rfl rfl fun a hF => ?_
      refine s_val hF (r_move hF rfl rfl) rfl rfl rfl fun a hF => ?_
      refine g_skip hF rfl rfl rfl rfl rfl rfl fun a hF => ?_
      refine g_skip hF rfl rfl rfl rfl rfl rfl fun a hF => ?_
      refine g_skip hF rfl rfl rfl rfl rfl rfl fun a hF => ?_
      refine g_skip hF rfl rfl rfl rfl rfl rfl fun a hF => ?_
      refine g_skip hF rfl rfl rfl rfl rfl rfl fun a hF => ?_
      refine s_val hF (r_pick1 hF rfl rfl rfl rfl) rfl rfl rfl fun a hF => ?_
      refine s_val hF (r_move hF rfl rfl) rfl rfl rfl fun a hF => ?_
      refine g_skip hF rfl rfl rfl rfl rfl rfl fun a hF => ?_
      refine g_skip hF rfl rfl rfl rfl rfl rfl fun a hF => ?_
      refine g_skip hF rfl rfl rfl rfl rfl rfl fun a hF => ?_
      refine g_skip hF rfl rfl rfl rfl rfl rfl fun a hF => ?_
      refine g_skip hF rfl rfl rfl rfl rfl rfl fun a hF => ?_
      refine g_skip hF rfl rfl rfl rfl rfl rfl fun a hF => ?_
      refine g_skip hF rfl rfl rfl rfl rfl rfl fun a hF => ?_
      refine s_val hF (r_pick1 hF rfl rfl rfl rfl) rfl rfl rfl fun a hF => ?_
      refine s_val hF (r_move hF rfl rfl) rfl rfl rfl fun a hF => ?_
      refine g_skip hF rfl rfl rfl rfl rfl rfl fun a hF => ?_
      refine g_skip hF rfl rfl rfl rfl rfl rfl fun a hF => ?_
      refine g_skip hF rfl rfl rfl rfl rfl rfl fun a hF => ?_
      refine g_skip hF rfl rfl rfl rfl rfl rfl fun a hF => ?_
      refine g_skip hF rfl rfl rfl rfl rfl rfl fun a hF => ?_
      refine g_skip hF rfl rfl rfl rfl rfl rfl fun a hF => ?_
      refine g_skip hF rfl rfl rfl rfl rfl rfl fun a hF => ?_
      refine s_val hF (r_pick1 hF rfl rfl rfl rfl) rfl rfl rfl fun a hF => ?_
      refine s_val hF (r_move hF rfl rfl) rfl rfl rfl fun a hF => ?_
      refine g_skip hF rfl rfl rfl rfl rfl rfl fun a hF => ?_
      refine g_skip hF rfl rfl rfl rfl rfl rfl fun a hF => ?_
      refine g_skip hF rfl rfl rfl rfl rfl rfl fun a hF => ?_
      refine g_skip hF rfl rfl rfl rfl rfl rfl fun a hF => ?_
      refine g_skip hF rfl rfl rfl rfl rfl rfl fun a hF => ?_
      refine g_skip hF rfl rfl rfl rfl rfl rfl fun a hF => ?_
      refine g_skip hF rfl rfl rfl rfl rfl rfl fun a hF => ?_
      refine s_val hF (r_pick1 hF rfl rfl rfl rfl) rfl rfl rfl fun a hF => ?_
      refine s_val hF (r_move hF rfl rfl) rfl rfl rfl fun a hF => ?_
      refine g_skip hF rfl rfl rfl rfl rfl rfl fun a hF => ?_
      refine g_skip hF rfl rfl rfl rfl rfl rfl fun a hF => ?_
      refine g_skip hF rfl rfl rfl rfl rfl rfl fun a hF => ?_
      refine g_skip hF rfl rfl rfl rfl rfl rfl fun a hF => ?_
      refine g_skip hF rfl rfl rfl rfl rfl rfl fun a hF => ?_
      refine g_skip hF rfl rfl rfl rfl rfl rfl fun a hF => ?_
      refine s_val hF (r_pick1 hF rfl rfl rfl rfl) rfl rfl rfl fun a hF => ?_
      refine c_nil (n_then ?_)
      have hP := Option.some.inj hP
      subst hP
      exact ⟨true, rfl, hF.to ⟨rfl, rfl, rfl, rfl, trivial⟩, hM⟩
    have hP := Fx.cF hb998 hP
    refine g_val hF rfl rfl rfl hb998 (r_fieldAddr (off' := 1) Tryz.underlying60 rfl in3 rfl hF rfl rfl rfl) rfl rfl fun a hF => ?_
    refine g_val hF rfl rfl rfl hb998 (r_load1 Tryz.isAgg3 hF rfl rfl (hM.cell (i := 1) rfl (RMark.g_next _))) rfl rfl fun a hF => ?_
    refine g_val hF rfl rfl rfl hb998 (r_fieldAddr (off' := 1) Tryz.underlying60 rfl in3 rfl hF rfl rfl rfl) rfl rfl fun a hF => ?_
    refine g_val hF rfl rfl rfl hb998 (r_load1 Tryz.isAgg3 hF rfl rfl (hM.cell (i := 0) rfl (RMark.g_next _))) rfl rfl fun a hF => ?_
    refine g_val hF rfl rfl rfl hb998 (r_neq hF rfl rfl rfl) rfl rfl fun a hF => ?_
    refine s_val hF (r_pick0 hF rfl rfl hb998 rfl) rfl rfl rfl fun a hF => ?_
    refine s_val hF (r_move hF rfl rfl) rfl rfl rfl fun a hF => ?_
    refine g_split 22 hF rfl (fun hb999 => ?_) (fun hb999 => ?_)
    · have hP := Fx.cT hb999 hP
      refine g_skip hF rfl rfl rfl hb999 rfl rfl fun a hF => ?_
      refine g_skip hF rfl rfl rfl hb999 rfl rfl fun a hF => ?_
      refine g_skip hF rfl rfl rfl hb999 rfl rfl fun a hF => ?_
      refine g_skip hF rfl rfl rfl hb999 rfl rfl fun a hF => ?_
      refine g_skip hF rfl rfl rfl hb999 rfl rfl fun a hF => ?_
      refine s_val hF (r_pick1 hF rfl rfl hb999 rfl) rfl rfl rfl fun a hF => ?_
      refine s_val hF (r_move hF rfl rfl) rfl rfl rfl fun a hF => ?_
      refine g_skip hF rfl rfl rfl rfl rfl rfl fun a hF => ?_
      refine g_skip hF rfl rfl rfl rfl rfl rfl fun a hF => ?_
      refine g_skip hF rfl rfl rfl rfl rfl rfl fun a hF => ?_
      refine g_skip hF rfl rfl rfl rfl rfl rfl fun a hF => ?_
      refine g_skip hF rfl rfl rfl rfl rfl rfl fun a hF => ?_
      refine g_skip hF rfl rfl rfl rfl rfl rfl fun a hF => ?_
      refine g_skip hF rfl rfl rfl rfl rfl rfl fun a hF => ?_
      refine s_val hF (r_pick1 hF rfl rfl rfl rfl) rfl rfl rfl fun a hF => ?_
      refine s_val hF (r_move hF rfl rfl) rfl rfl rfl fun a hF => ?_
      refine g_skip hF rfl rfl rfl rfl rfl rfl fun a hF => ?_
      refine g_skip hF rfl rfl rfl rfl rfl rfl fun a hF => ?_
      refine g_skip hF rfl rfl rfl rfl rfl rfl fun a hF => ?_
      refine g_skip hF rfl rfl rfl rfl rfl rfl fun a hF => ?_
      refine g_skip hF rfl rfl rfl rfl rfl rfl fun a hF => ?_
      refine g_skip hF rfl rfl rfl rfl rfl rfl fun a hF => ?_
      refine g_skip hF rfl rfl rfl rfl rfl rfl fun a hF => ?_
      refine s_val hF (r_pick1 hF rfl rfl rfl rfl) rfl rfl rfl fun a hF => ?_
      refine s_val hF (r_move hF rfl rfl) rfl rfl rfl fun a hF => ?_
      refine g_skip hF rfl rfl rfl rfl rfl rfl fun a hF => ?_
      refine g_skip hF rfl rfl rfl rfl rfl rfl fun a hF => ?_
      refine g_skip hF rfl rfl rfl rfl rfl rfl fun a hF => ?_
      refine g_skip hF rfl rfl rfl rfl rfl rfl fun a hF => ?_
      refine g_skip hF rfl rfl rfl rfl rfl rfl fun a hF => ?_
      refine g_skip hF rfl rfl rfl rfl rfl rfl fun a hF => ?_
      refine g_skip hF rfl rfl rfl rfl rfl rfl fun a hF => ?_
      refine s_val hF (r_pick1 hF rfl rfl rfl rfl) rfl rfl rfl fun a hF => ?_
      refine s_val hF (r_move hF rfl rfl) rfl rfl rfl fun a hF => ?_
      refine g_skip hF rfl rfl rfl rfl rfl rfl fun a hF => ?_
      refine g_skip hF rfl rfl rfl rfl rfl rfl fun a hF => ?_
      refine g_skip hF rfl rfl rfl rfl rfl rfl fun a hF => ?_
      refine g_skip hF rfl rfl rfl rfl rfl rfl fun a hF => ?_
      refine g_skip hF rfl rfl rfl rfl rfl rfl fun a hF => ?_
      refine g_skip hF rfl rfl rfl rfl rfl rfl fun a hF => ?_
      refine s_val hF (r_pick1 hF rfl rfl rfl rfl) rfl rfl rfl fun a hF => ?_
      refine c_nil (n_then ?_)
      have hP := Option.some.inj hP
      subst hP
      exact ⟨true, rfl, hF.to ⟨rfl, rfl, rfl, rfl, trivial⟩, hM⟩
    have hP := Fx.cF hb999 hP
    refine g_val hF rfl rfl rfl hb999 (r_fieldAddr (off' := 2) Tryz.underlying60 rfl in4 rfl hF rfl rfl rfl) rfl rfl fun a hF => ?_
    refine g_val hF rfl rfl rfl hb999 (r_load1 Tryz.isAgg4 hF rfl rfl (hM.cell (i := 1) rfl (RMark.g_done _))) rfl rfl fun a hF => ?_
    refine g_val hF rfl rfl rfl hb999 (r_fieldAddr (off' := 2) Tryz.underlying60 rfl in4 rfl hF rfl rfl rfl) rfl rfl fun a hF => ?_
    refine g_val hF rfl rfl rfl hb999 (r_load1 Tryz.isAgg4 hF rfl rfl (hM.cell (i := 0) rfl (RMark.g_done _))) rfl rfl fun a hF => ?_
    refine g_val hF rfl rfl rfl hb999 (r_neqB Tryz.underlying4 hF rfl rfl rfl) rfl rfl fun a hF => ?_
    refine s_val hF (r_pick0 hF rfl rfl hb999 rfl) rfl rfl rfl fun a hF => ?_
    refine s_val hF (r_move hF rfl rfl) rfl rfl rfl fun a hF => ?_
    refine g_split 29 hF rfl (fun hb1000 => ?_) (fun hb1000 => ?_)
    · have hP := Fx.cT hb1000 hP
      refine g_skip hF rfl rfl rfl hb1000 rfl rfl fun a hF => ?_
      refine g_skip hF rfl rfl rfl hb1000 rfl rfl fun a hF => ?_
      refine g_skip hF rfl rfl rfl hb1000 rfl rfl fun a hF => ?_
      refine g_skip hF rfl rfl rfl hb1000 rfl rfl fun a hF => ?_
      refine g_skip hF rfl rfl rfl hb1000 rfl rfl fun a hF => ?_
      refine g_skip hF rfl rfl rfl hb1000 rfl rfl fun a hF => ?_
      refine g_skip hF rfl rfl rfl hb1000 rfl rfl fun a hF => ?_
      refine s_val hF (r_pick1 hF rfl rfl hb1000 rfl) rfl rfl rfl fun a hF => ?_
      refine s_val hF (r_move hF rfl rfl) rfl rfl rfl fun a hF => ?_
      refine g_skip hF rfl rfl rfl rfl rfl rfl fun a hF => ?_
      refine g_skip hF rfl rfl rfl rfl rfl rfl fun a hF => ?_
      refine g_skip hF rfl rfl rfl rfl rfl rfl fun a hF => ?_
      refine g_skip hF rfl rfl rfl rfl rfl rfl fun a hF => ?_
      refine g_skip hF rfl rfl rfl rfl rfl rfl fun a hF => ?_
      refine g_skip hF rfl rfl rfl rfl rfl rfl fun a hF => ?_
      refine g_skip hF rfl rfl rfl rfl rfl rfl fun a hF => ?_
      refine s_val hF (r_pick1 hF rfl rfl rfl rfl) rfl rfl rfl fun a hF => ?_
      refine s_val hF (r_move hF rfl rfl) rfl rfl rfl fun a hF => ?_
      refine g_skip hF rfl rfl rfl rfl rfl rfl fun a hF => ?_
      refine g_skip hF rfl rfl rfl rfl rfl rfl fun a hF => ?_
      refine g_skip hF rfl rfl rfl rfl rfl rfl fun a hF => ?_
      refine g_skip hF rfl rfl rfl rfl rfl rfl fun a hF => ?_
      refine g_skip hF rfl rfl rfl rfl rfl rfl fun a hF => ?_
      refine g_skip hF rfl rfl rfl rfl rfl rfl fun a hF => ?_
      refine g_skip hF rfl rfl rfl rfl rfl rfl fun a hF => ?_
      refine s_val hF (r_pick1 hF rfl rfl rfl rfl) rfl rfl rfl fun a hF => ?_
      refine s_val hF (r_move hF rfl rfl) rfl rfl rfl fun a hF => ?_
      refine g_skip hF rfl rfl rfl rfl rfl rfl fun a hF => ?_
      refine g_skip hF rfl rfl rfl rfl rfl rfl fun a hF => ?_
      refine g_skip hF rfl rfl rfl rfl rfl rfl fun a hF => ?_
      refine g_skip hF rfl rfl rfl rfl rfl rfl fun a hF => ?_
      refine g_skip hF rfl rfl rfl rfl rfl rfl fun a hF => ?_
      refine g_skip hF rfl rfl rfl rfl rfl rfl fun a hF => ?_
      refine s_val hF (r_pick1 hF rfl rfl rfl rfl) rfl rfl rfl fun a hF => ?_
      refine c_nil (n_then ?_)
      have hP := Option.some.inj hP
      subst hP
      exact ⟨true, rfl, hF.to ⟨rfl, rfl, rfl, rfl, trivial⟩, hM⟩
    have hP := Fx.cF hb1000 hP
    refine g_val hF rfl rfl rfl hb1000 (r_fieldAddr (off' := 3) Tryz.underlying60 rfl in56 rfl hF rfl rfl rfl) rfl rfl fun a hF => ?_
    refine g_val hF rfl rfl rfl hb1000 (r_load1 Tryz.isAgg56 hF rfl rfl (hM.cell (i := 1) rfl (RMark.g_regs _))) rfl rfl fun a hF => ?_
    refine g_val hF rfl rfl rfl hb1000 (r_lenL (f2 _ (hsub _ (dropM hM 2))) Tryz.underlying56 hF rfl rfl) rfl rfl fun a hF => ?_
    refine g_val hF rfl rfl rfl hb1000 (r_fieldAddr (off' := 3) Tryz.underlying60 rfl in56 rfl hF rfl rfl rfl) rfl rfl fun a hF => ?_
    refine g_val hF rfl rfl rfl hb1000 (r_load1 Tryz.isAgg56 hF rfl rfl (hM.cell (i := 0) rfl (RMark.g_regs _))) rfl rfl fun a hF => ?_
    refine g_val hF rfl rfl rfl hb1000 (r_lenL (f12 _ (hsub _ (dropM hM 2))) Tryz.underlying56 hF rfl rfl) rfl rfl fun a hF => ?_
    refine g_val hF rfl rfl rfl hb1000 (r_neq hF rfl rfl rfl) rfl rfl fun a hF => ?_
    refine s_val hF (r_pick0 hF rfl rfl hb1000 rfl) rfl rfl rfl fun a hF => ?_
    refine s_val hF (r_move hF rfl rfl) rfl rfl rfl fun a hF => ?_
    refine g_split 38 hF rfl (fun hb1001 => ?_) (fun hb1001 => ?_)
    · have hP := Fx.cT hb1001 hP
      refine g_skip hF rfl rfl rfl hb1001 rfl rfl fun a hF => ?_
      refine g_skip hF rfl rfl rfl hb1001 rfl rfl fun a hF => ?_
      refine g_skip hF rfl rfl rfl hb1001 rfl rfl fun a hF => ?_
      refine g_skip hF rfl rfl rfl hb1001 rfl rfl fun a hF => ?_
      refine g_skip hF rfl rfl rfl hb1001 rfl rfl fun a hF => ?_
      refine g_skip hF rfl rfl rfl hb1001 rfl rfl fun a hF => ?_
      refine g_skip hF rfl rfl rfl hb1001 rfl rfl fun a hF => ?_
      refine s_val hF (r_pick1 hF rfl rfl hb1001 rfl) rfl rfl rfl fun a hF => ?_
      refine s_val hF (r_move hF rfl rfl) rfl rfl rfl fun a hF => ?_
      refine g_skip hF rfl rfl rfl rfl rfl rfl fun a hF => ?_
      refine g_skip hF rfl rfl rfl rfl rfl rfl fun a hF => ?_
      refine g_skip hF rfl rfl rfl rfl rfl rfl fun a hF => ?_
      refine g_skip hF rfl rfl rfl rfl rfl rfl fun a hF => ?_
      refine g_skip hF rfl rfl rfl rfl rfl rfl fun a hF => ?_
      refine g_skip hF rfl rfl rfl rfl rfl rfl fun a hF => ?_
      refine g_skip hF rfl rfl rfl rfl rfl rfl fun a hF => ?_
      refine s_val hF (r_pick1 hF rfl rfl rfl rfl) rfl rfl rfl fun a hF => ?_
      refine s_val hF (r_move hF rfl rfl) rfl rfl rfl fun a hF => ?_
      refine g_skip hF rfl rfl rfl rfl rfl rfl fun a hF => ?_
      refine g_skip hF rfl rfl rfl rfl rfl rfl fun a hF => ?_
      refine g_skip hF rfl rfl rfl rfl rfl rfl fun a hF => ?_
      refine g_skip hF rfl rfl rfl rfl rfl rfl fun a hF => ?_
      refine g_skip hF rfl rfl rfl rfl rfl rfl fun a hF => ?_
      refine g_skip hF rfl rfl rfl rfl rfl rfl fun a hF => ?_
      refine s_val hF (r_pick1 hF rfl rfl rfl rfl) rfl rfl rfl fun a hF => ?_
      refine c_nil (n_then ?_)
      have hP := Option.some.inj hP
      subst hP
      exact ⟨true, rfl, hF.to ⟨rfl, rfl, rfl, rfl, trivial⟩, hM⟩
    have hP := Fx.cF hb1001 hP
    refine g_val hF rfl rfl rfl hb1001 (r_fieldAddr (off' := 4) Tryz.underlying60 rfl in57 rfl hF rfl rfl rfl) rfl rfl fun a hF => ?_
    refine g_val hF rfl rfl rfl hb1001 (r_load1 Tryz.isAgg57 hF rfl rfl (hM.cell (i := 1) rfl (RMark.g_slots _))) rfl rfl fun a hF => ?_
    refine g_val hF rfl rfl rfl hb1001 (r_lenL (f4 _ (hsub _ (dropM hM 2))) Tryz.underlying57 hF rfl rfl) rfl rfl fun a hF => ?_
    refine g_val hF rfl rfl rfl hb1001 (r_fieldAddr (off' := 4) Tryz.underlying60 rfl in57 rfl hF rfl rfl rfl) rfl rfl fun a hF => ?_
    refine g_val hF rfl rfl rfl hb1001 (r_load1 Tryz.isAgg57 hF rfl rfl (hM.cell (i := 0) rfl (RMark.g_slots _))) rfl rfl fun a hF => ?_
    refine g_val hF rfl rfl rfl hb1001 (r_lenL (f14 _ (hsub _ (dropM hM 2))) Tryz.underlying57 hF rfl rfl) rfl rfl fun a hF => ?_
    refine g_val hF rfl rfl rfl hb1001 (r_neq hF rfl rfl rfl) rfl rfl fun a hF => ?_
    refine s_val hF (r_pick0 hF rfl rfl hb1001 rfl) rfl rfl rfl fun a hF => ?_
    refine s_val hF (r_move hF rfl rfl) rfl rfl rfl fun a hF => ?_
    refine g_split 47 hF rfl (fun hb1002 => ?_) (fun hb1002 => ?_)
    · have hP := Fx.cT hb1002 hP
      refine g_skip hF rfl rfl rfl hb1002 rfl rfl fun a hF => ?_
      refine g_skip hF rfl rfl rfl hb1002 rfl rfl fun a hF => ?_
      refine g_skip hF rfl rfl rfl hb1002 rfl rfl fun a hF => ?_
      refine g_skip hF rfl rfl rfl hb1002 rfl rfl fun a hF => ?_
      refine g_skip hF rfl rfl rfl hb1002 rfl rfl fun a hF => ?_
      refine g_skip hF rfl rfl rfl hb1002 rfl rfl fun a hF => ?_
      refine g_skip hF rfl rfl rfl hb1002 rfl rfl fun a hF => ?_
      refine s_val hF (r_pick1 hF rfl rfl hb1002 rfl) rfl rfl rfl fun a hF => ?_
      refine s_val hF (r_move hF rfl rfl) rfl rfl rfl fun a hF => ?_
      refine g_skip hF rfl rfl rfl rfl rfl rfl fun a hF => ?_
      refine g_skip hF rfl rfl rfl rfl rfl rfl fun a hF => ?_
      refine g_skip hF rfl rfl rfl rfl rfl rfl fun a hF => ?_
      refine g_skip hF rfl rfl rfl rfl rfl rfl fun a hF => ?_
      refine g_skip hF rfl rfl rfl rfl rfl rfl fun a hF => ?_
      refine g_skip hF rfl rfl rfl rfl rfl rfl fun a hF => ?_
      refine s_val hF (r_pick1 hF rfl rfl rfl rfl) rfl rfl rfl fun a hF => ?_
      refine c_nil (n_then ?_)
      have hP := Option.some.inj hP
      subst hP
      exact ⟨true, rfl, hF.to ⟨rfl, rfl, rfl, rfl, trivial⟩, hM⟩
    have hP := Fx.cF hb1002 hP
    refine g_val hF rfl rfl rfl hb1002 (r_fieldAddr (off' := 5) Tryz.underlying60 rfl in58 rfl hF rfl rfl rfl) rfl rfl fun a hF => ?_
    refine g_val hF rfl rfl rfl hb1002 (r_load1 Tryz.isAgg58 hF rfl rfl (hM.cell (i := 1) rfl (RMark.g_pieces _))) rfl rfl fun a hF => ?_
    refine g_val hF rfl rfl rfl hb1002 (r_lenD (f7 _ (hsub _ (dropM hM 2))) q8.len Tryz.underlying58 hF rfl rfl) rfl rfl fun a hF => ?_
    refine g_val hF rfl rfl rfl hb1002 (r_fieldAddr (off' := 5) Tryz.underlying60 rfl in58 rfl hF rfl rfl rfl) rfl rfl fun a hF => ?_
    refine g_val hF rfl rfl rfl hb1002 (r_load1 Tryz.isAgg58 hF rfl rfl (hM.cell (i := 0) rfl (RMark.g_pieces _))) rfl rfl fun a hF => ?_
    refine g_val hF rfl rfl rfl hb1002 (r_lenD (f17 _ (hsub _ (dropM hM 2))) q18.len Tryz.underlying58 hF rfl rfl) rfl rfl fun a hF => ?_
    refine g_val hF rfl rfl rfl hb1002 (r_neq hF rfl rfl rfl) rfl rfl fun a hF => ?_
    refine s_val hF (r_pick0 hF rfl rfl hb1002 rfl) rfl rfl rfl fun a hF => ?_
    refine s_val hF (r_move hF rfl rfl) rfl rfl rfl fun a hF => ?_
    refine g_split 56 hF rfl (fun hb1003 => ?_) (fun hb1003 => ?_)
    · have hP := Fx.cT hb1003 hP
      refine g_skip hF rfl rfl rfl hb1003 rfl rfl fun a hF => ?_
      refine g_skip hF rfl rfl rfl hb1003 rfl rfl fun a hF => ?_
      refine g_skip hF rfl rfl rfl hb1003 rfl rfl fun a hF => ?_
      refine g_skip hF rfl rfl rfl hb1003 rfl rfl fun a hF => ?_
      refine g_skip hF rfl rfl rfl hb1003 rfl rfl fun a hF => ?_
      refine g_skip hF rfl rfl rfl hb1003 rfl rfl fun a hF => ?_
      refine s_val hF (r_pick1 hF rfl rfl hb1003 rfl) rfl rfl rfl fun a hF => ?_
      refine c_nil (n_then ?_)
      have hP := Option.some.inj hP
      subst hP
      exact ⟨true, rfl, hF.to ⟨rfl, rfl, rfl, rfl, trivial⟩, hM⟩
    have hP := Fx.cF hb1003 hP
    refine g_val hF rfl rfl rfl hb1003 (r_fieldAddr (off' := 6) Tryz.underlying60 rfl in52 rfl hF rfl rfl rfl) rfl rfl fun a hF => ?_
    refine g_val hF rfl rfl rfl hb1003 (r_load1 Tryz.isAgg52 hF rfl rfl (hM.cell (i := 1) rfl (RMark.g_sent _))) rfl rfl fun a hF => ?_
    refine g_val hF rfl rfl rfl hb1003 (r_fieldAddr (off' := 6) Tryz.underlying60 rfl in52 rfl hF rfl rfl rfl) rfl rfl fun a hF => ?_
    refine g_val hF rfl rfl rfl hb1003 (r_load1 Tryz.isAgg52 hF rfl rfl (hM.cell (i := 0) rfl (RMark.g_sent _))) rfl rfl fun a hF => ?_
    obtain ⟨y1005, hy1005, hP⟩ := bind_some hP
    refine g_eff hF rfl rfl rfl hb1003 rfl rfl (w_call (xs := [.tmp 58, .tmp 60]) Tryz.call89 hF rfl rfl (law00_SameInts_calls hy1005 hM (Bf := Bf) (fun w hM => hsub _ (dropM hM 2)) f10 f20) fun v w hR => ?_)
    obtain ⟨rfl, hM⟩ := hR
    replace hM : MemL _ (pt b_B33_3 (RMark.enc (RMark.mk x1.at_ x1.next x1.done s11 s13 s15 s19)) 60 :: pt b_B33_2 (RMark.enc (RMark.mk x0.at_ x0.next x0.done s1 s3 s5 s9)) 60 :: Lr) := hM
    intro a hF
    refine g_val hF rfl rfl rfl hb1003 (r_not hF rfl rfl) rfl rfl fun a hF => ?_
    refine s_val hF (r_pick0 hF rfl rfl hb1003 rfl) rfl rfl rfl fun a hF => ?_
    refine c_nil (n_then ?_)
    have hP := Option.some.inj hP
    subst hP
    exact ⟨(!y1005), rfl, hF.to ⟨rfl, rfl, rfl, rfl, trivial⟩, hM⟩
  rintro v997 a w hP ⟨hF, hM⟩
  replace hP : Sh.law23_sameMark_j1 x0 x1 v997 = _ := hP
  unfold Sh.law23_sameMark_j1 at hP
  refine n_then ?_
  refine c_cond hF (c := .tmp 63) rfl (fun hb1006 => ?_) (fun hb1006 => ?_)
  · have hP := Fx.cT hb1006 hP
    refine c_seq ?_
    refine c_region ?_
    refine s_val hF (r_assign hF rfl rfl) rfl rfl rfl fun a hF => ?_
    refine c_nil (n_then ?_)
    refine c_ret ?_
    have hP := Option.some.inj hP
    subst hP
    refine e_ret1 Tryz.results33 hF rfl ?_
    exact ⟨rfl, selM hM [] 2 rfl⟩
  have hP := Fx.cF hb1006 hP
  refine c_skip (n_then ?_)
  refine c_seq ?_
  refine c_joinX hF hM hP (fun F x a w => match x with | _ => Fr 145 [(2, .pointer (some ⟨b_B33_2, 0, none⟩)), (3, .pointer (some ⟨b_B33_3, 0, none⟩)), (4, .bool false)] a ∧ MemL w (pt b_B33_3 (RMark.enc (RMark.mk x1.at_ x1.next x1.done s11 s13 s15 s19)) 60 :: pt b_B33_2 (RMark.enc (RMark.mk x0.at_ x0.next x0.done s1 s3 s5 s9)) 60 :: Lr)) (fun o_j2 hP hK_j2 hF hM => ?_) ?_
  · refine c_seq ?_
    refine c_region ?_
    refine s_val hF (r_assign hF rfl rfl) rfl rfl rfl fun a hF => ?_
    refine c_nil (n_then ?_)
    refine c_block ?_
    refine c_loopX hF hM hP (fun F x a w => match x with | v1108 => Fr 145 [(5, .int .i64 v1108), (2, .pointer (some ⟨b_B33_2, 0, none⟩)), (3, .pointer (some ⟨b_B33_3, 0, none⟩)), (4, .bool false)] a ∧ MemL w (pt b_B33_3 (RMark.enc (RMark.mk x1.at_ x1.next x1.done s11 s13 s15 s19)) 60 :: pt b_B33_2 (RMark.enc (RMark.mk x0.at_ x0.next x0.done s1 s3 s5 s9)) 60 :: Lr)) (fun hF hM => ⟨hF.to ⟨rfl, rfl, rfl, rfl, trivial⟩, hM⟩) ?_
    rintro v1108 a w o_l3 hP hK_l3 ⟨hF, hM⟩
    replace hP : Sh.law23_sameMark_l3 x0 x1 v1108 = _ := hP
    unfold Sh.law23_sameMark_l3 at hP
    refine c_seq ?_
    refine c_seq ?_
    refine c_region ?_
    refine s_val hF (r_move hF rfl rfl) rfl rfl rfl fun a hF => ?_
    refine s_val hF (r_fieldAddr (off' := 3) Tryz.underlying60 rfl in56 rfl hF rfl rfl rfl) rfl rfl rfl fun a hF => ?_
    refine s_val hF (r_load1 Tryz.isAgg56 hF rfl rfl (hM.cell (i := 1) rfl (RMark.g_regs _))) rfl rfl rfl fun a hF => ?_
    refine s_val hF (r_lenL (f2 _ (hsub _ (dropM hM 2))) Tryz.underlying56 hF rfl rfl) rfl rfl rfl fun a hF => ?_
    refine s_val hF (r_lss hF rfl rfl rfl) rfl rfl rfl fun a hF => ?_
    refine c_nil (n_then ?_)
    refine c_cond hF (c := .tmp 68) rfl (fun hb1110 => ?_) (fun hb1110 => ?_)
    · have hP := Fx.cT hb1110 hP
      refine c_skip (n_then ?_)
      refine c_seq ?_
      refine c_block ?_
      refine c_seq ?_
      refine d_startT mixed (by kernel_rfl) hM [0, 1] 2 rfl fun hch => ?_
      refine d_val hF hch 0 rfl (by kernel_rfl) rfl rfl rfl (fun w hM => (r_fieldAddr (off' := 3) Tryz.underlying60 rfl in56 rfl hF rfl rfl rfl)) fun a hF => ?_
      refine d_val hF hch 1 rfl (by kernel_rfl) rfl rfl rfl (fun w hM => (r_load1 Tryz.isAgg56 hF rfl rfl (hM.cell (i := 1) rfl (RMark.g_regs _)))) fun a hF => ?_
      refine d_val hF hch 2 rfl (by kernel_rfl) rfl rfl rfl (fun w hM => (r_move hF rfl rfl)) fun a hF => ?_
      obtain ⟨x1118, hx1118, hP⟩ := bind_some hP
      have h0x1118 := get_some hx1118
      refine d_val hF hch 3 rfl (by kernel_rfl) rfl rfl rfl (fun w hM => (r_indexZ (sz := 9) (f2 _ (hsub _ (dropM hM 2))) Tryz.underlying56 in128 rfl hF rfl rfl rfl (get_bd hx1118))) fun a hF => ?_
      refine d_val hF hch 4 rfl (by kernel_rfl) rfl rfl rfl (fun w hM => (r_loadn Tryz.isAgg128 Tryz.sizeOf128 hF rfl rfl (LTurn.len _) (((f2 _ (hsub _ (dropM hM 2))).elemS h0x1118.2)))) fun a hF => ?_
      refine d_val hF hch 5 rfl (by kernel_rfl) rfl rfl rfl (fun w hM => (r_fieldAddr (off' := 3) Tryz.underlying60 rfl in56 rfl hF rfl rfl rfl)) fun a hF => ?_
      refine d_val hF hch 6 rfl (by kernel_rfl) rfl rfl rfl (fun w hM => (r_load1 Tryz.isAgg56 hF rfl rfl (hM.cell (i := 0) rfl (RMark.g_regs _)))) fun a hF => ?_
      refine d_val hF hch 7 rfl (by kernel_rfl) rfl rfl rfl (fun w hM => (r_move hF rfl rfl)) fun a hF => ?_
      obtain ⟨x1119, hx1119, hP⟩ := bind_some hP
      have h0x1119 := get_some hx1119
      refine d_val hF hch 8 rfl (by kernel_rfl) rfl rfl rfl (fun w hM => (r_indexZ (sz := 9) (f12 _ (hsub _ (dropM hM 2))) Tryz.underlying56 in128 rfl hF rfl rfl rfl (get_bd hx1119))) fun a hF => ?_
      refine d_val hF hch 9 rfl (by kernel_rfl) rfl rfl rfl (fun w hM => (r_loadn Tryz.isAgg128 Tryz.sizeOf128 hF rfl rfl (LTurn.len _) (((f12 _ (hsub _ (dropM hM 2))).elemS h0x1119.2)))) fun a hF => ?_
      refine d_val hF hch 10 rfl (by kernel_rfl) rfl rfl rfl (fun w hM => (r_neqA Tryz.eqGuardType128 (eq_LTurn _ _ _ _ (by decide)) hF rfl rfl rfl)) fun a hF => ?_
      refine d_end hch (by kernel_rfl) fun w hM => ?_
      refine n_then ?_
      refine c_cond hF (c := .tmp 81) rfl (fun hb1120 => ?_) (fun hb1120 => ?_)
      · have hP := Fx.cT hb1120 hP
        refine c_seq ?_
        refine c_region ?_
        refine s_val hF (r_assign hF rfl rfl) rfl rfl rfl fun a hF => ?_
        refine c_nil (n_then ?_)
        refine c_ret ?_
        have hP := Option.some.inj hP
        subst hP
        have hP := hK_l3 _ rfl
        subst hP
        have hP := fin_inr hK_j2
        subst hP
        refine e_ret1 Tryz.results33 hF rfl ?_
        exact ⟨rfl, selM hM [] 2 rfl⟩
      have hP := Fx.cF hb1120 hP
      refine c_skip (n_block (n_then ?_))
      refine c_region ?_
      refine s_val hF (r_move hF rfl rfl) rfl rfl rfl fun a hF => ?_
      refine s_val hF (r_add hF rfl rfl rfl) rfl rfl rfl fun a hF => ?_
      refine s_val hF (r_assign hF rfl rfl) rfl rfl rfl fun a hF => ?_
      refine c_nil (n_then ?_)
      have hP := Option.some.inj hP
      subst hP
      exact ⟨(IntKind.i64.wrap (v1108 + 1)), rfl, hF.to ⟨rfl, rfl, rfl, rfl, trivial⟩, hM⟩
    have hP := Fx.cF hb1110 hP
    refine c_exit (x_then (x_then (x_hit ?_)))
    refine n_then ?_
    have hP := Option.some.inj hP
    subst hP
    have hP := hK_l3 _ rfl
    subst hP
    exact ⟨(), rfl, hF.to ⟨rfl, rfl, rfl, trivial⟩, hM⟩
  rintro ⟨⟩ a w hP ⟨hF, hM⟩
  replace hP : Sh.law23_sameMark_j2 x0 x1 = _ := hP
  unfold Sh.law23_sameMark_j2 at hP
  refine n_then ?_
  refine c_seq ?_
  refine c_joinX hF hM hP (fun F x a w => match x with | _ => Fr 145 [(2, .pointer (some ⟨b_B33_2, 0, none⟩)), (3, .pointer (some ⟨b_B33_3, 0, none⟩)), (4, .bool false)] a ∧ MemL w (pt b_B33_3 (RMark.enc (RMark.mk x1.at_ x1.next x1.done s11 s13 s15 s19)) 60 :: pt b_B33_2 (RMark.enc (RMark.mk x0.at_ x0.next x0.done s1 s3 s5 s9)) 60 :: Lr)) (fun o_j4 hP hK_j4 hF hM => ?_) ?_
  · refine c_seq ?_
    refine c_region ?_
    refine s_val hF (r_assign hF rfl rfl) rfl rfl rfl fun a hF => ?_
    refine c_nil (n_then ?_)
    refine c_block ?_
    refine c_loopX hF hM hP (fun F x a w => match x with | v1222 => Fr 145 [(6, .int .i64 v1222), (2, .pointer (some ⟨b_B33_2, 0, none⟩)), (3, .pointer (some ⟨b_B33_3, 0, none⟩)), (4, .bool false)] a ∧ MemL w (pt b_B33_3 (RMark.enc (RMark.mk x1.at_ x1.next x1.done s11 s13 s15 s19)) 60 :: pt b_B33_2 (RMark.enc (RMark.mk x0.at_ x0.next x0.done s1 s3 s5 s9)) 60 :: Lr)) (fun hF hM => ⟨hF.to ⟨rfl, rfl, rfl, rfl, trivial⟩, hM⟩) ?_
    rintro v1222 a w o_l5 hP hK_l5 ⟨hF, hM⟩
    replace hP : Sh.law23_sameMark_l5 x0 x1 v1222 = _ := hP
    unfold Sh.law23_sameMark_l5 at hP
    refine c_seq ?_
    refine c_seq ?_
    refine c_region ?_
    refine s_val hF (r_move hF rfl rfl) rfl rfl rfl fun a hF => ?_
    refine s_val hF (r_fieldAddr (off' := 4) Tryz.underlying60 rfl in57 rfl hF rfl rfl rfl) rfl rfl rfl fun a hF => ?_
    refine s_val hF (r_load1 Tryz.isAgg57 hF rfl rfl (hM.cell (i := 1) rfl (RMark.g_slots _))) rfl rfl rfl fun a hF => ?_
    refine s_val hF (r_lenL (f4 _ (hsub _ (dropM hM 2))) Tryz.underlying57 hF rfl rfl) rfl rfl rfl fun a hF => ?_
    refine s_val hF (r_lss hF rfl rfl rfl) rfl rfl rfl fun a hF => ?_
    refine c_nil (n_then ?_)
    refine c_cond hF (c := .tmp 86) rfl (fun hb1224 => ?_) (fun hb1224 => ?_)
    · have hP := Fx.cT hb1224 hP
      refine c_skip (n_then ?_)
      refine c_seq ?_
      refine c_block ?_
      refine c_seq ?_
      refine d_startT mixed (by kernel_rfl) hM [0, 1] 2 rfl fun hch => ?_
      refine d_val hF hch 0 rfl (by kernel_rfl) rfl rfl rfl (fun w hM => (r_fieldAddr (off' := 4) Tryz.underlying60 rfl in57 rfl hF rfl rfl rfl)) fun a hF => ?_
      refine d_val hF hch 1 rfl (by kernel_rfl) rfl rfl rfl (fun w hM => (r_load1 Tryz.isAgg57 hF rfl rfl (hM.cell (i := 1) rfl (RMark.g_slots _)))) fun a hF => ?_
      refine d_val hF hch 2 rfl (by kernel_rfl) rfl rfl rfl (fun w hM => (r_move hF rfl rfl)) fun a hF => ?_
      obtain ⟨x1232, hx1232, hP⟩ := bind_some hP
      have h0x1232 := get_some hx1232
      refine d_val hF hch 3 rfl (by kernel_rfl) rfl rfl rfl (fun w hM => (r_indexZ (sz := 27) (f4 _ (hsub _ (dropM hM 2))) Tryz.underlying57 in151 rfl hF rfl rfl rfl (get_bd hx1232))) fun a hF => ?_
      refine d_val hF hch 4 rfl (by kernel_rfl) rfl rfl rfl (fun w hM => (r_loadn Tryz.isAgg151 Tryz.sizeOf151 hF rfl rfl (LCell.len _) (((f4 _ (hsub _ (dropM hM 2))).elemS h0x1232.2)))) fun a hF => ?_
      refine d_val hF hch 5 rfl (by kernel_rfl) rfl rfl rfl (fun w hM => (r_fieldAddr (off' := 4) Tryz.underlying60 rfl in57 rfl hF rfl rfl rfl)) fun a hF => ?_
      refine d_val hF hch 6 rfl (by kernel_rfl) rfl rfl rfl (fun w hM => (r_load1 Tryz.isAgg57 hF rfl rfl (hM.cell (i := 0) rfl (RMark.g_slots _)))) fun a hF => ?_
      refine d_val hF hch 7 rfl (by kernel_rfl) rfl rfl rfl (fun w hM => (r_move hF rfl rfl)) fun a hF => ?_
      obtain ⟨x1233, hx1233, hP⟩ := bind_some hP
      have h0x1233 := get_some hx1233
      refine d_val hF hch 8 rfl (by kernel_rfl) rfl rfl rfl (fun w hM => (r_indexZ (sz := 27) (f14 _ (hsub _ (dropM hM 2))) Tryz.underlying57 in151 rfl hF rfl rfl rfl (get_bd hx1233))) fun a hF => ?_
      refine d_val hF hch 9 rfl (by kernel_rfl) rfl rfl rfl (fun w hM => (r_loadn Tryz.isAgg151 Tryz.sizeOf151 hF rfl rfl (LCell.len _) (((f14 _ (hsub _ (dropM hM 2))).elemS h0x1233.2)))) fun a hF => ?_
      refine d_val hF hch 10 rfl (by kernel_rfl) rfl rfl rfl (fun w hM => (r_neqA Tryz.eqGuardType151 (eq_LCell _ _ _ _ (by decide)) hF rfl rfl rfl)) fun a hF => ?_
      refine d_end hch (by kernel_rfl) fun w hM => ?_
      refine n_then ?_
      refine c_cond hF (c := .tmp 99) rfl (fun hb1234 => ?_) (fun hb1234 => ?_)
      · have hP := Fx.cT hb1234 hP
        refine c_seq ?_
        refine c_region ?_
        refine s_val hF (r_assign hF rfl rfl) rfl rfl rfl fun a hF => ?_
        refine c_nil (n_then ?_)
        refine c_ret ?_
        have hP := Option.some.inj hP
        subst hP
        have hP := hK_l5 _ rfl
        subst hP
        have hP := fin_inr hK_j4
        subst hP
        refine e_ret1 Tryz.results33 hF rfl ?_
        exact ⟨rfl, selM hM [] 2 rfl⟩
      have hP := Fx.cF hb1234 hP
      refine c_skip (n_block (n_then ?_))
      refine c_region ?_
      refine s_val hF (r_move hF rfl rfl) rfl rfl rfl fun a hF => ?_
      refine s_val hF (r_add hF rfl rfl rfl) rfl rfl rfl fun a hF => ?_
      refine s_val hF (r_assign hF rfl rfl) rfl rfl rfl fun a hF => ?_
      refine c_nil (n_then ?_)
      have hP := Option.some.inj hP
      subst hP
      exact ⟨(IntKind.i64.wrap (v1222 + 1)), rfl, hF.to ⟨rfl, rfl, rfl, rfl, trivial⟩, hM⟩
    have hP := Fx.cF hb1224 hP
    refine c_exit (x_then (x_then (x_hit ?_)))
    refine n_then ?_
    have hP := Option.some.inj hP
    subst hP
    have hP := hK_l5 _ rfl
    subst hP
    exact ⟨(), rfl, hF.to ⟨rfl, rfl, rfl, trivial⟩, hM⟩
  rintro ⟨⟩ a w hP ⟨hF, hM⟩
  replace hP : Sh.law23_sameMark_j4 x0 x1 = _ := hP
  unfold Sh.law23_sameMark_j4 at hP
  refine n_then ?_
  refine c_seq ?_
  refine c_joinX hF hM hP (fun F x a w => match x with | _ => Fr 145 [(4, .bool false)] a ∧ MemL w (Lr)) (fun o_j6 hP hK_j6 hF hM => ?_) ?_
  · refine c_seq ?_
    refine c_region ?_
    refine s_val hF (r_assign hF rfl rfl) rfl rfl rfl fun a hF => ?_
    refine c_nil (n_then ?_)
    refine c_block ?_
    refine c_loopX hF hM hP (fun F x a w => match x with | v1816 => Fr 145 [(7, .int .i64 v1816), (2, .pointer (some ⟨b_B33_2, 0, none⟩)), (3, .pointer (some ⟨b_B33_3, 0, none⟩)), (4, .bool false)] a ∧ MemL w (pt b_B33_3 (RMark.enc (RMark.mk x1.at_ x1.next x1.done s11 s13 s15 s19)) 60 :: pt b_B33_2 (RMark.enc (RMark.mk x0.at_ x0.next x0.done s1 s3 s5 s9)) 60 :: Lr)) (fun hF hM => ⟨hF.to ⟨rfl, rfl, rfl, rfl, trivial⟩, hM⟩) ?_
    rintro v1816 a w o_l7 hP hK_l7 ⟨hF, hM⟩
    replace hP : Sh.law23_sameMark_l7 x0 x1 v1816 = _ := hP
    unfold Sh.law23_sameMark_l7 at hP
    refine c_seq ?_
    refine c_seq ?_
    refine c_region ?_
    refine s_val hF (r_move hF rfl rfl) rfl rfl rfl fun a hF => ?_
    refine s_val hF (r_fieldAddr (off' := 5) Tryz.underlying60 rfl in58 rfl hF rfl rfl rfl) rfl rfl rfl fun a hF => ?_
    refine s_val hF (r_load1 Tryz.isAgg58 hF rfl rfl (hM.cell (i := 1) rfl (RMark.g_pieces _))) rfl rfl rfl fun a hF => ?_
    refine s_val hF (r_lenD (f7 _ (hsub _ (dropM hM 2))) q8.len Tryz.underlying58 hF rfl rfl) rfl rfl rfl fun a hF => ?_
    refine s_val hF (r_lss hF rfl rfl rfl) rfl rfl rfl fun a hF => ?_
    refine c_nil (n_then ?_)
    refine c_cond hF (c := .tmp 104) rfl (fun hb1818 => ?_) (fun hb1818 => ?_)
    · have hP := Fx.cT hb1818 hP
      refine c_skip (n_then ?_)
      refine c_seq ?_
      refine c_block ?_
      refine c_seq ?_
      refine c_region ?_
      refine s_val hF (r_fieldAddr (off' := 5) Tryz.underlying60 rfl in58 rfl hF rfl rfl rfl) rfl rfl rfl fun a hF => ?_
      refine s_val hF (r_load1 Tryz.isAgg58 hF rfl rfl (hM.cell (i := 1) rfl (RMark.g_pieces _))) rfl rfl rfl fun a hF => ?_
      refine s_val hF (r_move hF rfl rfl) rfl rfl rfl fun a hF => ?_
      obtain ⟨x1854, hx1854, hP⟩ := bind_some hP
      have h0x1854 := get_some hx1854
      obtain ⟨yx1854, hgx1854, hrx1854⟩ := Each.getr q8 h0x1854.2
      have hdx1854 := Each.bd q8 (get_bd hx1854)
      obtain ⟨s1855, s1857, rfl, f1856, f1858⟩ := hrx1854
      refine s_val hF (r_indexZ (sz := 4) (f7 _ (hsub _ (dropM hM 2))) Tryz.underlying58 in156 rfl hF rfl rfl rfl hdx1854) rfl rfl rfl fun a hF => ?_
      refine s_val hF (r_loadn Tryz.isAgg156 Tryz.sizeOf156 hF rfl rfl (RPiece.len _) (((f7 _ (hsub _ (dropM hM 2))).elemS hgx1854))) rfl rfl rfl fun a hF => ?_
      refine s_eff hF rfl rfl rfl (w_alloc z156 (zs := RPiece.zero.enc) rfl rfl fun b_B33_8 w hzB33_8 hAB33_8 => ?_)
      have hM := hM.plus hAB33_8
      replace hM : MemL _ (pt b_B33_8 (RPiece.enc (RPiece.mk 0 0 SV.nil SV.nil)) 156 :: pt b_B33_3 (RMark.enc (RMark.mk x1.at_ x1.next x1.done s11 s13 s15 s19)) 60 :: pt b_B33_2 (RMark.enc (RMark.mk x0.at_ x0.next x0.done s1 s3 s5 s9)) 60 :: Lr) := hM
      intro a hF
      refine s_eff0 rfl rfl (w_storen (vs := _) Tryz.sizeOf156 (hM.obj (i := 0) rfl) hF rfl rfl rfl rfl (RPiece.len _) (RPiece.one _) (by first | (rw [RPiece.len, RPiece.len]; decide) | (rw [RPiece.len]; decide)) (put_all ((RPiece.len _).trans (RPiece.len _).symm)) fun w hU1859 => ?_)
      have hM := hM.chg hU1859 (i := 0) rfl
      replace hM : MemL _ (pt b_B33_8 (RPiece.enc (RPiece.mk x1854.table x1854.from_ s1855 s1857)) 156 :: pt b_B33_3 (RMark.enc (RMark.mk x1.at_ x1.next x1.done s11 s13 s15 s19)) 60 :: pt b_B33_2 (RMark.enc (RMark.mk x0.at_ x0.next x0.done s1 s3 s5 s9)) 60 :: Lr) := hM
      refine c_nil (n_then ?_)
      refine c_seq ?_
      refine c_region ?_
      refine s_val hF (r_fieldAddr (off' := 5) Tryz.underlying60 rfl in58 rfl hF rfl rfl rfl) rfl rfl rfl fun a hF => ?_
      refine s_val hF (r_load1 Tryz.isAgg58 hF rfl rfl (hM.cell (i := 1) rfl (RMark.g_pieces _))) rfl rfl rfl fun a hF => ?_
      refine s_val hF (r_move hF rfl rfl) rfl rfl rfl fun a hF => ?_
      obtain ⟨x1860, hx1860, hP⟩ := bind_some hP
      have h0x1860 := get_some hx1860
      obtain ⟨yx1860, hgx1860, hrx1860⟩ := Each.getr q18 h0x1860.2
      have hdx1860 := Each.bd q18 (get_bd hx1860)
      obtain ⟨s1861, s1863, rfl, f1862, f1864⟩ := hrx1860
      refine s_val hF (r_indexZ (sz := 4) (f17 _ (hsub _ (dropM hM 3))) Tryz.underlying58 in156 rfl hF rfl rfl rfl hdx1860) rfl rfl rfl fun a hF => ?_
      refine s_val hF (r_loadn Tryz.isAgg156 Tryz.sizeOf156 hF rfl rfl (RPiece.len _) (((f17 _ (hsub _ (dropM hM 3))).elemS hgx1860))) rfl rfl rfl fun a hF => ?_
      refine s_eff hF rfl rfl rfl (w_alloc z156 (zs := RPiece.zero.enc) rfl rfl fun b_B33_9 w hzB33_9 hAB33_9 => ?_)
      have hM := hM.plus hAB33_9
      replace hM : MemL _ (pt b_B33_9 (RPiece.enc (RPiece.mk 0 0 SV.nil SV.nil)) 156 :: pt b_B33_8 (RPiece.enc (RPiece.mk x1854.table x1854.from_ s1855 s1857)) 156 :: pt b_B33_3 (RMark.enc (RMark.mk x1.at_ x1.next x1.done s11 s13 s15 s19)) 60 :: pt b_B33_2 (RMark.enc (RMark.mk x0.at_ x0.next x0.done s1 s3 s5 s9)) 60 :: Lr) := hM
      intro a hF
      refine s_eff0 rfl rfl (w_storen (vs := _) Tryz.sizeOf156 (hM.obj (i := 0) rfl) hF rfl rfl rfl rfl (RPiece.len _) (RPiece.one _) (by first | (rw [RPiece.len, RPiece.len]; decide) | (rw [RPiece.len]; decide)) (put_all ((RPiece.len _).trans (RPiece.len _).symm)) fun w hU1865 => ?_)
      have hM := hM.chg hU1865 (i := 0) rfl
      replace hM : MemL _ (pt b_B33_9 (RPiece.enc (RPiece.mk x1860.table x1860.from_ s1861 s1863)) 156 :: pt b_B33_8 (RPiece.enc (RPiece.mk x1854.table x1854.from_ s1855 s1857)) 156 :: pt b_B33_3 (RMark.enc (RMark.mk x1.at_ x1.next x1.done s11 s13 s15 s19)) 60 :: pt b_B33_2 (RMark.enc (RMark.mk x0.at_ x0.next x0.done s1 s3 s5 s9)) 60 :: Lr) := hM
      refine c_nil (n_then ?_)
      refine c_seq ?_
      refine c_joinX hF hM hP (fun F x a w => match x with | v1880 => Fr 145 [(144, .bool v1880), (2, .pointer (some ⟨b_B33_2, 0, none⟩)), (3, .pointer (some ⟨b_B33_3, 0, none⟩)), (4, .bool false), (7, .int .i64 v1816)] a ∧ MemL w (pt b_B33_3 (RMark.enc (RMark.mk x1.at_ x1.next x1.done s11 s13 s15 s19)) 60 :: pt b_B33_2 (RMark.enc (RMark.mk x0.at_ x0.next x0.done s1 s3 s5 s9)) 60 :: Lr)) (fun o_j8 hP hK_j8 hF hM => ?_) ?_
      · refine c_region ?_
        refine s_val hF (r_fieldAddr (off' := 0) Tryz.underlying156 rfl in3 rfl hF rfl rfl rfl) rfl rfl rfl fun a hF => ?_
        refine s_val hF (r_load1 Tryz.isAgg3 hF rfl rfl (hM.cell (i := 1) rfl (RPiece.g_table _))) rfl rfl rfl fun a hF => ?_
        refine s_val hF (r_fieldAddr (off' := 0) Tryz.underlying156 rfl in3 rfl hF rfl rfl rfl) rfl rfl rfl fun a hF => ?_
        refine s_val hF (r_load1 Tryz.isAgg3 hF rfl rfl (hM.cell (i := 0) rfl (RPiece.g_table _))) rfl rfl rfl fun a hF => ?_
        refine s_val hF (r_neq hF rfl rfl rfl) rfl rfl rfl fun a hF => ?_
        refine s_val hF (r_move hF rfl rfl) rfl rfl rfl fun a hF => ?_
        refine g_split 122 hF rfl (fun hb1881 => ?_) (fun hb1881 => ?_)
        · have hP := Fx.cT hb1881 hP
          refine g_skip hF rfl rfl rfl hb1881 rfl rfl fun a hF => ?_
          refine g_skip hF rfl rfl rfl hb1881 rfl rfl fun a hF => ?_
          refine g_skip hF rfl rfl rfl hb1881 rfl rfl fun a hF => ?_
          refine g_skip hF rfl rfl rfl hb1881 rfl rfl fun a hF => ?_
          refine g_skip hF rfl rfl rfl hb1881 rfl rfl fun a hF => ?_
          refine s_val hF (r_pick1 hF rfl rfl hb1881 rfl) rfl rfl rfl fun a hF => ?_
          refine s_val hF (r_move hF rfl rfl) rfl rfl rfl fun a hF => ?_
          refine g_skip hF rfl rfl rfl rfl rfl rfl fun a hF => ?_
          refine g_skip hF rfl rfl rfl rfl rfl rfl fun a hF => ?_
          refine g_skip hF rfl rfl rfl rfl rfl rfl fun a hF => ?_
          refine g_skip hF rfl rfl rfl rfl rfl rfl fun a hF => ?_
          refine g_skip hF rfl rfl rfl rfl rfl rfl fun a hF => ?_
          refine g_skip hF rfl rfl rfl rfl rfl rfl fun a hF => ?_
          refine s_val hF (r_pick1 hF rfl rfl rfl rfl) rfl rfl rfl fun a hF => ?_
          refine s_val hF (r_move hF rfl rfl) rfl rfl rfl fun a hF => ?_
          refine g_skip hF rfl rfl rfl rfl rfl rfl fun a hF => ?_
          refine g_skip hF rfl rfl rfl rfl rfl rfl fun a hF => ?_
          refine g_skip hF rfl rfl rfl rfl rfl rfl fun a hF => ?_
          refine g_skip hF rfl rfl rfl rfl rfl rfl fun a hF => ?_
          refine g_skip hF rfl rfl rfl rfl rfl rfl fun a hF => ?_
          refine g_skip hF rfl rfl rfl rfl rfl rfl fun a hF => ?_
          refine s_val hF (r_pick1 hF rfl rfl rfl rfl) rfl rfl rfl fun a hF => ?_
          refine c_nil (n_then ?_)
          have hP := Option.some.inj hP
          subst hP
          exact ⟨true, rfl, hF.to ⟨rfl, rfl, rfl, rfl, rfl, trivial⟩, selM hM [2, 3] 4 rfl⟩
        have hP := Fx.cF hb1881 hP
        refine g_val hF rfl rfl rfl hb1881 (r_fieldAddr (off' := 1) Tryz.underlying156 rfl in3 rfl hF rfl rfl rfl) rfl rfl fun a hF => ?_
        refine g_val hF rfl rfl rfl hb1881 (r_load1 Tryz.isAgg3 hF rfl rfl (hM.cell (i := 1) rfl (RPiece.g_from_ _))) rfl rfl fun a hF => ?_
        refine g_val hF rfl rfl rfl hb1881 (r_fieldAddr (off' := 1) Tryz.underlying156 rfl in3 rfl hF rfl rfl rfl) rfl rfl fun a hF => ?_
        refine g_val hF rfl rfl rfl hb1881 (r_load1 Tryz.isAgg3 hF rfl rfl (hM.cell (i := 0) rfl (RPiece.g_from_ _))) rfl rfl fun a hF => ?_
        refine g_val hF rfl rfl rfl hb1881 (r_neq hF rfl rfl rfl) rfl rfl fun a hF => ?_
        refine s_val hF (r_pick0 hF rfl rfl hb1881 rfl) rfl rfl rfl fun a hF => ?_
        refine s_val hF (r_move hF rfl rfl) rfl rfl rfl fun a hF => ?_
        refine g_split 129 hF rfl (fun hb1882 => ?_) (fun hb1882 => ?_)
        · have hP := Fx.cT hb1882 hP
          refine g_skip hF rfl rfl rfl hb1882 rfl rfl fun a hF => ?_
          refine g_skip hF rfl rfl rfl hb1882 rfl rfl fun a hF => ?_
          refine g_skip hF rfl rfl rfl hb1882 rfl rfl fun a hF => ?_
          refine g_skip hF rfl rfl rfl hb1882 rfl rfl fun a hF => ?_
          refine g_skip hF rfl rfl rfl hb1882 rfl rfl fun a hF => ?_
          refine g_skip hF rfl rfl rfl hb1882 rfl rfl fun a hF => ?_
          refine s_val hF (r_pick1 hF rfl rfl hb1882 rfl) rfl rfl rfl fun a hF => ?_
          refine s_val hF (r_move hF rfl rfl) rfl rfl rfl fun a hF => ?_
          refine g_skip hF rfl rfl rfl rfl rfl rfl fun a hF => ?_
          refine g_skip hF rfl rfl rfl rfl rfl rfl fun a hF => ?_
          refine g_skip hF rfl rfl rfl rfl rfl rfl fun a hF => ?_
          refine g_skip hF rfl rfl rfl rfl rfl rfl fun a hF => ?_
          refine g_skip hF rfl rfl rfl rfl rfl rfl fun a hF => ?_
          refine g_skip hF rfl rfl rfl rfl rfl rfl fun a hF => ?_
          refine s_val hF (r_pick1 hF rfl rfl rfl rfl) rfl rfl rfl fun a hF => ?_
          refine c_nil (n_then ?_)
          have hP := Option.some.inj hP
          subst hP
          exact ⟨true, rfl, hF.to ⟨rfl, rfl, rfl, rfl, rfl, trivial⟩, selM hM [2, 3] 4 rfl⟩
        have hP := Fx.cF hb1882 hP
        refine g_val hF rfl rfl rfl hb1882 (r_fieldAddr (off' := 2) Tryz.underlying156 rfl in23 rfl hF rfl rfl rfl) rfl rfl fun a hF => ?_
        refine g_val hF rfl rfl rfl hb1882 (r_load1 Tryz.isAgg23 hF rfl rfl (hM.cell (i := 1) rfl (RPiece.g_old _))) rfl rfl fun a hF => ?_
        refine g_val hF rfl rfl rfl hb1882 (r_fieldAddr (off' := 2) Tryz.underlying156 rfl in23 rfl hF rfl rfl rfl) rfl rfl fun a hF => ?_
        refine g_val hF rfl rfl rfl hb1882 (r_load1 Tryz.isAgg23 hF rfl rfl (hM.cell (i := 0) rfl (RPiece.g_old _))) rfl rfl fun a hF => ?_
        obtain ⟨y1884, hy1884, hP⟩ := bind_some hP
        refine g_eff hF rfl rfl rfl hb1882 rfl rfl (w_call (xs := [.tmp 131, .tmp 133]) Tryz.call43 hF rfl rfl (law00_SameBytes_calls hy1884 hM (Bf := Bf) (fun w hM => hsub _ (dropM hM 4)) f1856 f1862) fun v w hR => ?_)
        obtain ⟨rfl, hM⟩ := hR
        replace hM : MemL _ (pt b_B33_9 (RPiece.enc (RPiece.mk x1860.table x1860.from_ s1861 s1863)) 156 :: pt b_B33_8 (RPiece.enc (RPiece.mk x1854.table x1854.from_ s1855 s1857)) 156 :: pt b_B33_3 (RMark.enc (RMark.mk x1.at_ x1.next x1.done s11 s13 s15 s19)) 60 :: pt b_B33_2 (RMark.enc (RMark.mk x0.at_ x0.next x0.done s1 s3 s5 s9)) 60 :: Lr) := hM
        intro a hF
        refine g_val hF rfl rfl rfl hb1882 (r_not hF rfl rfl) rfl rfl fun a hF => ?_
        refine s_val hF (r_pick0 hF rfl rfl hb1882 rfl) rfl rfl rfl fun a hF => ?_
        refine s_val hF (r_move hF rfl rfl) rfl rfl rfl fun a hF => ?_
        refine g_split 137 hF rfl (fun hb1885 => ?_) (fun hb1885 => ?_)
        · have hP := Fx.cT hb1885 hP
          refine g_skip hF rfl rfl rfl hb1885 rfl rfl fun a hF => ?_
          refine g_skip hF rfl rfl rfl hb1885 rfl rfl fun a hF => ?_
          refine g_skip hF rfl rfl rfl hb1885 rfl rfl fun a hF => ?_
          refine g_skip hF rfl rfl rfl hb1885 rfl rfl fun a hF => ?_
          refine g_skip hF rfl rfl rfl hb1885 rfl rfl fun a hF => ?_
          refine g_skip hF rfl rfl rfl hb1885 rfl rfl fun a hF => ?_
          refine s_val hF (r_pick1 hF rfl rfl hb1885 rfl) rfl rfl rfl fun a hF => ?_
          refine c_nil (n_then ?_)
          have hP := Option.some.inj hP
          subst hP
          exact ⟨true, rfl, hF.to ⟨rfl, rfl, rfl, rfl, rfl, trivial⟩, selM hM [2, 3] 4 rfl⟩
        have hP := Fx.cF hb1885 hP
        refine g_val hF rfl rfl rfl hb1885 (r_fieldAddr (off' := 3) Tryz.underlying156 rfl in23 rfl hF rfl rfl rfl) rfl rfl fun a hF => ?_
        refine g_val hF rfl rfl rfl hb1885 (r_load1 Tryz.isAgg23 hF rfl rfl (hM.cell (i := 1) rfl (RPiece.g_new _))) rfl rfl fun a hF => ?_
        refine g_val hF rfl rfl rfl hb1885 (r_fieldAddr (off' := 3) Tryz.underlying156 rfl in23 rfl hF rfl rfl rfl) rfl rfl fun a hF => ?_
        refine g_val hF rfl rfl rfl hb1885 (r_load1 Tryz.isAgg23 hF rfl rfl (hM.cell (i := 0) rfl (RPiece.g_new _))) rfl rfl fun a hF => ?_
        obtain ⟨y1887, hy1887, hP⟩ := bind_some hP
        refine g_eff hF rfl rfl rfl hb1885 rfl rfl (w_call (xs := [.tmp 139, .tmp 141]) Tryz.call43 hF rfl rfl (law00_SameBytes_calls hy1887 hM (Bf := Bf) (fun w hM => hsub _ (dropM hM 4)) f1858 f1864) fun v w hR => ?_)
        obtain ⟨rfl, hM⟩ := hR
        replace hM : MemL _ (pt b_B33_9 (RPiece.enc (RPiece.mk x1860.table x1860.from_ s1861 s1863)) 156 :: pt b_B33_8 (RPiece.enc (RPiece.mk x1854.table x1854.from_ s1855 s1857)) 156 :: pt b_B33_3 (RMark.enc (RMark.mk x1.at_ x1.next x1.done s11 s13 s15 s19)) 60 :: pt b_B33_2 (RMark.enc (RMark.mk x0.at_ x0.next x0.done s1 s3 s5 s9)) 60 :: Lr) := hM
        intro a hF
        refine g_val hF rfl rfl rfl hb1885 (r_not hF rfl rfl) rfl rfl fun a hF => ?_
        refine s_val hF (r_pick0 hF rfl rfl hb1885 rfl) rfl rfl rfl fun a hF => ?_
        refine c_nil (n_then ?_)
        have hP := Option.some.inj hP
        subst hP
        exact ⟨(!y1887), rfl, hF.to ⟨rfl, rfl, rfl, rfl, rfl, trivial⟩, selM hM [2, 3] 4 rfl⟩
      rintro v1880 a w hP ⟨hF, hM⟩
      replace hP : Sh.law23_sameMark_j8 v1816 v1880 = _ := hP
      unfold Sh.law23_sameMark_j8 at hP
      refine n_then ?_
      refine c_cond hF (c := .tmp 144) rfl (fun hb1888 => ?_) (fun hb1888 => ?_)
      · have hP := Fx.cT hb1888 hP
        refine c_seq ?_
        refine c_region ?_
        refine s_val hF (r_assign hF rfl rfl) rfl rfl rfl fun a hF => ?_
        refine c_nil (n_then ?_)
        refine c_ret ?_
        have hP := Option.some.inj hP
        subst hP
        have hP := hK_l7 _ rfl
        subst hP
        have hP := fin_inr hK_j6
        subst hP
        refine e_ret1 Tryz.results33 hF rfl ?_
        exact ⟨rfl, selM hM [] 2 rfl⟩
      have hP := Fx.cF hb1888 hP
      refine c_skip (n_block (n_then ?_))
      refine c_region ?_
      refine s_val hF (r_move hF rfl rfl) rfl rfl rfl fun a hF => ?_
      refine s_val hF (r_add hF rfl rfl rfl) rfl rfl rfl fun a hF => ?_
      refine s_val hF (r_assign hF rfl rfl) rfl rfl rfl fun a hF => ?_
      refine c_nil (n_then ?_)
      have hP := Option.some.inj hP
      subst hP
      exact ⟨(IntKind.i64.wrap (v1816 + 1)), rfl, hF.to ⟨rfl, rfl, rfl, rfl, trivial⟩, hM⟩
    have hP := Fx.cF hb1818 hP
    refine c_exit (x_then (x_then (x_hit ?_)))
    refine n_then ?_
    have hP := Option.some.inj hP
    subst hP
    have hP := hK_l7 _ rfl
    subst hP
    exact ⟨(), rfl, hF.to ⟨rfl, trivial⟩, selM hM [] 2 rfl⟩
  rintro ⟨⟩ a w hP ⟨hF, hM⟩
  replace hP : Sh.law23_sameMark_j6 = _ := hP
  unfold Sh.law23_sameMark_j6 at hP
  refine n_then ?_
  refine c_seq ?_
  refine c_region ?_
  refine s_val hF (r_assign hF rfl rfl) rfl rfl rfl fun a hF => ?_
  refine c_nil (n_then ?_)
  refine c_ret ?_
  have hP := Option.some.inj hP
  subst hP
  refine e_ret1 Tryz.results33 hF rfl ?_
  exact ⟨rfl, hM⟩
set_option maxHeartbeats 4000000 in
theorem law23_sameRecord_calls {x0 : QRecord} {x1 : QRecord} {s1 : SV} {s3 : SV} {hs4 : List SV} {s7 : SV} {hs8 : List RMark} {s11 : SV} {s13 : SV} {hs14 : List SV} {s17 : SV} {hs18 : List RMark} {out : Bool} {w0 : World} {Bf : World → Prop} {Lr : List Res} (hP : Sh.law23_sameRecord x0 x1 = some out) (hM : MemL w0 (Lr)) (hsub : ∀ w, MemL w Lr → Bf w) (f2 : LIn Bf s1 x0.in_.ctx) (f5 : LIn Bf s3 hs4) (q6 : Each (LIn (X := UInt8) Bf) hs4 x0.in_.tables) (f9 : LIn Bf s7 hs8) (q10 : Each (QMarkIn Bf) hs8 x0.marks) (f12 : LIn Bf s11 x1.in_.ctx) (f15 : LIn Bf s13 hs14) (q16 : Each (LIn (X := UInt8) Bf) hs14 x1.in_.tables) (f19 : LIn Bf s17 hs18) (q20 : Each (QMarkIn Bf) hs18 x1.marks) : Calls Tryz.prog 27 #[.agg (RRecord.enc (RRecord.mk (RInput.mk s1 s3) s7 x0.end_)).toArray, .agg (RRecord.enc (RRecord.mk (RInput.mk s11 s13) s17 x1.end_)).toArray] w0 (Ret fun v w' => v = .bool out ∧ MemL w' (Lr)) := by
  unfold Sh.law23_sameRecord at hP
  refine calls_enter (vs := [.agg (RRecord.enc (RRecord.mk (RInput.mk s1 s3) s7 x0.end_)).toArray, .agg (RRecord.enc (RRecord.mk (RInput.mk s11 s13) s17 x1.end_)).toArray]) Tryz.func27 rfl Tryz.ntmps27 rfl fun a hF => ?_
  refine c_seq ?_
  refine c_region ?_
  refine s_eff hF rfl rfl rfl (w_box hF rfl rfl rfl fun b_B27_2 w hzB27_2 hAB27_2 => ?_)
  have hM := hM.plus hAB27_2
  replace hM : MemL _ (pt b_B27_2 (RRecord.enc (RRecord.mk (RInput.mk s1 s3) s7 x0.end_)) 36 :: Lr) := hM
  intro a hF
  refine s_eff hF rfl rfl rfl (w_box hF rfl rfl rfl fun b_B27_3 w hzB27_3 hAB27_3 => ?_)
  have hM := hM.plus hAB27_3
  replace hM : MemL _ (pt b_B27_3 (RRecord.enc (RRecord.mk (RInput.mk s11 s13) s17 x1.end_)) 36 :: pt b_B27_2 (RRecord.enc (RRecord.mk (RInput.mk s1 s3) s7 x0.end_)) 36 :: Lr) := hM
  intro a hF
  refine s_val hF (r_assign hF rfl rfl) rfl rfl rfl fun a hF => ?_
  refine c_nil (n_then ?_)
  refine c_seq ?_
  refine c_seq ?_
  refine c_joinX hF hM hP (fun F x a w => match x with | v977 => Fr 47 [(27, .bool v977), (2, .pointer (some ⟨b_B27_2, 0, none⟩)), (3, .pointer (some ⟨b_B27_3, 0, none⟩)), (4, .bool false)] a ∧ MemL w (pt b_B27_3 (RRecord.enc (RRecord.mk (RInput.mk s11 s13) s17 x1.end_)) 36 :: pt b_B27_2 (RRecord.enc (RRecord.mk (RInput.mk s1 s3) s7 x0.end_)) 36 :: Lr)) (fun o_j1 hP hK_j1 hF hM => ?_) ?_
  · refine c_region ?_
    refine s_val hF (r_fieldAddr (off' := 3) Tryz.underlying36 rfl in34 rfl hF rfl rfl rfl) rfl rfl rfl fun a hF => ?_
    refine s_val hF (r_load1 Tryz.isAgg34 hF rfl rfl (hM.cell (i := 1) rfl (RRecord.g_end_ _))) rfl rfl rfl fun a hF => ?_
    refine s_val hF (r_fieldAddr (off' := 3) Tryz.underlying36 rfl in34 rfl hF rfl rfl rfl) rfl rfl rfl fun a hF => ?_
    refine s_val hF (r_load1 Tryz.isAgg34 hF rfl rfl (hM.cell (i := 0) rfl (RRecord.g_end_ _))) rfl rfl rfl fun a hF => ?_
    refine s_val hF (r_neq hF rfl rfl rfl) rfl rfl rfl fun a hF => ?_
    refine s_val hF (r_move hF rfl rfl) rfl rfl rfl fun a hF => ?_
    refine g_split 11 hF rfl (fun hb978 => ?_) (fun hb978 => ?_)
    · have hP := Fx.cT hb978 hP
      refine g_skip hF rfl rfl rfl hb978 rfl rfl fun a hF => ?_
      refine g_skip hF rfl rfl rfl hb978 rfl rfl fun a hF => ?_
      refine g_skip hF rfl rfl rfl hb978 rfl rfl fun a hF => ?_
      refine g_skip hF rfl rfl rfl hb978 rfl rfl fun a hF => ?_
      refine g_skip hF rfl rfl rfl hb978 rfl rfl fun a hF => ?_
      refine g_skip hF rfl rfl rfl hb978 rfl rfl fun a hF => ?_
      refine g_skip hF rfl rfl rfl hb978 rfl rfl fun a hF => ?_
      refine s_val hF (r_pick1 hF rfl rfl hb978 rfl) rfl rfl rfl fun a hF => ?_
      refine s_val hF (r_move hF rfl rfl) rfl rfl rfl fun a hF => ?_
      refine g_skip hF rfl rfl rfl rfl rfl rfl fun a hF => ?_
      refine g_skip hF rfl rfl rfl rfl rfl rfl fun a hF => ?_
      refine g_skip hF rfl rfl rfl rfl rfl rfl fun a hF => ?_
      refine g_skip hF rfl rfl rfl rfl rfl rfl fun a hF => ?_
      refine g_skip hF rfl rfl rfl rfl rfl rfl fun a hF => ?_
      refine g_skip hF rfl rfl rfl rfl rfl rfl fun a hF => ?_
      refine s_val hF (r_pick1 hF rfl rfl rfl rfl) rfl rfl rfl fun a hF => ?_
      refine c_nil (n_then ?_)
      have hP := Option.some.inj hP
      subst hP
      exact ⟨true, rfl, hF.to ⟨rfl, rfl, rfl, rfl, trivial⟩, hM⟩
    have hP := Fx.cF hb978 hP
    refine g_val hF rfl rfl rfl hb978 (r_fieldAddr (off' := 2) Tryz.underlying36 rfl in33 rfl hF rfl rfl rfl) rfl rfl fun a hF => ?_
    refine g_val hF rfl rfl rfl hb978 (r_load1 Tryz.isAgg33 hF rfl rfl (hM.cell (i := 1) rfl (RRecord.g_marks _))) rfl rfl fun a hF => ?_
    refine g_val hF rfl rfl rfl hb978 (r_lenD (f9 _ (hsub _ (dropM hM 2))) q10.len Tryz.underlying33 hF rfl rfl) rfl rfl fun a hF => ?_
    refine g_val hF rfl rfl rfl hb978 (r_fieldAddr (off' := 2) Tryz.underlying36 rfl in33 rfl hF rfl rfl rfl) rfl rfl fun a hF => ?_
    refine g_val hF rfl rfl rfl hb978 (r_load1 Tryz.isAgg33 hF rfl rfl (hM.cell (i := 0) rfl (RRecord.g_marks _))) rfl rfl fun a hF => ?_
    refine g_val hF rfl rfl rfl hb978 (r_lenD (f19 _ (hsub _ (dropM hM 2))) q20.len Tryz.underlying33 hF rfl rfl) rfl rfl fun a hF => ?_
    refine g_val hF rfl rfl rfl hb978 (r_neq hF rfl rfl rfl) rfl rfl fun a hF => ?_
    refine s_val hF (r_pick0 hF rfl rfl hb978 rfl) rfl rfl rfl fun a hF => ?_
    refine s_val hF (r_move hF rfl rfl) rfl rfl rfl fun a hF => ?_
    refine g_split 20 hF rfl (fun hb979 => ?_) (fun hb979 => ?_)
    · have hP := Fx.cT hb979 hP
      refine g_skip hF rfl rfl rfl hb979 rfl rfl fun a hF => ?_
      refine g_skip hF rfl rfl rfl hb979 rfl rfl fun a hF => ?_
      refine g_skip hF rfl rfl rfl hb979 rfl rfl fun a hF => ?_
      refine g_skip hF rfl rfl rfl hb979 rfl rfl fun a hF => ?_
      refine g_skip hF rfl rfl rfl hb979 rfl rfl fun a hF => ?_
      refine g_skip hF rfl rfl rfl hb979 rfl rfl fun a hF => ?_
      refine s_val hF (r_pick1 hF rfl rfl hb979 rfl) rfl rfl rfl fun a hF => ?_
      refine c_nil (n_then ?_)
      have hP := Option.some.inj hP
      subst hP
      exact ⟨true, rfl, hF.to ⟨rfl, rfl, rfl, rfl, trivial⟩, hM⟩
    have hP := Fx.cF hb979 hP
    refine g_val hF rfl rfl rfl hb979 (r_fieldAddr (off' := 0) Tryz.underlying36 rfl in30 rfl hF rfl rfl rfl) rfl rfl fun a hF => ?_
    refine g_val hF rfl rfl rfl hb979 (r_loadn Tryz.isAgg30 Tryz.sizeOf30 hF rfl rfl (RInput.len _) (hM.cells (i := 1) rfl (RRecord.c_in_ _))) rfl rfl fun a hF => ?_
    refine g_val hF rfl rfl rfl hb979 (r_fieldAddr (off' := 0) Tryz.underlying36 rfl in30 rfl hF rfl rfl rfl) rfl rfl fun a hF => ?_
    refine g_val hF rfl rfl rfl hb979 (r_loadn Tryz.isAgg30 Tryz.sizeOf30 hF rfl rfl (RInput.len _) (hM.cells (i := 0) rfl (RRecord.c_in_ _))) rfl rfl fun a hF => ?_
    obtain ⟨y981, hy981, hP⟩ := bind_some hP
    refine g_eff hF rfl rfl rfl hb979 rfl rfl (w_call (xs := [.tmp 22, .tmp 24]) Tryz.call29 hF rfl rfl (law00_SameInput_calls hy981 hM (Bf := Bf) (fun w hM => hsub _ (dropM hM 2)) f2 f5 q6 f12 f15 q16) fun v w hR => ?_)
    obtain ⟨rfl, hM⟩ := hR
    replace hM : MemL _ (pt b_B27_3 (RRecord.enc (RRecord.mk (RInput.mk s11 s13) s17 x1.end_)) 36 :: pt b_B27_2 (RRecord.enc (RRecord.mk (RInput.mk s1 s3) s7 x0.end_)) 36 :: Lr) := hM
    intro a hF
    refine g_val hF rfl rfl rfl hb979 (r_not hF rfl rfl) rfl rfl fun a hF => ?_
    refine s_val hF (r_pick0 hF rfl rfl hb979 rfl) rfl rfl rfl fun a hF => ?_
    refine c_nil (n_then ?_)
    have hP := Option.some.inj hP
    subst hP
    exact ⟨(!y981), rfl, hF.to ⟨rfl, rfl, rfl, rfl, trivial⟩, hM⟩
  rintro v977 a w hP ⟨hF, hM⟩
  replace hP : Sh.law23_sameRecord_j1 x0 x1 v977 = _ := hP
  unfold Sh.law23_sameRecord_j1 at hP
  refine n_then ?_
  refine c_cond hF (c := .tmp 27) rfl (fun hb982 => ?_) (fun hb982 => ?_)
  · have hP := Fx.cT hb982 hP
    refine c_seq ?_
    refine c_region ?_
    refine s_val hF (r_assign hF rfl rfl) rfl rfl rfl fun a hF => ?_
    refine c_nil (n_then ?_)
    refine c_ret ?_
    have hP := Option.some.inj hP
    subst hP
    refine e_ret1 Tryz.results27 hF rfl ?_
    exact ⟨rfl, selM hM [] 2 rfl⟩
  have hP := Fx.cF hb982 hP
  refine c_skip (n_then ?_)
  refine c_seq ?_
  refine c_joinX hF hM hP (fun F x a w => match x with | _ => Fr 47 [(4, .bool false)] a ∧ MemL w (Lr)) (fun o_j2 hP hK_j2 hF hM => ?_) ?_
  · refine c_seq ?_
    refine c_region ?_
    refine s_val hF (r_assign hF rfl rfl) rfl rfl rfl fun a hF => ?_
    refine c_nil (n_then ?_)
    refine c_block ?_
    refine c_loopX hF hM hP (fun F x a w => match x with | v1788 => Fr 47 [(5, .int .i64 v1788), (2, .pointer (some ⟨b_B27_2, 0, none⟩)), (3, .pointer (some ⟨b_B27_3, 0, none⟩)), (4, .bool false)] a ∧ MemL w (pt b_B27_3 (RRecord.enc (RRecord.mk (RInput.mk s11 s13) s17 x1.end_)) 36 :: pt b_B27_2 (RRecord.enc (RRecord.mk (RInput.mk s1 s3) s7 x0.end_)) 36 :: Lr)) (fun hF hM => ⟨hF.to ⟨rfl, rfl, rfl, rfl, trivial⟩, hM⟩) ?_
    rintro v1788 a w o_l3 hP hK_l3 ⟨hF, hM⟩
    replace hP : Sh.law23_sameRecord_l3 x0 x1 v1788 = _ := hP
    unfold Sh.law23_sameRecord_l3 at hP
    refine c_seq ?_
    refine c_seq ?_
    refine c_region ?_
    refine s_val hF (r_move hF rfl rfl) rfl rfl rfl fun a hF => ?_
    refine s_val hF (r_fieldAddr (off' := 2) Tryz.underlying36 rfl in33 rfl hF rfl rfl rfl) rfl rfl rfl fun a hF => ?_
    refine s_val hF (r_load1 Tryz.isAgg33 hF rfl rfl (hM.cell (i := 1) rfl (RRecord.g_marks _))) rfl rfl rfl fun a hF => ?_
    refine s_val hF (r_lenD (f9 _ (hsub _ (dropM hM 2))) q10.len Tryz.underlying33 hF rfl rfl) rfl rfl rfl fun a hF => ?_
    refine s_val hF (r_lss hF rfl rfl rfl) rfl rfl rfl fun a hF => ?_
    refine c_nil (n_then ?_)
    refine c_cond hF (c := .tmp 32) rfl (fun hb1790 => ?_) (fun hb1790 => ?_)
    · have hP := Fx.cT hb1790 hP
      refine c_skip (n_then ?_)
      refine c_seq ?_
      refine c_block ?_
      refine c_seq ?_
      refine d_startT mixed (by kernel_rfl) hM [0, 1] 2 rfl fun hch => ?_
      refine d_val hF hch 0 rfl (by kernel_rfl) rfl rfl rfl (fun w hM => (r_fieldAddr (off' := 2) Tryz.underlying36 rfl in33 rfl hF rfl rfl rfl)) fun a hF => ?_
      refine d_val hF hch 1 rfl (by kernel_rfl) rfl rfl rfl (fun w hM => (r_load1 Tryz.isAgg33 hF rfl rfl (hM.cell (i := 1) rfl (RRecord.g_marks _)))) fun a hF => ?_
      refine d_val hF hch 2 rfl (by kernel_rfl) rfl rfl rfl (fun w hM => (r_move hF rfl rfl)) fun a hF => ?_
      obtain ⟨x1864, hx1864, hP⟩ := bind_some hP
      have h0x1864 := get_some hx1864
      obtain ⟨yx1864, hgx1864, hrx1864⟩ := Each.getr q10 h0x1864.2
      have hdx1864 := Each.bd q10 (get_bd hx1864)
      obtain ⟨s1865, s1867, s1869, hs1870, s1873, rfl, f1866, f1868, f1871, q1872, f1874⟩ := hrx1864
      refine d_val hF hch 3 rfl (by kernel_rfl) rfl rfl rfl (fun w hM => (r_indexZ (sz := 7) (f9 _ (hsub _ (dropM hM 2))) Tryz.underlying33 in60 rfl hF rfl rfl rfl hdx1864)) fun a hF => ?_
      refine d_val hF hch 4 rfl (by kernel_rfl) rfl rfl rfl (fun w hM => (r_loadn Tryz.isAgg60 Tryz.sizeOf60 hF rfl rfl (RMark.len _) (((f9 _ (hsub _ (dropM hM 2))).elemS hgx1864)))) fun a hF => ?_
      refine d_val hF hch 5 rfl (by kernel_rfl) rfl rfl rfl (fun w hM => (r_fieldAddr (off' := 2) Tryz.underlying36 rfl in33 rfl hF rfl rfl rfl)) fun a hF => ?_
      refine d_val hF hch 6 rfl (by kernel_rfl) rfl rfl rfl (fun w hM => (r_load1 Tryz.isAgg33 hF rfl rfl (hM.cell (i := 0) rfl (RRecord.g_marks _)))) fun a hF => ?_
      refine d_val hF hch 7 rfl (by kernel_rfl) rfl rfl rfl (fun w hM => (r_move hF rfl rfl)) fun a hF => ?_
      obtain ⟨x1875, hx1875, hP⟩ := bind_some hP
      have h0x1875 := get_some hx1875
      obtain ⟨yx1875, hgx1875, hrx1875⟩ := Each.getr q20 h0x1875.2
      have hdx1875 := Each.bd q20 (get_bd hx1875)
      obtain ⟨s1876, s1878, s1880, hs1881, s1884, rfl, f1877, f1879, f1882, q1883, f1885⟩ := hrx1875
      refine d_val hF hch 8 rfl (by kernel_rfl) rfl rfl rfl (fun w hM => (r_indexZ (sz := 7) (f19 _ (hsub _ (dropM hM 2))) Tryz.underlying33 in60 rfl hF rfl rfl rfl hdx1875)) fun a hF => ?_
      refine d_val hF hch 9 rfl (by kernel_rfl) rfl rfl rfl (fun w hM => (r_loadn Tryz.isAgg60 Tryz.sizeOf60 hF rfl rfl (RMark.len _) (((f19 _ (hsub _ (dropM hM 2))).elemS hgx1875)))) fun a hF => ?_
      refine d_one hch 10 (by kernel_rfl) rfl rfl ?_
      refine d_ex hF 10 rfl rfl rfl rfl rfl fun w hMs hM => ?_
      obtain ⟨y1887, hy1887, hP⟩ := bind_some hP
      refine (w_call (xs := [.tmp 39, .tmp 44]) Tryz.call33 hF rfl rfl (law23_sameMark_calls hy1887 hM (Bf := Bf) (fun w hM => hsub _ (dropM hM 2)) f1866 f1868 f1871 q1872 f1874 f1877 f1879 f1882 q1883 f1885) fun v w hR => ?_)
      obtain ⟨rfl, hM⟩ := hR
      replace hM : MemL _ (pt b_B27_3 (RRecord.enc (RRecord.mk (RInput.mk s11 s13) s17 x1.end_)) 36 :: pt b_B27_2 (RRecord.enc (RRecord.mk (RInput.mk s1 s3) s7 x0.end_)) 36 :: Lr) := hM
      have hMs := selM hM [0, 1] 2 rfl
      refine ⟨_, _, hMs, hM, .inl fun _ h => h, fun a hF => ?_⟩
      refine d_val hF hch 11 rfl (by kernel_rfl) rfl rfl rfl (fun w hM => (r_not hF rfl rfl)) fun a hF => ?_
      refine d_end hch (by kernel_rfl) fun w hM => ?_
      refine n_then ?_
      refine c_cond hF (c := .tmp 46) rfl (fun hb1888 => ?_) (fun hb1888 => ?_)
      · have hP := Fx.cT hb1888 hP
        refine c_seq ?_
        refine c_region ?_
        refine s_val hF (r_assign hF rfl rfl) rfl rfl rfl fun a hF => ?_
        refine c_nil (n_then ?_)
        refine c_ret ?_
        have hP := Option.some.inj hP
        subst hP
        have hP := hK_l3 _ rfl
        subst hP
        have hP := fin_inr hK_j2
        subst hP
        refine e_ret1 Tryz.results27 hF rfl ?_
        exact ⟨rfl, selM hM [] 2 rfl⟩
      have hP := Fx.cF hb1888 hP
      refine c_skip (n_block (n_then ?_))
      refine c_region ?_
      refine s_val hF (r_move hF rfl rfl) rfl rfl rfl fun a hF => ?_
      refine s_val hF (r_add hF rfl rfl rfl) rfl rfl rfl fun a hF => ?_
      refine s_val hF (r_assign hF rfl rfl) rfl rfl rfl fun a hF => ?_
      refine c_nil (n_then ?_)
      have hP := Option.some.inj hP
      subst hP
      exact ⟨(IntKind.i64.wrap (v1788 + 1)), rfl, hF.to ⟨rfl, rfl, rfl, rfl, trivial⟩, hM⟩
    have hP := Fx.cF hb1790 hP
    refine c_exit (x_then (x_then (x_hit ?_)))
    refine n_then ?_
    have hP := Option.some.inj hP
    subst hP
    have hP := hK_l3 _ rfl
    subst hP
    exact ⟨(), rfl, hF.to ⟨rfl, trivial⟩, selM hM [] 2 rfl⟩
  rintro ⟨⟩ a w hP ⟨hF, hM⟩
  replace hP : Sh.law23_sameRecord_j2 = _ := hP
  unfold Sh.law23_sameRecord_j2 at hP
  refine n_then ?_
  refine c_seq ?_
  refine c_region ?_
  refine s_val hF (r_assign hF rfl rfl) rfl rfl rfl fun a hF => ?_
  refine c_nil (n_then ?_)
  refine c_ret ?_
  have hP := Option.some.inj hP
  subst hP
  refine e_ret1 Tryz.results27 hF rfl ?_
  exact ⟨rfl, hM⟩
end Go.Proofs
end
section
namespace Go.Ev
set_option linter.unusedVariables false
set_option linter.unusedSimpArgs false
open Go.Fw Go.Proofs
set_option maxRecDepth 1000000
theorem known_ev : okT (acall (tabOf Tryz.prog) 1000 40 [] (.f 22 [] []) [] { h := .e, nx := 0 }) = true := by kernel_rfl
end Go.Ev
end
section
namespace Go.Proofs
open Go.Fw Go.Fx
theorem law23_known_calls {out : Bool} {w0 : World} {Lr : List Res} (hP : Sh.law23_known = some out) (hM : MemL w0 Lr) : Calls Tryz.prog 22 #[] w0 (Ret fun v w' => v = .bool out ∧ MemL w' Lr) := by
  cases hP
  refine Calls.mono (Go.Ev.closed_true (fuel := 1000) (k := 40) (by kernel_rfl) Go.Ev.known_ev w0) fun e w' he => ?_
  cases e <;> first
    | exact ⟨he.1, hM.keep he.2⟩
    | exact he
end Go.Proofs
end
