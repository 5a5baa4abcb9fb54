/- Ground for this claim: The call of TraceDiffs returns true. Condition: the arguments are of bulk at most 1048576. -/
import Derived.Test.YtmgnkohlfbjjnaaGreatRProg
import Derived.KernelRfl
import Derived.Test.YtmgnkohlfbjjnaaGreatRTdf5
section
namespace Go.Proofs
open Go.Fw
set_option maxRecDepth 20000
theorem mixed : Tryz.prog.follows .mixedOrders = true := by kernel_rfl
theorem eq_LVal (d : Nat) (x y : LVal) (w : World) (hd : 3 ≤ d) : (Op.equalIn d 46 (.agg x.enc.toArray) (.agg y.enc.toArray)).run Tryz.prog w = .ok (decide (x = y)) w := by
  obtain ⟨d, rfl⟩ : ∃ d', d = d' + 1 := ⟨d - 1, by omega⟩
  rw [run_equalIn_struct w d 46 _ _ (by simp only [Program.fieldsOf, Tryz.underlying46]) Tryz.stoodInHeld46]
  simp only [Program.fieldsOf, Tryz.underlying46]
  have key : (x = y) ↔ x.kind = y.kind ∧ x.table = y.table ∧ x.row = y.row ∧ x.x = y.x := by cases x; cases y; simp
  rw [eqFields_one (by decide) Tryz.isAgg3 (LVal.g_kind x) (LVal.g_kind y) ((EqSpec.int (k := .i64) Tryz.underlying3) d _ _ w (by omega))]
  rw [eqFields_one (by decide) Tryz.isAgg3 (LVal.g_table x) (LVal.g_table y) ((EqSpec.int (k := .i64) Tryz.underlying3) d _ _ w (by omega))]
  rw [eqFields_one (by decide) Tryz.isAgg3 (LVal.g_row x) (LVal.g_row y) ((EqSpec.int (k := .i64) Tryz.underlying3) d _ _ w (by omega))]
  rw [eqFields_one (by decide) Tryz.isAgg3 (LVal.g_x x) (LVal.g_x y) ((EqSpec.int (k := .i64) Tryz.underlying3) d _ _ w (by omega))]
  rw [eqFields_nil]
  simp only [decide_eq_true_eq, key]
  repeat' split
  all_goals simp_all
theorem eq_arr48 : ∀ (d : Nat) (x y : Vec UInt8 8) (w : World), 2 ≤ d → (Op.equalIn d 48 (.agg (encs x.l).toArray) (.agg (encs y.l).toArray)).run Tryz.prog w = .ok (decide (x = y)) w :=
  EqSpec.vecOne Tryz.underlying48 Tryz.sizeOf5 rfl Tryz.isAgg5 (fun _ => rfl) (EqSpec.u8 Tryz.underlying5)
theorem eq_LSlot (d : Nat) (x y : LSlot) (w : World) (hd : 6 ≤ d) : (Op.equalIn d 50 (.agg x.enc.toArray) (.agg y.enc.toArray)).run Tryz.prog w = .ok (decide (x = y)) w := by
  obtain ⟨d, rfl⟩ : ∃ d', d = d' + 1 := ⟨d - 1, by omega⟩
  rw [run_equalIn_struct w d 50 _ _ (by simp only [Program.fieldsOf, Tryz.underlying50]) Tryz.stoodInHeld50]
  simp only [Program.fieldsOf, Tryz.underlying50]
  have key : (x = y) ↔ x.ptr = y.ptr ∧ x.bytes = y.bytes ∧ x.mask = y.mask := by cases x; cases y; simp
  rw [eqFields_agg (by decide) Tryz.isAgg46 Tryz.sizeOf46 (LSlot.c_ptr x) (LSlot.c_ptr y) (eq_LVal d _ _ w (by omega))]
  rw [eqFields_agg (by decide) Tryz.isAgg48 Tryz.sizeOf48 (LSlot.c_bytes x) (LSlot.c_bytes y) (eq_arr48 d _ _ w (by omega))]
  rw [eqFields_one (by decide) Tryz.isAgg3 (LSlot.g_mask x) (LSlot.g_mask y) ((EqSpec.int (k := .i64) Tryz.underlying3) d _ _ w (by omega))]
  rw [eqFields_nil]
  simp only [decide_eq_true_eq, key]
  repeat' split
  all_goals simp_all
theorem eq_LTurn (d : Nat) (x y : LTurn) (w : World) (hd : 6 ≤ d) : (Op.equalIn d 128 (.agg x.enc.toArray) (.agg y.enc.toArray)).run Tryz.prog w = .ok (decide (x = y)) w := by
  obtain ⟨d, rfl⟩ : ∃ d', d = d' + 1 := ⟨d - 1, by omega⟩
  rw [run_equalIn_struct w d 128 _ _ (by simp only [Program.fieldsOf, Tryz.underlying128]) Tryz.stoodInHeld128]
  simp only [Program.fieldsOf, Tryz.underlying128]
  have key : (x = y) ↔ x.reg = y.reg ∧ x.old = y.old ∧ x.new = y.new := by cases x; cases y; simp
  rw [eqFields_one (by decide) Tryz.isAgg3 (LTurn.g_reg x) (LTurn.g_reg y) ((EqSpec.int (k := .i64) Tryz.underlying3) d _ _ w (by omega))]
  rw [eqFields_agg (by decide) Tryz.isAgg46 Tryz.sizeOf46 (LTurn.c_old x) (LTurn.c_old y) (eq_LVal d _ _ w (by omega))]
  rw [eqFields_agg (by decide) Tryz.isAgg46 Tryz.sizeOf46 (LTurn.c_new x) (LTurn.c_new y) (eq_LVal d _ _ w (by omega))]
  rw [eqFields_nil]
  simp only [decide_eq_true_eq, key]
  repeat' split
  all_goals simp_all
theorem eq_LCell (d : Nat) (x y : LCell) (w : World) (hd : 8 ≤ d) : (Op.equalIn d 151 (.agg x.enc.toArray) (.agg y.enc.toArray)).run Tryz.prog w = .ok (decide (x = y)) w := by
  obtain ⟨d, rfl⟩ : ∃ d', d = d' + 1 := ⟨d - 1, by omega⟩
  rw [run_equalIn_struct w d 151 _ _ (by simp only [Program.fieldsOf, Tryz.underlying151]) Tryz.stoodInHeld151]
  simp only [Program.fieldsOf, Tryz.underlying151]
  have key : (x = y) ↔ x.slot = y.slot ∧ x.old = y.old ∧ x.new = y.new := by cases x; cases y; simp
  rw [eqFields_one (by decide) Tryz.isAgg3 (LCell.g_slot x) (LCell.g_slot y) ((EqSpec.int (k := .i64) Tryz.underlying3) d _ _ w (by omega))]
  rw [eqFields_agg (by decide) Tryz.isAgg50 Tryz.sizeOf50 (LCell.c_old x) (LCell.c_old y) (eq_LSlot d _ _ w (by omega))]
  rw [eqFields_agg (by decide) Tryz.isAgg50 Tryz.sizeOf50 (LCell.c_new x) (LCell.c_new y) (eq_LSlot d _ _ w (by omega))]
  rw [eqFields_nil]
  simp only [decide_eq_true_eq, key]
  repeat' split
  all_goals simp_all
theorem eq_arr47 : ∀ (d : Nat) (x y : Vec LVal 11) (w : World), 9 ≤ d → (Op.equalIn d 47 (.agg (encs x.l).toArray) (.agg (encs y.l).toArray)).run Tryz.prog w = .ok (decide (x = y)) w :=
  EqSpec.vecAgg Tryz.underlying47 Tryz.sizeOf46 Tryz.isAgg46 fun d x y w h => eq_LVal d x y w (by omega)
theorem eq_arr51 : ∀ (d : Nat) (x y : Vec LSlot 32) (w : World), 9 ≤ d → (Op.equalIn d 51 (.agg (encs x.l).toArray) (.agg (encs y.l).toArray)).run Tryz.prog w = .ok (decide (x = y)) w :=
  EqSpec.vecAgg Tryz.underlying51 Tryz.sizeOf50 Tryz.isAgg50 fun d x y w h => eq_LSlot d x y w (by omega)
theorem z128 (w : World) : (zeroValue 128).run Tryz.prog w = .ok (.agg LTurn.zero.enc.toArray) w := (Tryz.zeroValue128 w).trans (by kernel_rfl)
theorem z151 (w : World) : (zeroValue 151).run Tryz.prog w = .ok (.agg LCell.zero.enc.toArray) w := (Tryz.zeroValue151 w).trans (by kernel_rfl)
theorem z156 (w : World) : (zeroValue 156).run Tryz.prog w = .ok (.agg RPiece.zero.enc.toArray) w := (Tryz.zeroValue156 w).trans (by kernel_rfl)
theorem z60 (w : World) : (zeroValue 60).run Tryz.prog w = .ok (.agg RMark.zero.enc.toArray) w := (Tryz.zeroValue60 w).trans (by kernel_rfl)
theorem z30 (w : World) : (zeroValue 30).run Tryz.prog w = .ok (.agg RInput.zero.enc.toArray) w := (Tryz.zeroValue30 w).trans (by kernel_rfl)
theorem z54 (w : World) : (zeroValue 54).run Tryz.prog w = .ok (.agg RState.zero.enc.toArray) w := by
  rw [Tryz.zeroValue54]
  have : Tryz.zeroCells54 = RState.zero.enc.toArray := by kernel_rfl
  rw [this]
theorem in3 : Tryz.prog.info? 3 = some Tryz.t3 := by kernel_rfl
theorem in4 : Tryz.prog.info? 4 = some Tryz.t4 := by kernel_rfl
theorem in5 : Tryz.prog.info? 5 = some Tryz.t5 := by kernel_rfl
theorem in23 : Tryz.prog.info? 23 = some Tryz.t23 := by kernel_rfl
theorem in28 : Tryz.prog.info? 28 = some Tryz.t28 := by kernel_rfl
theorem in46 : Tryz.prog.info? 46 = some Tryz.t46 := by kernel_rfl
theorem in47 : Tryz.prog.info? 47 = some Tryz.t47 := by kernel_rfl
theorem in50 : Tryz.prog.info? 50 = some Tryz.t50 := by kernel_rfl
theorem in51 : Tryz.prog.info? 51 = some Tryz.t51 := by kernel_rfl
theorem in52 : Tryz.prog.info? 52 = some Tryz.t52 := by kernel_rfl
theorem in56 : Tryz.prog.info? 56 = some Tryz.t56 := by kernel_rfl
theorem in57 : Tryz.prog.info? 57 = some Tryz.t57 := by kernel_rfl
theorem in58 : Tryz.prog.info? 58 = some Tryz.t58 := by kernel_rfl
theorem in128 : Tryz.prog.info? 128 = some Tryz.t128 := by kernel_rfl
theorem in151 : Tryz.prog.info? 151 = some Tryz.t151 := by kernel_rfl
theorem in156 : Tryz.prog.info? 156 = some Tryz.t156 := by kernel_rfl
theorem pl128 : ∀ w, (plc Tryz.prog 128).run Tryz.prog w = .ok #[(0, 1), (1, 4), (5, 4)] w := fun w => by kernel_rfl
theorem pl151 : ∀ w, (plc Tryz.prog 151).run Tryz.prog w = .ok #[(0, 1), (1, 13), (14, 13)] w := fun w => by kernel_rfl
theorem pl156 : ∀ w, (plc Tryz.prog 156).run Tryz.prog w = .ok #[(0, 1), (1, 1), (2, 1), (3, 1)] w := fun w => by kernel_rfl
theorem pl60 : ∀ w, (plc Tryz.prog 60).run Tryz.prog w = .ok #[(0, 1), (1, 1), (2, 1), (3, 1), (4, 1), (5, 1), (6, 1)] w := fun w => by kernel_rfl
theorem pl30 : ∀ w, (plc Tryz.prog 30).run Tryz.prog w = .ok #[(0, 1), (1, 1)] w := fun w => by kernel_rfl
end Go.Proofs
end
section
namespace Go.Proofs
open Go.Fw Go.Fx
set_option maxRecDepth 10000
set_option linter.unusedVariables false
set_option linter.unusedSimpArgs false
set_option maxHeartbeats 4000000 in
theorem trace_within_calls {x0 : Int} {x1 : Int} {x2 : Int} {out : Bool} {w0 : World} {Lr : List Res} (hP : Sh.trace_within x0 x1 x2 = some out) (hM : MemL w0 (Lr)) : Calls Tryz.prog 124 #[.int .i64 x0, .int .i64 x1, .int .i64 x2] w0 (Ret fun v w' => v = .bool out ∧ MemL w' (Lr)) := by
  unfold Sh.trace_within at hP
  refine calls_enter (vs := [.int .i64 x0, .int .i64 x1, .int .i64 x2]) Tryz.func124 rfl Tryz.ntmps124 rfl fun a hF => ?_
  refine c_seq ?_
  refine c_region ?_
  refine s_val hF (r_assign hF rfl rfl) rfl rfl rfl fun a hF => ?_
  refine c_nil (n_then ?_)
  refine c_seq ?_
  refine c_joinX hF hM hP (fun F x a w => match x with | v7 => Fr 15 [(6, .bool v7)] a ∧ MemL w (Lr)) (fun o_j1 hP hK_j1 hF hM => ?_) ?_
  · refine c_region ?_
    refine s_val hF (r_move hF rfl rfl) rfl rfl rfl fun a hF => ?_
    refine s_val hF (r_move hF rfl rfl) rfl rfl rfl fun a hF => ?_
    refine s_val hF (r_geq hF rfl rfl rfl) rfl rfl rfl fun a hF => ?_
    refine s_val hF (r_move hF rfl rfl) rfl rfl rfl fun a hF => ?_
    refine g_split 10 hF rfl (fun hb8 => ?_) (fun hb8 => ?_)
    · have hP := Fx.cT hb8 hP
      refine g_val hF rfl rfl rfl hb8 (r_move hF rfl rfl) rfl rfl fun a hF => ?_
      refine g_val hF rfl rfl rfl hb8 (r_move hF rfl rfl) rfl rfl fun a hF => ?_
      refine g_val hF rfl rfl rfl hb8 (r_leq hF rfl rfl rfl) rfl rfl fun a hF => ?_
      refine s_val hF (r_pick1 hF rfl rfl hb8 rfl) rfl rfl rfl fun a hF => ?_
      refine s_val hF (r_assign hF rfl rfl) rfl rfl rfl fun a hF => ?_
      refine c_nil (n_then ?_)
      have hP := Option.some.inj hP
      subst hP
      exact ⟨(decide (x0 ≤ x2)), rfl, hF.to ⟨rfl, trivial⟩, hM⟩
    have hP := Fx.cF hb8 hP
    refine g_skip hF rfl rfl rfl hb8 rfl rfl fun a hF => ?_
    refine g_skip hF rfl rfl rfl hb8 rfl rfl fun a hF => ?_
    refine g_skip hF rfl rfl rfl hb8 rfl rfl fun a hF => ?_
    refine s_val hF (r_pick0 hF rfl rfl hb8 rfl) rfl rfl rfl fun a hF => ?_
    refine s_val hF (r_assign hF rfl rfl) rfl rfl rfl fun a hF => ?_
    refine c_nil (n_then ?_)
    have hP := Option.some.inj hP
    subst hP
    exact ⟨false, rfl, hF.to ⟨rfl, trivial⟩, hM⟩
  rintro v7 a w hP ⟨hF, hM⟩
  replace hP : Sh.trace_within_j1 v7 = _ := hP
  unfold Sh.trace_within_j1 at hP
  refine n_then ?_
  refine c_ret ?_
  have hP := Option.some.inj hP
  subst hP
  refine e_ret1 Tryz.results124 hF rfl ?_
  exact ⟨rfl, hM⟩
set_option maxHeartbeats 4000000 in
theorem trace_changed_byte_calls {x0 : List UInt8} {x1 : List UInt8} {s1 : SV} {s3 : SV} {out : List Int} {w0 : World} {Bf : World → Prop} {Lr : List Res} (hP : Sh.trace_changed_byte x0 x1 = some out) (hM : MemL w0 (Lr)) (hsub : ∀ w, MemL w Lr → Bf w) (f2 : LIn Bf s1 x0) (f4 : LIn Bf s3 x1) : Calls Tryz.prog 158 #[(s1).v, (s3).v] w0 (Ret fun v w' => ∃ (s281 : SV), v = (s281).v ∧ MemL w' (rowL 0 s281 3 out :: Lr)) := by
  unfold Sh.trace_changed_byte at hP
  refine calls_enter (vs := [(s1).v, (s3).v]) Tryz.func158 rfl Tryz.ntmps158 rfl fun a hF => ?_
  refine c_seq ?_
  refine c_region ?_
  refine s_val hF (r_assign hF rfl rfl) rfl rfl rfl fun a hF => ?_
  refine c_nil (n_then ?_)
  refine c_seq ?_
  refine c_region ?_
  refine s_val hF (r_assign hF rfl rfl) rfl rfl rfl fun a hF => ?_
  refine c_nil (n_then ?_)
  refine c_seq ?_
  refine c_joinX hF hM hP (fun F x a w => match x with | v465 => ∃ (s466 : SV), Fr 27 [(5, (s466).v), (4, (SV.nil).v)] a ∧ MemL w (rowL 0 s466 3 v465 :: Lr)) (fun o_j1 hP hK_j1 hF hM => ?_) ?_
  · refine c_seq ?_
    refine c_region ?_
    refine s_val hF (r_move hF rfl rfl) rfl rfl rfl fun a hF => ?_
    refine s_val hF (r_lenL (f2 _ (hsub _ (dropM hM 0))) Tryz.underlying23 hF rfl rfl) rfl rfl rfl fun a hF => ?_
    refine s_val hF (r_move hF rfl rfl) rfl rfl rfl fun a hF => ?_
    refine c_nil (n_then ?_)
    refine c_block ?_
    have hM := hM.rowNil (X := Int) 0 3
    refine c_loopX hF hM hP (fun F x a w => match x with | (v528, v531) => ∃ (s529 : SV), Fr 27 [(5, (s529).v), (9, .int .i64 v531), (0, (s1).v), (1, (s3).v), (4, (SV.nil).v), (8, .int .i64 (x0.length : Int))] a ∧ MemL w (rowL 0 s529 3 v528 :: Lr)) (fun hF hM => ⟨SV.nil, hF.to ⟨rfl, rfl, rfl, rfl, rfl, rfl, trivial⟩, hM⟩) ?_
    rintro ⟨v528, v531⟩ a w o_l2 hP hK_l2 ⟨s529, hF, hM⟩
    replace hP : Sh.trace_changed_byte_l2 x0 x1 v528 v531 = _ := hP
    unfold Sh.trace_changed_byte_l2 at hP
    refine c_seq ?_
    refine c_region ?_
    refine s_val hF (r_lss hF rfl rfl rfl) rfl rfl rfl fun a hF => ?_
    refine c_nil (n_then ?_)
    refine c_seq ?_
    refine c_cond hF (c := .tmp 10) rfl (fun hb534 => ?_) (fun hb534 => ?_)
    · have hP := Fx.cT hb534 hP
      refine c_skip (n_then ?_)
      refine c_seq ?_
      refine c_joinX hF hM hP (fun F x a w => match x with | v549 => ∃ (s550 : SV), Fr 27 [(5, (s550).v), (0, (s1).v), (1, (s3).v), (4, (SV.nil).v), (8, .int .i64 (x0.length : Int)), (9, .int .i64 v531)] a ∧ MemL w (rowL 0 s550 3 v549 :: Lr)) (fun o_j3 hP hK_j3 hF hM => ?_) ?_
      · refine c_block ?_
        refine c_seq ?_
        refine c_region ?_
        refine s_val hF (r_move hF rfl rfl) rfl rfl rfl fun a hF => ?_
        refine s_val hF (r_assign hF rfl rfl) rfl rfl rfl fun a hF => ?_
        refine c_nil (n_then ?_)
        refine c_seq ?_
        refine d_startT mixed (by kernel_rfl) hM [0] 1 rfl fun hch => ?_
        refine d_val hF hch 0 rfl (by kernel_rfl) rfl rfl rfl (fun w hM => (r_move hF rfl rfl)) fun a hF => ?_
        refine d_val hF hch 1 rfl (by kernel_rfl) rfl rfl rfl (fun w hM => (r_move hF rfl rfl)) fun a hF => ?_
        obtain ⟨x554, hx554, hP⟩ := bind_some hP
        have h0x554 := get_some hx554
        refine d_val hF hch 2 rfl (by kernel_rfl) rfl rfl rfl (fun w hM => (r_indexZ (sz := 1) (f2 _ (hsub _ (dropM hM 1))) Tryz.underlying23 in5 rfl hF rfl rfl rfl (get_bd hx554))) fun a hF => ?_
        refine d_val hF hch 3 rfl (by kernel_rfl) rfl rfl rfl (fun w hM => (r_load1 Tryz.isAgg5 hF rfl rfl ((((f2 _ (hsub _ (dropM hM 1))).elemS h0x554.2)).get 0 rfl))) fun a hF => ?_
        refine d_val hF hch 4 rfl (by kernel_rfl) rfl rfl rfl (fun w hM => (r_move hF rfl rfl)) fun a hF => ?_
        refine d_val hF hch 5 rfl (by kernel_rfl) rfl rfl rfl (fun w hM => (r_move hF rfl rfl)) fun a hF => ?_
        obtain ⟨x555, hx555, hP⟩ := bind_some hP
        have h0x555 := get_some hx555
        refine d_val hF hch 6 rfl (by kernel_rfl) rfl rfl rfl (fun w hM => (r_indexZ (sz := 1) (f4 _ (hsub _ (dropM hM 1))) Tryz.underlying23 in5 rfl hF rfl rfl rfl (get_bd hx555))) fun a hF => ?_
        refine d_val hF hch 7 rfl (by kernel_rfl) rfl rfl rfl (fun w hM => (r_load1 Tryz.isAgg5 hF rfl rfl ((((f4 _ (hsub _ (dropM hM 1))).elemS h0x555.2)).get 0 rfl))) fun a hF => ?_
        refine d_val hF hch 8 rfl (by kernel_rfl) rfl rfl rfl (fun w hM => (r_neq hF rfl rfl rfl)) fun a hF => ?_
        refine d_end hch (by kernel_rfl) fun w hM => ?_
        refine n_then ?_
        refine c_cond hF (c := .tmp 20) rfl (fun hb556 => ?_) (fun hb556 => ?_)
        · have hP := Fx.cT hb556 hP
          refine c_region ?_
          refine s_val hF (r_move hF rfl rfl) rfl rfl rfl fun a hF => ?_
          refine s_val hF (r_move hF rfl rfl) rfl rfl rfl fun a hF => ?_
          refine s_eff hF rfl rfl rfl (w_slice1 (X := Int) (y := v531) Tryz.underlying52 in3 rfl rfl rfl rfl hF rfl rfl rfl fun b_B158_23 w hzB158_23 hAB158_23 => ?_)
          have hM := hM.plus hAB158_23
          replace hM : MemL _ (pt b_B158_23 (encs ([v531] : List Int)) 3 :: rowL 0 s529 3 v528 :: Lr) := hM
          intro a hF
          obtain ⟨x558, hx558, hP⟩ := bind_some hP
          refine s_eff hF rfl rfl rfl (w_appX (X := Int) hx558 Tryz.underlying52 in3 rfl rfl rfl rfl hF rfl rfl rfl (hM.own (X := Int) (i := 1) rfl) (hM.ptS (X := Int) (i := 0) (n := 1) (c := 1) rfl rfl rfl (Nat.le_refl _)) fun s557 w hUs557 => ?_)
          have hM := hM.chg hUs557 (i := 1) rfl
          replace hM : MemL _ (pt b_B158_23 (encs ([v531] : List Int)) 3 :: rowL 0 s557 3 x558 :: Lr) := hM
          intro a hF
          refine s_val hF (r_assign hF rfl rfl) rfl rfl rfl fun a hF => ?_
          refine c_nil (n_block (n_then ?_))
          have hP := Option.some.inj hP
          subst hP
          exact ⟨x558, rfl, s557, hF.to ⟨rfl, rfl, rfl, rfl, rfl, rfl, trivial⟩, selM hM [1] 2 rfl⟩
        have hP := Fx.cF hb556 hP
        refine c_skip (n_block (n_then ?_))
        have hP := Option.some.inj hP
        subst hP
        exact ⟨v528, rfl, s529, hF.to ⟨rfl, rfl, rfl, rfl, rfl, rfl, trivial⟩, hM⟩
      rintro v549 a w hP ⟨s550, hF, hM⟩
      replace hP : Sh.trace_changed_byte_j3 v531 v549 = _ := hP
      unfold Sh.trace_changed_byte_j3 at hP
      refine n_then ?_
      refine c_region ?_
      refine s_val hF (r_add hF rfl rfl rfl) rfl rfl rfl fun a hF => ?_
      refine s_val hF (r_move hF rfl rfl) rfl rfl rfl fun a hF => ?_
      refine c_nil (n_then ?_)
      have hP := Option.some.inj hP
      subst hP
      exact ⟨(v549, (IntKind.i64.wrap (v531 + 1))), rfl, s550, hF.to ⟨rfl, rfl, rfl, rfl, rfl, rfl, trivial⟩, hM⟩
    have hP := Fx.cF hb534 hP
    refine c_exit (x_then (x_then (x_hit ?_)))
    refine n_then ?_
    have hP := Option.some.inj hP
    subst hP
    have hP := hK_l2 _ rfl
    subst hP
    exact ⟨v528, rfl, s529, hF.to ⟨rfl, rfl, trivial⟩, hM⟩
  rintro v465 a w hP ⟨s466, hF, hM⟩
  replace hP : Sh.trace_changed_byte_j1 v465 = _ := hP
  unfold Sh.trace_changed_byte_j1 at hP
  refine n_then ?_
  refine c_seq ?_
  refine c_region ?_
  refine s_val hF (r_move hF rfl rfl) rfl rfl rfl fun a hF => ?_
  refine s_val hF (r_assign hF rfl rfl) rfl rfl rfl fun a hF => ?_
  refine c_nil (n_then ?_)
  refine c_ret ?_
  have hP := Option.some.inj hP
  subst hP
  refine e_ret1 Tryz.results158 hF rfl ?_
  exact ⟨s466, rfl, hM⟩
set_option maxHeartbeats 4000000 in
theorem trace_changed_api_Value_calls {x0 : List LVal} {x1 : List LVal} {s1 : SV} {s3 : SV} {out : List Int} {w0 : World} {Bf : World → Prop} {Lr : List Res} (hP : Sh.trace_changed_api_Value x0 x1 = some out) (hM : MemL w0 (Lr)) (hsub : ∀ w, MemL w Lr → Bf w) (f2 : LIn Bf s1 x0) (f4 : LIn Bf s3 x1) : Calls Tryz.prog 84 #[(s1).v, (s3).v] w0 (Ret fun v w' => ∃ (s281 : SV), v = (s281).v ∧ MemL w' (rowL 0 s281 3 out :: Lr)) := by
  unfold Sh.trace_changed_api_Value at hP
  refine calls_enter (vs := [(s1).v, (s3).v]) Tryz.func84 rfl Tryz.ntmps84 rfl fun a hF => ?_
  refine c_seq ?_
  refine c_region ?_
  refine s_val hF (r_assign hF rfl rfl) rfl rfl rfl fun a hF => ?_
  refine c_nil (n_then ?_)
  refine c_seq ?_
  refine c_region ?_
  refine s_val hF (r_assign hF rfl rfl) rfl rfl rfl fun a hF => ?_
  refine c_nil (n_then ?_)
  refine c_seq ?_
  refine c_joinX hF hM hP (fun F x a w => match x with | v465 => ∃ (s466 : SV), Fr 27 [(5, (s466).v), (4, (SV.nil).v)] a ∧ MemL w (rowL 0 s466 3 v465 :: Lr)) (fun o_j1 hP hK_j1 hF hM => ?_) ?_
  · refine c_seq ?_
    refine c_region ?_
    refine s_val hF (r_move hF rfl rfl) rfl rfl rfl fun a hF => ?_
    refine s_val hF (r_lenL (f2 _ (hsub _ (dropM hM 0))) Tryz.underlying139 hF rfl rfl) rfl rfl rfl fun a hF => ?_
    refine s_val hF (r_move hF rfl rfl) rfl rfl rfl fun a hF => ?_
    refine c_nil (n_then ?_)
    refine c_block ?_
    have hM := hM.rowNil (X := Int) 0 3
    refine c_loopX hF hM hP (fun F x a w => match x with | (v528, v531) => ∃ (s529 : SV), Fr 27 [(5, (s529).v), (9, .int .i64 v531), (0, (s1).v), (1, (s3).v), (4, (SV.nil).v), (8, .int .i64 (x0.length : Int))] a ∧ MemL w (rowL 0 s529 3 v528 :: Lr)) (fun hF hM => ⟨SV.nil, hF.to ⟨rfl, rfl, rfl, rfl, rfl, rfl, trivial⟩, hM⟩) ?_
    rintro ⟨v528, v531⟩ a w o_l2 hP hK_l2 ⟨s529, hF, hM⟩
    replace hP : Sh.trace_changed_api_Value_l2 x0 x1 v528 v531 = _ := hP
    unfold Sh.trace_changed_api_Value_l2 at hP
    refine c_seq ?_
    refine c_region ?_
    refine s_val hF (r_lss hF rfl rfl rfl) rfl rfl rfl fun a hF => ?_
    refine c_nil (n_then ?_)
    refine c_seq ?_
    refine c_cond hF (c := .tmp 10) rfl (fun hb534 => ?_) (fun hb534 => ?_)
    · have hP := Fx.cT hb534 hP
      refine c_skip (n_then ?_)
      refine c_seq ?_
      refine c_joinX hF hM hP (fun F x a w => match x with | v549 => ∃ (s550 : SV), Fr 27 [(5, (s550).v), (0, (s1).v), (1, (s3).v), (4, (SV.nil).v), (8, .int .i64 (x0.length : Int)), (9, .int .i64 v531)] a ∧ MemL w (rowL 0 s550 3 v549 :: Lr)) (fun o_j3 hP hK_j3 hF hM => ?_) ?_
      · refine c_block ?_
        refine c_seq ?_
        refine c_region ?_
        refine s_val hF (r_move hF rfl rfl) rfl rfl rfl fun a hF => ?_
        refine s_val hF (r_assign hF rfl rfl) rfl rfl rfl fun a hF => ?_
        refine c_nil (n_then ?_)
        refine c_seq ?_
        refine d_startT mixed (by kernel_rfl) hM [0] 1 rfl fun hch => ?_
        refine d_val hF hch 0 rfl (by kernel_rfl) rfl rfl rfl (fun w hM => (r_move hF rfl rfl)) fun a hF => ?_
        refine d_val hF hch 1 rfl (by kernel_rfl) rfl rfl rfl (fun w hM => (r_move hF rfl rfl)) fun a hF => ?_
        obtain ⟨x554, hx554, hP⟩ := bind_some hP
        have h0x554 := get_some hx554
        refine d_val hF hch 2 rfl (by kernel_rfl) rfl rfl rfl (fun w hM => (r_indexZ (sz := 4) (f2 _ (hsub _ (dropM hM 1))) Tryz.underlying139 in46 rfl hF rfl rfl rfl (get_bd hx554))) fun a hF => ?_
        refine d_val hF hch 3 rfl (by kernel_rfl) rfl rfl rfl (fun w hM => (r_loadn Tryz.isAgg46 Tryz.sizeOf46 hF rfl rfl (LVal.len _) (((f2 _ (hsub _ (dropM hM 1))).elemS h0x554.2)))) fun a hF => ?_
        refine d_val hF hch 4 rfl (by kernel_rfl) rfl rfl rfl (fun w hM => (r_move hF rfl rfl)) fun a hF => ?_
        refine d_val hF hch 5 rfl (by kernel_rfl) rfl rfl rfl (fun w hM => (r_move hF rfl rfl)) fun a hF => ?_
        obtain ⟨x555, hx555, hP⟩ := bind_some hP
        have h0x555 := get_some hx555
        refine d_val hF hch 6 rfl (by kernel_rfl) rfl rfl rfl (fun w hM => (r_indexZ (sz := 4) (f4 _ (hsub _ (dropM hM 1))) Tryz.underlying139 in46 rfl hF rfl rfl rfl (get_bd hx555))) fun a hF => ?_
        refine d_val hF hch 7 rfl (by kernel_rfl) rfl rfl rfl (fun w hM => (r_loadn Tryz.isAgg46 Tryz.sizeOf46 hF rfl rfl (LVal.len _) (((f4 _ (hsub _ (dropM hM 1))).elemS h0x555.2)))) fun a hF => ?_
        refine d_val hF hch 8 rfl (by kernel_rfl) rfl rfl rfl (fun w hM => (r_neqA Tryz.eqGuardType46 (eq_LVal _ _ _ _ (by decide)) hF rfl rfl rfl)) fun a hF => ?_
        refine d_end hch (by kernel_rfl) fun w hM => ?_
        refine n_then ?_
        refine c_cond hF (c := .tmp 20) rfl (fun hb556 => ?_) (fun hb556 => ?_)
        · have hP := Fx.cT hb556 hP
          refine c_region ?_
          refine s_val hF (r_move hF rfl rfl) rfl rfl rfl fun a hF => ?_
          refine s_val hF (r_move hF rfl rfl) rfl rfl rfl fun a hF => ?_
          refine s_eff hF rfl rfl rfl (w_slice1 (X := Int) (y := v531) Tryz.underlying52 in3 rfl rfl rfl rfl hF rfl rfl rfl fun b_B84_23 w hzB84_23 hAB84_23 => ?_)
          have hM := hM.plus hAB84_23
          replace hM : MemL _ (pt b_B84_23 (encs ([v531] : List Int)) 3 :: rowL 0 s529 3 v528 :: Lr) := hM
          intro a hF
          obtain ⟨x558, hx558, hP⟩ := bind_some hP
          refine s_eff hF rfl rfl rfl (w_appX (X := Int) hx558 Tryz.underlying52 in3 rfl rfl rfl rfl hF rfl rfl rfl (hM.own (X := Int) (i := 1) rfl) (hM.ptS (X := Int) (i := 0) (n := 1) (c := 1) rfl rfl rfl (Nat.le_refl _)) fun s557 w hUs557 => ?_)
          have hM := hM.chg hUs557 (i := 1) rfl
          replace hM : MemL _ (pt b_B84_23 (encs ([v531] : List Int)) 3 :: rowL 0 s557 3 x558 :: Lr) := hM
          intro a hF
          refine s_val hF (r_assign hF rfl rfl) rfl rfl rfl fun a hF => ?_
          refine c_nil (n_block (n_then ?_))
          have hP := Option.some.inj hP
          subst hP
          exact ⟨x558, rfl, s557, hF.to ⟨rfl, rfl, rfl, rfl, rfl, rfl, trivial⟩, selM hM [1] 2 rfl⟩
        have hP := Fx.cF hb556 hP
        refine c_skip (n_block (n_then ?_))
        have hP := Option.some.inj hP
        subst hP
        exact ⟨v528, rfl, s529, hF.to ⟨rfl, rfl, rfl, rfl, rfl, rfl, trivial⟩, hM⟩
      rintro v549 a w hP ⟨s550, hF, hM⟩
      replace hP : Sh.trace_changed_api_Value_j3 v531 v549 = _ := hP
      unfold Sh.trace_changed_api_Value_j3 at hP
      refine n_then ?_
      refine c_region ?_
      refine s_val hF (r_add hF rfl rfl rfl) rfl rfl rfl fun a hF => ?_
      refine s_val hF (r_move hF rfl rfl) rfl rfl rfl fun a hF => ?_
      refine c_nil (n_then ?_)
      have hP := Option.some.inj hP
      subst hP
      exact ⟨(v549, (IntKind.i64.wrap (v531 + 1))), rfl, s550, hF.to ⟨rfl, rfl, rfl, rfl, rfl, rfl, trivial⟩, hM⟩
    have hP := Fx.cF hb534 hP
    refine c_exit (x_then (x_then (x_hit ?_)))
    refine n_then ?_
    have hP := Option.some.inj hP
    subst hP
    have hP := hK_l2 _ rfl
    subst hP
    exact ⟨v528, rfl, s529, hF.to ⟨rfl, rfl, trivial⟩, hM⟩
  rintro v465 a w hP ⟨s466, hF, hM⟩
  replace hP : Sh.trace_changed_api_Value_j1 v465 = _ := hP
  unfold Sh.trace_changed_api_Value_j1 at hP
  refine n_then ?_
  refine c_seq ?_
  refine c_region ?_
  refine s_val hF (r_move hF rfl rfl) rfl rfl rfl fun a hF => ?_
  refine s_val hF (r_assign hF rfl rfl) rfl rfl rfl fun a hF => ?_
  refine c_nil (n_then ?_)
  refine c_ret ?_
  have hP := Option.some.inj hP
  subst hP
  refine e_ret1 Tryz.results84 hF rfl ?_
  exact ⟨s466, rfl, hM⟩
set_option maxHeartbeats 4000000 in
theorem trace_changed_api_Slot_calls {x0 : List LSlot} {x1 : List LSlot} {s1 : SV} {s3 : SV} {out : List Int} {w0 : World} {Bf : World → Prop} {Lr : List Res} (hP : Sh.trace_changed_api_Slot x0 x1 = some out) (hM : MemL w0 (Lr)) (hsub : ∀ w, MemL w Lr → Bf w) (f2 : LIn Bf s1 x0) (f4 : LIn Bf s3 x1) : Calls Tryz.prog 85 #[(s1).v, (s3).v] w0 (Ret fun v w' => ∃ (s281 : SV), v = (s281).v ∧ MemL w' (rowL 0 s281 3 out :: Lr)) := by
  unfold Sh.trace_changed_api_Slot at hP
  refine calls_enter (vs := [(s1).v, (s3).v]) Tryz.func85 rfl Tryz.ntmps85 rfl fun a hF => ?_
  refine c_seq ?_
  refine c_region ?_
  refine s_val hF (r_assign hF rfl rfl) rfl rfl rfl fun a hF => ?_
  refine c_nil (n_then ?_)
  refine c_seq ?_
  refine c_region ?_
  refine s_val hF (r_assign hF rfl rfl) rfl rfl rfl fun a hF => ?_
  refine c_nil (n_then ?_)
  refine c_seq ?_
  refine c_joinX hF hM hP (fun F x a w => match x with | v465 => ∃ (s466 : SV), Fr 27 [(5, (s466).v), (4, (SV.nil).v)] a ∧ MemL w (rowL 0 s466 3 v465 :: Lr)) (fun o_j1 hP hK_j1 hF hM => ?_) ?_
  · refine c_seq ?_
    refine c_region ?_
    refine s_val hF (r_move hF rfl rfl) rfl rfl rfl fun a hF => ?_
    refine s_val hF (r_lenL (f2 _ (hsub _ (dropM hM 0))) Tryz.underlying149 hF rfl rfl) rfl rfl rfl fun a hF => ?_
    refine s_val hF (r_move hF rfl rfl) rfl rfl rfl fun a hF => ?_
    refine c_nil (n_then ?_)
    refine c_block ?_
    have hM := hM.rowNil (X := Int) 0 3
    refine c_loopX hF hM hP (fun F x a w => match x with | (v528, v531) => ∃ (s529 : SV), Fr 27 [(5, (s529).v), (9, .int .i64 v531), (0, (s1).v), (1, (s3).v), (4, (SV.nil).v), (8, .int .i64 (x0.length : Int))] a ∧ MemL w (rowL 0 s529 3 v528 :: Lr)) (fun hF hM => ⟨SV.nil, hF.to ⟨rfl, rfl, rfl, rfl, rfl, rfl, trivial⟩, hM⟩) ?_
    rintro ⟨v528, v531⟩ a w o_l2 hP hK_l2 ⟨s529, hF, hM⟩
    replace hP : Sh.trace_changed_api_Slot_l2 x0 x1 v528 v531 = _ := hP
    unfold Sh.trace_changed_api_Slot_l2 at hP
    refine c_seq ?_
    refine c_region ?_
    refine s_val hF (r_lss hF rfl rfl rfl) rfl rfl rfl fun a hF => ?_
    refine c_nil (n_then ?_)
    refine c_seq ?_
    refine c_cond hF (c := .tmp 10) rfl (fun hb534 => ?_) (fun hb534 => ?_)
    · have hP := Fx.cT hb534 hP
      refine c_skip (n_then ?_)
      refine c_seq ?_
      refine c_joinX hF hM hP (fun F x a w => match x with | v549 => ∃ (s550 : SV), Fr 27 [(5, (s550).v), (0, (s1).v), (1, (s3).v), (4, (SV.nil).v), (8, .int .i64 (x0.length : Int)), (9, .int .i64 v531)] a ∧ MemL w (rowL 0 s550 3 v549 :: Lr)) (fun o_j3 hP hK_j3 hF hM => ?_) ?_
      · refine c_block ?_
        refine c_seq ?_
        refine c_region ?_
        refine s_val hF (r_move hF rfl rfl) rfl rfl rfl fun a hF => ?_
        refine s_val hF (r_assign hF rfl rfl) rfl rfl rfl fun a hF => ?_
        refine c_nil (n_then ?_)
        refine c_seq ?_
        refine d_startT mixed (by kernel_rfl) hM [0] 1 rfl fun hch => ?_
        refine d_val hF hch 0 rfl (by kernel_rfl) rfl rfl rfl (fun w hM => (r_move hF rfl rfl)) fun a hF => ?_
        refine d_val hF hch 1 rfl (by kernel_rfl) rfl rfl rfl (fun w hM => (r_move hF rfl rfl)) fun a hF => ?_
        obtain ⟨x554, hx554, hP⟩ := bind_some hP
        have h0x554 := get_some hx554
        refine d_val hF hch 2 rfl (by kernel_rfl) rfl rfl rfl (fun w hM => (r_indexZ (sz := 13) (f2 _ (hsub _ (dropM hM 1))) Tryz.underlying149 in50 rfl hF rfl rfl rfl (get_bd hx554))) fun a hF => ?_
        refine d_val hF hch 3 rfl (by kernel_rfl) rfl rfl rfl (fun w hM => (r_loadn Tryz.isAgg50 Tryz.sizeOf50 hF rfl rfl (LSlot.len _) (((f2 _ (hsub _ (dropM hM 1))).elemS h0x554.2)))) fun a hF => ?_
        refine d_val hF hch 4 rfl (by kernel_rfl) rfl rfl rfl (fun w hM => (r_move hF rfl rfl)) fun a hF => ?_
        refine d_val hF hch 5 rfl (by kernel_rfl) rfl rfl rfl (fun w hM => (r_move hF rfl rfl)) fun a hF => ?_
        obtain ⟨x555, hx555, hP⟩ := bind_some hP
        have h0x555 := get_some hx555
        refine d_val hF hch 6 rfl (by kernel_rfl) rfl rfl rfl (fun w hM => (r_indexZ (sz := 13) (f4 _ (hsub _ (dropM hM 1))) Tryz.underlying149 in50 rfl hF rfl rfl rfl (get_bd hx555))) fun a hF => ?_
        refine d_val hF hch 7 rfl (by kernel_rfl) rfl rfl rfl (fun w hM => (r_loadn Tryz.isAgg50 Tryz.sizeOf50 hF rfl rfl (LSlot.len _) (((f4 _ (hsub _ (dropM hM 1))).elemS h0x555.2)))) fun a hF => ?_
        refine d_val hF hch 8 rfl (by kernel_rfl) rfl rfl rfl (fun w hM => (r_neqA Tryz.eqGuardType50 (eq_LSlot _ _ _ _ (by decide)) hF rfl rfl rfl)) fun a hF => ?_
        refine d_end hch (by kernel_rfl) fun w hM => ?_
        refine n_then ?_
        refine c_cond hF (c := .tmp 20) rfl (fun hb556 => ?_) (fun hb556 => ?_)
        · have hP := Fx.cT hb556 hP
          refine c_region ?_
          refine s_val hF (r_move hF rfl rfl) rfl rfl rfl fun a hF => ?_
          refine s_val hF (r_move hF rfl rfl) rfl rfl rfl fun a hF => ?_
          refine s_eff hF rfl rfl rfl (w_slice1 (X := Int) (y := v531) Tryz.underlying52 in3 rfl rfl rfl rfl hF rfl rfl rfl fun b_B85_23 w hzB85_23 hAB85_23 => ?_)
          have hM := hM.plus hAB85_23
          replace hM : MemL _ (pt b_B85_23 (encs ([v531] : List Int)) 3 :: rowL 0 s529 3 v528 :: Lr) := hM
          intro a hF
          obtain ⟨x558, hx558, hP⟩ := bind_some hP
          refine s_eff hF rfl rfl rfl (w_appX (X := Int) hx558 Tryz.underlying52 in3 rfl rfl rfl rfl hF rfl rfl rfl (hM.own (X := Int) (i := 1) rfl) (hM.ptS (X := Int) (i := 0) (n := 1) (c := 1) rfl rfl rfl (Nat.le_refl _)) fun s557 w hUs557 => ?_)
          have hM := hM.chg hUs557 (i := 1) rfl
          replace hM : MemL _ (pt b_B85_23 (encs ([v531] : List Int)) 3 :: rowL 0 s557 3 x558 :: Lr) := hM
          intro a hF
          refine s_val hF (r_assign hF rfl rfl) rfl rfl rfl fun a hF => ?_
          refine c_nil (n_block (n_then ?_))
          have hP := Option.some.inj hP
          subst hP
          exact ⟨x558, rfl, s557, hF.to ⟨rfl, rfl, rfl, rfl, rfl, rfl, trivial⟩, selM hM [1] 2 rfl⟩
        have hP := Fx.cF hb556 hP
        refine c_skip (n_block (n_then ?_))
        have hP := Option.some.inj hP
        subst hP
        exact ⟨v528, rfl, s529, hF.to ⟨rfl, rfl, rfl, rfl, rfl, rfl, trivial⟩, hM⟩
      rintro v549 a w hP ⟨s550, hF, hM⟩
      replace hP : Sh.trace_changed_api_Slot_j3 v531 v549 = _ := hP
      unfold Sh.trace_changed_api_Slot_j3 at hP
      refine n_then ?_
      refine c_region ?_
      refine s_val hF (r_add hF rfl rfl rfl) rfl rfl rfl fun a hF => ?_
      refine s_val hF (r_move hF rfl rfl) rfl rfl rfl fun a hF => ?_
      refine c_nil (n_then ?_)
      have hP := Option.some.inj hP
      subst hP
      exact ⟨(v549, (IntKind.i64.wrap (v531 + 1))), rfl, s550, hF.to ⟨rfl, rfl, rfl, rfl, rfl, rfl, trivial⟩, hM⟩
    have hP := Fx.cF hb534 hP
    refine c_exit (x_then (x_then (x_hit ?_)))
    refine n_then ?_
    have hP := Option.some.inj hP
    subst hP
    have hP := hK_l2 _ rfl
    subst hP
    exact ⟨v528, rfl, s529, hF.to ⟨rfl, rfl, trivial⟩, hM⟩
  rintro v465 a w hP ⟨s466, hF, hM⟩
  replace hP : Sh.trace_changed_api_Slot_j1 v465 = _ := hP
  unfold Sh.trace_changed_api_Slot_j1 at hP
  refine n_then ?_
  refine c_seq ?_
  refine c_region ?_
  refine s_val hF (r_move hF rfl rfl) rfl rfl rfl fun a hF => ?_
  refine s_val hF (r_assign hF rfl rfl) rfl rfl rfl fun a hF => ?_
  refine c_nil (n_then ?_)
  refine c_ret ?_
  have hP := Option.some.inj hP
  subst hP
  refine e_ret1 Tryz.results85 hF rfl ?_
  exact ⟨s466, rfl, hM⟩
set_option maxHeartbeats 4000000 in
theorem trace_plainState_calls {x0 : QState} {s1 : SV} {s3 : SV} {hs4 : List SV} {s7 : SV} {out : Bool} {w0 : World} {Bf : World → Prop} {Lr : List Res} (hP : Sh.trace_plainState x0 = some out) (hM : MemL w0 (Lr)) (hsub : ∀ w, MemL w Lr → Bf w) (f2 : LIn Bf s1 x0.ctx) (f5 : LIn Bf s3 hs4) (q6 : Each (LIn (X := UInt8) Bf) hs4 x0.tables) (f8 : LIn Bf s7 x0.sent) : Calls Tryz.prog 82 #[.agg (RState.enc (RState.mk x0.regs x0.stack s1 s3 s7 x0.at_ x0.steps x0.done)).toArray] w0 (Ret fun v w' => v = .bool out ∧ MemL w' (Lr)) := by
  unfold Sh.trace_plainState at hP
  refine calls_enter (vs := [.agg (RState.enc (RState.mk x0.regs x0.stack s1 s3 s7 x0.at_ x0.steps x0.done)).toArray]) Tryz.func82 rfl Tryz.ntmps82 rfl fun a hF => ?_
  refine c_seq ?_
  refine c_region ?_
  refine s_eff hF rfl rfl rfl (w_box hF rfl rfl rfl fun b_B82_1 w hzB82_1 hAB82_1 => ?_)
  have hM := hM.plus hAB82_1
  replace hM : MemL _ (pt b_B82_1 (RState.enc (RState.mk x0.regs x0.stack s1 s3 s7 x0.at_ x0.steps x0.done)) 54 :: Lr) := hM
  intro a hF
  refine s_val hF (r_assign hF rfl rfl) rfl rfl rfl fun a hF => ?_
  refine c_nil (n_then ?_)
  refine c_seq ?_
  refine c_joinX hF hM hP (fun F x a w => match x with | v9595 => Fr 19 [(2, .bool v9595)] a ∧ MemL w (Lr)) (fun o_j1 hP hK_j1 hF hM => ?_) ?_
  · refine c_region ?_
    refine s_val hF (r_fieldAddr (off' := 463) Tryz.underlying54 rfl in3 rfl hF rfl rfl rfl) rfl rfl rfl fun a hF => ?_
    refine s_val hF (r_load1 Tryz.isAgg3 hF rfl rfl (hM.cell (i := 0) rfl (RState.g_at_ _))) rfl rfl rfl fun a hF => ?_
    obtain ⟨y9597, hy9597, hP⟩ := bind_some hP
    refine s_eff hF rfl rfl rfl (w_call (xs := [.tmp 4, .const (.int .i64 (0)), .const (.int .i64 (4095))]) Tryz.call124 hF rfl rfl (trace_within_calls hy9597 hM ) fun v w hR => ?_)
    obtain ⟨rfl, hM⟩ := hR
    replace hM : MemL _ (pt b_B82_1 (RState.enc (RState.mk x0.regs x0.stack s1 s3 s7 x0.at_ x0.steps x0.done)) 54 :: Lr) := hM
    intro a hF
    refine s_val hF (r_move hF rfl rfl) rfl rfl rfl fun a hF => ?_
    refine g_split 6 hF rfl (fun hb9598 => ?_) (fun hb9598 => ?_)
    · have hP := Fx.cT hb9598 hP
      refine g_val hF rfl rfl rfl hb9598 (r_fieldAddr (off' := 464) Tryz.underlying54 rfl in3 rfl hF rfl rfl rfl) rfl rfl fun a hF => ?_
      refine g_val hF rfl rfl rfl hb9598 (r_load1 Tryz.isAgg3 hF rfl rfl (hM.cell (i := 0) rfl (RState.g_steps _))) rfl rfl fun a hF => ?_
      obtain ⟨y9600, hy9600, hP⟩ := bind_some hP
      refine g_eff hF rfl rfl rfl hb9598 rfl rfl (w_call (xs := [.tmp 8, .const (.int .i64 (0)), .const (.int .i64 (4294967296))]) Tryz.call124 hF rfl rfl (trace_within_calls hy9600 hM ) fun v w hR => ?_)
      obtain ⟨rfl, hM⟩ := hR
      replace hM : MemL _ (pt b_B82_1 (RState.enc (RState.mk x0.regs x0.stack s1 s3 s7 x0.at_ x0.steps x0.done)) 54 :: Lr) := hM
      intro a hF
      refine s_val hF (r_pick1 hF rfl rfl hb9598 rfl) rfl rfl rfl fun a hF => ?_
      refine s_val hF (r_move hF rfl rfl) rfl rfl rfl fun a hF => ?_
      refine g_split 11 hF rfl (fun hb9601 => ?_) (fun hb9601 => ?_)
      · have hP := Fx.cT hb9601 hP
        refine g_val hF rfl rfl rfl hb9601 (r_fieldAddr (off' := 460) Tryz.underlying54 rfl in23 rfl hF rfl rfl rfl) rfl rfl fun a hF => ?_
        refine g_val hF rfl rfl rfl hb9601 (r_load1 Tryz.isAgg23 hF rfl rfl (hM.cell (i := 0) rfl (RState.g_ctx _))) rfl rfl fun a hF => ?_
        refine g_val hF rfl rfl rfl hb9601 (r_fieldAddr (off' := 461) Tryz.underlying54 rfl in28 rfl hF rfl rfl rfl) rfl rfl fun a hF => ?_
        refine g_val hF rfl rfl rfl hb9601 (r_load1 Tryz.isAgg28 hF rfl rfl (hM.cell (i := 0) rfl (RState.g_tables _))) rfl rfl fun a hF => ?_
        refine g_val hF rfl rfl rfl hb9601 (r_build z30 Tryz.underlying30 pl30 hF (parts := [(0, .tmp 13), (1, .tmp 15)]) rfl rfl (fill_s rfl rfl (by rw [RInput.len]; decide) (RInput.s_ctx _ _) (fill_s rfl rfl (by rw [RInput.len]; decide) (RInput.s_tables _ _) fill_e))) rfl rfl fun a hF => ?_
        obtain ⟨o_c2, hP, hK_c2⟩ := seq_some hP
        refine g_eff hF rfl rfl rfl hb9601 rfl rfl (w_call (xs := [.tmp 16]) Tryz.call98 hF rfl rfl (R := fun v w => ∃ x, o_c2 = .inl x ∧ match x with | v10557 => v = .bool v10557 ∧ MemL w (pt b_B82_1 (RState.enc (RState.mk x0.regs x0.stack s1 s3 s7 x0.at_ x0.steps x0.done)) 54 :: Lr)) ?_ fun v w hR => ?_)
        · refine calls_enter Tryz.func98 rfl Tryz.ntmps98 rfl fun a hF => ?_
          refine c_seq ?_
          refine c_region ?_
          refine s_eff hF rfl rfl rfl (w_box hF rfl rfl rfl fun b_B98_1 w hzB98_1 hAB98_1 => ?_)
          have hM := hM.plus hAB98_1
          replace hM : MemL _ (pt b_B98_1 (RInput.enc (RInput.mk s1 s3)) 30 :: pt b_B82_1 (RState.enc (RState.mk x0.regs x0.stack s1 s3 s7 x0.at_ x0.steps x0.done)) 54 :: Lr) := hM
          intro a hF
          refine s_val hF (r_assign hF rfl rfl) rfl rfl rfl fun a hF => ?_
          refine c_nil (n_then ?_)
          refine c_seq ?_
          refine c_region ?_
          refine s_val hF (r_assign hF rfl rfl) rfl rfl rfl fun a hF => ?_
          refine c_nil (n_then ?_)
          refine c_seq ?_
          refine c_joinX hF hM hP (fun F x a w => match x with | v11194 => Fr 22 [(2, .bool v11194)] a ∧ MemL w (pt b_B82_1 (RState.enc (RState.mk x0.regs x0.stack s1 s3 s7 x0.at_ x0.steps x0.done)) 54 :: Lr)) (fun o_j3 hP hK_j3 hF hM => ?_) ?_
          · refine c_region ?_
            refine s_val hF (r_move hF rfl rfl) rfl rfl rfl fun a hF => ?_
            refine s_val hF (r_fieldAddr (off' := 0) Tryz.underlying30 rfl in23 rfl hF rfl rfl rfl) rfl rfl rfl fun a hF => ?_
            refine s_val hF (r_load1 Tryz.isAgg23 hF rfl rfl (hM.cell (i := 0) rfl (RInput.g_ctx _))) rfl rfl rfl fun a hF => ?_
            obtain ⟨o_c4, hP, hK_c4⟩ := seq_some hP
            refine s_eff hF rfl rfl rfl (w_callF (xs := [.tmp 6]) Tryz.call171 hF rfl rfl rfl (R := fun v w => ∃ x, o_c4 = .inl x ∧ match x with | v11195 => v = .bool v11195 ∧ MemL w (pt b_B98_1 (RInput.enc (RInput.mk s1 s3)) 30 :: pt b_B82_1 (RState.enc (RState.mk x0.regs x0.stack s1 s3 s7 x0.at_ x0.steps x0.done)) 54 :: Lr)) ?_ fun v w hR => ?_)
            · refine calls_enter Tryz.func171 rfl Tryz.ntmps171 rfl fun a hF => ?_
              refine c_seq ?_
              refine c_region ?_
              refine s_val hF (r_assign hF rfl rfl) rfl rfl rfl fun a hF => ?_
              refine c_nil (n_then ?_)
              refine c_seq ?_
              refine c_region ?_
              refine s_val hF (r_move hF rfl rfl) rfl rfl rfl fun a hF => ?_
              refine s_val hF (r_lenL (f2 _ (hsub _ (dropM hM 2))) Tryz.underlying23 hF rfl rfl) rfl rfl rfl fun a hF => ?_
              refine s_val hF (r_gtr hF rfl rfl rfl) rfl rfl rfl fun a hF => ?_
              refine s_val hF (r_assign hF rfl rfl) rfl rfl rfl fun a hF => ?_
              refine c_nil (n_then ?_)
              refine c_ret ?_
              have hP := Option.some.inj hP
              subst hP
              refine e_ret1 Tryz.results171 hF rfl ?_
              exact ⟨(decide (65535 < (x0.ctx.length : Int))), rfl, rfl, hM⟩
            obtain ⟨v11195, rfl, rfl, hM⟩ := hR
            replace hP : Sh.trace_plainState_c4 x0 v11195 = _ := hK_c4
            unfold Sh.trace_plainState_c4 at hP
            intro a hF
            refine s_val hF (r_not hF rfl rfl) rfl rfl rfl fun a hF => ?_
            refine s_val hF (r_move hF rfl rfl) rfl rfl rfl fun a hF => ?_
            refine g_split 9 hF rfl (fun hb11196 => ?_) (fun hb11196 => ?_)
            · have hP := Fx.cT hb11196 hP
              refine g_val hF rfl rfl rfl hb11196 (r_fieldAddr (off' := 1) Tryz.underlying30 rfl in28 rfl hF rfl rfl rfl) rfl rfl fun a hF => ?_
              refine g_val hF rfl rfl rfl hb11196 (r_load1 Tryz.isAgg28 hF rfl rfl (hM.cell (i := 0) rfl (RInput.g_tables _))) rfl rfl fun a hF => ?_
              refine g_val hF rfl rfl rfl hb11196 (r_lenD (f5 _ (hsub _ (dropM hM 2))) q6.len Tryz.underlying28 hF rfl rfl) rfl rfl fun a hF => ?_
              refine g_val hF rfl rfl rfl hb11196 (r_leq hF rfl rfl rfl) rfl rfl fun a hF => ?_
              refine s_val hF (r_pick1 hF rfl rfl hb11196 rfl) rfl rfl rfl fun a hF => ?_
              refine s_val hF (r_move hF rfl rfl) rfl rfl rfl fun a hF => ?_
              refine g_split 15 hF rfl (fun hb11197 => ?_) (fun hb11197 => ?_)
              · have hP := Fx.cT hb11197 hP
                refine g_val hF rfl rfl rfl hb11197 (r_fieldAddr (off' := 1) Tryz.underlying30 rfl in28 rfl hF rfl rfl rfl) rfl rfl fun a hF => ?_
                refine g_val hF rfl rfl rfl hb11197 (r_load1 Tryz.isAgg28 hF rfl rfl (hM.cell (i := 0) rfl (RInput.g_tables _))) rfl rfl fun a hF => ?_
                refine g_val hF rfl rfl rfl hb11197 (r_move hF rfl rfl) rfl rfl fun a hF => ?_
                obtain ⟨o_c5, hP, hK_c5⟩ := seq_some hP
                refine g_eff hF rfl rfl rfl hb11197 rfl rfl (w_call (xs := [.tmp 17, .tmp 18]) Tryz.call172 hF rfl rfl (R := fun v w => ∃ x, o_c5 = .inl x ∧ match x with | v11355 => v = .bool v11355 ∧ MemL w (pt b_B98_1 (RInput.enc (RInput.mk s1 s3)) 30 :: pt b_B82_1 (RState.enc (RState.mk x0.regs x0.stack s1 s3 s7 x0.at_ x0.steps x0.done)) 54 :: Lr)) ?_ fun v w hR => ?_)
                · refine calls_enter Tryz.func172 rfl Tryz.ntmps172 rfl fun a hF => ?_
                  refine c_seq ?_
                  refine c_region ?_
                  refine s_val hF (r_assign hF rfl rfl) rfl rfl rfl fun a hF => ?_
                  refine c_nil (n_then ?_)
                  refine c_seq ?_
                  refine c_region ?_
                  refine s_val hF (r_move hF rfl rfl) rfl rfl rfl fun a hF => ?_
                  refine s_val hF (r_move hF rfl rfl) rfl rfl rfl fun a hF => ?_
                  obtain ⟨o_c6, hP, hK_c6⟩ := seq_some hP
                  refine s_eff hF rfl rfl rfl (w_call (xs := [.tmp 5, .tmp 6]) Tryz.call226 hF rfl rfl (R := fun v w => ∃ x, o_c6 = .inl x ∧ match x with | v11434 => v = .int .i64 v11434 ∧ MemL w (pt b_B98_1 (RInput.enc (RInput.mk s1 s3)) 30 :: pt b_B82_1 (RState.enc (RState.mk x0.regs x0.stack s1 s3 s7 x0.at_ x0.steps x0.done)) 54 :: Lr)) ?_ fun v w hR => ?_)
                  · refine calls_enter Tryz.func226 rfl Tryz.ntmps226 rfl fun a hF => ?_
                    refine c_seq ?_
                    refine c_region ?_
                    refine s_val hF (r_assign hF rfl rfl) rfl rfl rfl fun a hF => ?_
                    refine c_nil (n_then ?_)
                    refine c_seq ?_
                    refine c_joinX hF hM hP (fun F x a w => match x with | _ => Fr 19 [(4, .int .i64 0)] a ∧ MemL w (pt b_B98_1 (RInput.enc (RInput.mk s1 s3)) 30 :: pt b_B82_1 (RState.enc (RState.mk x0.regs x0.stack s1 s3 s7 x0.at_ x0.steps x0.done)) 54 :: Lr)) (fun o_j7 hP hK_j7 hF hM => ?_) ?_
                    · refine c_seq ?_
                      refine c_region ?_
                      refine s_val hF (r_move hF rfl rfl) rfl rfl rfl fun a hF => ?_
                      refine s_val hF (r_lenD (f5 _ (hsub _ (dropM hM 2))) q6.len Tryz.underlying28 hF rfl rfl) rfl rfl rfl fun a hF => ?_
                      refine s_val hF (r_move hF rfl rfl) rfl rfl rfl fun a hF => ?_
                      refine c_nil (n_then ?_)
                      refine c_block ?_
                      refine c_loopX hF hM hP (fun F x a w => match x with | v11504 => Fr 19 [(8, .int .i64 v11504), (0, (s3).v), (1, .func (.func 171) [].toArray [].toArray), (4, .int .i64 0), (7, .int .i64 (x0.tables.length : Int))] a ∧ MemL w (pt b_B98_1 (RInput.enc (RInput.mk s1 s3)) 30 :: pt b_B82_1 (RState.enc (RState.mk x0.regs x0.stack s1 s3 s7 x0.at_ x0.steps x0.done)) 54 :: Lr)) (fun hF hM => ⟨hF.to ⟨rfl, rfl, rfl, rfl, rfl, trivial⟩, hM⟩) ?_
                      rintro v11504 a w o_l8 hP hK_l8 ⟨hF, hM⟩
                      replace hP : Sh.trace_plainState_l8 x0 v11504 = _ := hP
                      unfold Sh.trace_plainState_l8 at hP
                      refine c_seq ?_
                      refine c_region ?_
                      refine s_val hF (r_lss hF rfl rfl rfl) rfl rfl rfl fun a hF => ?_
                      refine c_nil (n_then ?_)
                      refine c_seq ?_
                      refine c_cond hF (c := .tmp 9) rfl (fun hb11506 => ?_) (fun hb11506 => ?_)
                      · have hP := Fx.cT hb11506 hP
                        refine c_skip (n_then ?_)
                        refine c_seq ?_
                        refine c_block ?_
                        refine c_seq ?_
                        refine c_region ?_
                        refine s_val hF (r_move hF rfl rfl) rfl rfl rfl fun a hF => ?_
                        refine s_val hF (r_assign hF rfl rfl) rfl rfl rfl fun a hF => ?_
                        refine c_nil (n_then ?_)
                        refine c_seq ?_
                        refine c_region ?_
                        refine s_val hF (r_move hF rfl rfl) rfl rfl rfl fun a hF => ?_
                        refine s_val hF (r_move hF rfl rfl) rfl rfl rfl fun a hF => ?_
                        refine s_val hF (r_move hF rfl rfl) rfl rfl rfl fun a hF => ?_
                        obtain ⟨x11510, hx11510, hP⟩ := bind_some hP
                        have h0x11510 := get_some hx11510
                        obtain ⟨yx11510, hgx11510, hrx11510⟩ := Each.getr q6 h0x11510.2
                        have hdx11510 := Each.bd q6 (get_bd hx11510)
                        refine s_val hF (r_indexZ (sz := 1) (f5 _ (hsub _ (dropM hM 2))) Tryz.underlying28 in23 rfl hF rfl rfl rfl hdx11510) rfl rfl rfl fun a hF => ?_
                        refine s_val hF (r_load1 Tryz.isAgg23 hF rfl rfl ((((f5 _ (hsub _ (dropM hM 2))).elemS hgx11510)).get 0 rfl)) rfl rfl rfl fun a hF => ?_
                        obtain ⟨o_c9, hP, hK_c9⟩ := seq_some hP
                        refine s_eff hF rfl rfl rfl (w_callF (xs := [.tmp 15]) Tryz.call171 hF rfl rfl rfl (R := fun v w => ∃ x, o_c9 = .inl x ∧ match x with | v11511 => v = .bool v11511 ∧ MemL w (pt b_B98_1 (RInput.enc (RInput.mk s1 s3)) 30 :: pt b_B82_1 (RState.enc (RState.mk x0.regs x0.stack s1 s3 s7 x0.at_ x0.steps x0.done)) 54 :: Lr)) ?_ fun v w hR => ?_)
                        · refine calls_enter Tryz.func171 rfl Tryz.ntmps171 rfl fun a hF => ?_
                          refine c_seq ?_
                          refine c_region ?_
                          refine s_val hF (r_assign hF rfl rfl) rfl rfl rfl fun a hF => ?_
                          refine c_nil (n_then ?_)
                          refine c_seq ?_
                          refine c_region ?_
                          refine s_val hF (r_move hF rfl rfl) rfl rfl rfl fun a hF => ?_
                          refine s_val hF (r_lenL (hrx11510 _ (hsub _ (dropM hM 2))) Tryz.underlying23 hF rfl rfl) rfl rfl rfl fun a hF => ?_
                          refine s_val hF (r_gtr hF rfl rfl rfl) rfl rfl rfl fun a hF => ?_
                          refine s_val hF (r_assign hF rfl rfl) rfl rfl rfl fun a hF => ?_
                          refine c_nil (n_then ?_)
                          refine c_ret ?_
                          have hP := Option.some.inj hP
                          subst hP
                          refine e_ret1 Tryz.results171 hF rfl ?_
                          exact ⟨(decide (65535 < (x11510.length : Int))), rfl, rfl, hM⟩
                        obtain ⟨v11511, rfl, rfl, hM⟩ := hR
                        replace hP : Sh.trace_plainState_c9 v11504 v11511 = _ := hK_c9
                        unfold Sh.trace_plainState_c9 at hP
                        intro a hF
                        refine c_nil (n_then ?_)
                        refine c_cond hF (c := .tmp 16) rfl (fun hb11512 => ?_) (fun hb11512 => ?_)
                        · have hP := Fx.cT hb11512 hP
                          refine c_seq ?_
                          refine c_region ?_
                          refine s_val hF (r_move hF rfl rfl) rfl rfl rfl fun a hF => ?_
                          refine s_val hF (r_assign hF rfl rfl) rfl rfl rfl fun a hF => ?_
                          refine c_nil (n_then ?_)
                          refine c_ret ?_
                          have hP := Option.some.inj hP
                          subst hP
                          have hP := hK_l8 _ rfl
                          subst hP
                          have hP := fin_inr hK_j7
                          subst hP
                          refine e_ret1 Tryz.results226 hF rfl ?_
                          exact ⟨v11504, rfl, rfl, hM⟩
                        have hP := Fx.cF hb11512 hP
                        refine c_skip (n_block (n_then ?_))
                        refine c_region ?_
                        refine s_val hF (r_add hF rfl rfl rfl) rfl rfl rfl fun a hF => ?_
                        refine s_val hF (r_move hF rfl rfl) rfl rfl rfl fun a hF => ?_
                        refine c_nil (n_then ?_)
                        have hP := Option.some.inj hP
                        subst hP
                        exact ⟨(IntKind.i64.wrap (v11504 + 1)), rfl, hF.to ⟨rfl, rfl, rfl, rfl, rfl, trivial⟩, hM⟩
                      have hP := Fx.cF hb11506 hP
                      refine c_exit (x_then (x_then (x_hit ?_)))
                      refine n_then ?_
                      have hP := Option.some.inj hP
                      subst hP
                      have hP := hK_l8 _ rfl
                      subst hP
                      exact ⟨(), rfl, hF.to ⟨rfl, trivial⟩, hM⟩
                    rintro ⟨⟩ a w hP ⟨hF, hM⟩
                    replace hP : Sh.trace_plainState_j7 = _ := hP
                    unfold Sh.trace_plainState_j7 at hP
                    refine n_then ?_
                    refine c_seq ?_
                    refine c_region ?_
                    refine s_val hF (r_assign hF rfl rfl) rfl rfl rfl fun a hF => ?_
                    refine c_nil (n_then ?_)
                    refine c_ret ?_
                    have hP := Option.some.inj hP
                    subst hP
                    refine e_ret1 Tryz.results226 hF rfl ?_
                    exact ⟨(-1), rfl, rfl, hM⟩
                  obtain ⟨v11434, rfl, rfl, hM⟩ := hR
                  replace hP : Sh.trace_plainState_c6 v11434 = _ := hK_c6
                  unfold Sh.trace_plainState_c6 at hP
                  intro a hF
                  refine s_val hF (r_geq hF rfl rfl rfl) rfl rfl rfl fun a hF => ?_
                  refine s_val hF (r_assign hF rfl rfl) rfl rfl rfl fun a hF => ?_
                  refine c_nil (n_then ?_)
                  refine c_ret ?_
                  have hP := Option.some.inj hP
                  subst hP
                  refine e_ret1 Tryz.results172 hF rfl ?_
                  exact ⟨(decide (0 ≤ v11434)), rfl, rfl, hM⟩
                obtain ⟨v11355, rfl, rfl, hM⟩ := hR
                replace hP : Sh.trace_plainState_c5 v11355 = _ := hK_c5
                unfold Sh.trace_plainState_c5 at hP
                intro a hF
                refine g_val hF rfl rfl rfl hb11197 (r_not hF rfl rfl) rfl rfl fun a hF => ?_
                refine s_val hF (r_pick1 hF rfl rfl hb11197 rfl) rfl rfl rfl fun a hF => ?_
                refine s_val hF (r_assign hF rfl rfl) rfl rfl rfl fun a hF => ?_
                refine c_nil (n_then ?_)
                have hP := Option.some.inj hP
                subst hP
                exact ⟨(!v11355), rfl, hF.to ⟨rfl, trivial⟩, selM hM [1] 2 rfl⟩
              have hP := Fx.cF hb11197 hP
              refine g_skip hF rfl rfl rfl hb11197 rfl rfl fun a hF => ?_
              refine g_skip hF rfl rfl rfl hb11197 rfl rfl fun a hF => ?_
              refine g_skip hF rfl rfl rfl hb11197 rfl rfl fun a hF => ?_
              refine g_skip hF rfl rfl rfl hb11197 rfl rfl fun a hF => ?_
              refine g_skip hF rfl rfl rfl hb11197 rfl rfl fun a hF => ?_
              refine s_val hF (r_pick0 hF rfl rfl hb11197 rfl) rfl rfl rfl fun a hF => ?_
              refine s_val hF (r_assign hF rfl rfl) rfl rfl rfl fun a hF => ?_
              refine c_nil (n_then ?_)
              have hP := Option.some.inj hP
              subst hP
              exact ⟨false, rfl, hF.to ⟨rfl, trivial⟩, selM hM [1] 2 rfl⟩
            have hP := Fx.cF hb11196 hP
            refine g_skip hF rfl rfl rfl hb11196 rfl rfl fun a hF => ?_
            refine g_skip hF rfl rfl rfl hb11196 rfl rfl fun a hF => ?_
            refine g_skip hF rfl rfl rfl hb11196 rfl rfl fun a hF => ?_
            refine g_skip hF rfl rfl rfl hb11196 rfl rfl fun a hF => ?_
            refine s_val hF (r_pick0 hF rfl rfl hb11196 rfl) rfl rfl rfl fun a hF => ?_
            refine s_val hF (r_move hF rfl rfl) rfl rfl rfl fun a hF => ?_
            refine g_skip hF rfl rfl rfl rfl rfl rfl fun a hF => ?_
            refine g_skip hF rfl rfl rfl rfl rfl rfl fun a hF => ?_
            refine g_skip hF rfl rfl rfl rfl rfl rfl fun a hF => ?_
            refine g_skip hF rfl rfl rfl rfl rfl rfl fun a hF => ?_
            refine g_skip hF rfl rfl rfl rfl rfl rfl fun a hF => ?_
            refine s_val hF (r_pick0 hF rfl rfl rfl rfl) rfl rfl rfl fun a hF => ?_
            refine s_val hF (r_assign hF rfl rfl) rfl rfl rfl fun a hF => ?_
            refine c_nil (n_then ?_)
            have hP := Option.some.inj hP
            subst hP
            exact ⟨false, rfl, hF.to ⟨rfl, trivial⟩, selM hM [1] 2 rfl⟩
          rintro v11194 a w hP ⟨hF, hM⟩
          replace hP : Sh.trace_plainState_j3 v11194 = _ := hP
          unfold Sh.trace_plainState_j3 at hP
          refine n_then ?_
          refine c_ret ?_
          have hP := Option.some.inj hP
          subst hP
          refine e_ret1 Tryz.results98 hF rfl ?_
          exact ⟨v11194, rfl, rfl, hM⟩
        obtain ⟨v10557, rfl, rfl, hM⟩ := hR
        replace hP : Sh.trace_plainState_c2 v10557 = _ := hK_c2
        unfold Sh.trace_plainState_c2 at hP
        intro a hF
        refine s_val hF (r_pick1 hF rfl rfl hb9601 rfl) rfl rfl rfl fun a hF => ?_
        refine s_val hF (r_assign hF rfl rfl) rfl rfl rfl fun a hF => ?_
        refine c_nil (n_then ?_)
        have hP := Option.some.inj hP
        subst hP
        exact ⟨v10557, rfl, hF.to ⟨rfl, trivial⟩, selM hM [] 1 rfl⟩
      have hP := Fx.cF hb9601 hP
      refine g_skip hF rfl rfl rfl hb9601 rfl rfl fun a hF => ?_
      refine g_skip hF rfl rfl rfl hb9601 rfl rfl fun a hF => ?_
      refine g_skip hF rfl rfl rfl hb9601 rfl rfl fun a hF => ?_
      refine g_skip hF rfl rfl rfl hb9601 rfl rfl fun a hF => ?_
      refine g_skip hF rfl rfl rfl hb9601 rfl rfl fun a hF => ?_
      refine g_skip hF rfl rfl rfl hb9601 rfl rfl fun a hF => ?_
      refine s_val hF (r_pick0 hF rfl rfl hb9601 rfl) rfl rfl rfl fun a hF => ?_
      refine s_val hF (r_assign hF rfl rfl) rfl rfl rfl fun a hF => ?_
      refine c_nil (n_then ?_)
      have hP := Option.some.inj hP
      subst hP
      exact ⟨false, rfl, hF.to ⟨rfl, trivial⟩, selM hM [] 1 rfl⟩
    have hP := Fx.cF hb9598 hP
    refine g_skip hF rfl rfl rfl hb9598 rfl rfl fun a hF => ?_
    refine g_skip hF rfl rfl rfl hb9598 rfl rfl fun a hF => ?_
    refine g_skip hF rfl rfl rfl hb9598 rfl rfl fun a hF => ?_
    refine s_val hF (r_pick0 hF rfl rfl hb9598 rfl) rfl rfl rfl fun a hF => ?_
    refine s_val hF (r_move hF rfl rfl) rfl rfl rfl fun a hF => ?_
    refine g_skip hF rfl rfl rfl rfl rfl rfl fun a hF => ?_
    refine g_skip hF rfl rfl rfl rfl rfl rfl fun a hF => ?_
    refine g_skip hF rfl rfl rfl rfl rfl rfl fun a hF => ?_
    refine g_skip hF rfl rfl rfl rfl rfl rfl fun a hF => ?_
    refine g_skip hF rfl rfl rfl rfl rfl rfl fun a hF => ?_
    refine g_skip hF rfl rfl rfl rfl rfl rfl fun a hF => ?_
    refine s_val hF (r_pick0 hF rfl rfl rfl rfl) rfl rfl rfl fun a hF => ?_
    refine s_val hF (r_assign hF rfl rfl) rfl rfl rfl fun a hF => ?_
    refine c_nil (n_then ?_)
    have hP := Option.some.inj hP
    subst hP
    exact ⟨false, rfl, hF.to ⟨rfl, trivial⟩, selM hM [] 1 rfl⟩
  rintro v9595 a w hP ⟨hF, hM⟩
  replace hP : Sh.trace_plainState_j1 v9595 = _ := hP
  unfold Sh.trace_plainState_j1 at hP
  refine n_then ?_
  refine c_ret ?_
  have hP := Option.some.inj hP
  subst hP
  refine e_ret1 Tryz.results82 hF rfl ?_
  exact ⟨rfl, hM⟩
set_option maxHeartbeats 4000000 in
theorem trace_behind_calls {x0 : QState} {x1 : QState} {s1 : SV} {s3 : SV} {hs4 : List SV} {s7 : SV} {s9 : SV} {s11 : SV} {hs12 : List SV} {s15 : SV} {out : Bool} {w0 : World} {Bf : World → Prop} {Lr : List Res} (hP : Sh.trace_behind x0 x1 = some out) (hM : MemL w0 (Lr)) (hsub : ∀ w, MemL w Lr → Bf w) (f2 : LIn Bf s1 x0.ctx) (f5 : LIn Bf s3 hs4) (q6 : Each (LIn (X := UInt8) Bf) hs4 x0.tables) (f8 : LIn Bf s7 x0.sent) (f10 : LIn Bf s9 x1.ctx) (f13 : LIn Bf s11 hs12) (q14 : Each (LIn (X := UInt8) Bf) hs12 x1.tables) (f16 : LIn Bf s15 x1.sent) : Calls Tryz.prog 83 #[.agg (RState.enc (RState.mk x0.regs x0.stack s1 s3 s7 x0.at_ x0.steps x0.done)).toArray, .agg (RState.enc (RState.mk x1.regs x1.stack s9 s11 s15 x1.at_ x1.steps x1.done)).toArray] w0 (Ret fun v w' => v = .bool out ∧ MemL w' (Lr)) := by
  unfold Sh.trace_behind at hP
  refine calls_enter (vs := [.agg (RState.enc (RState.mk x0.regs x0.stack s1 s3 s7 x0.at_ x0.steps x0.done)).toArray, .agg (RState.enc (RState.mk x1.regs x1.stack s9 s11 s15 x1.at_ x1.steps x1.done)).toArray]) Tryz.func83 rfl Tryz.ntmps83 rfl fun a hF => ?_
  refine c_seq ?_
  refine c_region ?_
  refine s_eff hF rfl rfl rfl (w_box hF rfl rfl rfl fun b_B83_2 w hzB83_2 hAB83_2 => ?_)
  have hM := hM.plus hAB83_2
  replace hM : MemL _ (pt b_B83_2 (RState.enc (RState.mk x0.regs x0.stack s1 s3 s7 x0.at_ x0.steps x0.done)) 54 :: Lr) := hM
  intro a hF
  refine s_eff hF rfl rfl rfl (w_box hF rfl rfl rfl fun b_B83_3 w hzB83_3 hAB83_3 => ?_)
  have hM := hM.plus hAB83_3
  replace hM : MemL _ (pt b_B83_3 (RState.enc (RState.mk x1.regs x1.stack s9 s11 s15 x1.at_ x1.steps x1.done)) 54 :: pt b_B83_2 (RState.enc (RState.mk x0.regs x0.stack s1 s3 s7 x0.at_ x0.steps x0.done)) 54 :: Lr) := hM
  intro a hF
  refine s_val hF (r_assign hF rfl rfl) rfl rfl rfl fun a hF => ?_
  refine c_nil (n_then ?_)
  refine c_seq ?_
  refine c_seq ?_
  refine c_joinX hF hM hP (fun F x a w => match x with | v882 => Fr 75 [(34, .bool v882), (2, .pointer (some ⟨b_B83_2, 0, none⟩)), (3, .pointer (some ⟨b_B83_3, 0, none⟩)), (4, .bool false)] a ∧ MemL w (pt b_B83_3 (RState.enc (RState.mk x1.regs x1.stack s9 s11 s15 x1.at_ x1.steps x1.done)) 54 :: pt b_B83_2 (RState.enc (RState.mk x0.regs x0.stack s1 s3 s7 x0.at_ x0.steps x0.done)) 54 :: Lr)) (fun o_j1 hP hK_j1 hF hM => ?_) ?_
  · refine c_region ?_
    refine s_val hF (r_fieldAddr (off' := 465) Tryz.underlying54 rfl in4 rfl hF rfl rfl rfl) rfl rfl rfl fun a hF => ?_
    refine s_val hF (r_load1 Tryz.isAgg4 hF rfl rfl (hM.cell (i := 1) rfl (RState.g_done _))) rfl rfl rfl fun a hF => ?_
    refine s_val hF (r_move hF rfl rfl) rfl rfl rfl fun a hF => ?_
    refine g_split 9 hF rfl (fun hb883 => ?_) (fun hb883 => ?_)
    · have hP := Fx.cT hb883 hP
      refine g_skip hF rfl rfl rfl hb883 rfl rfl fun a hF => ?_
      refine g_skip hF rfl rfl rfl hb883 rfl rfl fun a hF => ?_
      refine g_skip hF rfl rfl rfl hb883 rfl rfl fun a hF => ?_
      refine g_skip hF rfl rfl rfl hb883 rfl rfl fun a hF => ?_
      refine g_skip hF rfl rfl rfl hb883 rfl rfl fun a hF => ?_
      refine g_skip hF rfl rfl rfl hb883 rfl rfl fun a hF => ?_
      refine s_val hF (r_pick1 hF rfl rfl hb883 rfl) rfl rfl rfl fun a hF => ?_
      refine s_val hF (r_move hF rfl rfl) rfl rfl rfl fun a hF => ?_
      refine g_skip hF rfl rfl rfl rfl rfl rfl fun a hF => ?_
      refine g_skip hF rfl rfl rfl rfl rfl rfl fun a hF => ?_
      refine g_skip hF rfl rfl rfl rfl rfl rfl fun a hF => ?_
      refine g_skip hF rfl rfl rfl rfl rfl rfl fun a hF => ?_
      refine g_skip hF rfl rfl rfl rfl rfl rfl fun a hF => ?_
      refine g_skip hF rfl rfl rfl rfl rfl rfl fun a hF => ?_
      refine g_skip hF rfl rfl rfl rfl rfl rfl fun a hF => ?_
      refine s_val hF (r_pick1 hF rfl rfl rfl rfl) rfl rfl rfl fun a hF => ?_
      refine s_val hF (r_move hF rfl rfl) rfl rfl rfl fun a hF => ?_
      refine g_skip hF rfl rfl rfl rfl rfl rfl fun a hF => ?_
      refine g_skip hF rfl rfl rfl rfl rfl rfl fun a hF => ?_
      refine g_skip hF rfl rfl rfl rfl rfl rfl fun a hF => ?_
      refine g_skip hF rfl rfl rfl rfl rfl rfl fun a hF => ?_
      refine g_skip hF rfl rfl rfl rfl rfl rfl fun a hF => ?_
      refine g_skip hF rfl rfl rfl rfl rfl rfl fun a hF => ?_
      refine g_skip hF rfl rfl rfl rfl rfl rfl fun a hF => ?_
      refine s_val hF (r_pick1 hF rfl rfl rfl rfl) rfl rfl rfl fun a hF => ?_
      refine c_nil (n_then ?_)
      have hP := Option.some.inj hP
      subst hP
      exact ⟨true, rfl, hF.to ⟨rfl, rfl, rfl, rfl, trivial⟩, hM⟩
    have hP := Fx.cF hb883 hP
    refine g_val hF rfl rfl rfl hb883 (r_fieldAddr (off' := 464) Tryz.underlying54 rfl in3 rfl hF rfl rfl rfl) rfl rfl fun a hF => ?_
    refine g_val hF rfl rfl rfl hb883 (r_load1 Tryz.isAgg3 hF rfl rfl (hM.cell (i := 0) rfl (RState.g_steps _))) rfl rfl fun a hF => ?_
    refine g_val hF rfl rfl rfl hb883 (r_fieldAddr (off' := 464) Tryz.underlying54 rfl in3 rfl hF rfl rfl rfl) rfl rfl fun a hF => ?_
    refine g_val hF rfl rfl rfl hb883 (r_load1 Tryz.isAgg3 hF rfl rfl (hM.cell (i := 1) rfl (RState.g_steps _))) rfl rfl fun a hF => ?_
    refine g_val hF rfl rfl rfl hb883 (r_add hF rfl rfl rfl) rfl rfl fun a hF => ?_
    refine g_val hF rfl rfl rfl hb883 (r_neq hF rfl rfl rfl) rfl rfl fun a hF => ?_
    refine s_val hF (r_pick0 hF rfl rfl hb883 rfl) rfl rfl rfl fun a hF => ?_
    refine s_val hF (r_move hF rfl rfl) rfl rfl rfl fun a hF => ?_
    refine g_split 17 hF rfl (fun hb884 => ?_) (fun hb884 => ?_)
    · have hP := Fx.cT hb884 hP
      refine g_skip hF rfl rfl rfl hb884 rfl rfl fun a hF => ?_
      refine g_skip hF rfl rfl rfl hb884 rfl rfl fun a hF => ?_
      refine g_skip hF rfl rfl rfl hb884 rfl rfl fun a hF => ?_
      refine g_skip hF rfl rfl rfl hb884 rfl rfl fun a hF => ?_
      refine g_skip hF rfl rfl rfl hb884 rfl rfl fun a hF => ?_
      refine g_skip hF rfl rfl rfl hb884 rfl rfl fun a hF => ?_
      refine g_skip hF rfl rfl rfl hb884 rfl rfl fun a hF => ?_
      refine s_val hF (r_pick1 hF rfl rfl hb884 rfl) rfl rfl rfl fun a hF => ?_
      refine s_val hF (r_move hF rfl rfl) rfl rfl rfl fun a hF => ?_
      refine g_skip hF rfl rfl rfl rfl rfl rfl fun a hF => ?_
      refine g_skip hF rfl rfl rfl rfl rfl rfl fun a hF => ?_
      refine g_skip hF rfl rfl rfl rfl rfl rfl fun a hF => ?_
      refine g_skip hF rfl rfl rfl rfl rfl rfl fun a hF => ?_
      refine g_skip hF rfl rfl rfl rfl rfl rfl fun a hF => ?_
      refine g_skip hF rfl rfl rfl rfl rfl rfl fun a hF => ?_
      refine g_skip hF rfl rfl rfl rfl rfl rfl fun a hF => ?_
      refine s_val hF (r_pick1 hF rfl rfl rfl rfl) rfl rfl rfl fun a hF => ?_
      refine c_nil (n_then ?_)
      have hP := Option.some.inj hP
      subst hP
      exact ⟨true, rfl, hF.to ⟨rfl, rfl, rfl, rfl, trivial⟩, hM⟩
    have hP := Fx.cF hb884 hP
    refine g_val hF rfl rfl rfl hb884 (r_fieldAddr (off' := 460) Tryz.underlying54 rfl in23 rfl hF rfl rfl rfl) rfl rfl fun a hF => ?_
    refine g_val hF rfl rfl rfl hb884 (r_load1 Tryz.isAgg23 hF rfl rfl (hM.cell (i := 1) rfl (RState.g_ctx _))) rfl rfl fun a hF => ?_
    refine g_val hF rfl rfl rfl hb884 (r_lenL (f2 _ (hsub _ (dropM hM 2))) Tryz.underlying23 hF rfl rfl) rfl rfl fun a hF => ?_
    refine g_val hF rfl rfl rfl hb884 (r_fieldAddr (off' := 460) Tryz.underlying54 rfl in23 rfl hF rfl rfl rfl) rfl rfl fun a hF => ?_
    refine g_val hF rfl rfl rfl hb884 (r_load1 Tryz.isAgg23 hF rfl rfl (hM.cell (i := 0) rfl (RState.g_ctx _))) rfl rfl fun a hF => ?_
    refine g_val hF rfl rfl rfl hb884 (r_lenL (f10 _ (hsub _ (dropM hM 2))) Tryz.underlying23 hF rfl rfl) rfl rfl fun a hF => ?_
    refine g_val hF rfl rfl rfl hb884 (r_neq hF rfl rfl rfl) rfl rfl fun a hF => ?_
    refine s_val hF (r_pick0 hF rfl rfl hb884 rfl) rfl rfl rfl fun a hF => ?_
    refine s_val hF (r_move hF rfl rfl) rfl rfl rfl fun a hF => ?_
    refine g_split 26 hF rfl (fun hb885 => ?_) (fun hb885 => ?_)
    · have hP := Fx.cT hb885 hP
      refine g_skip hF rfl rfl rfl hb885 rfl rfl fun a hF => ?_
      refine g_skip hF rfl rfl rfl hb885 rfl rfl fun a hF => ?_
      refine g_skip hF rfl rfl rfl hb885 rfl rfl fun a hF => ?_
      refine g_skip hF rfl rfl rfl hb885 rfl rfl fun a hF => ?_
      refine g_skip hF rfl rfl rfl hb885 rfl rfl fun a hF => ?_
      refine g_skip hF rfl rfl rfl hb885 rfl rfl fun a hF => ?_
      refine g_skip hF rfl rfl rfl hb885 rfl rfl fun a hF => ?_
      refine s_val hF (r_pick1 hF rfl rfl hb885 rfl) rfl rfl rfl fun a hF => ?_
      refine c_nil (n_then ?_)
      have hP := Option.some.inj hP
      subst hP
      exact ⟨true, rfl, hF.to ⟨rfl, rfl, rfl, rfl, trivial⟩, hM⟩
    have hP := Fx.cF hb885 hP
    refine g_val hF rfl rfl rfl hb885 (r_fieldAddr (off' := 461) Tryz.underlying54 rfl in28 rfl hF rfl rfl rfl) rfl rfl fun a hF => ?_
    refine g_val hF rfl rfl rfl hb885 (r_load1 Tryz.isAgg28 hF rfl rfl (hM.cell (i := 1) rfl (RState.g_tables _))) rfl rfl fun a hF => ?_
    refine g_val hF rfl rfl rfl hb885 (r_lenD (f5 _ (hsub _ (dropM hM 2))) q6.len Tryz.underlying28 hF rfl rfl) rfl rfl fun a hF => ?_
    refine g_val hF rfl rfl rfl hb885 (r_fieldAddr (off' := 461) Tryz.underlying54 rfl in28 rfl hF rfl rfl rfl) rfl rfl fun a hF => ?_
    refine g_val hF rfl rfl rfl hb885 (r_load1 Tryz.isAgg28 hF rfl rfl (hM.cell (i := 0) rfl (RState.g_tables _))) rfl rfl fun a hF => ?_
    refine g_val hF rfl rfl rfl hb885 (r_lenD (f13 _ (hsub _ (dropM hM 2))) q14.len Tryz.underlying28 hF rfl rfl) rfl rfl fun a hF => ?_
    refine g_val hF rfl rfl rfl hb885 (r_neq hF rfl rfl rfl) rfl rfl fun a hF => ?_
    refine s_val hF (r_pick0 hF rfl rfl hb885 rfl) rfl rfl rfl fun a hF => ?_
    refine c_nil (n_then ?_)
    have hP := Option.some.inj hP
    subst hP
    exact ⟨(!decide ((x0.tables.length : Int) = (x1.tables.length : Int))), rfl, hF.to ⟨rfl, rfl, rfl, rfl, trivial⟩, hM⟩
  rintro v882 a w hP ⟨hF, hM⟩
  replace hP : Sh.trace_behind_j1 x0 x1 v882 = _ := hP
  unfold Sh.trace_behind_j1 at hP
  refine n_then ?_
  refine c_cond hF (c := .tmp 34) rfl (fun hb886 => ?_) (fun hb886 => ?_)
  · have hP := Fx.cT hb886 hP
    refine c_seq ?_
    refine c_region ?_
    refine s_val hF (r_assign hF rfl rfl) rfl rfl rfl fun a hF => ?_
    refine c_nil (n_then ?_)
    refine c_ret ?_
    have hP := Option.some.inj hP
    subst hP
    refine e_ret1 Tryz.results83 hF rfl ?_
    exact ⟨rfl, selM hM [] 2 rfl⟩
  have hP := Fx.cF hb886 hP
  refine c_skip (n_then ?_)
  refine c_seq ?_
  refine c_joinX hF hM hP (fun F x a w => match x with | _ => Fr 75 [(2, .pointer (some ⟨b_B83_2, 0, none⟩)), (3, .pointer (some ⟨b_B83_3, 0, none⟩)), (4, .bool false)] a ∧ MemL w (pt b_B83_3 (RState.enc (RState.mk x1.regs x1.stack s9 s11 s15 x1.at_ x1.steps x1.done)) 54 :: pt b_B83_2 (RState.enc (RState.mk x0.regs x0.stack s1 s3 s7 x0.at_ x0.steps x0.done)) 54 :: Lr)) (fun o_j2 hP hK_j2 hF hM => ?_) ?_
  · refine c_seq ?_
    refine c_region ?_
    refine s_val hF (r_fieldAddr (off' := 461) Tryz.underlying54 rfl in28 rfl hF rfl rfl rfl) rfl rfl rfl fun a hF => ?_
    refine s_val hF (r_load1 Tryz.isAgg28 hF rfl rfl (hM.cell (i := 1) rfl (RState.g_tables _))) rfl rfl rfl fun a hF => ?_
    refine s_val hF (r_lenD (f5 _ (hsub _ (dropM hM 2))) q6.len Tryz.underlying28 hF rfl rfl) rfl rfl rfl fun a hF => ?_
    refine s_val hF (r_move hF rfl rfl) rfl rfl rfl fun a hF => ?_
    refine c_nil (n_then ?_)
    refine c_block ?_
    refine c_loopX hF hM hP (fun F x a w => match x with | v988 => Fr 75 [(38, .int .i64 v988), (2, .pointer (some ⟨b_B83_2, 0, none⟩)), (3, .pointer (some ⟨b_B83_3, 0, none⟩)), (37, .int .i64 (x0.tables.length : Int)), (4, .bool false)] a ∧ MemL w (pt b_B83_3 (RState.enc (RState.mk x1.regs x1.stack s9 s11 s15 x1.at_ x1.steps x1.done)) 54 :: pt b_B83_2 (RState.enc (RState.mk x0.regs x0.stack s1 s3 s7 x0.at_ x0.steps x0.done)) 54 :: Lr)) (fun hF hM => ⟨hF.to ⟨rfl, rfl, rfl, rfl, rfl, trivial⟩, hM⟩) ?_
    rintro v988 a w o_l3 hP hK_l3 ⟨hF, hM⟩
    replace hP : Sh.trace_behind_l3 x0 x1 v988 = _ := hP
    unfold Sh.trace_behind_l3 at hP
    refine c_seq ?_
    refine c_region ?_
    refine s_val hF (r_lss hF rfl rfl rfl) rfl rfl rfl fun a hF => ?_
    refine c_nil (n_then ?_)
    refine c_seq ?_
    refine c_cond hF (c := .tmp 39) rfl (fun hb990 => ?_) (fun hb990 => ?_)
    · have hP := Fx.cT hb990 hP
      refine c_skip (n_then ?_)
      refine c_seq ?_
      refine c_block ?_
      refine c_seq ?_
      refine c_region ?_
      refine s_val hF (r_move hF rfl rfl) rfl rfl rfl fun a hF => ?_
      refine s_val hF (r_assign hF rfl rfl) rfl rfl rfl fun a hF => ?_
      refine c_nil (n_then ?_)
      refine c_seq ?_
      refine d_startT mixed (by kernel_rfl) hM [0, 1] 2 rfl fun hch => ?_
      refine d_val hF hch 0 rfl (by kernel_rfl) rfl rfl rfl (fun w hM => (r_fieldAddr (off' := 461) Tryz.underlying54 rfl in28 rfl hF rfl rfl rfl)) fun a hF => ?_
      refine d_val hF hch 1 rfl (by kernel_rfl) rfl rfl rfl (fun w hM => (r_load1 Tryz.isAgg28 hF rfl rfl (hM.cell (i := 1) rfl (RState.g_tables _)))) fun a hF => ?_
      refine d_val hF hch 2 rfl (by kernel_rfl) rfl rfl rfl (fun w hM => (r_move hF rfl rfl)) fun a hF => ?_
      obtain ⟨x998, hx998, hP⟩ := bind_some hP
      have h0x998 := get_some hx998
      obtain ⟨yx998, hgx998, hrx998⟩ := Each.getr q6 h0x998.2
      have hdx998 := Each.bd q6 (get_bd hx998)
      refine d_val hF hch 3 rfl (by kernel_rfl) rfl rfl rfl (fun w hM => (r_indexZ (sz := 1) (f5 _ (hsub _ (dropM hM 2))) Tryz.underlying28 in23 rfl hF rfl rfl rfl hdx998)) fun a hF => ?_
      refine d_val hF hch 4 rfl (by kernel_rfl) rfl rfl rfl (fun w hM => (r_load1 Tryz.isAgg23 hF rfl rfl ((((f5 _ (hsub _ (dropM hM 2))).elemS hgx998)).get 0 rfl))) fun a hF => ?_
      refine d_val hF hch 5 rfl (by kernel_rfl) rfl rfl rfl (fun w hM => (r_lenL (hrx998 _ (hsub _ (dropM hM 2))) Tryz.underlying23 hF rfl rfl)) fun a hF => ?_
      refine d_val hF hch 6 rfl (by kernel_rfl) rfl rfl rfl (fun w hM => (r_fieldAddr (off' := 461) Tryz.underlying54 rfl in28 rfl hF rfl rfl rfl)) fun a hF => ?_
      refine d_val hF hch 7 rfl (by kernel_rfl) rfl rfl rfl (fun w hM => (r_load1 Tryz.isAgg28 hF rfl rfl (hM.cell (i := 0) rfl (RState.g_tables _)))) fun a hF => ?_
      refine d_val hF hch 8 rfl (by kernel_rfl) rfl rfl rfl (fun w hM => (r_move hF rfl rfl)) fun a hF => ?_
      obtain ⟨x999, hx999, hP⟩ := bind_some hP
      have h0x999 := get_some hx999
      obtain ⟨yx999, hgx999, hrx999⟩ := Each.getr q14 h0x999.2
      have hdx999 := Each.bd q14 (get_bd hx999)
      refine d_val hF hch 9 rfl (by kernel_rfl) rfl rfl rfl (fun w hM => (r_indexZ (sz := 1) (f13 _ (hsub _ (dropM hM 2))) Tryz.underlying28 in23 rfl hF rfl rfl rfl hdx999)) fun a hF => ?_
      refine d_val hF hch 10 rfl (by kernel_rfl) rfl rfl rfl (fun w hM => (r_load1 Tryz.isAgg23 hF rfl rfl ((((f13 _ (hsub _ (dropM hM 2))).elemS hgx999)).get 0 rfl))) fun a hF => ?_
      refine d_val hF hch 11 rfl (by kernel_rfl) rfl rfl rfl (fun w hM => (r_lenL (hrx999 _ (hsub _ (dropM hM 2))) Tryz.underlying23 hF rfl rfl)) fun a hF => ?_
      refine d_val hF hch 12 rfl (by kernel_rfl) rfl rfl rfl (fun w hM => (r_neq hF rfl rfl rfl)) fun a hF => ?_
      refine d_end hch (by kernel_rfl) fun w hM => ?_
      refine n_then ?_
      refine c_cond hF (c := .tmp 53) rfl (fun hb1000 => ?_) (fun hb1000 => ?_)
      · have hP := Fx.cT hb1000 hP
        refine c_seq ?_
        refine c_region ?_
        refine s_val hF (r_assign hF rfl rfl) rfl rfl rfl fun a hF => ?_
        refine c_nil (n_then ?_)
        refine c_ret ?_
        have hP := Option.some.inj hP
        subst hP
        have hP := hK_l3 _ rfl
        subst hP
        have hP := fin_inr hK_j2
        subst hP
        refine e_ret1 Tryz.results83 hF rfl ?_
        exact ⟨rfl, selM hM [] 2 rfl⟩
      have hP := Fx.cF hb1000 hP
      refine c_skip (n_block (n_then ?_))
      refine c_region ?_
      refine s_val hF (r_add hF rfl rfl rfl) rfl rfl rfl fun a hF => ?_
      refine s_val hF (r_move hF rfl rfl) rfl rfl rfl fun a hF => ?_
      refine c_nil (n_then ?_)
      have hP := Option.some.inj hP
      subst hP
      exact ⟨(IntKind.i64.wrap (v988 + 1)), rfl, hF.to ⟨rfl, rfl, rfl, rfl, rfl, trivial⟩, hM⟩
    have hP := Fx.cF hb990 hP
    refine c_exit (x_then (x_then (x_hit ?_)))
    refine n_then ?_
    have hP := Option.some.inj hP
    subst hP
    have hP := hK_l3 _ rfl
    subst hP
    exact ⟨(), rfl, hF.to ⟨rfl, rfl, rfl, trivial⟩, hM⟩
  rintro ⟨⟩ a w hP ⟨hF, hM⟩
  replace hP : Sh.trace_behind_j2 x0 x1 = _ := hP
  unfold Sh.trace_behind_j2 at hP
  refine n_then ?_
  refine c_seq ?_
  refine c_region ?_
  refine s_val hF (r_fieldAddr (off' := 462) Tryz.underlying54 rfl in52 rfl hF rfl rfl rfl) rfl rfl rfl fun a hF => ?_
  refine s_val hF (r_load1 Tryz.isAgg52 hF rfl rfl (hM.cell (i := 0) rfl (RState.g_sent _))) rfl rfl rfl fun a hF => ?_
  refine s_val hF (r_lenL (f16 _ (hsub _ (dropM hM 2))) Tryz.underlying52 hF rfl rfl) rfl rfl rfl fun a hF => ?_
  refine s_val hF (r_fieldAddr (off' := 462) Tryz.underlying54 rfl in52 rfl hF rfl rfl rfl) rfl rfl rfl fun a hF => ?_
  refine s_val hF (r_load1 Tryz.isAgg52 hF rfl rfl (hM.cell (i := 1) rfl (RState.g_sent _))) rfl rfl rfl fun a hF => ?_
  refine s_val hF (r_lenL (f8 _ (hsub _ (dropM hM 2))) Tryz.underlying52 hF rfl rfl) rfl rfl rfl fun a hF => ?_
  refine s_val hF (r_sub hF rfl rfl rfl) rfl rfl rfl fun a hF => ?_
  refine s_val hF (r_assign hF rfl rfl) rfl rfl rfl fun a hF => ?_
  refine c_nil (n_then ?_)
  refine c_seq ?_
  refine c_joinX hF hM hP (fun F x a w => match x with | v1475 => Fr 75 [(4, .bool v1475)] a ∧ MemL w (Lr)) (fun o_j4 hP hK_j4 hF hM => ?_) ?_
  · refine d_startT mixed (by kernel_rfl) hM [0, 1] 2 rfl fun hch => ?_
    refine d_val hF hch 0 rfl (by kernel_rfl) rfl rfl rfl (fun w hM => (r_move hF rfl rfl)) fun a hF => ?_
    refine d_one hch 1 (by kernel_rfl) rfl rfl ?_
    refine d_ex hF 1 rfl rfl rfl rfl rfl fun w hMs hM => ?_
    obtain ⟨y1477, hy1477, hP⟩ := bind_some hP
    refine (w_call (xs := [.tmp 62, .const (.int .i64 (0)), .const (.int .i64 (1))]) Tryz.call124 hF rfl rfl (trace_within_calls hy1477 hM ) fun v w hR => ?_)
    obtain ⟨rfl, hM⟩ := hR
    replace hM : MemL _ (pt b_B83_3 (RState.enc (RState.mk x1.regs x1.stack s9 s11 s15 x1.at_ x1.steps x1.done)) 54 :: pt b_B83_2 (RState.enc (RState.mk x0.regs x0.stack s1 s3 s7 x0.at_ x0.steps x0.done)) 54 :: Lr) := hM
    have hMs := selM hM [0, 1] 2 rfl
    refine ⟨_, _, hMs, hM, .inl fun _ h => h, fun a hF => ?_⟩
    refine d_val hF hch 2 rfl (by kernel_rfl) rfl rfl rfl (fun w hM => (r_move hF rfl rfl)) fun a hF => ?_
    refine g_split 64 hF rfl (fun hb1478 => ?_) (fun hb1478 => ?_)
    · have hP := Fx.cT hb1478 hP
      refine d_valg hF hch 3 rfl (by kernel_rfl) rfl rfl rfl hb1478 rfl rfl (fun w hM => (r_fieldAddr (off' := 462) Tryz.underlying54 rfl in52 rfl hF rfl rfl rfl)) fun a hF => ?_
      refine d_valg hF hch 4 rfl (by kernel_rfl) rfl rfl rfl hb1478 rfl rfl (fun w hM => (r_load1 Tryz.isAgg52 hF rfl rfl (hM.cell (i := 1) rfl (RState.g_sent _)))) fun a hF => ?_
      refine d_valg hF hch 5 rfl (by kernel_rfl) rfl rfl rfl hb1478 rfl rfl (fun w hM => (r_fieldAddr (off' := 462) Tryz.underlying54 rfl in52 rfl hF rfl rfl rfl)) fun a hF => ?_
      refine d_valg hF hch 6 rfl (by kernel_rfl) rfl rfl rfl hb1478 rfl rfl (fun w hM => (r_load1 Tryz.isAgg52 hF rfl rfl (hM.cell (i := 0) rfl (RState.g_sent _)))) fun a hF => ?_
      refine d_valg hF hch 7 rfl (by kernel_rfl) rfl rfl rfl hb1478 rfl rfl (fun w hM => (r_fieldAddr (off' := 462) Tryz.underlying54 rfl in52 rfl hF rfl rfl rfl)) fun a hF => ?_
      refine d_valg hF hch 8 rfl (by kernel_rfl) rfl rfl rfl hb1478 rfl rfl (fun w hM => (r_load1 Tryz.isAgg52 hF rfl rfl (hM.cell (i := 1) rfl (RState.g_sent _)))) fun a hF => ?_
      refine d_valg hF hch 9 rfl (by kernel_rfl) rfl rfl rfl hb1478 rfl rfl (fun w hM => (r_lenL (f8 _ (hsub _ (dropM hM 2))) Tryz.underlying52 hF rfl rfl)) fun a hF => ?_
      obtain ⟨x1479, hx1479, hP⟩ := bind_some hP
      refine d_valg hF hch 10 rfl (by kernel_rfl) rfl rfl rfl hb1478 rfl rfl (fun w hM => (r_cutZ (f16 _ (hsub _ (dropM hM 2))) hx1479 Tryz.underlying52 in3 rfl hF rfl rfl (.inl ⟨rfl, rfl⟩) (.inr ⟨_, _, rfl, rfl⟩))) fun a hF => ?_
      refine d_one hch 11 (by kernel_rfl) rfl rfl ?_
      refine d_exg hF 11 rfl rfl rfl rfl rfl hb1478 rfl rfl fun w hMs hM => ?_
      obtain ⟨o_c5, hP, hK_c5⟩ := seq_some hP
      refine (w_call (xs := [.tmp 66, .tmp 72]) Tryz.call133 hF rfl rfl (R := fun v w => ∃ x, o_c5 = .inl x ∧ match x with | v1596 => v = .bool v1596 ∧ MemL w (pt b_B83_3 (RState.enc (RState.mk x1.regs x1.stack s9 s11 s15 x1.at_ x1.steps x1.done)) 54 :: pt b_B83_2 (RState.enc (RState.mk x0.regs x0.stack s1 s3 s7 x0.at_ x0.steps x0.done)) 54 :: Lr)) ?_ fun v w hR => ?_)
      · refine calls_enter Tryz.func133 rfl Tryz.ntmps133 rfl fun a hF => ?_
        refine c_seq ?_
        refine c_region ?_
        refine s_val hF (r_assign hF rfl rfl) rfl rfl rfl fun a hF => ?_
        refine c_nil (n_then ?_)
        refine c_seq ?_
        refine c_seq ?_
        refine c_region ?_
        refine s_val hF (r_move hF rfl rfl) rfl rfl rfl fun a hF => ?_
        refine s_val hF (r_lenL (f8 _ (hsub _ (dropM hM 2))) Tryz.underlying52 hF rfl rfl) rfl rfl rfl fun a hF => ?_
        refine s_val hF (r_move hF rfl rfl) rfl rfl rfl fun a hF => ?_
        refine s_val hF (r_lenL ((LIn.slc f16 hx1479 rfl) _ (hsub _ (dropM hM 2))) Tryz.underlying52 hF rfl rfl) rfl rfl rfl fun a hF => ?_
        refine s_val hF (r_neq hF rfl rfl rfl) rfl rfl rfl fun a hF => ?_
        refine c_nil (n_then ?_)
        refine c_cond hF (c := .tmp 10) rfl (fun hb1598 => ?_) (fun hb1598 => ?_)
        · have hP := Fx.cT hb1598 hP
          refine c_seq ?_
          refine c_region ?_
          refine s_val hF (r_assign hF rfl rfl) rfl rfl rfl fun a hF => ?_
          refine c_nil (n_then ?_)
          refine c_ret ?_
          have hP := Option.some.inj hP
          subst hP
          refine e_ret1 Tryz.results133 hF rfl ?_
          exact ⟨false, rfl, rfl, hM⟩
        have hP := Fx.cF hb1598 hP
        refine c_skip (n_then ?_)
        refine c_seq ?_
        refine c_joinX hF hM hP (fun F x a w => match x with | _ => Fr 26 [(4, .bool false)] a ∧ MemL w (pt b_B83_3 (RState.enc (RState.mk x1.regs x1.stack s9 s11 s15 x1.at_ x1.steps x1.done)) 54 :: pt b_B83_2 (RState.enc (RState.mk x0.regs x0.stack s1 s3 s7 x0.at_ x0.steps x0.done)) 54 :: Lr)) (fun o_j6 hP hK_j6 hF hM => ?_) ?_
        · refine c_seq ?_
          refine c_region ?_
          refine s_val hF (r_move hF rfl rfl) rfl rfl rfl fun a hF => ?_
          refine s_val hF (r_lenL (f8 _ (hsub _ (dropM hM 2))) Tryz.underlying52 hF rfl rfl) rfl rfl rfl fun a hF => ?_
          refine s_val hF (r_move hF rfl rfl) rfl rfl rfl fun a hF => ?_
          refine c_nil (n_then ?_)
          refine c_block ?_
          refine c_loopX hF hM hP (fun F x a w => match x with | v1700 => Fr 26 [(13, .int .i64 v1700), (0, (s7).v), (1, ((s15.cut (0 : Int).toNat ((x0.sent.length : Int) : Int).toNat 1)).v), (12, .int .i64 (x0.sent.length : Int)), (4, .bool false)] a ∧ MemL w (pt b_B83_3 (RState.enc (RState.mk x1.regs x1.stack s9 s11 s15 x1.at_ x1.steps x1.done)) 54 :: pt b_B83_2 (RState.enc (RState.mk x0.regs x0.stack s1 s3 s7 x0.at_ x0.steps x0.done)) 54 :: Lr)) (fun hF hM => ⟨hF.to ⟨rfl, rfl, rfl, rfl, rfl, trivial⟩, hM⟩) ?_
          rintro v1700 a w o_l7 hP hK_l7 ⟨hF, hM⟩
          replace hP : Sh.trace_behind_l7 x0 x1479 v1700 = _ := hP
          unfold Sh.trace_behind_l7 at hP
          refine c_seq ?_
          refine c_region ?_
          refine s_val hF (r_lss hF rfl rfl rfl) rfl rfl rfl fun a hF => ?_
          refine c_nil (n_then ?_)
          refine c_seq ?_
          refine c_cond hF (c := .tmp 14) rfl (fun hb1702 => ?_) (fun hb1702 => ?_)
          · have hP := Fx.cT hb1702 hP
            refine c_skip (n_then ?_)
            refine c_seq ?_
            refine c_block ?_
            refine c_seq ?_
            refine c_region ?_
            refine s_val hF (r_move hF rfl rfl) rfl rfl rfl fun a hF => ?_
            refine s_val hF (r_assign hF rfl rfl) rfl rfl rfl fun a hF => ?_
            refine c_nil (n_then ?_)
            refine c_seq ?_
            refine d_startT mixed (by kernel_rfl) hM [0, 1] 2 rfl fun hch => ?_
            refine d_val hF hch 0 rfl (by kernel_rfl) rfl rfl rfl (fun w hM => (r_move hF rfl rfl)) fun a hF => ?_
            refine d_val hF hch 1 rfl (by kernel_rfl) rfl rfl rfl (fun w hM => (r_move hF rfl rfl)) fun a hF => ?_
            obtain ⟨x1710, hx1710, hP⟩ := bind_some hP
            have h0x1710 := get_some hx1710
            refine d_val hF hch 2 rfl (by kernel_rfl) rfl rfl rfl (fun w hM => (r_indexZ (sz := 1) (f8 _ (hsub _ (dropM hM 2))) Tryz.underlying52 in3 rfl hF rfl rfl rfl (get_bd hx1710))) fun a hF => ?_
            refine d_val hF hch 3 rfl (by kernel_rfl) rfl rfl rfl (fun w hM => (r_load1 Tryz.isAgg3 hF rfl rfl ((((f8 _ (hsub _ (dropM hM 2))).elemS h0x1710.2)).get 0 rfl))) fun a hF => ?_
            refine d_val hF hch 4 rfl (by kernel_rfl) rfl rfl rfl (fun w hM => (r_move hF rfl rfl)) fun a hF => ?_
            refine d_val hF hch 5 rfl (by kernel_rfl) rfl rfl rfl (fun w hM => (r_move hF rfl rfl)) fun a hF => ?_
            obtain ⟨x1711, hx1711, hP⟩ := bind_some hP
            have h0x1711 := get_some hx1711
            refine d_val hF hch 6 rfl (by kernel_rfl) rfl rfl rfl (fun w hM => (r_indexZ (sz := 1) ((LIn.slc f16 hx1479 rfl) _ (hsub _ (dropM hM 2))) Tryz.underlying52 in3 rfl hF rfl rfl rfl (get_bd hx1711))) fun a hF => ?_
            refine d_val hF hch 7 rfl (by kernel_rfl) rfl rfl rfl (fun w hM => (r_load1 Tryz.isAgg3 hF rfl rfl (((((LIn.slc f16 hx1479 rfl) _ (hsub _ (dropM hM 2))).elemS h0x1711.2)).get 0 rfl))) fun a hF => ?_
            refine d_val hF hch 8 rfl (by kernel_rfl) rfl rfl rfl (fun w hM => (r_neq hF rfl rfl rfl)) fun a hF => ?_
            refine d_end hch (by kernel_rfl) fun w hM => ?_
            refine n_then ?_
            refine c_cond hF (c := .tmp 24) rfl (fun hb1712 => ?_) (fun hb1712 => ?_)
            · have hP := Fx.cT hb1712 hP
              refine c_seq ?_
              refine c_region ?_
              refine s_val hF (r_assign hF rfl rfl) rfl rfl rfl fun a hF => ?_
              refine c_nil (n_then ?_)
              refine c_ret ?_
              have hP := Option.some.inj hP
              subst hP
              have hP := hK_l7 _ rfl
              subst hP
              have hP := fin_inr hK_j6
              subst hP
              refine e_ret1 Tryz.results133 hF rfl ?_
              exact ⟨false, rfl, rfl, hM⟩
            have hP := Fx.cF hb1712 hP
            refine c_skip (n_block (n_then ?_))
            refine c_region ?_
            refine s_val hF (r_add hF rfl rfl rfl) rfl rfl rfl fun a hF => ?_
            refine s_val hF (r_move hF rfl rfl) rfl rfl rfl fun a hF => ?_
            refine c_nil (n_then ?_)
            have hP := Option.some.inj hP
            subst hP
            exact ⟨(IntKind.i64.wrap (v1700 + 1)), rfl, hF.to ⟨rfl, rfl, rfl, rfl, rfl, trivial⟩, hM⟩
          have hP := Fx.cF hb1702 hP
          refine c_exit (x_then (x_then (x_hit ?_)))
          refine n_then ?_
          have hP := Option.some.inj hP
          subst hP
          have hP := hK_l7 _ rfl
          subst hP
          exact ⟨(), rfl, hF.to ⟨rfl, trivial⟩, hM⟩
        rintro ⟨⟩ a w hP ⟨hF, hM⟩
        replace hP : Sh.trace_behind_j6 = _ := hP
        unfold Sh.trace_behind_j6 at hP
        refine n_then ?_
        refine c_seq ?_
        refine c_region ?_
        refine s_val hF (r_assign hF rfl rfl) rfl rfl rfl fun a hF => ?_
        refine c_nil (n_then ?_)
        refine c_ret ?_
        have hP := Option.some.inj hP
        subst hP
        refine e_ret1 Tryz.results133 hF rfl ?_
        exact ⟨true, rfl, rfl, hM⟩
      obtain ⟨v1596, rfl, rfl, hM⟩ := hR
      replace hP : Sh.trace_behind_c5 v1596 = _ := hK_c5
      unfold Sh.trace_behind_c5 at hP
      replace hM : MemL _ (pt b_B83_3 (RState.enc (RState.mk x1.regs x1.stack s9 s11 s15 x1.at_ x1.steps x1.done)) 54 :: pt b_B83_2 (RState.enc (RState.mk x0.regs x0.stack s1 s3 s7 x0.at_ x0.steps x0.done)) 54 :: Lr) := hM
      have hMs := selM hM [0, 1] 2 rfl
      refine ⟨_, _, hMs, hM, .inl fun _ h => h, fun a hF => ?_⟩
      refine d_val hF hch 12 rfl (by kernel_rfl) rfl rfl rfl (fun w hM => (r_pick1 hF rfl rfl hb1478 rfl)) fun a hF => ?_
      refine d_val hF hch 13 rfl (by kernel_rfl) rfl rfl rfl (fun w hM => (r_assign hF rfl rfl)) fun a hF => ?_
      refine d_end hch (by kernel_rfl) fun w hM => ?_
      refine n_then ?_
      have hP := Option.some.inj hP
      subst hP
      exact ⟨v1596, rfl, hF.to ⟨rfl, trivial⟩, selM hM [] 2 rfl⟩
    have hP := Fx.cF hb1478 hP
    refine d_skip hF hch 3 rfl (by kernel_rfl) rfl rfl rfl hb1478 rfl rfl fun a hF => ?_
    refine d_skip hF hch 4 rfl (by kernel_rfl) rfl rfl rfl hb1478 rfl rfl fun a hF => ?_
    refine d_skip hF hch 5 rfl (by kernel_rfl) rfl rfl rfl hb1478 rfl rfl fun a hF => ?_
    refine d_skip hF hch 6 rfl (by kernel_rfl) rfl rfl rfl hb1478 rfl rfl fun a hF => ?_
    refine d_skip hF hch 7 rfl (by kernel_rfl) rfl rfl rfl hb1478 rfl rfl fun a hF => ?_
    refine d_skip hF hch 8 rfl (by kernel_rfl) rfl rfl rfl hb1478 rfl rfl fun a hF => ?_
    refine d_skip hF hch 9 rfl (by kernel_rfl) rfl rfl rfl hb1478 rfl rfl fun a hF => ?_
    refine d_skip hF hch 10 rfl (by kernel_rfl) rfl rfl rfl hb1478 rfl rfl fun a hF => ?_
    refine d_skip hF hch 11 rfl (by kernel_rfl) rfl rfl rfl hb1478 rfl rfl fun a hF => ?_
    refine d_val hF hch 12 rfl (by kernel_rfl) rfl rfl rfl (fun w hM => (r_pick0 hF rfl rfl hb1478 rfl)) fun a hF => ?_
    refine d_val hF hch 13 rfl (by kernel_rfl) rfl rfl rfl (fun w hM => (r_assign hF rfl rfl)) fun a hF => ?_
    refine d_end hch (by kernel_rfl) fun w hM => ?_
    refine n_then ?_
    have hP := Option.some.inj hP
    subst hP
    exact ⟨false, rfl, hF.to ⟨rfl, trivial⟩, selM hM [] 2 rfl⟩
  rintro v1475 a w hP ⟨hF, hM⟩
  replace hP : Sh.trace_behind_j4 v1475 = _ := hP
  unfold Sh.trace_behind_j4 at hP
  refine n_then ?_
  refine c_ret ?_
  have hP := Option.some.inj hP
  subst hP
  refine e_ret1 Tryz.results83 hF rfl ?_
  exact ⟨rfl, hM⟩
end Go.Proofs
end
section
namespace Go.Proofs
open Go.Fw Go.Fx
set_option maxRecDepth 10000
set_option linter.unusedVariables false
set_option linter.unusedSimpArgs false
set_option maxHeartbeats 4000000 in
theorem ref23_within_calls {x0 : Int} {x1 : Int} {x2 : Int} {out : Bool} {w0 : World} {Lr : List Res} (hP : Sh.ref23_within x0 x1 x2 = some out) (hM : MemL w0 (Lr)) : Calls Tryz.prog 159 #[.int .i64 x0, .int .i64 x1, .int .i64 x2] w0 (Ret fun v w' => v = .bool out ∧ MemL w' (Lr)) := by
  unfold Sh.ref23_within at hP
  refine calls_enter (vs := [.int .i64 x0, .int .i64 x1, .int .i64 x2]) Tryz.func159 rfl Tryz.ntmps159 rfl fun a hF => ?_
  refine c_seq ?_
  refine c_region ?_
  refine s_val hF (r_assign hF rfl rfl) rfl rfl rfl fun a hF => ?_
  refine c_nil (n_then ?_)
  refine c_seq ?_
  refine c_joinX hF hM hP (fun F x a w => match x with | v7 => Fr 15 [(6, .bool v7)] a ∧ MemL w (Lr)) (fun o_j1 hP hK_j1 hF hM => ?_) ?_
  · refine c_region ?_
    refine s_val hF (r_move hF rfl rfl) rfl rfl rfl fun a hF => ?_
    refine s_val hF (r_move hF rfl rfl) rfl rfl rfl fun a hF => ?_
    refine s_val hF (r_geq hF rfl rfl rfl) rfl rfl rfl fun a hF => ?_
    refine s_val hF (r_move hF rfl rfl) rfl rfl rfl fun a hF => ?_
    refine g_split 10 hF rfl (fun hb8 => ?_) (fun hb8 => ?_)
    · have hP := Fx.cT hb8 hP
      refine g_val hF rfl rfl rfl hb8 (r_move hF rfl rfl) rfl rfl fun a hF => ?_
      refine g_val hF rfl rfl rfl hb8 (r_move hF rfl rfl) rfl rfl fun a hF => ?_
      refine g_val hF rfl rfl rfl hb8 (r_leq hF rfl rfl rfl) rfl rfl fun a hF => ?_
      refine s_val hF (r_pick1 hF rfl rfl hb8 rfl) rfl rfl rfl fun a hF => ?_
      refine s_val hF (r_assign hF rfl rfl) rfl rfl rfl fun a hF => ?_
      refine c_nil (n_then ?_)
      have hP := Option.some.inj hP
      subst hP
      exact ⟨(decide (x0 ≤ x2)), rfl, hF.to ⟨rfl, trivial⟩, hM⟩
    have hP := Fx.cF hb8 hP
    refine g_skip hF rfl rfl rfl hb8 rfl rfl fun a hF => ?_
    refine g_skip hF rfl rfl rfl hb8 rfl rfl fun a hF => ?_
    refine g_skip hF rfl rfl rfl hb8 rfl rfl fun a hF => ?_
    refine s_val hF (r_pick0 hF rfl rfl hb8 rfl) rfl rfl rfl fun a hF => ?_
    refine s_val hF (r_assign hF rfl rfl) rfl rfl rfl fun a hF => ?_
    refine c_nil (n_then ?_)
    have hP := Option.some.inj hP
    subst hP
    exact ⟨false, rfl, hF.to ⟨rfl, trivial⟩, hM⟩
  rintro v7 a w hP ⟨hF, hM⟩
  replace hP : Sh.ref23_within_j1 v7 = _ := hP
  unfold Sh.ref23_within_j1 at hP
  refine n_then ?_
  refine c_ret ?_
  have hP := Option.some.inj hP
  subst hP
  refine e_ret1 Tryz.results159 hF rfl ?_
  exact ⟨rfl, hM⟩
set_option maxHeartbeats 4000000 in
theorem ref23_inputPlain_calls {x0 : QInput} {s1 : SV} {s3 : SV} {hs4 : List SV} {out : Bool} {w0 : World} {Bf : World → Prop} {Lr : List Res} (hP : Sh.ref23_inputPlain x0 = some out) (hM : MemL w0 (Lr)) (hsub : ∀ w, MemL w Lr → Bf w) (f2 : LIn Bf s1 x0.ctx) (f5 : LIn Bf s3 hs4) (q6 : Each (LIn (X := UInt8) Bf) hs4 x0.tables) : Calls Tryz.prog 105 #[.agg (RInput.enc (RInput.mk s1 s3)).toArray] w0 (Ret fun v w' => v = .bool out ∧ MemL w' (Lr)) := by
  unfold Sh.ref23_inputPlain at hP
  refine calls_enter (vs := [.agg (RInput.enc (RInput.mk s1 s3)).toArray]) Tryz.func105 rfl Tryz.ntmps105 rfl fun a hF => ?_
  refine c_seq ?_
  refine c_region ?_
  refine s_eff hF rfl rfl rfl (w_box hF rfl rfl rfl fun b_B105_1 w hzB105_1 hAB105_1 => ?_)
  have hM := hM.plus hAB105_1
  replace hM : MemL _ (pt b_B105_1 (RInput.enc (RInput.mk s1 s3)) 30 :: Lr) := hM
  intro a hF
  refine s_val hF (r_assign hF rfl rfl) rfl rfl rfl fun a hF => ?_
  refine c_nil (n_then ?_)
  refine c_seq ?_
  refine c_seq ?_
  refine c_joinX hF hM hP (fun F x a w => match x with | v84 => Fr 28 [(13, .bool v84), (1, .pointer (some ⟨b_B105_1, 0, none⟩)), (2, .bool false)] a ∧ MemL w (pt b_B105_1 (RInput.enc (RInput.mk s1 s3)) 30 :: Lr)) (fun o_j1 hP hK_j1 hF hM => ?_) ?_
  · refine c_region ?_
    refine s_val hF (r_fieldAddr (off' := 0) Tryz.underlying30 rfl in23 rfl hF rfl rfl rfl) rfl rfl rfl fun a hF => ?_
    refine s_val hF (r_load1 Tryz.isAgg23 hF rfl rfl (hM.cell (i := 0) rfl (RInput.g_ctx _))) rfl rfl rfl fun a hF => ?_
    refine s_val hF (r_lenL (f2 _ (hsub _ (dropM hM 1))) Tryz.underlying23 hF rfl rfl) rfl rfl rfl fun a hF => ?_
    refine s_val hF (r_gtr hF rfl rfl rfl) rfl rfl rfl fun a hF => ?_
    refine s_val hF (r_move hF rfl rfl) rfl rfl rfl fun a hF => ?_
    refine g_split 8 hF rfl (fun hb85 => ?_) (fun hb85 => ?_)
    · have hP := Fx.cT hb85 hP
      refine g_skip hF rfl rfl rfl hb85 rfl rfl fun a hF => ?_
      refine g_skip hF rfl rfl rfl hb85 rfl rfl fun a hF => ?_
      refine g_skip hF rfl rfl rfl hb85 rfl rfl fun a hF => ?_
      refine g_skip hF rfl rfl rfl hb85 rfl rfl fun a hF => ?_
      refine s_val hF (r_pick1 hF rfl rfl hb85 rfl) rfl rfl rfl fun a hF => ?_
      refine c_nil (n_then ?_)
      have hP := Option.some.inj hP
      subst hP
      exact ⟨true, rfl, hF.to ⟨rfl, rfl, rfl, trivial⟩, hM⟩
    have hP := Fx.cF hb85 hP
    refine g_val hF rfl rfl rfl hb85 (r_fieldAddr (off' := 1) Tryz.underlying30 rfl in28 rfl hF rfl rfl rfl) rfl rfl fun a hF => ?_
    refine g_val hF rfl rfl rfl hb85 (r_load1 Tryz.isAgg28 hF rfl rfl (hM.cell (i := 0) rfl (RInput.g_tables _))) rfl rfl fun a hF => ?_
    refine g_val hF rfl rfl rfl hb85 (r_lenD (f5 _ (hsub _ (dropM hM 1))) q6.len Tryz.underlying28 hF rfl rfl) rfl rfl fun a hF => ?_
    refine g_val hF rfl rfl rfl hb85 (r_gtr hF rfl rfl rfl) rfl rfl fun a hF => ?_
    refine s_val hF (r_pick0 hF rfl rfl hb85 rfl) rfl rfl rfl fun a hF => ?_
    refine c_nil (n_then ?_)
    have hP := Option.some.inj hP
    subst hP
    exact ⟨(decide (8 < (x0.tables.length : Int))), rfl, hF.to ⟨rfl, rfl, rfl, trivial⟩, hM⟩
  rintro v84 a w hP ⟨hF, hM⟩
  replace hP : Sh.ref23_inputPlain_j1 x0 v84 = _ := hP
  unfold Sh.ref23_inputPlain_j1 at hP
  refine n_then ?_
  refine c_cond hF (c := .tmp 13) rfl (fun hb86 => ?_) (fun hb86 => ?_)
  · have hP := Fx.cT hb86 hP
    refine c_seq ?_
    refine c_region ?_
    refine s_val hF (r_assign hF rfl rfl) rfl rfl rfl fun a hF => ?_
    refine c_nil (n_then ?_)
    refine c_ret ?_
    have hP := Option.some.inj hP
    subst hP
    refine e_ret1 Tryz.results105 hF rfl ?_
    exact ⟨rfl, selM hM [] 1 rfl⟩
  have hP := Fx.cF hb86 hP
  refine c_skip (n_then ?_)
  refine c_seq ?_
  refine c_joinX hF hM hP (fun F x a w => match x with | _ => Fr 28 [(2, .bool false)] a ∧ MemL w (Lr)) (fun o_j2 hP hK_j2 hF hM => ?_) ?_
  · refine c_seq ?_
    refine c_region ?_
    refine s_val hF (r_assign hF rfl rfl) rfl rfl rfl fun a hF => ?_
    refine c_nil (n_then ?_)
    refine c_block ?_
    refine c_loopX hF hM hP (fun F x a w => match x with | v140 => Fr 28 [(3, .int .i64 v140), (1, .pointer (some ⟨b_B105_1, 0, none⟩)), (2, .bool false)] a ∧ MemL w (pt b_B105_1 (RInput.enc (RInput.mk s1 s3)) 30 :: Lr)) (fun hF hM => ⟨hF.to ⟨rfl, rfl, rfl, trivial⟩, hM⟩) ?_
    rintro v140 a w o_l3 hP hK_l3 ⟨hF, hM⟩
    replace hP : Sh.ref23_inputPlain_l3 x0 v140 = _ := hP
    unfold Sh.ref23_inputPlain_l3 at hP
    refine c_seq ?_
    refine c_seq ?_
    refine c_region ?_
    refine s_val hF (r_move hF rfl rfl) rfl rfl rfl fun a hF => ?_
    refine s_val hF (r_fieldAddr (off' := 1) Tryz.underlying30 rfl in28 rfl hF rfl rfl rfl) rfl rfl rfl fun a hF => ?_
    refine s_val hF (r_load1 Tryz.isAgg28 hF rfl rfl (hM.cell (i := 0) rfl (RInput.g_tables _))) rfl rfl rfl fun a hF => ?_
    refine s_val hF (r_lenD (f5 _ (hsub _ (dropM hM 1))) q6.len Tryz.underlying28 hF rfl rfl) rfl rfl rfl fun a hF => ?_
    refine s_val hF (r_lss hF rfl rfl rfl) rfl rfl rfl fun a hF => ?_
    refine c_nil (n_then ?_)
    refine c_cond hF (c := .tmp 18) rfl (fun hb142 => ?_) (fun hb142 => ?_)
    · have hP := Fx.cT hb142 hP
      refine c_skip (n_then ?_)
      refine c_seq ?_
      refine c_block ?_
      refine c_seq ?_
      refine c_region ?_
      refine s_val hF (r_fieldAddr (off' := 1) Tryz.underlying30 rfl in28 rfl hF rfl rfl rfl) rfl rfl rfl fun a hF => ?_
      refine s_val hF (r_load1 Tryz.isAgg28 hF rfl rfl (hM.cell (i := 0) rfl (RInput.g_tables _))) rfl rfl rfl fun a hF => ?_
      refine s_val hF (r_move hF rfl rfl) rfl rfl rfl fun a hF => ?_
      obtain ⟨x145, hx145, hP⟩ := bind_some hP
      have h0x145 := get_some hx145
      obtain ⟨yx145, hgx145, hrx145⟩ := Each.getr q6 h0x145.2
      have hdx145 := Each.bd q6 (get_bd hx145)
      refine s_val hF (r_indexZ (sz := 1) (f5 _ (hsub _ (dropM hM 1))) Tryz.underlying28 in23 rfl hF rfl rfl rfl hdx145) rfl rfl rfl fun a hF => ?_
      refine s_val hF (r_load1 Tryz.isAgg23 hF rfl rfl ((((f5 _ (hsub _ (dropM hM 1))).elemS hgx145)).get 0 rfl)) rfl rfl rfl fun a hF => ?_
      refine s_val hF (r_lenL (hrx145 _ (hsub _ (dropM hM 1))) Tryz.underlying23 hF rfl rfl) rfl rfl rfl fun a hF => ?_
      refine s_val hF (r_gtr hF rfl rfl rfl) rfl rfl rfl fun a hF => ?_
      refine c_nil (n_then ?_)
      refine c_cond hF (c := .tmp 27) rfl (fun hb146 => ?_) (fun hb146 => ?_)
      · have hP := Fx.cT hb146 hP
        refine c_seq ?_
        refine c_region ?_
        refine s_val hF (r_assign hF rfl rfl) rfl rfl rfl fun a hF => ?_
        refine c_nil (n_then ?_)
        refine c_ret ?_
        have hP := Option.some.inj hP
        subst hP
        have hP := hK_l3 _ rfl
        subst hP
        have hP := fin_inr hK_j2
        subst hP
        refine e_ret1 Tryz.results105 hF rfl ?_
        exact ⟨rfl, selM hM [] 1 rfl⟩
      have hP := Fx.cF hb146 hP
      refine c_skip (n_block (n_then ?_))
      refine c_region ?_
      refine s_val hF (r_move hF rfl rfl) rfl rfl rfl fun a hF => ?_
      refine s_val hF (r_add hF rfl rfl rfl) rfl rfl rfl fun a hF => ?_
      refine s_val hF (r_assign hF rfl rfl) rfl rfl rfl fun a hF => ?_
      refine c_nil (n_then ?_)
      have hP := Option.some.inj hP
      subst hP
      exact ⟨(IntKind.i64.wrap (v140 + 1)), rfl, hF.to ⟨rfl, rfl, rfl, trivial⟩, hM⟩
    have hP := Fx.cF hb142 hP
    refine c_exit (x_then (x_then (x_hit ?_)))
    refine n_then ?_
    have hP := Option.some.inj hP
    subst hP
    have hP := hK_l3 _ rfl
    subst hP
    exact ⟨(), rfl, hF.to ⟨rfl, trivial⟩, selM hM [] 1 rfl⟩
  rintro ⟨⟩ a w hP ⟨hF, hM⟩
  replace hP : Sh.ref23_inputPlain_j2 = _ := hP
  unfold Sh.ref23_inputPlain_j2 at hP
  refine n_then ?_
  refine c_seq ?_
  refine c_region ?_
  refine s_val hF (r_assign hF rfl rfl) rfl rfl rfl fun a hF => ?_
  refine c_nil (n_then ?_)
  refine c_ret ?_
  have hP := Option.some.inj hP
  subst hP
  refine e_ret1 Tryz.results105 hF rfl ?_
  exact ⟨rfl, hM⟩
set_option maxHeartbeats 4000000 in
theorem ref23_statePlain_calls {x0 : QState} {s1 : SV} {s3 : SV} {hs4 : List SV} {s7 : SV} {out : Bool} {w0 : World} {Bf : World → Prop} {Lr : List Res} (hP : Sh.ref23_statePlain x0 = some out) (hM : MemL w0 (Lr)) (hsub : ∀ w, MemL w Lr → Bf w) (f2 : LIn Bf s1 x0.ctx) (f5 : LIn Bf s3 hs4) (q6 : Each (LIn (X := UInt8) Bf) hs4 x0.tables) (f8 : LIn Bf s7 x0.sent) : Calls Tryz.prog 87 #[.agg (RState.enc (RState.mk x0.regs x0.stack s1 s3 s7 x0.at_ x0.steps x0.done)).toArray] w0 (Ret fun v w' => v = .bool out ∧ MemL w' (Lr)) := by
  unfold Sh.ref23_statePlain at hP
  refine calls_enter (vs := [.agg (RState.enc (RState.mk x0.regs x0.stack s1 s3 s7 x0.at_ x0.steps x0.done)).toArray]) Tryz.func87 rfl Tryz.ntmps87 rfl fun a hF => ?_
  refine c_seq ?_
  refine c_region ?_
  refine s_eff hF rfl rfl rfl (w_box hF rfl rfl rfl fun b_B87_1 w hzB87_1 hAB87_1 => ?_)
  have hM := hM.plus hAB87_1
  replace hM : MemL _ (pt b_B87_1 (RState.enc (RState.mk x0.regs x0.stack s1 s3 s7 x0.at_ x0.steps x0.done)) 54 :: Lr) := hM
  intro a hF
  refine s_val hF (r_assign hF rfl rfl) rfl rfl rfl fun a hF => ?_
  refine c_nil (n_then ?_)
  refine c_seq ?_
  refine c_joinX hF hM hP (fun F x a w => match x with | v50 => Fr 19 [(2, .bool v50)] a ∧ MemL w (Lr)) (fun o_j1 hP hK_j1 hF hM => ?_) ?_
  · refine c_region ?_
    refine s_val hF (r_fieldAddr (off' := 463) Tryz.underlying54 rfl in3 rfl hF rfl rfl rfl) rfl rfl rfl fun a hF => ?_
    refine s_val hF (r_load1 Tryz.isAgg3 hF rfl rfl (hM.cell (i := 0) rfl (RState.g_at_ _))) rfl rfl rfl fun a hF => ?_
    obtain ⟨y52, hy52, hP⟩ := bind_some hP
    refine s_eff hF rfl rfl rfl (w_call (xs := [.tmp 4, .const (.int .i64 (0)), .const (.int .i64 (4095))]) Tryz.call159 hF rfl rfl (ref23_within_calls hy52 hM ) fun v w hR => ?_)
    obtain ⟨rfl, hM⟩ := hR
    replace hM : MemL _ (pt b_B87_1 (RState.enc (RState.mk x0.regs x0.stack s1 s3 s7 x0.at_ x0.steps x0.done)) 54 :: Lr) := hM
    intro a hF
    refine s_val hF (r_move hF rfl rfl) rfl rfl rfl fun a hF => ?_
    refine g_split 6 hF rfl (fun hb53 => ?_) (fun hb53 => ?_)
    · have hP := Fx.cT hb53 hP
      refine g_val hF rfl rfl rfl hb53 (r_fieldAddr (off' := 464) Tryz.underlying54 rfl in3 rfl hF rfl rfl rfl) rfl rfl fun a hF => ?_
      refine g_val hF rfl rfl rfl hb53 (r_load1 Tryz.isAgg3 hF rfl rfl (hM.cell (i := 0) rfl (RState.g_steps _))) rfl rfl fun a hF => ?_
      obtain ⟨y55, hy55, hP⟩ := bind_some hP
      refine g_eff hF rfl rfl rfl hb53 rfl rfl (w_call (xs := [.tmp 8, .const (.int .i64 (0)), .const (.int .i64 (4294967296))]) Tryz.call159 hF rfl rfl (ref23_within_calls hy55 hM ) fun v w hR => ?_)
      obtain ⟨rfl, hM⟩ := hR
      replace hM : MemL _ (pt b_B87_1 (RState.enc (RState.mk x0.regs x0.stack s1 s3 s7 x0.at_ x0.steps x0.done)) 54 :: Lr) := hM
      intro a hF
      refine s_val hF (r_pick1 hF rfl rfl hb53 rfl) rfl rfl rfl fun a hF => ?_
      refine s_val hF (r_move hF rfl rfl) rfl rfl rfl fun a hF => ?_
      refine g_split 11 hF rfl (fun hb56 => ?_) (fun hb56 => ?_)
      · have hP := Fx.cT hb56 hP
        refine g_val hF rfl rfl rfl hb56 (r_fieldAddr (off' := 460) Tryz.underlying54 rfl in23 rfl hF rfl rfl rfl) rfl rfl fun a hF => ?_
        refine g_val hF rfl rfl rfl hb56 (r_load1 Tryz.isAgg23 hF rfl rfl (hM.cell (i := 0) rfl (RState.g_ctx _))) rfl rfl fun a hF => ?_
        refine g_val hF rfl rfl rfl hb56 (r_fieldAddr (off' := 461) Tryz.underlying54 rfl in28 rfl hF rfl rfl rfl) rfl rfl fun a hF => ?_
        refine g_val hF rfl rfl rfl hb56 (r_load1 Tryz.isAgg28 hF rfl rfl (hM.cell (i := 0) rfl (RState.g_tables _))) rfl rfl fun a hF => ?_
        refine g_val hF rfl rfl rfl hb56 (r_build z30 Tryz.underlying30 pl30 hF (parts := [(0, .tmp 13), (1, .tmp 15)]) rfl rfl (fill_s rfl rfl (by rw [RInput.len]; decide) (RInput.s_ctx _ _) (fill_s rfl rfl (by rw [RInput.len]; decide) (RInput.s_tables _ _) fill_e))) rfl rfl fun a hF => ?_
        obtain ⟨y58, hy58, hP⟩ := bind_some hP
        refine g_eff hF rfl rfl rfl hb56 rfl rfl (w_call (xs := [.tmp 16]) Tryz.call105 hF rfl rfl (ref23_inputPlain_calls hy58 hM (Bf := Bf) (fun w hM => hsub _ (dropM hM 1)) f2 f5 q6) fun v w hR => ?_)
        obtain ⟨rfl, hM⟩ := hR
        replace hM : MemL _ (pt b_B87_1 (RState.enc (RState.mk x0.regs x0.stack s1 s3 s7 x0.at_ x0.steps x0.done)) 54 :: Lr) := hM
        intro a hF
        refine s_val hF (r_pick1 hF rfl rfl hb56 rfl) rfl rfl rfl fun a hF => ?_
        refine s_val hF (r_assign hF rfl rfl) rfl rfl rfl fun a hF => ?_
        refine c_nil (n_then ?_)
        have hP := Option.some.inj hP
        subst hP
        exact ⟨y58, rfl, hF.to ⟨rfl, trivial⟩, selM hM [] 1 rfl⟩
      have hP := Fx.cF hb56 hP
      refine g_skip hF rfl rfl rfl hb56 rfl rfl fun a hF => ?_
      refine g_skip hF rfl rfl rfl hb56 rfl rfl fun a hF => ?_
      refine g_skip hF rfl rfl rfl hb56 rfl rfl fun a hF => ?_
      refine g_skip hF rfl rfl rfl hb56 rfl rfl fun a hF => ?_
      refine g_skip hF rfl rfl rfl hb56 rfl rfl fun a hF => ?_
      refine g_skip hF rfl rfl rfl hb56 rfl rfl fun a hF => ?_
      refine s_val hF (r_pick0 hF rfl rfl hb56 rfl) rfl rfl rfl fun a hF => ?_
      refine s_val hF (r_assign hF rfl rfl) rfl rfl rfl fun a hF => ?_
      refine c_nil (n_then ?_)
      have hP := Option.some.inj hP
      subst hP
      exact ⟨false, rfl, hF.to ⟨rfl, trivial⟩, selM hM [] 1 rfl⟩
    have hP := Fx.cF hb53 hP
    refine g_skip hF rfl rfl rfl hb53 rfl rfl fun a hF => ?_
    refine g_skip hF rfl rfl rfl hb53 rfl rfl fun a hF => ?_
    refine g_skip hF rfl rfl rfl hb53 rfl rfl fun a hF => ?_
    refine s_val hF (r_pick0 hF rfl rfl hb53 rfl) rfl rfl rfl fun a hF => ?_
    refine s_val hF (r_move hF rfl rfl) rfl rfl rfl fun a hF => ?_
    refine g_skip hF rfl rfl rfl rfl rfl rfl fun a hF => ?_
    refine g_skip hF rfl rfl rfl rfl rfl rfl fun a hF => ?_
    refine g_skip hF rfl rfl rfl rfl rfl rfl fun a hF => ?_
    refine g_skip hF rfl rfl rfl rfl rfl rfl fun a hF => ?_
    refine g_skip hF rfl rfl rfl rfl rfl rfl fun a hF => ?_
    refine g_skip hF rfl rfl rfl rfl rfl rfl fun a hF => ?_
    refine s_val hF (r_pick0 hF rfl rfl rfl rfl) rfl rfl rfl fun a hF => ?_
    refine s_val hF (r_assign hF rfl rfl) rfl rfl rfl fun a hF => ?_
    refine c_nil (n_then ?_)
    have hP := Option.some.inj hP
    subst hP
    exact ⟨false, rfl, hF.to ⟨rfl, trivial⟩, selM hM [] 1 rfl⟩
  rintro v50 a w hP ⟨hF, hM⟩
  replace hP : Sh.ref23_statePlain_j1 v50 = _ := hP
  unfold Sh.ref23_statePlain_j1 at hP
  refine n_then ?_
  refine c_ret ?_
  have hP := Option.some.inj hP
  subst hP
  refine e_ret1 Tryz.results87 hF rfl ?_
  exact ⟨rfl, hM⟩
end Go.Proofs
end
section
namespace Go.Proofs
open Go.Fw Go.Fx
set_option maxRecDepth 10000
set_option linter.unusedVariables false
set_option linter.unusedSimpArgs false
set_option maxHeartbeats 4000000 in
theorem law00_SameBytes_calls {x0 : List UInt8} {x1 : List UInt8} {s1 : SV} {s3 : SV} {out : Bool} {w0 : World} {Bf : World → Prop} {Lr : List Res} (hP : Sh.law00_SameBytes x0 x1 = some out) (hM : MemL w0 (Lr)) (hsub : ∀ w, MemL w Lr → Bf w) (f2 : LIn Bf s1 x0) (f4 : LIn Bf s3 x1) : Calls Tryz.prog 43 #[(s1).v, (s3).v] w0 (Ret fun v w' => v = .bool out ∧ MemL w' (Lr)) := by
  unfold Sh.law00_SameBytes at hP
  refine calls_enter (vs := [(s1).v, (s3).v]) Tryz.func43 rfl Tryz.ntmps43 rfl fun a hF => ?_
  refine c_seq ?_
  refine c_region ?_
  refine s_val hF (r_assign hF rfl rfl) rfl rfl rfl fun a hF => ?_
  refine c_nil (n_then ?_)
  refine c_seq ?_
  refine c_region ?_
  refine s_val hF (r_move hF rfl rfl) rfl rfl rfl fun a hF => ?_
  refine s_val hF (r_convStr0 (f2 _ (hsub _ (dropM hM 0))) Tryz.underlying23 Tryz.underlying5 Tryz.underlying9 hF rfl rfl) rfl rfl rfl fun a hF => ?_
  refine s_val hF (r_move hF rfl rfl) rfl rfl rfl fun a hF => ?_
  refine s_val hF (r_convStr0 (f4 _ (hsub _ (dropM hM 0))) Tryz.underlying23 Tryz.underlying5 Tryz.underlying9 hF rfl rfl) rfl rfl rfl fun a hF => ?_
  refine s_val hF (r_eqlStr (i := x0) (j := x1) hF rfl rfl rfl) rfl rfl rfl fun a hF => ?_
  refine s_val hF (r_assign hF rfl rfl) rfl rfl rfl fun a hF => ?_
  refine c_nil (n_then ?_)
  refine c_ret ?_
  have hP := Option.some.inj hP
  subst hP
  refine e_ret1 Tryz.results43 hF rfl ?_
  exact ⟨rfl, hM⟩
set_option maxHeartbeats 4000000 in
theorem law00_SameInts_calls {x0 : List Int} {x1 : List Int} {s1 : SV} {s3 : SV} {out : Bool} {w0 : World} {Bf : World → Prop} {Lr : List Res} (hP : Sh.law00_SameInts x0 x1 = some out) (hM : MemL w0 (Lr)) (hsub : ∀ w, MemL w Lr → Bf w) (f2 : LIn Bf s1 x0) (f4 : LIn Bf s3 x1) : Calls Tryz.prog 89 #[(s1).v, (s3).v] w0 (Ret fun v w' => v = .bool out ∧ MemL w' (Lr)) := by
  unfold Sh.law00_SameInts at hP
  refine calls_enter (vs := [(s1).v, (s3).v]) Tryz.func89 rfl Tryz.ntmps89 rfl fun a hF => ?_
  refine c_seq ?_
  refine c_region ?_
  refine s_val hF (r_assign hF rfl rfl) rfl rfl rfl fun a hF => ?_
  refine c_nil (n_then ?_)
  refine c_seq ?_
  refine c_seq ?_
  refine c_region ?_
  refine s_val hF (r_move hF rfl rfl) rfl rfl rfl fun a hF => ?_
  refine s_val hF (r_lenL (f2 _ (hsub _ (dropM hM 0))) Tryz.underlying52 hF rfl rfl) rfl rfl rfl fun a hF => ?_
  refine s_val hF (r_move hF rfl rfl) rfl rfl rfl fun a hF => ?_
  refine s_val hF (r_lenL (f4 _ (hsub _ (dropM hM 0))) Tryz.underlying52 hF rfl rfl) rfl rfl rfl fun a hF => ?_
  refine s_val hF (r_neq hF rfl rfl rfl) rfl rfl rfl fun a hF => ?_
  refine c_nil (n_then ?_)
  refine c_cond hF (c := .tmp 10) rfl (fun hb122 => ?_) (fun hb122 => ?_)
  · have hP := Fx.cT hb122 hP
    refine c_seq ?_
    refine c_region ?_
    refine s_val hF (r_assign hF rfl rfl) rfl rfl rfl fun a hF => ?_
    refine c_nil (n_then ?_)
    refine c_ret ?_
    have hP := Option.some.inj hP
    subst hP
    refine e_ret1 Tryz.results89 hF rfl ?_
    exact ⟨rfl, hM⟩
  have hP := Fx.cF hb122 hP
  refine c_skip (n_then ?_)
  refine c_seq ?_
  refine c_joinX hF hM hP (fun F x a w => match x with | _ => Fr 26 [(4, .bool false)] a ∧ MemL w (Lr)) (fun o_j1 hP hK_j1 hF hM => ?_) ?_
  · refine c_seq ?_
    refine c_region ?_
    refine s_val hF (r_assign hF rfl rfl) rfl rfl rfl fun a hF => ?_
    refine c_nil (n_then ?_)
    refine c_block ?_
    refine c_loopX hF hM hP (fun F x a w => match x with | v224 => Fr 26 [(5, .int .i64 v224), (0, (s1).v), (1, (s3).v), (4, .bool false)] a ∧ MemL w (Lr)) (fun hF hM => ⟨hF.to ⟨rfl, rfl, rfl, rfl, trivial⟩, hM⟩) ?_
    rintro v224 a w o_l2 hP hK_l2 ⟨hF, hM⟩
    replace hP : Sh.law00_SameInts_l2 x0 x1 v224 = _ := hP
    unfold Sh.law00_SameInts_l2 at hP
    refine c_seq ?_
    refine c_seq ?_
    refine c_region ?_
    refine s_val hF (r_move hF rfl rfl) rfl rfl rfl fun a hF => ?_
    refine s_val hF (r_move hF rfl rfl) rfl rfl rfl fun a hF => ?_
    refine s_val hF (r_lenL (f2 _ (hsub _ (dropM hM 0))) Tryz.underlying52 hF rfl rfl) rfl rfl rfl fun a hF => ?_
    refine s_val hF (r_lss hF rfl rfl rfl) rfl rfl rfl fun a hF => ?_
    refine c_nil (n_then ?_)
    refine c_cond hF (c := .tmp 14) rfl (fun hb226 => ?_) (fun hb226 => ?_)
    · have hP := Fx.cT hb226 hP
      refine c_skip (n_then ?_)
      refine c_seq ?_
      refine c_block ?_
      refine c_seq ?_
      refine d_startT mixed (by kernel_rfl) hM [] 0 rfl fun hch => ?_
      refine d_val hF hch 0 rfl (by kernel_rfl) rfl rfl rfl (fun w hM => (r_move hF rfl rfl)) fun a hF => ?_
      refine d_val hF hch 1 rfl (by kernel_rfl) rfl rfl rfl (fun w hM => (r_move hF rfl rfl)) fun a hF => ?_
      obtain ⟨x234, hx234, hP⟩ := bind_some hP
      have h0x234 := get_some hx234
      refine d_val hF hch 2 rfl (by kernel_rfl) rfl rfl rfl (fun w hM => (r_indexZ (sz := 1) (f2 _ (hsub _ (dropM hM 0))) Tryz.underlying52 in3 rfl hF rfl rfl rfl (get_bd hx234))) fun a hF => ?_
      refine d_val hF hch 3 rfl (by kernel_rfl) rfl rfl rfl (fun w hM => (r_load1 Tryz.isAgg3 hF rfl rfl ((((f2 _ (hsub _ (dropM hM 0))).elemS h0x234.2)).get 0 rfl))) fun a hF => ?_
      refine d_val hF hch 4 rfl (by kernel_rfl) rfl rfl rfl (fun w hM => (r_move hF rfl rfl)) fun a hF => ?_
      refine d_val hF hch 5 rfl (by kernel_rfl) rfl rfl rfl (fun w hM => (r_move hF rfl rfl)) fun a hF => ?_
      obtain ⟨x235, hx235, hP⟩ := bind_some hP
      have h0x235 := get_some hx235
      refine d_val hF hch 6 rfl (by kernel_rfl) rfl rfl rfl (fun w hM => (r_indexZ (sz := 1) (f4 _ (hsub _ (dropM hM 0))) Tryz.underlying52 in3 rfl hF rfl rfl rfl (get_bd hx235))) fun a hF => ?_
      refine d_val hF hch 7 rfl (by kernel_rfl) rfl rfl rfl (fun w hM => (r_load1 Tryz.isAgg3 hF rfl rfl ((((f4 _ (hsub _ (dropM hM 0))).elemS h0x235.2)).get 0 rfl))) fun a hF => ?_
      refine d_val hF hch 8 rfl (by kernel_rfl) rfl rfl rfl (fun w hM => (r_neq hF rfl rfl rfl)) fun a hF => ?_
      refine d_end hch (by kernel_rfl) fun w hM => ?_
      refine n_then ?_
      refine c_cond hF (c := .tmp 25) rfl (fun hb236 => ?_) (fun hb236 => ?_)
      · have hP := Fx.cT hb236 hP
        refine c_seq ?_
        refine c_region ?_
        refine s_val hF (r_assign hF rfl rfl) rfl rfl rfl fun a hF => ?_
        refine c_nil (n_then ?_)
        refine c_ret ?_
        have hP := Option.some.inj hP
        subst hP
        have hP := hK_l2 _ rfl
        subst hP
        have hP := fin_inr hK_j1
        subst hP
        refine e_ret1 Tryz.results89 hF rfl ?_
        exact ⟨rfl, hM⟩
      have hP := Fx.cF hb236 hP
      refine c_skip (n_block (n_then ?_))
      refine c_region ?_
      refine s_val hF (r_move hF rfl rfl) rfl rfl rfl fun a hF => ?_
      refine s_val hF (r_add hF rfl rfl rfl) rfl rfl rfl fun a hF => ?_
      refine s_val hF (r_assign hF rfl rfl) rfl rfl rfl fun a hF => ?_
      refine c_nil (n_then ?_)
      have hP := Option.some.inj hP
      subst hP
      exact ⟨(IntKind.i64.wrap (v224 + 1)), rfl, hF.to ⟨rfl, rfl, rfl, rfl, trivial⟩, hM⟩
    have hP := Fx.cF hb226 hP
    refine c_exit (x_then (x_then (x_hit ?_)))
    refine n_then ?_
    have hP := Option.some.inj hP
    subst hP
    have hP := hK_l2 _ rfl
    subst hP
    exact ⟨(), rfl, hF.to ⟨rfl, trivial⟩, hM⟩
  rintro ⟨⟩ a w hP ⟨hF, hM⟩
  replace hP : Sh.law00_SameInts_j1 = _ := hP
  unfold Sh.law00_SameInts_j1 at hP
  refine n_then ?_
  refine c_seq ?_
  refine c_region ?_
  refine s_val hF (r_assign hF rfl rfl) rfl rfl rfl fun a hF => ?_
  refine c_nil (n_then ?_)
  refine c_ret ?_
  have hP := Option.some.inj hP
  subst hP
  refine e_ret1 Tryz.results89 hF rfl ?_
  exact ⟨rfl, hM⟩
set_option maxHeartbeats 4000000 in
theorem law00_CopyBytes_calls {x0 : List UInt8} {s1 : SV} {out : List UInt8} {w0 : World} {Bf : World → Prop} {Lr : List Res} (hP : Sh.law00_CopyBytes x0 = some out) (hM : MemL w0 (Lr)) (hsub : ∀ w, MemL w Lr → Bf w) (f2 : LIn Bf s1 x0) : Calls Tryz.prog 50 #[(s1).v] w0 (Ret fun v w' => ∃ (s6 : SV), v = (s6).v ∧ MemL w' (rowL 0 s6 5 out :: Lr)) := by
  unfold Sh.law00_CopyBytes at hP
  refine calls_enter (vs := [(s1).v]) Tryz.func50 rfl Tryz.ntmps50 rfl fun a hF => ?_
  refine c_seq ?_
  refine c_region ?_
  refine s_val hF (r_assign hF rfl rfl) rfl rfl rfl fun a hF => ?_
  refine c_nil (n_then ?_)
  refine c_seq ?_
  refine c_region ?_
  refine s_val hF (r_move hF rfl rfl) rfl rfl rfl fun a hF => ?_
  have hM := hM.rowNil (X := UInt8) 0 5
  obtain ⟨x10, hx10, hP⟩ := bind_some hP
  refine s_eff hF rfl rfl rfl (w_appX (X := UInt8) hx10 Tryz.underlying23 in5 rfl rfl rfl rfl hF rfl rfl rfl (hM.own (X := UInt8) (i := 0) rfl) (f2 _ (hsub _ (dropM hM 1))) fun s8 w hUs8 => ?_)
  have hM := hM.chg hUs8 (i := 0) rfl
  replace hM : MemL _ (rowL 0 s8 5 x10 :: Lr) := hM
  intro a hF
  refine s_val hF (r_assign hF rfl rfl) rfl rfl rfl fun a hF => ?_
  refine c_nil (n_then ?_)
  refine c_ret ?_
  have hP := Option.some.inj hP
  subst hP
  refine e_ret1 Tryz.results50 hF rfl ?_
  exact ⟨s8, rfl, hM⟩
set_option maxHeartbeats 4000000 in
theorem law00_CopyInts_calls {x0 : List Int} {s1 : SV} {out : List Int} {w0 : World} {Bf : World → Prop} {Lr : List Res} (hP : Sh.law00_CopyInts x0 = some out) (hM : MemL w0 (Lr)) (hsub : ∀ w, MemL w Lr → Bf w) (f2 : LIn Bf s1 x0) : Calls Tryz.prog 81 #[(s1).v] w0 (Ret fun v w' => ∃ (s6 : SV), v = (s6).v ∧ MemL w' (rowL 0 s6 3 out :: Lr)) := by
  unfold Sh.law00_CopyInts at hP
  refine calls_enter (vs := [(s1).v]) Tryz.func81 rfl Tryz.ntmps81 rfl fun a hF => ?_
  refine c_seq ?_
  refine c_region ?_
  refine s_val hF (r_assign hF rfl rfl) rfl rfl rfl fun a hF => ?_
  refine c_nil (n_then ?_)
  refine c_seq ?_
  refine c_region ?_
  refine s_val hF (r_move hF rfl rfl) rfl rfl rfl fun a hF => ?_
  have hM := hM.rowNil (X := Int) 0 3
  obtain ⟨x10, hx10, hP⟩ := bind_some hP
  refine s_eff hF rfl rfl rfl (w_appX (X := Int) hx10 Tryz.underlying52 in3 rfl rfl rfl rfl hF rfl rfl rfl (hM.own (X := Int) (i := 0) rfl) (f2 _ (hsub _ (dropM hM 1))) fun s8 w hUs8 => ?_)
  have hM := hM.chg hUs8 (i := 0) rfl
  replace hM : MemL _ (rowL 0 s8 3 x10 :: Lr) := hM
  intro a hF
  refine s_val hF (r_assign hF rfl rfl) rfl rfl rfl fun a hF => ?_
  refine c_nil (n_then ?_)
  refine c_ret ?_
  have hP := Option.some.inj hP
  subst hP
  refine e_ret1 Tryz.results81 hF rfl ?_
  exact ⟨s8, rfl, hM⟩
set_option maxHeartbeats 4000000 in
theorem law00_SameRows_calls {x0 : List (List UInt8)} {x1 : List (List UInt8)} {s1 : SV} {hs2 : List SV} {s5 : SV} {hs6 : List SV} {out : Bool} {w0 : World} {Bf : World → Prop} {Lr : List Res} (hP : Sh.law00_SameRows x0 x1 = some out) (hM : MemL w0 (Lr)) (hsub : ∀ w, MemL w Lr → Bf w) (f3 : LIn Bf s1 hs2) (q4 : Each (LIn (X := UInt8) Bf) hs2 x0) (f7 : LIn Bf s5 hs6) (q8 : Each (LIn (X := UInt8) Bf) hs6 x1) : Calls Tryz.prog 64 #[(s1).v, (s5).v] w0 (Ret fun v w' => v = .bool out ∧ MemL w' (Lr)) := by
  unfold Sh.law00_SameRows at hP
  refine calls_enter (vs := [(s1).v, (s5).v]) Tryz.func64 rfl Tryz.ntmps64 rfl fun a hF => ?_
  refine c_seq ?_
  refine c_region ?_
  refine s_val hF (r_assign hF rfl rfl) rfl rfl rfl fun a hF => ?_
  refine c_nil (n_then ?_)
  refine c_seq ?_
  refine c_seq ?_
  refine c_region ?_
  refine s_val hF (r_move hF rfl rfl) rfl rfl rfl fun a hF => ?_
  refine s_val hF (r_lenD (f3 _ (hsub _ (dropM hM 0))) q4.len Tryz.underlying28 hF rfl rfl) rfl rfl rfl fun a hF => ?_
  refine s_val hF (r_move hF rfl rfl) rfl rfl rfl fun a hF => ?_
  refine s_val hF (r_lenD (f7 _ (hsub _ (dropM hM 0))) q8.len Tryz.underlying28 hF rfl rfl) rfl rfl rfl fun a hF => ?_
  refine s_val hF (r_neq hF rfl rfl rfl) rfl rfl rfl fun a hF => ?_
  refine c_nil (n_then ?_)
  refine c_cond hF (c := .tmp 10) rfl (fun hb198 => ?_) (fun hb198 => ?_)
  · have hP := Fx.cT hb198 hP
    refine c_seq ?_
    refine c_region ?_
    refine s_val hF (r_assign hF rfl rfl) rfl rfl rfl fun a hF => ?_
    refine c_nil (n_then ?_)
    refine c_ret ?_
    have hP := Option.some.inj hP
    subst hP
    refine e_ret1 Tryz.results64 hF rfl ?_
    exact ⟨rfl, hM⟩
  have hP := Fx.cF hb198 hP
  refine c_skip (n_then ?_)
  refine c_seq ?_
  refine c_joinX hF hM hP (fun F x a w => match x with | _ => Fr 27 [(4, .bool false)] a ∧ MemL w (Lr)) (fun o_j1 hP hK_j1 hF hM => ?_) ?_
  · refine c_seq ?_
    refine c_region ?_
    refine s_val hF (r_assign hF rfl rfl) rfl rfl rfl fun a hF => ?_
    refine c_nil (n_then ?_)
    refine c_block ?_
    refine c_loopX hF hM hP (fun F x a w => match x with | v364 => Fr 27 [(5, .int .i64 v364), (0, (s1).v), (1, (s5).v), (4, .bool false)] a ∧ MemL w (Lr)) (fun hF hM => ⟨hF.to ⟨rfl, rfl, rfl, rfl, trivial⟩, hM⟩) ?_
    rintro v364 a w o_l2 hP hK_l2 ⟨hF, hM⟩
    replace hP : Sh.law00_SameRows_l2 x0 x1 v364 = _ := hP
    unfold Sh.law00_SameRows_l2 at hP
    refine c_seq ?_
    refine c_seq ?_
    refine c_region ?_
    refine s_val hF (r_move hF rfl rfl) rfl rfl rfl fun a hF => ?_
    refine s_val hF (r_move hF rfl rfl) rfl rfl rfl fun a hF => ?_
    refine s_val hF (r_lenD (f3 _ (hsub _ (dropM hM 0))) q4.len Tryz.underlying28 hF rfl rfl) rfl rfl rfl fun a hF => ?_
    refine s_val hF (r_lss hF rfl rfl rfl) rfl rfl rfl fun a hF => ?_
    refine c_nil (n_then ?_)
    refine c_cond hF (c := .tmp 14) rfl (fun hb366 => ?_) (fun hb366 => ?_)
    · have hP := Fx.cT hb366 hP
      refine c_skip (n_then ?_)
      refine c_seq ?_
      refine c_block ?_
      refine c_seq ?_
      refine d_startT mixed (by kernel_rfl) hM [] 0 rfl fun hch => ?_
      refine d_val hF hch 0 rfl (by kernel_rfl) rfl rfl rfl (fun w hM => (r_move hF rfl rfl)) fun a hF => ?_
      refine d_val hF hch 1 rfl (by kernel_rfl) rfl rfl rfl (fun w hM => (r_move hF rfl rfl)) fun a hF => ?_
      obtain ⟨x380, hx380, hP⟩ := bind_some hP
      have h0x380 := get_some hx380
      obtain ⟨yx380, hgx380, hrx380⟩ := Each.getr q4 h0x380.2
      have hdx380 := Each.bd q4 (get_bd hx380)
      refine d_val hF hch 2 rfl (by kernel_rfl) rfl rfl rfl (fun w hM => (r_indexZ (sz := 1) (f3 _ (hsub _ (dropM hM 0))) Tryz.underlying28 in23 rfl hF rfl rfl rfl hdx380)) fun a hF => ?_
      refine d_val hF hch 3 rfl (by kernel_rfl) rfl rfl rfl (fun w hM => (r_load1 Tryz.isAgg23 hF rfl rfl ((((f3 _ (hsub _ (dropM hM 0))).elemS hgx380)).get 0 rfl))) fun a hF => ?_
      refine d_val hF hch 4 rfl (by kernel_rfl) rfl rfl rfl (fun w hM => (r_move hF rfl rfl)) fun a hF => ?_
      refine d_val hF hch 5 rfl (by kernel_rfl) rfl rfl rfl (fun w hM => (r_move hF rfl rfl)) fun a hF => ?_
      obtain ⟨x381, hx381, hP⟩ := bind_some hP
      have h0x381 := get_some hx381
      obtain ⟨yx381, hgx381, hrx381⟩ := Each.getr q8 h0x381.2
      have hdx381 := Each.bd q8 (get_bd hx381)
      refine d_val hF hch 6 rfl (by kernel_rfl) rfl rfl rfl (fun w hM => (r_indexZ (sz := 1) (f7 _ (hsub _ (dropM hM 0))) Tryz.underlying28 in23 rfl hF rfl rfl rfl hdx381)) fun a hF => ?_
      refine d_val hF hch 7 rfl (by kernel_rfl) rfl rfl rfl (fun w hM => (r_load1 Tryz.isAgg23 hF rfl rfl ((((f7 _ (hsub _ (dropM hM 0))).elemS hgx381)).get 0 rfl))) fun a hF => ?_
      refine d_one hch 8 (by kernel_rfl) rfl rfl ?_
      refine d_ex hF 8 rfl rfl rfl rfl rfl fun w hMs hM => ?_
      obtain ⟨y383, hy383, hP⟩ := bind_some hP
      refine (w_call (xs := [.tmp 20, .tmp 24]) Tryz.call43 hF rfl rfl (law00_SameBytes_calls hy383 hM (Bf := Bf) (fun w hM => hsub _ (dropM hM 0)) hrx380 hrx381) fun v w hR => ?_)
      obtain ⟨rfl, hM⟩ := hR
      replace hM : MemL _ (Lr) := hM
      have hMs := selM hM [] 0 rfl
      refine ⟨_, _, hMs, hM, .inl fun _ h => h, fun a hF => ?_⟩
      refine d_val hF hch 9 rfl (by kernel_rfl) rfl rfl rfl (fun w hM => (r_not hF rfl rfl)) fun a hF => ?_
      refine d_end hch (by kernel_rfl) fun w hM => ?_
      refine n_then ?_
      refine c_cond hF (c := .tmp 26) rfl (fun hb384 => ?_) (fun hb384 => ?_)
      · have hP := Fx.cT hb384 hP
        refine c_seq ?_
        refine c_region ?_
        refine s_val hF (r_assign hF rfl rfl) rfl rfl rfl fun a hF => ?_
        refine c_nil (n_then ?_)
        refine c_ret ?_
        have hP := Option.some.inj hP
        subst hP
        have hP := hK_l2 _ rfl
        subst hP
        have hP := fin_inr hK_j1
        subst hP
        refine e_ret1 Tryz.results64 hF rfl ?_
        exact ⟨rfl, hM⟩
      have hP := Fx.cF hb384 hP
      refine c_skip (n_block (n_then ?_))
      refine c_region ?_
      refine s_val hF (r_move hF rfl rfl) rfl rfl rfl fun a hF => ?_
      refine s_val hF (r_add hF rfl rfl rfl) rfl rfl rfl fun a hF => ?_
      refine s_val hF (r_assign hF rfl rfl) rfl rfl rfl fun a hF => ?_
      refine c_nil (n_then ?_)
      have hP := Option.some.inj hP
      subst hP
      exact ⟨(IntKind.i64.wrap (v364 + 1)), rfl, hF.to ⟨rfl, rfl, rfl, rfl, trivial⟩, hM⟩
    have hP := Fx.cF hb366 hP
    refine c_exit (x_then (x_then (x_hit ?_)))
    refine n_then ?_
    have hP := Option.some.inj hP
    subst hP
    have hP := hK_l2 _ rfl
    subst hP
    exact ⟨(), rfl, hF.to ⟨rfl, trivial⟩, hM⟩
  rintro ⟨⟩ a w hP ⟨hF, hM⟩
  replace hP : Sh.law00_SameRows_j1 = _ := hP
  unfold Sh.law00_SameRows_j1 at hP
  refine n_then ?_
  refine c_seq ?_
  refine c_region ?_
  refine s_val hF (r_assign hF rfl rfl) rfl rfl rfl fun a hF => ?_
  refine c_nil (n_then ?_)
  refine c_ret ?_
  have hP := Option.some.inj hP
  subst hP
  refine e_ret1 Tryz.results64 hF rfl ?_
  exact ⟨rfl, hM⟩
set_option maxHeartbeats 4000000 in
theorem law00_CopyRows_calls {x0 : List (List UInt8)} {s1 : SV} {hs2 : List SV} {out : List (List UInt8)} {w0 : World} {Bf : World → Prop} {Lr : List Res} (hP : Sh.law00_CopyRows x0 = some out) (hM : MemL w0 (Lr)) (hsub : ∀ w, MemL w Lr → Bf w) (f3 : LIn Bf s1 hs2) (q4 : Each (LIn (X := UInt8) Bf) hs2 x0) : Calls Tryz.prog 72 #[(s1).v] w0 (Ret fun v w' => ∃ (s296 : SV) (hs297 : List SV) (r299 : Res), v = (s296).v ∧ Each (LIn (X := UInt8) r299.holds') hs297 out ∧ MemL w' (rowL 0 s296 23 hs297 :: r299 :: Lr)) := by
  unfold Sh.law00_CopyRows at hP
  refine calls_enter (vs := [(s1).v]) Tryz.func72 rfl Tryz.ntmps72 rfl fun a hF => ?_
  refine c_seq ?_
  refine c_region ?_
  refine s_val hF (r_assign hF rfl rfl) rfl rfl rfl fun a hF => ?_
  refine c_nil (n_then ?_)
  refine c_seq ?_
  refine c_region ?_
  refine s_val hF (r_assign hF rfl rfl) rfl rfl rfl fun a hF => ?_
  refine c_nil (n_then ?_)
  refine c_seq ?_
  refine c_joinX hF hM hP (fun F x a w => match x with | v491 => ∃ (s492 : SV) (hs493 : List SV) (r495 : Res), Each (LIn (X := UInt8) r495.holds') hs493 v491 ∧ Fr 20 [(3, (s492).v), (2, (SV.nil).v)] a ∧ MemL w (rowL 0 s492 23 hs493 :: r495 :: Lr)) (fun o_j1 hP hK_j1 hF hM => ?_) ?_
  · refine c_seq ?_
    refine c_region ?_
    refine s_val hF (r_assign hF rfl rfl) rfl rfl rfl fun a hF => ?_
    refine c_nil (n_then ?_)
    refine c_block ?_
    obtain ⟨r566, hM⟩ := voidM hM
    have q567 : Each (LIn (X := UInt8) r566.holds') ([] : List SV) ([] : List (List UInt8)) := Each.nil
    have hM := hM.rowNil (X := SV) 0 23
    refine c_loopX hF hM hP (fun F x a w => match x with | (v558, v564) => ∃ (s559 : SV) (hs560 : List SV) (r562 : Res), Each (LIn (X := UInt8) r562.holds') hs560 v558 ∧ Fr 20 [(3, (s559).v), (4, .int .i64 v564), (0, (s1).v), (2, (SV.nil).v)] a ∧ MemL w (rowL 0 s559 23 hs560 :: r562 :: Lr)) (fun hF hM => ⟨SV.nil, [], r566, q567, hF.to ⟨rfl, rfl, rfl, rfl, trivial⟩, hM⟩) ?_
    rintro ⟨v558, v564⟩ a w o_l2 hP hK_l2 ⟨s559, hs560, r562, q563, hF, hM⟩
    replace hP : Sh.law00_CopyRows_l2 x0 v558 v564 = _ := hP
    unfold Sh.law00_CopyRows_l2 at hP
    refine c_seq ?_
    refine c_seq ?_
    refine c_region ?_
    refine s_val hF (r_move hF rfl rfl) rfl rfl rfl fun a hF => ?_
    refine s_val hF (r_move hF rfl rfl) rfl rfl rfl fun a hF => ?_
    refine s_val hF (r_lenD (f3 _ (hsub _ (dropM hM 2))) q4.len Tryz.underlying28 hF rfl rfl) rfl rfl rfl fun a hF => ?_
    refine s_val hF (r_lss hF rfl rfl rfl) rfl rfl rfl fun a hF => ?_
    refine c_nil (n_then ?_)
    refine c_cond hF (c := .tmp 8) rfl (fun hb569 => ?_) (fun hb569 => ?_)
    · have hP := Fx.cT hb569 hP
      refine c_skip (n_then ?_)
      refine c_seq ?_
      refine c_block ?_
      refine c_region ?_
      refine s_val hF (r_move hF rfl rfl) rfl rfl rfl fun a hF => ?_
      refine s_val hF (r_move hF rfl rfl) rfl rfl rfl fun a hF => ?_
      refine s_val hF (r_move hF rfl rfl) rfl rfl rfl fun a hF => ?_
      obtain ⟨x581, hx581, hP⟩ := bind_some hP
      have h0x581 := get_some hx581
      obtain ⟨yx581, hgx581, hrx581⟩ := Each.getr q4 h0x581.2
      have hdx581 := Each.bd q4 (get_bd hx581)
      refine s_val hF (r_indexZ (sz := 1) (f3 _ (hsub _ (dropM hM 2))) Tryz.underlying28 in23 rfl hF rfl rfl rfl hdx581) rfl rfl rfl fun a hF => ?_
      refine s_val hF (r_load1 Tryz.isAgg23 hF rfl rfl ((((f3 _ (hsub _ (dropM hM 2))).elemS hgx581)).get 0 rfl)) rfl rfl rfl fun a hF => ?_
      obtain ⟨y583, hy583, hP⟩ := bind_some hP
      refine s_eff hF rfl rfl rfl (w_call (xs := [.tmp 15]) Tryz.call50 hF rfl rfl (law00_CopyBytes_calls hy583 hM (Bf := Bf) (fun w hM => hsub _ (dropM hM 2)) hrx581) fun v w hR => ?_)
      obtain ⟨s584, rfl, hM⟩ := hR
      replace hM : MemL _ (rowL 0 s584 5 y583 :: rowL 0 s559 23 hs560 :: r562 :: Lr) := hM
      intro a hF
      refine s_eff hF rfl rfl rfl (w_slice1 (X := SV) (y := s584) Tryz.underlying28 in23 rfl rfl rfl rfl hF rfl rfl rfl fun b_B72_17 w hzB72_17 hAB72_17 => ?_)
      have hM := hM.plus hAB72_17
      replace hM : MemL _ (pt b_B72_17 (encs ([s584] : List SV)) 23 :: rowL 0 s584 5 y583 :: rowL 0 s559 23 hs560 :: r562 :: Lr) := hM
      intro a hF
      obtain ⟨x587, hx587, hP⟩ := bind_some hP
      refine s_eff hF rfl rfl rfl (w_appD (X := SV) hx587 q563.len rfl Tryz.underlying28 in23 rfl rfl rfl rfl hF rfl rfl rfl (hM.own (X := SV) (i := 2) rfl) (hM.ptS (X := SV) (i := 0) (n := 1) (c := 1) rfl rfl rfl (Nat.le_refl _)) fun s586 w hUs586 => ?_)
      have hM := hM.chg hUs586 (i := 2) rfl
      replace hM : MemL _ (pt b_B72_17 (encs ([s584] : List SV)) 23 :: rowL 0 s584 5 y583 :: rowL 0 s586 23 (hs560 ++ [s584]) :: r562 :: Lr) := hM
      obtain ⟨r588, hj589, hj590, hM⟩ := joinM (selM hM [3, 1, 0, 2] 4 rfl)
      replace hM : MemL _ (r588 :: pt b_B72_17 (encs ([s584] : List SV)) 23 :: rowL 0 s586 23 (hs560 ++ [s584]) :: Lr) := hM
      have q591 : Each (LIn (X := UInt8) r588.holds') (hs560 ++ [s584]) x587 := by rw [(app_some hx587).2]; exact (q563.mono fun _ _ q => q.mono hj589).snoc (fun w h => row_in (X := UInt8) (e := 5) (hj590 w h))
      replace hM : MemL _ (r588 :: pt b_B72_17 (encs ([s584] : List SV)) 23 :: rowL 0 s586 23 (hs560 ++ [s584]) :: Lr) := hM
      intro a hF
      refine s_val hF (r_assign hF rfl rfl) rfl rfl rfl fun a hF => ?_
      refine c_nil (n_block (n_then ?_))
      refine c_region ?_
      refine s_val hF (r_move hF rfl rfl) rfl rfl rfl fun a hF => ?_
      refine s_val hF (r_add hF rfl rfl rfl) rfl rfl rfl fun a hF => ?_
      refine s_val hF (r_assign hF rfl rfl) rfl rfl rfl fun a hF => ?_
      refine c_nil (n_then ?_)
      have hP := Option.some.inj hP
      subst hP
      exact ⟨(x587, (IntKind.i64.wrap (v564 + 1))), rfl, s586, (hs560 ++ [s584]), r588, q591, hF.to ⟨rfl, rfl, rfl, rfl, trivial⟩, selM hM [2, 0] 3 rfl⟩
    have hP := Fx.cF hb569 hP
    refine c_exit (x_then (x_then (x_hit ?_)))
    refine n_then ?_
    have hP := Option.some.inj hP
    subst hP
    have hP := hK_l2 _ rfl
    subst hP
    exact ⟨v558, rfl, s559, hs560, r562, q563, hF.to ⟨rfl, rfl, trivial⟩, hM⟩
  rintro v491 a w hP ⟨s492, hs493, r495, q496, hF, hM⟩
  replace hP : Sh.law00_CopyRows_j1 v491 = _ := hP
  unfold Sh.law00_CopyRows_j1 at hP
  refine n_then ?_
  refine c_seq ?_
  refine c_region ?_
  refine s_val hF (r_move hF rfl rfl) rfl rfl rfl fun a hF => ?_
  refine s_val hF (r_assign hF rfl rfl) rfl rfl rfl fun a hF => ?_
  refine c_nil (n_then ?_)
  refine c_ret ?_
  have hP := Option.some.inj hP
  subst hP
  refine e_ret1 Tryz.results72 hF rfl ?_
  exact ⟨s492, hs493, r495, rfl, q496, hM⟩
set_option maxHeartbeats 4000000 in
theorem law00_SameState_calls {x0 : QState} {x1 : QState} {s1 : SV} {s3 : SV} {hs4 : List SV} {s7 : SV} {s9 : SV} {s11 : SV} {hs12 : List SV} {s15 : SV} {out : Bool} {w0 : World} {Bf : World → Prop} {Lr : List Res} (hP : Sh.law00_SameState x0 x1 = some out) (hM : MemL w0 (Lr)) (hsub : ∀ w, MemL w Lr → Bf w) (f2 : LIn Bf s1 x0.ctx) (f5 : LIn Bf s3 hs4) (q6 : Each (LIn (X := UInt8) Bf) hs4 x0.tables) (f8 : LIn Bf s7 x0.sent) (f10 : LIn Bf s9 x1.ctx) (f13 : LIn Bf s11 hs12) (q14 : Each (LIn (X := UInt8) Bf) hs12 x1.tables) (f16 : LIn Bf s15 x1.sent) : Calls Tryz.prog 34 #[.agg (RState.enc (RState.mk x0.regs x0.stack s1 s3 s7 x0.at_ x0.steps x0.done)).toArray, .agg (RState.enc (RState.mk x1.regs x1.stack s9 s11 s15 x1.at_ x1.steps x1.done)).toArray] w0 (Ret fun v w' => v = .bool out ∧ MemL w' (Lr)) := by
  unfold Sh.law00_SameState at hP
  refine calls_enter (vs := [.agg (RState.enc (RState.mk x0.regs x0.stack s1 s3 s7 x0.at_ x0.steps x0.done)).toArray, .agg (RState.enc (RState.mk x1.regs x1.stack s9 s11 s15 x1.at_ x1.steps x1.done)).toArray]) Tryz.func34 rfl Tryz.ntmps34 rfl fun a hF => ?_
  refine c_seq ?_
  refine c_region ?_
  refine s_eff hF rfl rfl rfl (w_box hF rfl rfl rfl fun b_B34_2 w hzB34_2 hAB34_2 => ?_)
  have hM := hM.plus hAB34_2
  replace hM : MemL _ (pt b_B34_2 (RState.enc (RState.mk x0.regs x0.stack s1 s3 s7 x0.at_ x0.steps x0.done)) 54 :: Lr) := hM
  intro a hF
  refine s_eff hF rfl rfl rfl (w_box hF rfl rfl rfl fun b_B34_3 w hzB34_3 hAB34_3 => ?_)
  have hM := hM.plus hAB34_3
  replace hM : MemL _ (pt b_B34_3 (RState.enc (RState.mk x1.regs x1.stack s9 s11 s15 x1.at_ x1.steps x1.done)) 54 :: pt b_B34_2 (RState.enc (RState.mk x0.regs x0.stack s1 s3 s7 x0.at_ x0.steps x0.done)) 54 :: Lr) := hM
  intro a hF
  refine s_val hF (r_assign hF rfl rfl) rfl rfl rfl fun a hF => ?_
  refine c_nil (n_then ?_)
  refine c_seq ?_
  refine c_joinX hF hM hP (fun F x a w => match x with | v83 => Fr 59 [(4, .bool v83)] a ∧ MemL w (Lr)) (fun o_j1 hP hK_j1 hF hM => ?_) ?_
  · refine c_region ?_
    refine s_val hF (r_fieldAddr (off' := 0) Tryz.underlying54 rfl in47 rfl hF rfl rfl rfl) rfl rfl rfl fun a hF => ?_
    refine s_val hF (r_loadn Tryz.isAgg47 Tryz.sizeOf47 hF rfl rfl (encs_vec _) (hM.cells (i := 1) rfl (RState.c_regs _))) rfl rfl rfl fun a hF => ?_
    refine s_val hF (r_fieldAddr (off' := 0) Tryz.underlying54 rfl in47 rfl hF rfl rfl rfl) rfl rfl rfl fun a hF => ?_
    refine s_val hF (r_loadn Tryz.isAgg47 Tryz.sizeOf47 hF rfl rfl (encs_vec _) (hM.cells (i := 0) rfl (RState.c_regs _))) rfl rfl rfl fun a hF => ?_
    refine s_val hF (r_eqlA Tryz.eqGuardType47 (eq_arr47 _ _ _ _ (by decide)) hF rfl rfl rfl) rfl rfl rfl fun a hF => ?_
    refine s_val hF (r_move hF rfl rfl) rfl rfl rfl fun a hF => ?_
    refine g_split 10 hF rfl (fun hb84 => ?_) (fun hb84 => ?_)
    · have hP := Fx.cT hb84 hP
      refine g_val hF rfl rfl rfl hb84 (r_fieldAddr (off' := 44) Tryz.underlying54 rfl in51 rfl hF rfl rfl rfl) rfl rfl fun a hF => ?_
      refine g_val hF rfl rfl rfl hb84 (r_loadn Tryz.isAgg51 Tryz.sizeOf51 hF rfl rfl (encs_vec _) (hM.cells (i := 1) rfl (RState.c_stack _))) rfl rfl fun a hF => ?_
      refine g_val hF rfl rfl rfl hb84 (r_fieldAddr (off' := 44) Tryz.underlying54 rfl in51 rfl hF rfl rfl rfl) rfl rfl fun a hF => ?_
      refine g_val hF rfl rfl rfl hb84 (r_loadn Tryz.isAgg51 Tryz.sizeOf51 hF rfl rfl (encs_vec _) (hM.cells (i := 0) rfl (RState.c_stack _))) rfl rfl fun a hF => ?_
      refine g_val hF rfl rfl rfl hb84 (r_eqlA Tryz.eqGuardType51 (eq_arr51 _ _ _ _ (by decide)) hF rfl rfl rfl) rfl rfl fun a hF => ?_
      refine s_val hF (r_pick1 hF rfl rfl hb84 rfl) rfl rfl rfl fun a hF => ?_
      refine s_val hF (r_move hF rfl rfl) rfl rfl rfl fun a hF => ?_
      refine g_split 17 hF rfl (fun hb85 => ?_) (fun hb85 => ?_)
      · have hP := Fx.cT hb85 hP
        refine g_val hF rfl rfl rfl hb85 (r_fieldAddr (off' := 460) Tryz.underlying54 rfl in23 rfl hF rfl rfl rfl) rfl rfl fun a hF => ?_
        refine g_val hF rfl rfl rfl hb85 (r_load1 Tryz.isAgg23 hF rfl rfl (hM.cell (i := 1) rfl (RState.g_ctx _))) rfl rfl fun a hF => ?_
        refine g_val hF rfl rfl rfl hb85 (r_fieldAddr (off' := 460) Tryz.underlying54 rfl in23 rfl hF rfl rfl rfl) rfl rfl fun a hF => ?_
        refine g_val hF rfl rfl rfl hb85 (r_load1 Tryz.isAgg23 hF rfl rfl (hM.cell (i := 0) rfl (RState.g_ctx _))) rfl rfl fun a hF => ?_
        obtain ⟨y87, hy87, hP⟩ := bind_some hP
        refine g_eff hF rfl rfl rfl hb85 rfl rfl (w_call (xs := [.tmp 19, .tmp 21]) Tryz.call43 hF rfl rfl (law00_SameBytes_calls hy87 hM (Bf := Bf) (fun w hM => hsub _ (dropM hM 2)) f2 f10) fun v w hR => ?_)
        obtain ⟨rfl, hM⟩ := hR
        replace hM : MemL _ (pt b_B34_3 (RState.enc (RState.mk x1.regs x1.stack s9 s11 s15 x1.at_ x1.steps x1.done)) 54 :: pt b_B34_2 (RState.enc (RState.mk x0.regs x0.stack s1 s3 s7 x0.at_ x0.steps x0.done)) 54 :: Lr) := hM
        intro a hF
        refine s_val hF (r_pick1 hF rfl rfl hb85 rfl) rfl rfl rfl fun a hF => ?_
        refine s_val hF (r_move hF rfl rfl) rfl rfl rfl fun a hF => ?_
        refine g_split 24 hF rfl (fun hb88 => ?_) (fun hb88 => ?_)
        · have hP := Fx.cT hb88 hP
          refine g_val hF rfl rfl rfl hb88 (r_fieldAddr (off' := 461) Tryz.underlying54 rfl in28 rfl hF rfl rfl rfl) rfl rfl fun a hF => ?_
          refine g_val hF rfl rfl rfl hb88 (r_load1 Tryz.isAgg28 hF rfl rfl (hM.cell (i := 1) rfl (RState.g_tables _))) rfl rfl fun a hF => ?_
          refine g_val hF rfl rfl rfl hb88 (r_fieldAddr (off' := 461) Tryz.underlying54 rfl in28 rfl hF rfl rfl rfl) rfl rfl fun a hF => ?_
          refine g_val hF rfl rfl rfl hb88 (r_load1 Tryz.isAgg28 hF rfl rfl (hM.cell (i := 0) rfl (RState.g_tables _))) rfl rfl fun a hF => ?_
          obtain ⟨y90, hy90, hP⟩ := bind_some hP
          refine g_eff hF rfl rfl rfl hb88 rfl rfl (w_call (xs := [.tmp 26, .tmp 28]) Tryz.call64 hF rfl rfl (law00_SameRows_calls hy90 hM (Bf := Bf) (fun w hM => hsub _ (dropM hM 2)) f5 q6 f13 q14) fun v w hR => ?_)
          obtain ⟨rfl, hM⟩ := hR
          replace hM : MemL _ (pt b_B34_3 (RState.enc (RState.mk x1.regs x1.stack s9 s11 s15 x1.at_ x1.steps x1.done)) 54 :: pt b_B34_2 (RState.enc (RState.mk x0.regs x0.stack s1 s3 s7 x0.at_ x0.steps x0.done)) 54 :: Lr) := hM
          intro a hF
          refine s_val hF (r_pick1 hF rfl rfl hb88 rfl) rfl rfl rfl fun a hF => ?_
          refine s_val hF (r_move hF rfl rfl) rfl rfl rfl fun a hF => ?_
          refine g_split 31 hF rfl (fun hb91 => ?_) (fun hb91 => ?_)
          · have hP := Fx.cT hb91 hP
            refine g_val hF rfl rfl rfl hb91 (r_fieldAddr (off' := 462) Tryz.underlying54 rfl in52 rfl hF rfl rfl rfl) rfl rfl fun a hF => ?_
            refine g_val hF rfl rfl rfl hb91 (r_load1 Tryz.isAgg52 hF rfl rfl (hM.cell (i := 1) rfl (RState.g_sent _))) rfl rfl fun a hF => ?_
            refine g_val hF rfl rfl rfl hb91 (r_fieldAddr (off' := 462) Tryz.underlying54 rfl in52 rfl hF rfl rfl rfl) rfl rfl fun a hF => ?_
            refine g_val hF rfl rfl rfl hb91 (r_load1 Tryz.isAgg52 hF rfl rfl (hM.cell (i := 0) rfl (RState.g_sent _))) rfl rfl fun a hF => ?_
            obtain ⟨y93, hy93, hP⟩ := bind_some hP
            refine g_eff hF rfl rfl rfl hb91 rfl rfl (w_call (xs := [.tmp 33, .tmp 35]) Tryz.call89 hF rfl rfl (law00_SameInts_calls hy93 hM (Bf := Bf) (fun w hM => hsub _ (dropM hM 2)) f8 f16) fun v w hR => ?_)
            obtain ⟨rfl, hM⟩ := hR
            replace hM : MemL _ (pt b_B34_3 (RState.enc (RState.mk x1.regs x1.stack s9 s11 s15 x1.at_ x1.steps x1.done)) 54 :: pt b_B34_2 (RState.enc (RState.mk x0.regs x0.stack s1 s3 s7 x0.at_ x0.steps x0.done)) 54 :: Lr) := hM
            intro a hF
            refine s_val hF (r_pick1 hF rfl rfl hb91 rfl) rfl rfl rfl fun a hF => ?_
            refine s_val hF (r_move hF rfl rfl) rfl rfl rfl fun a hF => ?_
            refine g_split 38 hF rfl (fun hb94 => ?_) (fun hb94 => ?_)
            · have hP := Fx.cT hb94 hP
              refine g_val hF rfl rfl rfl hb94 (r_fieldAddr (off' := 463) Tryz.underlying54 rfl in3 rfl hF rfl rfl rfl) rfl rfl fun a hF => ?_
              refine g_val hF rfl rfl rfl hb94 (r_load1 Tryz.isAgg3 hF rfl rfl (hM.cell (i := 1) rfl (RState.g_at_ _))) rfl rfl fun a hF => ?_
              refine g_val hF rfl rfl rfl hb94 (r_fieldAddr (off' := 463) Tryz.underlying54 rfl in3 rfl hF rfl rfl rfl) rfl rfl fun a hF => ?_
              refine g_val hF rfl rfl rfl hb94 (r_load1 Tryz.isAgg3 hF rfl rfl (hM.cell (i := 0) rfl (RState.g_at_ _))) rfl rfl fun a hF => ?_
              refine g_val hF rfl rfl rfl hb94 (r_eql hF rfl rfl rfl) rfl rfl fun a hF => ?_
              refine s_val hF (r_pick1 hF rfl rfl hb94 rfl) rfl rfl rfl fun a hF => ?_
              refine s_val hF (r_move hF rfl rfl) rfl rfl rfl fun a hF => ?_
              refine g_split 45 hF rfl (fun hb95 => ?_) (fun hb95 => ?_)
              · have hP := Fx.cT hb95 hP
                refine g_val hF rfl rfl rfl hb95 (r_fieldAddr (off' := 464) Tryz.underlying54 rfl in3 rfl hF rfl rfl rfl) rfl rfl fun a hF => ?_
                refine g_val hF rfl rfl rfl hb95 (r_load1 Tryz.isAgg3 hF rfl rfl (hM.cell (i := 1) rfl (RState.g_steps _))) rfl rfl fun a hF => ?_
                refine g_val hF rfl rfl rfl hb95 (r_fieldAddr (off' := 464) Tryz.underlying54 rfl in3 rfl hF rfl rfl rfl) rfl rfl fun a hF => ?_
                refine g_val hF rfl rfl rfl hb95 (r_load1 Tryz.isAgg3 hF rfl rfl (hM.cell (i := 0) rfl (RState.g_steps _))) rfl rfl fun a hF => ?_
                refine g_val hF rfl rfl rfl hb95 (r_eql hF rfl rfl rfl) rfl rfl fun a hF => ?_
                refine s_val hF (r_pick1 hF rfl rfl hb95 rfl) rfl rfl rfl fun a hF => ?_
                refine s_val hF (r_move hF rfl rfl) rfl rfl rfl fun a hF => ?_
                refine g_split 52 hF rfl (fun hb96 => ?_) (fun hb96 => ?_)
                · have hP := Fx.cT hb96 hP
                  refine g_val hF rfl rfl rfl hb96 (r_fieldAddr (off' := 465) Tryz.underlying54 rfl in4 rfl hF rfl rfl rfl) rfl rfl fun a hF => ?_
                  refine g_val hF rfl rfl rfl hb96 (r_load1 Tryz.isAgg4 hF rfl rfl (hM.cell (i := 1) rfl (RState.g_done _))) rfl rfl fun a hF => ?_
                  refine g_val hF rfl rfl rfl hb96 (r_fieldAddr (off' := 465) Tryz.underlying54 rfl in4 rfl hF rfl rfl rfl) rfl rfl fun a hF => ?_
                  refine g_val hF rfl rfl rfl hb96 (r_load1 Tryz.isAgg4 hF rfl rfl (hM.cell (i := 0) rfl (RState.g_done _))) rfl rfl fun a hF => ?_
                  refine g_val hF rfl rfl rfl hb96 (r_eqlB Tryz.underlying4 hF rfl rfl rfl) rfl rfl fun a hF => ?_
                  refine s_val hF (r_pick1 hF rfl rfl hb96 rfl) rfl rfl rfl fun a hF => ?_
                  refine s_val hF (r_assign hF rfl rfl) rfl rfl rfl fun a hF => ?_
                  refine c_nil (n_then ?_)
                  have hP := Option.some.inj hP
                  subst hP
                  exact ⟨(decide (x0.done = x1.done)), rfl, hF.to ⟨rfl, trivial⟩, selM hM [] 2 rfl⟩
                have hP := Fx.cF hb96 hP
                refine g_skip hF rfl rfl rfl hb96 rfl rfl fun a hF => ?_
                refine g_skip hF rfl rfl rfl hb96 rfl rfl fun a hF => ?_
                refine g_skip hF rfl rfl rfl hb96 rfl rfl fun a hF => ?_
                refine g_skip hF rfl rfl rfl hb96 rfl rfl fun a hF => ?_
                refine g_skip hF rfl rfl rfl hb96 rfl rfl fun a hF => ?_
                refine s_val hF (r_pick0 hF rfl rfl hb96 rfl) rfl rfl rfl fun a hF => ?_
                refine s_val hF (r_assign hF rfl rfl) rfl rfl rfl fun a hF => ?_
                refine c_nil (n_then ?_)
                have hP := Option.some.inj hP
                subst hP
                exact ⟨false, rfl, hF.to ⟨rfl, trivial⟩, selM hM [] 2 rfl⟩
              have hP := Fx.cF hb95 hP
              refine g_skip hF rfl rfl rfl hb95 rfl rfl fun a hF => ?_
              refine g_skip hF rfl rfl rfl hb95 rfl rfl fun a hF => ?_
              refine g_skip hF rfl rfl rfl hb95 rfl rfl fun a hF => ?_
              refine g_skip hF rfl rfl rfl hb95 rfl rfl fun a hF => ?_
              refine g_skip hF rfl rfl rfl hb95 rfl rfl fun a hF => ?_
              refine s_val hF (r_pick0 hF rfl rfl hb95 rfl) rfl rfl rfl fun a hF => ?_
              refine s_val hF (r_move hF rfl rfl) rfl rfl rfl fun a hF => ?_
              refine g_skip hF rfl rfl rfl rfl rfl rfl fun a hF => ?_
              refine g_skip hF rfl rfl rfl rfl rfl rfl fun a hF => ?_
              refine g_skip hF rfl rfl rfl rfl rfl rfl fun a hF => ?_
              refine g_skip hF rfl rfl rfl rfl rfl rfl fun a hF => ?_
              refine g_skip hF rfl rfl rfl rfl rfl rfl fun a hF => ?_
              refine s_val hF (r_pick0 hF rfl rfl rfl rfl) rfl rfl rfl fun a hF => ?_
              refine s_val hF (r_assign hF rfl rfl) rfl rfl rfl fun a hF => ?_
              refine c_nil (n_then ?_)
              have hP := Option.some.inj hP
              subst hP
              exact ⟨false, rfl, hF.to ⟨rfl, trivial⟩, selM hM [] 2 rfl⟩
            have hP := Fx.cF hb94 hP
            refine g_skip hF rfl rfl rfl hb94 rfl rfl fun a hF => ?_
            refine g_skip hF rfl rfl rfl hb94 rfl rfl fun a hF => ?_
            refine g_skip hF rfl rfl rfl hb94 rfl rfl fun a hF => ?_
            refine g_skip hF rfl rfl rfl hb94 rfl rfl fun a hF => ?_
            refine g_skip hF rfl rfl rfl hb94 rfl rfl fun a hF => ?_
            refine s_val hF (r_pick0 hF rfl rfl hb94 rfl) rfl rfl rfl fun a hF => ?_
            refine s_val hF (r_move hF rfl rfl) rfl rfl rfl fun a hF => ?_
            refine g_skip hF rfl rfl rfl rfl rfl rfl fun a hF => ?_
            refine g_skip hF rfl rfl rfl rfl rfl rfl fun a hF => ?_
            refine g_skip hF rfl rfl rfl rfl rfl rfl fun a hF => ?_
            refine g_skip hF rfl rfl rfl rfl rfl rfl fun a hF => ?_
            refine g_skip hF rfl rfl rfl rfl rfl rfl fun a hF => ?_
            refine s_val hF (r_pick0 hF rfl rfl rfl rfl) rfl rfl rfl fun a hF => ?_
            refine s_val hF (r_move hF rfl rfl) rfl rfl rfl fun a hF => ?_
            refine g_skip hF rfl rfl rfl rfl rfl rfl fun a hF => ?_
            refine g_skip hF rfl rfl rfl rfl rfl rfl fun a hF => ?_
            refine g_skip hF rfl rfl rfl rfl rfl rfl fun a hF => ?_
            refine g_skip hF rfl rfl rfl rfl rfl rfl fun a hF => ?_
            refine g_skip hF rfl rfl rfl rfl rfl rfl fun a hF => ?_
            refine s_val hF (r_pick0 hF rfl rfl rfl rfl) rfl rfl rfl fun a hF => ?_
            refine s_val hF (r_assign hF rfl rfl) rfl rfl rfl fun a hF => ?_
            refine c_nil (n_then ?_)
            have hP := Option.some.inj hP
            subst hP
            exact ⟨false, rfl, hF.to ⟨rfl, trivial⟩, selM hM [] 2 rfl⟩
          have hP := Fx.cF hb91 hP
          refine g_skip hF rfl rfl rfl hb91 rfl rfl fun a hF => ?_
          refine g_skip hF rfl rfl rfl hb91 rfl rfl fun a hF => ?_
          refine g_skip hF rfl rfl rfl hb91 rfl rfl fun a hF => ?_
          refine g_skip hF rfl rfl rfl hb91 rfl rfl fun a hF => ?_
          refine g_skip hF rfl rfl rfl hb91 rfl rfl fun a hF => ?_
          refine s_val hF (r_pick0 hF rfl rfl hb91 rfl) rfl rfl rfl fun a hF => ?_
          refine s_val hF (r_move hF rfl rfl) rfl rfl rfl fun a hF => ?_
          refine g_skip hF rfl rfl rfl rfl rfl rfl fun a hF => ?_
          refine g_skip hF rfl rfl rfl rfl rfl rfl fun a hF => ?_
          refine g_skip hF rfl rfl rfl rfl rfl rfl fun a hF => ?_
          refine g_skip hF rfl rfl rfl rfl rfl rfl fun a hF => ?_
          refine g_skip hF rfl rfl rfl rfl rfl rfl fun a hF => ?_
          refine s_val hF (r_pick0 hF rfl rfl rfl rfl) rfl rfl rfl fun a hF => ?_
          refine s_val hF (r_move hF rfl rfl) rfl rfl rfl fun a hF => ?_
          refine g_skip hF rfl rfl rfl rfl rfl rfl fun a hF => ?_
          refine g_skip hF rfl rfl rfl rfl rfl rfl fun a hF => ?_
          refine g_skip hF rfl rfl rfl rfl rfl rfl fun a hF => ?_
          refine g_skip hF rfl rfl rfl rfl rfl rfl fun a hF => ?_
          refine g_skip hF rfl rfl rfl rfl rfl rfl fun a hF => ?_
          refine s_val hF (r_pick0 hF rfl rfl rfl rfl) rfl rfl rfl fun a hF => ?_
          refine s_val hF (r_move hF rfl rfl) rfl rfl rfl fun a hF => ?_
          refine g_skip hF rfl rfl rfl rfl rfl rfl fun a hF => ?_
          refine g_skip hF rfl rfl rfl rfl rfl rfl fun a hF => ?_
          refine g_skip hF rfl rfl rfl rfl rfl rfl fun a hF => ?_
          refine g_skip hF rfl rfl rfl rfl rfl rfl fun a hF => ?_
          refine g_skip hF rfl rfl rfl rfl rfl rfl fun a hF => ?_
          refine s_val hF (r_pick0 hF rfl rfl rfl rfl) rfl rfl rfl fun a hF => ?_
          refine s_val hF (r_assign hF rfl rfl) rfl rfl rfl fun a hF => ?_
          refine c_nil (n_then ?_)
          have hP := Option.some.inj hP
          subst hP
          exact ⟨false, rfl, hF.to ⟨rfl, trivial⟩, selM hM [] 2 rfl⟩
        have hP := Fx.cF hb88 hP
        refine g_skip hF rfl rfl rfl hb88 rfl rfl fun a hF => ?_
        refine g_skip hF rfl rfl rfl hb88 rfl rfl fun a hF => ?_
        refine g_skip hF rfl rfl rfl hb88 rfl rfl fun a hF => ?_
        refine g_skip hF rfl rfl rfl hb88 rfl rfl fun a hF => ?_
        refine g_skip hF rfl rfl rfl hb88 rfl rfl fun a hF => ?_
        refine s_val hF (r_pick0 hF rfl rfl hb88 rfl) rfl rfl rfl fun a hF => ?_
        refine s_val hF (r_move hF rfl rfl) rfl rfl rfl fun a hF => ?_
        refine g_skip hF rfl rfl rfl rfl rfl rfl fun a hF => ?_
        refine g_skip hF rfl rfl rfl rfl rfl rfl fun a hF => ?_
        refine g_skip hF rfl rfl rfl rfl rfl rfl fun a hF => ?_
        refine g_skip hF rfl rfl rfl rfl rfl rfl fun a hF => ?_
        refine g_skip hF rfl rfl rfl rfl rfl rfl fun a hF => ?_
        refine s_val hF (r_pick0 hF rfl rfl rfl rfl) rfl rfl rfl fun a hF => ?_
        refine s_val hF (r_move hF rfl rfl) rfl rfl rfl fun a hF => ?_
        refine g_skip hF rfl rfl rfl rfl rfl rfl fun a hF => ?_
        refine g_skip hF rfl rfl rfl rfl rfl rfl fun a hF => ?_
        refine g_skip hF rfl rfl rfl rfl rfl rfl fun a hF => ?_
        refine g_skip hF rfl rfl rfl rfl rfl rfl fun a hF => ?_
        refine g_skip hF rfl rfl rfl rfl rfl rfl fun a hF => ?_
        refine s_val hF (r_pick0 hF rfl rfl rfl rfl) rfl rfl rfl fun a hF => ?_
        refine s_val hF (r_move hF rfl rfl) rfl rfl rfl fun a hF => ?_
        refine g_skip hF rfl rfl rfl rfl rfl rfl fun a hF => ?_
        refine g_skip hF rfl rfl rfl rfl rfl rfl fun a hF => ?_
        refine g_skip hF rfl rfl rfl rfl rfl rfl fun a hF => ?_
        refine g_skip hF rfl rfl rfl rfl rfl rfl fun a hF => ?_
        refine g_skip hF rfl rfl rfl rfl rfl rfl fun a hF => ?_
        refine s_val hF (r_pick0 hF rfl rfl rfl rfl) rfl rfl rfl fun a hF => ?_
        refine s_val hF (r_move hF rfl rfl) rfl rfl rfl fun a hF => ?_
        refine g_skip hF rfl rfl rfl rfl rfl rfl fun a hF => ?_
        refine g_skip hF rfl rfl rfl rfl rfl rfl fun a hF => ?_
        refine g_skip hF rfl rfl rfl rfl rfl rfl fun a hF => ?_
        refine g_skip hF rfl rfl rfl rfl rfl rfl fun a hF => ?_
        refine g_skip hF rfl rfl rfl rfl rfl rfl fun a hF => ?_
        refine s_val hF (r_pick0 hF rfl rfl rfl rfl) rfl rfl rfl fun a hF => ?_
        refine s_val hF (r_assign hF rfl rfl) rfl rfl rfl fun a hF => ?_
        refine c_nil (n_then ?_)
        have hP := Option.some.inj hP
        subst hP
        exact ⟨false, rfl, hF.to ⟨rfl, trivial⟩, selM hM [] 2 rfl⟩
      have hP := Fx.cF hb85 hP
      refine g_skip hF rfl rfl rfl hb85 rfl rfl fun a hF => ?_
      refine g_skip hF rfl rfl rfl hb85 rfl rfl fun a hF => ?_
      refine g_skip hF rfl rfl rfl hb85 rfl rfl fun a hF => ?_
      refine g_skip hF rfl rfl rfl hb85 rfl rfl fun a hF => ?_
      refine g_skip hF rfl rfl rfl hb85 rfl rfl fun a hF => ?_
      refine s_val hF (r_pick0 hF rfl rfl hb85 rfl) rfl rfl rfl fun a hF => ?_
      refine s_val hF (r_move hF rfl rfl) rfl rfl rfl fun a hF => ?_
      refine g_skip hF rfl rfl rfl rfl rfl rfl fun a hF => ?_
      refine g_skip hF rfl rfl rfl rfl rfl rfl fun a hF => ?_
      refine g_skip hF rfl rfl rfl rfl rfl rfl fun a hF => ?_
      refine g_skip hF rfl rfl rfl rfl rfl rfl fun a hF => ?_
      refine g_skip hF rfl rfl rfl rfl rfl rfl fun a hF => ?_
      refine s_val hF (r_pick0 hF rfl rfl rfl rfl) rfl rfl rfl fun a hF => ?_
      refine s_val hF (r_move hF rfl rfl) rfl rfl rfl fun a hF => ?_
      refine g_skip hF rfl rfl rfl rfl rfl rfl fun a hF => ?_
      refine g_skip hF rfl rfl rfl rfl rfl rfl fun a hF => ?_
      refine g_skip hF rfl rfl rfl rfl rfl rfl fun a hF => ?_
      refine g_skip hF rfl rfl rfl rfl rfl rfl fun a hF => ?_
      refine g_skip hF rfl rfl rfl rfl rfl rfl fun a hF => ?_
      refine s_val hF (r_pick0 hF rfl rfl rfl rfl) rfl rfl rfl fun a hF => ?_
      refine s_val hF (r_move hF rfl rfl) rfl rfl rfl fun a hF => ?_
      refine g_skip hF rfl rfl rfl rfl rfl rfl fun a hF => ?_
      refine g_skip hF rfl rfl rfl rfl rfl rfl fun a hF => ?_
      refine g_skip hF rfl rfl rfl rfl rfl rfl fun a hF => ?_
      refine g_skip hF rfl rfl rfl rfl rfl rfl fun a hF => ?_
      refine g_skip hF rfl rfl rfl rfl rfl rfl fun a hF => ?_
      refine s_val hF (r_pick0 hF rfl rfl rfl rfl) rfl rfl rfl fun a hF => ?_
      refine s_val hF (r_move hF rfl rfl) rfl rfl rfl fun a hF => ?_
      refine g_skip hF rfl rfl rfl rfl rfl rfl fun a hF => ?_
      refine g_skip hF rfl rfl rfl rfl rfl rfl fun a hF => ?_
      refine g_skip hF rfl rfl rfl rfl rfl rfl fun a hF => ?_
      refine g_skip hF rfl rfl rfl rfl rfl rfl fun a hF => ?_
      refine g_skip hF rfl rfl rfl rfl rfl rfl fun a hF => ?_
      refine s_val hF (r_pick0 hF rfl rfl rfl rfl) rfl rfl rfl fun a hF => ?_
      refine s_val hF (r_move hF rfl rfl) rfl rfl rfl fun a hF => ?_
      refine g_skip hF rfl rfl rfl rfl rfl rfl fun a hF => ?_
      refine g_skip hF rfl rfl rfl rfl rfl rfl fun a hF => ?_
      refine g_skip hF rfl rfl rfl rfl rfl rfl fun a hF => ?_
      refine g_skip hF rfl rfl rfl rfl rfl rfl fun a hF => ?_
      refine g_skip hF rfl rfl rfl rfl rfl rfl fun a hF => ?_
      refine s_val hF (r_pick0 hF rfl rfl rfl rfl) rfl rfl rfl fun a hF => ?_
      refine s_val hF (r_assign hF rfl rfl) rfl rfl rfl fun a hF => ?_
      refine c_nil (n_then ?_)
      have hP := Option.some.inj hP
      subst hP
      exact ⟨false, rfl, hF.to ⟨rfl, trivial⟩, selM hM [] 2 rfl⟩
    have hP := Fx.cF hb84 hP
    refine g_skip hF rfl rfl rfl hb84 rfl rfl fun a hF => ?_
    refine g_skip hF rfl rfl rfl hb84 rfl rfl fun a hF => ?_
    refine g_skip hF rfl rfl rfl hb84 rfl rfl fun a hF => ?_
    refine g_skip hF rfl rfl rfl hb84 rfl rfl fun a hF => ?_
    refine g_skip hF rfl rfl rfl hb84 rfl rfl fun a hF => ?_
    refine s_val hF (r_pick0 hF rfl rfl hb84 rfl) rfl rfl rfl fun a hF => ?_
    refine s_val hF (r_move hF rfl rfl) rfl rfl rfl fun a hF => ?_
    refine g_skip hF rfl rfl rfl rfl rfl rfl fun a hF => ?_
    refine g_skip hF rfl rfl rfl rfl rfl rfl fun a hF => ?_
    refine g_skip hF rfl rfl rfl rfl rfl rfl fun a hF => ?_
    refine g_skip hF rfl rfl rfl rfl rfl rfl fun a hF => ?_
    refine g_skip hF rfl rfl rfl rfl rfl rfl fun a hF => ?_
    refine s_val hF (r_pick0 hF rfl rfl rfl rfl) rfl rfl rfl fun a hF => ?_
    refine s_val hF (r_move hF rfl rfl) rfl rfl rfl fun a hF => ?_
    refine g_skip hF rfl rfl rfl rfl rfl rfl fun a hF => ?_
    refine g_skip hF rfl rfl rfl rfl rfl rfl fun a hF => ?_
    refine g_skip hF rfl rfl rfl rfl rfl rfl fun a hF => ?_
    refine g_skip hF rfl rfl rfl rfl rfl rfl fun a hF => ?_
    refine g_skip hF rfl rfl rfl rfl rfl rfl fun a hF => ?_
    refine s_val hF (r_pick0 hF rfl rfl rfl rfl) rfl rfl rfl fun a hF => ?_
    refine s_val hF (r_move hF rfl rfl) rfl rfl rfl fun a hF => ?_
    refine g_skip hF rfl rfl rfl rfl rfl rfl fun a hF => ?_
    refine g_skip hF rfl rfl rfl rfl rfl rfl fun a hF => ?_
    refine g_skip hF rfl rfl rfl rfl rfl rfl fun a hF => ?_
    refine g_skip hF rfl rfl rfl rfl rfl rfl fun a hF => ?_
    refine g_skip hF rfl rfl rfl rfl rfl rfl fun a hF => ?_
    refine s_val hF (r_pick0 hF rfl rfl rfl rfl) rfl rfl rfl fun a hF => ?_
    refine s_val hF (r_move hF rfl rfl) rfl rfl rfl fun a hF => ?_
    refine g_skip hF rfl rfl rfl rfl rfl rfl fun a hF => ?_
    refine g_skip hF rfl rfl rfl rfl rfl rfl fun a hF => ?_
    refine g_skip hF rfl rfl rfl rfl rfl rfl fun a hF => ?_
    refine g_skip hF rfl rfl rfl rfl rfl rfl fun a hF => ?_
    refine g_skip hF rfl rfl rfl rfl rfl rfl fun a hF => ?_
    refine s_val hF (r_pick0 hF rfl rfl rfl rfl) rfl rfl rfl fun a hF => ?_
    refine s_val hF (r_move hF rfl rfl) rfl rfl rfl fun a hF => ?_
    refine g_skip hF rfl rfl rfl rfl rfl rfl fun a hF => ?_
    refine g_skip hF rfl rfl rfl rfl rfl rfl fun a hF => ?_
    refine g_skip hF rfl rfl rfl rfl rfl rfl fun a hF => ?_
    refine g_skip hF rfl rfl rfl rfl rfl rfl fun a hF => ?_
    refine g_skip hF rfl rfl rfl rfl rfl rfl fun a hF => ?_
    refine s_val hF (r_pick0 hF rfl rfl rfl rfl) rfl rfl rfl fun a hF => ?_
    refine s_val hF (r_move hF rfl rfl) rfl rfl rfl fun a hF => ?_
    refine g_skip hF rfl rfl rfl rfl rfl rfl fun a hF => ?_
    refine g_skip hF rfl rfl rfl rfl rfl rfl fun a hF => ?_
    refine g_skip hF rfl rfl rfl rfl rfl rfl fun a hF => ?_
    refine g_skip hF rfl rfl rfl rfl rfl rfl fun a hF => ?_
    refine g_skip hF rfl rfl rfl rfl rfl rfl fun a hF => ?_
    refine s_val hF (r_pick0 hF rfl rfl rfl rfl) rfl rfl rfl fun a hF => ?_
    refine s_val hF (r_assign hF rfl rfl) rfl rfl rfl fun a hF => ?_
    refine c_nil (n_then ?_)
    have hP := Option.some.inj hP
    subst hP
    exact ⟨false, rfl, hF.to ⟨rfl, trivial⟩, selM hM [] 2 rfl⟩
  rintro v83 a w hP ⟨hF, hM⟩
  replace hP : Sh.law00_SameState_j1 v83 = _ := hP
  unfold Sh.law00_SameState_j1 at hP
  refine n_then ?_
  refine c_ret ?_
  have hP := Option.some.inj hP
  subst hP
  refine e_ret1 Tryz.results34 hF rfl ?_
  exact ⟨rfl, hM⟩
set_option maxHeartbeats 4000000 in
theorem law23_sameMark_calls {x0 : QMark} {x1 : QMark} {s1 : SV} {s3 : SV} {s5 : SV} {hs6 : List RPiece} {s9 : SV} {s11 : SV} {s13 : SV} {s15 : SV} {hs16 : List RPiece} {s19 : SV} {out : Bool} {w0 : World} {Bf : World → Prop} {Lr : List Res} (hP : Sh.law23_sameMark x0 x1 = some out) (hM : MemL w0 (Lr)) (hsub : ∀ w, MemL w Lr → Bf w) (f2 : LIn Bf s1 x0.regs) (f4 : LIn Bf s3 x0.slots) (f7 : LIn Bf s5 hs6) (q8 : Each (QPieceIn Bf) hs6 x0.pieces) (f10 : LIn Bf s9 x0.sent) (f12 : LIn Bf s11 x1.regs) (f14 : LIn Bf s13 x1.slots) (f17 : LIn Bf s15 hs16) (q18 : Each (QPieceIn Bf) hs16 x1.pieces) (f20 : LIn Bf s19 x1.sent) : Calls Tryz.prog 33 #[.agg (RMark.enc (RMark.mk x0.at_ x0.next x0.done s1 s3 s5 s9)).toArray, .agg (RMark.enc (RMark.mk x1.at_ x1.next x1.done s11 s13 s15 s19)).toArray] w0 (Ret fun v w' => v = .bool out ∧ MemL w' (Lr)) := by
  unfold Sh.law23_sameMark at hP
  refine calls_enter (vs := [.agg (RMark.enc (RMark.mk x0.at_ x0.next x0.done s1 s3 s5 s9)).toArray, .agg (RMark.enc (RMark.mk x1.at_ x1.next x1.done s11 s13 s15 s19)).toArray]) Tryz.func33 rfl Tryz.ntmps33 rfl fun a hF => ?_
  refine c_seq ?_
  refine c_region ?_
  refine s_eff hF rfl rfl rfl (w_box hF rfl rfl rfl fun b_B33_2 w hzB33_2 hAB33_2 => ?_)
  have hM := hM.plus hAB33_2
  replace hM : MemL _ (pt b_B33_2 (RMark.enc (RMark.mk x0.at_ x0.next x0.done s1 s3 s5 s9)) 60 :: Lr) := hM
  intro a hF
  refine s_eff hF rfl rfl rfl (w_box hF rfl rfl rfl fun b_B33_3 w hzB33_3 hAB33_3 => ?_)
  have hM := hM.plus hAB33_3
  replace hM : MemL _ (pt b_B33_3 (RMark.enc (RMark.mk x1.at_ x1.next x1.done s11 s13 s15 s19)) 60 :: pt b_B33_2 (RMark.enc (RMark.mk x0.at_ x0.next x0.done s1 s3 s5 s9)) 60 :: Lr) := hM
  intro a hF
  refine s_val hF (r_assign hF rfl rfl) rfl rfl rfl fun a hF => ?_
  refine c_nil (n_then ?_)
  refine c_seq ?_
  refine c_seq ?_
  refine c_joinX hF hM hP (fun F x a w => match x with | v997 => Fr 145 [(63, .bool v997), (2, .pointer (some ⟨b_B33_2, 0, none⟩)), (3, .pointer (some ⟨b_B33_3, 0, none⟩)), (4, .bool false)] a ∧ MemL w (pt b_B33_3 (RMark.enc (RMark.mk x1.at_ x1.next x1.done s11 s13 s15 s19)) 60 :: pt b_B33_2 (RMark.enc (RMark.mk x0.at_ x0.next x0.done s1 s3 s5 s9)) 60 :: Lr)) (fun o_j1 hP hK_j1 hF hM => ?_) ?_
  · refine c_region ?_
    refine s_val hF (r_fieldAddr (off' := 0) Tryz.underlying60 rfl in3 rfl hF rfl rfl rfl) rfl rfl rfl fun a hF => ?_
    refine s_val hF (r_load1 Tryz.isAgg3 hF rfl rfl (hM.cell (i := 1) rfl (RMark.g_at_ _))) rfl rfl rfl fun a hF => ?_
    refine s_val hF (r_fieldAddr (off' := 0) Tryz.underlying60 rfl in3 rfl hF rfl rfl rfl) rfl rfl rfl fun a hF => ?_
    refine s_val hF (r_load1 Tryz.isAgg3 hF rfl rfl (hM.cell (i := 0) rfl (RMark.g_at_ _))) rfl rfl rfl fun a hF => ?_
    refine s_val hF (r_neq hF rfl rfl rfl) rfl rfl rfl fun a hF => ?_
    refine s_val hF (r_move hF rfl rfl) rfl rfl rfl fun a hF => ?_
    refine g_split 15 hF rfl (fun hb998 => ?_) (fun hb998 => ?_)
    · have hP := Fx.cT hb998 hP
      refine g_skip hF rfl rfl rfl hb998 rfl rfl fun a hF => ?_
      refine g_skip hF rfl rfl rfl hb998 rfl rfl fun a hF => ?_
      refine g_skip hF rfl rfl rfl hb998 rfl rfl fun a hF => ?_
      refine g_skip hF rfl rfl rfl hb998 rfl rfl fun a hF => ?_
      refine g_skip hF rfl rfl rfl hb998 rfl rfl fun a hF => ?_
      refine s_val hF (r_pick1 hF rfl rfl hb998 rfl) rfl rfl rfl fun a hF => ?_
      refine s_val hF (r_move hF rfl rfl) rfl rfl rfl fun a hF => ?_
      refine g_skip hF rfl rfl rfl rfl rfl rfl fun a hF => ?_
      refine g_skip hF rfl rfl rfl rfl rfl rfl fun a hF => ?_
      refine g_skip hF rfl rfl rfl rfl rfl rfl fun a hF => ?_
      refine g_skip hF rfl rfl rfl rfl rfl rfl fun a hF => ?_
      refine g_skip hF rfl rfl rfl rfl rfl rfl fun a hF => ?_
      refine s_val hF (r_pick1 hF rfl rfl rfl rfl) rfl rfl rfl fun a hF => ?_
      refine s_val hF (r_move hF rfl rfl) rfl rfl rfl fun a hF => ?_
      refine g_skip hF rfl rfl rfl rfl rfl rfl fun a hF => ?_
      refine g_skip hF rfl rfl rfl rfl rfl rfl fun a hF => ?_
      refine g_skip hF rfl rfl rfl rfl rfl rfl fun a hF => ?_
      refine g_skip hF rfl rfl rfl rfl rfl rfl fun a hF => ?_
      refine g_skip hF rfl rfl rfl rfl rfl rfl fun a hF => ?_
      refine g_skip hF rfl rfl rfl rfl rfl rfl fun a hF => ?_
      refine g_skip hF rfl rfl rfl rfl rfl rfl fun a hF => ?_
      refine s_val hF (r_pick1 hF rfl rfl rfl rfl) rfl rfl rfl fun a hF => ?_
      refine s_val hF (r_move hF rfl rfl) rfl rfl rfl fun a hF => ?_
      refine g_skip hF rfl rfl rfl rfl rfl rfl fun a hF => ?_
      refine g_skip hF rfl rfl rfl rfl rfl rfl fun a hF => ?_
      refine g_skip hF rfl rfl rfl rfl rfl rfl fun a hF => ?_
      refine g_skip hF rfl rfl rfl rfl rfl rfl fun a hF => ?_
      refine g_skip hF rfl rfl rfl rfl rfl rfl fun a hF => ?_
      refine g_skip hF rfl rfl rfl rfl rfl rfl fun a hF => ?_
      refine g_skip hF rfl rfl rfl rfl rfl rfl fun a hF => ?_
      refine s_val hF (r_pick1 hF rfl rfl rfl rfl) rfl rfl rfl fun a hF => ?_
      refine s_val hF (r_move hF rfl rfl) rfl rfl rfl fun a hF => ?_
      refine g_skip hF rfl rfl rfl rfl rfl rfl fun a hF => ?_
      refine g_skip hF rfl rfl rfl rfl rfl rfl fun a hF => ?_
      refine g_skip hF rfl rfl rfl rfl rfl rfl fun a hF => ?_
      refine g_skip hF rfl rfl rfl rfl rfl rfl fun a hF => ?_
      refine g_skip hF rfl rfl rfl rfl rfl rfl fun a hF => ?_
      refine g_skip hF rfl rfl rfl rfl rfl rfl fun a hF => ?_
      refine g_skip hF rfl rfl rfl rfl rfl rfl fun a hF => ?_
      refine s_val hF (r_pick1 hF rfl rfl rfl rfl) rfl rfl rfl fun a hF => ?_
      refine s_val hF (r_move hF rfl rfl) rfl rfl rfl fun a hF => ?_
      refine g_skip hF rfl rfl rfl rfl rfl rfl fun a hF => ?_
      refine g_skip hF rfl rfl rfl rfl rfl rfl fun a hF => ?_
      refine g_skip hF rfl rfl rfl rfl rfl rfl fun a hF => ?_
      refine g_skip hF rfl rfl rfl rfl rfl rfl fun a hF => ?_
      refine g_skip hF rfl rfl rfl rfl rfl rfl fun a hF => ?_
      refine g_skip hF rfl rfl rfl rfl rfl rfl fun a hF => ?_
      refine s_val hF (r_pick1 hF rfl rfl rfl rfl) rfl rfl rfl fun a hF => ?_
      refine c_nil (n_then ?_)
      have hP := Option.some.inj hP
      subst hP
      exact ⟨true, rfl, hF.to ⟨rfl, rfl, rfl, rfl, trivial⟩, hM⟩
    have hP := Fx.cF hb998 hP
    refine g_val hF rfl rfl rfl hb998 (r_fieldAddr (off' := 1) Tryz.underlying60 rfl in3 rfl hF rfl rfl rfl) rfl rfl fun a hF => ?_
    refine g_val hF rfl rfl rfl hb998 (r_load1 Tryz.isAgg3 hF rfl rfl (hM.cell (i := 1) rfl (RMark.g_next _))) rfl rfl fun a hF => ?_
    refine g_val hF rfl rfl rfl hb998 (r_fieldAddr (off' := 1) Tryz.underlying60 rfl in3 rfl hF rfl rfl rfl) rfl rfl fun a hF => ?_
    refine g_val hF rfl rfl rfl hb998 (r_load1 Tryz.isAgg3 hF rfl rfl (hM.cell (i := 0) rfl (RMark.g_next _))) rfl rfl fun a hF => ?_
    refine g_val hF rfl rfl rfl hb998 (r_neq hF rfl rfl rfl) rfl rfl fun a hF => ?_
    refine s_val hF (r_pick0 hF rfl rfl hb998 rfl) rfl rfl rfl fun a hF => ?_
    refine s_val hF (r_move hF rfl rfl) rfl rfl rfl fun a hF => ?_
    refine g_split 22 hF rfl (fun hb999 => ?_) (fun hb999 => ?_)
    · have hP := Fx.cT hb999 hP
      refine g_skip hF rfl rfl rfl hb999 rfl rfl fun a hF => ?_
      refine g_skip hF rfl rfl rfl hb999 rfl rfl fun a hF => ?_
      refine g_skip hF rfl rfl rfl hb999 rfl rfl fun a hF => ?_
      refine g_skip hF rfl rfl rfl hb999 rfl rfl fun a hF => ?_
      refine g_skip hF rfl rfl rfl hb999 rfl rfl fun a hF => ?_
      refine s_val hF (r_pick1 hF rfl rfl hb999 rfl) rfl rfl rfl fun a hF => ?_
      refine s_val hF (r_move hF rfl rfl) rfl rfl rfl fun a hF => ?_
      refine g_skip hF rfl rfl rfl rfl rfl rfl fun a hF => ?_
      refine g_skip hF rfl rfl rfl rfl rfl rfl fun a hF => ?_
      refine g_skip hF rfl rfl rfl rfl rfl rfl fun a hF => ?_
      refine g_skip hF rfl rfl rfl rfl rfl rfl fun a hF => ?_
      refine g_skip hF rfl rfl rfl rfl rfl rfl fun a hF => ?_
      refine g_skip hF rfl rfl rfl rfl rfl rfl fun a hF => ?_
      refine g_skip hF rfl rfl rfl rfl rfl rfl fun a hF => ?_
      refine s_val hF (r_pick1 hF rfl rfl rfl rfl) rfl rfl rfl fun a hF => ?_
      refine s_val hF (r_move hF rfl rfl) rfl rfl rfl fun a hF => ?_
      refine g_skip hF rfl rfl rfl rfl rfl rfl fun a hF => ?_
      refine g_skip hF rfl rfl rfl rfl rfl rfl fun a hF => ?_
      refine g_skip hF rfl rfl rfl rfl rfl rfl fun a hF => ?_
      refine g_skip hF rfl rfl rfl rfl rfl rfl fun a hF => ?_
      refine g_skip hF rfl rfl rfl rfl rfl rfl fun a hF => ?_
      refine g_skip hF rfl rfl rfl rfl rfl rfl fun a hF => ?_
      refine g_skip hF rfl rfl rfl rfl rfl rfl fun a hF => ?_
      refine s_val hF (r_pick1 hF rfl rfl rfl rfl) rfl rfl rfl fun a hF => ?_
      refine s_val hF (r_move hF rfl rfl) rfl rfl rfl fun a hF => ?_
      refine g_skip hF rfl rfl rfl rfl rfl rfl fun a hF => ?_
      refine g_skip hF rfl rfl rfl rfl rfl rfl fun a hF => ?_
      refine g_skip hF rfl rfl rfl rfl rfl rfl fun a hF => ?_
      refine g_skip hF rfl rfl rfl rfl rfl rfl fun a hF => ?_
      refine g_skip hF rfl rfl rfl rfl rfl rfl fun a hF => ?_
      refine g_skip hF rfl rfl rfl rfl rfl rfl fun a hF => ?_
      refine g_skip hF rfl rfl rfl rfl rfl rfl fun a hF => ?_
      refine s_val hF (r_pick1 hF rfl rfl rfl rfl) rfl rfl rfl fun a hF => ?_
      refine s_val hF (r_move hF rfl rfl) rfl rfl rfl fun a hF => ?_
      refine g_skip hF rfl rfl rfl rfl rfl rfl fun a hF => ?_
      refine g_skip hF rfl rfl rfl rfl rfl rfl fun a hF => ?_
      refine g_skip hF rfl rfl rfl rfl rfl rfl fun a hF => ?_
      refine g_skip hF rfl rfl rfl rfl rfl rfl fun a hF => ?_
      refine g_skip hF rfl rfl rfl rfl rfl rfl fun a hF => ?_
      refine g_skip hF rfl rfl rfl rfl rfl rfl fun a hF => ?_
      refine s_val hF (r_pick1 hF rfl rfl rfl rfl) rfl rfl rfl fun a hF => ?_
      refine c_nil (n_then ?_)
      have hP := Option.some.inj hP
      subst hP
      exact ⟨true, rfl, hF.to ⟨rfl, rfl, rfl, rfl, trivial⟩, hM⟩
    have hP := Fx.cF hb999 hP
    refine g_val hF rfl rfl rfl hb999 (r_fieldAddr (off' := 2) Tryz.underlying60 rfl in4 rfl hF rfl rfl rfl) rfl rfl fun a hF => ?_
    refine g_val hF rfl rfl rfl hb999 (r_load1 Tryz.isAgg4 hF rfl rfl (hM.cell (i := 1) rfl (RMark.g_done _))) rfl rfl fun a hF => ?_
    refine g_val hF rfl rfl rfl hb999 (r_fieldAddr (off' := 2) Tryz.underlying60 rfl in4 rfl hF rfl rfl rfl) rfl rfl fun a hF => ?_
    refine g_val hF rfl rfl rfl hb999 (r_load1 Tryz.isAgg4 hF rfl rfl (hM.cell (i := 0) rfl (RMark.g_done _))) rfl rfl fun a hF => ?_
    refine g_val hF rfl rfl rfl hb999 (r_neqB Tryz.underlying4 hF rfl rfl rfl) rfl rfl fun a hF => ?_
    refine s_val hF (r_pick0 hF rfl rfl hb999 rfl) rfl rfl rfl fun a hF => ?_
    refine s_val hF (r_move hF rfl rfl) rfl rfl rfl fun a hF => ?_
    refine g_split 29 hF rfl (fun hb1000 => ?_) (fun hb1000 => ?_)
    · have hP := Fx.cT hb1000 hP
      refine g_skip hF rfl rfl rfl hb1000 rfl rfl fun a hF => ?_
      refine g_skip hF rfl rfl rfl hb1000 rfl rfl fun a hF => ?_
      refine g_skip hF rfl rfl rfl hb1000 rfl rfl fun a hF => ?_
      refine g_skip hF rfl rfl rfl hb1000 rfl rfl fun a hF => ?_
      refine g_skip hF rfl rfl rfl hb1000 rfl rfl fun a hF => ?_
      refine g_skip hF rfl rfl rfl hb1000 rfl rfl fun a hF => ?_
      refine g_skip hF rfl rfl rfl hb1000 rfl rfl fun a hF => ?_
      refine s_val hF (r_pick1 hF rfl rfl hb1000 rfl) rfl rfl rfl fun a hF => ?_
      refine s_val hF (r_move hF rfl rfl) rfl rfl rfl fun a hF => ?_
      refine g_skip hF rfl rfl rfl rfl rfl rfl fun a hF => ?_
      refine g_skip hF rfl rfl rfl rfl rfl rfl fun a hF => ?_
      refine g_skip hF rfl rfl rfl rfl rfl rfl fun a hF => ?_
      refine g_skip hF rfl rfl rfl rfl rfl rfl fun a hF => ?_
      refine g_skip hF rfl rfl rfl rfl rfl rfl fun a hF => ?_
      refine g_skip hF rfl rfl rfl rfl rfl rfl fun a hF => ?_
      refine g_skip hF rfl rfl rfl rfl rfl rfl fun a hF => ?_
      refine s_val hF (r_pick1 hF rfl rfl rfl rfl) rfl rfl rfl fun a hF => ?_
      refine s_val hF (r_move hF rfl rfl) rfl rfl rfl fun a hF => ?_
      refine g_skip hF rfl rfl rfl rfl rfl rfl fun a hF => ?_
      refine g_skip hF rfl rfl rfl rfl rfl rfl fun a hF => ?_
      refine g_skip hF rfl rfl rfl rfl rfl rfl fun a hF => ?_
      refine g_skip hF rfl rfl rfl rfl rfl rfl fun a hF => ?_
      refine g_skip hF rfl rfl rfl rfl rfl rfl fun a hF => ?_
      refine g_skip hF rfl rfl rfl rfl rfl rfl fun a hF => ?_
      refine g_skip hF rfl rfl rfl rfl rfl rfl fun a hF => ?_
      refine s_val hF (r_pick1 hF rfl rfl rfl rfl) rfl rfl rfl fun a hF => ?_
      refine s_val hF (r_move hF rfl rfl) rfl rfl rfl fun a hF => ?_
      refine g_skip hF rfl rfl rfl rfl rfl rfl fun a hF => ?_
      refine g_skip hF rfl rfl rfl rfl rfl rfl fun a hF => ?_
      refine g_skip hF rfl rfl rfl rfl rfl rfl fun a hF => ?_
      refine g_skip hF rfl rfl rfl rfl rfl rfl fun a hF => ?_
      refine g_skip hF rfl rfl rfl rfl rfl rfl fun a hF => ?_
      refine g_skip hF rfl rfl rfl rfl rfl rfl fun a hF => ?_
      refine s_val hF (r_pick1 hF rfl rfl rfl rfl) rfl rfl rfl fun a hF => ?_
      refine c_nil (n_then ?_)
      have hP := Option.some.inj hP
      subst hP
      exact ⟨true, rfl, hF.to ⟨rfl, rfl, rfl, rfl, trivial⟩, hM⟩
    have hP := Fx.cF hb1000 hP
    refine g_val hF rfl rfl rfl hb1000 (r_fieldAddr (off' := 3) Tryz.underlying60 rfl in56 rfl hF rfl rfl rfl) rfl rfl fun a hF => ?_
    refine g_val hF rfl rfl rfl hb1000 (r_load1 Tryz.isAgg56 hF rfl rfl (hM.cell (i := 1) rfl (RMark.g_regs _))) rfl rfl fun a hF => ?_
    refine g_val hF rfl rfl rfl hb1000 (r_lenL (f2 _ (hsub _ (dropM hM 2))) Tryz.underlying56 hF rfl rfl) rfl rfl fun a hF => ?_
    refine g_val hF rfl rfl rfl hb1000 (r_fieldAddr (off' := 3) Tryz.underlying60 rfl in56 rfl hF rfl rfl rfl) rfl rfl fun a hF => ?_
    refine g_val hF rfl rfl rfl hb1000 (r_load1 Tryz.isAgg56 hF rfl rfl (hM.cell (i := 0) rfl (RMark.g_regs _))) rfl rfl fun a hF => ?_
    refine g_val hF rfl rfl rfl hb1000 (r_lenL (f12 _ (hsub _ (dropM hM 2))) Tryz.underlying56 hF rfl rfl) rfl rfl fun a hF => ?_
    refine g_val hF rfl rfl rfl hb1000 (r_neq hF rfl rfl rfl) rfl rfl fun a hF => ?_
    refine s_val hF (r_pick0 hF rfl rfl hb1000 rfl) rfl rfl rfl fun a hF => ?_
    refine s_val hF (r_move hF rfl rfl) rfl rfl rfl fun a hF => ?_
    refine g_split 38 hF rfl (fun hb1001 => ?_) (fun hb1001 => ?_)
    · have hP := Fx.cT hb1001 hP
      refine g_skip hF rfl rfl rfl hb1001 rfl rfl fun a hF => ?_
      refine g_skip hF rfl rfl rfl hb1001 rfl rfl fun a hF => ?_
      refine g_skip hF rfl rfl rfl hb1001 rfl rfl fun a hF => ?_
      refine g_skip hF rfl rfl rfl hb1001 rfl rfl fun a hF => ?_
      refine g_skip hF rfl rfl rfl hb1001 rfl rfl fun a hF => ?_
      refine g_skip hF rfl rfl rfl hb1001 rfl rfl fun a hF => ?_
      refine g_skip hF rfl rfl rfl hb1001 rfl rfl fun a hF => ?_
      refine s_val hF (r_pick1 hF rfl rfl hb1001 rfl) rfl rfl rfl fun a hF => ?_
      refine s_val hF (r_move hF rfl rfl) rfl rfl rfl fun a hF => ?_
      refine g_skip hF rfl rfl rfl rfl rfl rfl fun a hF => ?_
      refine g_skip hF rfl rfl rfl rfl rfl rfl fun a hF => ?_
      refine g_skip hF rfl rfl rfl rfl rfl rfl fun a hF => ?_
      refine g_skip hF rfl rfl rfl rfl rfl rfl fun a hF => ?_
      refine g_skip hF rfl rfl rfl rfl rfl rfl fun a hF => ?_
      refine g_skip hF rfl rfl rfl rfl rfl rfl fun a hF => ?_
      refine g_skip hF rfl rfl rfl rfl rfl rfl fun a hF => ?_
      refine s_val hF (r_pick1 hF rfl rfl rfl rfl) rfl rfl rfl fun a hF => ?_
      refine s_val hF (r_move hF rfl rfl) rfl rfl rfl fun a hF => ?_
      refine g_skip hF rfl rfl rfl rfl rfl rfl fun a hF => ?_
      refine g_skip hF rfl rfl rfl rfl rfl rfl fun a hF => ?_
      refine g_skip hF rfl rfl rfl rfl rfl rfl fun a hF => ?_
      refine g_skip hF rfl rfl rfl rfl rfl rfl fun a hF => ?_
      refine g_skip hF rfl rfl rfl rfl rfl rfl fun a hF => ?_
      refine g_skip hF rfl rfl rfl rfl rfl rfl fun a hF => ?_
      refine s_val hF (r_pick1 hF rfl rfl rfl rfl) rfl rfl rfl fun a hF => ?_
      refine c_nil (n_then ?_)
      have hP := Option.some.inj hP
      subst hP
      exact ⟨true, rfl, hF.to ⟨rfl, rfl, rfl, rfl, trivial⟩, hM⟩
    have hP := Fx.cF hb1001 hP
    refine g_val hF rfl rfl rfl hb1001 (r_fieldAddr (off' := 4) Tryz.underlying60 rfl in57 rfl hF rfl rfl rfl) rfl rfl fun a hF => ?_
    refine g_val hF rfl rfl rfl hb1001 (r_load1 Tryz.isAgg57 hF rfl rfl (hM.cell (i := 1) rfl (RMark.g_slots _))) rfl rfl fun a hF => ?_
    refine g_val hF rfl rfl rfl hb1001 (r_lenL (f4 _ (hsub _ (dropM hM 2))) Tryz.underlying57 hF rfl rfl) rfl rfl fun a hF => ?_
    refine g_val hF rfl rfl rfl hb1001 (r_fieldAddr (off' := 4) Tryz.underlying60 rfl in57 rfl hF rfl rfl rfl) rfl rfl fun a hF => ?_
    refine g_val hF rfl rfl rfl hb1001 (r_load1 Tryz.isAgg57 hF rfl rfl (hM.cell (i := 0) rfl (RMark.g_slots _))) rfl rfl fun a hF => ?_
    refine g_val hF rfl rfl rfl hb1001 (r_lenL (f14 _ (hsub _ (dropM hM 2))) Tryz.underlying57 hF rfl rfl) rfl rfl fun a hF => ?_
    refine g_val hF rfl rfl rfl hb1001 (r_neq hF rfl rfl rfl) rfl rfl fun a hF => ?_
    refine s_val hF (r_pick0 hF rfl rfl hb1001 rfl) rfl rfl rfl fun a hF => ?_
    refine s_val hF (r_move hF rfl rfl) rfl rfl rfl fun a hF => ?_
    refine g_split 47 hF rfl (fun hb1002 => ?_) (fun hb1002 => ?_)
    · have hP := Fx.cT hb1002 hP
      refine g_skip hF rfl rfl rfl hb1002 rfl rfl fun a hF => ?_
      refine g_skip hF rfl rfl rfl hb1002 rfl rfl fun a hF => ?_
      refine g_skip hF rfl rfl rfl hb1002 rfl rfl fun a hF => ?_
      refine g_skip hF rfl rfl rfl hb1002 rfl rfl fun a hF => ?_
      refine g_skip hF rfl rfl rfl hb1002 rfl rfl fun a hF => ?_
      refine g_skip hF rfl rfl rfl hb1002 rfl rfl fun a hF => ?_
      refine g_skip hF rfl rfl rfl hb1002 rfl rfl fun a hF => ?_
      refine s_val hF (r_pick1 hF rfl rfl hb1002 rfl) rfl rfl rfl fun a hF => ?_
      refine s_val hF (r_move hF rfl rfl) rfl rfl rfl fun a hF => ?_
      refine g_skip hF rfl rfl rfl rfl rfl rfl fun a hF => ?_
      refine g_skip hF rfl rfl rfl rfl rfl rfl fun a hF => ?_
      refine g_skip hF rfl rfl rfl rfl rfl rfl fun a hF => ?_
      refine g_skip hF rfl rfl rfl rfl rfl rfl fun a hF => ?_
      refine g_skip hF rfl rfl rfl rfl rfl rfl fun a hF => ?_
      refine g_skip hF rfl rfl rfl rfl rfl rfl fun a hF => ?_
      refine s_val hF (r_pick1 hF rfl rfl rfl rfl) rfl rfl rfl fun a hF => ?_
      refine c_nil (n_then ?_)
      have hP := Option.some.inj hP
      subst hP
      exact ⟨true, rfl, hF.to ⟨rfl, rfl, rfl, rfl, trivial⟩, hM⟩
    have hP := Fx.cF hb1002 hP
    refine g_val hF rfl rfl rfl hb1002 (r_fieldAddr (off' := 5) Tryz.underlying60 rfl in58 rfl hF rfl rfl rfl) rfl rfl fun a hF => ?_
    refine g_val hF rfl rfl rfl hb1002 (r_load1 Tryz.isAgg58 hF rfl rfl (hM.cell (i := 1) rfl (RMark.g_pieces _))) rfl rfl fun a hF => ?_
    refine g_val hF rfl rfl rfl hb1002 (r_lenD (f7 _ (hsub _ (dropM hM 2))) q8.len Tryz.underlying58 hF rfl rfl) rfl rfl fun a hF => ?_
    refine g_val hF rfl rfl rfl hb1002 (r_fieldAddr (off' := 5) Tryz.underlying60 rfl in58 rfl hF rfl rfl rfl) rfl rfl fun a hF => ?_
    refine g_val hF rfl rfl rfl hb1002 (r_load1 Tryz.isAgg58 hF rfl rfl (hM.cell (i := 0) rfl (RMark.g_pieces _))) rfl rfl fun a hF => ?_
    refine g_val hF rfl rfl rfl hb1002 (r_lenD (f17 _ (hsub _ (dropM hM 2))) q18.len Tryz.underlying58 hF rfl rfl) rfl rfl fun a hF => ?_
    refine g_val hF rfl rfl rfl hb1002 (r_neq hF rfl rfl rfl) rfl rfl fun a hF => ?_
    refine s_val hF (r_pick0 hF rfl rfl hb1002 rfl) rfl rfl rfl fun a hF => ?_
    refine s_val hF (r_move hF rfl rfl) rfl rfl rfl fun a hF => ?_
    refine g_split 56 hF rfl (fun hb1003 => ?_) (fun hb1003 => ?_)
    · have hP := Fx.cT hb1003 hP
      refine g_skip hF rfl rfl rfl hb1003 rfl rfl fun a hF => ?_
      refine g_skip hF rfl rfl rfl hb1003 rfl rfl fun a hF => ?_
      refine g_skip hF rfl rfl rfl hb1003 rfl rfl fun a hF => ?_
      refine g_skip hF rfl rfl rfl hb1003 rfl rfl fun a hF => ?_
      refine g_skip hF rfl rfl rfl hb1003 rfl rfl fun a hF => ?_
      refine g_skip hF rfl rfl rfl hb1003 rfl rfl fun a hF => ?_
      refine s_val hF (r_pick1 hF rfl rfl hb1003 rfl) rfl rfl rfl fun a hF => ?_
      refine c_nil (n_then ?_)
      have hP := Option.some.inj hP
      subst hP
      exact ⟨true, rfl, hF.to ⟨rfl, rfl, rfl, rfl, trivial⟩, hM⟩
    have hP := Fx.cF hb1003 hP
    refine g_val hF rfl rfl rfl hb1003 (r_fieldAddr (off' := 6) Tryz.underlying60 rfl in52 rfl hF rfl rfl rfl) rfl rfl fun a hF => ?_
    refine g_val hF rfl rfl rfl hb1003 (r_load1 Tryz.isAgg52 hF rfl rfl (hM.cell (i := 1) rfl (RMark.g_sent _))) rfl rfl fun a hF => ?_
    refine g_val hF rfl rfl rfl hb1003 (r_fieldAddr (off' := 6) Tryz.underlying60 rfl in52 rfl hF rfl rfl rfl) rfl rfl fun a hF => ?_
    refine g_val hF rfl rfl rfl hb1003 (r_load1 Tryz.isAgg52 hF rfl rfl (hM.cell (i := 0) rfl (RMark.g_sent _))) rfl rfl fun a hF => ?_
    obtain ⟨y1005, hy1005, hP⟩ := bind_some hP
    refine g_eff hF rfl rfl rfl hb1003 rfl rfl (w_call (xs := [.tmp 58, .tmp 60]) Tryz.call89 hF rfl rfl (law00_SameInts_calls hy1005 hM (Bf := Bf) (fun w hM => hsub _ (dropM hM 2)) f10 f20) fun v w hR => ?_)
    obtain ⟨rfl, hM⟩ := hR
    replace hM : MemL _ (pt b_B33_3 (RMark.enc (RMark.mk x1.at_ x1.next x1.done s11 s13 s15 s19)) 60 :: pt b_B33_2 (RMark.enc (RMark.mk x0.at_ x0.next x0.done s1 s3 s5 s9)) 60 :: Lr) := hM
    intro a hF
    refine g_val hF rfl rfl rfl hb1003 (r_not hF rfl rfl) rfl rfl fun a hF => ?_
    refine s_val hF (r_pick0 hF rfl rfl hb1003 rfl) rfl rfl rfl fun a hF => ?_
    refine c_nil (n_then ?_)
    have hP := Option.some.inj hP
    subst hP
    exact ⟨(!y1005), rfl, hF.to ⟨rfl, rfl, rfl, rfl, trivial⟩, hM⟩
  rintro v997 a w hP ⟨hF, hM⟩
  replace hP : Sh.law23_sameMark_j1 x0 x1 v997 = _ := hP
  unfold Sh.law23_sameMark_j1 at hP
  refine n_then ?_
  refine c_cond hF (c := .tmp 63) rfl (fun hb1006 => ?_) (fun hb1006 => ?_)
  · have hP := Fx.cT hb1006 hP
    refine c_seq ?_
    refine c_region ?_
    refine s_val hF (r_assign hF rfl rfl) rfl rfl rfl fun a hF => ?_
    refine c_nil (n_then ?_)
    refine c_ret ?_
    have hP := Option.some.inj hP
    subst hP
    refine e_ret1 Tryz.results33 hF rfl ?_
    exact ⟨rfl, selM hM [] 2 rfl⟩
  have hP := Fx.cF hb1006 hP
  refine c_skip (n_then ?_)
  refine c_seq ?_
  refine c_joinX hF hM hP (fun F x a w => match x with | _ => Fr 145 [(2, .pointer (some ⟨b_B33_2, 0, none⟩)), (3, .pointer (some ⟨b_B33_3, 0, none⟩)), (4, .bool false)] a ∧ MemL w (pt b_B33_3 (RMark.enc (RMark.mk x1.at_ x1.next x1.done s11 s13 s15 s19)) 60 :: pt b_B33_2 (RMark.enc (RMark.mk x0.at_ x0.next x0.done s1 s3 s5 s9)) 60 :: Lr)) (fun o_j2 hP hK_j2 hF hM => ?_) ?_
  · refine c_seq ?_
    refine c_region ?_
    refine s_val hF (r_assign hF rfl rfl) rfl rfl rfl fun a hF => ?_
    refine c_nil (n_then ?_)
    refine c_block ?_
    refine c_loopX hF hM hP (fun F x a w => match x with | v1108 => Fr 145 [(5, .int .i64 v1108), (2, .pointer (some ⟨b_B33_2, 0, none⟩)), (3, .pointer (some ⟨b_B33_3, 0, none⟩)), (4, .bool false)] a ∧ MemL w (pt b_B33_3 (RMark.enc (RMark.mk x1.at_ x1.next x1.done s11 s13 s15 s19)) 60 :: pt b_B33_2 (RMark.enc (RMark.mk x0.at_ x0.next x0.done s1 s3 s5 s9)) 60 :: Lr)) (fun hF hM => ⟨hF.to ⟨rfl, rfl, rfl, rfl, trivial⟩, hM⟩) ?_
    rintro v1108 a w o_l3 hP hK_l3 ⟨hF, hM⟩
    replace hP : Sh.law23_sameMark_l3 x0 x1 v1108 = _ := hP
    unfold Sh.law23_sameMark_l3 at hP
    refine c_seq ?_
    refine c_seq ?_
    refine c_region ?_
    refine s_val hF (r_move hF rfl rfl) rfl rfl rfl fun a hF => ?_
    refine s_val hF (r_fieldAddr (off' := 3) Tryz.underlying60 rfl in56 rfl hF rfl rfl rfl) rfl rfl rfl fun a hF => ?_
    refine s_val hF (r_load1 Tryz.isAgg56 hF rfl rfl (hM.cell (i := 1) rfl (RMark.g_regs _))) rfl rfl rfl fun a hF => ?_
    refine s_val hF (r_lenL (f2 _ (hsub _ (dropM hM 2))) Tryz.underlying56 hF rfl rfl) rfl rfl rfl fun a hF => ?_
    refine s_val hF (r_lss hF rfl rfl rfl) rfl rfl rfl fun a hF => ?_
    refine c_nil (n_then ?_)
    refine c_cond hF (c := .tmp 68) rfl (fun hb1110 => ?_) (fun hb1110 => ?_)
    · have hP := Fx.cT hb1110 hP
      refine c_skip (n_then ?_)
      refine c_seq ?_
      refine c_block ?_
      refine c_seq ?_
      refine d_startT mixed (by kernel_rfl) hM [0, 1] 2 rfl fun hch => ?_
      refine d_val hF hch 0 rfl (by kernel_rfl) rfl rfl rfl (fun w hM => (r_fieldAddr (off' := 3) Tryz.underlying60 rfl in56 rfl hF rfl rfl rfl)) fun a hF => ?_
      refine d_val hF hch 1 rfl (by kernel_rfl) rfl rfl rfl (fun w hM => (r_load1 Tryz.isAgg56 hF rfl rfl (hM.cell (i := 1) rfl (RMark.g_regs _)))) fun a hF => ?_
      refine d_val hF hch 2 rfl (by kernel_rfl) rfl rfl rfl (fun w hM => (r_move hF rfl rfl)) fun a hF => ?_
      obtain ⟨x1118, hx1118, hP⟩ := bind_some hP
      have h0x1118 := get_some hx1118
      refine d_val hF hch 3 rfl (by kernel_rfl) rfl rfl rfl (fun w hM => (r_indexZ (sz := 9) (f2 _ (hsub _ (dropM hM 2))) Tryz.underlying56 in128 rfl hF rfl rfl rfl (get_bd hx1118))) fun a hF => ?_
      refine d_val hF hch 4 rfl (by kernel_rfl) rfl rfl rfl (fun w hM => (r_loadn Tryz.isAgg128 Tryz.sizeOf128 hF rfl rfl (LTurn.len _) (((f2 _ (hsub _ (dropM hM 2))).elemS h0x1118.2)))) fun a hF => ?_
      refine d_val hF hch 5 rfl (by kernel_rfl) rfl rfl rfl (fun w hM => (r_fieldAddr (off' := 3) Tryz.underlying60 rfl in56 rfl hF rfl rfl rfl)) fun a hF => ?_
      refine d_val hF hch 6 rfl (by kernel_rfl) rfl rfl rfl (fun w hM => (r_load1 Tryz.isAgg56 hF rfl rfl (hM.cell (i := 0) rfl (RMark.g_regs _)))) fun a hF => ?_
      refine d_val hF hch 7 rfl (by kernel_rfl) rfl rfl rfl (fun w hM => (r_move hF rfl rfl)) fun a hF => ?_
      obtain ⟨x1119, hx1119, hP⟩ := bind_some hP
      have h0x1119 := get_some hx1119
      refine d_val hF hch 8 rfl (by kernel_rfl) rfl rfl rfl (fun w hM => (r_indexZ (sz := 9) (f12 _ (hsub _ (dropM hM 2))) Tryz.underlying56 in128 rfl hF rfl rfl rfl (get_bd hx1119))) fun a hF => ?_
      refine d_val hF hch 9 rfl (by kernel_rfl) rfl rfl rfl (fun w hM => (r_loadn Tryz.isAgg128 Tryz.sizeOf128 hF rfl rfl (LTurn.len _) (((f12 _ (hsub _ (dropM hM 2))).elemS h0x1119.2)))) fun a hF => ?_
      refine d_val hF hch 10 rfl (by kernel_rfl) rfl rfl rfl (fun w hM => (r_neqA Tryz.eqGuardType128 (eq_LTurn _ _ _ _ (by decide)) hF rfl rfl rfl)) fun a hF => ?_
      refine d_end hch (by kernel_rfl) fun w hM => ?_
      refine n_then ?_
      refine c_cond hF (c := .tmp 81) rfl (fun hb1120 => ?_) (fun hb1120 => ?_)
      · have hP := Fx.cT hb1120 hP
        refine c_seq ?_
        refine c_region ?_
        refine s_val hF (r_assign hF rfl rfl) rfl rfl rfl fun a hF => ?_
        refine c_nil (n_then ?_)
        refine c_ret ?_
        have hP := Option.some.inj hP
        subst hP
        have hP := hK_l3 _ rfl
        subst hP
        have hP := fin_inr hK_j2
        subst hP
        refine e_ret1 Tryz.results33 hF rfl ?_
        exact ⟨rfl, selM hM [] 2 rfl⟩
      have hP := Fx.cF hb1120 hP
      refine c_skip (n_block (n_then ?_))
      refine c_region ?_
      refine s_val hF (r_move hF rfl rfl) rfl rfl rfl fun a hF => ?_
      refine s_val hF (r_add hF rfl rfl rfl) rfl rfl rfl fun a hF => ?_
      refine s_val hF (r_assign hF rfl rfl) rfl rfl rfl fun a hF => ?_
      refine c_nil (n_then ?_)
      have hP := Option.some.inj hP
      subst hP
      exact ⟨(IntKind.i64.wrap (v1108 + 1)), rfl, hF.to ⟨rfl, rfl, rfl, rfl, trivial⟩, hM⟩
    have hP := Fx.cF hb1110 hP
    refine c_exit (x_then (x_then (x_hit ?_)))
    refine n_then ?_
    have hP := Option.some.inj hP
    subst hP
    have hP := hK_l3 _ rfl
    subst hP
    exact ⟨(), rfl, hF.to ⟨rfl, rfl, rfl, trivial⟩, hM⟩
  rintro ⟨⟩ a w hP ⟨hF, hM⟩
  replace hP : Sh.law23_sameMark_j2 x0 x1 = _ := hP
  unfold Sh.law23_sameMark_j2 at hP
  refine n_then ?_
  refine c_seq ?_
  refine c_joinX hF hM hP (fun F x a w => match x with | _ => Fr 145 [(2, .pointer (some ⟨b_B33_2, 0, none⟩)), (3, .pointer (some ⟨b_B33_3, 0, none⟩)), (4, .bool false)] a ∧ MemL w (pt b_B33_3 (RMark.enc (RMark.mk x1.at_ x1.next x1.done s11 s13 s15 s19)) 60 :: pt b_B33_2 (RMark.enc (RMark.mk x0.at_ x0.next x0.done s1 s3 s5 s9)) 60 :: Lr)) (fun o_j4 hP hK_j4 hF hM => ?_) ?_
  · refine c_seq ?_
    refine c_region ?_
    refine s_val hF (r_assign hF rfl rfl) rfl rfl rfl fun a hF => ?_
    refine c_nil (n_then ?_)
    refine c_block ?_
    refine c_loopX hF hM hP (fun F x a w => match x with | v1222 => Fr 145 [(6, .int .i64 v1222), (2, .pointer (some ⟨b_B33_2, 0, none⟩)), (3, .pointer (some ⟨b_B33_3, 0, none⟩)), (4, .bool false)] a ∧ MemL w (pt b_B33_3 (RMark.enc (RMark.mk x1.at_ x1.next x1.done s11 s13 s15 s19)) 60 :: pt b_B33_2 (RMark.enc (RMark.mk x0.at_ x0.next x0.done s1 s3 s5 s9)) 60 :: Lr)) (fun hF hM => ⟨hF.to ⟨rfl, rfl, rfl, rfl, trivial⟩, hM⟩) ?_
    rintro v1222 a w o_l5 hP hK_l5 ⟨hF, hM⟩
    replace hP : Sh.law23_sameMark_l5 x0 x1 v1222 = _ := hP
    unfold Sh.law23_sameMark_l5 at hP
    refine c_seq ?_
    refine c_seq ?_
    refine c_region ?_
    refine s_val hF (r_move hF rfl rfl) rfl rfl rfl fun a hF => ?_
    refine s_val hF (r_fieldAddr (off' := 4) Tryz.underlying60 rfl in57 rfl hF rfl rfl rfl) rfl rfl rfl fun a hF => ?_
    refine s_val hF (r_load1 Tryz.isAgg57 hF rfl rfl (hM.cell (i := 1) rfl (RMark.g_slots _))) rfl rfl rfl fun a hF => ?_
    refine s_val hF (r_lenL (f4 _ (hsub _ (dropM hM 2))) Tryz.underlying57 hF rfl rfl) rfl rfl rfl fun a hF => ?_
    refine s_val hF (r_lss hF rfl rfl rfl) rfl rfl rfl fun a hF => ?_
    refine c_nil (n_then ?_)
    refine c_cond hF (c := .tmp 86) rfl (fun hb1224 => ?_) (fun hb1224 => ?_)
    · have hP := Fx.cT hb1224 hP
      refine c_skip (n_then ?_)
      refine c_seq ?_
      refine c_block ?_
      refine c_seq ?_
      refine d_startT mixed (by kernel_rfl) hM [0, 1] 2 rfl fun hch => ?_
      refine d_val hF hch 0 rfl (by kernel_rfl) rfl rfl rfl (fun w hM => (r_fieldAddr (off' := 4) Tryz.underlying60 rfl in57 rfl hF rfl rfl rfl)) fun a hF => ?_
      refine d_val hF hch 1 rfl (by kernel_rfl) rfl rfl rfl (fun w hM => (r_load1 Tryz.isAgg57 hF rfl rfl (hM.cell (i := 1) rfl (RMark.g_slots _)))) fun a hF => ?_
      refine d_val hF hch 2 rfl (by kernel_rfl) rfl rfl rfl (fun w hM => (r_move hF rfl rfl)) fun a hF => ?_
      obtain ⟨x1232, hx1232, hP⟩ := bind_some hP
      have h0x1232 := get_some hx1232
      refine d_val hF hch 3 rfl (by kernel_rfl) rfl rfl rfl (fun w hM => (r_indexZ (sz := 27) (f4 _ (hsub _ (dropM hM 2))) Tryz.underlying57 in151 rfl hF rfl rfl rfl (get_bd hx1232))) fun a hF => ?_
      refine d_val hF hch 4 rfl (by kernel_rfl) rfl rfl rfl (fun w hM => (r_loadn Tryz.isAgg151 Tryz.sizeOf151 hF rfl rfl (LCell.len _) (((f4 _ (hsub _ (dropM hM 2))).elemS h0x1232.2)))) fun a hF => ?_
      refine d_val hF hch 5 rfl (by kernel_rfl) rfl rfl rfl (fun w hM => (r_fieldAddr (off' := 4) Tryz.underlying60 rfl in57 rfl hF rfl rfl rfl)) fun a hF => ?_
      refine d_val hF hch 6 rfl (by kernel_rfl) rfl rfl rfl (fun w hM => (r_load1 Tryz.isAgg57 hF rfl rfl (hM.cell (i := 0) rfl (RMark.g_slots _)))) fun a hF => ?_
      refine d_val hF hch 7 rfl (by kernel_rfl) rfl rfl rfl (fun w hM => (r_move hF rfl rfl)) fun a hF => ?_
      obtain ⟨x1233, hx1233, hP⟩ := bind_some hP
      have h0x1233 := get_some hx1233
      refine d_val hF hch 8 rfl (by kernel_rfl) rfl rfl rfl (fun w hM => (r_indexZ (sz := 27) (f14 _ (hsub _ (dropM hM 2))) Tryz.underlying57 in151 rfl hF rfl rfl rfl (get_bd hx1233))) fun a hF => ?_
      refine d_val hF hch 9 rfl (by kernel_rfl) rfl rfl rfl (fun w hM => (r_loadn Tryz.isAgg151 Tryz.sizeOf151 hF rfl rfl (LCell.len _) (((f14 _ (hsub _ (dropM hM 2))).elemS h0x1233.2)))) fun a hF => ?_
      refine d_val hF hch 10 rfl (by kernel_rfl) rfl rfl rfl (fun w hM => (r_neqA Tryz.eqGuardType151 (eq_LCell _ _ _ _ (by decide)) hF rfl rfl rfl)) fun a hF => ?_
      refine d_end hch (by kernel_rfl) fun w hM => ?_
      refine n_then ?_
      refine c_cond hF (c := .tmp 99) rfl (fun hb1234 => ?_) (fun hb1234 => ?_)
      · have hP := Fx.cT hb1234 hP
        refine c_seq ?_
        refine c_region ?_
        refine s_val hF (r_assign hF rfl rfl) rfl rfl rfl fun a hF => ?_
        refine c_nil (n_then ?_)
        refine c_ret ?_
        have hP := Option.some.inj hP
        subst hP
        have hP := hK_l5 _ rfl
        subst hP
        have hP := fin_inr hK_j4
        subst hP
        refine e_ret1 Tryz.results33 hF rfl ?_
        exact ⟨rfl, selM hM [] 2 rfl⟩
      have hP := Fx.cF hb1234 hP
      refine c_skip (n_block (n_then ?_))
      refine c_region ?_
      refine s_val hF (r_move hF rfl rfl) rfl rfl rfl fun a hF => ?_
      refine s_val hF (r_add hF rfl rfl rfl) rfl rfl rfl fun a hF => ?_
      refine s_val hF (r_assign hF rfl rfl) rfl rfl rfl fun a hF => ?_
      refine c_nil (n_then ?_)
      have hP := Option.some.inj hP
      subst hP
      exact ⟨(IntKind.i64.wrap (v1222 + 1)), rfl, hF.to ⟨rfl, rfl, rfl, rfl, trivial⟩, hM⟩
    have hP := Fx.cF hb1224 hP
    refine c_exit (x_then (x_then (x_hit ?_)))
    refine n_then ?_
    have hP := Option.some.inj hP
    subst hP
    have hP := hK_l5 _ rfl
    subst hP
    exact ⟨(), rfl, hF.to ⟨rfl, rfl, rfl, trivial⟩, hM⟩
  rintro ⟨⟩ a w hP ⟨hF, hM⟩
  replace hP : Sh.law23_sameMark_j4 x0 x1 = _ := hP
  unfold Sh.law23_sameMark_j4 at hP
  refine n_then ?_
  refine c_seq ?_
  refine c_joinX hF hM hP (fun F x a w => match x with | _ => Fr 145 [(4, .bool false)] a ∧ MemL w (Lr)) (fun o_j6 hP hK_j6 hF hM => ?_) ?_
  · refine c_seq ?_
    refine c_region ?_
    refine s_val hF (r_assign hF rfl rfl) rfl rfl rfl fun a hF => ?_
    refine c_nil (n_then ?_)
    refine c_block ?_
    refine c_loopX hF hM hP (fun F x a w => match x with | v1816 => Fr 145 [(7, .int .i64 v1816), (2, .pointer (some ⟨b_B33_2, 0, none⟩)), (3, .pointer (some ⟨b_B33_3, 0, none⟩)), (4, .bool false)] a ∧ MemL w (pt b_B33_3 (RMark.enc (RMark.mk x1.at_ x1.next x1.done s11 s13 s15 s19)) 60 :: pt b_B33_2 (RMark.enc (RMark.mk x0.at_ x0.next x0.done s1 s3 s5 s9)) 60 :: Lr)) (fun hF hM => ⟨hF.to ⟨rfl, rfl, rfl, rfl, trivial⟩, hM⟩) ?_
    rintro v1816 a w o_l7 hP hK_l7 ⟨hF, hM⟩
    replace hP : Sh.law23_sameMark_l7 x0 x1 v1816 = _ := hP
    unfold Sh.law23_sameMark_l7 at hP
    refine c_seq ?_
    refine c_seq ?_
    refine c_region ?_
    refine s_val hF (r_move hF rfl rfl) rfl rfl rfl fun a hF => ?_
    refine s_val hF (r_fieldAddr (off' := 5) Tryz.underlying60 rfl in58 rfl hF rfl rfl rfl) rfl rfl rfl fun a hF => ?_
    refine s_val hF (r_load1 Tryz.isAgg58 hF rfl rfl (hM.cell (i := 1) rfl (RMark.g_pieces _))) rfl rfl rfl fun a hF => ?_
    refine s_val hF (r_lenD (f7 _ (hsub _ (dropM hM 2))) q8.len Tryz.underlying58 hF rfl rfl) rfl rfl rfl fun a hF => ?_
    refine s_val hF (r_lss hF rfl rfl rfl) rfl rfl rfl fun a hF => ?_
    refine c_nil (n_then ?_)
    refine c_cond hF (c := .tmp 104) rfl (fun hb1818 => ?_) (fun hb1818 => ?_)
    · have hP := Fx.cT hb1818 hP
      refine c_skip (n_then ?_)
      refine c_seq ?_
      refine c_block ?_
      refine c_seq ?_
      refine c_region ?_
      refine s_val hF (r_fieldAddr (off' := 5) Tryz.underlying60 rfl in58 rfl hF rfl rfl rfl) rfl rfl rfl fun a hF => ?_
      refine s_val hF (r_load1 Tryz.isAgg58 hF rfl rfl (hM.cell (i := 1) rfl (RMark.g_pieces _))) rfl rfl rfl fun a hF => ?_
      refine s_val hF (r_move hF rfl rfl) rfl rfl rfl fun a hF => ?_
      obtain ⟨x1854, hx1854, hP⟩ := bind_some hP
      have h0x1854 := get_some hx1854
      obtain ⟨yx1854, hgx1854, hrx1854⟩ := Each.getr q8 h0x1854.2
      have hdx1854 := Each.bd q8 (get_bd hx1854)
      obtain ⟨s1855, s1857, rfl, f1856, f1858⟩ := hrx1854
      refine s_val hF (r_indexZ (sz := 4) (f7 _ (hsub _ (dropM hM 2))) Tryz.underlying58 in156 rfl hF rfl rfl rfl hdx1854) rfl rfl rfl fun a hF => ?_
      refine s_val hF (r_loadn Tryz.isAgg156 Tryz.sizeOf156 hF rfl rfl (RPiece.len _) (((f7 _ (hsub _ (dropM hM 2))).elemS hgx1854))) rfl rfl rfl fun a hF => ?_
      refine s_eff hF rfl rfl rfl (w_alloc z156 (zs := RPiece.zero.enc) rfl rfl fun b_B33_8 w hzB33_8 hAB33_8 => ?_)
      have hM := hM.plus hAB33_8
      replace hM : MemL _ (pt b_B33_8 (RPiece.enc (RPiece.mk 0 0 SV.nil SV.nil)) 156 :: pt b_B33_3 (RMark.enc (RMark.mk x1.at_ x1.next x1.done s11 s13 s15 s19)) 60 :: pt b_B33_2 (RMark.enc (RMark.mk x0.at_ x0.next x0.done s1 s3 s5 s9)) 60 :: Lr) := hM
      intro a hF
      refine s_eff0 rfl rfl (w_storen (vs := _) Tryz.sizeOf156 (hM.obj (i := 0) rfl) hF rfl rfl rfl rfl (RPiece.len _) (RPiece.one _) (by first | (rw [RPiece.len, RPiece.len]; decide) | (rw [RPiece.len]; decide)) (put_all ((RPiece.len _).trans (RPiece.len _).symm)) fun w hU1859 => ?_)
      have hM := hM.chg hU1859 (i := 0) rfl
      replace hM : MemL _ (pt b_B33_8 (RPiece.enc (RPiece.mk x1854.table x1854.from_ s1855 s1857)) 156 :: pt b_B33_3 (RMark.enc (RMark.mk x1.at_ x1.next x1.done s11 s13 s15 s19)) 60 :: pt b_B33_2 (RMark.enc (RMark.mk x0.at_ x0.next x0.done s1 s3 s5 s9)) 60 :: Lr) := hM
      refine c_nil (n_then ?_)
      refine c_seq ?_
      refine c_region ?_
      refine s_val hF (r_fieldAddr (off' := 5) Tryz.underlying60 rfl in58 rfl hF rfl rfl rfl) rfl rfl rfl fun a hF => ?_
      refine s_val hF (r_load1 Tryz.isAgg58 hF rfl rfl (hM.cell (i := 1) rfl (RMark.g_pieces _))) rfl rfl rfl fun a hF => ?_
      refine s_val hF (r_move hF rfl rfl) rfl rfl rfl fun a hF => ?_
      obtain ⟨x1860, hx1860, hP⟩ := bind_some hP
      have h0x1860 := get_some hx1860
      obtain ⟨yx1860, hgx1860, hrx1860⟩ := Each.getr q18 h0x1860.2
      have hdx1860 := Each.bd q18 (get_bd hx1860)
      obtain ⟨s1861, s1863, rfl, f1862, f1864⟩ := hrx1860
      refine s_val hF (r_indexZ (sz := 4) (f17 _ (hsub _ (dropM hM 3))) Tryz.underlying58 in156 rfl hF rfl rfl rfl hdx1860) rfl rfl rfl fun a hF => ?_
      refine s_val hF (r_loadn Tryz.isAgg156 Tryz.sizeOf156 hF rfl rfl (RPiece.len _) (((f17 _ (hsub _ (dropM hM 3))).elemS hgx1860))) rfl rfl rfl fun a hF => ?_
      refine s_eff hF rfl rfl rfl (w_alloc z156 (zs := RPiece.zero.enc) rfl rfl fun b_B33_9 w hzB33_9 hAB33_9 => ?_)
      have hM := hM.plus hAB33_9
      replace hM : MemL _ (pt b_B33_9 (RPiece.enc (RPiece.mk 0 0 SV.nil SV.nil)) 156 :: pt b_B33_8 (RPiece.enc (RPiece.mk x1854.table x1854.from_ s1855 s1857)) 156 :: pt b_B33_3 (RMark.enc (RMark.mk x1.at_ x1.next x1.done s11 s13 s15 s19)) 60 :: pt b_B33_2 (RMark.enc (RMark.mk x0.at_ x0.next x0.done s1 s3 s5 s9)) 60 :: Lr) := hM
      intro a hF
      refine s_eff0 rfl rfl (w_storen (vs := _) Tryz.sizeOf156 (hM.obj (i := 0) rfl) hF rfl rfl rfl rfl (RPiece.len _) (RPiece.one _) (by first | (rw [RPiece.len, RPiece.len]; decide) | (rw [RPiece.len]; decide)) (put_all ((RPiece.len _).trans (RPiece.len _).symm)) fun w hU1865 => ?_)
      have hM := hM.chg hU1865 (i := 0) rfl
      replace hM : MemL _ (pt b_B33_9 (RPiece.enc (RPiece.mk x1860.table x1860.from_ s1861 s1863)) 156 :: pt b_B33_8 (RPiece.enc (RPiece.mk x1854.table x1854.from_ s1855 s1857)) 156 :: pt b_B33_3 (RMark.enc (RMark.mk x1.at_ x1.next x1.done s11 s13 s15 s19)) 60 :: pt b_B33_2 (RMark.enc (RMark.mk x0.at_ x0.next x0.done s1 s3 s5 s9)) 60 :: Lr) := hM
      refine c_nil (n_then ?_)
      refine c_seq ?_
      refine c_joinX hF hM hP (fun F x a w => match x with | v1880 => Fr 145 [(144, .bool v1880), (2, .pointer (some ⟨b_B33_2, 0, none⟩)), (3, .pointer (some ⟨b_B33_3, 0, none⟩)), (4, .bool false), (7, .int .i64 v1816)] a ∧ MemL w (pt b_B33_3 (RMark.enc (RMark.mk x1.at_ x1.next x1.done s11 s13 s15 s19)) 60 :: pt b_B33_2 (RMark.enc (RMark.mk x0.at_ x0.next x0.done s1 s3 s5 s9)) 60 :: Lr)) (fun o_j8 hP hK_j8 hF hM => ?_) ?_
      · refine c_region ?_
        refine s_val hF (r_fieldAddr (off' := 0) Tryz.underlying156 rfl in3 rfl hF rfl rfl rfl) rfl rfl rfl fun a hF => ?_
        refine s_val hF (r_load1 Tryz.isAgg3 hF rfl rfl (hM.cell (i := 1) rfl (RPiece.g_table _))) rfl rfl rfl fun a hF => ?_
        refine s_val hF (r_fieldAddr (off' := 0) Tryz.underlying156 rfl in3 rfl hF rfl rfl rfl) rfl rfl rfl fun a hF => ?_
        refine s_val hF (r_load1 Tryz.isAgg3 hF rfl rfl (hM.cell (i := 0) rfl (RPiece.g_table _))) rfl rfl rfl fun a hF => ?_
        refine s_val hF (r_neq hF rfl rfl rfl) rfl rfl rfl fun a hF => ?_
        refine s_val hF (r_move hF rfl rfl) rfl rfl rfl fun a hF => ?_
        refine g_split 122 hF rfl (fun hb1881 => ?_) (fun hb1881 => ?_)
        · have hP := Fx.cT hb1881 hP
          refine g_skip hF rfl rfl rfl hb1881 rfl rfl fun a hF => ?_
          refine g_skip hF rfl rfl rfl hb1881 rfl rfl fun a hF => ?_
          refine g_skip hF rfl rfl rfl hb1881 rfl rfl fun a hF => ?_
          refine g_skip hF rfl rfl rfl hb1881 rfl rfl fun a hF => ?_
          refine g_skip hF rfl rfl rfl hb1881 rfl rfl fun a hF => ?_
          refine s_val hF (r_pick1 hF rfl rfl hb1881 rfl) rfl rfl rfl fun a hF => ?_
          refine s_val hF (r_move hF rfl rfl) rfl rfl rfl fun a hF => ?_
          refine g_skip hF rfl rfl rfl rfl rfl rfl fun a hF => ?_
          refine g_skip hF rfl rfl rfl rfl rfl rfl fun a hF => ?_
          refine g_skip hF rfl rfl rfl rfl rfl rfl fun a hF => ?_
          refine g_skip hF rfl rfl rfl rfl rfl rfl fun a hF => ?_
          refine g_skip hF rfl rfl rfl rfl rfl rfl fun a hF => ?_
          refine g_skip hF rfl rfl rfl rfl rfl rfl fun a hF => ?_
          refine s_val hF (r_pick1 hF rfl rfl rfl rfl) rfl rfl rfl fun a hF => ?_
          refine s_val hF (r_move hF rfl rfl) rfl rfl rfl fun a hF => ?_
          refine g_skip hF rfl rfl rfl rfl rfl rfl fun a hF => ?_
          refine g_skip hF rfl rfl rfl rfl rfl rfl fun a hF => ?_
          refine g_skip hF rfl rfl rfl rfl rfl rfl fun a hF => ?_
          refine g_skip hF rfl rfl rfl rfl rfl rfl fun a hF => ?_
          refine g_skip hF rfl rfl rfl rfl rfl rfl fun a hF => ?_
          refine g_skip hF rfl rfl rfl rfl rfl rfl fun a hF => ?_
          refine s_val hF (r_pick1 hF rfl rfl rfl rfl) rfl rfl rfl fun a hF => ?_
          refine c_nil (n_then ?_)
          have hP := Option.some.inj hP
          subst hP
          exact ⟨true, rfl, hF.to ⟨rfl, rfl, rfl, rfl, rfl, trivial⟩, selM hM [2, 3] 4 rfl⟩
        have hP := Fx.cF hb1881 hP
        refine g_val hF rfl rfl rfl hb1881 (r_fieldAddr (off' := 1) Tryz.underlying156 rfl in3 rfl hF rfl rfl rfl) rfl rfl fun a hF => ?_
        refine g_val hF rfl rfl rfl hb1881 (r_load1 Tryz.isAgg3 hF rfl rfl (hM.cell (i := 1) rfl (RPiece.g_from_ _))) rfl rfl fun a hF => ?_
        refine g_val hF rfl rfl rfl hb1881 (r_fieldAddr (off' := 1) Tryz.underlying156 rfl in3 rfl hF rfl rfl rfl) rfl rfl fun a hF => ?_
        refine g_val hF rfl rfl rfl hb1881 (r_load1 Tryz.isAgg3 hF rfl rfl (hM.cell (i := 0) rfl (RPiece.g_from_ _))) rfl rfl fun a hF => ?_
        refine g_val hF rfl rfl rfl hb1881 (r_neq hF rfl rfl rfl) rfl rfl fun a hF => ?_
        refine s_val hF (r_pick0 hF rfl rfl hb1881 rfl) rfl rfl rfl fun a hF => ?_
        refine s_val hF (r_move hF rfl rfl) rfl rfl rfl fun a hF => ?_
        refine g_split 129 hF rfl (fun hb1882 => ?_) (fun hb1882 => ?_)
        · have hP := Fx.cT hb1882 hP
          refine g_skip hF rfl rfl rfl hb1882 rfl rfl fun a hF => ?_
          refine g_skip hF rfl rfl rfl hb1882 rfl rfl fun a hF => ?_
          refine g_skip hF rfl rfl rfl hb1882 rfl rfl fun a hF => ?_
          refine g_skip hF rfl rfl rfl hb1882 rfl rfl fun a hF => ?_
          refine g_skip hF rfl rfl rfl hb1882 rfl rfl fun a hF => ?_
          refine g_skip hF rfl rfl rfl hb1882 rfl rfl fun a hF => ?_
          refine s_val hF (r_pick1 hF rfl rfl hb1882 rfl) rfl rfl rfl fun a hF => ?_
          refine s_val hF (r_move hF rfl rfl) rfl rfl rfl fun a hF => ?_
          refine g_skip hF rfl rfl rfl rfl rfl rfl fun a hF => ?_
          refine g_skip hF rfl rfl rfl rfl rfl rfl fun a hF => ?_
          refine g_skip hF rfl rfl rfl rfl rfl rfl fun a hF => ?_
          refine g_skip hF rfl rfl rfl rfl rfl rfl fun a hF => ?_
          refine g_skip hF rfl rfl rfl rfl rfl rfl fun a hF => ?_
          refine g_skip hF rfl rfl rfl rfl rfl rfl fun a hF => ?_
          refine s_val hF (r_pick1 hF rfl rfl rfl rfl) rfl rfl rfl fun a hF => ?_
          refine c_nil (n_then ?_)
          have hP := Option.some.inj hP
          subst hP
          exact ⟨true, rfl, hF.to ⟨rfl, rfl, rfl, rfl, rfl, trivial⟩, selM hM [2, 3] 4 rfl⟩
        have hP := Fx.cF hb1882 hP
        refine g_val hF rfl rfl rfl hb1882 (r_fieldAddr (off' := 2) Tryz.underlying156 rfl in23 rfl hF rfl rfl rfl) rfl rfl fun a hF => ?_
        refine g_val hF rfl rfl rfl hb1882 (r_load1 Tryz.isAgg23 hF rfl rfl (hM.cell (i := 1) rfl (RPiece.g_old _))) rfl rfl fun a hF => ?_
        refine g_val hF rfl rfl rfl hb1882 (r_fieldAddr (off' := 2) Tryz.underlying156 rfl in23 rfl hF rfl rfl rfl) rfl rfl fun a hF => ?_
        refine g_val hF rfl rfl rfl hb1882 (r_load1 Tryz.isAgg23 hF rfl rfl (hM.cell (i := 0) rfl (RPiece.g_old _))) rfl rfl fun a hF => ?_
        obtain ⟨y1884, hy1884, hP⟩ := bind_some hP
        refine g_eff hF rfl rfl rfl hb1882 rfl rfl (w_call (xs := [.tmp 131, .tmp 133]) Tryz.call43 hF rfl rfl (law00_SameBytes_calls hy1884 hM (Bf := Bf) (fun w hM => hsub _ (dropM hM 4)) f1856 f1862) fun v w hR => ?_)
        obtain ⟨rfl, hM⟩ := hR
        replace hM : MemL _ (pt b_B33_9 (RPiece.enc (RPiece.mk x1860.table x1860.from_ s1861 s1863)) 156 :: pt b_B33_8 (RPiece.enc (RPiece.mk x1854.table x1854.from_ s1855 s1857)) 156 :: pt b_B33_3 (RMark.enc (RMark.mk x1.at_ x1.next x1.done s11 s13 s15 s19)) 60 :: pt b_B33_2 (RMark.enc (RMark.mk x0.at_ x0.next x0.done s1 s3 s5 s9)) 60 :: Lr) := hM
        intro a hF
        refine g_val hF rfl rfl rfl hb1882 (r_not hF rfl rfl) rfl rfl fun a hF => ?_
        refine s_val hF (r_pick0 hF rfl rfl hb1882 rfl) rfl rfl rfl fun a hF => ?_
        refine s_val hF (r_move hF rfl rfl) rfl rfl rfl fun a hF => ?_
        refine g_split 137 hF rfl (fun hb1885 => ?_) (fun hb1885 => ?_)
        · have hP := Fx.cT hb1885 hP
          refine g_skip hF rfl rfl rfl hb1885 rfl rfl fun a hF => ?_
          refine g_skip hF rfl rfl rfl hb1885 rfl rfl fun a hF => ?_
          refine g_skip hF rfl rfl rfl hb1885 rfl rfl fun a hF => ?_
          refine g_skip hF rfl rfl rfl hb1885 rfl rfl fun a hF => ?_
          refine g_skip hF rfl rfl rfl hb1885 rfl rfl fun a hF => ?_
          refine g_skip hF rfl rfl rfl hb1885 rfl rfl fun a hF => ?_
          refine s_val hF (r_pick1 hF rfl rfl hb1885 rfl) rfl rfl rfl fun a hF => ?_
          refine c_nil (n_then ?_)
          have hP := Option.some.inj hP
          subst hP
          exact ⟨true, rfl, hF.to ⟨rfl, rfl, rfl, rfl, rfl, trivial⟩, selM hM [2, 3] 4 rfl⟩
        have hP := Fx.cF hb1885 hP
        refine g_val hF rfl rfl rfl hb1885 (r_fieldAddr (off' := 3) Tryz.underlying156 rfl in23 rfl hF rfl rfl rfl) rfl rfl fun a hF => ?_
        refine g_val hF rfl rfl rfl hb1885 (r_load1 Tryz.isAgg23 hF rfl rfl (hM.cell (i := 1) rfl (RPiece.g_new _))) rfl rfl fun a hF => ?_
        refine g_val hF rfl rfl rfl hb1885 (r_fieldAddr (off' := 3) Tryz.underlying156 rfl in23 rfl hF rfl rfl rfl) rfl rfl fun a hF => ?_
        refine g_val hF rfl rfl rfl hb1885 (r_load1 Tryz.isAgg23 hF rfl rfl (hM.cell (i := 0) rfl (RPiece.g_new _))) rfl rfl fun a hF => ?_
        obtain ⟨y1887, hy1887, hP⟩ := bind_some hP
        refine g_eff hF rfl rfl rfl hb1885 rfl rfl (w_call (xs := [.tmp 139, .tmp 141]) Tryz.call43 hF rfl rfl (law00_SameBytes_calls hy1887 hM (Bf := Bf) (fun w hM => hsub _ (dropM hM 4)) f1858 f1864) fun v w hR => ?_)
        obtain ⟨rfl, hM⟩ := hR
        replace hM : MemL _ (pt b_B33_9 (RPiece.enc (RPiece.mk x1860.table x1860.from_ s1861 s1863)) 156 :: pt b_B33_8 (RPiece.enc (RPiece.mk x1854.table x1854.from_ s1855 s1857)) 156 :: pt b_B33_3 (RMark.enc (RMark.mk x1.at_ x1.next x1.done s11 s13 s15 s19)) 60 :: pt b_B33_2 (RMark.enc (RMark.mk x0.at_ x0.next x0.done s1 s3 s5 s9)) 60 :: Lr) := hM
        intro a hF
        refine g_val hF rfl rfl rfl hb1885 (r_not hF rfl rfl) rfl rfl fun a hF => ?_
        refine s_val hF (r_pick0 hF rfl rfl hb1885 rfl) rfl rfl rfl fun a hF => ?_
        refine c_nil (n_then ?_)
        have hP := Option.some.inj hP
        subst hP
        exact ⟨(!y1887), rfl, hF.to ⟨rfl, rfl, rfl, rfl, rfl, trivial⟩, selM hM [2, 3] 4 rfl⟩
      rintro v1880 a w hP ⟨hF, hM⟩
      replace hP : Sh.law23_sameMark_j8 v1816 v1880 = _ := hP
      unfold Sh.law23_sameMark_j8 at hP
      refine n_then ?_
      refine c_cond hF (c := .tmp 144) rfl (fun hb1888 => ?_) (fun hb1888 => ?_)
      · have hP := Fx.cT hb1888 hP
        refine c_seq ?_
        refine c_region ?_
        refine s_val hF (r_assign hF rfl rfl) rfl rfl rfl fun a hF => ?_
        refine c_nil (n_then ?_)
        refine c_ret ?_
        have hP := Option.some.inj hP
        subst hP
        have hP := hK_l7 _ rfl
        subst hP
        have hP := fin_inr hK_j6
        subst hP
        refine e_ret1 Tryz.results33 hF rfl ?_
        exact ⟨rfl, selM hM [] 2 rfl⟩
      have hP := Fx.cF hb1888 hP
      refine c_skip (n_block (n_then ?_))
      refine c_region ?_
      refine s_val hF (r_move hF rfl rfl) rfl rfl rfl fun a hF => ?_
      refine s_val hF (r_add hF rfl rfl rfl) rfl rfl rfl fun a hF => ?_
      refine s_val hF (r_assign hF rfl rfl) rfl rfl rfl fun a hF => ?_
      refine c_nil (n_then ?_)
      have hP := Option.some.inj hP
      subst hP
      exact ⟨(IntKind.i64.wrap (v1816 + 1)), rfl, hF.to ⟨rfl, rfl, rfl, rfl, trivial⟩, hM⟩
    have hP := Fx.cF hb1818 hP
    refine c_exit (x_then (x_then (x_hit ?_)))
    refine n_then ?_
    have hP := Option.some.inj hP
    subst hP
    have hP := hK_l7 _ rfl
    subst hP
    exact ⟨(), rfl, hF.to ⟨rfl, trivial⟩, selM hM [] 2 rfl⟩
  rintro ⟨⟩ a w hP ⟨hF, hM⟩
  replace hP : Sh.law23_sameMark_j6 = _ := hP
  unfold Sh.law23_sameMark_j6 at hP
  refine n_then ?_
  refine c_seq ?_
  refine c_region ?_
  refine s_val hF (r_assign hF rfl rfl) rfl rfl rfl fun a hF => ?_
  refine c_nil (n_then ?_)
  refine c_ret ?_
  have hP := Option.some.inj hP
  subst hP
  refine e_ret1 Tryz.results33 hF rfl ?_
  exact ⟨rfl, hM⟩
set_option maxHeartbeats 4000000 in
theorem law23_copyState_calls {x0 : QState} {s1 : SV} {s3 : SV} {hs4 : List SV} {s7 : SV} {out : QState} {w0 : World} {Bf : World → Prop} {Lr : List Res} (hP : Sh.law23_copyState x0 = some out) (hM : MemL w0 (Lr)) (hsub : ∀ w, MemL w Lr → Bf w) (f2 : LIn Bf s1 x0.ctx) (f5 : LIn Bf s3 hs4) (q6 : Each (LIn (X := UInt8) Bf) hs4 x0.tables) (f8 : LIn Bf s7 x0.sent) : Calls Tryz.prog 30 #[.agg (RState.enc (RState.mk x0.regs x0.stack s1 s3 s7 x0.at_ x0.steps x0.done)).toArray] w0 (Ret fun v w' => ∃ (s28 : SV) (s30 : SV) (hs31 : List SV) (r33 : Res) (s35 : SV), v = .agg (RState.enc (RState.mk out.regs out.stack s28 s30 s35 out.at_ out.steps out.done)).toArray ∧ Each (LIn (X := UInt8) r33.holds') hs31 out.tables ∧ MemL w' (rowL 0 s28 5 out.ctx :: rowL 0 s30 23 hs31 :: r33 :: rowL 0 s35 3 out.sent :: Lr)) := by
  unfold Sh.law23_copyState at hP
  refine calls_enter (vs := [.agg (RState.enc (RState.mk x0.regs x0.stack s1 s3 s7 x0.at_ x0.steps x0.done)).toArray]) Tryz.func30 rfl Tryz.ntmps30 rfl fun a hF => ?_
  refine c_seq ?_
  refine c_region ?_
  refine s_eff hF rfl rfl rfl (w_box hF rfl rfl rfl fun b_B30_1 w hzB30_1 hAB30_1 => ?_)
  have hM := hM.plus hAB30_1
  replace hM : MemL _ (pt b_B30_1 (RState.enc (RState.mk x0.regs x0.stack s1 s3 s7 x0.at_ x0.steps x0.done)) 54 :: Lr) := hM
  intro a hF
  refine s_eff hF rfl rfl rfl (w_alloc z54 (zs := RState.zero.enc) rfl rfl fun b_B30_2 w hzB30_2 hAB30_2 => ?_)
  have hM := hM.plus hAB30_2
  replace hM : MemL _ (pt b_B30_2 (RState.enc (RState.mk (⟨List.replicate 11 LVal.zero, rfl⟩ : Vec LVal 11) (⟨List.replicate 32 LSlot.zero, rfl⟩ : Vec LSlot 32) SV.nil SV.nil SV.nil 0 0 false)) 54 :: pt b_B30_1 (RState.enc (RState.mk x0.regs x0.stack s1 s3 s7 x0.at_ x0.steps x0.done)) 54 :: Lr) := hM
  intro a hF
  refine c_nil (n_then ?_)
  refine c_seq ?_
  refine c_region ?_
  refine s_val hF (r_fieldAddr (off' := 460) Tryz.underlying54 rfl in23 rfl hF rfl rfl rfl) rfl rfl rfl fun a hF => ?_
  refine s_val hF (r_load1 Tryz.isAgg23 hF rfl rfl (hM.cell (i := 1) rfl (RState.g_ctx _))) rfl rfl rfl fun a hF => ?_
  obtain ⟨y38, hy38, hP⟩ := bind_some hP
  refine s_eff hF rfl rfl rfl (w_call (xs := [.tmp 4]) Tryz.call50 hF rfl rfl (law00_CopyBytes_calls hy38 hM (Bf := Bf) (fun w hM => hsub _ (dropM hM 2)) f2) fun v w hR => ?_)
  obtain ⟨s39, rfl, hM⟩ := hR
  replace hM : MemL _ (rowL 0 s39 5 y38 :: pt b_B30_2 (RState.enc (RState.mk (⟨List.replicate 11 LVal.zero, rfl⟩ : Vec LVal 11) (⟨List.replicate 32 LSlot.zero, rfl⟩ : Vec LSlot 32) SV.nil SV.nil SV.nil 0 0 false)) 54 :: pt b_B30_1 (RState.enc (RState.mk x0.regs x0.stack s1 s3 s7 x0.at_ x0.steps x0.done)) 54 :: Lr) := hM
  intro a hF
  refine s_val hF (r_fieldAddr (off' := 460) Tryz.underlying54 rfl in23 rfl hF rfl rfl rfl) rfl rfl rfl fun a hF => ?_
  refine s_eff0 rfl rfl (w_store1 Tryz.sizeOf23 (hM.obj (i := 2) rfl) hF rfl rfl rfl rfl (by rw [RState.len]; decide) (RState.s_ctx _ _) fun w hU41 => ?_)
  have hM := hM.chg hU41 (i := 2) rfl
  replace hM : MemL _ (rowL 0 s39 5 y38 :: pt b_B30_2 (RState.enc (RState.mk (⟨List.replicate 11 LVal.zero, rfl⟩ : Vec LVal 11) (⟨List.replicate 32 LSlot.zero, rfl⟩ : Vec LSlot 32) SV.nil SV.nil SV.nil 0 0 false)) 54 :: pt b_B30_1 (RState.enc (RState.mk x0.regs x0.stack s39 s3 s7 x0.at_ x0.steps x0.done)) 54 :: Lr) := hM
  refine c_nil (n_then ?_)
  refine c_seq ?_
  refine c_region ?_
  refine s_val hF (r_fieldAddr (off' := 461) Tryz.underlying54 rfl in28 rfl hF rfl rfl rfl) rfl rfl rfl fun a hF => ?_
  refine s_val hF (r_load1 Tryz.isAgg28 hF rfl rfl (hM.cell (i := 2) rfl (RState.g_tables _))) rfl rfl rfl fun a hF => ?_
  obtain ⟨y43, hy43, hP⟩ := bind_some hP
  refine s_eff hF rfl rfl rfl (w_call (xs := [.tmp 8]) Tryz.call72 hF rfl rfl (law00_CopyRows_calls hy43 hM (Bf := Bf) (fun w hM => hsub _ (dropM hM 3)) f5 q6) fun v w hR => ?_)
  obtain ⟨s44, hs45, r47, rfl, q48, hM⟩ := hR
  replace hM : MemL _ (rowL 0 s44 23 hs45 :: r47 :: rowL 0 s39 5 y38 :: pt b_B30_2 (RState.enc (RState.mk (⟨List.replicate 11 LVal.zero, rfl⟩ : Vec LVal 11) (⟨List.replicate 32 LSlot.zero, rfl⟩ : Vec LSlot 32) SV.nil SV.nil SV.nil 0 0 false)) 54 :: pt b_B30_1 (RState.enc (RState.mk x0.regs x0.stack s39 s3 s7 x0.at_ x0.steps x0.done)) 54 :: Lr) := hM
  intro a hF
  refine s_val hF (r_fieldAddr (off' := 461) Tryz.underlying54 rfl in28 rfl hF rfl rfl rfl) rfl rfl rfl fun a hF => ?_
  refine s_eff0 rfl rfl (w_store1 Tryz.sizeOf28 (hM.obj (i := 4) rfl) hF rfl rfl rfl rfl (by rw [RState.len]; decide) (RState.s_tables _ _) fun w hU49 => ?_)
  have hM := hM.chg hU49 (i := 4) rfl
  replace hM : MemL _ (rowL 0 s44 23 hs45 :: r47 :: rowL 0 s39 5 y38 :: pt b_B30_2 (RState.enc (RState.mk (⟨List.replicate 11 LVal.zero, rfl⟩ : Vec LVal 11) (⟨List.replicate 32 LSlot.zero, rfl⟩ : Vec LSlot 32) SV.nil SV.nil SV.nil 0 0 false)) 54 :: pt b_B30_1 (RState.enc (RState.mk x0.regs x0.stack s39 s44 s7 x0.at_ x0.steps x0.done)) 54 :: Lr) := hM
  refine c_nil (n_then ?_)
  refine c_seq ?_
  refine c_region ?_
  refine s_val hF (r_fieldAddr (off' := 462) Tryz.underlying54 rfl in52 rfl hF rfl rfl rfl) rfl rfl rfl fun a hF => ?_
  refine s_val hF (r_load1 Tryz.isAgg52 hF rfl rfl (hM.cell (i := 4) rfl (RState.g_sent _))) rfl rfl rfl fun a hF => ?_
  obtain ⟨y51, hy51, hP⟩ := bind_some hP
  refine s_eff hF rfl rfl rfl (w_call (xs := [.tmp 12]) Tryz.call81 hF rfl rfl (law00_CopyInts_calls hy51 hM (Bf := Bf) (fun w hM => hsub _ (dropM hM 5)) f8) fun v w hR => ?_)
  obtain ⟨s52, rfl, hM⟩ := hR
  replace hM : MemL _ (rowL 0 s52 3 y51 :: rowL 0 s44 23 hs45 :: r47 :: rowL 0 s39 5 y38 :: pt b_B30_2 (RState.enc (RState.mk (⟨List.replicate 11 LVal.zero, rfl⟩ : Vec LVal 11) (⟨List.replicate 32 LSlot.zero, rfl⟩ : Vec LSlot 32) SV.nil SV.nil SV.nil 0 0 false)) 54 :: pt b_B30_1 (RState.enc (RState.mk x0.regs x0.stack s39 s44 s7 x0.at_ x0.steps x0.done)) 54 :: Lr) := hM
  intro a hF
  refine s_val hF (r_fieldAddr (off' := 462) Tryz.underlying54 rfl in52 rfl hF rfl rfl rfl) rfl rfl rfl fun a hF => ?_
  refine s_eff0 rfl rfl (w_store1 Tryz.sizeOf52 (hM.obj (i := 5) rfl) hF rfl rfl rfl rfl (by rw [RState.len]; decide) (RState.s_sent _ _) fun w hU54 => ?_)
  have hM := hM.chg hU54 (i := 5) rfl
  replace hM : MemL _ (rowL 0 s52 3 y51 :: rowL 0 s44 23 hs45 :: r47 :: rowL 0 s39 5 y38 :: pt b_B30_2 (RState.enc (RState.mk (⟨List.replicate 11 LVal.zero, rfl⟩ : Vec LVal 11) (⟨List.replicate 32 LSlot.zero, rfl⟩ : Vec LSlot 32) SV.nil SV.nil SV.nil 0 0 false)) 54 :: pt b_B30_1 (RState.enc (RState.mk x0.regs x0.stack s39 s44 s52 x0.at_ x0.steps x0.done)) 54 :: Lr) := hM
  refine c_nil (n_then ?_)
  refine c_seq ?_
  refine c_region ?_
  refine s_val hF (r_loadn Tryz.isAgg54 Tryz.sizeOf54 hF rfl rfl (RState.len _) (hM.cells (i := 5) rfl (cut_all (RState.len _)))) rfl rfl rfl fun a hF => ?_
  refine s_eff0 rfl rfl (w_storen (vs := _) Tryz.sizeOf54 (hM.obj (i := 4) rfl) hF rfl rfl rfl rfl (RState.len _) (RState.one _) (by first | (rw [RState.len, RState.len]; decide) | (rw [RState.len]; decide)) (put_all ((RState.len _).trans (RState.len _).symm)) fun w hU55 => ?_)
  have hM := hM.chg hU55 (i := 4) rfl
  replace hM : MemL _ (rowL 0 s52 3 y51 :: rowL 0 s44 23 hs45 :: r47 :: rowL 0 s39 5 y38 :: pt b_B30_2 (RState.enc (RState.mk x0.regs x0.stack s39 s44 s52 x0.at_ x0.steps x0.done)) 54 :: pt b_B30_1 (RState.enc (RState.mk x0.regs x0.stack s39 s44 s52 x0.at_ x0.steps x0.done)) 54 :: Lr) := hM
  refine c_nil (n_then ?_)
  refine c_ret ?_
  have hP := Option.some.inj hP
  subst hP
  refine e_ret (rs := [.cell 2 54]) Tryz.results30 hF (res_celln hF rfl Tryz.isAgg54 Tryz.sizeOf54 (RState.len _) (hM.cells (i := 4) rfl (cut_all (RState.len _))) res_nil) rfl ?_
  exact ⟨s39, s44, hs45, r47, s52, rfl, q48, selM hM [3, 1, 2, 0] 6 rfl⟩
end Go.Proofs
end
