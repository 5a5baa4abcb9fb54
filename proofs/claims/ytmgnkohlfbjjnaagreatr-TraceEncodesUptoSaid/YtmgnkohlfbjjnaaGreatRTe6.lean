/- Ground for this claim: The call of TraceEncodes returns true, and what is read reads as before. Condition: what is read is of bulk at most 1048576. -/
import Derived.Test.YtmgnkohlfbjjnaaGreatRProg
import Derived.KernelRfl
import Derived.Test.YtmgnkohlfbjjnaaGreatRTe5
section
namespace Go.Proofs
open Go.Fw
set_option maxRecDepth 20000
theorem mixed:Tryz.prog.follows .mixedOrders = true:=by kernel_rfl
theorem eq_LVal (d:Nat) (x y:LVal) (w:World) (hd:3 ≤ d):(Op.equalIn d 46 (.agg x.enc.toArray) (.agg y.enc.toArray)).run Tryz.prog w = .ok (decide (x = y)) w:=by
  obtain ⟨d,rfl⟩ : ∃ d',d = d' + 1:=⟨d - 1,by omega⟩
  rw [run_equalIn_struct w d 46 _ _ (by simp only [Program.fieldsOf,Tryz.underlying46]) Tryz.stoodInHeld46]
  simp only [Program.fieldsOf,Tryz.underlying46]
  have key:(x = y) ↔ x.kind = y.kind ∧ x.table = y.table ∧ x.row = y.row ∧ x.x = y.x:=by cases x; cases y; simp
  rw [eqFields_one (by decide) Tryz.isAgg3 (LVal.g_kind x) (LVal.g_kind y) ((EqSpec.int (k:=.i64) Tryz.underlying3) d _ _ w (by omega))]
  rw [eqFields_one (by decide) Tryz.isAgg3 (LVal.g_table x) (LVal.g_table y) ((EqSpec.int (k:=.i64) Tryz.underlying3) d _ _ w (by omega))]
  rw [eqFields_one (by decide) Tryz.isAgg3 (LVal.g_row x) (LVal.g_row y) ((EqSpec.int (k:=.i64) Tryz.underlying3) d _ _ w (by omega))]
  rw [eqFields_one (by decide) Tryz.isAgg3 (LVal.g_x x) (LVal.g_x y) ((EqSpec.int (k:=.i64) Tryz.underlying3) d _ _ w (by omega))]
  rw [eqFields_nil]
  simp only [decide_eq_true_eq,key]
  repeat' split
  all_goals simp_all
theorem eq_arr48:∀ (d:Nat) (x y:Vec UInt8 8) (w:World),2 ≤ d → (Op.equalIn d 48 (.agg (encs x.l).toArray) (.agg (encs y.l).toArray)).run Tryz.prog w = .ok (decide (x = y)) w :=
  EqSpec.vecOne Tryz.underlying48 Tryz.sizeOf5 rfl Tryz.isAgg5 (fun _=>rfl) (EqSpec.u8 Tryz.underlying5)
theorem eq_LSlot (d:Nat) (x y:LSlot) (w:World) (hd:6 ≤ d):(Op.equalIn d 50 (.agg x.enc.toArray) (.agg y.enc.toArray)).run Tryz.prog w = .ok (decide (x = y)) w:=by
  obtain ⟨d,rfl⟩ : ∃ d',d = d' + 1:=⟨d - 1,by omega⟩
  rw [run_equalIn_struct w d 50 _ _ (by simp only [Program.fieldsOf,Tryz.underlying50]) Tryz.stoodInHeld50]
  simp only [Program.fieldsOf,Tryz.underlying50]
  have key:(x = y) ↔ x.ptr = y.ptr ∧ x.bytes = y.bytes ∧ x.mask = y.mask:=by cases x; cases y; simp
  rw [eqFields_agg (by decide) Tryz.isAgg46 Tryz.sizeOf46 (LSlot.c_ptr x) (LSlot.c_ptr y) (eq_LVal d _ _ w (by omega))]
  rw [eqFields_agg (by decide) Tryz.isAgg48 Tryz.sizeOf48 (LSlot.c_bytes x) (LSlot.c_bytes y) (eq_arr48 d _ _ w (by omega))]
  rw [eqFields_one (by decide) Tryz.isAgg3 (LSlot.g_mask x) (LSlot.g_mask y) ((EqSpec.int (k:=.i64) Tryz.underlying3) d _ _ w (by omega))]
  rw [eqFields_nil]
  simp only [decide_eq_true_eq,key]
  repeat' split
  all_goals simp_all
theorem eq_LTurn (d:Nat) (x y:LTurn) (w:World) (hd:6 ≤ d):(Op.equalIn d 128 (.agg x.enc.toArray) (.agg y.enc.toArray)).run Tryz.prog w = .ok (decide (x = y)) w:=by
  obtain ⟨d,rfl⟩ : ∃ d',d = d' + 1:=⟨d - 1,by omega⟩
  rw [run_equalIn_struct w d 128 _ _ (by simp only [Program.fieldsOf,Tryz.underlying128]) Tryz.stoodInHeld128]
  simp only [Program.fieldsOf,Tryz.underlying128]
  have key:(x = y) ↔ x.reg = y.reg ∧ x.old = y.old ∧ x.new = y.new:=by cases x; cases y; simp
  rw [eqFields_one (by decide) Tryz.isAgg3 (LTurn.g_reg x) (LTurn.g_reg y) ((EqSpec.int (k:=.i64) Tryz.underlying3) d _ _ w (by omega))]
  rw [eqFields_agg (by decide) Tryz.isAgg46 Tryz.sizeOf46 (LTurn.c_old x) (LTurn.c_old y) (eq_LVal d _ _ w (by omega))]
  rw [eqFields_agg (by decide) Tryz.isAgg46 Tryz.sizeOf46 (LTurn.c_new x) (LTurn.c_new y) (eq_LVal d _ _ w (by omega))]
  rw [eqFields_nil]
  simp only [decide_eq_true_eq,key]
  repeat' split
  all_goals simp_all
theorem eq_LCell (d:Nat) (x y:LCell) (w:World) (hd:8 ≤ d):(Op.equalIn d 151 (.agg x.enc.toArray) (.agg y.enc.toArray)).run Tryz.prog w = .ok (decide (x = y)) w:=by
  obtain ⟨d,rfl⟩ : ∃ d',d = d' + 1:=⟨d - 1,by omega⟩
  rw [run_equalIn_struct w d 151 _ _ (by simp only [Program.fieldsOf,Tryz.underlying151]) Tryz.stoodInHeld151]
  simp only [Program.fieldsOf,Tryz.underlying151]
  have key:(x = y) ↔ x.slot = y.slot ∧ x.old = y.old ∧ x.new = y.new:=by cases x; cases y; simp
  rw [eqFields_one (by decide) Tryz.isAgg3 (LCell.g_slot x) (LCell.g_slot y) ((EqSpec.int (k:=.i64) Tryz.underlying3) d _ _ w (by omega))]
  rw [eqFields_agg (by decide) Tryz.isAgg50 Tryz.sizeOf50 (LCell.c_old x) (LCell.c_old y) (eq_LSlot d _ _ w (by omega))]
  rw [eqFields_agg (by decide) Tryz.isAgg50 Tryz.sizeOf50 (LCell.c_new x) (LCell.c_new y) (eq_LSlot d _ _ w (by omega))]
  rw [eqFields_nil]
  simp only [decide_eq_true_eq,key]
  repeat' split
  all_goals simp_all
theorem z46 (w:World):(zeroValue 46).run Tryz.prog w = .ok (.agg LVal.zero.enc.toArray) w:=(Tryz.zeroValue46 w).trans (by kernel_rfl)
theorem z50 (w:World):(zeroValue 50).run Tryz.prog w = .ok (.agg LSlot.zero.enc.toArray) w:=(Tryz.zeroValue50 w).trans (by kernel_rfl)
theorem z128 (w:World):(zeroValue 128).run Tryz.prog w = .ok (.agg LTurn.zero.enc.toArray) w:=(Tryz.zeroValue128 w).trans (by kernel_rfl)
theorem z151 (w:World):(zeroValue 151).run Tryz.prog w = .ok (.agg LCell.zero.enc.toArray) w:=(Tryz.zeroValue151 w).trans (by kernel_rfl)
theorem z156 (w:World):(zeroValue 156).run Tryz.prog w = .ok (.agg RPiece.zero.enc.toArray) w:=(Tryz.zeroValue156 w).trans (by kernel_rfl)
theorem z60 (w:World):(zeroValue 60).run Tryz.prog w = .ok (.agg RMark.zero.enc.toArray) w:=(Tryz.zeroValue60 w).trans (by kernel_rfl)
theorem z36 (w:World):(zeroValue 36).run Tryz.prog w = .ok (.agg RRecord.zero.enc.toArray) w:=(Tryz.zeroValue36 w).trans (by kernel_rfl)
theorem z167 (w:World):(zeroValue 167).run Tryz.prog w = .ok (.agg RWriter.zero.enc.toArray) w:=(Tryz.zeroValue167 w).trans (by kernel_rfl)
theorem in3:Tryz.prog.info? 3 = some Tryz.t3:=by kernel_rfl
theorem in4:Tryz.prog.info? 4 = some Tryz.t4:=by kernel_rfl
theorem in5:Tryz.prog.info? 5 = some Tryz.t5:=by kernel_rfl
theorem in23:Tryz.prog.info? 23 = some Tryz.t23:=by kernel_rfl
theorem in28:Tryz.prog.info? 28 = some Tryz.t28:=by kernel_rfl
theorem in30:Tryz.prog.info? 30 = some Tryz.t30:=by kernel_rfl
theorem in33:Tryz.prog.info? 33 = some Tryz.t33:=by kernel_rfl
theorem in34:Tryz.prog.info? 34 = some Tryz.t34:=by kernel_rfl
theorem in46:Tryz.prog.info? 46 = some Tryz.t46:=by kernel_rfl
theorem in48:Tryz.prog.info? 48 = some Tryz.t48:=by kernel_rfl
theorem in50:Tryz.prog.info? 50 = some Tryz.t50:=by kernel_rfl
theorem in52:Tryz.prog.info? 52 = some Tryz.t52:=by kernel_rfl
theorem in56:Tryz.prog.info? 56 = some Tryz.t56:=by kernel_rfl
theorem in57:Tryz.prog.info? 57 = some Tryz.t57:=by kernel_rfl
theorem in58:Tryz.prog.info? 58 = some Tryz.t58:=by kernel_rfl
theorem in60:Tryz.prog.info? 60 = some Tryz.t60:=by kernel_rfl
theorem in128:Tryz.prog.info? 128 = some Tryz.t128:=by kernel_rfl
theorem in151:Tryz.prog.info? 151 = some Tryz.t151:=by kernel_rfl
theorem in156:Tryz.prog.info? 156 = some Tryz.t156:=by kernel_rfl
theorem pl46:∀ w,(plc Tryz.prog 46).run Tryz.prog w = .ok #[(0,1),(1,1),(2,1),(3,1)] w:=fun w=>by kernel_rfl
theorem pl50:∀ w,(plc Tryz.prog 50).run Tryz.prog w = .ok #[(0,4),(4,8),(12,1)] w:=fun w=>by kernel_rfl
theorem pl128:∀ w,(plc Tryz.prog 128).run Tryz.prog w = .ok #[(0,1),(1,4),(5,4)] w:=fun w=>by kernel_rfl
theorem pl151:∀ w,(plc Tryz.prog 151).run Tryz.prog w = .ok #[(0,1),(1,13),(14,13)] w:=fun w=>by kernel_rfl
theorem pl156:∀ w,(plc Tryz.prog 156).run Tryz.prog w = .ok #[(0,1),(1,1),(2,1),(3,1)] w:=fun w=>by kernel_rfl
theorem pl60:∀ w,(plc Tryz.prog 60).run Tryz.prog w = .ok #[(0,1),(1,1),(2,1),(3,1),(4,1),(5,1),(6,1)] w:=fun w=>by kernel_rfl
theorem pl36:∀ w,(plc Tryz.prog 36).run Tryz.prog w = .ok #[(0,2),(2,1),(3,1)] w:=fun w=>by kernel_rfl
theorem pl167:∀ w,(plc Tryz.prog 167).run Tryz.prog w = .ok #[(0,1)] w:=fun w=>by kernel_rfl
end Go.Proofs
end
section
namespace Go.Proofs
open Go.Fw Go.Fx
set_option maxRecDepth 10000
set_option linter.unusedVariables false
set_option linter.unusedSimpArgs false
set_option maxHeartbeats 4000000 in
theorem trace_within_calls {x0:Int} {x1:Int} {x2:Int} {out:Bool} {w0:World} {Lr:List Res} (hP:Sh.trace_within x0 x1 x2 = some out) (hM:MemL w0 (Lr)):Calls Tryz.prog 124 #[.int .i64 x0,.int .i64 x1,.int .i64 x2] w0 (Ret fun v w'=>v = .bool out ∧ MemL w' (Lr)):=by
 unfold Sh.trace_within at hP
 refine calls_enter (vs:=[.int .i64 x0,.int .i64 x1,.int .i64 x2]) Tryz.func124 rfl Tryz.ntmps124 rfl fun a hF=>?_
 refine c_seq ?_
 refine c_region ?_
 refine s_val hF (r_assign hF rfl rfl) rfl rfl rfl fun a hF=>?_
 refine c_nil (n_then ?_)
 refine c_seq ?_
 refine c_joinX hF hM hP (fun F x a w=>match x with | v7=>Fr 15 [(6,.bool v7)] a ∧ MemL w (Lr)) (fun o_j1 hP hK_j1 hF hM=>?_) ?_
 ·refine c_region ?_
  refine s_val hF (r_move hF rfl rfl) rfl rfl rfl fun a hF=>?_
  refine s_val hF (r_move hF rfl rfl) rfl rfl rfl fun a hF=>?_
  refine s_val hF (r_geq hF rfl rfl rfl) rfl rfl rfl fun a hF=>?_
  refine s_val hF (r_move hF rfl rfl) rfl rfl rfl fun a hF=>?_
  refine g_split 10 hF rfl (fun hb8=>?_) (fun hb8=>?_)
  ·have hP:=Fx.cT hb8 hP
   refine g_val hF rfl rfl rfl hb8 (r_move hF rfl rfl) rfl rfl fun a hF=>?_
   refine g_val hF rfl rfl rfl hb8 (r_move hF rfl rfl) rfl rfl fun a hF=>?_
   refine g_val hF rfl rfl rfl hb8 (r_leq hF rfl rfl rfl) rfl rfl fun a hF=>?_
   refine s_val hF (r_pick1 hF rfl rfl hb8 rfl) rfl rfl rfl fun a hF=>?_
   refine s_val hF (r_assign hF rfl rfl) rfl rfl rfl fun a hF=>?_
   refine c_nil (n_then ?_)
   have hP:=Option.some.inj hP
   subst hP
   exact ⟨(decide (x0 ≤ x2)),rfl,hF.to ⟨rfl,trivial⟩,hM⟩
  have hP:=Fx.cF hb8 hP
  refine g_skip hF rfl rfl rfl hb8 rfl rfl fun a hF=>?_
  refine g_skip hF rfl rfl rfl hb8 rfl rfl fun a hF=>?_
  refine g_skip hF rfl rfl rfl hb8 rfl rfl fun a hF=>?_
  refine s_val hF (r_pick0 hF rfl rfl hb8 rfl) rfl rfl rfl fun a hF=>?_
  refine s_val hF (r_assign hF rfl rfl) rfl rfl rfl fun a hF=>?_
  refine c_nil (n_then ?_)
  have hP:=Option.some.inj hP
  subst hP
  exact ⟨false,rfl,hF.to ⟨rfl,trivial⟩,hM⟩
 rintro v7 a w hP ⟨hF,hM⟩
 replace hP:Sh.trace_within_j1 v7 = _:=hP
 unfold Sh.trace_within_j1 at hP
 refine n_then ?_
 refine c_ret ?_
 have hP:=Option.some.inj hP
 subst hP
 refine e_ret1 Tryz.results124 hF rfl ?_
 exact ⟨rfl,hM⟩
set_option maxHeartbeats 4000000 in
theorem trace_goodEnd_calls {x0:Int} {out:Bool} {w0:World} {Lr:List Res} (hP:Sh.trace_goodEnd x0 = some out) (hM:MemL w0 (Lr)):Calls Tryz.prog 100 #[.int .i64 x0] w0 (Ret fun v w'=>v = .bool out ∧ MemL w' (Lr)):=by
 unfold Sh.trace_goodEnd at hP
 refine calls_enter (vs:=[.int .i64 x0]) Tryz.func100 rfl Tryz.ntmps100 rfl fun a hF=>?_
 refine c_seq ?_
 refine c_region ?_
 refine s_val hF (r_assign hF rfl rfl) rfl rfl rfl fun a hF=>?_
 refine c_nil (n_then ?_)
 refine c_seq ?_
 refine c_joinX hF hM hP (fun F x a w=>match x with | v12=>Fr 13 [(2,.bool v12)] a ∧ MemL w (Lr)) (fun o_j1 hP hK_j1 hF hM=>?_) ?_
 ·refine c_region ?_
  refine s_val hF (r_move hF rfl rfl) rfl rfl rfl fun a hF=>?_
  refine s_val hF (r_eql hF rfl rfl rfl) rfl rfl rfl fun a hF=>?_
  refine s_val hF (r_move hF rfl rfl) rfl rfl rfl fun a hF=>?_
  refine g_split 5 hF rfl (fun hb13=>?_) (fun hb13=>?_)
  ·have hP:=Fx.cT hb13 hP
   refine g_skip hF rfl rfl rfl hb13 rfl rfl fun a hF=>?_
   refine g_skip hF rfl rfl rfl hb13 rfl rfl fun a hF=>?_
   refine g_skip hF rfl rfl rfl hb13 rfl rfl fun a hF=>?_
   refine g_skipU hF rfl rfl rfl rfl rfl fun a hF=>?_
   refine g_skipU hF rfl rfl rfl rfl rfl fun a hF=>?_
   refine g_skip hF rfl rfl rfl hb13 rfl rfl fun a hF=>?_
   refine s_val hF (r_pick1 hF rfl rfl hb13 rfl) rfl rfl rfl fun a hF=>?_
   refine s_val hF (r_assign hF rfl rfl) rfl rfl rfl fun a hF=>?_
   refine c_nil (n_then ?_)
   have hP:=Option.some.inj hP
   subst hP
   exact ⟨true,rfl,hF.to ⟨rfl,trivial⟩,hM⟩
  have hP:=Fx.cF hb13 hP
  refine g_val hF rfl rfl rfl hb13 (r_move hF rfl rfl) rfl rfl fun a hF=>?_
  refine g_val hF rfl rfl rfl hb13 (r_geq hF rfl rfl rfl) rfl rfl fun a hF=>?_
  refine g_val hF rfl rfl rfl hb13 (r_move hF rfl rfl) rfl rfl fun a hF=>?_
  refine g_split 8 hF rfl (fun hb14=>?_) (fun hb14=>?_)
  ·have hP:=Fx.cT hb14 hP
   refine g_val hF rfl rfl rfl hb14 (r_move hF rfl rfl) rfl rfl fun a hF=>?_
   refine g_val hF rfl rfl rfl hb14 (r_leq hF rfl rfl rfl) rfl rfl fun a hF=>?_
   refine g_val hF rfl rfl rfl hb13 (r_pick1 hF rfl rfl hb14 rfl) rfl rfl fun a hF=>?_
   refine s_val hF (r_pick0 hF rfl rfl hb13 rfl) rfl rfl rfl fun a hF=>?_
   refine s_val hF (r_assign hF rfl rfl) rfl rfl rfl fun a hF=>?_
   refine c_nil (n_then ?_)
   have hP:=Option.some.inj hP
   subst hP
   exact ⟨(decide (x0 ≤ 89)),rfl,hF.to ⟨rfl,trivial⟩,hM⟩
  have hP:=Fx.cF hb14 hP
  refine g_skip hF rfl rfl rfl hb14 rfl rfl fun a hF=>?_
  refine g_skip hF rfl rfl rfl hb14 rfl rfl fun a hF=>?_
  refine g_val hF rfl rfl rfl hb13 (r_pick0 hF rfl rfl hb14 rfl) rfl rfl fun a hF=>?_
  refine s_val hF (r_pick0 hF rfl rfl hb13 rfl) rfl rfl rfl fun a hF=>?_
  refine s_val hF (r_assign hF rfl rfl) rfl rfl rfl fun a hF=>?_
  refine c_nil (n_then ?_)
  have hP:=Option.some.inj hP
  subst hP
  exact ⟨false,rfl,hF.to ⟨rfl,trivial⟩,hM⟩
 rintro v12 a w hP ⟨hF,hM⟩
 replace hP:Sh.trace_goodEnd_j1 v12 = _:=hP
 unfold Sh.trace_goodEnd_j1 at hP
 refine n_then ?_
 refine c_ret ?_
 have hP:=Option.some.inj hP
 subst hP
 refine e_ret1 Tryz.results100 hF rfl ?_
 exact ⟨rfl,hM⟩
set_option maxHeartbeats 4000000 in
theorem trace_changed_byte_calls {x0:List UInt8} {x1:List UInt8} {s1:SV} {s3:SV} {out:List Int} {w0:World} {Bf:World → Prop} {Lr:List Res} (hP:Sh.trace_changed_byte x0 x1 = some out) (hM:MemL w0 (Lr)) (hsub:∀ w,MemL w Lr → Bf w) (f2:LIn Bf s1 x0) (f4:LIn Bf s3 x1):Calls Tryz.prog 158 #[(s1).v,(s3).v] w0 (Ret fun v w'=>∃ (s281:SV),v = (s281).v ∧ MemL w' (rowL 0 s281 3 out :: Lr)):=by
 unfold Sh.trace_changed_byte at hP
 refine calls_enter (vs:=[(s1).v,(s3).v]) Tryz.func158 rfl Tryz.ntmps158 rfl fun a hF=>?_
 refine c_seq ?_
 refine c_region ?_
 refine s_val hF (r_assign hF rfl rfl) rfl rfl rfl fun a hF=>?_
 refine c_nil (n_then ?_)
 refine c_seq ?_
 refine c_region ?_
 refine s_val hF (r_assign hF rfl rfl) rfl rfl rfl fun a hF=>?_
 refine c_nil (n_then ?_)
 refine c_seq ?_
 refine c_joinX hF hM hP (fun F x a w=>match x with | v465=>∃ (s466:SV),Fr 27 [(5,(s466).v),(4,(SV.nil).v)] a ∧ MemL w (rowL 0 s466 3 v465 :: Lr)) (fun o_j1 hP hK_j1 hF hM=>?_) ?_
 ·refine c_seq ?_
  refine c_region ?_
  refine s_val hF (r_move hF rfl rfl) rfl rfl rfl fun a hF=>?_
  refine s_val hF (r_lenL (f2 _ (hsub _ (dropM hM 0))) Tryz.underlying23 hF rfl rfl) rfl rfl rfl fun a hF=>?_
  refine s_val hF (r_move hF rfl rfl) rfl rfl rfl fun a hF=>?_
  refine c_nil (n_then ?_)
  refine c_block ?_
  have hM:=hM.rowNil (X:=Int) 0 3
  refine c_loopX hF hM hP (fun F x a w=>match x with | (v528,v531)=>∃ (s529:SV),Fr 27 [(5,(s529).v),(9,.int .i64 v531),(0,(s1).v),(1,(s3).v),(4,(SV.nil).v),(8,.int .i64 (x0.length:Int))] a ∧ MemL w (rowL 0 s529 3 v528 :: Lr)) (fun hF hM=>⟨SV.nil,hF.to ⟨rfl,rfl,rfl,rfl,rfl,rfl,trivial⟩,hM⟩) ?_
  rintro ⟨v528,v531⟩ a w o_l2 hP hK_l2 ⟨s529,hF,hM⟩
  replace hP:Sh.trace_changed_byte_l2 x0 x1 v528 v531 = _:=hP
  unfold Sh.trace_changed_byte_l2 at hP
  refine c_seq ?_
  refine c_region ?_
  refine s_val hF (r_lss hF rfl rfl rfl) rfl rfl rfl fun a hF=>?_
  refine c_nil (n_then ?_)
  refine c_seq ?_
  refine c_cond hF (c:=.tmp 10) rfl (fun hb534=>?_) (fun hb534=>?_)
  ·have hP:=Fx.cT hb534 hP
   refine c_skip (n_then ?_)
   refine c_seq ?_
   refine c_joinX hF hM hP (fun F x a w=>match x with | v549=>∃ (s550:SV),Fr 27 [(5,(s550).v),(0,(s1).v),(1,(s3).v),(4,(SV.nil).v),(8,.int .i64 (x0.length:Int)),(9,.int .i64 v531)] a ∧ MemL w (rowL 0 s550 3 v549 :: Lr)) (fun o_j3 hP hK_j3 hF hM=>?_) ?_
   ·refine c_block ?_
    refine c_seq ?_
    refine c_region ?_
    refine s_val hF (r_move hF rfl rfl) rfl rfl rfl fun a hF=>?_
    refine s_val hF (r_assign hF rfl rfl) rfl rfl rfl fun a hF=>?_
    refine c_nil (n_then ?_)
    refine c_seq ?_
    refine d_startT mixed (by kernel_rfl) hM [0] 1 rfl fun hch=>?_
    refine d_val hF hch 0 rfl (by kernel_rfl) rfl rfl rfl (fun w hM=>(r_move hF rfl rfl)) fun a hF=>?_
    refine d_val hF hch 1 rfl (by kernel_rfl) rfl rfl rfl (fun w hM=>(r_move hF rfl rfl)) fun a hF=>?_
    obtain ⟨x554,hx554,hP⟩:=bind_some hP
    have h0x554:=get_some hx554
    refine d_val hF hch 2 rfl (by kernel_rfl) rfl rfl rfl (fun w hM=>(r_indexZ (sz:=1) (f2 _ (hsub _ (dropM hM 1))) Tryz.underlying23 in5 rfl hF rfl rfl rfl (get_bd hx554))) fun a hF=>?_
    refine d_val hF hch 3 rfl (by kernel_rfl) rfl rfl rfl (fun w hM=>(r_load1 Tryz.isAgg5 hF rfl rfl ((((f2 _ (hsub _ (dropM hM 1))).elemS h0x554.2)).get 0 rfl))) fun a hF=>?_
    refine d_val hF hch 4 rfl (by kernel_rfl) rfl rfl rfl (fun w hM=>(r_move hF rfl rfl)) fun a hF=>?_
    refine d_val hF hch 5 rfl (by kernel_rfl) rfl rfl rfl (fun w hM=>(r_move hF rfl rfl)) fun a hF=>?_
    obtain ⟨x555,hx555,hP⟩:=bind_some hP
    have h0x555:=get_some hx555
    refine d_val hF hch 6 rfl (by kernel_rfl) rfl rfl rfl (fun w hM=>(r_indexZ (sz:=1) (f4 _ (hsub _ (dropM hM 1))) Tryz.underlying23 in5 rfl hF rfl rfl rfl (get_bd hx555))) fun a hF=>?_
    refine d_val hF hch 7 rfl (by kernel_rfl) rfl rfl rfl (fun w hM=>(r_load1 Tryz.isAgg5 hF rfl rfl ((((f4 _ (hsub _ (dropM hM 1))).elemS h0x555.2)).get 0 rfl))) fun a hF=>?_
    refine d_val hF hch 8 rfl (by kernel_rfl) rfl rfl rfl (fun w hM=>(r_neq hF rfl rfl rfl)) fun a hF=>?_
    refine d_end hch (by kernel_rfl) fun w hM=>?_
    refine n_then ?_
    refine c_cond hF (c:=.tmp 20) rfl (fun hb556=>?_) (fun hb556=>?_)
    ·have hP:=Fx.cT hb556 hP
     refine c_region ?_
     refine s_val hF (r_move hF rfl rfl) rfl rfl rfl fun a hF=>?_
     refine s_val hF (r_move hF rfl rfl) rfl rfl rfl fun a hF=>?_
     refine s_eff hF rfl rfl rfl (w_slice1 (X:=Int) (y:=v531) Tryz.underlying52 in3 rfl rfl rfl rfl hF rfl rfl rfl fun b_B158_23 w hzB158_23 hAB158_23=>?_)
     have hM:=hM.plus hAB158_23
     replace hM:MemL _ (pt b_B158_23 (encs ([v531]:List Int)) 3 :: rowL 0 s529 3 v528 :: Lr):=hM
     intro a hF
     obtain ⟨x558,hx558,hP⟩:=bind_some hP
     refine s_eff hF rfl rfl rfl (w_appX (X:=Int) hx558 Tryz.underlying52 in3 rfl rfl rfl rfl hF rfl rfl rfl (hM.own (X:=Int) (i:=1) rfl) (hM.ptS (X:=Int) (i:=0) (n:=1) (c:=1) rfl rfl rfl (Nat.le_refl _)) fun s557 w hUs557=>?_)
     have hM:=hM.chg hUs557 (i:=1) rfl
     replace hM:MemL _ (pt b_B158_23 (encs ([v531]:List Int)) 3 :: rowL 0 s557 3 x558 :: Lr):=hM
     intro a hF
     refine s_val hF (r_assign hF rfl rfl) rfl rfl rfl fun a hF=>?_
     refine c_nil (n_block (n_then ?_))
     have hP:=Option.some.inj hP
     subst hP
     exact ⟨x558,rfl,s557,hF.to ⟨rfl,rfl,rfl,rfl,rfl,rfl,trivial⟩,selM hM [1] 2 rfl⟩
    have hP:=Fx.cF hb556 hP
    refine c_skip (n_block (n_then ?_))
    have hP:=Option.some.inj hP
    subst hP
    exact ⟨v528,rfl,s529,hF.to ⟨rfl,rfl,rfl,rfl,rfl,rfl,trivial⟩,hM⟩
   rintro v549 a w hP ⟨s550,hF,hM⟩
   replace hP:Sh.trace_changed_byte_j3 v531 v549 = _:=hP
   unfold Sh.trace_changed_byte_j3 at hP
   refine n_then ?_
   refine c_region ?_
   refine s_val hF (r_add hF rfl rfl rfl) rfl rfl rfl fun a hF=>?_
   refine s_val hF (r_move hF rfl rfl) rfl rfl rfl fun a hF=>?_
   refine c_nil (n_then ?_)
   have hP:=Option.some.inj hP
   subst hP
   exact ⟨(v549,(IntKind.i64.wrap (v531 + 1))),rfl,s550,hF.to ⟨rfl,rfl,rfl,rfl,rfl,rfl,trivial⟩,hM⟩
  have hP:=Fx.cF hb534 hP
  refine c_exit (x_then (x_then (x_hit ?_)))
  refine n_then ?_
  have hP:=Option.some.inj hP
  subst hP
  have hP:=hK_l2 _ rfl
  subst hP
  exact ⟨v528,rfl,s529,hF.to ⟨rfl,rfl,trivial⟩,hM⟩
 rintro v465 a w hP ⟨s466,hF,hM⟩
 replace hP:Sh.trace_changed_byte_j1 v465 = _:=hP
 unfold Sh.trace_changed_byte_j1 at hP
 refine n_then ?_
 refine c_seq ?_
 refine c_region ?_
 refine s_val hF (r_move hF rfl rfl) rfl rfl rfl fun a hF=>?_
 refine s_val hF (r_assign hF rfl rfl) rfl rfl rfl fun a hF=>?_
 refine c_nil (n_then ?_)
 refine c_ret ?_
 have hP:=Option.some.inj hP
 subst hP
 refine e_ret1 Tryz.results158 hF rfl ?_
 exact ⟨s466,rfl,hM⟩
set_option maxHeartbeats 4000000 in
theorem trace_plainPieces_calls {x0:List QPiece} {s1:SV} {hs2:List RPiece} {out:Bool} {w0:World} {Bf:World → Prop} {Lr:List Res} (hP:Sh.trace_plainPieces x0 = some out) (hM:MemL w0 (Lr)) (hsub:∀ w,MemL w Lr → Bf w) (f3:LIn Bf s1 hs2) (q4:Each (QPieceIn Bf) hs2 x0):Calls Tryz.prog 227 #[(s1).v] w0 (Ret fun v w'=>v = .bool out ∧ MemL w' (Lr)):=by
 unfold Sh.trace_plainPieces at hP
 refine calls_enter (vs:=[(s1).v]) Tryz.func227 rfl Tryz.ntmps227 rfl fun a hF=>?_
 refine c_seq ?_
 refine c_region ?_
 refine s_val hF (r_assign hF rfl rfl) rfl rfl rfl fun a hF=>?_
 refine c_nil (n_then ?_)
 refine c_seq ?_
 refine c_region ?_
 refine s_val hF (r_assign hF rfl rfl) rfl rfl rfl fun a hF=>?_
 refine s_val hF (r_assign hF rfl rfl) rfl rfl rfl fun a hF=>?_
 refine c_nil (n_then ?_)
 refine c_seq ?_
 refine c_joinX hF hM hP (fun F x a w=>match x with | _=>Fr 68 [(2,.bool false)] a ∧ MemL w (Lr)) (fun o_j1 hP hK_j1 hF hM=>?_) ?_
 ·refine c_seq ?_
  refine c_region ?_
  refine s_val hF (r_move hF rfl rfl) rfl rfl rfl fun a hF=>?_
  refine s_val hF (r_lenD (f3 _ (hsub _ (dropM hM 0))) q4.len Tryz.underlying58 hF rfl rfl) rfl rfl rfl fun a hF=>?_
  refine s_val hF (r_move hF rfl rfl) rfl rfl rfl fun a hF=>?_
  refine c_nil (n_then ?_)
  refine c_block ?_
  refine c_loopX hF hM hP (fun F x a w=>match x with | (v2916,v2917,v2918)=>Fr 68 [(10,.int .i64 v2916),(3,.int .i64 v2917),(4,.int .i64 v2918),(2,.bool false),(8,(s1).v),(9,.int .i64 (x0.length:Int))] a ∧ MemL w (Lr)) (fun hF hM=>⟨hF.to ⟨rfl,rfl,rfl,rfl,rfl,rfl,trivial⟩,hM⟩) ?_
  rintro ⟨v2916,v2917,v2918⟩ a w o_l2 hP hK_l2 ⟨hF,hM⟩
  replace hP:Sh.trace_plainPieces_l2 x0 v2916 v2917 v2918 = _:=hP
  unfold Sh.trace_plainPieces_l2 at hP
  refine c_seq ?_
  refine c_region ?_
  refine s_val hF (r_lss hF rfl rfl rfl) rfl rfl rfl fun a hF=>?_
  refine c_nil (n_then ?_)
  refine c_seq ?_
  refine c_cond hF (c:=.tmp 11) rfl (fun hb2920=>?_) (fun hb2920=>?_)
  ·have hP:=Fx.cT hb2920 hP
   refine c_skip (n_then ?_)
   refine c_seq ?_
   refine c_block ?_
   refine c_seq ?_
   refine c_region ?_
   obtain ⟨x3005,hx3005,hP⟩:=bind_some hP
   have h0x3005:=get_some hx3005
   obtain ⟨yx3005,hgx3005,hrx3005⟩:=Each.getr q4 h0x3005.2
   have hdx3005:=Each.bd q4 (get_bd hx3005)
   obtain ⟨s3006,s3008,rfl,f3007,f3009⟩:=hrx3005
   refine s_val hF (r_indexZ (sz:=4) (f3 _ (hsub _ (dropM hM 0))) Tryz.underlying58 in156 rfl hF rfl rfl rfl hdx3005) rfl rfl rfl fun a hF=>?_
   refine s_val hF (r_loadn Tryz.isAgg156 Tryz.sizeOf156 hF rfl rfl (RPiece.len _) (((f3 _ (hsub _ (dropM hM 0))).elemS hgx3005))) rfl rfl rfl fun a hF=>?_
   refine s_eff hF rfl rfl rfl (w_alloc z156 (zs:=RPiece.zero.enc) rfl rfl fun b_B227_6 w hzB227_6 hAB227_6=>?_)
   have hM:=hM.plus hAB227_6
   replace hM:MemL _ (pt b_B227_6 (RPiece.enc (RPiece.mk 0 0 SV.nil SV.nil)) 156 :: Lr):=hM
   intro a hF
   refine s_eff0 rfl rfl (w_storen (vs:=_) Tryz.sizeOf156 (hM.obj (i:=0) rfl) hF rfl rfl rfl rfl (RPiece.len _) (RPiece.one _) (by first | (rw [RPiece.len,RPiece.len]; decide) | (rw [RPiece.len]; decide)) (put_all ((RPiece.len _).trans (RPiece.len _).symm)) fun w hU3010=>?_)
   have hM:=hM.chg hU3010 (i:=0) rfl
   replace hM:MemL _ (pt b_B227_6 (RPiece.enc (RPiece.mk x3005.table x3005.from_ s3006 s3008)) 156 :: Lr):=hM
   refine c_nil (n_then ?_)
   refine c_seq ?_
   refine c_joinX hF hM hP (fun F x a w=>match x with | (v3019,v3020)=>Fr 68 [(3,.int .i64 v3019),(4,.int .i64 v3020),(10,.int .i64 v2916),(2,.bool false),(6,.pointer (some ⟨b_B227_6,0,none⟩)),(8,(s1).v),(9,.int .i64 (x0.length:Int))] a ∧ MemL w (pt b_B227_6 (RPiece.enc (RPiece.mk x3005.table x3005.from_ s3006 s3008)) 156 :: Lr)) (fun o_j3 hP hK_j3 hF hM=>?_) ?_
   ·refine c_block ?_
    refine c_seq ?_
    refine c_region ?_
    refine s_val hF (r_fieldAddr (off':=0) Tryz.underlying156 rfl in3 rfl hF rfl rfl rfl) rfl rfl rfl fun a hF=>?_
    refine s_val hF (r_load1 Tryz.isAgg3 hF rfl rfl (hM.cell (i:=0) rfl (RPiece.g_table _))) rfl rfl rfl fun a hF=>?_
    refine s_val hF (r_move hF rfl rfl) rfl rfl rfl fun a hF=>?_
    obtain ⟨y3022,hy3022,hP⟩:=bind_some hP
    refine s_eff hF rfl rfl rfl (w_call (xs:=[.tmp 16,.tmp 17,.const (.int .i64 (7))]) Tryz.call124 hF rfl rfl (trace_within_calls hy3022 hM ) fun v w hR=>?_)
    obtain ⟨rfl,hM⟩:=hR
    replace hM:MemL _ (pt b_B227_6 (RPiece.enc (RPiece.mk x3005.table x3005.from_ s3006 s3008)) 156 :: Lr):=hM
    intro a hF
    refine s_val hF (r_not hF rfl rfl) rfl rfl rfl fun a hF=>?_
    refine s_val hF (r_assign hF rfl rfl) rfl rfl rfl fun a hF=>?_
    refine c_nil (n_then ?_)
    refine c_cond hF (c:=.tmp 14) rfl (fun hb3023=>?_) (fun hb3023=>?_)
    ·have hP:=Fx.cT hb3023 hP
     refine c_seq ?_
     refine c_region ?_
     refine s_val hF (r_assign hF rfl rfl) rfl rfl rfl fun a hF=>?_
     refine c_nil (n_then ?_)
     refine c_ret ?_
     have hP:=Option.some.inj hP
     subst hP
     have hP:=fin_inr hK_j3
     subst hP
     have hP:=hK_l2 _ rfl
     subst hP
     have hP:=fin_inr hK_j1
     subst hP
     refine e_ret1 Tryz.results227 hF rfl ?_
     exact ⟨rfl,selM hM [] 1 rfl⟩
    have hP:=Fx.cF hb3023 hP
    refine c_seq ?_
    refine c_region ?_
    refine s_val hF (r_fieldAddr (off':=0) Tryz.underlying156 rfl in3 rfl hF rfl rfl rfl) rfl rfl rfl fun a hF=>?_
    refine s_val hF (r_load1 Tryz.isAgg3 hF rfl rfl (hM.cell (i:=0) rfl (RPiece.g_table _))) rfl rfl rfl fun a hF=>?_
    refine s_val hF (r_move hF rfl rfl) rfl rfl rfl fun a hF=>?_
    refine s_val hF (r_gtr hF rfl rfl rfl) rfl rfl rfl fun a hF=>?_
    refine s_val hF (r_assign hF rfl rfl) rfl rfl rfl fun a hF=>?_
    refine c_nil (n_then ?_)
    refine c_cond hF (c:=.tmp 20) rfl (fun hb3024=>?_) (fun hb3024=>?_)
    ·have hP:=Fx.cT hb3024 hP
     refine c_region ?_
     refine s_val hF (r_fieldAddr (off':=0) Tryz.underlying156 rfl in3 rfl hF rfl rfl rfl) rfl rfl rfl fun a hF=>?_
     refine s_val hF (r_load1 Tryz.isAgg3 hF rfl rfl (hM.cell (i:=0) rfl (RPiece.g_table _))) rfl rfl rfl fun a hF=>?_
     refine s_val hF (r_assign hF rfl rfl) rfl rfl rfl fun a hF=>?_
     refine s_val hF (r_assign hF rfl rfl) rfl rfl rfl fun a hF=>?_
     refine c_nil (n_block (n_then ?_))
     have hP:=Option.some.inj hP
     subst hP
     exact ⟨(x3005.table,0),rfl,hF.to ⟨rfl,rfl,rfl,rfl,rfl,rfl,rfl,trivial⟩,hM⟩
    have hP:=Fx.cF hb3024 hP
    refine c_skip (n_block (n_then ?_))
    have hP:=Option.some.inj hP
    subst hP
    exact ⟨(v2917,v2918),rfl,hF.to ⟨rfl,rfl,rfl,rfl,rfl,rfl,rfl,trivial⟩,hM⟩
   rintro ⟨v3019,v3020⟩ a w hP ⟨hF,hM⟩
   replace hP:Sh.trace_plainPieces_j3 v2916 x3005 v3019 v3020 = _:=hP
   unfold Sh.trace_plainPieces_j3 at hP
   refine n_then ?_
   refine c_seq ?_
   refine c_region ?_
   refine s_val hF (r_fieldAddr (off':=2) Tryz.underlying156 rfl in23 rfl hF rfl rfl rfl) rfl rfl rfl fun a hF=>?_
   refine s_val hF (r_load1 Tryz.isAgg23 hF rfl rfl (hM.cell (i:=0) rfl (RPiece.g_old _))) rfl rfl rfl fun a hF=>?_
   refine s_val hF (r_lenL (f3007 _ (hsub _ (dropM hM 1))) Tryz.underlying23 hF rfl rfl) rfl rfl rfl fun a hF=>?_
   refine s_val hF (r_assign hF rfl rfl) rfl rfl rfl fun a hF=>?_
   refine c_nil (n_then ?_)
   refine c_seq ?_
   refine c_seq ?_
   refine c_joinX hF hM hP (fun F x a w=>match x with | v3077=>Fr 68 [(61,.bool v3077),(10,.int .i64 v2916),(2,.bool false),(3,.int .i64 v3019),(4,.int .i64 v3020),(6,.pointer (some ⟨b_B227_6,0,none⟩)),(7,.int .i64 (x3005.old.length:Int)),(8,(s1).v),(9,.int .i64 (x0.length:Int))] a ∧ MemL w (pt b_B227_6 (RPiece.enc (RPiece.mk x3005.table x3005.from_ s3006 s3008)) 156 :: Lr)) (fun o_j4 hP hK_j4 hF hM=>?_) ?_
   ·refine c_region ?_
    refine s_val hF (r_move hF rfl rfl) rfl rfl rfl fun a hF=>?_
    refine s_val hF (r_eql hF rfl rfl rfl) rfl rfl rfl fun a hF=>?_
    refine s_val hF (r_move hF rfl rfl) rfl rfl rfl fun a hF=>?_
    refine g_split 32 hF rfl (fun hb3078=>?_) (fun hb3078=>?_)
    ·have hP:=Fx.cT hb3078 hP
     refine g_skip hF rfl rfl rfl hb3078 rfl rfl fun a hF=>?_
     refine g_skip hF rfl rfl rfl hb3078 rfl rfl fun a hF=>?_
     refine g_skip hF rfl rfl rfl hb3078 rfl rfl fun a hF=>?_
     refine g_skip hF rfl rfl rfl hb3078 rfl rfl fun a hF=>?_
     refine g_skip hF rfl rfl rfl hb3078 rfl rfl fun a hF=>?_
     refine s_val hF (r_pick1 hF rfl rfl hb3078 rfl) rfl rfl rfl fun a hF=>?_
     refine s_val hF (r_move hF rfl rfl) rfl rfl rfl fun a hF=>?_
     refine g_skip hF rfl rfl rfl rfl rfl rfl fun a hF=>?_
     refine g_skip hF rfl rfl rfl rfl rfl rfl fun a hF=>?_
     refine s_val hF (r_pick1 hF rfl rfl rfl rfl) rfl rfl rfl fun a hF=>?_
     refine s_val hF (r_move hF rfl rfl) rfl rfl rfl fun a hF=>?_
     refine g_skip hF rfl rfl rfl rfl rfl rfl fun a hF=>?_
     refine g_skip hF rfl rfl rfl rfl rfl rfl fun a hF=>?_
     refine g_skip hF rfl rfl rfl rfl rfl rfl fun a hF=>?_
     refine g_skip hF rfl rfl rfl rfl rfl rfl fun a hF=>?_
     refine g_skip hF rfl rfl rfl rfl rfl rfl fun a hF=>?_
     refine g_skip hF rfl rfl rfl rfl rfl rfl fun a hF=>?_
     refine g_skip hF rfl rfl rfl rfl rfl rfl fun a hF=>?_
     refine s_val hF (r_pick1 hF rfl rfl rfl rfl) rfl rfl rfl fun a hF=>?_
     refine s_val hF (r_move hF rfl rfl) rfl rfl rfl fun a hF=>?_
     refine g_skip hF rfl rfl rfl rfl rfl rfl fun a hF=>?_
     refine g_skip hF rfl rfl rfl rfl rfl rfl fun a hF=>?_
     refine g_skip hF rfl rfl rfl rfl rfl rfl fun a hF=>?_
     refine g_skip hF rfl rfl rfl rfl rfl rfl fun a hF=>?_
     refine g_skip hF rfl rfl rfl rfl rfl rfl fun a hF=>?_
     refine g_skip hF rfl rfl rfl rfl rfl rfl fun a hF=>?_
     refine g_skip hF rfl rfl rfl rfl rfl rfl fun a hF=>?_
     refine g_skip hF rfl rfl rfl rfl rfl rfl fun a hF=>?_
     refine s_val hF (r_pick1 hF rfl rfl rfl rfl) rfl rfl rfl fun a hF=>?_
     refine c_nil (n_then ?_)
     have hP:=Option.some.inj hP
     subst hP
     exact ⟨true,rfl,hF.to ⟨rfl,rfl,rfl,rfl,rfl,rfl,rfl,rfl,rfl,trivial⟩,hM⟩
    have hP:=Fx.cF hb3078 hP
    refine g_val hF rfl rfl rfl hb3078 (r_fieldAddr (off':=3) Tryz.underlying156 rfl in23 rfl hF rfl rfl rfl) rfl rfl fun a hF=>?_
    refine g_val hF rfl rfl rfl hb3078 (r_load1 Tryz.isAgg23 hF rfl rfl (hM.cell (i:=0) rfl (RPiece.g_new _))) rfl rfl fun a hF=>?_
    refine g_val hF rfl rfl rfl hb3078 (r_lenL (f3009 _ (hsub _ (dropM hM 1))) Tryz.underlying23 hF rfl rfl) rfl rfl fun a hF=>?_
    refine g_val hF rfl rfl rfl hb3078 (r_move hF rfl rfl) rfl rfl fun a hF=>?_
    refine g_val hF rfl rfl rfl hb3078 (r_neq hF rfl rfl rfl) rfl rfl fun a hF=>?_
    refine s_val hF (r_pick0 hF rfl rfl hb3078 rfl) rfl rfl rfl fun a hF=>?_
    refine s_val hF (r_move hF rfl rfl) rfl rfl rfl fun a hF=>?_
    refine g_split 39 hF rfl (fun hb3079=>?_) (fun hb3079=>?_)
    ·have hP:=Fx.cT hb3079 hP
     refine g_skip hF rfl rfl rfl hb3079 rfl rfl fun a hF=>?_
     refine g_skip hF rfl rfl rfl hb3079 rfl rfl fun a hF=>?_
     refine s_val hF (r_pick1 hF rfl rfl hb3079 rfl) rfl rfl rfl fun a hF=>?_
     refine s_val hF (r_move hF rfl rfl) rfl rfl rfl fun a hF=>?_
     refine g_skip hF rfl rfl rfl rfl rfl rfl fun a hF=>?_
     refine g_skip hF rfl rfl rfl rfl rfl rfl fun a hF=>?_
     refine g_skip hF rfl rfl rfl rfl rfl rfl fun a hF=>?_
     refine g_skip hF rfl rfl rfl rfl rfl rfl fun a hF=>?_
     refine g_skip hF rfl rfl rfl rfl rfl rfl fun a hF=>?_
     refine g_skip hF rfl rfl rfl rfl rfl rfl fun a hF=>?_
     refine g_skip hF rfl rfl rfl rfl rfl rfl fun a hF=>?_
     refine s_val hF (r_pick1 hF rfl rfl rfl rfl) rfl rfl rfl fun a hF=>?_
     refine s_val hF (r_move hF rfl rfl) rfl rfl rfl fun a hF=>?_
     refine g_skip hF rfl rfl rfl rfl rfl rfl fun a hF=>?_
     refine g_skip hF rfl rfl rfl rfl rfl rfl fun a hF=>?_
     refine g_skip hF rfl rfl rfl rfl rfl rfl fun a hF=>?_
     refine g_skip hF rfl rfl rfl rfl rfl rfl fun a hF=>?_
     refine g_skip hF rfl rfl rfl rfl rfl rfl fun a hF=>?_
     refine g_skip hF rfl rfl rfl rfl rfl rfl fun a hF=>?_
     refine g_skip hF rfl rfl rfl rfl rfl rfl fun a hF=>?_
     refine g_skip hF rfl rfl rfl rfl rfl rfl fun a hF=>?_
     refine s_val hF (r_pick1 hF rfl rfl rfl rfl) rfl rfl rfl fun a hF=>?_
     refine c_nil (n_then ?_)
     have hP:=Option.some.inj hP
     subst hP
     exact ⟨true,rfl,hF.to ⟨rfl,rfl,rfl,rfl,rfl,rfl,rfl,rfl,rfl,trivial⟩,hM⟩
    have hP:=Fx.cF hb3079 hP
    refine g_val hF rfl rfl rfl hb3079 (r_move hF rfl rfl) rfl rfl fun a hF=>?_
    refine g_val hF rfl rfl rfl hb3079 (r_gtr hF rfl rfl rfl) rfl rfl fun a hF=>?_
    refine s_val hF (r_pick0 hF rfl rfl hb3079 rfl) rfl rfl rfl fun a hF=>?_
    refine s_val hF (r_move hF rfl rfl) rfl rfl rfl fun a hF=>?_
    refine g_split 43 hF rfl (fun hb3080=>?_) (fun hb3080=>?_)
    ·have hP:=Fx.cT hb3080 hP
     refine g_skip hF rfl rfl rfl hb3080 rfl rfl fun a hF=>?_
     refine g_skip hF rfl rfl rfl hb3080 rfl rfl fun a hF=>?_
     refine g_skip hF rfl rfl rfl hb3080 rfl rfl fun a hF=>?_
     refine g_skip hF rfl rfl rfl hb3080 rfl rfl fun a hF=>?_
     refine g_skip hF rfl rfl rfl hb3080 rfl rfl fun a hF=>?_
     refine g_skip hF rfl rfl rfl hb3080 rfl rfl fun a hF=>?_
     refine g_skip hF rfl rfl rfl hb3080 rfl rfl fun a hF=>?_
     refine s_val hF (r_pick1 hF rfl rfl hb3080 rfl) rfl rfl rfl fun a hF=>?_
     refine s_val hF (r_move hF rfl rfl) rfl rfl rfl fun a hF=>?_
     refine g_skip hF rfl rfl rfl rfl rfl rfl fun a hF=>?_
     refine g_skip hF rfl rfl rfl rfl rfl rfl fun a hF=>?_
     refine g_skip hF rfl rfl rfl rfl rfl rfl fun a hF=>?_
     refine g_skip hF rfl rfl rfl rfl rfl rfl fun a hF=>?_
     refine g_skip hF rfl rfl rfl rfl rfl rfl fun a hF=>?_
     refine g_skip hF rfl rfl rfl rfl rfl rfl fun a hF=>?_
     refine g_skip hF rfl rfl rfl rfl rfl rfl fun a hF=>?_
     refine g_skip hF rfl rfl rfl rfl rfl rfl fun a hF=>?_
     refine s_val hF (r_pick1 hF rfl rfl rfl rfl) rfl rfl rfl fun a hF=>?_
     refine c_nil (n_then ?_)
     have hP:=Option.some.inj hP
     subst hP
     exact ⟨true,rfl,hF.to ⟨rfl,rfl,rfl,rfl,rfl,rfl,rfl,rfl,rfl,trivial⟩,hM⟩
    have hP:=Fx.cF hb3080 hP
    refine g_val hF rfl rfl rfl hb3080 (r_fieldAddr (off':=1) Tryz.underlying156 rfl in3 rfl hF rfl rfl rfl) rfl rfl fun a hF=>?_
    refine g_val hF rfl rfl rfl hb3080 (r_load1 Tryz.isAgg3 hF rfl rfl (hM.cell (i:=0) rfl (RPiece.g_from_ _))) rfl rfl fun a hF=>?_
    refine g_val hF rfl rfl rfl hb3080 (r_move hF rfl rfl) rfl rfl fun a hF=>?_
    refine g_val hF rfl rfl rfl hb3080 (r_move hF rfl rfl) rfl rfl fun a hF=>?_
    refine g_val hF rfl rfl rfl hb3080 (r_sub hF rfl rfl rfl) rfl rfl fun a hF=>?_
    obtain ⟨y3082,hy3082,hP⟩:=bind_some hP
    refine g_eff hF rfl rfl rfl hb3080 rfl rfl (w_call (xs:=[.tmp 45,.tmp 46,.tmp 48]) Tryz.call124 hF rfl rfl (trace_within_calls hy3082 hM ) fun v w hR=>?_)
    obtain ⟨rfl,hM⟩:=hR
    replace hM:MemL _ (pt b_B227_6 (RPiece.enc (RPiece.mk x3005.table x3005.from_ s3006 s3008)) 156 :: Lr):=hM
    intro a hF
    refine g_val hF rfl rfl rfl hb3080 (r_not hF rfl rfl) rfl rfl fun a hF=>?_
    refine s_val hF (r_pick0 hF rfl rfl hb3080 rfl) rfl rfl rfl fun a hF=>?_
    refine s_val hF (r_move hF rfl rfl) rfl rfl rfl fun a hF=>?_
    refine g_split 52 hF rfl (fun hb3083=>?_) (fun hb3083=>?_)
    ·have hP:=Fx.cT hb3083 hP
     refine g_skip hF rfl rfl rfl hb3083 rfl rfl fun a hF=>?_
     refine g_skip hF rfl rfl rfl hb3083 rfl rfl fun a hF=>?_
     refine g_skip hF rfl rfl rfl hb3083 rfl rfl fun a hF=>?_
     refine g_skip hF rfl rfl rfl hb3083 rfl rfl fun a hF=>?_
     refine g_skip hF rfl rfl rfl hb3083 rfl rfl fun a hF=>?_
     refine g_skip hF rfl rfl rfl hb3083 rfl rfl fun a hF=>?_
     refine g_skip hF rfl rfl rfl hb3083 rfl rfl fun a hF=>?_
     refine g_skip hF rfl rfl rfl hb3083 rfl rfl fun a hF=>?_
     refine s_val hF (r_pick1 hF rfl rfl hb3083 rfl) rfl rfl rfl fun a hF=>?_
     refine c_nil (n_then ?_)
     have hP:=Option.some.inj hP
     subst hP
     exact ⟨true,rfl,hF.to ⟨rfl,rfl,rfl,rfl,rfl,rfl,rfl,rfl,rfl,trivial⟩,hM⟩
    have hP:=Fx.cF hb3083 hP
    refine g_val hF rfl rfl rfl hb3083 (r_fieldAddr (off':=2) Tryz.underlying156 rfl in23 rfl hF rfl rfl rfl) rfl rfl fun a hF=>?_
    refine g_val hF rfl rfl rfl hb3083 (r_load1 Tryz.isAgg23 hF rfl rfl (hM.cell (i:=0) rfl (RPiece.g_old _))) rfl rfl fun a hF=>?_
    refine g_val hF rfl rfl rfl hb3083 (r_fieldAddr (off':=3) Tryz.underlying156 rfl in23 rfl hF rfl rfl rfl) rfl rfl fun a hF=>?_
    refine g_val hF rfl rfl rfl hb3083 (r_load1 Tryz.isAgg23 hF rfl rfl (hM.cell (i:=0) rfl (RPiece.g_new _))) rfl rfl fun a hF=>?_
    obtain ⟨y3085,hy3085,hP⟩:=bind_some hP
    refine g_eff hF rfl rfl rfl hb3083 rfl rfl (w_call (xs:=[.tmp 54,.tmp 56]) Tryz.call158 hF rfl rfl (trace_changed_byte_calls hy3085 hM (Bf:=Bf) (fun w hM=>hsub _ (dropM hM 1)) f3007 f3009) fun v w hR=>?_)
    obtain ⟨s3086,rfl,hM⟩:=hR
    replace hM:MemL _ (rowL 0 s3086 3 y3085 :: pt b_B227_6 (RPiece.enc (RPiece.mk x3005.table x3005.from_ s3006 s3008)) 156 :: Lr):=hM
    intro a hF
    refine g_val hF rfl rfl rfl hb3083 (r_lenL (hM.rowS (X:=Int) (i:=0) rfl) Tryz.underlying52 hF rfl rfl) rfl rfl fun a hF=>?_
    refine g_val hF rfl rfl rfl hb3083 (r_move hF rfl rfl) rfl rfl fun a hF=>?_
    refine g_val hF rfl rfl rfl hb3083 (r_lss hF rfl rfl rfl) rfl rfl fun a hF=>?_
    refine s_val hF (r_pick0 hF rfl rfl hb3083 rfl) rfl rfl rfl fun a hF=>?_
    refine c_nil (n_then ?_)
    have hP:=Option.some.inj hP
    subst hP
    exact ⟨(decide ((y3085.length:Int) < (x3005.old.length:Int))),rfl,hF.to ⟨rfl,rfl,rfl,rfl,rfl,rfl,rfl,rfl,rfl,trivial⟩,selM hM [1] 2 rfl⟩
   rintro v3077 a w hP ⟨hF,hM⟩
   replace hP:Sh.trace_plainPieces_j4 v2916 x3005 v3019 v3077 = _:=hP
   unfold Sh.trace_plainPieces_j4 at hP
   refine n_then ?_
   refine c_cond hF (c:=.tmp 61) rfl (fun hb3088=>?_) (fun hb3088=>?_)
   ·have hP:=Fx.cT hb3088 hP
    refine c_seq ?_
    refine c_region ?_
    refine s_val hF (r_assign hF rfl rfl) rfl rfl rfl fun a hF=>?_
    refine c_nil (n_then ?_)
    refine c_ret ?_
    have hP:=Option.some.inj hP
    subst hP
    have hP:=hK_l2 _ rfl
    subst hP
    have hP:=fin_inr hK_j1
    subst hP
    refine e_ret1 Tryz.results227 hF rfl ?_
    exact ⟨rfl,selM hM [] 1 rfl⟩
   have hP:=Fx.cF hb3088 hP
   refine c_skip (n_then ?_)
   refine c_region ?_
   refine s_val hF (r_fieldAddr (off':=1) Tryz.underlying156 rfl in3 rfl hF rfl rfl rfl) rfl rfl rfl fun a hF=>?_
   refine s_val hF (r_load1 Tryz.isAgg3 hF rfl rfl (hM.cell (i:=0) rfl (RPiece.g_from_ _))) rfl rfl rfl fun a hF=>?_
   refine s_val hF (r_move hF rfl rfl) rfl rfl rfl fun a hF=>?_
   refine s_val hF (r_add hF rfl rfl rfl) rfl rfl rfl fun a hF=>?_
   refine s_val hF (r_add hF rfl rfl rfl) rfl rfl rfl fun a hF=>?_
   refine s_val hF (r_assign hF rfl rfl) rfl rfl rfl fun a hF=>?_
   refine c_nil (n_block (n_then ?_))
   refine c_region ?_
   refine s_val hF (r_add hF rfl rfl rfl) rfl rfl rfl fun a hF=>?_
   refine s_val hF (r_move hF rfl rfl) rfl rfl rfl fun a hF=>?_
   refine c_nil (n_then ?_)
   have hP:=Option.some.inj hP
   subst hP
   exact ⟨((IntKind.i64.wrap (v2916 + 1)),v3019,(IntKind.i64.wrap ((IntKind.i64.wrap (x3005.from_ + (x3005.old.length:Int))) + 1))),rfl,hF.to ⟨rfl,rfl,rfl,rfl,rfl,rfl,trivial⟩,selM hM [] 1 rfl⟩
  have hP:=Fx.cF hb2920 hP
  refine c_exit (x_then (x_then (x_hit ?_)))
  refine n_then ?_
  have hP:=Option.some.inj hP
  subst hP
  have hP:=hK_l2 _ rfl
  subst hP
  exact ⟨(),rfl,hF.to ⟨rfl,trivial⟩,hM⟩
 rintro ⟨⟩ a w hP ⟨hF,hM⟩
 replace hP:Sh.trace_plainPieces_j1 = _:=hP
 unfold Sh.trace_plainPieces_j1 at hP
 refine n_then ?_
 refine c_seq ?_
 refine c_region ?_
 refine s_val hF (r_assign hF rfl rfl) rfl rfl rfl fun a hF=>?_
 refine c_nil (n_then ?_)
 refine c_ret ?_
 have hP:=Option.some.inj hP
 subst hP
 refine e_ret1 Tryz.results227 hF rfl ?_
 exact ⟨rfl,hM⟩
set_option maxHeartbeats 4000000 in
theorem trace_plain_calls {x0:QMark} {s1:SV} {s3:SV} {s5:SV} {hs6:List RPiece} {s9:SV} {out:Bool} {w0:World} {Bf:World → Prop} {Lr:List Res} (hP:Sh.trace_plain x0 = some out) (hM:MemL w0 (Lr)) (hsub:∀ w,MemL w Lr → Bf w) (f2:LIn Bf s1 x0.regs) (f4:LIn Bf s3 x0.slots) (f7:LIn Bf s5 hs6) (q8:Each (QPieceIn Bf) hs6 x0.pieces) (f10:LIn Bf s9 x0.sent):Calls Tryz.prog 173 #[.agg (RMark.enc (RMark.mk x0.at_ x0.next x0.done s1 s3 s5 s9)).toArray] w0 (Ret fun v w'=>v = .bool out ∧ MemL w' (Lr)):=by
 unfold Sh.trace_plain at hP
 refine calls_enter (vs:=[.agg (RMark.enc (RMark.mk x0.at_ x0.next x0.done s1 s3 s5 s9)).toArray]) Tryz.func173 rfl Tryz.ntmps173 rfl fun a hF=>?_
 refine c_seq ?_
 refine c_region ?_
 refine s_eff hF rfl rfl rfl (w_box hF rfl rfl rfl fun b_B173_1 w hzB173_1 hAB173_1=>?_)
 have hM:=hM.plus hAB173_1
 replace hM:MemL _ (pt b_B173_1 (RMark.enc (RMark.mk x0.at_ x0.next x0.done s1 s3 s5 s9)) 60 :: Lr):=hM
 intro a hF
 refine s_val hF (r_assign hF rfl rfl) rfl rfl rfl fun a hF=>?_
 refine c_nil (n_then ?_)
 refine c_seq ?_
 refine c_seq ?_
 refine c_joinX hF hM hP (fun F x a w=>match x with | v1009=>Fr 73 [(23,.bool v1009),(1,.pointer (some ⟨b_B173_1,0,none⟩)),(2,.bool false)] a ∧ MemL w (pt b_B173_1 (RMark.enc (RMark.mk x0.at_ x0.next x0.done s1 s3 s5 s9)) 60 :: Lr)) (fun o_j1 hP hK_j1 hF hM=>?_) ?_
 ·refine c_region ?_
  refine s_val hF (r_fieldAddr (off':=0) Tryz.underlying60 rfl in3 rfl hF rfl rfl rfl) rfl rfl rfl fun a hF=>?_
  refine s_val hF (r_load1 Tryz.isAgg3 hF rfl rfl (hM.cell (i:=0) rfl (RMark.g_at_ _))) rfl rfl rfl fun a hF=>?_
  obtain ⟨y1011,hy1011,hP⟩:=bind_some hP
  refine s_eff hF rfl rfl rfl (w_call (xs:=[.tmp 9,.const (.int .i64 (0)),.const (.int .i64 (4095))]) Tryz.call124 hF rfl rfl (trace_within_calls hy1011 hM ) fun v w hR=>?_)
  obtain ⟨rfl,hM⟩:=hR
  replace hM:MemL _ (pt b_B173_1 (RMark.enc (RMark.mk x0.at_ x0.next x0.done s1 s3 s5 s9)) 60 :: Lr):=hM
  intro a hF
  refine s_val hF (r_not hF rfl rfl) rfl rfl rfl fun a hF=>?_
  refine s_val hF (r_move hF rfl rfl) rfl rfl rfl fun a hF=>?_
  refine g_split 12 hF rfl (fun hb1012=>?_) (fun hb1012=>?_)
  ·have hP:=Fx.cT hb1012 hP
   refine g_skip hF rfl rfl rfl hb1012 rfl rfl fun a hF=>?_
   refine g_skip hF rfl rfl rfl hb1012 rfl rfl fun a hF=>?_
   refine g_skip hF rfl rfl rfl hb1012 rfl rfl fun a hF=>?_
   refine g_skip hF rfl rfl rfl hb1012 rfl rfl fun a hF=>?_
   refine s_val hF (r_pick1 hF rfl rfl hb1012 rfl) rfl rfl rfl fun a hF=>?_
   refine s_val hF (r_move hF rfl rfl) rfl rfl rfl fun a hF=>?_
   refine g_skip hF rfl rfl rfl rfl rfl rfl fun a hF=>?_
   refine g_skip hF rfl rfl rfl rfl rfl rfl fun a hF=>?_
   refine g_skip hF rfl rfl rfl rfl rfl rfl fun a hF=>?_
   refine g_skip hF rfl rfl rfl rfl rfl rfl fun a hF=>?_
   refine s_val hF (r_pick1 hF rfl rfl rfl rfl) rfl rfl rfl fun a hF=>?_
   refine c_nil (n_then ?_)
   have hP:=Option.some.inj hP
   subst hP
   exact ⟨true,rfl,hF.to ⟨rfl,rfl,rfl,trivial⟩,hM⟩
  have hP:=Fx.cF hb1012 hP
  refine g_val hF rfl rfl rfl hb1012 (r_fieldAddr (off':=1) Tryz.underlying60 rfl in3 rfl hF rfl rfl rfl) rfl rfl fun a hF=>?_
  refine g_val hF rfl rfl rfl hb1012 (r_load1 Tryz.isAgg3 hF rfl rfl (hM.cell (i:=0) rfl (RMark.g_next _))) rfl rfl fun a hF=>?_
  obtain ⟨y1014,hy1014,hP⟩:=bind_some hP
  refine g_eff hF rfl rfl rfl hb1012 rfl rfl (w_call (xs:=[.tmp 14,.const (.int .i64 (0)),.const (.int .i64 (4095))]) Tryz.call124 hF rfl rfl (trace_within_calls hy1014 hM ) fun v w hR=>?_)
  obtain ⟨rfl,hM⟩:=hR
  replace hM:MemL _ (pt b_B173_1 (RMark.enc (RMark.mk x0.at_ x0.next x0.done s1 s3 s5 s9)) 60 :: Lr):=hM
  intro a hF
  refine g_val hF rfl rfl rfl hb1012 (r_not hF rfl rfl) rfl rfl fun a hF=>?_
  refine s_val hF (r_pick0 hF rfl rfl hb1012 rfl) rfl rfl rfl fun a hF=>?_
  refine s_val hF (r_move hF rfl rfl) rfl rfl rfl fun a hF=>?_
  refine g_split 18 hF rfl (fun hb1015=>?_) (fun hb1015=>?_)
  ·have hP:=Fx.cT hb1015 hP
   refine g_skip hF rfl rfl rfl hb1015 rfl rfl fun a hF=>?_
   refine g_skip hF rfl rfl rfl hb1015 rfl rfl fun a hF=>?_
   refine g_skip hF rfl rfl rfl hb1015 rfl rfl fun a hF=>?_
   refine g_skip hF rfl rfl rfl hb1015 rfl rfl fun a hF=>?_
   refine s_val hF (r_pick1 hF rfl rfl hb1015 rfl) rfl rfl rfl fun a hF=>?_
   refine c_nil (n_then ?_)
   have hP:=Option.some.inj hP
   subst hP
   exact ⟨true,rfl,hF.to ⟨rfl,rfl,rfl,trivial⟩,hM⟩
  have hP:=Fx.cF hb1015 hP
  refine g_val hF rfl rfl rfl hb1015 (r_fieldAddr (off':=6) Tryz.underlying60 rfl in52 rfl hF rfl rfl rfl) rfl rfl fun a hF=>?_
  refine g_val hF rfl rfl rfl hb1015 (r_load1 Tryz.isAgg52 hF rfl rfl (hM.cell (i:=0) rfl (RMark.g_sent _))) rfl rfl fun a hF=>?_
  refine g_val hF rfl rfl rfl hb1015 (r_lenL (f10 _ (hsub _ (dropM hM 1))) Tryz.underlying52 hF rfl rfl) rfl rfl fun a hF=>?_
  refine g_val hF rfl rfl rfl hb1015 (r_gtr hF rfl rfl rfl) rfl rfl fun a hF=>?_
  refine s_val hF (r_pick0 hF rfl rfl hb1015 rfl) rfl rfl rfl fun a hF=>?_
  refine c_nil (n_then ?_)
  have hP:=Option.some.inj hP
  subst hP
  exact ⟨(decide (1 < (x0.sent.length:Int))),rfl,hF.to ⟨rfl,rfl,rfl,trivial⟩,hM⟩
 rintro v1009 a w hP ⟨hF,hM⟩
 replace hP:Sh.trace_plain_j1 x0 v1009 = _:=hP
 unfold Sh.trace_plain_j1 at hP
 refine n_then ?_
 refine c_cond hF (c:=.tmp 23) rfl (fun hb1016=>?_) (fun hb1016=>?_)
 ·have hP:=Fx.cT hb1016 hP
  refine c_seq ?_
  refine c_region ?_
  refine s_val hF (r_assign hF rfl rfl) rfl rfl rfl fun a hF=>?_
  refine c_nil (n_then ?_)
  refine c_ret ?_
  have hP:=Option.some.inj hP
  subst hP
  refine e_ret1 Tryz.results173 hF rfl ?_
  exact ⟨rfl,selM hM [] 1 rfl⟩
 have hP:=Fx.cF hb1016 hP
 refine c_skip (n_then ?_)
 refine c_seq ?_
 refine c_region ?_
 refine s_val hF (r_assign hF rfl rfl) rfl rfl rfl fun a hF=>?_
 refine c_nil (n_then ?_)
 refine c_seq ?_
 refine c_joinX hF hM hP (fun F x a w=>match x with | _=>Fr 73 [(1,.pointer (some ⟨b_B173_1,0,none⟩)),(2,.bool false)] a ∧ MemL w (pt b_B173_1 (RMark.enc (RMark.mk x0.at_ x0.next x0.done s1 s3 s5 s9)) 60 :: Lr)) (fun o_j2 hP hK_j2 hF hM=>?_) ?_
 ·refine c_seq ?_
  refine c_region ?_
  refine s_val hF (r_fieldAddr (off':=3) Tryz.underlying60 rfl in56 rfl hF rfl rfl rfl) rfl rfl rfl fun a hF=>?_
  refine s_val hF (r_load1 Tryz.isAgg56 hF rfl rfl (hM.cell (i:=0) rfl (RMark.g_regs _))) rfl rfl rfl fun a hF=>?_
  refine s_val hF (r_lenL (f2 _ (hsub _ (dropM hM 1))) Tryz.underlying56 hF rfl rfl) rfl rfl rfl fun a hF=>?_
  refine s_val hF (r_move hF rfl rfl) rfl rfl rfl fun a hF=>?_
  refine c_nil (n_then ?_)
  refine c_block ?_
  refine c_loopX hF hM hP (fun F x a w=>match x with | (v1427,v1428)=>Fr 73 [(27,.int .i64 v1427),(3,.int .i64 v1428),(1,.pointer (some ⟨b_B173_1,0,none⟩)),(2,.bool false),(25,(s1).v),(26,.int .i64 (x0.regs.length:Int))] a ∧ MemL w (pt b_B173_1 (RMark.enc (RMark.mk x0.at_ x0.next x0.done s1 s3 s5 s9)) 60 :: Lr)) (fun hF hM=>⟨hF.to ⟨rfl,rfl,rfl,rfl,rfl,rfl,trivial⟩,hM⟩) ?_
  rintro ⟨v1427,v1428⟩ a w o_l3 hP hK_l3 ⟨hF,hM⟩
  replace hP:Sh.trace_plain_l3 x0 v1427 v1428 = _:=hP
  unfold Sh.trace_plain_l3 at hP
  refine c_seq ?_
  refine c_region ?_
  refine s_val hF (r_lss hF rfl rfl rfl) rfl rfl rfl fun a hF=>?_
  refine c_nil (n_then ?_)
  refine c_seq ?_
  refine c_cond hF (c:=.tmp 28) rfl (fun hb1430=>?_) (fun hb1430=>?_)
  ·have hP:=Fx.cT hb1430 hP
   refine c_skip (n_then ?_)
   refine c_seq ?_
   refine c_block ?_
   refine c_seq ?_
   refine c_region ?_
   obtain ⟨x1455,hx1455,hP⟩:=bind_some hP
   have h0x1455:=get_some hx1455
   refine s_val hF (r_indexZ (sz:=9) (f2 _ (hsub _ (dropM hM 1))) Tryz.underlying56 in128 rfl hF rfl rfl rfl (get_bd hx1455)) rfl rfl rfl fun a hF=>?_
   refine s_val hF (r_loadn Tryz.isAgg128 Tryz.sizeOf128 hF rfl rfl (LTurn.len _) (((f2 _ (hsub _ (dropM hM 1))).elemS h0x1455.2))) rfl rfl rfl fun a hF=>?_
   refine s_eff hF rfl rfl rfl (w_alloc z128 (zs:=LTurn.zero.enc) rfl rfl fun b_B173_5 w hzB173_5 hAB173_5=>?_)
   have hM:=hM.plus hAB173_5
   replace hM:MemL _ (pt b_B173_5 (LTurn.enc LTurn.zero) 128 :: pt b_B173_1 (RMark.enc (RMark.mk x0.at_ x0.next x0.done s1 s3 s5 s9)) 60 :: Lr):=hM
   intro a hF
   refine s_eff0 rfl rfl (w_storen (vs:=_) Tryz.sizeOf128 (hM.obj (i:=0) rfl) hF rfl rfl rfl rfl (LTurn.len _) (LTurn.one _) (by first | (rw [LTurn.len,LTurn.len]; decide) | (rw [LTurn.len]; decide)) (put_all ((LTurn.len _).trans (LTurn.len _).symm)) fun w hU1456=>?_)
   have hM:=hM.chg hU1456 (i:=0) rfl
   replace hM:MemL _ (pt b_B173_5 (LTurn.enc x1455) 128 :: pt b_B173_1 (RMark.enc (RMark.mk x0.at_ x0.next x0.done s1 s3 s5 s9)) 60 :: Lr):=hM
   refine c_nil (n_then ?_)
   refine c_seq ?_
   refine c_seq ?_
   refine c_joinX hF hM hP (fun F x a w=>match x with | v1474=>Fr 73 [(43,.bool v1474),(1,.pointer (some ⟨b_B173_1,0,none⟩)),(2,.bool false),(25,(s1).v),(26,.int .i64 (x0.regs.length:Int)),(27,.int .i64 v1427),(3,.int .i64 v1428),(5,.pointer (some ⟨b_B173_5,0,none⟩))] a ∧ MemL w (pt b_B173_5 (LTurn.enc x1455) 128 :: pt b_B173_1 (RMark.enc (RMark.mk x0.at_ x0.next x0.done s1 s3 s5 s9)) 60 :: Lr)) (fun o_j4 hP hK_j4 hF hM=>?_) ?_
   ·refine c_region ?_
    refine s_val hF (r_fieldAddr (off':=0) Tryz.underlying128 rfl in3 rfl hF rfl rfl rfl) rfl rfl rfl fun a hF=>?_
    refine s_val hF (r_load1 Tryz.isAgg3 hF rfl rfl (hM.cell (i:=0) rfl (LTurn.g_reg _))) rfl rfl rfl fun a hF=>?_
    refine s_val hF (r_move hF rfl rfl) rfl rfl rfl fun a hF=>?_
    refine s_val hF (r_add hF rfl rfl rfl) rfl rfl rfl fun a hF=>?_
    obtain ⟨y1476,hy1476,hP⟩:=bind_some hP
    refine s_eff hF rfl rfl rfl (w_call (xs:=[.tmp 32,.tmp 34,.const (.int .i64 (10))]) Tryz.call124 hF rfl rfl (trace_within_calls hy1476 hM ) fun v w hR=>?_)
    obtain ⟨rfl,hM⟩:=hR
    replace hM:MemL _ (pt b_B173_5 (LTurn.enc x1455) 128 :: pt b_B173_1 (RMark.enc (RMark.mk x0.at_ x0.next x0.done s1 s3 s5 s9)) 60 :: Lr):=hM
    intro a hF
    refine s_val hF (r_not hF rfl rfl) rfl rfl rfl fun a hF=>?_
    refine s_val hF (r_move hF rfl rfl) rfl rfl rfl fun a hF=>?_
    refine g_split 37 hF rfl (fun hb1477=>?_) (fun hb1477=>?_)
    ·have hP:=Fx.cT hb1477 hP
     refine g_skip hF rfl rfl rfl hb1477 rfl rfl fun a hF=>?_
     refine g_skip hF rfl rfl rfl hb1477 rfl rfl fun a hF=>?_
     refine g_skip hF rfl rfl rfl hb1477 rfl rfl fun a hF=>?_
     refine g_skip hF rfl rfl rfl hb1477 rfl rfl fun a hF=>?_
     refine g_skip hF rfl rfl rfl hb1477 rfl rfl fun a hF=>?_
     refine s_val hF (r_pick1 hF rfl rfl hb1477 rfl) rfl rfl rfl fun a hF=>?_
     refine c_nil (n_then ?_)
     have hP:=Option.some.inj hP
     subst hP
     exact ⟨true,rfl,hF.to ⟨rfl,rfl,rfl,rfl,rfl,rfl,rfl,rfl,trivial⟩,hM⟩
    have hP:=Fx.cF hb1477 hP
    refine g_val hF rfl rfl rfl hb1477 (r_fieldAddr (off':=1) Tryz.underlying128 rfl in46 rfl hF rfl rfl rfl) rfl rfl fun a hF=>?_
    refine g_val hF rfl rfl rfl hb1477 (r_loadn Tryz.isAgg46 Tryz.sizeOf46 hF rfl rfl (LVal.len _) (hM.cells (i:=0) rfl (LTurn.c_old _))) rfl rfl fun a hF=>?_
    refine g_val hF rfl rfl rfl hb1477 (r_fieldAddr (off':=5) Tryz.underlying128 rfl in46 rfl hF rfl rfl rfl) rfl rfl fun a hF=>?_
    refine g_val hF rfl rfl rfl hb1477 (r_loadn Tryz.isAgg46 Tryz.sizeOf46 hF rfl rfl (LVal.len _) (hM.cells (i:=0) rfl (LTurn.c_new _))) rfl rfl fun a hF=>?_
    refine g_val hF rfl rfl rfl hb1477 (r_eqlA Tryz.eqGuardType46 (eq_LVal _ _ _ _ (by decide)) hF rfl rfl rfl) rfl rfl fun a hF=>?_
    refine s_val hF (r_pick0 hF rfl rfl hb1477 rfl) rfl rfl rfl fun a hF=>?_
    refine c_nil (n_then ?_)
    have hP:=Option.some.inj hP
    subst hP
    exact ⟨(decide (x1455.old = x1455.new)),rfl,hF.to ⟨rfl,rfl,rfl,rfl,rfl,rfl,rfl,rfl,trivial⟩,hM⟩
   rintro v1474 a w hP ⟨hF,hM⟩
   replace hP:Sh.trace_plain_j4 v1427 x1455 v1474 = _:=hP
   unfold Sh.trace_plain_j4 at hP
   refine n_then ?_
   refine c_cond hF (c:=.tmp 43) rfl (fun hb1478=>?_) (fun hb1478=>?_)
   ·have hP:=Fx.cT hb1478 hP
    refine c_seq ?_
    refine c_region ?_
    refine s_val hF (r_assign hF rfl rfl) rfl rfl rfl fun a hF=>?_
    refine c_nil (n_then ?_)
    refine c_ret ?_
    have hP:=Option.some.inj hP
    subst hP
    have hP:=hK_l3 _ rfl
    subst hP
    have hP:=fin_inr hK_j2
    subst hP
    refine e_ret1 Tryz.results173 hF rfl ?_
    exact ⟨rfl,selM hM [] 2 rfl⟩
   have hP:=Fx.cF hb1478 hP
   refine c_skip (n_then ?_)
   refine c_region ?_
   refine s_val hF (r_fieldAddr (off':=0) Tryz.underlying128 rfl in3 rfl hF rfl rfl rfl) rfl rfl rfl fun a hF=>?_
   refine s_val hF (r_load1 Tryz.isAgg3 hF rfl rfl (hM.cell (i:=0) rfl (LTurn.g_reg _))) rfl rfl rfl fun a hF=>?_
   refine s_val hF (r_assign hF rfl rfl) rfl rfl rfl fun a hF=>?_
   refine c_nil (n_block (n_then ?_))
   refine c_region ?_
   refine s_val hF (r_add hF rfl rfl rfl) rfl rfl rfl fun a hF=>?_
   refine s_val hF (r_move hF rfl rfl) rfl rfl rfl fun a hF=>?_
   refine c_nil (n_then ?_)
   have hP:=Option.some.inj hP
   subst hP
   exact ⟨((IntKind.i64.wrap (v1427 + 1)),x1455.reg),rfl,hF.to ⟨rfl,rfl,rfl,rfl,rfl,rfl,trivial⟩,selM hM [1] 2 rfl⟩
  have hP:=Fx.cF hb1430 hP
  refine c_exit (x_then (x_then (x_hit ?_)))
  refine n_then ?_
  have hP:=Option.some.inj hP
  subst hP
  have hP:=hK_l3 _ rfl
  subst hP
  exact ⟨(),rfl,hF.to ⟨rfl,rfl,trivial⟩,hM⟩
 rintro ⟨⟩ a w hP ⟨hF,hM⟩
 replace hP:Sh.trace_plain_j2 x0 = _:=hP
 unfold Sh.trace_plain_j2 at hP
 refine n_then ?_
 refine c_seq ?_
 refine c_region ?_
 refine s_val hF (r_assign hF rfl rfl) rfl rfl rfl fun a hF=>?_
 refine c_nil (n_then ?_)
 refine c_seq ?_
 refine c_joinX hF hM hP (fun F x a w=>match x with | _=>Fr 73 [(1,.pointer (some ⟨b_B173_1,0,none⟩)),(2,.bool false)] a ∧ MemL w (pt b_B173_1 (RMark.enc (RMark.mk x0.at_ x0.next x0.done s1 s3 s5 s9)) 60 :: Lr)) (fun o_j5 hP hK_j5 hF hM=>?_) ?_
 ·refine c_seq ?_
  refine c_region ?_
  refine s_val hF (r_fieldAddr (off':=4) Tryz.underlying60 rfl in57 rfl hF rfl rfl rfl) rfl rfl rfl fun a hF=>?_
  refine s_val hF (r_load1 Tryz.isAgg57 hF rfl rfl (hM.cell (i:=0) rfl (RMark.g_slots _))) rfl rfl rfl fun a hF=>?_
  refine s_val hF (r_lenL (f4 _ (hsub _ (dropM hM 1))) Tryz.underlying57 hF rfl rfl) rfl rfl rfl fun a hF=>?_
  refine s_val hF (r_move hF rfl rfl) rfl rfl rfl fun a hF=>?_
  refine c_nil (n_then ?_)
  refine c_block ?_
  refine c_loopX hF hM hP (fun F x a w=>match x with | (v1889,v1890)=>Fr 73 [(3,.int .i64 v1889),(50,.int .i64 v1890),(1,.pointer (some ⟨b_B173_1,0,none⟩)),(2,.bool false),(48,(s3).v),(49,.int .i64 (x0.slots.length:Int))] a ∧ MemL w (pt b_B173_1 (RMark.enc (RMark.mk x0.at_ x0.next x0.done s1 s3 s5 s9)) 60 :: Lr)) (fun hF hM=>⟨hF.to ⟨rfl,rfl,rfl,rfl,rfl,rfl,trivial⟩,hM⟩) ?_
  rintro ⟨v1889,v1890⟩ a w o_l6 hP hK_l6 ⟨hF,hM⟩
  replace hP:Sh.trace_plain_l6 x0 v1889 v1890 = _:=hP
  unfold Sh.trace_plain_l6 at hP
  refine c_seq ?_
  refine c_region ?_
  refine s_val hF (r_lss hF rfl rfl rfl) rfl rfl rfl fun a hF=>?_
  refine c_nil (n_then ?_)
  refine c_seq ?_
  refine c_cond hF (c:=.tmp 51) rfl (fun hb1892=>?_) (fun hb1892=>?_)
  ·have hP:=Fx.cT hb1892 hP
   refine c_skip (n_then ?_)
   refine c_seq ?_
   refine c_block ?_
   refine c_seq ?_
   refine c_region ?_
   obtain ⟨x1917,hx1917,hP⟩:=bind_some hP
   have h0x1917:=get_some hx1917
   refine s_val hF (r_indexZ (sz:=27) (f4 _ (hsub _ (dropM hM 1))) Tryz.underlying57 in151 rfl hF rfl rfl rfl (get_bd hx1917)) rfl rfl rfl fun a hF=>?_
   refine s_val hF (r_loadn Tryz.isAgg151 Tryz.sizeOf151 hF rfl rfl (LCell.len _) (((f4 _ (hsub _ (dropM hM 1))).elemS h0x1917.2))) rfl rfl rfl fun a hF=>?_
   refine s_eff hF rfl rfl rfl (w_alloc z151 (zs:=LCell.zero.enc) rfl rfl fun b_B173_7 w hzB173_7 hAB173_7=>?_)
   have hM:=hM.plus hAB173_7
   replace hM:MemL _ (pt b_B173_7 (LCell.enc LCell.zero) 151 :: pt b_B173_1 (RMark.enc (RMark.mk x0.at_ x0.next x0.done s1 s3 s5 s9)) 60 :: Lr):=hM
   intro a hF
   refine s_eff0 rfl rfl (w_storen (vs:=_) Tryz.sizeOf151 (hM.obj (i:=0) rfl) hF rfl rfl rfl rfl (LCell.len _) (LCell.one _) (by first | (rw [LCell.len,LCell.len]; decide) | (rw [LCell.len]; decide)) (put_all ((LCell.len _).trans (LCell.len _).symm)) fun w hU1918=>?_)
   have hM:=hM.chg hU1918 (i:=0) rfl
   replace hM:MemL _ (pt b_B173_7 (LCell.enc x1917) 151 :: pt b_B173_1 (RMark.enc (RMark.mk x0.at_ x0.next x0.done s1 s3 s5 s9)) 60 :: Lr):=hM
   refine c_nil (n_then ?_)
   refine c_seq ?_
   refine c_seq ?_
   refine c_joinX hF hM hP (fun F x a w=>match x with | v1936=>Fr 73 [(66,.bool v1936),(1,.pointer (some ⟨b_B173_1,0,none⟩)),(2,.bool false),(3,.int .i64 v1889),(48,(s3).v),(49,.int .i64 (x0.slots.length:Int)),(50,.int .i64 v1890),(7,.pointer (some ⟨b_B173_7,0,none⟩))] a ∧ MemL w (pt b_B173_7 (LCell.enc x1917) 151 :: pt b_B173_1 (RMark.enc (RMark.mk x0.at_ x0.next x0.done s1 s3 s5 s9)) 60 :: Lr)) (fun o_j7 hP hK_j7 hF hM=>?_) ?_
   ·refine c_region ?_
    refine s_val hF (r_fieldAddr (off':=0) Tryz.underlying151 rfl in3 rfl hF rfl rfl rfl) rfl rfl rfl fun a hF=>?_
    refine s_val hF (r_load1 Tryz.isAgg3 hF rfl rfl (hM.cell (i:=0) rfl (LCell.g_slot _))) rfl rfl rfl fun a hF=>?_
    refine s_val hF (r_move hF rfl rfl) rfl rfl rfl fun a hF=>?_
    refine s_val hF (r_add hF rfl rfl rfl) rfl rfl rfl fun a hF=>?_
    obtain ⟨y1938,hy1938,hP⟩:=bind_some hP
    refine s_eff hF rfl rfl rfl (w_call (xs:=[.tmp 55,.tmp 57,.const (.int .i64 (31))]) Tryz.call124 hF rfl rfl (trace_within_calls hy1938 hM ) fun v w hR=>?_)
    obtain ⟨rfl,hM⟩:=hR
    replace hM:MemL _ (pt b_B173_7 (LCell.enc x1917) 151 :: pt b_B173_1 (RMark.enc (RMark.mk x0.at_ x0.next x0.done s1 s3 s5 s9)) 60 :: Lr):=hM
    intro a hF
    refine s_val hF (r_not hF rfl rfl) rfl rfl rfl fun a hF=>?_
    refine s_val hF (r_move hF rfl rfl) rfl rfl rfl fun a hF=>?_
    refine g_split 60 hF rfl (fun hb1939=>?_) (fun hb1939=>?_)
    ·have hP:=Fx.cT hb1939 hP
     refine g_skip hF rfl rfl rfl hb1939 rfl rfl fun a hF=>?_
     refine g_skip hF rfl rfl rfl hb1939 rfl rfl fun a hF=>?_
     refine g_skip hF rfl rfl rfl hb1939 rfl rfl fun a hF=>?_
     refine g_skip hF rfl rfl rfl hb1939 rfl rfl fun a hF=>?_
     refine g_skip hF rfl rfl rfl hb1939 rfl rfl fun a hF=>?_
     refine s_val hF (r_pick1 hF rfl rfl hb1939 rfl) rfl rfl rfl fun a hF=>?_
     refine c_nil (n_then ?_)
     have hP:=Option.some.inj hP
     subst hP
     exact ⟨true,rfl,hF.to ⟨rfl,rfl,rfl,rfl,rfl,rfl,rfl,rfl,trivial⟩,hM⟩
    have hP:=Fx.cF hb1939 hP
    refine g_val hF rfl rfl rfl hb1939 (r_fieldAddr (off':=1) Tryz.underlying151 rfl in50 rfl hF rfl rfl rfl) rfl rfl fun a hF=>?_
    refine g_val hF rfl rfl rfl hb1939 (r_loadn Tryz.isAgg50 Tryz.sizeOf50 hF rfl rfl (LSlot.len _) (hM.cells (i:=0) rfl (LCell.c_old _))) rfl rfl fun a hF=>?_
    refine g_val hF rfl rfl rfl hb1939 (r_fieldAddr (off':=14) Tryz.underlying151 rfl in50 rfl hF rfl rfl rfl) rfl rfl fun a hF=>?_
    refine g_val hF rfl rfl rfl hb1939 (r_loadn Tryz.isAgg50 Tryz.sizeOf50 hF rfl rfl (LSlot.len _) (hM.cells (i:=0) rfl (LCell.c_new _))) rfl rfl fun a hF=>?_
    refine g_val hF rfl rfl rfl hb1939 (r_eqlA Tryz.eqGuardType50 (eq_LSlot _ _ _ _ (by decide)) hF rfl rfl rfl) rfl rfl fun a hF=>?_
    refine s_val hF (r_pick0 hF rfl rfl hb1939 rfl) rfl rfl rfl fun a hF=>?_
    refine c_nil (n_then ?_)
    have hP:=Option.some.inj hP
    subst hP
    exact ⟨(decide (x1917.old = x1917.new)),rfl,hF.to ⟨rfl,rfl,rfl,rfl,rfl,rfl,rfl,rfl,trivial⟩,hM⟩
   rintro v1936 a w hP ⟨hF,hM⟩
   replace hP:Sh.trace_plain_j7 v1890 x1917 v1936 = _:=hP
   unfold Sh.trace_plain_j7 at hP
   refine n_then ?_
   refine c_cond hF (c:=.tmp 66) rfl (fun hb1940=>?_) (fun hb1940=>?_)
   ·have hP:=Fx.cT hb1940 hP
    refine c_seq ?_
    refine c_region ?_
    refine s_val hF (r_assign hF rfl rfl) rfl rfl rfl fun a hF=>?_
    refine c_nil (n_then ?_)
    refine c_ret ?_
    have hP:=Option.some.inj hP
    subst hP
    have hP:=hK_l6 _ rfl
    subst hP
    have hP:=fin_inr hK_j5
    subst hP
    refine e_ret1 Tryz.results173 hF rfl ?_
    exact ⟨rfl,selM hM [] 2 rfl⟩
   have hP:=Fx.cF hb1940 hP
   refine c_skip (n_then ?_)
   refine c_region ?_
   refine s_val hF (r_fieldAddr (off':=0) Tryz.underlying151 rfl in3 rfl hF rfl rfl rfl) rfl rfl rfl fun a hF=>?_
   refine s_val hF (r_load1 Tryz.isAgg3 hF rfl rfl (hM.cell (i:=0) rfl (LCell.g_slot _))) rfl rfl rfl fun a hF=>?_
   refine s_val hF (r_assign hF rfl rfl) rfl rfl rfl fun a hF=>?_
   refine c_nil (n_block (n_then ?_))
   refine c_region ?_
   refine s_val hF (r_add hF rfl rfl rfl) rfl rfl rfl fun a hF=>?_
   refine s_val hF (r_move hF rfl rfl) rfl rfl rfl fun a hF=>?_
   refine c_nil (n_then ?_)
   have hP:=Option.some.inj hP
   subst hP
   exact ⟨(x1917.slot,(IntKind.i64.wrap (v1890 + 1))),rfl,hF.to ⟨rfl,rfl,rfl,rfl,rfl,rfl,trivial⟩,selM hM [1] 2 rfl⟩
  have hP:=Fx.cF hb1892 hP
  refine c_exit (x_then (x_then (x_hit ?_)))
  refine n_then ?_
  have hP:=Option.some.inj hP
  subst hP
  have hP:=hK_l6 _ rfl
  subst hP
  exact ⟨(),rfl,hF.to ⟨rfl,rfl,trivial⟩,hM⟩
 rintro ⟨⟩ a w hP ⟨hF,hM⟩
 replace hP:Sh.trace_plain_j5 x0 = _:=hP
 unfold Sh.trace_plain_j5 at hP
 refine n_then ?_
 refine c_seq ?_
 refine c_region ?_
 refine s_val hF (r_fieldAddr (off':=5) Tryz.underlying60 rfl in58 rfl hF rfl rfl rfl) rfl rfl rfl fun a hF=>?_
 refine s_val hF (r_load1 Tryz.isAgg58 hF rfl rfl (hM.cell (i:=0) rfl (RMark.g_pieces _))) rfl rfl rfl fun a hF=>?_
 obtain ⟨y1942,hy1942,hP⟩:=bind_some hP
 refine s_eff hF rfl rfl rfl (w_call (xs:=[.tmp 71]) Tryz.call227 hF rfl rfl (trace_plainPieces_calls hy1942 hM (Bf:=Bf) (fun w hM=>hsub _ (dropM hM 1)) f7 q8) fun v w hR=>?_)
 obtain ⟨rfl,hM⟩:=hR
 replace hM:MemL _ (pt b_B173_1 (RMark.enc (RMark.mk x0.at_ x0.next x0.done s1 s3 s5 s9)) 60 :: Lr):=hM
 intro a hF
 refine s_val hF (r_assign hF rfl rfl) rfl rfl rfl fun a hF=>?_
 refine c_nil (n_then ?_)
 refine c_ret ?_
 have hP:=Option.some.inj hP
 subst hP
 refine e_ret1 Tryz.results173 hF rfl ?_
 exact ⟨rfl,selM hM [] 1 rfl⟩
set_option maxHeartbeats 4000000 in
theorem trace_goodValue_calls {x0:LVal} {out:Bool} {w0:World} {Lr:List Res} (hP:Sh.trace_goodValue x0 = some out) (hM:MemL w0 (Lr)):Calls Tryz.prog 174 #[.agg (LVal.enc x0).toArray] w0 (Ret fun v w'=>v = .bool out ∧ MemL w' (Lr)):=by
 unfold Sh.trace_goodValue at hP
 refine calls_enter (vs:=[.agg (LVal.enc x0).toArray]) Tryz.func174 rfl Tryz.ntmps174 rfl fun a hF=>?_
 refine c_seq ?_
 refine c_region ?_
 refine s_eff hF rfl rfl rfl (w_box hF rfl rfl rfl fun b_B174_1 w hzB174_1 hAB174_1=>?_)
 have hM:=hM.plus hAB174_1
 replace hM:MemL _ (pt b_B174_1 (LVal.enc x0) 46 :: Lr):=hM
 intro a hF
 refine s_val hF (r_assign hF rfl rfl) rfl rfl rfl fun a hF=>?_
 refine c_nil (n_then ?_)
 refine c_seq ?_
 refine c_block ?_
 refine c_seq ?_
 refine c_region ?_
 refine s_val hF (r_fieldAddr (off':=0) Tryz.underlying46 rfl in3 rfl hF rfl rfl rfl) rfl rfl rfl fun a hF=>?_
 refine s_val hF (r_load1 Tryz.isAgg3 hF rfl rfl (hM.cell (i:=0) rfl (LVal.g_kind _))) rfl rfl rfl fun a hF=>?_
 refine s_val hF (r_eql hF rfl rfl rfl) rfl rfl rfl fun a hF=>?_
 refine s_val hF (r_assign hF rfl rfl) rfl rfl rfl fun a hF=>?_
 refine c_nil (n_then ?_)
 refine c_cond hF (c:=.tmp 3) rfl (fun hb65=>?_) (fun hb65=>?_)
 ·have hP:=Fx.cT hb65 hP
  refine c_seq ?_
  refine c_joinX hF hM hP (fun F x a w=>match x with | v76=>Fr 34 [(2,.bool v76),(1,.pointer (some ⟨b_B174_1,0,none⟩))] a ∧ MemL w (pt b_B174_1 (LVal.enc x0) 46 :: Lr)) (fun o_j1 hP hK_j1 hF hM=>?_) ?_
  ·refine c_region ?_
   refine s_val hF (r_fieldAddr (off':=1) Tryz.underlying46 rfl in3 rfl hF rfl rfl rfl) rfl rfl rfl fun a hF=>?_
   refine s_val hF (r_load1 Tryz.isAgg3 hF rfl rfl (hM.cell (i:=0) rfl (LVal.g_table _))) rfl rfl rfl fun a hF=>?_
   obtain ⟨y78,hy78,hP⟩:=bind_some hP
   refine s_eff hF rfl rfl rfl (w_call (xs:=[.tmp 8,.const (.int .i64 (0)),.const (.int .i64 (7))]) Tryz.call124 hF rfl rfl (trace_within_calls hy78 hM ) fun v w hR=>?_)
   obtain ⟨rfl,hM⟩:=hR
   replace hM:MemL _ (pt b_B174_1 (LVal.enc x0) 46 :: Lr):=hM
   intro a hF
   refine s_val hF (r_move hF rfl rfl) rfl rfl rfl fun a hF=>?_
   refine g_split 10 hF rfl (fun hb79=>?_) (fun hb79=>?_)
   ·have hP:=Fx.cT hb79 hP
    refine g_val hF rfl rfl rfl hb79 (r_fieldAddr (off':=2) Tryz.underlying46 rfl in3 rfl hF rfl rfl rfl) rfl rfl fun a hF=>?_
    refine g_val hF rfl rfl rfl hb79 (r_load1 Tryz.isAgg3 hF rfl rfl (hM.cell (i:=0) rfl (LVal.g_row _))) rfl rfl fun a hF=>?_
    obtain ⟨y81,hy81,hP⟩:=bind_some hP
    refine g_eff hF rfl rfl rfl hb79 rfl rfl (w_call (xs:=[.tmp 12,.const (.int .i64 (0)),.const (.int .i64 (63))]) Tryz.call124 hF rfl rfl (trace_within_calls hy81 hM ) fun v w hR=>?_)
    obtain ⟨rfl,hM⟩:=hR
    replace hM:MemL _ (pt b_B174_1 (LVal.enc x0) 46 :: Lr):=hM
    intro a hF
    refine s_val hF (r_pick1 hF rfl rfl hb79 rfl) rfl rfl rfl fun a hF=>?_
    refine s_val hF (r_assign hF rfl rfl) rfl rfl rfl fun a hF=>?_
    refine c_nil (n_then ?_)
    have hP:=Option.some.inj hP
    subst hP
    exact ⟨y81,rfl,hF.to ⟨rfl,rfl,trivial⟩,hM⟩
   have hP:=Fx.cF hb79 hP
   refine g_skip hF rfl rfl rfl hb79 rfl rfl fun a hF=>?_
   refine g_skip hF rfl rfl rfl hb79 rfl rfl fun a hF=>?_
   refine g_skip hF rfl rfl rfl hb79 rfl rfl fun a hF=>?_
   refine s_val hF (r_pick0 hF rfl rfl hb79 rfl) rfl rfl rfl fun a hF=>?_
   refine s_val hF (r_assign hF rfl rfl) rfl rfl rfl fun a hF=>?_
   refine c_nil (n_then ?_)
   have hP:=Option.some.inj hP
   subst hP
   exact ⟨false,rfl,hF.to ⟨rfl,rfl,trivial⟩,hM⟩
  rintro v76 a w hP ⟨hF,hM⟩
  replace hP:Sh.trace_goodValue_j1 v76 = _:=hP
  unfold Sh.trace_goodValue_j1 at hP
  refine n_then ?_
  refine c_ret ?_
  have hP:=Option.some.inj hP
  subst hP
  refine e_ret1 Tryz.results174 hF rfl ?_
  exact ⟨rfl,selM hM [] 1 rfl⟩
 have hP:=Fx.cF hb65 hP
 refine c_seq ?_
 refine c_region ?_
 refine s_val hF (r_fieldAddr (off':=0) Tryz.underlying46 rfl in3 rfl hF rfl rfl rfl) rfl rfl rfl fun a hF=>?_
 refine s_val hF (r_load1 Tryz.isAgg3 hF rfl rfl (hM.cell (i:=0) rfl (LVal.g_kind _))) rfl rfl rfl fun a hF=>?_
 refine s_val hF (r_eql hF rfl rfl rfl) rfl rfl rfl fun a hF=>?_
 refine s_val hF (r_assign hF rfl rfl) rfl rfl rfl fun a hF=>?_
 refine c_nil (n_then ?_)
 refine c_cond hF (c:=.tmp 15) rfl (fun hb82=>?_) (fun hb82=>?_)
 ·have hP:=Fx.cT hb82 hP
  refine c_seq ?_
  refine c_region ?_
  refine s_val hF (r_loadn Tryz.isAgg46 Tryz.sizeOf46 hF rfl rfl (LVal.len _) (hM.cells (i:=0) rfl (cut_all (LVal.len _)))) rfl rfl rfl fun a hF=>?_
  refine s_val hF (r_build z46 Tryz.underlying46 pl46 hF (parts:=[]) rfl rfl fill_e) rfl rfl rfl fun a hF=>?_
  refine s_val hF (r_eqlA Tryz.eqGuardType46 (eq_LVal _ _ _ _ (by decide)) hF rfl rfl rfl) rfl rfl rfl fun a hF=>?_
  refine s_val hF (r_assign hF rfl rfl) rfl rfl rfl fun a hF=>?_
  refine c_nil (n_then ?_)
  refine c_ret ?_
  have hP:=Option.some.inj hP
  subst hP
  refine e_ret1 Tryz.results174 hF rfl ?_
  exact ⟨rfl,selM hM [] 1 rfl⟩
 have hP:=Fx.cF hb82 hP
 refine c_skip (n_block (n_then ?_))
 refine c_seq ?_
 refine c_joinX hF hM hP (fun F x a w=>match x with | v89=>Fr 34 [(2,.bool v89)] a ∧ MemL w (Lr)) (fun o_j2 hP hK_j2 hF hM=>?_) ?_
 ·refine c_region ?_
  refine s_val hF (r_fieldAddr (off':=0) Tryz.underlying46 rfl in3 rfl hF rfl rfl rfl) rfl rfl rfl fun a hF=>?_
  refine s_val hF (r_load1 Tryz.isAgg3 hF rfl rfl (hM.cell (i:=0) rfl (LVal.g_kind _))) rfl rfl rfl fun a hF=>?_
  obtain ⟨y91,hy91,hP⟩:=bind_some hP
  refine s_eff hF rfl rfl rfl (w_call (xs:=[.tmp 23,.const (.int .i64 (1)),.const (.int .i64 (4))]) Tryz.call124 hF rfl rfl (trace_within_calls hy91 hM ) fun v w hR=>?_)
  obtain ⟨rfl,hM⟩:=hR
  replace hM:MemL _ (pt b_B174_1 (LVal.enc x0) 46 :: Lr):=hM
  intro a hF
  refine s_val hF (r_move hF rfl rfl) rfl rfl rfl fun a hF=>?_
  refine g_split 25 hF rfl (fun hb92=>?_) (fun hb92=>?_)
  ·have hP:=Fx.cT hb92 hP
   refine g_val hF rfl rfl rfl hb92 (r_loadn Tryz.isAgg46 Tryz.sizeOf46 hF rfl rfl (LVal.len _) (hM.cells (i:=0) rfl (cut_all (LVal.len _)))) rfl rfl fun a hF=>?_
   refine g_val hF rfl rfl rfl hb92 (r_fieldAddr (off':=0) Tryz.underlying46 rfl in3 rfl hF rfl rfl rfl) rfl rfl fun a hF=>?_
   refine g_val hF rfl rfl rfl hb92 (r_load1 Tryz.isAgg3 hF rfl rfl (hM.cell (i:=0) rfl (LVal.g_kind _))) rfl rfl fun a hF=>?_
   refine g_val hF rfl rfl rfl hb92 (r_fieldAddr (off':=3) Tryz.underlying46 rfl in3 rfl hF rfl rfl rfl) rfl rfl fun a hF=>?_
   refine g_val hF rfl rfl rfl hb92 (r_load1 Tryz.isAgg3 hF rfl rfl (hM.cell (i:=0) rfl (LVal.g_x _))) rfl rfl fun a hF=>?_
   refine g_val hF rfl rfl rfl hb92 (r_build z46 Tryz.underlying46 pl46 hF (parts:=[(0,.tmp 28),(3,.tmp 30)]) rfl rfl (fill_s rfl rfl (by rw [LVal.len]; decide) (LVal.s_kind _ _) (fill_s rfl rfl (by rw [LVal.len]; decide) (LVal.s_x _ _) fill_e))) rfl rfl fun a hF=>?_
   refine g_val hF rfl rfl rfl hb92 (r_eqlA Tryz.eqGuardType46 (eq_LVal _ _ _ _ (by decide)) hF rfl rfl rfl) rfl rfl fun a hF=>?_
   refine s_val hF (r_pick1 hF rfl rfl hb92 rfl) rfl rfl rfl fun a hF=>?_
   refine s_val hF (r_assign hF rfl rfl) rfl rfl rfl fun a hF=>?_
   refine c_nil (n_then ?_)
   have hP:=Option.some.inj hP
   subst hP
   exact ⟨(decide (x0 = (LVal.mk x0.kind 0 0 x0.x))),rfl,hF.to ⟨rfl,trivial⟩,selM hM [] 1 rfl⟩
  have hP:=Fx.cF hb92 hP
  refine g_skip hF rfl rfl rfl hb92 rfl rfl fun a hF=>?_
  refine g_skip hF rfl rfl rfl hb92 rfl rfl fun a hF=>?_
  refine g_skip hF rfl rfl rfl hb92 rfl rfl fun a hF=>?_
  refine g_skip hF rfl rfl rfl hb92 rfl rfl fun a hF=>?_
  refine g_skip hF rfl rfl rfl hb92 rfl rfl fun a hF=>?_
  refine g_skip hF rfl rfl rfl hb92 rfl rfl fun a hF=>?_
  refine g_skip hF rfl rfl rfl hb92 rfl rfl fun a hF=>?_
  refine s_val hF (r_pick0 hF rfl rfl hb92 rfl) rfl rfl rfl fun a hF=>?_
  refine s_val hF (r_assign hF rfl rfl) rfl rfl rfl fun a hF=>?_
  refine c_nil (n_then ?_)
  have hP:=Option.some.inj hP
  subst hP
  exact ⟨false,rfl,hF.to ⟨rfl,trivial⟩,selM hM [] 1 rfl⟩
 rintro v89 a w hP ⟨hF,hM⟩
 replace hP:Sh.trace_goodValue_j2 v89 = _:=hP
 unfold Sh.trace_goodValue_j2 at hP
 refine n_then ?_
 refine c_ret ?_
 have hP:=Option.some.inj hP
 subst hP
 refine e_ret1 Tryz.results174 hF rfl ?_
 exact ⟨rfl,hM⟩
set_option maxHeartbeats 4000000 in
theorem trace_goodSlot_calls {x0:LSlot} {out:Bool} {w0:World} {Lr:List Res} (hP:Sh.trace_goodSlot x0 = some out) (hM:MemL w0 (Lr)):Calls Tryz.prog 175 #[.agg (LSlot.enc x0).toArray] w0 (Ret fun v w'=>v = .bool out ∧ MemL w' (Lr)):=by
 unfold Sh.trace_goodSlot at hP
 refine calls_enter (vs:=[.agg (LSlot.enc x0).toArray]) Tryz.func175 rfl Tryz.ntmps175 rfl fun a hF=>?_
 refine c_seq ?_
 refine c_region ?_
 refine s_eff hF rfl rfl rfl (w_box hF rfl rfl rfl fun b_B175_1 w hzB175_1 hAB175_1=>?_)
 have hM:=hM.plus hAB175_1
 replace hM:MemL _ (pt b_B175_1 (LSlot.enc x0) 50 :: Lr):=hM
 intro a hF
 refine s_val hF (r_assign hF rfl rfl) rfl rfl rfl fun a hF=>?_
 refine c_nil (n_then ?_)
 refine c_seq ?_
 refine c_seq ?_
 refine c_region ?_
 refine s_val hF (r_fieldAddr (off':=0) Tryz.underlying50 rfl in46 rfl hF rfl rfl rfl) rfl rfl rfl fun a hF=>?_
 refine s_val hF (r_fieldAddr (off':=0) Tryz.underlying46 rfl in3 rfl hF rfl rfl rfl) rfl rfl rfl fun a hF=>?_
 refine s_val hF (r_load1 Tryz.isAgg3 hF rfl rfl ((hM.cells (i:=0) rfl (LSlot.c_ptr _)).get 0 (LVal.g_kind _))) rfl rfl rfl fun a hF=>?_
 refine s_val hF (r_neq hF rfl rfl rfl) rfl rfl rfl fun a hF=>?_
 refine c_nil (n_then ?_)
 refine c_cond hF (c:=.tmp 8) rfl (fun hb221=>?_) (fun hb221=>?_)
 ·have hP:=Fx.cT hb221 hP
  refine c_seq ?_
  refine c_joinX hF hM hP (fun F x a w=>match x with | v230=>Fr 51 [(2,.bool v230),(1,.pointer (some ⟨b_B175_1,0,none⟩))] a ∧ MemL w (pt b_B175_1 (LSlot.enc x0) 50 :: Lr)) (fun o_j1 hP hK_j1 hF hM=>?_) ?_
  ·refine c_region ?_
   refine s_val hF (r_fieldAddr (off':=0) Tryz.underlying50 rfl in46 rfl hF rfl rfl rfl) rfl rfl rfl fun a hF=>?_
   refine s_val hF (r_loadn Tryz.isAgg46 Tryz.sizeOf46 hF rfl rfl (LVal.len _) (hM.cells (i:=0) rfl (LSlot.c_ptr _))) rfl rfl rfl fun a hF=>?_
   obtain ⟨y232,hy232,hP⟩:=bind_some hP
   refine s_eff hF rfl rfl rfl (w_call (xs:=[.tmp 10]) Tryz.call174 hF rfl rfl (trace_goodValue_calls hy232 hM ) fun v w hR=>?_)
   obtain ⟨rfl,hM⟩:=hR
   replace hM:MemL _ (pt b_B175_1 (LSlot.enc x0) 50 :: Lr):=hM
   intro a hF
   refine s_val hF (r_move hF rfl rfl) rfl rfl rfl fun a hF=>?_
   refine g_split 12 hF rfl (fun hb233=>?_) (fun hb233=>?_)
   ·have hP:=Fx.cT hb233 hP
    refine g_val hF rfl rfl rfl hb233 (r_fieldAddr (off':=0) Tryz.underlying50 rfl in46 rfl hF rfl rfl rfl) rfl rfl fun a hF=>?_
    refine g_val hF rfl rfl rfl hb233 (r_fieldAddr (off':=0) Tryz.underlying46 rfl in3 rfl hF rfl rfl rfl) rfl rfl fun a hF=>?_
    refine g_val hF rfl rfl rfl hb233 (r_load1 Tryz.isAgg3 hF rfl rfl ((hM.cells (i:=0) rfl (LSlot.c_ptr _)).get 0 (LVal.g_kind _))) rfl rfl fun a hF=>?_
    refine g_val hF rfl rfl rfl hb233 (r_neq hF rfl rfl rfl) rfl rfl fun a hF=>?_
    refine s_val hF (r_pick1 hF rfl rfl hb233 rfl) rfl rfl rfl fun a hF=>?_
    refine s_val hF (r_move hF rfl rfl) rfl rfl rfl fun a hF=>?_
    refine g_split 18 hF rfl (fun hb234=>?_) (fun hb234=>?_)
    ·have hP:=Fx.cT hb234 hP
     refine g_val hF rfl rfl rfl hb234 (r_loadn Tryz.isAgg50 Tryz.sizeOf50 hF rfl rfl (LSlot.len _) (hM.cells (i:=0) rfl (cut_all (LSlot.len _)))) rfl rfl fun a hF=>?_
     refine g_val hF rfl rfl rfl hb234 (r_fieldAddr (off':=0) Tryz.underlying50 rfl in46 rfl hF rfl rfl rfl) rfl rfl fun a hF=>?_
     refine g_val hF rfl rfl rfl hb234 (r_loadn Tryz.isAgg46 Tryz.sizeOf46 hF rfl rfl (LVal.len _) (hM.cells (i:=0) rfl (LSlot.c_ptr _))) rfl rfl fun a hF=>?_
     refine g_val hF rfl rfl rfl hb234 (r_build z50 Tryz.underlying50 pl50 hF (parts:=[(0,.tmp 21)]) rfl rfl (fill_p rfl (LVal.len _) (by rw [LVal.len,LSlot.len]; decide) (LSlot.p_ptr _ _) fill_e)) rfl rfl fun a hF=>?_
     refine g_val hF rfl rfl rfl hb234 (r_eqlA Tryz.eqGuardType50 (eq_LSlot _ _ _ _ (by decide)) hF rfl rfl rfl) rfl rfl fun a hF=>?_
     refine s_val hF (r_pick1 hF rfl rfl hb234 rfl) rfl rfl rfl fun a hF=>?_
     refine s_val hF (r_assign hF rfl rfl) rfl rfl rfl fun a hF=>?_
     refine c_nil (n_then ?_)
     have hP:=Option.some.inj hP
     subst hP
     exact ⟨(decide (x0 = (LSlot.mk x0.ptr (⟨List.replicate 8 0,rfl⟩ : Vec UInt8 8) 0))),rfl,hF.to ⟨rfl,rfl,trivial⟩,hM⟩
    have hP:=Fx.cF hb234 hP
    refine g_skip hF rfl rfl rfl hb234 rfl rfl fun a hF=>?_
    refine g_skip hF rfl rfl rfl hb234 rfl rfl fun a hF=>?_
    refine g_skip hF rfl rfl rfl hb234 rfl rfl fun a hF=>?_
    refine g_skip hF rfl rfl rfl hb234 rfl rfl fun a hF=>?_
    refine g_skip hF rfl rfl rfl hb234 rfl rfl fun a hF=>?_
    refine s_val hF (r_pick0 hF rfl rfl hb234 rfl) rfl rfl rfl fun a hF=>?_
    refine s_val hF (r_assign hF rfl rfl) rfl rfl rfl fun a hF=>?_
    refine c_nil (n_then ?_)
    have hP:=Option.some.inj hP
    subst hP
    exact ⟨false,rfl,hF.to ⟨rfl,rfl,trivial⟩,hM⟩
   have hP:=Fx.cF hb233 hP
   refine g_skip hF rfl rfl rfl hb233 rfl rfl fun a hF=>?_
   refine g_skip hF rfl rfl rfl hb233 rfl rfl fun a hF=>?_
   refine g_skip hF rfl rfl rfl hb233 rfl rfl fun a hF=>?_
   refine g_skip hF rfl rfl rfl hb233 rfl rfl fun a hF=>?_
   refine s_val hF (r_pick0 hF rfl rfl hb233 rfl) rfl rfl rfl fun a hF=>?_
   refine s_val hF (r_move hF rfl rfl) rfl rfl rfl fun a hF=>?_
   refine g_skip hF rfl rfl rfl rfl rfl rfl fun a hF=>?_
   refine g_skip hF rfl rfl rfl rfl rfl rfl fun a hF=>?_
   refine g_skip hF rfl rfl rfl rfl rfl rfl fun a hF=>?_
   refine g_skip hF rfl rfl rfl rfl rfl rfl fun a hF=>?_
   refine g_skip hF rfl rfl rfl rfl rfl rfl fun a hF=>?_
   refine s_val hF (r_pick0 hF rfl rfl rfl rfl) rfl rfl rfl fun a hF=>?_
   refine s_val hF (r_assign hF rfl rfl) rfl rfl rfl fun a hF=>?_
   refine c_nil (n_then ?_)
   have hP:=Option.some.inj hP
   subst hP
   exact ⟨false,rfl,hF.to ⟨rfl,rfl,trivial⟩,hM⟩
  rintro v230 a w hP ⟨hF,hM⟩
  replace hP:Sh.trace_goodSlot_j1 v230 = _:=hP
  unfold Sh.trace_goodSlot_j1 at hP
  refine n_then ?_
  refine c_ret ?_
  have hP:=Option.some.inj hP
  subst hP
  refine e_ret1 Tryz.results175 hF rfl ?_
  exact ⟨rfl,selM hM [] 1 rfl⟩
 have hP:=Fx.cF hb221 hP
 refine c_skip (n_then ?_)
 refine c_seq ?_
 refine c_joinX hF hM hP (fun F x a w=>match x with | _=>Fr 51 [(1,.pointer (some ⟨b_B175_1,0,none⟩)),(2,.bool false)] a ∧ MemL w (pt b_B175_1 (LSlot.enc x0) 50 :: Lr)) (fun o_j2 hP hK_j2 hF hM=>?_) ?_
 ·refine c_seq ?_
  refine c_region ?_
  refine s_val hF (r_fieldAddr (off':=4) Tryz.underlying50 rfl in48 rfl hF rfl rfl rfl) rfl rfl rfl fun a hF=>?_
  refine s_val hF (r_loadn Tryz.isAgg48 Tryz.sizeOf48 hF rfl rfl (encs_vec _) (hM.cells (i:=0) rfl (LSlot.c_bytes _))) rfl rfl rfl fun a hF=>?_
  refine s_val hF (r_move hF rfl rfl) rfl rfl rfl fun a hF=>?_
  refine c_nil (n_then ?_)
  refine c_block ?_
  refine c_loopX hF hM hP (fun F x a w=>match x with | v382=>Fr 51 [(27,.int .i64 v382),(1,.pointer (some ⟨b_B175_1,0,none⟩)),(2,.bool false),(26,.agg (encs x0.bytes.l).toArray)] a ∧ MemL w (pt b_B175_1 (LSlot.enc x0) 50 :: Lr)) (fun hF hM=>⟨hF.to ⟨rfl,rfl,rfl,rfl,trivial⟩,hM⟩) ?_
  rintro v382 a w o_l3 hP hK_l3 ⟨hF,hM⟩
  replace hP:Sh.trace_goodSlot_l3 x0 v382 = _:=hP
  unfold Sh.trace_goodSlot_l3 at hP
  refine c_seq ?_
  refine c_region ?_
  refine s_val hF (r_lss hF rfl rfl rfl) rfl rfl rfl fun a hF=>?_
  refine c_nil (n_then ?_)
  refine c_seq ?_
  refine c_cond hF (c:=.tmp 28) rfl (fun hb384=>?_) (fun hb384=>?_)
  ·have hP:=Fx.cT hb384 hP
   refine c_skip (n_then ?_)
   refine c_seq ?_
   refine c_block ?_
   refine c_seq ?_
   refine c_region ?_
   refine s_val hF (r_move hF rfl rfl) rfl rfl rfl fun a hF=>?_
   obtain ⟨x394,hx394,hP⟩:=bind_some hP
   refine s_val hF (r_indexV1Z Tryz.underlying48 Tryz.sizeOf5 Tryz.isAgg5 hF rfl rfl rfl (get_bdv hx394) (encs_at (get_some hx394).2 rfl)) rfl rfl rfl fun a hF=>?_
   refine s_val hF (r_assign hF rfl rfl) rfl rfl rfl fun a hF=>?_
   refine s_val hF (r_assign hF rfl rfl) rfl rfl rfl fun a hF=>?_
   refine c_nil (n_then ?_)
   refine c_seq ?_
   refine c_joinX hF hM hP (fun F x a w=>match x with | v399=>Fr 51 [(40,.bool v399),(1,.pointer (some ⟨b_B175_1,0,none⟩)),(2,.bool false),(26,.agg (encs x0.bytes.l).toArray),(27,.int .i64 v382)] a ∧ MemL w (pt b_B175_1 (LSlot.enc x0) 50 :: Lr)) (fun o_j4 hP hK_j4 hF hM=>?_) ?_
   ·refine c_region ?_
    refine s_val hF (r_move hF rfl rfl) rfl rfl rfl fun a hF=>?_
    refine s_val hF (r_neq hF rfl rfl rfl) rfl rfl rfl fun a hF=>?_
    refine s_val hF (r_move hF rfl rfl) rfl rfl rfl fun a hF=>?_
    refine g_split 33 hF rfl (fun hb400=>?_) (fun hb400=>?_)
    ·have hP:=Fx.cT hb400 hP
     refine g_val hF rfl rfl rfl hb400 (r_fieldAddr (off':=12) Tryz.underlying50 rfl in3 rfl hF rfl rfl rfl) rfl rfl fun a hF=>?_
     refine g_val hF rfl rfl rfl hb400 (r_load1 Tryz.isAgg3 hF rfl rfl (hM.cell (i:=0) rfl (LSlot.g_mask _))) rfl rfl fun a hF=>?_
     refine g_val hF rfl rfl rfl hb400 (r_move hF rfl rfl) rfl rfl fun a hF=>?_
     obtain ⟨hc401,hP⟩:=must_some hP
     refine g_val hF rfl rfl rfl hb400 (r_shr hF rfl rfl rfl (of_decide_eq_true hc401)) rfl rfl fun a hF=>?_
     refine g_val hF rfl rfl rfl hb400 (r_and hF rfl rfl rfl) rfl rfl fun a hF=>?_
     refine g_val hF rfl rfl rfl hb400 (r_eql hF rfl rfl rfl) rfl rfl fun a hF=>?_
     refine s_val hF (r_pick1 hF rfl rfl hb400 rfl) rfl rfl rfl fun a hF=>?_
     refine c_nil (n_then ?_)
     have hP:=Option.some.inj hP
     subst hP
     exact ⟨(decide ((band .i64 (shr .i64 x0.mask (v382).toNat) 1) = 0)),rfl,hF.to ⟨rfl,rfl,rfl,rfl,rfl,trivial⟩,hM⟩
    have hP:=Fx.cF hb400 hP
    refine g_skip hF rfl rfl rfl hb400 rfl rfl fun a hF=>?_
    refine g_skip hF rfl rfl rfl hb400 rfl rfl fun a hF=>?_
    refine g_skip hF rfl rfl rfl hb400 rfl rfl fun a hF=>?_
    refine g_skip hF rfl rfl rfl hb400 rfl rfl fun a hF=>?_
    refine g_skip hF rfl rfl rfl hb400 rfl rfl fun a hF=>?_
    refine g_skip hF rfl rfl rfl hb400 rfl rfl fun a hF=>?_
    refine s_val hF (r_pick0 hF rfl rfl hb400 rfl) rfl rfl rfl fun a hF=>?_
    refine c_nil (n_then ?_)
    have hP:=Option.some.inj hP
    subst hP
    exact ⟨false,rfl,hF.to ⟨rfl,rfl,rfl,rfl,rfl,trivial⟩,hM⟩
   rintro v399 a w hP ⟨hF,hM⟩
   replace hP:Sh.trace_goodSlot_j4 v382 v399 = _:=hP
   unfold Sh.trace_goodSlot_j4 at hP
   refine n_then ?_
   refine c_cond hF (c:=.tmp 40) rfl (fun hb402=>?_) (fun hb402=>?_)
   ·have hP:=Fx.cT hb402 hP
    refine c_seq ?_
    refine c_region ?_
    refine s_val hF (r_assign hF rfl rfl) rfl rfl rfl fun a hF=>?_
    refine c_nil (n_then ?_)
    refine c_ret ?_
    have hP:=Option.some.inj hP
    subst hP
    have hP:=hK_l3 _ rfl
    subst hP
    have hP:=fin_inr hK_j2
    subst hP
    refine e_ret1 Tryz.results175 hF rfl ?_
    exact ⟨rfl,selM hM [] 1 rfl⟩
   have hP:=Fx.cF hb402 hP
   refine c_skip (n_block (n_then ?_))
   refine c_region ?_
   refine s_val hF (r_add hF rfl rfl rfl) rfl rfl rfl fun a hF=>?_
   refine s_val hF (r_move hF rfl rfl) rfl rfl rfl fun a hF=>?_
   refine c_nil (n_then ?_)
   have hP:=Option.some.inj hP
   subst hP
   exact ⟨(IntKind.i64.wrap (v382 + 1)),rfl,hF.to ⟨rfl,rfl,rfl,rfl,trivial⟩,hM⟩
  have hP:=Fx.cF hb384 hP
  refine c_exit (x_then (x_then (x_hit ?_)))
  refine n_then ?_
  have hP:=Option.some.inj hP
  subst hP
  have hP:=hK_l3 _ rfl
  subst hP
  exact ⟨(),rfl,hF.to ⟨rfl,rfl,trivial⟩,hM⟩
 rintro ⟨⟩ a w hP ⟨hF,hM⟩
 replace hP:Sh.trace_goodSlot_j2 x0 = _:=hP
 unfold Sh.trace_goodSlot_j2 at hP
 refine n_then ?_
 refine c_seq ?_
 refine c_joinX hF hM hP (fun F x a w=>match x with | v409=>Fr 51 [(2,.bool v409)] a ∧ MemL w (Lr)) (fun o_j5 hP hK_j5 hF hM=>?_) ?_
 ·refine c_region ?_
  refine s_val hF (r_fieldAddr (off':=0) Tryz.underlying50 rfl in46 rfl hF rfl rfl rfl) rfl rfl rfl fun a hF=>?_
  refine s_val hF (r_loadn Tryz.isAgg46 Tryz.sizeOf46 hF rfl rfl (LVal.len _) (hM.cells (i:=0) rfl (LSlot.c_ptr _))) rfl rfl rfl fun a hF=>?_
  refine s_val hF (r_build z46 Tryz.underlying46 pl46 hF (parts:=[]) rfl rfl fill_e) rfl rfl rfl fun a hF=>?_
  refine s_val hF (r_eqlA Tryz.eqGuardType46 (eq_LVal _ _ _ _ (by decide)) hF rfl rfl rfl) rfl rfl rfl fun a hF=>?_
  refine s_val hF (r_move hF rfl rfl) rfl rfl rfl fun a hF=>?_
  refine g_split 46 hF rfl (fun hb410=>?_) (fun hb410=>?_)
  ·have hP:=Fx.cT hb410 hP
   refine g_val hF rfl rfl rfl hb410 (r_fieldAddr (off':=12) Tryz.underlying50 rfl in3 rfl hF rfl rfl rfl) rfl rfl fun a hF=>?_
   refine g_val hF rfl rfl rfl hb410 (r_load1 Tryz.isAgg3 hF rfl rfl (hM.cell (i:=0) rfl (LSlot.g_mask _))) rfl rfl fun a hF=>?_
   obtain ⟨y412,hy412,hP⟩:=bind_some hP
   refine g_eff hF rfl rfl rfl hb410 rfl rfl (w_call (xs:=[.tmp 48,.const (.int .i64 (0)),.const (.int .i64 (255))]) Tryz.call124 hF rfl rfl (trace_within_calls hy412 hM ) fun v w hR=>?_)
   obtain ⟨rfl,hM⟩:=hR
   replace hM:MemL _ (pt b_B175_1 (LSlot.enc x0) 50 :: Lr):=hM
   intro a hF
   refine s_val hF (r_pick1 hF rfl rfl hb410 rfl) rfl rfl rfl fun a hF=>?_
   refine s_val hF (r_assign hF rfl rfl) rfl rfl rfl fun a hF=>?_
   refine c_nil (n_then ?_)
   have hP:=Option.some.inj hP
   subst hP
   exact ⟨y412,rfl,hF.to ⟨rfl,trivial⟩,selM hM [] 1 rfl⟩
  have hP:=Fx.cF hb410 hP
  refine g_skip hF rfl rfl rfl hb410 rfl rfl fun a hF=>?_
  refine g_skip hF rfl rfl rfl hb410 rfl rfl fun a hF=>?_
  refine g_skip hF rfl rfl rfl hb410 rfl rfl fun a hF=>?_
  refine s_val hF (r_pick0 hF rfl rfl hb410 rfl) rfl rfl rfl fun a hF=>?_
  refine s_val hF (r_assign hF rfl rfl) rfl rfl rfl fun a hF=>?_
  refine c_nil (n_then ?_)
  have hP:=Option.some.inj hP
  subst hP
  exact ⟨false,rfl,hF.to ⟨rfl,trivial⟩,selM hM [] 1 rfl⟩
 rintro v409 a w hP ⟨hF,hM⟩
 replace hP:Sh.trace_goodSlot_j5 v409 = _:=hP
 unfold Sh.trace_goodSlot_j5 at hP
 refine n_then ?_
 refine c_ret ?_
 have hP:=Option.some.inj hP
 subst hP
 refine e_ret1 Tryz.results175 hF rfl ?_
 exact ⟨rfl,hM⟩
set_option maxHeartbeats 4000000 in
theorem trace_goodMark_calls {x0:QMark} {s1:SV} {s3:SV} {s5:SV} {hs6:List RPiece} {s9:SV} {out:Bool} {w0:World} {Bf:World → Prop} {Lr:List Res} (hP:Sh.trace_goodMark x0 = some out) (hM:MemL w0 (Lr)) (hsub:∀ w,MemL w Lr → Bf w) (f2:LIn Bf s1 x0.regs) (f4:LIn Bf s3 x0.slots) (f7:LIn Bf s5 hs6) (q8:Each (QPieceIn Bf) hs6 x0.pieces) (f10:LIn Bf s9 x0.sent):Calls Tryz.prog 99 #[.agg (RMark.enc (RMark.mk x0.at_ x0.next x0.done s1 s3 s5 s9)).toArray] w0 (Ret fun v w'=>v = .bool out ∧ MemL w' (Lr)):=by
 unfold Sh.trace_goodMark at hP
 refine calls_enter (vs:=[.agg (RMark.enc (RMark.mk x0.at_ x0.next x0.done s1 s3 s5 s9)).toArray]) Tryz.func99 rfl Tryz.ntmps99 rfl fun a hF=>?_
 refine c_seq ?_
 refine c_region ?_
 refine s_eff hF rfl rfl rfl (w_box hF rfl rfl rfl fun b_B99_1 w hzB99_1 hAB99_1=>?_)
 have hM:=hM.plus hAB99_1
 replace hM:MemL _ (pt b_B99_1 (RMark.enc (RMark.mk x0.at_ x0.next x0.done s1 s3 s5 s9)) 60 :: Lr):=hM
 intro a hF
 refine s_val hF (r_assign hF rfl rfl) rfl rfl rfl fun a hF=>?_
 refine c_nil (n_then ?_)
 refine c_seq ?_
 refine c_seq ?_
 refine c_region ?_
 refine s_val hF (r_loadn Tryz.isAgg60 Tryz.sizeOf60 hF rfl rfl (RMark.len _) (hM.cells (i:=0) rfl (cut_all (RMark.len _)))) rfl rfl rfl fun a hF=>?_
 obtain ⟨y753,hy753,hP⟩:=bind_some hP
 refine s_eff hF rfl rfl rfl (w_call (xs:=[.tmp 7]) Tryz.call173 hF rfl rfl (trace_plain_calls hy753 hM (Bf:=Bf) (fun w hM=>hsub _ (dropM hM 1)) f2 f4 f7 q8 f10) fun v w hR=>?_)
 obtain ⟨rfl,hM⟩:=hR
 replace hM:MemL _ (pt b_B99_1 (RMark.enc (RMark.mk x0.at_ x0.next x0.done s1 s3 s5 s9)) 60 :: Lr):=hM
 intro a hF
 refine s_val hF (r_not hF rfl rfl) rfl rfl rfl fun a hF=>?_
 refine c_nil (n_then ?_)
 refine c_cond hF (c:=.tmp 9) rfl (fun hb754=>?_) (fun hb754=>?_)
 ·have hP:=Fx.cT hb754 hP
  refine c_seq ?_
  refine c_region ?_
  refine s_val hF (r_assign hF rfl rfl) rfl rfl rfl fun a hF=>?_
  refine c_nil (n_then ?_)
  refine c_ret ?_
  have hP:=Option.some.inj hP
  subst hP
  refine e_ret1 Tryz.results99 hF rfl ?_
  exact ⟨rfl,selM hM [] 1 rfl⟩
 have hP:=Fx.cF hb754 hP
 refine c_skip (n_then ?_)
 refine c_seq ?_
 refine c_joinX hF hM hP (fun F x a w=>match x with | _=>Fr 46 [(1,.pointer (some ⟨b_B99_1,0,none⟩)),(2,.bool false)] a ∧ MemL w (pt b_B99_1 (RMark.enc (RMark.mk x0.at_ x0.next x0.done s1 s3 s5 s9)) 60 :: Lr)) (fun o_j1 hP hK_j1 hF hM=>?_) ?_
 ·refine c_seq ?_
  refine c_region ?_
  refine s_val hF (r_fieldAddr (off':=3) Tryz.underlying60 rfl in56 rfl hF rfl rfl rfl) rfl rfl rfl fun a hF=>?_
  refine s_val hF (r_load1 Tryz.isAgg56 hF rfl rfl (hM.cell (i:=0) rfl (RMark.g_regs _))) rfl rfl rfl fun a hF=>?_
  refine s_val hF (r_lenL (f2 _ (hsub _ (dropM hM 1))) Tryz.underlying56 hF rfl rfl) rfl rfl rfl fun a hF=>?_
  refine s_val hF (r_move hF rfl rfl) rfl rfl rfl fun a hF=>?_
  refine c_nil (n_then ?_)
  refine c_block ?_
  refine c_loopX hF hM hP (fun F x a w=>match x with | v1080=>Fr 46 [(13,.int .i64 v1080),(1,.pointer (some ⟨b_B99_1,0,none⟩)),(11,(s1).v),(12,.int .i64 (x0.regs.length:Int)),(2,.bool false)] a ∧ MemL w (pt b_B99_1 (RMark.enc (RMark.mk x0.at_ x0.next x0.done s1 s3 s5 s9)) 60 :: Lr)) (fun hF hM=>⟨hF.to ⟨rfl,rfl,rfl,rfl,rfl,trivial⟩,hM⟩) ?_
  rintro v1080 a w o_l2 hP hK_l2 ⟨hF,hM⟩
  replace hP:Sh.trace_goodMark_l2 x0 v1080 = _:=hP
  unfold Sh.trace_goodMark_l2 at hP
  refine c_seq ?_
  refine c_region ?_
  refine s_val hF (r_lss hF rfl rfl rfl) rfl rfl rfl fun a hF=>?_
  refine c_nil (n_then ?_)
  refine c_seq ?_
  refine c_cond hF (c:=.tmp 14) rfl (fun hb1082=>?_) (fun hb1082=>?_)
  ·have hP:=Fx.cT hb1082 hP
   refine c_skip (n_then ?_)
   refine c_seq ?_
   refine c_block ?_
   refine c_seq ?_
   refine c_region ?_
   obtain ⟨x1102,hx1102,hP⟩:=bind_some hP
   have h0x1102:=get_some hx1102
   refine s_val hF (r_indexZ (sz:=9) (f2 _ (hsub _ (dropM hM 1))) Tryz.underlying56 in128 rfl hF rfl rfl rfl (get_bd hx1102)) rfl rfl rfl fun a hF=>?_
   refine s_val hF (r_loadn Tryz.isAgg128 Tryz.sizeOf128 hF rfl rfl (LTurn.len _) (((f2 _ (hsub _ (dropM hM 1))).elemS h0x1102.2))) rfl rfl rfl fun a hF=>?_
   refine s_eff hF rfl rfl rfl (w_alloc z128 (zs:=LTurn.zero.enc) rfl rfl fun b_B99_4 w hzB99_4 hAB99_4=>?_)
   have hM:=hM.plus hAB99_4
   replace hM:MemL _ (pt b_B99_4 (LTurn.enc LTurn.zero) 128 :: pt b_B99_1 (RMark.enc (RMark.mk x0.at_ x0.next x0.done s1 s3 s5 s9)) 60 :: Lr):=hM
   intro a hF
   refine s_eff0 rfl rfl (w_storen (vs:=_) Tryz.sizeOf128 (hM.obj (i:=0) rfl) hF rfl rfl rfl rfl (LTurn.len _) (LTurn.one _) (by first | (rw [LTurn.len,LTurn.len]; decide) | (rw [LTurn.len]; decide)) (put_all ((LTurn.len _).trans (LTurn.len _).symm)) fun w hU1103=>?_)
   have hM:=hM.chg hU1103 (i:=0) rfl
   replace hM:MemL _ (pt b_B99_4 (LTurn.enc x1102) 128 :: pt b_B99_1 (RMark.enc (RMark.mk x0.at_ x0.next x0.done s1 s3 s5 s9)) 60 :: Lr):=hM
   refine c_nil (n_then ?_)
   refine c_seq ?_
   refine c_joinX hF hM hP (fun F x a w=>match x with | v1114=>Fr 46 [(26,.bool v1114),(1,.pointer (some ⟨b_B99_1,0,none⟩)),(11,(s1).v),(12,.int .i64 (x0.regs.length:Int)),(13,.int .i64 v1080),(2,.bool false)] a ∧ MemL w (pt b_B99_1 (RMark.enc (RMark.mk x0.at_ x0.next x0.done s1 s3 s5 s9)) 60 :: Lr)) (fun o_j3 hP hK_j3 hF hM=>?_) ?_
   ·refine c_region ?_
    refine s_val hF (r_fieldAddr (off':=1) Tryz.underlying128 rfl in46 rfl hF rfl rfl rfl) rfl rfl rfl fun a hF=>?_
    refine s_val hF (r_loadn Tryz.isAgg46 Tryz.sizeOf46 hF rfl rfl (LVal.len _) (hM.cells (i:=0) rfl (LTurn.c_old _))) rfl rfl rfl fun a hF=>?_
    obtain ⟨y1116,hy1116,hP⟩:=bind_some hP
    refine s_eff hF rfl rfl rfl (w_call (xs:=[.tmp 18]) Tryz.call174 hF rfl rfl (trace_goodValue_calls hy1116 hM ) fun v w hR=>?_)
    obtain ⟨rfl,hM⟩:=hR
    replace hM:MemL _ (pt b_B99_4 (LTurn.enc x1102) 128 :: pt b_B99_1 (RMark.enc (RMark.mk x0.at_ x0.next x0.done s1 s3 s5 s9)) 60 :: Lr):=hM
    intro a hF
    refine s_val hF (r_not hF rfl rfl) rfl rfl rfl fun a hF=>?_
    refine s_val hF (r_move hF rfl rfl) rfl rfl rfl fun a hF=>?_
    refine g_split 21 hF rfl (fun hb1117=>?_) (fun hb1117=>?_)
    ·have hP:=Fx.cT hb1117 hP
     refine g_skip hF rfl rfl rfl hb1117 rfl rfl fun a hF=>?_
     refine g_skip hF rfl rfl rfl hb1117 rfl rfl fun a hF=>?_
     refine g_skip hF rfl rfl rfl hb1117 rfl rfl fun a hF=>?_
     refine g_skip hF rfl rfl rfl hb1117 rfl rfl fun a hF=>?_
     refine s_val hF (r_pick1 hF rfl rfl hb1117 rfl) rfl rfl rfl fun a hF=>?_
     refine c_nil (n_then ?_)
     have hP:=Option.some.inj hP
     subst hP
     exact ⟨true,rfl,hF.to ⟨rfl,rfl,rfl,rfl,rfl,rfl,trivial⟩,selM hM [1] 2 rfl⟩
    have hP:=Fx.cF hb1117 hP
    refine g_val hF rfl rfl rfl hb1117 (r_fieldAddr (off':=5) Tryz.underlying128 rfl in46 rfl hF rfl rfl rfl) rfl rfl fun a hF=>?_
    refine g_val hF rfl rfl rfl hb1117 (r_loadn Tryz.isAgg46 Tryz.sizeOf46 hF rfl rfl (LVal.len _) (hM.cells (i:=0) rfl (LTurn.c_new _))) rfl rfl fun a hF=>?_
    obtain ⟨y1119,hy1119,hP⟩:=bind_some hP
    refine g_eff hF rfl rfl rfl hb1117 rfl rfl (w_call (xs:=[.tmp 23]) Tryz.call174 hF rfl rfl (trace_goodValue_calls hy1119 hM ) fun v w hR=>?_)
    obtain ⟨rfl,hM⟩:=hR
    replace hM:MemL _ (pt b_B99_4 (LTurn.enc x1102) 128 :: pt b_B99_1 (RMark.enc (RMark.mk x0.at_ x0.next x0.done s1 s3 s5 s9)) 60 :: Lr):=hM
    intro a hF
    refine g_val hF rfl rfl rfl hb1117 (r_not hF rfl rfl) rfl rfl fun a hF=>?_
    refine s_val hF (r_pick0 hF rfl rfl hb1117 rfl) rfl rfl rfl fun a hF=>?_
    refine c_nil (n_then ?_)
    have hP:=Option.some.inj hP
    subst hP
    exact ⟨(!y1119),rfl,hF.to ⟨rfl,rfl,rfl,rfl,rfl,rfl,trivial⟩,selM hM [1] 2 rfl⟩
   rintro v1114 a w hP ⟨hF,hM⟩
   replace hP:Sh.trace_goodMark_j3 v1080 v1114 = _:=hP
   unfold Sh.trace_goodMark_j3 at hP
   refine n_then ?_
   refine c_cond hF (c:=.tmp 26) rfl (fun hb1120=>?_) (fun hb1120=>?_)
   ·have hP:=Fx.cT hb1120 hP
    refine c_seq ?_
    refine c_region ?_
    refine s_val hF (r_assign hF rfl rfl) rfl rfl rfl fun a hF=>?_
    refine c_nil (n_then ?_)
    refine c_ret ?_
    have hP:=Option.some.inj hP
    subst hP
    have hP:=hK_l2 _ rfl
    subst hP
    have hP:=fin_inr hK_j1
    subst hP
    refine e_ret1 Tryz.results99 hF rfl ?_
    exact ⟨rfl,selM hM [] 1 rfl⟩
   have hP:=Fx.cF hb1120 hP
   refine c_skip (n_block (n_then ?_))
   refine c_region ?_
   refine s_val hF (r_add hF rfl rfl rfl) rfl rfl rfl fun a hF=>?_
   refine s_val hF (r_move hF rfl rfl) rfl rfl rfl fun a hF=>?_
   refine c_nil (n_then ?_)
   have hP:=Option.some.inj hP
   subst hP
   exact ⟨(IntKind.i64.wrap (v1080 + 1)),rfl,hF.to ⟨rfl,rfl,rfl,rfl,rfl,trivial⟩,hM⟩
  have hP:=Fx.cF hb1082 hP
  refine c_exit (x_then (x_then (x_hit ?_)))
  refine n_then ?_
  have hP:=Option.some.inj hP
  subst hP
  have hP:=hK_l2 _ rfl
  subst hP
  exact ⟨(),rfl,hF.to ⟨rfl,rfl,trivial⟩,hM⟩
 rintro ⟨⟩ a w hP ⟨hF,hM⟩
 replace hP:Sh.trace_goodMark_j1 x0 = _:=hP
 unfold Sh.trace_goodMark_j1 at hP
 refine n_then ?_
 refine c_seq ?_
 refine c_joinX hF hM hP (fun F x a w=>match x with | _=>Fr 46 [(2,.bool false)] a ∧ MemL w (Lr)) (fun o_j4 hP hK_j4 hF hM=>?_) ?_
 ·refine c_seq ?_
  refine c_region ?_
  refine s_val hF (r_fieldAddr (off':=4) Tryz.underlying60 rfl in57 rfl hF rfl rfl rfl) rfl rfl rfl fun a hF=>?_
  refine s_val hF (r_load1 Tryz.isAgg57 hF rfl rfl (hM.cell (i:=0) rfl (RMark.g_slots _))) rfl rfl rfl fun a hF=>?_
  refine s_val hF (r_lenL (f4 _ (hsub _ (dropM hM 1))) Tryz.underlying57 hF rfl rfl) rfl rfl rfl fun a hF=>?_
  refine s_val hF (r_move hF rfl rfl) rfl rfl rfl fun a hF=>?_
  refine c_nil (n_then ?_)
  refine c_block ?_
  refine c_loopX hF hM hP (fun F x a w=>match x with | v1446=>Fr 46 [(31,.int .i64 v1446),(2,.bool false),(29,(s3).v),(30,.int .i64 (x0.slots.length:Int))] a ∧ MemL w (Lr)) (fun hF hM=>⟨hF.to ⟨rfl,rfl,rfl,rfl,trivial⟩,selM hM [] 1 rfl⟩) ?_
  rintro v1446 a w o_l5 hP hK_l5 ⟨hF,hM⟩
  replace hP:Sh.trace_goodMark_l5 x0 v1446 = _:=hP
  unfold Sh.trace_goodMark_l5 at hP
  refine c_seq ?_
  refine c_region ?_
  refine s_val hF (r_lss hF rfl rfl rfl) rfl rfl rfl fun a hF=>?_
  refine c_nil (n_then ?_)
  refine c_seq ?_
  refine c_cond hF (c:=.tmp 32) rfl (fun hb1448=>?_) (fun hb1448=>?_)
  ·have hP:=Fx.cT hb1448 hP
   refine c_skip (n_then ?_)
   refine c_seq ?_
   refine c_block ?_
   refine c_seq ?_
   refine c_region ?_
   obtain ⟨x1468,hx1468,hP⟩:=bind_some hP
   have h0x1468:=get_some hx1468
   refine s_val hF (r_indexZ (sz:=27) (f4 _ (hsub _ (dropM hM 0))) Tryz.underlying57 in151 rfl hF rfl rfl rfl (get_bd hx1468)) rfl rfl rfl fun a hF=>?_
   refine s_val hF (r_loadn Tryz.isAgg151 Tryz.sizeOf151 hF rfl rfl (LCell.len _) (((f4 _ (hsub _ (dropM hM 0))).elemS h0x1468.2))) rfl rfl rfl fun a hF=>?_
   refine s_eff hF rfl rfl rfl (w_alloc z151 (zs:=LCell.zero.enc) rfl rfl fun b_B99_6 w hzB99_6 hAB99_6=>?_)
   have hM:=hM.plus hAB99_6
   replace hM:MemL _ (pt b_B99_6 (LCell.enc LCell.zero) 151 :: Lr):=hM
   intro a hF
   refine s_eff0 rfl rfl (w_storen (vs:=_) Tryz.sizeOf151 (hM.obj (i:=0) rfl) hF rfl rfl rfl rfl (LCell.len _) (LCell.one _) (by first | (rw [LCell.len,LCell.len]; decide) | (rw [LCell.len]; decide)) (put_all ((LCell.len _).trans (LCell.len _).symm)) fun w hU1469=>?_)
   have hM:=hM.chg hU1469 (i:=0) rfl
   replace hM:MemL _ (pt b_B99_6 (LCell.enc x1468) 151 :: Lr):=hM
   refine c_nil (n_then ?_)
   refine c_seq ?_
   refine c_joinX hF hM hP (fun F x a w=>match x with | v1480=>Fr 46 [(44,.bool v1480),(2,.bool false),(29,(s3).v),(30,.int .i64 (x0.slots.length:Int)),(31,.int .i64 v1446)] a ∧ MemL w (Lr)) (fun o_j6 hP hK_j6 hF hM=>?_) ?_
   ·refine c_region ?_
    refine s_val hF (r_fieldAddr (off':=1) Tryz.underlying151 rfl in50 rfl hF rfl rfl rfl) rfl rfl rfl fun a hF=>?_
    refine s_val hF (r_loadn Tryz.isAgg50 Tryz.sizeOf50 hF rfl rfl (LSlot.len _) (hM.cells (i:=0) rfl (LCell.c_old _))) rfl rfl rfl fun a hF=>?_
    obtain ⟨y1482,hy1482,hP⟩:=bind_some hP
    refine s_eff hF rfl rfl rfl (w_call (xs:=[.tmp 36]) Tryz.call175 hF rfl rfl (trace_goodSlot_calls hy1482 hM ) fun v w hR=>?_)
    obtain ⟨rfl,hM⟩:=hR
    replace hM:MemL _ (pt b_B99_6 (LCell.enc x1468) 151 :: Lr):=hM
    intro a hF
    refine s_val hF (r_not hF rfl rfl) rfl rfl rfl fun a hF=>?_
    refine s_val hF (r_move hF rfl rfl) rfl rfl rfl fun a hF=>?_
    refine g_split 39 hF rfl (fun hb1483=>?_) (fun hb1483=>?_)
    ·have hP:=Fx.cT hb1483 hP
     refine g_skip hF rfl rfl rfl hb1483 rfl rfl fun a hF=>?_
     refine g_skip hF rfl rfl rfl hb1483 rfl rfl fun a hF=>?_
     refine g_skip hF rfl rfl rfl hb1483 rfl rfl fun a hF=>?_
     refine g_skip hF rfl rfl rfl hb1483 rfl rfl fun a hF=>?_
     refine s_val hF (r_pick1 hF rfl rfl hb1483 rfl) rfl rfl rfl fun a hF=>?_
     refine c_nil (n_then ?_)
     have hP:=Option.some.inj hP
     subst hP
     exact ⟨true,rfl,hF.to ⟨rfl,rfl,rfl,rfl,rfl,trivial⟩,selM hM [] 1 rfl⟩
    have hP:=Fx.cF hb1483 hP
    refine g_val hF rfl rfl rfl hb1483 (r_fieldAddr (off':=14) Tryz.underlying151 rfl in50 rfl hF rfl rfl rfl) rfl rfl fun a hF=>?_
    refine g_val hF rfl rfl rfl hb1483 (r_loadn Tryz.isAgg50 Tryz.sizeOf50 hF rfl rfl (LSlot.len _) (hM.cells (i:=0) rfl (LCell.c_new _))) rfl rfl fun a hF=>?_
    obtain ⟨y1485,hy1485,hP⟩:=bind_some hP
    refine g_eff hF rfl rfl rfl hb1483 rfl rfl (w_call (xs:=[.tmp 41]) Tryz.call175 hF rfl rfl (trace_goodSlot_calls hy1485 hM ) fun v w hR=>?_)
    obtain ⟨rfl,hM⟩:=hR
    replace hM:MemL _ (pt b_B99_6 (LCell.enc x1468) 151 :: Lr):=hM
    intro a hF
    refine g_val hF rfl rfl rfl hb1483 (r_not hF rfl rfl) rfl rfl fun a hF=>?_
    refine s_val hF (r_pick0 hF rfl rfl hb1483 rfl) rfl rfl rfl fun a hF=>?_
    refine c_nil (n_then ?_)
    have hP:=Option.some.inj hP
    subst hP
    exact ⟨(!y1485),rfl,hF.to ⟨rfl,rfl,rfl,rfl,rfl,trivial⟩,selM hM [] 1 rfl⟩
   rintro v1480 a w hP ⟨hF,hM⟩
   replace hP:Sh.trace_goodMark_j6 v1446 v1480 = _:=hP
   unfold Sh.trace_goodMark_j6 at hP
   refine n_then ?_
   refine c_cond hF (c:=.tmp 44) rfl (fun hb1486=>?_) (fun hb1486=>?_)
   ·have hP:=Fx.cT hb1486 hP
    refine c_seq ?_
    refine c_region ?_
    refine s_val hF (r_assign hF rfl rfl) rfl rfl rfl fun a hF=>?_
    refine c_nil (n_then ?_)
    refine c_ret ?_
    have hP:=Option.some.inj hP
    subst hP
    have hP:=hK_l5 _ rfl
    subst hP
    have hP:=fin_inr hK_j4
    subst hP
    refine e_ret1 Tryz.results99 hF rfl ?_
    exact ⟨rfl,hM⟩
   have hP:=Fx.cF hb1486 hP
   refine c_skip (n_block (n_then ?_))
   refine c_region ?_
   refine s_val hF (r_add hF rfl rfl rfl) rfl rfl rfl fun a hF=>?_
   refine s_val hF (r_move hF rfl rfl) rfl rfl rfl fun a hF=>?_
   refine c_nil (n_then ?_)
   have hP:=Option.some.inj hP
   subst hP
   exact ⟨(IntKind.i64.wrap (v1446 + 1)),rfl,hF.to ⟨rfl,rfl,rfl,rfl,trivial⟩,hM⟩
  have hP:=Fx.cF hb1448 hP
  refine c_exit (x_then (x_then (x_hit ?_)))
  refine n_then ?_
  have hP:=Option.some.inj hP
  subst hP
  have hP:=hK_l5 _ rfl
  subst hP
  exact ⟨(),rfl,hF.to ⟨rfl,trivial⟩,hM⟩
 rintro ⟨⟩ a w hP ⟨hF,hM⟩
 replace hP:Sh.trace_goodMark_j4 = _:=hP
 unfold Sh.trace_goodMark_j4 at hP
 refine n_then ?_
 refine c_seq ?_
 refine c_region ?_
 refine s_val hF (r_assign hF rfl rfl) rfl rfl rfl fun a hF=>?_
 refine c_nil (n_then ?_)
 refine c_ret ?_
 have hP:=Option.some.inj hP
 subst hP
 refine e_ret1 Tryz.results99 hF rfl ?_
 exact ⟨rfl,hM⟩
end Go.Proofs
end
