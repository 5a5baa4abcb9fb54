/- Ground for this claim: The call of TraceApplies returns true. Condition: the arguments are of bulk at most 1048576. -/
import Derived.Test.YtmgnkohlfbjjnaaGreatRProg
import Derived.KernelRfl
import Derived.Test.YtmgnkohlfbjjnaaGreatRAp5
set_option linter.unusedVariables false
set_option linter.unusedSimpArgs false
section
namespace Go.Proofs
open Go.Fw
set_option maxRecDepth 20000
theorem mixed:Tryz.prog.follows .mixedOrders = true:=by kernel_rfl
theorem gA (d:Nat) (x y:LVal) (w:World) (hd:3 ≤ d):(Op.equalIn d 46 (.agg x.enc.toArray) (.agg y.enc.toArray)).run Tryz.prog w = .ok (decide (x = y)) w:=by
  obtain ⟨d,rfl⟩ : ∃ d',d = d' + 1:=⟨d - 1,by omega⟩
  rw [run_equalIn_struct w d 46 _ _ (by simp only [Program.fieldsOf,Tryz.underlying46]) Tryz.stoodInHeld46]
  simp only [Program.fieldsOf,Tryz.underlying46]
  have key:(x = y) ↔ x.kind = y.kind ∧ x.table = y.table ∧ x.row = y.row ∧ x.x = y.x:=by cases x; cases y; simp
  rw [dS (by decide) Tryz.isAgg3 (LVal.g_kind x) (LVal.g_kind y) ((EqSpec.int (k:=.i64) Tryz.underlying3) d _ _ w (by omega))]
  rw [dS (by decide) Tryz.isAgg3 (LVal.g_table x) (LVal.g_table y) ((EqSpec.int (k:=.i64) Tryz.underlying3) d _ _ w (by omega))]
  rw [dS (by decide) Tryz.isAgg3 (LVal.g_row x) (LVal.g_row y) ((EqSpec.int (k:=.i64) Tryz.underlying3) d _ _ w (by omega))]
  rw [dS (by decide) Tryz.isAgg3 (LVal.g_x x) (LVal.g_x y) ((EqSpec.int (k:=.i64) Tryz.underlying3) d _ _ w (by omega))]
  rw [fZ]
  simp only [decide_eq_true_eq,key]
  repeat' split
  all_goals simp_all
theorem yB:∀ (d:Nat) (x y:Vec UInt8 8) (w:World),2 ≤ d → (Op.equalIn d 48 (.agg (encs x.l).toArray) (.agg (encs y.l).toArray)).run Tryz.prog w = .ok (decide (x = y)) w :=
  EqSpec.vecOne Tryz.underlying48 Tryz.sizeOf5 rfl Tryz.isAgg5 (fun _=>rfl) (EqSpec.u8 Tryz.underlying5)
theorem gR (d:Nat) (x y:LSlot) (w:World) (hd:6 ≤ d):(Op.equalIn d 50 (.agg x.enc.toArray) (.agg y.enc.toArray)).run Tryz.prog w = .ok (decide (x = y)) w:=by
  obtain ⟨d,rfl⟩ : ∃ d',d = d' + 1:=⟨d - 1,by omega⟩
  rw [run_equalIn_struct w d 50 _ _ (by simp only [Program.fieldsOf,Tryz.underlying50]) Tryz.stoodInHeld50]
  simp only [Program.fieldsOf,Tryz.underlying50]
  have key:(x = y) ↔ x.ptr = y.ptr ∧ x.bytes = y.bytes ∧ x.mask = y.mask:=by cases x; cases y; simp
  rw [gX (by decide) Tryz.isAgg46 Tryz.sizeOf46 (LSlot.c_ptr x) (LSlot.c_ptr y) (gA d _ _ w (by omega))]
  rw [gX (by decide) Tryz.isAgg48 Tryz.sizeOf48 (LSlot.c_bytes x) (LSlot.c_bytes y) (yB d _ _ w (by omega))]
  rw [dS (by decide) Tryz.isAgg3 (LSlot.g_mask x) (LSlot.g_mask y) ((EqSpec.int (k:=.i64) Tryz.underlying3) d _ _ w (by omega))]
  rw [fZ]
  simp only [decide_eq_true_eq,key]
  repeat' split
  all_goals simp_all
theorem aDt (d:Nat) (x y:LTurn) (w:World) (hd:6 ≤ d):(Op.equalIn d 128 (.agg x.enc.toArray) (.agg y.enc.toArray)).run Tryz.prog w = .ok (decide (x = y)) w:=by
  obtain ⟨d,rfl⟩ : ∃ d',d = d' + 1:=⟨d - 1,by omega⟩
  rw [run_equalIn_struct w d 128 _ _ (by simp only [Program.fieldsOf,Tryz.underlying128]) Tryz.stoodInHeld128]
  simp only [Program.fieldsOf,Tryz.underlying128]
  have key:(x = y) ↔ x.reg = y.reg ∧ x.old = y.old ∧ x.new = y.new:=by cases x; cases y; simp
  rw [dS (by decide) Tryz.isAgg3 (LTurn.g_reg x) (LTurn.g_reg y) ((EqSpec.int (k:=.i64) Tryz.underlying3) d _ _ w (by omega))]
  rw [gX (by decide) Tryz.isAgg46 Tryz.sizeOf46 (LTurn.c_old x) (LTurn.c_old y) (gA d _ _ w (by omega))]
  rw [gX (by decide) Tryz.isAgg46 Tryz.sizeOf46 (LTurn.c_new x) (LTurn.c_new y) (gA d _ _ w (by omega))]
  rw [fZ]
  simp only [decide_eq_true_eq,key]
  repeat' split
  all_goals simp_all
theorem aDs (d:Nat) (x y:LCell) (w:World) (hd:8 ≤ d):(Op.equalIn d 151 (.agg x.enc.toArray) (.agg y.enc.toArray)).run Tryz.prog w = .ok (decide (x = y)) w:=by
  obtain ⟨d,rfl⟩ : ∃ d',d = d' + 1:=⟨d - 1,by omega⟩
  rw [run_equalIn_struct w d 151 _ _ (by simp only [Program.fieldsOf,Tryz.underlying151]) Tryz.stoodInHeld151]
  simp only [Program.fieldsOf,Tryz.underlying151]
  have key:(x = y) ↔ x.slot = y.slot ∧ x.old = y.old ∧ x.new = y.new:=by cases x; cases y; simp
  rw [dS (by decide) Tryz.isAgg3 (LCell.g_slot x) (LCell.g_slot y) ((EqSpec.int (k:=.i64) Tryz.underlying3) d _ _ w (by omega))]
  rw [gX (by decide) Tryz.isAgg50 Tryz.sizeOf50 (LCell.c_old x) (LCell.c_old y) (gR d _ _ w (by omega))]
  rw [gX (by decide) Tryz.isAgg50 Tryz.sizeOf50 (LCell.c_new x) (LCell.c_new y) (gR d _ _ w (by omega))]
  rw [fZ]
  simp only [decide_eq_true_eq,key]
  repeat' split
  all_goals simp_all
theorem aDu:∀ (d:Nat) (x y:Vec LVal 11) (w:World),9 ≤ d → (Op.equalIn d 47 (.agg (encs x.l).toArray) (.agg (encs y.l).toArray)).run Tryz.prog w = .ok (decide (x = y)) w :=
  EqSpec.vecAgg Tryz.underlying47 Tryz.sizeOf46 Tryz.isAgg46 fun d x y w h=>gA d x y w (by omega)
theorem aDv:∀ (d:Nat) (x y:Vec LSlot 32) (w:World),9 ≤ d → (Op.equalIn d 51 (.agg (encs x.l).toArray) (.agg (encs y.l).toArray)).run Tryz.prog w = .ok (decide (x = y)) w :=
  EqSpec.vecAgg Tryz.underlying51 Tryz.sizeOf50 Tryz.isAgg50 fun d x y w h=>gR d x y w (by omega)
theorem z46 (w:World):(zeroValue 46).run Tryz.prog w = .ok (.agg LVal.zero.enc.toArray) w:=(Tryz.zeroValue46 w).trans (by kernel_rfl)
theorem z50 (w:World):(zeroValue 50).run Tryz.prog w = .ok (.agg LSlot.zero.enc.toArray) w:=(Tryz.zeroValue50 w).trans (by kernel_rfl)
theorem z128 (w:World):(zeroValue 128).run Tryz.prog w = .ok (.agg LTurn.zero.enc.toArray) w:=(Tryz.zeroValue128 w).trans (by kernel_rfl)
theorem z151 (w:World):(zeroValue 151).run Tryz.prog w = .ok (.agg LCell.zero.enc.toArray) w:=(Tryz.zeroValue151 w).trans (by kernel_rfl)
theorem z156 (w:World):(zeroValue 156).run Tryz.prog w = .ok (.agg RPiece.zero.enc.toArray) w:=(Tryz.zeroValue156 w).trans (by kernel_rfl)
theorem z60 (w:World):(zeroValue 60).run Tryz.prog w = .ok (.agg RMark.zero.enc.toArray) w:=(Tryz.zeroValue60 w).trans (by kernel_rfl)
theorem z30 (w:World):(zeroValue 30).run Tryz.prog w = .ok (.agg RInput.zero.enc.toArray) w:=(Tryz.zeroValue30 w).trans (by kernel_rfl)
theorem z36 (w:World):(zeroValue 36).run Tryz.prog w = .ok (.agg RRecord.zero.enc.toArray) w:=(Tryz.zeroValue36 w).trans (by kernel_rfl)
theorem z54 (w:World):(zeroValue 54).run Tryz.prog w = .ok (.agg RState.zero.enc.toArray) w:=by
  rw [Tryz.zeroValue54]
  have:Tryz.zeroCells54 = RState.zero.enc.toArray:=by kernel_rfl
  rw [this]
theorem in3:Tryz.prog.info? 3 = some Tryz.t3:=by kernel_rfl
theorem in4:Tryz.prog.info? 4 = some Tryz.t4:=by kernel_rfl
theorem in5:Tryz.prog.info? 5 = some Tryz.t5:=by kernel_rfl
theorem in23:Tryz.prog.info? 23 = some Tryz.t23:=by kernel_rfl
theorem in28:Tryz.prog.info? 28 = some Tryz.t28:=by kernel_rfl
theorem in30:Tryz.prog.info? 30 = some Tryz.t30:=by kernel_rfl
theorem in33:Tryz.prog.info? 33 = some Tryz.t33:=by kernel_rfl
theorem in46:Tryz.prog.info? 46 = some Tryz.t46:=by kernel_rfl
theorem in47:Tryz.prog.info? 47 = some Tryz.t47:=by kernel_rfl
theorem in48:Tryz.prog.info? 48 = some Tryz.t48:=by kernel_rfl
theorem in50:Tryz.prog.info? 50 = some Tryz.t50:=by kernel_rfl
theorem in51:Tryz.prog.info? 51 = some Tryz.t51:=by kernel_rfl
theorem in52:Tryz.prog.info? 52 = some Tryz.t52:=by kernel_rfl
theorem in56:Tryz.prog.info? 56 = some Tryz.t56:=by kernel_rfl
theorem in57:Tryz.prog.info? 57 = some Tryz.t57:=by kernel_rfl
theorem in58:Tryz.prog.info? 58 = some Tryz.t58:=by kernel_rfl
theorem in60:Tryz.prog.info? 60 = some Tryz.t60:=by kernel_rfl
theorem in128:Tryz.prog.info? 128 = some Tryz.t128:=by kernel_rfl
theorem in151:Tryz.prog.info? 151 = some Tryz.t151:=by kernel_rfl
theorem in156:Tryz.prog.info? 156 = some Tryz.t156:=by kernel_rfl
theorem pl128:∀ w,(plc Tryz.prog 128).run Tryz.prog w = .ok #[(0,1),(1,4),(5,4)] w:=fun w=>by kernel_rfl
theorem pl151:∀ w,(plc Tryz.prog 151).run Tryz.prog w = .ok #[(0,1),(1,13),(14,13)] w:=fun w=>by kernel_rfl
theorem pl156:∀ w,(plc Tryz.prog 156).run Tryz.prog w = .ok #[(0,1),(1,1),(2,1),(3,1)] w:=fun w=>by kernel_rfl
theorem pl60:∀ w,(plc Tryz.prog 60).run Tryz.prog w = .ok #[(0,1),(1,1),(2,1),(3,1),(4,1),(5,1),(6,1)] w:=fun w=>by kernel_rfl
theorem pl30:∀ w,(plc Tryz.prog 30).run Tryz.prog w = .ok #[(0,1),(1,1)] w:=fun w=>by kernel_rfl
theorem pl36:∀ w,(plc Tryz.prog 36).run Tryz.prog w = .ok #[(0,2),(2,1),(3,1)] w:=fun w=>by kernel_rfl
theorem pl54:∀ w,(plc Tryz.prog 54).run Tryz.prog w = .ok #[(0,44),(44,416),(460,1),(461,1),(462,1),(463,1),(464,1),(465,1)] w:=fun w=>by kernel_rfl
abbrev qC124:=@Tryz.call124
abbrev qC159:=@Tryz.call159
abbrev qC30:=@Tryz.call30
abbrev qC34:=@Tryz.call34
abbrev qC59:=@Tryz.call59
abbrev qG46:=@Tryz.eqGuardType46
abbrev qG50:=@Tryz.eqGuardType50
abbrev qA128:=@Tryz.isAgg128
abbrev qA151:=@Tryz.isAgg151
abbrev qA156:=@Tryz.isAgg156
abbrev qA23:=@Tryz.isAgg23
abbrev qA28:=@Tryz.isAgg28
abbrev qA3:=@Tryz.isAgg3
abbrev qA33:=@Tryz.isAgg33
abbrev qA4:=@Tryz.isAgg4
abbrev qA46:=@Tryz.isAgg46
abbrev qA5:=@Tryz.isAgg5
abbrev qA50:=@Tryz.isAgg50
abbrev qA52:=@Tryz.isAgg52
abbrev qA54:=@Tryz.isAgg54
abbrev qA56:=@Tryz.isAgg56
abbrev qA57:=@Tryz.isAgg57
abbrev qA58:=@Tryz.isAgg58
abbrev qA60:=@Tryz.isAgg60
abbrev qR126:=@Tryz.results126
abbrev qR135:=@Tryz.results135
abbrev qR136:=@Tryz.results136
abbrev qR173:=@Tryz.results173
abbrev qR192:=@Tryz.results192
abbrev qR198:=@Tryz.results198
abbrev qR33:=@Tryz.results33
abbrev qR61:=@Tryz.results61
abbrev qR62:=@Tryz.results62
abbrev qR63:=@Tryz.results63
abbrev qS128:=@Tryz.sizeOf128
abbrev qS151:=@Tryz.sizeOf151
abbrev qS156:=@Tryz.sizeOf156
abbrev qS23:=@Tryz.sizeOf23
abbrev qS28:=@Tryz.sizeOf28
abbrev qS3:=@Tryz.sizeOf3
abbrev qS4:=@Tryz.sizeOf4
abbrev qS46:=@Tryz.sizeOf46
abbrev qS5:=@Tryz.sizeOf5
abbrev qS50:=@Tryz.sizeOf50
abbrev qS52:=@Tryz.sizeOf52
abbrev qS54:=@Tryz.sizeOf54
abbrev qS56:=@Tryz.sizeOf56
abbrev qS57:=@Tryz.sizeOf57
abbrev qS58:=@Tryz.sizeOf58
abbrev qS60:=@Tryz.sizeOf60
abbrev qU128:=@Tryz.underlying128
abbrev qU151:=@Tryz.underlying151
abbrev qU156:=@Tryz.underlying156
abbrev qU23:=@Tryz.underlying23
abbrev qU28:=@Tryz.underlying28
abbrev qU30:=@Tryz.underlying30
abbrev qU33:=@Tryz.underlying33
abbrev qU36:=@Tryz.underlying36
abbrev qU4:=@Tryz.underlying4
abbrev qU47:=@Tryz.underlying47
abbrev qU5:=@Tryz.underlying5
abbrev qU51:=@Tryz.underlying51
abbrev qU52:=@Tryz.underlying52
abbrev qU54:=@Tryz.underlying54
abbrev qU56:=@Tryz.underlying56
abbrev qU57:=@Tryz.underlying57
abbrev qU58:=@Tryz.underlying58
abbrev qU60:=@Tryz.underlying60
abbrev qU9:=@Tryz.underlying9
section
open Go.Fw Go.Fx
abbrev zSt:RState:=RState.mk (⟨List.replicate 11 LVal.zero,rfl⟩ : Vec LVal 11) (⟨List.replicate 32 LSlot.zero,rfl⟩ : Vec LSlot 32) SV.nil SV.nil SV.nil 0 0 false
abbrev zRc:RRecord:=RRecord.mk (RInput.mk SV.nil SV.nil) SV.nil 0
abbrev mRc (x:QRecord) (a b c:SV):RRecord:=RRecord.mk (RInput.mk a b) c x.end_
abbrev mPc (x:QPiece) (a b:SV):RPiece:=RPiece.mk x.table x.from_ a b
abbrev zMk:RMark:=RMark.mk 0 0 false SV.nil SV.nil SV.nil SV.nil
abbrev mSt (x:QState) (a b c:SV):RState:=RState.mk x.regs x.stack a b c x.at_ x.steps x.done
abbrev mMk (x:QMark) (a b c d:SV):RMark:=RMark.mk x.at_ x.next x.done a b c d
theorem oI {α:Type} {a b:α} (h:some a = some b):a = b:=Option.some.inj h
end
end Go.Proofs
end
section
namespace Go.Proofs
open Go.Fw Go.Fx
set_option maxRecDepth 10000
theorem eU {x0:List UInt8} {s:SV} {Bf:World → Prop} {Lr:List Res} {out:List UInt8} {w0:World} (hP:Sh.fE x0 = some out) (hM:MemL w0 Lr) (hsub:∀ w,MemL w Lr → Bf w) (f:LIn Bf s x0):Calls Tryz.prog 73 #[(s).v] w0 (Ret fun v w'=>∃ (s:SV),v = (s).v ∧ MemL w' (rowL 0 s 5 out :: Lr)):=by
 unfold Sh.fE at hP
 refine aR (vs:=[(s).v]) Tryz.func73 rfl Tryz.ntmps73 rfl fun a hF=>?_
 refine aG ?_
 refine aD ?_
 refine aA hF (aH hF rfl rfl) rfl rfl rfl fun a hF=>?_
 refine aJ (aB ?_)
 refine aG ?_
 refine aG ?_
 refine aD ?_
 refine aA hF (aF hF rfl rfl) rfl rfl rfl fun a hF=>?_
 refine aA hF (iT qU23 hF rfl rfl rfl) rfl rfl rfl fun a hF=>?_
 refine aJ (aB ?_)
 refine aV hF (c:=.tmp 4) rfl (fun hb=>?_) (fun hb=>?_)
 ·have hn:=(f _ (hsub _ hM)).isNil hb
  subst hn
  have ho:=(dL hP).2
  subst ho
  refine aG ?_
  refine aD ?_
  refine aA hF (aH hF rfl rfl) rfl rfl rfl fun a hF=>?_
  refine aJ (aB ?_)
  refine c_ret ?_
  refine mS ?_
  refine bH Tryz.results73 hF rfl ?_
  exact ⟨SV.nil,rfl,hM.rowNil (X:=UInt8) 0 5⟩
 refine aW (aB ?_)
 refine aG ?_
 refine aD ?_
 refine aO hF rfl rfl rfl (fW (X:=UInt8) 0 (Nat.zero_le _) qU23 in5 rfl fun s1 w hA=>?_)
 have hM:=hM.plus hA
 intro a hF
 refine aA hF (aF hF rfl rfl) rfl rfl rfl fun a hF=>?_
 refine aO hF rfl rfl rfl (cY (X:=UInt8) hP qU23 in5 rfl rfl rfl rfl hF rfl rfl rfl (hM.own (X:=UInt8) (i:=0) rfl) (f _ (hsub _ (dropM hM 1))) fun s2 w hU=>?_)
 have hM:=hM.chg hU (i:=0) rfl
 intro a hF
 refine aA hF (aH hF rfl rfl) rfl rfl rfl fun a hF=>?_
 refine aJ (aB ?_)
 refine c_ret ?_
 refine bH Tryz.results73 hF rfl ?_
 exact ⟨s2,rfl,hM⟩
theorem gN {x0:List Int} {s:SV} {Bf:World → Prop} {Lr:List Res} {out:List Int} {w0:World} (hP:Sh.eS x0 = some out) (hM:MemL w0 Lr) (hsub:∀ w,MemL w Lr → Bf w) (f:LIn Bf s x0):Calls Tryz.prog 134 #[(s).v] w0 (Ret fun v w'=>∃ (s:SV),v = (s).v ∧ MemL w' (rowL 0 s 3 out :: Lr)):=by
 unfold Sh.eS at hP
 refine aR (vs:=[(s).v]) Tryz.func134 rfl Tryz.ntmps134 rfl fun a hF=>?_
 refine aG ?_
 refine aD ?_
 refine aA hF (aH hF rfl rfl) rfl rfl rfl fun a hF=>?_
 refine aJ (aB ?_)
 refine aG ?_
 refine aG ?_
 refine aD ?_
 refine aA hF (aF hF rfl rfl) rfl rfl rfl fun a hF=>?_
 refine aA hF (iT qU52 hF rfl rfl rfl) rfl rfl rfl fun a hF=>?_
 refine aJ (aB ?_)
 refine aV hF (c:=.tmp 4) rfl (fun hb=>?_) (fun hb=>?_)
 ·have hn:=(f _ (hsub _ hM)).isNil hb
  subst hn
  have ho:=(dL hP).2
  subst ho
  refine aG ?_
  refine aD ?_
  refine aA hF (aH hF rfl rfl) rfl rfl rfl fun a hF=>?_
  refine aJ (aB ?_)
  refine c_ret ?_
  refine mS ?_
  refine bH Tryz.results134 hF rfl ?_
  exact ⟨SV.nil,rfl,hM.rowNil (X:=Int) 0 3⟩
 refine aW (aB ?_)
 refine aG ?_
 refine aD ?_
 refine aO hF rfl rfl rfl (fW (X:=Int) 0 (Nat.zero_le _) qU52 in3 rfl fun s1 w hA=>?_)
 have hM:=hM.plus hA
 intro a hF
 refine aA hF (aF hF rfl rfl) rfl rfl rfl fun a hF=>?_
 refine aO hF rfl rfl rfl (cY (X:=Int) hP qU52 in3 rfl rfl rfl rfl hF rfl rfl rfl (hM.own (X:=Int) (i:=0) rfl) (f _ (hsub _ (dropM hM 1))) fun s2 w hU=>?_)
 have hM:=hM.chg hU (i:=0) rfl
 intro a hF
 refine aA hF (aH hF rfl rfl) rfl rfl rfl fun a hF=>?_
 refine aJ (aB ?_)
 refine c_ret ?_
 refine bH Tryz.results134 hF rfl ?_
 exact ⟨s2,rfl,hM⟩
theorem jC {x0:List (List UInt8)} {hs:List SV} {s:SV} {Bf:World → Prop} {Lr:List Res} {out:List (List UInt8)} {w0:World} (hP:Sh.eM x0 = some out) (hM:MemL w0 Lr) (hsub:∀ w,MemL w Lr → Bf w) (f:LIn Bf s hs) (q:Each (LIn (X:=UInt8) Bf) hs x0):Calls Tryz.prog 148 #[(s).v] w0 (Ret fun v w'=>∃ (s:SV) (hs:List SV),v = (s).v ∧ Each (LIn (X:=UInt8) Bf) hs out ∧ MemL w' (rowL 0 s 23 hs :: Lr)):=by
 unfold Sh.eM at hP
 refine aR (vs:=[(s).v]) Tryz.func148 rfl Tryz.ntmps148 rfl fun a hF=>?_
 refine aG ?_
 refine aD ?_
 refine aA hF (aH hF rfl rfl) rfl rfl rfl fun a hF=>?_
 refine aJ (aB ?_)
 refine aG ?_
 refine aG ?_
 refine aD ?_
 refine aA hF (aF hF rfl rfl) rfl rfl rfl fun a hF=>?_
 refine aA hF (iT qU28 hF rfl rfl rfl) rfl rfl rfl fun a hF=>?_
 refine aJ (aB ?_)
 refine aV hF (c:=.tmp 4) rfl (fun hb=>?_) (fun hb=>?_)
 ·have hn:=(f _ (hsub _ hM)).isNil hb
  have hx:x0 = []:=List.eq_nil_of_length_eq_zero (by rw [← q.len,hn]; rfl)
  subst hx
  have ho:=(dL hP).2
  subst ho
  refine aG ?_
  refine aD ?_
  refine aA hF (aH hF rfl rfl) rfl rfl rfl fun a hF=>?_
  refine aJ (aB ?_)
  refine c_ret ?_
  refine mS ?_
  refine bH Tryz.results148 hF rfl ?_
  exact ⟨SV.nil,[],rfl,Each.nil,hM.rowNil (X:=SV) 0 23⟩
 refine aW (aB ?_)
 refine aG ?_
 refine aD ?_
 refine aO hF rfl rfl rfl (fW (X:=SV) 0 (Nat.zero_le _) qU28 in23 rfl fun s1 w hA=>?_)
 have hM:=hM.plus hA
 intro a hF
 refine aA hF (aF hF rfl rfl) rfl rfl rfl fun a hF=>?_
 refine aO hF rfl rfl rfl (fG (X:=SV) (xs:=[]) (ys:=[]) hP rfl q.len qU28 in23 rfl rfl rfl rfl hF rfl rfl rfl (hM.own (X:=SV) (i:=0) rfl) (f _ (hsub _ (dropM hM 1))) fun s2 w hU=>?_)
 have hM:=hM.chg hU (i:=0) rfl
 intro a hF
 refine aA hF (aH hF rfl rfl) rfl rfl rfl fun a hF=>?_
 refine aJ (aB ?_)
 refine c_ret ?_
 refine bH Tryz.results148 hF rfl ?_
 have ho:=(dL hP).2
 subst ho
 exact ⟨s2,hs,rfl,q,hM⟩
end Go.Proofs
end
section
namespace Go.Proofs
open Go.Fw Go.Fx
set_option maxRecDepth 10000
set_option maxHeartbeats 4000000 in
theorem dK {x0:Int} {x1:Int} {x2:Int} {out:Bool} {w0:World} {Lr:List Res} (hP:Sh.bU x0 x1 x2 = some out) (hM:MemL w0 (Lr)):Calls Tryz.prog 124 #[.int .i64 x0,.int .i64 x1,.int .i64 x2] w0 (Ret fun v w'=>v = .bool out ∧ MemL w' (Lr)):=by
 unfold Sh.bU at hP
 refine aR (vs:=[.int .i64 x0,.int .i64 x1,.int .i64 x2]) Tryz.func124 rfl Tryz.ntmps124 rfl fun a hF=>?_
 refine aG ?_
 refine aD ?_
 refine aA hF (aH hF rfl rfl) rfl rfl rfl fun a hF=>?_
 refine aJ (aB ?_)
 refine aG ?_
 refine aU hF hM hP (fun F x a w=>match x with | v7=>Fr 15 [(6,.bool v7)] a ∧ MemL w (Lr)) (fun c1 hP c0 hF hM=>?_) ?_
 ·refine aD ?_
  refine aA hF (aF hF rfl rfl) rfl rfl rfl fun a hF=>?_
  refine aA hF (aF hF rfl rfl) rfl rfl rfl fun a hF=>?_
  refine aA hF (jD hF rfl rfl rfl) rfl rfl rfl fun a hF=>?_
  refine aA hF (aF hF rfl rfl) rfl rfl rfl fun a hF=>?_
  refine bE 10 hF rfl (fun hb8=>?_) (fun hb8=>?_)
  ·have hP:=Fx.cT hb8 hP
   refine aL hF rfl rfl rfl hb8 (aF hF rfl rfl) rfl rfl fun a hF=>?_
   refine aL hF rfl rfl rfl hb8 (aF hF rfl rfl) rfl rfl fun a hF=>?_
   refine aL hF rfl rfl rfl hb8 (qI hF rfl rfl rfl) rfl rfl fun a hF=>?_
   refine aA hF (aP hF rfl rfl hb8 rfl) rfl rfl rfl fun a hF=>?_
   refine aA hF (aH hF rfl rfl) rfl rfl rfl fun a hF=>?_
   refine aJ (aB ?_)
   have hP:=oI hP
   subst hP
   exact ⟨(decide (x0 ≤ x2)),rfl,hF.to ⟨rfl,trivial⟩,hM⟩
  have hP:=Fx.cF hb8 hP
  refine aE hF rfl rfl rfl hb8 rfl rfl fun a hF=>?_
  refine aE hF rfl rfl rfl hb8 rfl rfl fun a hF=>?_
  refine aE hF rfl rfl rfl hb8 rfl rfl fun a hF=>?_
  refine aA hF (aX hF rfl rfl hb8 rfl) rfl rfl rfl fun a hF=>?_
  refine aA hF (aH hF rfl rfl) rfl rfl rfl fun a hF=>?_
  refine aJ (aB ?_)
  have hP:=oI hP
  subst hP
  exact ⟨false,rfl,hF.to ⟨rfl,trivial⟩,hM⟩
 rintro v7 a w hP ⟨hF,hM⟩
 replace hP:Sh.pA v7 = _:=hP
 unfold Sh.pA at hP
 refine aB ?_
 refine c_ret ?_
 have hP:=oI hP
 subst hP
 refine bH Tryz.results124 hF rfl ?_
 exact ⟨rfl,hM⟩
set_option maxHeartbeats 4000000 in
theorem hZ {x0:List UInt8} {x1:List UInt8} {s1:SV} {s3:SV} {out:List Int} {w0:World} {Bf:World → Prop} {Lr:List Res} (hP:Sh.cF x0 x1 = some out) (hM:MemL w0 (Lr)) (hsub:∀ w,MemL w Lr → Bf w) (f2:LIn Bf s1 x0) (f4:LIn Bf s3 x1):Calls Tryz.prog 158 #[(s1).v,(s3).v] w0 (Ret fun v w'=>∃ (d6:SV),v = (d6).v ∧ MemL w' (rowL 0 d6 3 out :: Lr)):=by
 unfold Sh.cF at hP
 refine aR (vs:=[(s1).v,(s3).v]) Tryz.func158 rfl Tryz.ntmps158 rfl fun a hF=>?_
 refine aG ?_
 refine aD ?_
 refine aA hF (aH hF rfl rfl) rfl rfl rfl fun a hF=>?_
 refine aJ (aB ?_)
 refine aG ?_
 refine aD ?_
 refine aA hF (aH hF rfl rfl) rfl rfl rfl fun a hF=>?_
 refine aJ (aB ?_)
 refine aG ?_
 refine aU hF hM hP (fun F x a w=>match x with | d0=>∃ (c6:SV),Fr 27 [(5,(c6).v),(4,(SV.nil).v)] a ∧ MemL w (rowL 0 c6 3 d0 :: Lr)) (fun g4 hP g2 hF hM=>?_) ?_
 ·refine aG ?_
  refine aD ?_
  refine aA hF (aF hF rfl rfl) rfl rfl rfl fun a hF=>?_
  refine aA hF (bM (f2 _ (hsub _ (dropM hM 0))) qU23 hF rfl rfl) rfl rfl rfl fun a hF=>?_
  refine aA hF (aF hF rfl rfl) rfl rfl rfl fun a hF=>?_
  refine aJ (aB ?_)
  refine aT ?_
  have hM:=hM.rowNil (X:=Int) 0 3
  refine bU hF hM hP (fun F x a w=>match x with | (c2,c0)=>∃ (c1:SV),Fr 27 [(5,(c1).v),(9,.int .i64 c0),(0,(s1).v),(1,(s3).v),(4,(SV.nil).v),(8,.int .i64 (x0.length:Int))] a ∧ MemL w (rowL 0 c1 3 c2 :: Lr)) (fun hF hM=>⟨SV.nil,hF.to ⟨rfl,rfl,rfl,rfl,rfl,rfl,trivial⟩,hM⟩) ?_
  rintro ⟨c2,c0⟩ a w g6 hP d9 ⟨c1,hF,hM⟩
  replace hP:Sh.aT x0 x1 c2 c0 = _:=hP
  unfold Sh.aT at hP
  refine aG ?_
  refine aD ?_
  refine aA hF (cI hF rfl rfl rfl) rfl rfl rfl fun a hF=>?_
  refine aJ (aB ?_)
  refine aG ?_
  refine aV hF (c:=.tmp 10) rfl (fun c4=>?_) (fun c4=>?_)
  ·have hP:=Fx.cT c4 hP
   refine aW (aB ?_)
   refine aG ?_
   refine aU hF hM hP (fun F x a w=>match x with | c8=>∃ (c7:SV),Fr 27 [(5,(c7).v),(0,(s1).v),(1,(s3).v),(4,(SV.nil).v),(8,.int .i64 (x0.length:Int)),(9,.int .i64 c0)] a ∧ MemL w (rowL 0 c7 3 c8 :: Lr)) (fun g5 hP g3 hF hM=>?_) ?_
   ·refine aT ?_
    refine aG ?_
    refine aD ?_
    refine aA hF (aF hF rfl rfl) rfl rfl rfl fun a hF=>?_
    refine aA hF (aH hF rfl rfl) rfl rfl rfl fun a hF=>?_
    refine aJ (aB ?_)
    refine aG ?_
    refine bL mixed (by kernel_rfl) hM [0] 1 rfl fun hch=>?_
    refine aK hF hch 0 rfl (by kernel_rfl) rfl rfl rfl (fun w hM=>(aF hF rfl rfl)) fun a hF=>?_
    refine aK hF hch 1 rfl (by kernel_rfl) rfl rfl rfl (fun w hM=>(aF hF rfl rfl)) fun a hF=>?_
    obtain ⟨g7,d1,hP⟩:=bind_some hP
    have d3:=aM d1
    refine aK hF hch 2 rfl (by kernel_rfl) rfl rfl rfl (fun w hM=>(aS (sz:=1) (f2 _ (hsub _ (dropM hM 1))) qU23 in5 rfl hF rfl rfl rfl (bG d1))) fun a hF=>?_
    refine aK hF hch 3 rfl (by kernel_rfl) rfl rfl rfl (fun w hM=>(aI qA5 hF rfl rfl ((((f2 _ (hsub _ (dropM hM 1))).elemS d3.2)).get 0 rfl))) fun a hF=>?_
    refine aK hF hch 4 rfl (by kernel_rfl) rfl rfl rfl (fun w hM=>(aF hF rfl rfl)) fun a hF=>?_
    refine aK hF hch 5 rfl (by kernel_rfl) rfl rfl rfl (fun w hM=>(aF hF rfl rfl)) fun a hF=>?_
    obtain ⟨g8,d2,hP⟩:=bind_some hP
    have d4:=aM d2
    refine aK hF hch 6 rfl (by kernel_rfl) rfl rfl rfl (fun w hM=>(aS (sz:=1) (f4 _ (hsub _ (dropM hM 1))) qU23 in5 rfl hF rfl rfl rfl (bG d2))) fun a hF=>?_
    refine aK hF hch 7 rfl (by kernel_rfl) rfl rfl rfl (fun w hM=>(aI qA5 hF rfl rfl ((((f4 _ (hsub _ (dropM hM 1))).elemS d4.2)).get 0 rfl))) fun a hF=>?_
    refine aK hF hch 8 rfl (by kernel_rfl) rfl rfl rfl (fun w hM=>(dC hF rfl rfl rfl)) fun a hF=>?_
    refine bW hch (by kernel_rfl) fun w hM=>?_
    refine aB ?_
    refine aV hF (c:=.tmp 20) rfl (fun c5=>?_) (fun c5=>?_)
    ·have hP:=Fx.cT c5 hP
     refine aD ?_
     refine aA hF (aF hF rfl rfl) rfl rfl rfl fun a hF=>?_
     refine aA hF (aF hF rfl rfl) rfl rfl rfl fun a hF=>?_
     refine aO hF rfl rfl rfl (cL (X:=Int) (y:=c0) qU52 in3 rfl rfl rfl rfl hF rfl rfl rfl fun c3 w g1 c9=>?_)
     have hM:=hM.plus c9
     replace hM:MemL _ (pt c3 (encs ([c0]:List Int)) 3 :: rowL 0 c1 3 c2 :: Lr):=hM
     intro a hF
     obtain ⟨d8,g0,hP⟩:=bind_some hP
     refine aO hF rfl rfl rfl (cY (X:=Int) g0 qU52 in3 rfl rfl rfl rfl hF rfl rfl rfl (hM.own (X:=Int) (i:=1) rfl) (hM.ptS (X:=Int) (i:=0) (n:=1) (c:=1) rfl rfl rfl (Nat.le_refl _)) fun d7 w d5=>?_)
     have hM:=hM.chg d5 (i:=1) rfl
     replace hM:MemL _ (pt c3 (encs ([c0]:List Int)) 3 :: rowL 0 d7 3 d8 :: Lr):=hM
     intro a hF
     refine aA hF (aH hF rfl rfl) rfl rfl rfl fun a hF=>?_
     refine aJ (bK (aB ?_))
     have hP:=oI hP
     subst hP
     exact ⟨d8,rfl,d7,hF.to ⟨rfl,rfl,rfl,rfl,rfl,rfl,trivial⟩,selM hM [1] 2 rfl⟩
    have hP:=Fx.cF c5 hP
    refine aW (bK (aB ?_))
    have hP:=oI hP
    subst hP
    exact ⟨c2,rfl,c1,hF.to ⟨rfl,rfl,rfl,rfl,rfl,rfl,trivial⟩,hM⟩
   rintro c8 a w hP ⟨c7,hF,hM⟩
   replace hP:Sh.bZ c0 c8 = _:=hP
   unfold Sh.bZ at hP
   refine aB ?_
   refine aD ?_
   refine aA hF (bX hF rfl rfl rfl) rfl rfl rfl fun a hF=>?_
   refine aA hF (aF hF rfl rfl) rfl rfl rfl fun a hF=>?_
   refine aJ (aB ?_)
   have hP:=oI hP
   subst hP
   exact ⟨(c8,(IntKind.i64.wrap (c0 + 1))),rfl,c7,hF.to ⟨rfl,rfl,rfl,rfl,rfl,rfl,trivial⟩,hM⟩
  have hP:=Fx.cF c4 hP
  refine bY (bD (bD (cJ ?_)))
  refine aB ?_
  have hP:=oI hP
  subst hP
  have hP:=d9 _ rfl
  subst hP
  exact ⟨c2,rfl,c1,hF.to ⟨rfl,rfl,trivial⟩,hM⟩
 rintro d0 a w hP ⟨c6,hF,hM⟩
 replace hP:Sh.nJ d0 = _:=hP
 unfold Sh.nJ at hP
 refine aB ?_
 refine aG ?_
 refine aD ?_
 refine aA hF (aF hF rfl rfl) rfl rfl rfl fun a hF=>?_
 refine aA hF (aH hF rfl rfl) rfl rfl rfl fun a hF=>?_
 refine aJ (aB ?_)
 refine c_ret ?_
 have hP:=oI hP
 subst hP
 refine bH Tryz.results158 hF rfl ?_
 exact ⟨c6,rfl,hM⟩
set_option maxHeartbeats 4000000 in
theorem mE {x0:List QPiece} {s1:SV} {hs2:List RPiece} {out:Bool} {w0:World} {Bf:World → Prop} {Lr:List Res} (hP:Sh.dS x0 = some out) (hM:MemL w0 (Lr)) (hsub:∀ w,MemL w Lr → Bf w) (f3:LIn Bf s1 hs2) (q4:Each (QPieceIn Bf) hs2 x0):Calls Tryz.prog 227 #[(s1).v] w0 (Ret fun v w'=>v = .bool out ∧ MemL w' (Lr)):=by
 unfold Sh.dS at hP
 refine aR (vs:=[(s1).v]) Tryz.func227 rfl Tryz.ntmps227 rfl fun a hF=>?_
 refine aG ?_
 refine aD ?_
 refine aA hF (aH hF rfl rfl) rfl rfl rfl fun a hF=>?_
 refine aJ (aB ?_)
 refine aG ?_
 refine aD ?_
 refine aA hF (aH hF rfl rfl) rfl rfl rfl fun a hF=>?_
 refine aA hF (aH hF rfl rfl) rfl rfl rfl fun a hF=>?_
 refine aJ (aB ?_)
 refine aG ?_
 refine aU hF hM hP (fun F x a w=>match x with | _=>Fr 68 [(2,.bool false)] a ∧ MemL w (Lr)) (fun j0 hP g3 hF hM=>?_) ?_
 ·refine aG ?_
  refine aD ?_
  refine aA hF (aF hF rfl rfl) rfl rfl rfl fun a hF=>?_
  refine aA hF (cQ (f3 _ (hsub _ (dropM hM 0))) q4.len qU58 hF rfl rfl) rfl rfl rfl fun a hF=>?_
  refine aA hF (aF hF rfl rfl) rfl rfl rfl fun a hF=>?_
  refine aJ (aB ?_)
  refine aT ?_
  refine bU hF hM hP (fun F x a w=>match x with | (c6,d0,d1)=>Fr 68 [(10,.int .i64 c6),(3,.int .i64 d0),(4,.int .i64 d1),(2,.bool false),(8,(s1).v),(9,.int .i64 (x0.length:Int))] a ∧ MemL w (Lr)) (fun hF hM=>⟨hF.to ⟨rfl,rfl,rfl,rfl,rfl,rfl,trivial⟩,hM⟩) ?_
  rintro ⟨c6,d0,d1⟩ a w j3 hP d7 ⟨hF,hM⟩
  replace hP:Sh.aK x0 c6 d0 d1 = _:=hP
  unfold Sh.aK at hP
  refine aG ?_
  refine aD ?_
  refine aA hF (cI hF rfl rfl rfl) rfl rfl rfl fun a hF=>?_
  refine aJ (aB ?_)
  refine aG ?_
  refine aV hF (c:=.tmp 11) rfl (fun d3=>?_) (fun d3=>?_)
  ·have hP:=Fx.cT d3 hP
   refine aW (aB ?_)
   refine aG ?_
   refine aT ?_
   refine aG ?_
   refine aD ?_
   obtain ⟨c2,d9,hP⟩:=bind_some hP
   have g5:=aM d9
   obtain ⟨i6,g7,g8⟩:=Each.getr q4 g5.2
   have g6:=Each.bd q4 (bG d9)
   obtain ⟨c7,c8,rfl,g1,g2⟩:=g8
   refine aA hF (aS (sz:=4) (f3 _ (hsub _ (dropM hM 0))) qU58 in156 rfl hF rfl rfl rfl g6) rfl rfl rfl fun a hF=>?_
   refine aA hF (aQ qA156 qS156 hF rfl rfl (RPiece.len _) (((f3 _ (hsub _ (dropM hM 0))).elemS g7))) rfl rfl rfl fun a hF=>?_
   refine aO hF rfl rfl rfl (bO z156 (zs:=RPiece.zero.enc) rfl rfl fun c4 w i5 g0=>?_)
   have hM:=hM.plus g0
   replace hM:MemL _ (pt c4 (RPiece.enc (RPiece.mk 0 0 SV.nil SV.nil)) 156 :: Lr):=hM
   intro a hF
   refine bI rfl rfl (aY (vs:=_) qS156 (hM.obj (i:=0) rfl) hF rfl rfl rfl rfl (RPiece.len _) (RPiece.one _) (by first | (rw [RPiece.len,RPiece.len]; decide) | (rw [RPiece.len]; decide)) (bF ((RPiece.len _).trans (RPiece.len _).symm)) fun w g9=>?_)
   have hM:=hM.chg g9 (i:=0) rfl
   replace hM:MemL _ (pt c4 (RPiece.enc (mPc c2 c7 c8)) 156 :: Lr):=hM
   refine aJ (aB ?_)
   refine aG ?_
   refine aU hF hM hP (fun F x a w=>match x with | (c9,d2)=>Fr 68 [(3,.int .i64 c9),(4,.int .i64 d2),(10,.int .i64 c6),(2,.bool false),(6,.pointer (some ⟨c4,0,none⟩)),(8,(s1).v),(9,.int .i64 (x0.length:Int))] a ∧ MemL w (pt c4 (RPiece.enc (mPc c2 c7 c8)) 156 :: Lr)) (fun j1 hP i3 hF hM=>?_) ?_
   ·refine aT ?_
    refine aG ?_
    refine aD ?_
    refine aA hF (aC (off':=0) qU156 rfl in3 rfl hF rfl rfl rfl) rfl rfl rfl fun a hF=>?_
    refine aA hF (aI qA3 hF rfl rfl (hM.cell (i:=0) rfl (RPiece.g_table _))) rfl rfl rfl fun a hF=>?_
    refine aA hF (aF hF rfl rfl) rfl rfl rfl fun a hF=>?_
    obtain ⟨i8,i0,hP⟩:=bind_some hP
    refine aO hF rfl rfl rfl (aN (xs:=[.tmp 16,.tmp 17,.const (.int .i64 (7))]) qC124 hF rfl rfl (dK i0 hM ) fun v w hR=>?_)
    obtain ⟨rfl,hM⟩:=hR
    replace hM:MemL _ (pt c4 (RPiece.enc (mPc c2 c7 c8)) 156 :: Lr):=hM
    intro a hF
    refine aA hF (dE hF rfl rfl) rfl rfl rfl fun a hF=>?_
    refine aA hF (aH hF rfl rfl) rfl rfl rfl fun a hF=>?_
    refine aJ (aB ?_)
    refine aV hF (c:=.tmp 14) rfl (fun d4=>?_) (fun d4=>?_)
    ·have hP:=Fx.cT d4 hP
     refine aG ?_
     refine aD ?_
     refine aA hF (aH hF rfl rfl) rfl rfl rfl fun a hF=>?_
     refine aJ (aB ?_)
     refine c_ret ?_
     have hP:=oI hP
     subst hP
     have hP:=dB i3
     subst hP
     have hP:=d7 _ rfl
     subst hP
     have hP:=dB g3
     subst hP
     refine bH Tryz.results227 hF rfl ?_
     exact ⟨rfl,selM hM [] 1 rfl⟩
    have hP:=Fx.cF d4 hP
    refine aG ?_
    refine aD ?_
    refine aA hF (aC (off':=0) qU156 rfl in3 rfl hF rfl rfl rfl) rfl rfl rfl fun a hF=>?_
    refine aA hF (aI qA3 hF rfl rfl (hM.cell (i:=0) rfl (RPiece.g_table _))) rfl rfl rfl fun a hF=>?_
    refine aA hF (aF hF rfl rfl) rfl rfl rfl fun a hF=>?_
    refine aA hF (eS hF rfl rfl rfl) rfl rfl rfl fun a hF=>?_
    refine aA hF (aH hF rfl rfl) rfl rfl rfl fun a hF=>?_
    refine aJ (aB ?_)
    refine aV hF (c:=.tmp 20) rfl (fun d5=>?_) (fun d5=>?_)
    ·have hP:=Fx.cT d5 hP
     refine aD ?_
     refine aA hF (aC (off':=0) qU156 rfl in3 rfl hF rfl rfl rfl) rfl rfl rfl fun a hF=>?_
     refine aA hF (aI qA3 hF rfl rfl (hM.cell (i:=0) rfl (RPiece.g_table _))) rfl rfl rfl fun a hF=>?_
     refine aA hF (aH hF rfl rfl) rfl rfl rfl fun a hF=>?_
     refine aA hF (aH hF rfl rfl) rfl rfl rfl fun a hF=>?_
     refine aJ (bK (aB ?_))
     have hP:=oI hP
     subst hP
     exact ⟨(c2.table,0),rfl,hF.to ⟨rfl,rfl,rfl,rfl,rfl,rfl,rfl,trivial⟩,hM⟩
    have hP:=Fx.cF d5 hP
    refine aW (bK (aB ?_))
    have hP:=oI hP
    subst hP
    exact ⟨(d0,d1),rfl,hF.to ⟨rfl,rfl,rfl,rfl,rfl,rfl,rfl,trivial⟩,hM⟩
   rintro ⟨c9,d2⟩ a w hP ⟨hF,hM⟩
   replace hP:Sh.cB c6 c2 c9 d2 = _:=hP
   unfold Sh.cB at hP
   refine aB ?_
   refine aG ?_
   refine aD ?_
   refine aA hF (aC (off':=2) qU156 rfl in23 rfl hF rfl rfl rfl) rfl rfl rfl fun a hF=>?_
   refine aA hF (aI qA23 hF rfl rfl (hM.cell (i:=0) rfl (RPiece.g_old _))) rfl rfl rfl fun a hF=>?_
   refine aA hF (bM (g1 _ (hsub _ (dropM hM 1))) qU23 hF rfl rfl) rfl rfl rfl fun a hF=>?_
   refine aA hF (aH hF rfl rfl) rfl rfl rfl fun a hF=>?_
   refine aJ (aB ?_)
   refine aG ?_
   refine aG ?_
   refine aU hF hM hP (fun F x a w=>match x with | d8=>Fr 68 [(61,.bool d8),(10,.int .i64 c6),(2,.bool false),(3,.int .i64 c9),(4,.int .i64 d2),(6,.pointer (some ⟨c4,0,none⟩)),(7,.int .i64 (c2.old.length:Int)),(8,(s1).v),(9,.int .i64 (x0.length:Int))] a ∧ MemL w (pt c4 (RPiece.enc (mPc c2 c7 c8)) 156 :: Lr)) (fun j2 hP i7 hF hM=>?_) ?_
   ·refine aD ?_
    refine aA hF (aF hF rfl rfl) rfl rfl rfl fun a hF=>?_
    refine aA hF (dF hF rfl rfl rfl) rfl rfl rfl fun a hF=>?_
    refine aA hF (aF hF rfl rfl) rfl rfl rfl fun a hF=>?_
    refine bE 32 hF rfl (fun c3=>?_) (fun c3=>?_)
    ·have hP:=Fx.cT c3 hP
     refine aE hF rfl rfl rfl c3 rfl rfl fun a hF=>?_
     refine aE hF rfl rfl rfl c3 rfl rfl fun a hF=>?_
     refine aE hF rfl rfl rfl c3 rfl rfl fun a hF=>?_
     refine aE hF rfl rfl rfl c3 rfl rfl fun a hF=>?_
     refine aE hF rfl rfl rfl c3 rfl rfl fun a hF=>?_
     refine aA hF (aP hF rfl rfl c3 rfl) rfl rfl rfl fun a hF=>?_
     refine aA hF (aF hF rfl rfl) rfl rfl rfl fun a hF=>?_
     refine aE hF rfl rfl rfl rfl rfl rfl fun a hF=>?_
     refine aE hF rfl rfl rfl rfl rfl rfl fun a hF=>?_
     refine aA hF (aP hF rfl rfl rfl rfl) rfl rfl rfl fun a hF=>?_
     refine aA hF (aF hF rfl rfl) rfl rfl rfl fun a hF=>?_
     refine aE hF rfl rfl rfl rfl rfl rfl fun a hF=>?_
     refine aE hF rfl rfl rfl rfl rfl rfl fun a hF=>?_
     refine aE hF rfl rfl rfl rfl rfl rfl fun a hF=>?_
     refine aE hF rfl rfl rfl rfl rfl rfl fun a hF=>?_
     refine aE hF rfl rfl rfl rfl rfl rfl fun a hF=>?_
     refine aE hF rfl rfl rfl rfl rfl rfl fun a hF=>?_
     refine aE hF rfl rfl rfl rfl rfl rfl fun a hF=>?_
     refine aA hF (aP hF rfl rfl rfl rfl) rfl rfl rfl fun a hF=>?_
     refine aA hF (aF hF rfl rfl) rfl rfl rfl fun a hF=>?_
     refine aE hF rfl rfl rfl rfl rfl rfl fun a hF=>?_
     refine aE hF rfl rfl rfl rfl rfl rfl fun a hF=>?_
     refine aE hF rfl rfl rfl rfl rfl rfl fun a hF=>?_
     refine aE hF rfl rfl rfl rfl rfl rfl fun a hF=>?_
     refine aE hF rfl rfl rfl rfl rfl rfl fun a hF=>?_
     refine aE hF rfl rfl rfl rfl rfl rfl fun a hF=>?_
     refine aE hF rfl rfl rfl rfl rfl rfl fun a hF=>?_
     refine aE hF rfl rfl rfl rfl rfl rfl fun a hF=>?_
     refine aA hF (aP hF rfl rfl rfl rfl) rfl rfl rfl fun a hF=>?_
     refine aJ (aB ?_)
     have hP:=oI hP
     subst hP
     exact ⟨true,rfl,hF.to ⟨rfl,rfl,rfl,rfl,rfl,rfl,rfl,rfl,rfl,trivial⟩,hM⟩
    have hP:=Fx.cF c3 hP
    refine aL hF rfl rfl rfl c3 (aC (off':=3) qU156 rfl in23 rfl hF rfl rfl rfl) rfl rfl fun a hF=>?_
    refine aL hF rfl rfl rfl c3 (aI qA23 hF rfl rfl (hM.cell (i:=0) rfl (RPiece.g_new _))) rfl rfl fun a hF=>?_
    refine aL hF rfl rfl rfl c3 (bM (g2 _ (hsub _ (dropM hM 1))) qU23 hF rfl rfl) rfl rfl fun a hF=>?_
    refine aL hF rfl rfl rfl c3 (aF hF rfl rfl) rfl rfl fun a hF=>?_
    refine aL hF rfl rfl rfl c3 (dC hF rfl rfl rfl) rfl rfl fun a hF=>?_
    refine aA hF (aX hF rfl rfl c3 rfl) rfl rfl rfl fun a hF=>?_
    refine aA hF (aF hF rfl rfl) rfl rfl rfl fun a hF=>?_
    refine bE 39 hF rfl (fun c5=>?_) (fun c5=>?_)
    ·have hP:=Fx.cT c5 hP
     refine aE hF rfl rfl rfl c5 rfl rfl fun a hF=>?_
     refine aE hF rfl rfl rfl c5 rfl rfl fun a hF=>?_
     refine aA hF (aP hF rfl rfl c5 rfl) rfl rfl rfl fun a hF=>?_
     refine aA hF (aF hF rfl rfl) rfl rfl rfl fun a hF=>?_
     refine aE hF rfl rfl rfl rfl rfl rfl fun a hF=>?_
     refine aE hF rfl rfl rfl rfl rfl rfl fun a hF=>?_
     refine aE hF rfl rfl rfl rfl rfl rfl fun a hF=>?_
     refine aE hF rfl rfl rfl rfl rfl rfl fun a hF=>?_
     refine aE hF rfl rfl rfl rfl rfl rfl fun a hF=>?_
     refine aE hF rfl rfl rfl rfl rfl rfl fun a hF=>?_
     refine aE hF rfl rfl rfl rfl rfl rfl fun a hF=>?_
     refine aA hF (aP hF rfl rfl rfl rfl) rfl rfl rfl fun a hF=>?_
     refine aA hF (aF hF rfl rfl) rfl rfl rfl fun a hF=>?_
     refine aE hF rfl rfl rfl rfl rfl rfl fun a hF=>?_
     refine aE hF rfl rfl rfl rfl rfl rfl fun a hF=>?_
     refine aE hF rfl rfl rfl rfl rfl rfl fun a hF=>?_
     refine aE hF rfl rfl rfl rfl rfl rfl fun a hF=>?_
     refine aE hF rfl rfl rfl rfl rfl rfl fun a hF=>?_
     refine aE hF rfl rfl rfl rfl rfl rfl fun a hF=>?_
     refine aE hF rfl rfl rfl rfl rfl rfl fun a hF=>?_
     refine aE hF rfl rfl rfl rfl rfl rfl fun a hF=>?_
     refine aA hF (aP hF rfl rfl rfl rfl) rfl rfl rfl fun a hF=>?_
     refine aJ (aB ?_)
     have hP:=oI hP
     subst hP
     exact ⟨true,rfl,hF.to ⟨rfl,rfl,rfl,rfl,rfl,rfl,rfl,rfl,rfl,trivial⟩,hM⟩
    have hP:=Fx.cF c5 hP
    refine aL hF rfl rfl rfl c5 (aF hF rfl rfl) rfl rfl fun a hF=>?_
    refine aL hF rfl rfl rfl c5 (eS hF rfl rfl rfl) rfl rfl fun a hF=>?_
    refine aA hF (aX hF rfl rfl c5 rfl) rfl rfl rfl fun a hF=>?_
    refine aA hF (aF hF rfl rfl) rfl rfl rfl fun a hF=>?_
    refine bE 43 hF rfl (fun c1=>?_) (fun c1=>?_)
    ·have hP:=Fx.cT c1 hP
     refine aE hF rfl rfl rfl c1 rfl rfl fun a hF=>?_
     refine aE hF rfl rfl rfl c1 rfl rfl fun a hF=>?_
     refine aE hF rfl rfl rfl c1 rfl rfl fun a hF=>?_
     refine aE hF rfl rfl rfl c1 rfl rfl fun a hF=>?_
     refine aE hF rfl rfl rfl c1 rfl rfl fun a hF=>?_
     refine aE hF rfl rfl rfl c1 rfl rfl fun a hF=>?_
     refine aE hF rfl rfl rfl c1 rfl rfl fun a hF=>?_
     refine aA hF (aP hF rfl rfl c1 rfl) rfl rfl rfl fun a hF=>?_
     refine aA hF (aF hF rfl rfl) rfl rfl rfl fun a hF=>?_
     refine aE hF rfl rfl rfl rfl rfl rfl fun a hF=>?_
     refine aE hF rfl rfl rfl rfl rfl rfl fun a hF=>?_
     refine aE hF rfl rfl rfl rfl rfl rfl fun a hF=>?_
     refine aE hF rfl rfl rfl rfl rfl rfl fun a hF=>?_
     refine aE hF rfl rfl rfl rfl rfl rfl fun a hF=>?_
     refine aE hF rfl rfl rfl rfl rfl rfl fun a hF=>?_
     refine aE hF rfl rfl rfl rfl rfl rfl fun a hF=>?_
     refine aE hF rfl rfl rfl rfl rfl rfl fun a hF=>?_
     refine aA hF (aP hF rfl rfl rfl rfl) rfl rfl rfl fun a hF=>?_
     refine aJ (aB ?_)
     have hP:=oI hP
     subst hP
     exact ⟨true,rfl,hF.to ⟨rfl,rfl,rfl,rfl,rfl,rfl,rfl,rfl,rfl,trivial⟩,hM⟩
    have hP:=Fx.cF c1 hP
    refine aL hF rfl rfl rfl c1 (aC (off':=1) qU156 rfl in3 rfl hF rfl rfl rfl) rfl rfl fun a hF=>?_
    refine aL hF rfl rfl rfl c1 (aI qA3 hF rfl rfl (hM.cell (i:=0) rfl (RPiece.g_from_ _))) rfl rfl fun a hF=>?_
    refine aL hF rfl rfl rfl c1 (aF hF rfl rfl) rfl rfl fun a hF=>?_
    refine aL hF rfl rfl rfl c1 (aF hF rfl rfl) rfl rfl fun a hF=>?_
    refine aL hF rfl rfl rfl c1 (eV hF rfl rfl rfl) rfl rfl fun a hF=>?_
    obtain ⟨i9,i1,hP⟩:=bind_some hP
    refine dV hF rfl rfl rfl c1 rfl rfl (aN (xs:=[.tmp 45,.tmp 46,.tmp 48]) qC124 hF rfl rfl (dK i1 hM ) fun v w hR=>?_)
    obtain ⟨rfl,hM⟩:=hR
    replace hM:MemL _ (pt c4 (RPiece.enc (mPc c2 c7 c8)) 156 :: Lr):=hM
    intro a hF
    refine aL hF rfl rfl rfl c1 (dE hF rfl rfl) rfl rfl fun a hF=>?_
    refine aA hF (aX hF rfl rfl c1 rfl) rfl rfl rfl fun a hF=>?_
    refine aA hF (aF hF rfl rfl) rfl rfl rfl fun a hF=>?_
    refine bE 52 hF rfl (fun c0=>?_) (fun c0=>?_)
    ·have hP:=Fx.cT c0 hP
     refine aE hF rfl rfl rfl c0 rfl rfl fun a hF=>?_
     refine aE hF rfl rfl rfl c0 rfl rfl fun a hF=>?_
     refine aE hF rfl rfl rfl c0 rfl rfl fun a hF=>?_
     refine aE hF rfl rfl rfl c0 rfl rfl fun a hF=>?_
     refine aE hF rfl rfl rfl c0 rfl rfl fun a hF=>?_
     refine aE hF rfl rfl rfl c0 rfl rfl fun a hF=>?_
     refine aE hF rfl rfl rfl c0 rfl rfl fun a hF=>?_
     refine aE hF rfl rfl rfl c0 rfl rfl fun a hF=>?_
     refine aA hF (aP hF rfl rfl c0 rfl) rfl rfl rfl fun a hF=>?_
     refine aJ (aB ?_)
     have hP:=oI hP
     subst hP
     exact ⟨true,rfl,hF.to ⟨rfl,rfl,rfl,rfl,rfl,rfl,rfl,rfl,rfl,trivial⟩,hM⟩
    have hP:=Fx.cF c0 hP
    refine aL hF rfl rfl rfl c0 (aC (off':=2) qU156 rfl in23 rfl hF rfl rfl rfl) rfl rfl fun a hF=>?_
    refine aL hF rfl rfl rfl c0 (aI qA23 hF rfl rfl (hM.cell (i:=0) rfl (RPiece.g_old _))) rfl rfl fun a hF=>?_
    refine aL hF rfl rfl rfl c0 (aC (off':=3) qU156 rfl in23 rfl hF rfl rfl rfl) rfl rfl fun a hF=>?_
    refine aL hF rfl rfl rfl c0 (aI qA23 hF rfl rfl (hM.cell (i:=0) rfl (RPiece.g_new _))) rfl rfl fun a hF=>?_
    obtain ⟨g4,i2,hP⟩:=bind_some hP
    refine dV hF rfl rfl rfl c0 rfl rfl (aN (xs:=[.tmp 54,.tmp 56]) Tryz.call158 hF rfl rfl (hZ i2 hM (Bf:=Bf) (fun w hM=>hsub _ (dropM hM 1)) g1 g2) fun v w hR=>?_)
    obtain ⟨i4,rfl,hM⟩:=hR
    replace hM:MemL _ (rowL 0 i4 3 g4 :: pt c4 (RPiece.enc (mPc c2 c7 c8)) 156 :: Lr):=hM
    intro a hF
    refine aL hF rfl rfl rfl c0 (bM (hM.rowS (X:=Int) (i:=0) rfl) qU52 hF rfl rfl) rfl rfl fun a hF=>?_
    refine aL hF rfl rfl rfl c0 (aF hF rfl rfl) rfl rfl fun a hF=>?_
    refine aL hF rfl rfl rfl c0 (cI hF rfl rfl rfl) rfl rfl fun a hF=>?_
    refine aA hF (aX hF rfl rfl c0 rfl) rfl rfl rfl fun a hF=>?_
    refine aJ (aB ?_)
    have hP:=oI hP
    subst hP
    exact ⟨(decide ((g4.length:Int) < (c2.old.length:Int))),rfl,hF.to ⟨rfl,rfl,rfl,rfl,rfl,rfl,rfl,rfl,rfl,trivial⟩,selM hM [1] 2 rfl⟩
   rintro d8 a w hP ⟨hF,hM⟩
   replace hP:Sh.aW c6 c2 c9 d8 = _:=hP
   unfold Sh.aW at hP
   refine aB ?_
   refine aV hF (c:=.tmp 61) rfl (fun d6=>?_) (fun d6=>?_)
   ·have hP:=Fx.cT d6 hP
    refine aG ?_
    refine aD ?_
    refine aA hF (aH hF rfl rfl) rfl rfl rfl fun a hF=>?_
    refine aJ (aB ?_)
    refine c_ret ?_
    have hP:=oI hP
    subst hP
    have hP:=d7 _ rfl
    subst hP
    have hP:=dB g3
    subst hP
    refine bH Tryz.results227 hF rfl ?_
    exact ⟨rfl,selM hM [] 1 rfl⟩
   have hP:=Fx.cF d6 hP
   refine aW (aB ?_)
   refine aD ?_
   refine aA hF (aC (off':=1) qU156 rfl in3 rfl hF rfl rfl rfl) rfl rfl rfl fun a hF=>?_
   refine aA hF (aI qA3 hF rfl rfl (hM.cell (i:=0) rfl (RPiece.g_from_ _))) rfl rfl rfl fun a hF=>?_
   refine aA hF (aF hF rfl rfl) rfl rfl rfl fun a hF=>?_
   refine aA hF (bX hF rfl rfl rfl) rfl rfl rfl fun a hF=>?_
   refine aA hF (bX hF rfl rfl rfl) rfl rfl rfl fun a hF=>?_
   refine aA hF (aH hF rfl rfl) rfl rfl rfl fun a hF=>?_
   refine aJ (bK (aB ?_))
   refine aD ?_
   refine aA hF (bX hF rfl rfl rfl) rfl rfl rfl fun a hF=>?_
   refine aA hF (aF hF rfl rfl) rfl rfl rfl fun a hF=>?_
   refine aJ (aB ?_)
   have hP:=oI hP
   subst hP
   exact ⟨((IntKind.i64.wrap (c6 + 1)),c9,(IntKind.i64.wrap ((IntKind.i64.wrap (c2.from_ + (c2.old.length:Int))) + 1))),rfl,hF.to ⟨rfl,rfl,rfl,rfl,rfl,rfl,trivial⟩,selM hM [] 1 rfl⟩
  have hP:=Fx.cF d3 hP
  refine bY (bD (bD (cJ ?_)))
  refine aB ?_
  have hP:=oI hP
  subst hP
  have hP:=d7 _ rfl
  subst hP
  exact ⟨(),rfl,hF.to ⟨rfl,trivial⟩,hM⟩
 rintro ⟨⟩ a w hP ⟨hF,hM⟩
 replace hP:Sh.kN = _:=hP
 unfold Sh.kN at hP
 refine aB ?_
 refine aG ?_
 refine aD ?_
 refine aA hF (aH hF rfl rfl) rfl rfl rfl fun a hF=>?_
 refine aJ (aB ?_)
 refine c_ret ?_
 have hP:=oI hP
 subst hP
 refine bH Tryz.results227 hF rfl ?_
 exact ⟨rfl,hM⟩
set_option maxHeartbeats 4000000 in
theorem jB {x0:QMark} {s1:SV} {s3:SV} {s5:SV} {hs6:List RPiece} {s9:SV} {out:Bool} {w0:World} {Bf:World → Prop} {Lr:List Res} (hP:Sh.cG x0 = some out) (hM:MemL w0 (Lr)) (hsub:∀ w,MemL w Lr → Bf w) (f2:LIn Bf s1 x0.regs) (f4:LIn Bf s3 x0.slots) (f7:LIn Bf s5 hs6) (q8:Each (QPieceIn Bf) hs6 x0.pieces) (f10:LIn Bf s9 x0.sent):Calls Tryz.prog 173 #[.agg (RMark.enc (mMk x0 s1 s3 s5 s9)).toArray] w0 (Ret fun v w'=>v = .bool out ∧ MemL w' (Lr)):=by
 unfold Sh.cG at hP
 refine aR (vs:=[.agg (RMark.enc (mMk x0 s1 s3 s5 s9)).toArray]) Tryz.func173 rfl Tryz.ntmps173 rfl fun a hF=>?_
 refine aG ?_
 refine aD ?_
 refine aO hF rfl rfl rfl (dA hF rfl rfl rfl fun c0 w i9 g3=>?_)
 have hM:=hM.plus g3
 replace hM:MemL _ (pt c0 (RMark.enc (mMk x0 s1 s3 s5 s9)) 60 :: Lr):=hM
 intro a hF
 refine aA hF (aH hF rfl rfl) rfl rfl rfl fun a hF=>?_
 refine aJ (aB ?_)
 refine aG ?_
 refine aG ?_
 refine aU hF hM hP (fun F x a w=>match x with | d8=>Fr 73 [(23,.bool d8),(1,.pointer (some ⟨c0,0,none⟩)),(2,.bool false)] a ∧ MemL w (pt c0 (RMark.enc (mMk x0 s1 s3 s5 s9)) 60 :: Lr)) (fun k0 hP j2 hF hM=>?_) ?_
 ·refine aD ?_
  refine aA hF (aC (off':=0) qU60 rfl in3 rfl hF rfl rfl rfl) rfl rfl rfl fun a hF=>?_
  refine aA hF (aI qA3 hF rfl rfl (hM.cell (i:=0) rfl (RMark.g_at_ _))) rfl rfl rfl fun a hF=>?_
  obtain ⟨j5,i2,hP⟩:=bind_some hP
  refine aO hF rfl rfl rfl (aN (xs:=[.tmp 9,.const (.int .i64 (0)),.const (.int .i64 (4095))]) qC124 hF rfl rfl (dK i2 hM ) fun v w hR=>?_)
  obtain ⟨rfl,hM⟩:=hR
  replace hM:MemL _ (pt c0 (RMark.enc (mMk x0 s1 s3 s5 s9)) 60 :: Lr):=hM
  intro a hF
  refine aA hF (dE hF rfl rfl) rfl rfl rfl fun a hF=>?_
  refine aA hF (aF hF rfl rfl) rfl rfl rfl fun a hF=>?_
  refine bE 12 hF rfl (fun c3=>?_) (fun c3=>?_)
  ·have hP:=Fx.cT c3 hP
   refine aE hF rfl rfl rfl c3 rfl rfl fun a hF=>?_
   refine aE hF rfl rfl rfl c3 rfl rfl fun a hF=>?_
   refine aE hF rfl rfl rfl c3 rfl rfl fun a hF=>?_
   refine aE hF rfl rfl rfl c3 rfl rfl fun a hF=>?_
   refine aA hF (aP hF rfl rfl c3 rfl) rfl rfl rfl fun a hF=>?_
   refine aA hF (aF hF rfl rfl) rfl rfl rfl fun a hF=>?_
   refine aE hF rfl rfl rfl rfl rfl rfl fun a hF=>?_
   refine aE hF rfl rfl rfl rfl rfl rfl fun a hF=>?_
   refine aE hF rfl rfl rfl rfl rfl rfl fun a hF=>?_
   refine aE hF rfl rfl rfl rfl rfl rfl fun a hF=>?_
   refine aA hF (aP hF rfl rfl rfl rfl) rfl rfl rfl fun a hF=>?_
   refine aJ (aB ?_)
   have hP:=oI hP
   subst hP
   exact ⟨true,rfl,hF.to ⟨rfl,rfl,rfl,trivial⟩,hM⟩
  have hP:=Fx.cF c3 hP
  refine aL hF rfl rfl rfl c3 (aC (off':=1) qU60 rfl in3 rfl hF rfl rfl rfl) rfl rfl fun a hF=>?_
  refine aL hF rfl rfl rfl c3 (aI qA3 hF rfl rfl (hM.cell (i:=0) rfl (RMark.g_next _))) rfl rfl fun a hF=>?_
  obtain ⟨j6,i3,hP⟩:=bind_some hP
  refine dV hF rfl rfl rfl c3 rfl rfl (aN (xs:=[.tmp 14,.const (.int .i64 (0)),.const (.int .i64 (4095))]) qC124 hF rfl rfl (dK i3 hM ) fun v w hR=>?_)
  obtain ⟨rfl,hM⟩:=hR
  replace hM:MemL _ (pt c0 (RMark.enc (mMk x0 s1 s3 s5 s9)) 60 :: Lr):=hM
  intro a hF
  refine aL hF rfl rfl rfl c3 (dE hF rfl rfl) rfl rfl fun a hF=>?_
  refine aA hF (aX hF rfl rfl c3 rfl) rfl rfl rfl fun a hF=>?_
  refine aA hF (aF hF rfl rfl) rfl rfl rfl fun a hF=>?_
  refine bE 18 hF rfl (fun c4=>?_) (fun c4=>?_)
  ·have hP:=Fx.cT c4 hP
   refine aE hF rfl rfl rfl c4 rfl rfl fun a hF=>?_
   refine aE hF rfl rfl rfl c4 rfl rfl fun a hF=>?_
   refine aE hF rfl rfl rfl c4 rfl rfl fun a hF=>?_
   refine aE hF rfl rfl rfl c4 rfl rfl fun a hF=>?_
   refine aA hF (aP hF rfl rfl c4 rfl) rfl rfl rfl fun a hF=>?_
   refine aJ (aB ?_)
   have hP:=oI hP
   subst hP
   exact ⟨true,rfl,hF.to ⟨rfl,rfl,rfl,trivial⟩,hM⟩
  have hP:=Fx.cF c4 hP
  refine aL hF rfl rfl rfl c4 (aC (off':=6) qU60 rfl in52 rfl hF rfl rfl rfl) rfl rfl fun a hF=>?_
  refine aL hF rfl rfl rfl c4 (aI qA52 hF rfl rfl (hM.cell (i:=0) rfl (RMark.g_sent _))) rfl rfl fun a hF=>?_
  refine aL hF rfl rfl rfl c4 (bM (f10 _ (hsub _ (dropM hM 1))) qU52 hF rfl rfl) rfl rfl fun a hF=>?_
  refine aL hF rfl rfl rfl c4 (eS hF rfl rfl rfl) rfl rfl fun a hF=>?_
  refine aA hF (aX hF rfl rfl c4 rfl) rfl rfl rfl fun a hF=>?_
  refine aJ (aB ?_)
  have hP:=oI hP
  subst hP
  exact ⟨(decide (1 < (x0.sent.length:Int))),rfl,hF.to ⟨rfl,rfl,rfl,trivial⟩,hM⟩
 rintro d8 a w hP ⟨hF,hM⟩
 replace hP:Sh.cQ x0 d8 = _:=hP
 unfold Sh.cQ at hP
 refine aB ?_
 refine aV hF (c:=.tmp 23) rfl (fun d3=>?_) (fun d3=>?_)
 ·have hP:=Fx.cT d3 hP
  refine aG ?_
  refine aD ?_
  refine aA hF (aH hF rfl rfl) rfl rfl rfl fun a hF=>?_
  refine aJ (aB ?_)
  refine c_ret ?_
  have hP:=oI hP
  subst hP
  refine bH qR173 hF rfl ?_
  exact ⟨rfl,selM hM [] 1 rfl⟩
 have hP:=Fx.cF d3 hP
 refine aW (aB ?_)
 refine aG ?_
 refine aD ?_
 refine aA hF (aH hF rfl rfl) rfl rfl rfl fun a hF=>?_
 refine aJ (aB ?_)
 refine aG ?_
 refine aU hF hM hP (fun F x a w=>match x with | _=>Fr 73 [(1,.pointer (some ⟨c0,0,none⟩)),(2,.bool false)] a ∧ MemL w (pt c0 (RMark.enc (mMk x0 s1 s3 s5 s9)) 60 :: Lr)) (fun k1 hP i7 hF hM=>?_) ?_
 ·refine aG ?_
  refine aD ?_
  refine aA hF (aC (off':=3) qU60 rfl in56 rfl hF rfl rfl rfl) rfl rfl rfl fun a hF=>?_
  refine aA hF (aI qA56 hF rfl rfl (hM.cell (i:=0) rfl (RMark.g_regs _))) rfl rfl rfl fun a hF=>?_
  refine aA hF (bM (f2 _ (hsub _ (dropM hM 1))) qU56 hF rfl rfl) rfl rfl rfl fun a hF=>?_
  refine aA hF (aF hF rfl rfl) rfl rfl rfl fun a hF=>?_
  refine aJ (aB ?_)
  refine aT ?_
  refine bU hF hM hP (fun F x a w=>match x with | (c9,d1)=>Fr 73 [(27,.int .i64 c9),(3,.int .i64 d1),(1,.pointer (some ⟨c0,0,none⟩)),(2,.bool false),(25,(s1).v),(26,.int .i64 (x0.regs.length:Int))] a ∧ MemL w (pt c0 (RMark.enc (mMk x0 s1 s3 s5 s9)) 60 :: Lr)) (fun hF hM=>⟨hF.to ⟨rfl,rfl,rfl,rfl,rfl,rfl,trivial⟩,hM⟩) ?_
  rintro ⟨c9,d1⟩ a w k5 hP g6 ⟨hF,hM⟩
  replace hP:Sh.bG x0 c9 d1 = _:=hP
  unfold Sh.bG at hP
  refine aG ?_
  refine aD ?_
  refine aA hF (cI hF rfl rfl rfl) rfl rfl rfl fun a hF=>?_
  refine aJ (aB ?_)
  refine aG ?_
  refine aV hF (c:=.tmp 28) rfl (fun d4=>?_) (fun d4=>?_)
  ·have hP:=Fx.cT d4 hP
   refine aW (aB ?_)
   refine aG ?_
   refine aT ?_
   refine aG ?_
   refine aD ?_
   obtain ⟨c7,g1,hP⟩:=bind_some hP
   have g8:=aM g1
   refine aA hF (aS (sz:=9) (f2 _ (hsub _ (dropM hM 1))) qU56 in128 rfl hF rfl rfl rfl (bG g1)) rfl rfl rfl fun a hF=>?_
   refine aA hF (aQ qA128 qS128 hF rfl rfl (LTurn.len _) (((f2 _ (hsub _ (dropM hM 1))).elemS g8.2))) rfl rfl rfl fun a hF=>?_
   refine aO hF rfl rfl rfl (bO z128 (zs:=LTurn.zero.enc) rfl rfl fun c5 w j0 g4=>?_)
   have hM:=hM.plus g4
   replace hM:MemL _ (pt c5 (LTurn.enc LTurn.zero) 128 :: pt c0 (RMark.enc (mMk x0 s1 s3 s5 s9)) 60 :: Lr):=hM
   intro a hF
   refine bI rfl rfl (aY (vs:=_) qS128 (hM.obj (i:=0) rfl) hF rfl rfl rfl rfl (LTurn.len _) (LTurn.one _) (by first | (rw [LTurn.len,LTurn.len]; decide) | (rw [LTurn.len]; decide)) (bF ((LTurn.len _).trans (LTurn.len _).symm)) fun w i0=>?_)
   have hM:=hM.chg i0 (i:=0) rfl
   replace hM:MemL _ (pt c5 (LTurn.enc c7) 128 :: pt c0 (RMark.enc (mMk x0 s1 s3 s5 s9)) 60 :: Lr):=hM
   refine aJ (aB ?_)
   refine aG ?_
   refine aG ?_
   refine aU hF hM hP (fun F x a w=>match x with | d9=>Fr 73 [(43,.bool d9),(1,.pointer (some ⟨c0,0,none⟩)),(2,.bool false),(25,(s1).v),(26,.int .i64 (x0.regs.length:Int)),(27,.int .i64 c9),(3,.int .i64 d1),(5,.pointer (some ⟨c5,0,none⟩))] a ∧ MemL w (pt c5 (LTurn.enc c7) 128 :: pt c0 (RMark.enc (mMk x0 s1 s3 s5 s9)) 60 :: Lr)) (fun k2 hP j3 hF hM=>?_) ?_
   ·refine aD ?_
    refine aA hF (aC (off':=0) qU128 rfl in3 rfl hF rfl rfl rfl) rfl rfl rfl fun a hF=>?_
    refine aA hF (aI qA3 hF rfl rfl (hM.cell (i:=0) rfl (LTurn.g_reg _))) rfl rfl rfl fun a hF=>?_
    refine aA hF (aF hF rfl rfl) rfl rfl rfl fun a hF=>?_
    refine aA hF (bX hF rfl rfl rfl) rfl rfl rfl fun a hF=>?_
    obtain ⟨j7,i4,hP⟩:=bind_some hP
    refine aO hF rfl rfl rfl (aN (xs:=[.tmp 32,.tmp 34,.const (.int .i64 (10))]) qC124 hF rfl rfl (dK i4 hM ) fun v w hR=>?_)
    obtain ⟨rfl,hM⟩:=hR
    replace hM:MemL _ (pt c5 (LTurn.enc c7) 128 :: pt c0 (RMark.enc (mMk x0 s1 s3 s5 s9)) 60 :: Lr):=hM
    intro a hF
    refine aA hF (dE hF rfl rfl) rfl rfl rfl fun a hF=>?_
    refine aA hF (aF hF rfl rfl) rfl rfl rfl fun a hF=>?_
    refine bE 37 hF rfl (fun c1=>?_) (fun c1=>?_)
    ·have hP:=Fx.cT c1 hP
     refine aE hF rfl rfl rfl c1 rfl rfl fun a hF=>?_
     refine aE hF rfl rfl rfl c1 rfl rfl fun a hF=>?_
     refine aE hF rfl rfl rfl c1 rfl rfl fun a hF=>?_
     refine aE hF rfl rfl rfl c1 rfl rfl fun a hF=>?_
     refine aE hF rfl rfl rfl c1 rfl rfl fun a hF=>?_
     refine aA hF (aP hF rfl rfl c1 rfl) rfl rfl rfl fun a hF=>?_
     refine aJ (aB ?_)
     have hP:=oI hP
     subst hP
     exact ⟨true,rfl,hF.to ⟨rfl,rfl,rfl,rfl,rfl,rfl,rfl,rfl,trivial⟩,hM⟩
    have hP:=Fx.cF c1 hP
    refine aL hF rfl rfl rfl c1 (aC (off':=1) qU128 rfl in46 rfl hF rfl rfl rfl) rfl rfl fun a hF=>?_
    refine aL hF rfl rfl rfl c1 (aQ qA46 qS46 hF rfl rfl (LVal.len _) (hM.cells (i:=0) rfl (LTurn.c_old _))) rfl rfl fun a hF=>?_
    refine aL hF rfl rfl rfl c1 (aC (off':=5) qU128 rfl in46 rfl hF rfl rfl rfl) rfl rfl fun a hF=>?_
    refine aL hF rfl rfl rfl c1 (aQ qA46 qS46 hF rfl rfl (LVal.len _) (hM.cells (i:=0) rfl (LTurn.c_new _))) rfl rfl fun a hF=>?_
    refine aL hF rfl rfl rfl c1 (jJ qG46 (gA _ _ _ _ (by decide)) hF rfl rfl rfl) rfl rfl fun a hF=>?_
    refine aA hF (aX hF rfl rfl c1 rfl) rfl rfl rfl fun a hF=>?_
    refine aJ (aB ?_)
    have hP:=oI hP
    subst hP
    exact ⟨(decide (c7.old = c7.new)),rfl,hF.to ⟨rfl,rfl,rfl,rfl,rfl,rfl,rfl,rfl,trivial⟩,hM⟩
   rintro d9 a w hP ⟨hF,hM⟩
   replace hP:Sh.nM c9 c7 d9 = _:=hP
   unfold Sh.nM at hP
   refine aB ?_
   refine aV hF (c:=.tmp 43) rfl (fun d5=>?_) (fun d5=>?_)
   ·have hP:=Fx.cT d5 hP
    refine aG ?_
    refine aD ?_
    refine aA hF (aH hF rfl rfl) rfl rfl rfl fun a hF=>?_
    refine aJ (aB ?_)
    refine c_ret ?_
    have hP:=oI hP
    subst hP
    have hP:=g6 _ rfl
    subst hP
    have hP:=dB i7
    subst hP
    refine bH qR173 hF rfl ?_
    exact ⟨rfl,selM hM [] 2 rfl⟩
   have hP:=Fx.cF d5 hP
   refine aW (aB ?_)
   refine aD ?_
   refine aA hF (aC (off':=0) qU128 rfl in3 rfl hF rfl rfl rfl) rfl rfl rfl fun a hF=>?_
   refine aA hF (aI qA3 hF rfl rfl (hM.cell (i:=0) rfl (LTurn.g_reg _))) rfl rfl rfl fun a hF=>?_
   refine aA hF (aH hF rfl rfl) rfl rfl rfl fun a hF=>?_
   refine aJ (bK (aB ?_))
   refine aD ?_
   refine aA hF (bX hF rfl rfl rfl) rfl rfl rfl fun a hF=>?_
   refine aA hF (aF hF rfl rfl) rfl rfl rfl fun a hF=>?_
   refine aJ (aB ?_)
   have hP:=oI hP
   subst hP
   exact ⟨((IntKind.i64.wrap (c9 + 1)),c7.reg),rfl,hF.to ⟨rfl,rfl,rfl,rfl,rfl,rfl,trivial⟩,selM hM [1] 2 rfl⟩
  have hP:=Fx.cF d4 hP
  refine bY (bD (bD (cJ ?_)))
  refine aB ?_
  have hP:=oI hP
  subst hP
  have hP:=g6 _ rfl
  subst hP
  exact ⟨(),rfl,hF.to ⟨rfl,rfl,trivial⟩,hM⟩
 rintro ⟨⟩ a w hP ⟨hF,hM⟩
 replace hP:Sh.cR x0 = _:=hP
 unfold Sh.cR at hP
 refine aB ?_
 refine aG ?_
 refine aD ?_
 refine aA hF (aH hF rfl rfl) rfl rfl rfl fun a hF=>?_
 refine aJ (aB ?_)
 refine aG ?_
 refine aU hF hM hP (fun F x a w=>match x with | _=>Fr 73 [(1,.pointer (some ⟨c0,0,none⟩)),(2,.bool false)] a ∧ MemL w (pt c0 (RMark.enc (mMk x0 s1 s3 s5 s9)) 60 :: Lr)) (fun k3 hP i8 hF hM=>?_) ?_
 ·refine aG ?_
  refine aD ?_
  refine aA hF (aC (off':=4) qU60 rfl in57 rfl hF rfl rfl rfl) rfl rfl rfl fun a hF=>?_
  refine aA hF (aI qA57 hF rfl rfl (hM.cell (i:=0) rfl (RMark.g_slots _))) rfl rfl rfl fun a hF=>?_
  refine aA hF (bM (f4 _ (hsub _ (dropM hM 1))) qU57 hF rfl rfl) rfl rfl rfl fun a hF=>?_
  refine aA hF (aF hF rfl rfl) rfl rfl rfl fun a hF=>?_
  refine aJ (aB ?_)
  refine aT ?_
  refine bU hF hM hP (fun F x a w=>match x with | (d2,d0)=>Fr 73 [(3,.int .i64 d2),(50,.int .i64 d0),(1,.pointer (some ⟨c0,0,none⟩)),(2,.bool false),(48,(s3).v),(49,.int .i64 (x0.slots.length:Int))] a ∧ MemL w (pt c0 (RMark.enc (mMk x0 s1 s3 s5 s9)) 60 :: Lr)) (fun hF hM=>⟨hF.to ⟨rfl,rfl,rfl,rfl,rfl,rfl,trivial⟩,hM⟩) ?_
  rintro ⟨d2,d0⟩ a w k6 hP g7 ⟨hF,hM⟩
  replace hP:Sh.bH x0 d2 d0 = _:=hP
  unfold Sh.bH at hP
  refine aG ?_
  refine aD ?_
  refine aA hF (cI hF rfl rfl rfl) rfl rfl rfl fun a hF=>?_
  refine aJ (aB ?_)
  refine aG ?_
  refine aV hF (c:=.tmp 51) rfl (fun d6=>?_) (fun d6=>?_)
  ·have hP:=Fx.cT d6 hP
   refine aW (aB ?_)
   refine aG ?_
   refine aT ?_
   refine aG ?_
   refine aD ?_
   obtain ⟨c8,g2,hP⟩:=bind_some hP
   have g9:=aM g2
   refine aA hF (aS (sz:=27) (f4 _ (hsub _ (dropM hM 1))) qU57 in151 rfl hF rfl rfl rfl (bG g2)) rfl rfl rfl fun a hF=>?_
   refine aA hF (aQ qA151 qS151 hF rfl rfl (LCell.len _) (((f4 _ (hsub _ (dropM hM 1))).elemS g9.2))) rfl rfl rfl fun a hF=>?_
   refine aO hF rfl rfl rfl (bO z151 (zs:=LCell.zero.enc) rfl rfl fun c6 w j1 g5=>?_)
   have hM:=hM.plus g5
   replace hM:MemL _ (pt c6 (LCell.enc LCell.zero) 151 :: pt c0 (RMark.enc (mMk x0 s1 s3 s5 s9)) 60 :: Lr):=hM
   intro a hF
   refine bI rfl rfl (aY (vs:=_) qS151 (hM.obj (i:=0) rfl) hF rfl rfl rfl rfl (LCell.len _) (LCell.one _) (by first | (rw [LCell.len,LCell.len]; decide) | (rw [LCell.len]; decide)) (bF ((LCell.len _).trans (LCell.len _).symm)) fun w i1=>?_)
   have hM:=hM.chg i1 (i:=0) rfl
   replace hM:MemL _ (pt c6 (LCell.enc c8) 151 :: pt c0 (RMark.enc (mMk x0 s1 s3 s5 s9)) 60 :: Lr):=hM
   refine aJ (aB ?_)
   refine aG ?_
   refine aG ?_
   refine aU hF hM hP (fun F x a w=>match x with | g0=>Fr 73 [(66,.bool g0),(1,.pointer (some ⟨c0,0,none⟩)),(2,.bool false),(3,.int .i64 d2),(48,(s3).v),(49,.int .i64 (x0.slots.length:Int)),(50,.int .i64 d0),(7,.pointer (some ⟨c6,0,none⟩))] a ∧ MemL w (pt c6 (LCell.enc c8) 151 :: pt c0 (RMark.enc (mMk x0 s1 s3 s5 s9)) 60 :: Lr)) (fun k4 hP j4 hF hM=>?_) ?_
   ·refine aD ?_
    refine aA hF (aC (off':=0) qU151 rfl in3 rfl hF rfl rfl rfl) rfl rfl rfl fun a hF=>?_
    refine aA hF (aI qA3 hF rfl rfl (hM.cell (i:=0) rfl (LCell.g_slot _))) rfl rfl rfl fun a hF=>?_
    refine aA hF (aF hF rfl rfl) rfl rfl rfl fun a hF=>?_
    refine aA hF (bX hF rfl rfl rfl) rfl rfl rfl fun a hF=>?_
    obtain ⟨j8,i5,hP⟩:=bind_some hP
    refine aO hF rfl rfl rfl (aN (xs:=[.tmp 55,.tmp 57,.const (.int .i64 (31))]) qC124 hF rfl rfl (dK i5 hM ) fun v w hR=>?_)
    obtain ⟨rfl,hM⟩:=hR
    replace hM:MemL _ (pt c6 (LCell.enc c8) 151 :: pt c0 (RMark.enc (mMk x0 s1 s3 s5 s9)) 60 :: Lr):=hM
    intro a hF
    refine aA hF (dE hF rfl rfl) rfl rfl rfl fun a hF=>?_
    refine aA hF (aF hF rfl rfl) rfl rfl rfl fun a hF=>?_
    refine bE 60 hF rfl (fun c2=>?_) (fun c2=>?_)
    ·have hP:=Fx.cT c2 hP
     refine aE hF rfl rfl rfl c2 rfl rfl fun a hF=>?_
     refine aE hF rfl rfl rfl c2 rfl rfl fun a hF=>?_
     refine aE hF rfl rfl rfl c2 rfl rfl fun a hF=>?_
     refine aE hF rfl rfl rfl c2 rfl rfl fun a hF=>?_
     refine aE hF rfl rfl rfl c2 rfl rfl fun a hF=>?_
     refine aA hF (aP hF rfl rfl c2 rfl) rfl rfl rfl fun a hF=>?_
     refine aJ (aB ?_)
     have hP:=oI hP
     subst hP
     exact ⟨true,rfl,hF.to ⟨rfl,rfl,rfl,rfl,rfl,rfl,rfl,rfl,trivial⟩,hM⟩
    have hP:=Fx.cF c2 hP
    refine aL hF rfl rfl rfl c2 (aC (off':=1) qU151 rfl in50 rfl hF rfl rfl rfl) rfl rfl fun a hF=>?_
    refine aL hF rfl rfl rfl c2 (aQ qA50 qS50 hF rfl rfl (LSlot.len _) (hM.cells (i:=0) rfl (LCell.c_old _))) rfl rfl fun a hF=>?_
    refine aL hF rfl rfl rfl c2 (aC (off':=14) qU151 rfl in50 rfl hF rfl rfl rfl) rfl rfl fun a hF=>?_
    refine aL hF rfl rfl rfl c2 (aQ qA50 qS50 hF rfl rfl (LSlot.len _) (hM.cells (i:=0) rfl (LCell.c_new _))) rfl rfl fun a hF=>?_
    refine aL hF rfl rfl rfl c2 (jJ qG50 (gR _ _ _ _ (by decide)) hF rfl rfl rfl) rfl rfl fun a hF=>?_
    refine aA hF (aX hF rfl rfl c2 rfl) rfl rfl rfl fun a hF=>?_
    refine aJ (aB ?_)
    have hP:=oI hP
    subst hP
    exact ⟨(decide (c8.old = c8.new)),rfl,hF.to ⟨rfl,rfl,rfl,rfl,rfl,rfl,rfl,rfl,trivial⟩,hM⟩
   rintro g0 a w hP ⟨hF,hM⟩
   replace hP:Sh.nN d0 c8 g0 = _:=hP
   unfold Sh.nN at hP
   refine aB ?_
   refine aV hF (c:=.tmp 66) rfl (fun d7=>?_) (fun d7=>?_)
   ·have hP:=Fx.cT d7 hP
    refine aG ?_
    refine aD ?_
    refine aA hF (aH hF rfl rfl) rfl rfl rfl fun a hF=>?_
    refine aJ (aB ?_)
    refine c_ret ?_
    have hP:=oI hP
    subst hP
    have hP:=g7 _ rfl
    subst hP
    have hP:=dB i8
    subst hP
    refine bH qR173 hF rfl ?_
    exact ⟨rfl,selM hM [] 2 rfl⟩
   have hP:=Fx.cF d7 hP
   refine aW (aB ?_)
   refine aD ?_
   refine aA hF (aC (off':=0) qU151 rfl in3 rfl hF rfl rfl rfl) rfl rfl rfl fun a hF=>?_
   refine aA hF (aI qA3 hF rfl rfl (hM.cell (i:=0) rfl (LCell.g_slot _))) rfl rfl rfl fun a hF=>?_
   refine aA hF (aH hF rfl rfl) rfl rfl rfl fun a hF=>?_
   refine aJ (bK (aB ?_))
   refine aD ?_
   refine aA hF (bX hF rfl rfl rfl) rfl rfl rfl fun a hF=>?_
   refine aA hF (aF hF rfl rfl) rfl rfl rfl fun a hF=>?_
   refine aJ (aB ?_)
   have hP:=oI hP
   subst hP
   exact ⟨(c8.slot,(IntKind.i64.wrap (d0 + 1))),rfl,hF.to ⟨rfl,rfl,rfl,rfl,rfl,rfl,trivial⟩,selM hM [1] 2 rfl⟩
  have hP:=Fx.cF d6 hP
  refine bY (bD (bD (cJ ?_)))
  refine aB ?_
  have hP:=oI hP
  subst hP
  have hP:=g7 _ rfl
  subst hP
  exact ⟨(),rfl,hF.to ⟨rfl,rfl,trivial⟩,hM⟩
 rintro ⟨⟩ a w hP ⟨hF,hM⟩
 replace hP:Sh.cS x0 = _:=hP
 unfold Sh.cS at hP
 refine aB ?_
 refine aG ?_
 refine aD ?_
 refine aA hF (aC (off':=5) qU60 rfl in58 rfl hF rfl rfl rfl) rfl rfl rfl fun a hF=>?_
 refine aA hF (aI qA58 hF rfl rfl (hM.cell (i:=0) rfl (RMark.g_pieces _))) rfl rfl rfl fun a hF=>?_
 obtain ⟨j9,i6,hP⟩:=bind_some hP
 refine aO hF rfl rfl rfl (aN (xs:=[.tmp 71]) Tryz.call227 hF rfl rfl (mE i6 hM (Bf:=Bf) (fun w hM=>hsub _ (dropM hM 1)) f7 q8) fun v w hR=>?_)
 obtain ⟨rfl,hM⟩:=hR
 replace hM:MemL _ (pt c0 (RMark.enc (mMk x0 s1 s3 s5 s9)) 60 :: Lr):=hM
 intro a hF
 refine aA hF (aH hF rfl rfl) rfl rfl rfl fun a hF=>?_
 refine aJ (aB ?_)
 refine c_ret ?_
 have hP:=oI hP
 subst hP
 refine bH qR173 hF rfl ?_
 exact ⟨rfl,selM hM [] 1 rfl⟩
set_option maxHeartbeats 4000000 in
theorem gF {x0:QState} {s1:SV} {s3:SV} {hs4:List SV} {s7:SV} {out:Bool} {w0:World} {Bf:World → Prop} {Lr:List Res} (hP:Sh.gL x0 = some out) (hM:MemL w0 (Lr)) (hsub:∀ w,MemL w Lr → Bf w) (f2:LIn Bf s1 x0.ctx) (f5:LIn Bf s3 hs4) (q6:Each (LIn (X:=UInt8) Bf) hs4 x0.tables) (f8:LIn Bf s7 x0.sent):Calls Tryz.prog 82 #[.agg (RState.enc (mSt x0 s1 s3 s7)).toArray] w0 (Ret fun v w'=>v = .bool out ∧ MemL w' (Lr)):=by
 unfold Sh.gL at hP
 refine aR (vs:=[.agg (RState.enc (mSt x0 s1 s3 s7)).toArray]) Tryz.func82 rfl Tryz.ntmps82 rfl fun a hF=>?_
 refine aG ?_
 refine aD ?_
 refine aO hF rfl rfl rfl (dA hF rfl rfl rfl fun c3 w i8 g2=>?_)
 have hM:=hM.plus g2
 replace hM:MemL _ (pt c3 (RState.enc (mSt x0 s1 s3 s7)) 54 :: Lr):=hM
 intro a hF
 refine aA hF (aH hF rfl rfl) rfl rfl rfl fun a hF=>?_
 refine aJ (aB ?_)
 refine aG ?_
 refine aU hF hM hP (fun F x a w=>match x with | d6=>Fr 19 [(2,.bool d6)] a ∧ MemL w (Lr)) (fun j5 hP j1 hF hM=>?_) ?_
 ·refine aD ?_
  refine aA hF (aC (off':=463) qU54 rfl in3 rfl hF rfl rfl rfl) rfl rfl rfl fun a hF=>?_
  refine aA hF (aI qA3 hF rfl rfl (hM.cell (i:=0) rfl (RState.g_at_ _))) rfl rfl rfl fun a hF=>?_
  obtain ⟨j3,g4,hP⟩:=bind_some hP
  refine aO hF rfl rfl rfl (aN (xs:=[.tmp 4,.const (.int .i64 (0)),.const (.int .i64 (4095))]) qC124 hF rfl rfl (dK g4 hM ) fun v w hR=>?_)
  obtain ⟨rfl,hM⟩:=hR
  replace hM:MemL _ (pt c3 (RState.enc (mSt x0 s1 s3 s7)) 54 :: Lr):=hM
  intro a hF
  refine aA hF (aF hF rfl rfl) rfl rfl rfl fun a hF=>?_
  refine bE 6 hF rfl (fun c4=>?_) (fun c4=>?_)
  ·have hP:=Fx.cT c4 hP
   refine aL hF rfl rfl rfl c4 (aC (off':=464) qU54 rfl in3 rfl hF rfl rfl rfl) rfl rfl fun a hF=>?_
   refine aL hF rfl rfl rfl c4 (aI qA3 hF rfl rfl (hM.cell (i:=0) rfl (RState.g_steps _))) rfl rfl fun a hF=>?_
   obtain ⟨j4,g5,hP⟩:=bind_some hP
   refine dV hF rfl rfl rfl c4 rfl rfl (aN (xs:=[.tmp 8,.const (.int .i64 (0)),.const (.int .i64 (4294967296))]) qC124 hF rfl rfl (dK g5 hM ) fun v w hR=>?_)
   obtain ⟨rfl,hM⟩:=hR
   replace hM:MemL _ (pt c3 (RState.enc (mSt x0 s1 s3 s7)) 54 :: Lr):=hM
   intro a hF
   refine aA hF (aP hF rfl rfl c4 rfl) rfl rfl rfl fun a hF=>?_
   refine aA hF (aF hF rfl rfl) rfl rfl rfl fun a hF=>?_
   refine bE 11 hF rfl (fun c1=>?_) (fun c1=>?_)
   ·have hP:=Fx.cT c1 hP
    refine aL hF rfl rfl rfl c1 (aC (off':=460) qU54 rfl in23 rfl hF rfl rfl rfl) rfl rfl fun a hF=>?_
    refine aL hF rfl rfl rfl c1 (aI qA23 hF rfl rfl (hM.cell (i:=0) rfl (RState.g_ctx _))) rfl rfl fun a hF=>?_
    refine aL hF rfl rfl rfl c1 (aC (off':=461) qU54 rfl in28 rfl hF rfl rfl rfl) rfl rfl fun a hF=>?_
    refine aL hF rfl rfl rfl c1 (aI qA28 hF rfl rfl (hM.cell (i:=0) rfl (RState.g_tables _))) rfl rfl fun a hF=>?_
    refine aL hF rfl rfl rfl c1 (cE z30 qU30 pl30 hF (parts:=[(0,.tmp 13),(1,.tmp 15)]) rfl rfl (cM rfl rfl (by rw [RInput.len]; decide) (RInput.s_ctx _ _) (cM rfl rfl (by rw [RInput.len]; decide) (RInput.s_tables _ _) cX))) rfl rfl fun a hF=>?_
    obtain ⟨i3,hP,g7⟩:=dI hP
    refine dV hF rfl rfl rfl c1 rfl rfl (aN (xs:=[.tmp 16]) Tryz.call98 hF rfl rfl (R:=fun v w=>∃ x,i3 = .inl x ∧ match x with | c7=>v = .bool c7 ∧ MemL w (pt c3 (RState.enc (mSt x0 s1 s3 s7)) 54 :: Lr)) ?_ fun v w hR=>?_)
    ·refine aR Tryz.func98 rfl Tryz.ntmps98 rfl fun a hF=>?_
     refine aG ?_
     refine aD ?_
     refine aO hF rfl rfl rfl (dA hF rfl rfl rfl fun c5 w i9 g3=>?_)
     have hM:=hM.plus g3
     replace hM:MemL _ (pt c5 (RInput.enc (RInput.mk s1 s3)) 30 :: pt c3 (RState.enc (mSt x0 s1 s3 s7)) 54 :: Lr):=hM
     intro a hF
     refine aA hF (aH hF rfl rfl) rfl rfl rfl fun a hF=>?_
     refine aJ (aB ?_)
     refine aG ?_
     refine aD ?_
     refine aA hF (aH hF rfl rfl) rfl rfl rfl fun a hF=>?_
     refine aJ (aB ?_)
     refine aG ?_
     refine aU hF hM hP (fun F x a w=>match x with | c8=>Fr 22 [(2,.bool c8)] a ∧ MemL w (pt c3 (RState.enc (mSt x0 s1 s3 s7)) 54 :: Lr)) (fun j6 hP j2 hF hM=>?_) ?_
     ·refine aD ?_
      refine aA hF (aF hF rfl rfl) rfl rfl rfl fun a hF=>?_
      refine aA hF (aC (off':=0) qU30 rfl in23 rfl hF rfl rfl rfl) rfl rfl rfl fun a hF=>?_
      refine aA hF (aI qA23 hF rfl rfl (hM.cell (i:=0) rfl (RInput.g_ctx _))) rfl rfl rfl fun a hF=>?_
      obtain ⟨i4,hP,g8⟩:=dI hP
      refine aO hF rfl rfl rfl (gZ (xs:=[.tmp 6]) Tryz.call171 hF rfl rfl rfl (R:=fun v w=>∃ x,i4 = .inl x ∧ match x with | d3=>v = .bool d3 ∧ MemL w (pt c5 (RInput.enc (RInput.mk s1 s3)) 30 :: pt c3 (RState.enc (mSt x0 s1 s3 s7)) 54 :: Lr)) ?_ fun v w hR=>?_)
      ·refine aR Tryz.func171 rfl Tryz.ntmps171 rfl fun a hF=>?_
       refine aG ?_
       refine aD ?_
       refine aA hF (aH hF rfl rfl) rfl rfl rfl fun a hF=>?_
       refine aJ (aB ?_)
       refine aG ?_
       refine aD ?_
       refine aA hF (aF hF rfl rfl) rfl rfl rfl fun a hF=>?_
       refine aA hF (bM (f2 _ (hsub _ (dropM hM 2))) qU23 hF rfl rfl) rfl rfl rfl fun a hF=>?_
       refine aA hF (eS hF rfl rfl rfl) rfl rfl rfl fun a hF=>?_
       refine aA hF (aH hF rfl rfl) rfl rfl rfl fun a hF=>?_
       refine aJ (aB ?_)
       refine c_ret ?_
       have hP:=oI hP
       subst hP
       refine bH Tryz.results171 hF rfl ?_
       exact ⟨(decide (65535 < (x0.ctx.length:Int))),rfl,rfl,hM⟩
      obtain ⟨d3,rfl,rfl,hM⟩:=hR
      replace hP:Sh.gD x0 d3 = _:=g8
      unfold Sh.gD at hP
      intro a hF
      refine aA hF (dE hF rfl rfl) rfl rfl rfl fun a hF=>?_
      refine aA hF (aF hF rfl rfl) rfl rfl rfl fun a hF=>?_
      refine bE 9 hF rfl (fun c2=>?_) (fun c2=>?_)
      ·have hP:=Fx.cT c2 hP
       refine aL hF rfl rfl rfl c2 (aC (off':=1) qU30 rfl in28 rfl hF rfl rfl rfl) rfl rfl fun a hF=>?_
       refine aL hF rfl rfl rfl c2 (aI qA28 hF rfl rfl (hM.cell (i:=0) rfl (RInput.g_tables _))) rfl rfl fun a hF=>?_
       refine aL hF rfl rfl rfl c2 (cQ (f5 _ (hsub _ (dropM hM 2))) q6.len qU28 hF rfl rfl) rfl rfl fun a hF=>?_
       refine aL hF rfl rfl rfl c2 (qI hF rfl rfl rfl) rfl rfl fun a hF=>?_
       refine aA hF (aP hF rfl rfl c2 rfl) rfl rfl rfl fun a hF=>?_
       refine aA hF (aF hF rfl rfl) rfl rfl rfl fun a hF=>?_
       refine bE 15 hF rfl (fun c0=>?_) (fun c0=>?_)
       ·have hP:=Fx.cT c0 hP
        refine aL hF rfl rfl rfl c0 (aC (off':=1) qU30 rfl in28 rfl hF rfl rfl rfl) rfl rfl fun a hF=>?_
        refine aL hF rfl rfl rfl c0 (aI qA28 hF rfl rfl (hM.cell (i:=0) rfl (RInput.g_tables _))) rfl rfl fun a hF=>?_
        refine aL hF rfl rfl rfl c0 (aF hF rfl rfl) rfl rfl fun a hF=>?_
        obtain ⟨i5,hP,g9⟩:=dI hP
        refine dV hF rfl rfl rfl c0 rfl rfl (aN (xs:=[.tmp 17,.tmp 18]) Tryz.call172 hF rfl rfl (R:=fun v w=>∃ x,i5 = .inl x ∧ match x with | c9=>v = .bool c9 ∧ MemL w (pt c5 (RInput.enc (RInput.mk s1 s3)) 30 :: pt c3 (RState.enc (mSt x0 s1 s3 s7)) 54 :: Lr)) ?_ fun v w hR=>?_)
        ·refine aR Tryz.func172 rfl Tryz.ntmps172 rfl fun a hF=>?_
         refine aG ?_
         refine aD ?_
         refine aA hF (aH hF rfl rfl) rfl rfl rfl fun a hF=>?_
         refine aJ (aB ?_)
         refine aG ?_
         refine aD ?_
         refine aA hF (aF hF rfl rfl) rfl rfl rfl fun a hF=>?_
         refine aA hF (aF hF rfl rfl) rfl rfl rfl fun a hF=>?_
         obtain ⟨i6,hP,i0⟩:=dI hP
         refine aO hF rfl rfl rfl (aN (xs:=[.tmp 5,.tmp 6]) Tryz.call226 hF rfl rfl (R:=fun v w=>∃ x,i6 = .inl x ∧ match x with | d0=>v = .int .i64 d0 ∧ MemL w (pt c5 (RInput.enc (RInput.mk s1 s3)) 30 :: pt c3 (RState.enc (mSt x0 s1 s3 s7)) 54 :: Lr)) ?_ fun v w hR=>?_)
         ·refine aR Tryz.func226 rfl Tryz.ntmps226 rfl fun a hF=>?_
          refine aG ?_
          refine aD ?_
          refine aA hF (aH hF rfl rfl) rfl rfl rfl fun a hF=>?_
          refine aJ (aB ?_)
          refine aG ?_
          refine aU hF hM hP (fun F x a w=>match x with | _=>Fr 19 [(4,.int .i64 0)] a ∧ MemL w (pt c5 (RInput.enc (RInput.mk s1 s3)) 30 :: pt c3 (RState.enc (mSt x0 s1 s3 s7)) 54 :: Lr)) (fun j7 hP i2 hF hM=>?_) ?_
          ·refine aG ?_
           refine aD ?_
           refine aA hF (aF hF rfl rfl) rfl rfl rfl fun a hF=>?_
           refine aA hF (cQ (f5 _ (hsub _ (dropM hM 2))) q6.len qU28 hF rfl rfl) rfl rfl rfl fun a hF=>?_
           refine aA hF (aF hF rfl rfl) rfl rfl rfl fun a hF=>?_
           refine aJ (aB ?_)
           refine aT ?_
           refine bU hF hM hP (fun F x a w=>match x with | c6=>Fr 19 [(8,.int .i64 c6),(0,(s3).v),(1,.func (.func 171) [].toArray [].toArray),(4,.int .i64 0),(7,.int .i64 (x0.tables.length:Int))] a ∧ MemL w (pt c5 (RInput.enc (RInput.mk s1 s3)) 30 :: pt c3 (RState.enc (mSt x0 s1 s3 s7)) 54 :: Lr)) (fun hF hM=>⟨hF.to ⟨rfl,rfl,rfl,rfl,rfl,trivial⟩,hM⟩) ?_
           rintro c6 a w j8 hP g1 ⟨hF,hM⟩
           replace hP:Sh.eJ x0 c6 = _:=hP
           unfold Sh.eJ at hP
           refine aG ?_
           refine aD ?_
           refine aA hF (cI hF rfl rfl rfl) rfl rfl rfl fun a hF=>?_
           refine aJ (aB ?_)
           refine aG ?_
           refine aV hF (c:=.tmp 9) rfl (fun d1=>?_) (fun d1=>?_)
           ·have hP:=Fx.cT d1 hP
            refine aW (aB ?_)
            refine aG ?_
            refine aT ?_
            refine aG ?_
            refine aD ?_
            refine aA hF (aF hF rfl rfl) rfl rfl rfl fun a hF=>?_
            refine aA hF (aH hF rfl rfl) rfl rfl rfl fun a hF=>?_
            refine aJ (aB ?_)
            refine aG ?_
            refine aD ?_
            refine aA hF (aF hF rfl rfl) rfl rfl rfl fun a hF=>?_
            refine aA hF (aF hF rfl rfl) rfl rfl rfl fun a hF=>?_
            refine aA hF (aF hF rfl rfl) rfl rfl rfl fun a hF=>?_
            obtain ⟨g6,d5,hP⟩:=bind_some hP
            have d7:=aM d5
            obtain ⟨j0,d9,g0⟩:=Each.getr q6 d7.2
            have d8:=Each.bd q6 (bG d5)
            refine aA hF (aS (sz:=1) (f5 _ (hsub _ (dropM hM 2))) qU28 in23 rfl hF rfl rfl rfl d8) rfl rfl rfl fun a hF=>?_
            refine aA hF (aI qA23 hF rfl rfl ((((f5 _ (hsub _ (dropM hM 2))).elemS d9)).get 0 rfl)) rfl rfl rfl fun a hF=>?_
            obtain ⟨i7,hP,i1⟩:=dI hP
            refine aO hF rfl rfl rfl (gZ (xs:=[.tmp 15]) Tryz.call171 hF rfl rfl rfl (R:=fun v w=>∃ x,i7 = .inl x ∧ match x with | d4=>v = .bool d4 ∧ MemL w (pt c5 (RInput.enc (RInput.mk s1 s3)) 30 :: pt c3 (RState.enc (mSt x0 s1 s3 s7)) 54 :: Lr)) ?_ fun v w hR=>?_)
            ·refine aR Tryz.func171 rfl Tryz.ntmps171 rfl fun a hF=>?_
             refine aG ?_
             refine aD ?_
             refine aA hF (aH hF rfl rfl) rfl rfl rfl fun a hF=>?_
             refine aJ (aB ?_)
             refine aG ?_
             refine aD ?_
             refine aA hF (aF hF rfl rfl) rfl rfl rfl fun a hF=>?_
             refine aA hF (bM (g0 _ (hsub _ (dropM hM 2))) qU23 hF rfl rfl) rfl rfl rfl fun a hF=>?_
             refine aA hF (eS hF rfl rfl rfl) rfl rfl rfl fun a hF=>?_
             refine aA hF (aH hF rfl rfl) rfl rfl rfl fun a hF=>?_
             refine aJ (aB ?_)
             refine c_ret ?_
             have hP:=oI hP
             subst hP
             refine bH Tryz.results171 hF rfl ?_
             exact ⟨(decide (65535 < (g6.length:Int))),rfl,rfl,hM⟩
            obtain ⟨d4,rfl,rfl,hM⟩:=hR
            replace hP:Sh.lU c6 d4 = _:=i1
            unfold Sh.lU at hP
            intro a hF
            refine aJ (aB ?_)
            refine aV hF (c:=.tmp 16) rfl (fun d2=>?_) (fun d2=>?_)
            ·have hP:=Fx.cT d2 hP
             refine aG ?_
             refine aD ?_
             refine aA hF (aF hF rfl rfl) rfl rfl rfl fun a hF=>?_
             refine aA hF (aH hF rfl rfl) rfl rfl rfl fun a hF=>?_
             refine aJ (aB ?_)
             refine c_ret ?_
             have hP:=oI hP
             subst hP
             have hP:=g1 _ rfl
             subst hP
             have hP:=dB i2
             subst hP
             refine bH Tryz.results226 hF rfl ?_
             exact ⟨c6,rfl,rfl,hM⟩
            have hP:=Fx.cF d2 hP
            refine aW (bK (aB ?_))
            refine aD ?_
            refine aA hF (bX hF rfl rfl rfl) rfl rfl rfl fun a hF=>?_
            refine aA hF (aF hF rfl rfl) rfl rfl rfl fun a hF=>?_
            refine aJ (aB ?_)
            have hP:=oI hP
            subst hP
            exact ⟨(IntKind.i64.wrap (c6 + 1)),rfl,hF.to ⟨rfl,rfl,rfl,rfl,rfl,trivial⟩,hM⟩
           have hP:=Fx.cF d1 hP
           refine bY (bD (bD (cJ ?_)))
           refine aB ?_
           have hP:=oI hP
           subst hP
           have hP:=g1 _ rfl
           subst hP
           exact ⟨(),rfl,hF.to ⟨rfl,trivial⟩,hM⟩
          rintro ⟨⟩ a w hP ⟨hF,hM⟩
          replace hP:Sh.oJ = _:=hP
          unfold Sh.oJ at hP
          refine aB ?_
          refine aG ?_
          refine aD ?_
          refine aA hF (aH hF rfl rfl) rfl rfl rfl fun a hF=>?_
          refine aJ (aB ?_)
          refine c_ret ?_
          have hP:=oI hP
          subst hP
          refine bH Tryz.results226 hF rfl ?_
          exact ⟨(-1),rfl,rfl,hM⟩
         obtain ⟨d0,rfl,rfl,hM⟩:=hR
         replace hP:Sh.lT d0 = _:=i0
         unfold Sh.lT at hP
         intro a hF
         refine aA hF (jD hF rfl rfl rfl) rfl rfl rfl fun a hF=>?_
         refine aA hF (aH hF rfl rfl) rfl rfl rfl fun a hF=>?_
         refine aJ (aB ?_)
         refine c_ret ?_
         have hP:=oI hP
         subst hP
         refine bH Tryz.results172 hF rfl ?_
         exact ⟨(decide (0 ≤ d0)),rfl,rfl,hM⟩
        obtain ⟨c9,rfl,rfl,hM⟩:=hR
        replace hP:Sh.lS c9 = _:=g9
        unfold Sh.lS at hP
        intro a hF
        refine aL hF rfl rfl rfl c0 (dE hF rfl rfl) rfl rfl fun a hF=>?_
        refine aA hF (aP hF rfl rfl c0 rfl) rfl rfl rfl fun a hF=>?_
        refine aA hF (aH hF rfl rfl) rfl rfl rfl fun a hF=>?_
        refine aJ (aB ?_)
        have hP:=oI hP
        subst hP
        exact ⟨(!c9),rfl,hF.to ⟨rfl,trivial⟩,selM hM [1] 2 rfl⟩
       have hP:=Fx.cF c0 hP
       refine aE hF rfl rfl rfl c0 rfl rfl fun a hF=>?_
       refine aE hF rfl rfl rfl c0 rfl rfl fun a hF=>?_
       refine aE hF rfl rfl rfl c0 rfl rfl fun a hF=>?_
       refine aE hF rfl rfl rfl c0 rfl rfl fun a hF=>?_
       refine aE hF rfl rfl rfl c0 rfl rfl fun a hF=>?_
       refine aA hF (aX hF rfl rfl c0 rfl) rfl rfl rfl fun a hF=>?_
       refine aA hF (aH hF rfl rfl) rfl rfl rfl fun a hF=>?_
       refine aJ (aB ?_)
       have hP:=oI hP
       subst hP
       exact ⟨false,rfl,hF.to ⟨rfl,trivial⟩,selM hM [1] 2 rfl⟩
      have hP:=Fx.cF c2 hP
      refine aE hF rfl rfl rfl c2 rfl rfl fun a hF=>?_
      refine aE hF rfl rfl rfl c2 rfl rfl fun a hF=>?_
      refine aE hF rfl rfl rfl c2 rfl rfl fun a hF=>?_
      refine aE hF rfl rfl rfl c2 rfl rfl fun a hF=>?_
      refine aA hF (aX hF rfl rfl c2 rfl) rfl rfl rfl fun a hF=>?_
      refine aA hF (aF hF rfl rfl) rfl rfl rfl fun a hF=>?_
      refine aE hF rfl rfl rfl rfl rfl rfl fun a hF=>?_
      refine aE hF rfl rfl rfl rfl rfl rfl fun a hF=>?_
      refine aE hF rfl rfl rfl rfl rfl rfl fun a hF=>?_
      refine aE hF rfl rfl rfl rfl rfl rfl fun a hF=>?_
      refine aE hF rfl rfl rfl rfl rfl rfl fun a hF=>?_
      refine aA hF (aX hF rfl rfl rfl rfl) rfl rfl rfl fun a hF=>?_
      refine aA hF (aH hF rfl rfl) rfl rfl rfl fun a hF=>?_
      refine aJ (aB ?_)
      have hP:=oI hP
      subst hP
      exact ⟨false,rfl,hF.to ⟨rfl,trivial⟩,selM hM [1] 2 rfl⟩
     rintro c8 a w hP ⟨hF,hM⟩
     replace hP:Sh.gF c8 = _:=hP
     unfold Sh.gF at hP
     refine aB ?_
     refine c_ret ?_
     have hP:=oI hP
     subst hP
     refine bH Tryz.results98 hF rfl ?_
     exact ⟨c8,rfl,rfl,hM⟩
    obtain ⟨c7,rfl,rfl,hM⟩:=hR
    replace hP:Sh.gC c7 = _:=g7
    unfold Sh.gC at hP
    intro a hF
    refine aA hF (aP hF rfl rfl c1 rfl) rfl rfl rfl fun a hF=>?_
    refine aA hF (aH hF rfl rfl) rfl rfl rfl fun a hF=>?_
    refine aJ (aB ?_)
    have hP:=oI hP
    subst hP
    exact ⟨c7,rfl,hF.to ⟨rfl,trivial⟩,selM hM [] 1 rfl⟩
   have hP:=Fx.cF c1 hP
   refine aE hF rfl rfl rfl c1 rfl rfl fun a hF=>?_
   refine aE hF rfl rfl rfl c1 rfl rfl fun a hF=>?_
   refine aE hF rfl rfl rfl c1 rfl rfl fun a hF=>?_
   refine aE hF rfl rfl rfl c1 rfl rfl fun a hF=>?_
   refine aE hF rfl rfl rfl c1 rfl rfl fun a hF=>?_
   refine aE hF rfl rfl rfl c1 rfl rfl fun a hF=>?_
   refine aA hF (aX hF rfl rfl c1 rfl) rfl rfl rfl fun a hF=>?_
   refine aA hF (aH hF rfl rfl) rfl rfl rfl fun a hF=>?_
   refine aJ (aB ?_)
   have hP:=oI hP
   subst hP
   exact ⟨false,rfl,hF.to ⟨rfl,trivial⟩,selM hM [] 1 rfl⟩
  have hP:=Fx.cF c4 hP
  refine aE hF rfl rfl rfl c4 rfl rfl fun a hF=>?_
  refine aE hF rfl rfl rfl c4 rfl rfl fun a hF=>?_
  refine aE hF rfl rfl rfl c4 rfl rfl fun a hF=>?_
  refine aA hF (aX hF rfl rfl c4 rfl) rfl rfl rfl fun a hF=>?_
  refine aA hF (aF hF rfl rfl) rfl rfl rfl fun a hF=>?_
  refine aE hF rfl rfl rfl rfl rfl rfl fun a hF=>?_
  refine aE hF rfl rfl rfl rfl rfl rfl fun a hF=>?_
  refine aE hF rfl rfl rfl rfl rfl rfl fun a hF=>?_
  refine aE hF rfl rfl rfl rfl rfl rfl fun a hF=>?_
  refine aE hF rfl rfl rfl rfl rfl rfl fun a hF=>?_
  refine aE hF rfl rfl rfl rfl rfl rfl fun a hF=>?_
  refine aA hF (aX hF rfl rfl rfl rfl) rfl rfl rfl fun a hF=>?_
  refine aA hF (aH hF rfl rfl) rfl rfl rfl fun a hF=>?_
  refine aJ (aB ?_)
  have hP:=oI hP
  subst hP
  exact ⟨false,rfl,hF.to ⟨rfl,trivial⟩,selM hM [] 1 rfl⟩
 rintro d6 a w hP ⟨hF,hM⟩
 replace hP:Sh.gE d6 = _:=hP
 unfold Sh.gE at hP
 refine aB ?_
 refine c_ret ?_
 have hP:=oI hP
 subst hP
 refine bH Tryz.results82 hF rfl ?_
 exact ⟨rfl,hM⟩
set_option maxHeartbeats 4000000 in
theorem pQ {x0:QState} {x1:Int} {s1:SV} {s3:SV} {hs4:List SV} {s7:SV} {out:(List UInt8 × Bool)} {w0:World} {Bf:World → Prop} {Lr:List Res} (hP:Sh.nK x0 x1 = some out) (hM:MemL w0 (Lr)) (hsub:∀ w,MemL w Lr → Bf w) (f2:LIn Bf s1 x0.ctx) (f5:LIn Bf s3 hs4) (q6:Each (LIn (X:=UInt8) Bf) hs4 x0.tables) (f8:LIn Bf s7 x0.sent):Calls Tryz.prog 192 #[.agg (RState.enc (mSt x0 s1 s3 s7)).toArray,.int .i64 x1] w0 (Ret fun v w'=>∃ (s15:SV),v = .tuple #[(s15).v,.bool out.2] ∧ LIn Bf s15 out.1 ∧ MemL w' (Lr)):=by
 unfold Sh.nK at hP
 refine aR (vs:=[.agg (RState.enc (mSt x0 s1 s3 s7)).toArray,.int .i64 x1]) Tryz.func192 rfl Tryz.ntmps192 rfl fun a hF=>?_
 refine aG ?_
 refine aD ?_
 refine aO hF rfl rfl rfl (dA hF rfl rfl rfl fun c0 w c2 c1=>?_)
 have hM:=hM.plus c1
 replace hM:MemL _ (pt c0 (RState.enc (mSt x0 s1 s3 s7)) 54 :: Lr):=hM
 intro a hF
 refine aA hF (aH hF rfl rfl) rfl rfl rfl fun a hF=>?_
 refine aA hF (aH hF rfl rfl) rfl rfl rfl fun a hF=>?_
 refine aJ (aB ?_)
 refine aG ?_
 refine aT ?_
 refine aG ?_
 refine aD ?_
 refine aA hF (aF hF rfl rfl) rfl rfl rfl fun a hF=>?_
 refine aA hF (cI hF rfl rfl rfl) rfl rfl rfl fun a hF=>?_
 refine aA hF (aH hF rfl rfl) rfl rfl rfl fun a hF=>?_
 refine aJ (aB ?_)
 refine aV hF (c:=.tmp 6) rfl (fun hb20=>?_) (fun hb20=>?_)
 ·have hP:=Fx.cT hb20 hP
  refine aG ?_
  refine aD ?_
  refine aA hF (aC (off':=460) qU54 rfl in23 rfl hF rfl rfl rfl) rfl rfl rfl fun a hF=>?_
  refine aA hF (aI qA23 hF rfl rfl (hM.cell (i:=0) rfl (RState.g_ctx _))) rfl rfl rfl fun a hF=>?_
  refine aA hF (aH hF rfl rfl) rfl rfl rfl fun a hF=>?_
  refine aA hF (aH hF rfl rfl) rfl rfl rfl fun a hF=>?_
  refine aJ (aB ?_)
  refine c_ret ?_
  have hP:=oI hP
  subst hP
  refine dO (rs:=[.tmp 4,.tmp 5]) qR192 hF (cR hF rfl (cR hF rfl cP)) rfl ?_
  exact ⟨s1,rfl,f2,selM hM [] 1 rfl⟩
 have hP:=Fx.cF hb20 hP
 refine aG ?_
 refine aD ?_
 refine aA hF (aF hF rfl rfl) rfl rfl rfl fun a hF=>?_
 refine aA hF (aC (off':=461) qU54 rfl in28 rfl hF rfl rfl rfl) rfl rfl rfl fun a hF=>?_
 refine aA hF (aI qA28 hF rfl rfl (hM.cell (i:=0) rfl (RState.g_tables _))) rfl rfl rfl fun a hF=>?_
 refine aA hF (cQ (f5 _ (hsub _ (dropM hM 1))) q6.len qU28 hF rfl rfl) rfl rfl rfl fun a hF=>?_
 refine aA hF (cI hF rfl rfl rfl) rfl rfl rfl fun a hF=>?_
 refine aA hF (aH hF rfl rfl) rfl rfl rfl fun a hF=>?_
 refine aJ (aB ?_)
 refine aV hF (c:=.tmp 11) rfl (fun hb21=>?_) (fun hb21=>?_)
 ·have hP:=Fx.cT hb21 hP
  refine aG ?_
  refine aD ?_
  refine aA hF (aC (off':=461) qU54 rfl in28 rfl hF rfl rfl rfl) rfl rfl rfl fun a hF=>?_
  refine aA hF (aI qA28 hF rfl rfl (hM.cell (i:=0) rfl (RState.g_tables _))) rfl rfl rfl fun a hF=>?_
  refine aA hF (aF hF rfl rfl) rfl rfl rfl fun a hF=>?_
  obtain ⟨x22,hx22,hP⟩:=bind_some hP
  have h0x22:=aM hx22
  obtain ⟨yx22,hgx22,hrx22⟩:=Each.getr q6 h0x22.2
  have hdx22:=Each.bd q6 (bG hx22)
  refine aA hF (aS (sz:=1) (f5 _ (hsub _ (dropM hM 1))) qU28 in23 rfl hF rfl rfl rfl hdx22) rfl rfl rfl fun a hF=>?_
  refine aA hF (aI qA23 hF rfl rfl ((((f5 _ (hsub _ (dropM hM 1))).elemS hgx22)).get 0 rfl)) rfl rfl rfl fun a hF=>?_
  refine aA hF (aH hF rfl rfl) rfl rfl rfl fun a hF=>?_
  refine aA hF (aH hF rfl rfl) rfl rfl rfl fun a hF=>?_
  refine aJ (aB ?_)
  refine c_ret ?_
  have hP:=oI hP
  subst hP
  refine dO (rs:=[.tmp 4,.tmp 5]) qR192 hF (cR hF rfl (cR hF rfl cP)) rfl ?_
  exact ⟨yx22,rfl,hrx22,selM hM [] 1 rfl⟩
 have hP:=Fx.cF hb21 hP
 refine aW (bK (aB ?_))
 refine aG ?_
 refine aD ?_
 refine aA hF (aH hF rfl rfl) rfl rfl rfl fun a hF=>?_
 refine aA hF (aH hF rfl rfl) rfl rfl rfl fun a hF=>?_
 refine aJ (aB ?_)
 refine c_ret ?_
 have hP:=oI hP
 subst hP
 refine dO (rs:=[.tmp 4,.tmp 5]) qR192 hF (cR hF rfl (cR hF rfl cP)) rfl ?_
 exact ⟨SV.nil,rfl,LIn.nil,selM hM [] 1 rfl⟩
set_option maxHeartbeats 4000000 in
theorem mD {x0:QState} {x1:QMark} {s1:SV} {s3:SV} {hs4:List SV} {s7:SV} {s9:SV} {s11:SV} {s13:SV} {hs14:List RPiece} {s17:SV} {out:Bool} {w0:World} {Bf:World → Prop} {Lr:List Res} (hP:Sh.pV x0 x1 = some out) (hM:MemL w0 (Lr)) (hsub:∀ w,MemL w Lr → Bf w) (f2:LIn Bf s1 x0.ctx) (f5:LIn Bf s3 hs4) (q6:Each (LIn (X:=UInt8) Bf) hs4 x0.tables) (f8:LIn Bf s7 x0.sent) (f10:LIn Bf s9 x1.regs) (f12:LIn Bf s11 x1.slots) (f15:LIn Bf s13 hs14) (q16:Each (QPieceIn Bf) hs14 x1.pieces) (f18:LIn Bf s17 x1.sent):Calls Tryz.prog 126 #[.agg (RState.enc (mSt x0 s1 s3 s7)).toArray,.agg (RMark.enc (mMk x1 s9 s11 s13 s17)).toArray] w0 (Ret fun v w'=>v = .bool out ∧ MemL w' (Lr)):=by
 unfold Sh.pV at hP
 refine aR (vs:=[.agg (RState.enc (mSt x0 s1 s3 s7)).toArray,.agg (RMark.enc (mMk x1 s9 s11 s13 s17)).toArray]) Tryz.func126 rfl Tryz.ntmps126 rfl fun a hF=>?_
 refine aG ?_
 refine aD ?_
 refine aO hF rfl rfl rfl (dA hF rfl rfl rfl fun c0 w k3 g7=>?_)
 have hM:=hM.plus g7
 intro a hF
 refine aO hF rfl rfl rfl (dA hF rfl rfl rfl fun c1 w k4 g8=>?_)
 have hM:=hM.plus g8
 replace hM:MemL _ (pt c1 (RMark.enc (mMk x1 s9 s11 s13 s17)) 60 :: pt c0 (RState.enc (mSt x0 s1 s3 s7)) 54 :: Lr):=hM
 intro a hF
 refine aA hF (aH hF rfl rfl) rfl rfl rfl fun a hF=>?_
 refine aJ (aB ?_)
 refine aG ?_
 refine aU hF hM hP (fun F x a w=>match x with | _=>Fr 91 [(2,.pointer (some ⟨c0,0,none⟩)),(3,.pointer (some ⟨c1,0,none⟩)),(4,.bool false)] a ∧ MemL w (pt c1 (RMark.enc (mMk x1 s9 s11 s13 s17)) 60 :: pt c0 (RState.enc (mSt x0 s1 s3 s7)) 54 :: Lr)) (fun l7 hP j7 hF hM=>?_) ?_
 ·refine aG ?_
  refine aD ?_
  refine aA hF (aC (off':=3) qU60 rfl in56 rfl hF rfl rfl rfl) rfl rfl rfl fun a hF=>?_
  refine aA hF (aI qA56 hF rfl rfl (hM.cell (i:=0) rfl (RMark.g_regs _))) rfl rfl rfl fun a hF=>?_
  refine aA hF (bM (f10 _ (hsub _ (dropM hM 2))) qU56 hF rfl rfl) rfl rfl rfl fun a hF=>?_
  refine aA hF (aF hF rfl rfl) rfl rfl rfl fun a hF=>?_
  refine aJ (aB ?_)
  refine aT ?_
  refine bU hF hM hP (fun F x a w=>match x with | g2=>Fr 91 [(17,.int .i64 g2),(15,(s9).v),(16,.int .i64 (x1.regs.length:Int)),(2,.pointer (some ⟨c0,0,none⟩)),(3,.pointer (some ⟨c1,0,none⟩)),(4,.bool false)] a ∧ MemL w (pt c1 (RMark.enc (mMk x1 s9 s11 s13 s17)) 60 :: pt c0 (RState.enc (mSt x0 s1 s3 s7)) 54 :: Lr)) (fun hF hM=>⟨hF.to ⟨rfl,rfl,rfl,rfl,rfl,rfl,trivial⟩,hM⟩) ?_
  rintro g2 a w m1 hP i2 ⟨hF,hM⟩
  replace hP:Sh.lY x0 x1 g2 = _:=hP
  unfold Sh.lY at hP
  refine aG ?_
  refine aD ?_
  refine aA hF (cI hF rfl rfl rfl) rfl rfl rfl fun a hF=>?_
  refine aJ (aB ?_)
  refine aG ?_
  refine aV hF (c:=.tmp 18) rfl (fun d5=>?_) (fun d5=>?_)
  ·have hP:=Fx.cT d5 hP
   refine aW (aB ?_)
   refine aG ?_
   refine aT ?_
   refine aG ?_
   refine aD ?_
   obtain ⟨k8,i5,hP⟩:=bind_some hP
   have j2:=aM i5
   refine aA hF (aS (sz:=9) (f10 _ (hsub _ (dropM hM 2))) qU56 in128 rfl hF rfl rfl rfl (bG i5)) rfl rfl rfl fun a hF=>?_
   refine aA hF (aQ qA128 qS128 hF rfl rfl (LTurn.len _) (((f10 _ (hsub _ (dropM hM 2))).elemS j2.2))) rfl rfl rfl fun a hF=>?_
   refine aO hF rfl rfl rfl (bO z128 (zs:=LTurn.zero.enc) rfl rfl fun d0 w k5 g9=>?_)
   have hM:=hM.plus g9
   replace hM:MemL _ (pt d0 (LTurn.enc LTurn.zero) 128 :: pt c1 (RMark.enc (mMk x1 s9 s11 s13 s17)) 60 :: pt c0 (RState.enc (mSt x0 s1 s3 s7)) 54 :: Lr):=hM
   intro a hF
   refine bI rfl rfl (aY (vs:=_) qS128 (hM.obj (i:=0) rfl) hF rfl rfl rfl rfl (LTurn.len _) (LTurn.one _) (by first | (rw [LTurn.len,LTurn.len]; decide) | (rw [LTurn.len]; decide)) (bF ((LTurn.len _).trans (LTurn.len _).symm)) fun w k0=>?_)
   have hM:=hM.chg k0 (i:=0) rfl
   replace hM:MemL _ (pt d0 (LTurn.enc k8) 128 :: pt c1 (RMark.enc (mMk x1 s9 s11 s13 s17)) 60 :: pt c0 (RState.enc (mSt x0 s1 s3 s7)) 54 :: Lr):=hM
   refine aJ (aB ?_)
   refine aG ?_
   refine bL mixed (by kernel_rfl) hM [0,1,2] 3 rfl fun hch=>?_
   refine aK hF hch 0 rfl (by kernel_rfl) rfl rfl rfl (fun w hM=>(aC (off':=0) qU128 rfl in3 rfl hF rfl rfl rfl)) fun a hF=>?_
   refine aK hF hch 1 rfl (by kernel_rfl) rfl rfl rfl (fun w hM=>(aI qA3 hF rfl rfl (hM.cell (i:=0) rfl (LTurn.g_reg _)))) fun a hF=>?_
   refine aK hF hch 2 rfl (by kernel_rfl) rfl rfl rfl (fun w hM=>(aC (off':=0) qU54 rfl in47 rfl hF rfl rfl rfl)) fun a hF=>?_
   obtain ⟨m4,d9,hP⟩:=bind_some hP
   have l0:=aM d9
   refine aK hF hch 3 rfl (by kernel_rfl) rfl rfl rfl (fun w hM=>(cW (sz:=4) qU47 in46 rfl hF rfl rfl rfl (dH d9))) fun a hF=>?_
   refine aK hF hch 4 rfl (by kernel_rfl) rfl rfl rfl (fun w hM=>(aQ qA46 qS46 hF rfl rfl (LVal.len _) (hM.cells (i:=2) rfl (RState.ci_regs _ _ _ (aM d9).2)))) fun a hF=>?_
   refine aK hF hch 5 rfl (by kernel_rfl) rfl rfl rfl (fun w hM=>(aC (off':=1) qU128 rfl in46 rfl hF rfl rfl rfl)) fun a hF=>?_
   refine aK hF hch 6 rfl (by kernel_rfl) rfl rfl rfl (fun w hM=>(aQ qA46 qS46 hF rfl rfl (LVal.len _) (hM.cells (i:=0) rfl (LTurn.c_old _)))) fun a hF=>?_
   refine aK hF hch 7 rfl (by kernel_rfl) rfl rfl rfl (fun w hM=>(jK qG46 (gA _ _ _ _ (by decide)) hF rfl rfl rfl)) fun a hF=>?_
   refine bW hch (by kernel_rfl) fun w hM=>?_
   refine aB ?_
   refine aV hF (c:=.tmp 28) rfl (fun d6=>?_) (fun d6=>?_)
   ·have hP:=Fx.cT d6 hP
    refine aG ?_
    refine aD ?_
    refine aA hF (aH hF rfl rfl) rfl rfl rfl fun a hF=>?_
    refine aJ (aB ?_)
    refine c_ret ?_
    have hP:=oI hP
    subst hP
    have hP:=i2 _ rfl
    subst hP
    have hP:=dB j7
    subst hP
    refine bH qR126 hF rfl ?_
    exact ⟨rfl,selM hM [] 3 rfl⟩
   have hP:=Fx.cF d6 hP
   refine aW (bK (aB ?_))
   refine aD ?_
   refine aA hF (bX hF rfl rfl rfl) rfl rfl rfl fun a hF=>?_
   refine aA hF (aF hF rfl rfl) rfl rfl rfl fun a hF=>?_
   refine aJ (aB ?_)
   have hP:=oI hP
   subst hP
   exact ⟨(IntKind.i64.wrap (g2 + 1)),rfl,hF.to ⟨rfl,rfl,rfl,rfl,rfl,rfl,trivial⟩,selM hM [1,2] 3 rfl⟩
  have hP:=Fx.cF d5 hP
  refine bY (bD (bD (cJ ?_)))
  refine aB ?_
  have hP:=oI hP
  subst hP
  have hP:=i2 _ rfl
  subst hP
  exact ⟨(),rfl,hF.to ⟨rfl,rfl,rfl,trivial⟩,hM⟩
 rintro ⟨⟩ a w hP ⟨hF,hM⟩
 replace hP:Sh.rD x0 x1 = _:=hP
 unfold Sh.rD at hP
 refine aB ?_
 refine aG ?_
 refine aU hF hM hP (fun F x a w=>match x with | _=>Fr 91 [(2,.pointer (some ⟨c0,0,none⟩)),(3,.pointer (some ⟨c1,0,none⟩)),(4,.bool false)] a ∧ MemL w (pt c1 (RMark.enc (mMk x1 s9 s11 s13 s17)) 60 :: pt c0 (RState.enc (mSt x0 s1 s3 s7)) 54 :: Lr)) (fun l8 hP j8 hF hM=>?_) ?_
 ·refine aG ?_
  refine aD ?_
  refine aA hF (aC (off':=4) qU60 rfl in57 rfl hF rfl rfl rfl) rfl rfl rfl fun a hF=>?_
  refine aA hF (aI qA57 hF rfl rfl (hM.cell (i:=0) rfl (RMark.g_slots _))) rfl rfl rfl fun a hF=>?_
  refine aA hF (bM (f12 _ (hsub _ (dropM hM 2))) qU57 hF rfl rfl) rfl rfl rfl fun a hF=>?_
  refine aA hF (aF hF rfl rfl) rfl rfl rfl fun a hF=>?_
  refine aJ (aB ?_)
  refine aT ?_
  refine bU hF hM hP (fun F x a w=>match x with | g3=>Fr 91 [(33,.int .i64 g3),(2,.pointer (some ⟨c0,0,none⟩)),(3,.pointer (some ⟨c1,0,none⟩)),(31,(s11).v),(32,.int .i64 (x1.slots.length:Int)),(4,.bool false)] a ∧ MemL w (pt c1 (RMark.enc (mMk x1 s9 s11 s13 s17)) 60 :: pt c0 (RState.enc (mSt x0 s1 s3 s7)) 54 :: Lr)) (fun hF hM=>⟨hF.to ⟨rfl,rfl,rfl,rfl,rfl,rfl,trivial⟩,hM⟩) ?_
  rintro g3 a w m2 hP i3 ⟨hF,hM⟩
  replace hP:Sh.lZ x0 x1 g3 = _:=hP
  unfold Sh.lZ at hP
  refine aG ?_
  refine aD ?_
  refine aA hF (cI hF rfl rfl rfl) rfl rfl rfl fun a hF=>?_
  refine aJ (aB ?_)
  refine aG ?_
  refine aV hF (c:=.tmp 34) rfl (fun d7=>?_) (fun d7=>?_)
  ·have hP:=Fx.cT d7 hP
   refine aW (aB ?_)
   refine aG ?_
   refine aT ?_
   refine aG ?_
   refine aD ?_
   obtain ⟨k9,i6,hP⟩:=bind_some hP
   have j3:=aM i6
   refine aA hF (aS (sz:=27) (f12 _ (hsub _ (dropM hM 2))) qU57 in151 rfl hF rfl rfl rfl (bG i6)) rfl rfl rfl fun a hF=>?_
   refine aA hF (aQ qA151 qS151 hF rfl rfl (LCell.len _) (((f12 _ (hsub _ (dropM hM 2))).elemS j3.2))) rfl rfl rfl fun a hF=>?_
   refine aO hF rfl rfl rfl (bO z151 (zs:=LCell.zero.enc) rfl rfl fun d1 w k6 i0=>?_)
   have hM:=hM.plus i0
   replace hM:MemL _ (pt d1 (LCell.enc LCell.zero) 151 :: pt c1 (RMark.enc (mMk x1 s9 s11 s13 s17)) 60 :: pt c0 (RState.enc (mSt x0 s1 s3 s7)) 54 :: Lr):=hM
   intro a hF
   refine bI rfl rfl (aY (vs:=_) qS151 (hM.obj (i:=0) rfl) hF rfl rfl rfl rfl (LCell.len _) (LCell.one _) (by first | (rw [LCell.len,LCell.len]; decide) | (rw [LCell.len]; decide)) (bF ((LCell.len _).trans (LCell.len _).symm)) fun w k1=>?_)
   have hM:=hM.chg k1 (i:=0) rfl
   replace hM:MemL _ (pt d1 (LCell.enc k9) 151 :: pt c1 (RMark.enc (mMk x1 s9 s11 s13 s17)) 60 :: pt c0 (RState.enc (mSt x0 s1 s3 s7)) 54 :: Lr):=hM
   refine aJ (aB ?_)
   refine aG ?_
   refine bL mixed (by kernel_rfl) hM [0,1,2] 3 rfl fun hch=>?_
   refine aK hF hch 0 rfl (by kernel_rfl) rfl rfl rfl (fun w hM=>(aC (off':=0) qU151 rfl in3 rfl hF rfl rfl rfl)) fun a hF=>?_
   refine aK hF hch 1 rfl (by kernel_rfl) rfl rfl rfl (fun w hM=>(aI qA3 hF rfl rfl (hM.cell (i:=0) rfl (LCell.g_slot _)))) fun a hF=>?_
   refine aK hF hch 2 rfl (by kernel_rfl) rfl rfl rfl (fun w hM=>(aC (off':=44) qU54 rfl in51 rfl hF rfl rfl rfl)) fun a hF=>?_
   obtain ⟨m5,g0,hP⟩:=bind_some hP
   have l1:=aM g0
   refine aK hF hch 3 rfl (by kernel_rfl) rfl rfl rfl (fun w hM=>(cW (sz:=13) qU51 in50 rfl hF rfl rfl rfl (dH g0))) fun a hF=>?_
   refine aK hF hch 4 rfl (by kernel_rfl) rfl rfl rfl (fun w hM=>(aQ qA50 qS50 hF rfl rfl (LSlot.len _) (hM.cells (i:=2) rfl (RState.ci_stack _ _ _ (aM g0).2)))) fun a hF=>?_
   refine aK hF hch 5 rfl (by kernel_rfl) rfl rfl rfl (fun w hM=>(aC (off':=1) qU151 rfl in50 rfl hF rfl rfl rfl)) fun a hF=>?_
   refine aK hF hch 6 rfl (by kernel_rfl) rfl rfl rfl (fun w hM=>(aQ qA50 qS50 hF rfl rfl (LSlot.len _) (hM.cells (i:=0) rfl (LCell.c_old _)))) fun a hF=>?_
   refine aK hF hch 7 rfl (by kernel_rfl) rfl rfl rfl (fun w hM=>(jK qG50 (gR _ _ _ _ (by decide)) hF rfl rfl rfl)) fun a hF=>?_
   refine bW hch (by kernel_rfl) fun w hM=>?_
   refine aB ?_
   refine aV hF (c:=.tmp 44) rfl (fun d8=>?_) (fun d8=>?_)
   ·have hP:=Fx.cT d8 hP
    refine aG ?_
    refine aD ?_
    refine aA hF (aH hF rfl rfl) rfl rfl rfl fun a hF=>?_
    refine aJ (aB ?_)
    refine c_ret ?_
    have hP:=oI hP
    subst hP
    have hP:=i3 _ rfl
    subst hP
    have hP:=dB j8
    subst hP
    refine bH qR126 hF rfl ?_
    exact ⟨rfl,selM hM [] 3 rfl⟩
   have hP:=Fx.cF d8 hP
   refine aW (bK (aB ?_))
   refine aD ?_
   refine aA hF (bX hF rfl rfl rfl) rfl rfl rfl fun a hF=>?_
   refine aA hF (aF hF rfl rfl) rfl rfl rfl fun a hF=>?_
   refine aJ (aB ?_)
   have hP:=oI hP
   subst hP
   exact ⟨(IntKind.i64.wrap (g3 + 1)),rfl,hF.to ⟨rfl,rfl,rfl,rfl,rfl,rfl,trivial⟩,selM hM [1,2] 3 rfl⟩
  have hP:=Fx.cF d7 hP
  refine bY (bD (bD (cJ ?_)))
  refine aB ?_
  have hP:=oI hP
  subst hP
  have hP:=i3 _ rfl
  subst hP
  exact ⟨(),rfl,hF.to ⟨rfl,rfl,rfl,trivial⟩,hM⟩
 rintro ⟨⟩ a w hP ⟨hF,hM⟩
 replace hP:Sh.rE x0 x1 = _:=hP
 unfold Sh.rE at hP
 refine aB ?_
 refine aG ?_
 refine aU hF hM hP (fun F x a w=>match x with | _=>Fr 91 [(2,.pointer (some ⟨c0,0,none⟩)),(3,.pointer (some ⟨c1,0,none⟩)),(4,.bool false)] a ∧ MemL w (pt c1 (RMark.enc (mMk x1 s9 s11 s13 s17)) 60 :: pt c0 (RState.enc (mSt x0 s1 s3 s7)) 54 :: Lr)) (fun l9 hP j9 hF hM=>?_) ?_
 ·refine aG ?_
  refine aD ?_
  refine aA hF (aC (off':=5) qU60 rfl in58 rfl hF rfl rfl rfl) rfl rfl rfl fun a hF=>?_
  refine aA hF (aI qA58 hF rfl rfl (hM.cell (i:=0) rfl (RMark.g_pieces _))) rfl rfl rfl fun a hF=>?_
  refine aA hF (cQ (f15 _ (hsub _ (dropM hM 2))) q16.len qU58 hF rfl rfl) rfl rfl rfl fun a hF=>?_
  refine aA hF (aF hF rfl rfl) rfl rfl rfl fun a hF=>?_
  refine aJ (aB ?_)
  refine aT ?_
  refine bU hF hM hP (fun F x a w=>match x with | c6=>Fr 91 [(49,.int .i64 c6),(2,.pointer (some ⟨c0,0,none⟩)),(3,.pointer (some ⟨c1,0,none⟩)),(4,.bool false),(47,(s13).v),(48,.int .i64 (x1.pieces.length:Int))] a ∧ MemL w (pt c1 (RMark.enc (mMk x1 s9 s11 s13 s17)) 60 :: pt c0 (RState.enc (mSt x0 s1 s3 s7)) 54 :: Lr)) (fun hF hM=>⟨hF.to ⟨rfl,rfl,rfl,rfl,rfl,rfl,trivial⟩,hM⟩) ?_
  rintro c6 a w m3 hP i4 ⟨hF,hM⟩
  replace hP:Sh.mA x0 x1 c6 = _:=hP
  unfold Sh.mA at hP
  refine aG ?_
  refine aD ?_
  refine aA hF (cI hF rfl rfl rfl) rfl rfl rfl fun a hF=>?_
  refine aJ (aB ?_)
  refine aG ?_
  refine aV hF (c:=.tmp 50) rfl (fun d2=>?_) (fun d2=>?_)
  ·have hP:=Fx.cT d2 hP
   refine aW (aB ?_)
   refine aG ?_
   refine aT ?_
   refine aG ?_
   refine aD ?_
   obtain ⟨c4,g5,hP⟩:=bind_some hP
   have i8:=aM g5
   obtain ⟨l2,j0,j1⟩:=Each.getr q16 i8.2
   have i9:=Each.bd q16 (bG g5)
   obtain ⟨c7,c8,rfl,i1,l3⟩:=j1
   refine aA hF (aS (sz:=4) (f15 _ (hsub _ (dropM hM 2))) qU58 in156 rfl hF rfl rfl rfl i9) rfl rfl rfl fun a hF=>?_
   refine aA hF (aQ qA156 qS156 hF rfl rfl (RPiece.len _) (((f15 _ (hsub _ (dropM hM 2))).elemS j0))) rfl rfl rfl fun a hF=>?_
   refine aO hF rfl rfl rfl (bO z156 (zs:=RPiece.zero.enc) rfl rfl fun c5 w k2 g4=>?_)
   have hM:=hM.plus g4
   replace hM:MemL _ (pt c5 (RPiece.enc (RPiece.mk 0 0 SV.nil SV.nil)) 156 :: pt c1 (RMark.enc (mMk x1 s9 s11 s13 s17)) 60 :: pt c0 (RState.enc (mSt x0 s1 s3 s7)) 54 :: Lr):=hM
   intro a hF
   refine bI rfl rfl (aY (vs:=_) qS156 (hM.obj (i:=0) rfl) hF rfl rfl rfl rfl (RPiece.len _) (RPiece.one _) (by first | (rw [RPiece.len,RPiece.len]; decide) | (rw [RPiece.len]; decide)) (bF ((RPiece.len _).trans (RPiece.len _).symm)) fun w j4=>?_)
   have hM:=hM.chg j4 (i:=0) rfl
   replace hM:MemL _ (pt c5 (RPiece.enc (mPc c4 c7 c8)) 156 :: pt c1 (RMark.enc (mMk x1 s9 s11 s13 s17)) 60 :: pt c0 (RState.enc (mSt x0 s1 s3 s7)) 54 :: Lr):=hM
   refine aJ (aB ?_)
   refine aG ?_
   refine aD ?_
   refine aA hF (aQ qA54 qS54 hF rfl rfl (RState.len _) (hM.cells (i:=2) rfl (bA (RState.len _)))) rfl rfl rfl fun a hF=>?_
   refine aA hF (aC (off':=0) qU156 rfl in3 rfl hF rfl rfl rfl) rfl rfl rfl fun a hF=>?_
   refine aA hF (aI qA3 hF rfl rfl (hM.cell (i:=0) rfl (RPiece.g_table _))) rfl rfl rfl fun a hF=>?_
   obtain ⟨l6,j5,hP⟩:=bind_some hP
   refine aO hF rfl rfl rfl (aN (xs:=[.tmp 54,.tmp 56]) Tryz.call192 hF rfl rfl (pQ j5 hM (Bf:=Bf) (fun w hM=>hsub _ (dropM hM 3)) f2 f5 q6 f8) fun v w hR=>?_)
   obtain ⟨l5,rfl,d4,hM⟩:=hR
   replace hM:MemL _ (pt c5 (RPiece.enc (mPc c4 c7 c8)) 156 :: pt c1 (RMark.enc (mMk x1 s9 s11 s13 s17)) 60 :: pt c0 (RState.enc (mSt x0 s1 s3 s7)) 54 :: Lr):=hM
   intro a hF
   refine aA hF (aF hF rfl rfl) rfl rfl rfl fun a hF=>?_
   refine aA hF (dD hF rfl rfl rfl) rfl rfl rfl fun a hF=>?_
   refine aA hF (dD hF rfl rfl rfl) rfl rfl rfl fun a hF=>?_
   refine aA hF (aH hF rfl rfl) rfl rfl rfl fun a hF=>?_
   refine aA hF (aH hF rfl rfl) rfl rfl rfl fun a hF=>?_
   refine aJ (aB ?_)
   refine aG ?_
   refine aD ?_
   refine aA hF (aC (off':=1) qU156 rfl in3 rfl hF rfl rfl rfl) rfl rfl rfl fun a hF=>?_
   refine aA hF (aI qA3 hF rfl rfl (hM.cell (i:=0) rfl (RPiece.g_from_ _))) rfl rfl rfl fun a hF=>?_
   refine aA hF (aC (off':=2) qU156 rfl in23 rfl hF rfl rfl rfl) rfl rfl rfl fun a hF=>?_
   refine aA hF (aI qA23 hF rfl rfl (hM.cell (i:=0) rfl (RPiece.g_old _))) rfl rfl rfl fun a hF=>?_
   refine aA hF (bM (i1 _ (hsub _ (dropM hM 3))) qU23 hF rfl rfl) rfl rfl rfl fun a hF=>?_
   refine aA hF (bX hF rfl rfl rfl) rfl rfl rfl fun a hF=>?_
   refine aA hF (aH hF rfl rfl) rfl rfl rfl fun a hF=>?_
   refine aJ (aB ?_)
   refine aG ?_
   refine aU hF hM hP (fun F x a w=>match x with | g1=>Fr 91 [(84,.bool g1),(2,.pointer (some ⟨c0,0,none⟩)),(3,.pointer (some ⟨c1,0,none⟩)),(4,.bool false),(47,(s13).v),(48,.int .i64 (x1.pieces.length:Int)),(49,.int .i64 c6)] a ∧ MemL w (pt c1 (RMark.enc (mMk x1 s9 s11 s13 s17)) 60 :: pt c0 (RState.enc (mSt x0 s1 s3 s7)) 54 :: Lr)) (fun m0 hP l4 hF hM=>?_) ?_
   ·refine bL mixed (by kernel_rfl) hM [0,1,2] 3 rfl fun hch=>?_
    refine aK hF hch 0 rfl (by kernel_rfl) rfl rfl rfl (fun w hM=>(aF hF rfl rfl)) fun a hF=>?_
    refine aK hF hch 1 rfl (by kernel_rfl) rfl rfl rfl (fun w hM=>(dE hF rfl rfl)) fun a hF=>?_
    refine aK hF hch 2 rfl (by kernel_rfl) rfl rfl rfl (fun w hM=>(aF hF rfl rfl)) fun a hF=>?_
    refine bE 68 hF rfl (fun c3=>?_) (fun c3=>?_)
    ·have hP:=Fx.cT c3 hP
     refine aZ hF hch 3 rfl (by kernel_rfl) rfl rfl rfl c3 rfl rfl fun a hF=>?_
     refine aZ hF hch 4 rfl (by kernel_rfl) rfl rfl rfl c3 rfl rfl fun a hF=>?_
     refine aZ hF hch 5 rfl (by kernel_rfl) rfl rfl rfl c3 rfl rfl fun a hF=>?_
     refine aZ hF hch 6 rfl (by kernel_rfl) rfl rfl rfl c3 rfl rfl fun a hF=>?_
     refine aK hF hch 7 rfl (by kernel_rfl) rfl rfl rfl (fun w hM=>(aP hF rfl rfl c3 rfl)) fun a hF=>?_
     refine aK hF hch 8 rfl (by kernel_rfl) rfl rfl rfl (fun w hM=>(aF hF rfl rfl)) fun a hF=>?_
     refine aZ hF hch 9 rfl (by kernel_rfl) rfl rfl rfl rfl rfl rfl fun a hF=>?_
     refine aZ hF hch 10 rfl (by kernel_rfl) rfl rfl rfl rfl rfl rfl fun a hF=>?_
     refine aZ hF hch 11 rfl (by kernel_rfl) rfl rfl rfl rfl rfl rfl fun a hF=>?_
     refine aZ hF hch 12 rfl (by kernel_rfl) rfl rfl rfl rfl rfl rfl fun a hF=>?_
     refine aZ hF hch 13 rfl (by kernel_rfl) rfl rfl rfl rfl rfl rfl fun a hF=>?_
     refine aZ hF hch 14 rfl (by kernel_rfl) rfl rfl rfl rfl rfl rfl fun a hF=>?_
     refine aZ hF hch 15 rfl (by kernel_rfl) rfl rfl rfl rfl rfl rfl fun a hF=>?_
     refine aZ hF hch 16 rfl (by kernel_rfl) rfl rfl rfl rfl rfl rfl fun a hF=>?_
     refine aZ hF hch 17 rfl (by kernel_rfl) rfl rfl rfl rfl rfl rfl fun a hF=>?_
     refine aK hF hch 18 rfl (by kernel_rfl) rfl rfl rfl (fun w hM=>(aP hF rfl rfl rfl rfl)) fun a hF=>?_
     refine bW hch (by kernel_rfl) fun w hM=>?_
     refine aB ?_
     have hP:=oI hP
     subst hP
     exact ⟨true,rfl,hF.to ⟨rfl,rfl,rfl,rfl,rfl,rfl,rfl,trivial⟩,selM hM [1,2] 3 rfl⟩
    have hP:=Fx.cF c3 hP
    refine bQ hF hch 3 rfl (by kernel_rfl) rfl rfl rfl c3 rfl rfl (fun w hM=>(aF hF rfl rfl)) fun a hF=>?_
    refine bQ hF hch 4 rfl (by kernel_rfl) rfl rfl rfl c3 rfl rfl (fun w hM=>(aF hF rfl rfl)) fun a hF=>?_
    refine bQ hF hch 5 rfl (by kernel_rfl) rfl rfl rfl c3 rfl rfl (fun w hM=>(bM (d4 _ (hsub _ (dropM hM 3))) qU23 hF rfl rfl)) fun a hF=>?_
    refine bQ hF hch 6 rfl (by kernel_rfl) rfl rfl rfl c3 rfl rfl (fun w hM=>(eS hF rfl rfl rfl)) fun a hF=>?_
    refine aK hF hch 7 rfl (by kernel_rfl) rfl rfl rfl (fun w hM=>(aX hF rfl rfl c3 rfl)) fun a hF=>?_
    refine aK hF hch 8 rfl (by kernel_rfl) rfl rfl rfl (fun w hM=>(aF hF rfl rfl)) fun a hF=>?_
    refine bE 74 hF rfl (fun c2=>?_) (fun c2=>?_)
    ·have hP:=Fx.cT c2 hP
     refine aZ hF hch 9 rfl (by kernel_rfl) rfl rfl rfl c2 rfl rfl fun a hF=>?_
     refine aZ hF hch 10 rfl (by kernel_rfl) rfl rfl rfl c2 rfl rfl fun a hF=>?_
     refine aZ hF hch 11 rfl (by kernel_rfl) rfl rfl rfl c2 rfl rfl fun a hF=>?_
     refine aZ hF hch 12 rfl (by kernel_rfl) rfl rfl rfl c2 rfl rfl fun a hF=>?_
     refine aZ hF hch 13 rfl (by kernel_rfl) rfl rfl rfl c2 rfl rfl fun a hF=>?_
     refine aZ hF hch 14 rfl (by kernel_rfl) rfl rfl rfl c2 rfl rfl fun a hF=>?_
     refine aZ hF hch 15 rfl (by kernel_rfl) rfl rfl rfl c2 rfl rfl fun a hF=>?_
     refine aZ hF hch 16 rfl (by kernel_rfl) rfl rfl rfl c2 rfl rfl fun a hF=>?_
     refine aZ hF hch 17 rfl (by kernel_rfl) rfl rfl rfl c2 rfl rfl fun a hF=>?_
     refine aK hF hch 18 rfl (by kernel_rfl) rfl rfl rfl (fun w hM=>(aP hF rfl rfl c2 rfl)) fun a hF=>?_
     refine bW hch (by kernel_rfl) fun w hM=>?_
     refine aB ?_
     have hP:=oI hP
     subst hP
     exact ⟨true,rfl,hF.to ⟨rfl,rfl,rfl,rfl,rfl,rfl,rfl,trivial⟩,selM hM [1,2] 3 rfl⟩
    have hP:=Fx.cF c2 hP
    refine bQ hF hch 9 rfl (by kernel_rfl) rfl rfl rfl c2 rfl rfl (fun w hM=>(aF hF rfl rfl)) fun a hF=>?_
    refine bQ hF hch 10 rfl (by kernel_rfl) rfl rfl rfl c2 rfl rfl (fun w hM=>(aC (off':=1) qU156 rfl in3 rfl hF rfl rfl rfl)) fun a hF=>?_
    refine bQ hF hch 11 rfl (by kernel_rfl) rfl rfl rfl c2 rfl rfl (fun w hM=>(aI qA3 hF rfl rfl (hM.cell (i:=0) rfl (RPiece.g_from_ _)))) fun a hF=>?_
    refine bQ hF hch 12 rfl (by kernel_rfl) rfl rfl rfl c2 rfl rfl (fun w hM=>(aF hF rfl rfl)) fun a hF=>?_
    obtain ⟨i7,g6,hP⟩:=bind_some hP
    refine bQ hF hch 13 rfl (by kernel_rfl) rfl rfl rfl c2 rfl rfl (fun w hM=>(eL (d4 _ (hsub _ (dropM hM 3))) g6 qU23 in5 rfl hF rfl rfl (.inr ⟨_,_,rfl,rfl⟩) (.inr ⟨_,_,rfl,rfl⟩))) fun a hF=>?_
    refine bQ hF hch 14 rfl (by kernel_rfl) rfl rfl rfl c2 rfl rfl (fun w hM=>(aC (off':=2) qU156 rfl in23 rfl hF rfl rfl rfl)) fun a hF=>?_
    refine bQ hF hch 15 rfl (by kernel_rfl) rfl rfl rfl c2 rfl rfl (fun w hM=>(aI qA23 hF rfl rfl (hM.cell (i:=0) rfl (RPiece.g_old _)))) fun a hF=>?_
    refine bC hch 16 (by kernel_rfl) rfl rfl ?_
    refine xW hF 16 rfl rfl rfl rfl rfl c2 rfl rfl fun w hMs hM=>?_
    obtain ⟨k7,hP,j6⟩:=dI hP
    refine (aN (xs:=[.tmp 79,.tmp 81]) Tryz.call168 hF rfl rfl (R:=fun v w=>∃ x,k7 = .inl x ∧ match x with | c9=>v = .bool c9 ∧ MemL w (pt c5 (RPiece.enc (mPc c4 c7 c8)) 156 :: pt c1 (RMark.enc (mMk x1 s9 s11 s13 s17)) 60 :: pt c0 (RState.enc (mSt x0 s1 s3 s7)) 54 :: Lr)) ?_ fun v w hR=>?_)
    ·refine aR Tryz.func168 rfl Tryz.ntmps168 rfl fun a hF=>?_
     refine aG ?_
     refine aD ?_
     refine aA hF (aH hF rfl rfl) rfl rfl rfl fun a hF=>?_
     refine aJ (aB ?_)
     refine aG ?_
     refine aD ?_
     refine aA hF (aF hF rfl rfl) rfl rfl rfl fun a hF=>?_
     refine aA hF (iD ((LIn.slc d4 g6 rfl) _ (hsub _ (dropM hM 3))) qU23 qU5 qU9 hF rfl rfl) rfl rfl rfl fun a hF=>?_
     refine aA hF (aF hF rfl rfl) rfl rfl rfl fun a hF=>?_
     refine aA hF (iD (i1 _ (hsub _ (dropM hM 3))) qU23 qU5 qU9 hF rfl rfl) rfl rfl rfl fun a hF=>?_
     refine aA hF (tZ (i:=i7) (j:=c4.old) hF rfl rfl rfl) rfl rfl rfl fun a hF=>?_
     refine aA hF (aH hF rfl rfl) rfl rfl rfl fun a hF=>?_
     refine aJ (aB ?_)
     refine c_ret ?_
     have hP:=oI hP
     subst hP
     refine bH Tryz.results168 hF rfl ?_
     exact ⟨(decide (i7 = c4.old)),rfl,rfl,hM⟩
    obtain ⟨c9,rfl,rfl,hM⟩:=hR
    replace hP:Sh.rC c9 = _:=j6
    unfold Sh.rC at hP
    replace hM:MemL _ (pt c5 (RPiece.enc (mPc c4 c7 c8)) 156 :: pt c1 (RMark.enc (mMk x1 s9 s11 s13 s17)) 60 :: pt c0 (RState.enc (mSt x0 s1 s3 s7)) 54 :: Lr):=hM
    have hMs:=selM hM [0,1,2] 3 rfl
    refine ⟨_,_,hMs,hM,.inl fun _ h=>h,fun a hF=>?_⟩
    refine bQ hF hch 17 rfl (by kernel_rfl) rfl rfl rfl c2 rfl rfl (fun w hM=>(dE hF rfl rfl)) fun a hF=>?_
    refine aK hF hch 18 rfl (by kernel_rfl) rfl rfl rfl (fun w hM=>(aX hF rfl rfl c2 rfl)) fun a hF=>?_
    refine bW hch (by kernel_rfl) fun w hM=>?_
    refine aB ?_
    have hP:=oI hP
    subst hP
    exact ⟨(!c9),rfl,hF.to ⟨rfl,rfl,rfl,rfl,rfl,rfl,rfl,trivial⟩,selM hM [1,2] 3 rfl⟩
   rintro g1 a w hP ⟨hF,hM⟩
   replace hP:Sh.nX c6 g1 = _:=hP
   unfold Sh.nX at hP
   refine aB ?_
   refine aV hF (c:=.tmp 84) rfl (fun d3=>?_) (fun d3=>?_)
   ·have hP:=Fx.cT d3 hP
    refine aG ?_
    refine aD ?_
    refine aA hF (aH hF rfl rfl) rfl rfl rfl fun a hF=>?_
    refine aJ (aB ?_)
    refine c_ret ?_
    have hP:=oI hP
    subst hP
    have hP:=i4 _ rfl
    subst hP
    have hP:=dB j9
    subst hP
    refine bH qR126 hF rfl ?_
    exact ⟨rfl,selM hM [] 2 rfl⟩
   have hP:=Fx.cF d3 hP
   refine aW (bK (aB ?_))
   refine aD ?_
   refine aA hF (bX hF rfl rfl rfl) rfl rfl rfl fun a hF=>?_
   refine aA hF (aF hF rfl rfl) rfl rfl rfl fun a hF=>?_
   refine aJ (aB ?_)
   have hP:=oI hP
   subst hP
   exact ⟨(IntKind.i64.wrap (c6 + 1)),rfl,hF.to ⟨rfl,rfl,rfl,rfl,rfl,rfl,trivial⟩,hM⟩
  have hP:=Fx.cF d2 hP
  refine bY (bD (bD (cJ ?_)))
  refine aB ?_
  have hP:=oI hP
  subst hP
  have hP:=i4 _ rfl
  subst hP
  exact ⟨(),rfl,hF.to ⟨rfl,rfl,rfl,trivial⟩,hM⟩
 rintro ⟨⟩ a w hP ⟨hF,hM⟩
 replace hP:Sh.rF x0 x1 = _:=hP
 unfold Sh.rF at hP
 refine aB ?_
 refine aG ?_
 refine aD ?_
 refine aA hF (aC (off':=463) qU54 rfl in3 rfl hF rfl rfl rfl) rfl rfl rfl fun a hF=>?_
 refine aA hF (aI qA3 hF rfl rfl (hM.cell (i:=1) rfl (RState.g_at_ _))) rfl rfl rfl fun a hF=>?_
 refine aA hF (aC (off':=0) qU60 rfl in3 rfl hF rfl rfl rfl) rfl rfl rfl fun a hF=>?_
 refine aA hF (aI qA3 hF rfl rfl (hM.cell (i:=0) rfl (RMark.g_at_ _))) rfl rfl rfl fun a hF=>?_
 refine aA hF (dF hF rfl rfl rfl) rfl rfl rfl fun a hF=>?_
 refine aA hF (aH hF rfl rfl) rfl rfl rfl fun a hF=>?_
 refine aJ (aB ?_)
 refine c_ret ?_
 have hP:=oI hP
 subst hP
 refine bH qR126 hF rfl ?_
 exact ⟨rfl,selM hM [] 2 rfl⟩
set_option maxHeartbeats 4000000 in
theorem kX {x0:QMark} {s1:SV} {s3:SV} {s5:SV} {hs6:List RPiece} {s9:SV} {out:QMark} {w0:World} {Bf:World → Prop} {Lr:List Res} (hP:Sh.nP x0 = some out) (hM:MemL w0 (Lr)) (hsub:∀ w,MemL w Lr → Bf w) (f2:LIn Bf s1 x0.regs) (f4:LIn Bf s3 x0.slots) (f7:LIn Bf s5 hs6) (q8:Each (QPieceIn Bf) hs6 x0.pieces) (f10:LIn Bf s9 x0.sent):Calls Tryz.prog 132 #[.agg (RMark.enc (mMk x0 s1 s3 s5 s9)).toArray] w0 (Ret fun v w'=>∃ (m9:SV) (n0:SV) (n1:SV) (l3:List RPiece) (n2:SV),v = .agg (RMark.enc (mMk out m9 n0 n1 n2)).toArray ∧ Each (QPieceIn Bf) l3 out.pieces ∧ MemL w' (rowL 0 m9 128 out.regs :: rowL 0 n0 151 out.slots :: rowL 0 n1 156 l3 :: rowL 0 n2 3 out.sent :: Lr)):=by
 unfold Sh.nP at hP
 refine aR (vs:=[.agg (RMark.enc (mMk x0 s1 s3 s5 s9)).toArray]) Tryz.func132 rfl Tryz.ntmps132 rfl fun a hF=>?_
 refine aG ?_
 refine aD ?_
 refine aO hF rfl rfl rfl (dA hF rfl rfl rfl fun c2 w t1 k2=>?_)
 have hM:=hM.plus k2
 intro a hF
 refine aO hF rfl rfl rfl (bO z60 (zs:=RMark.zero.enc) rfl rfl fun c0 w t2 k3=>?_)
 have hM:=hM.plus k3
 replace hM:MemL _ (pt c0 (RMark.enc zMk) 60 :: pt c2 (RMark.enc (mMk x0 s1 s3 s5 s9)) 60 :: Lr):=hM
 intro a hF
 refine aJ (aB ?_)
 refine aG ?_
 refine aD ?_
 refine aA hF (aC (off':=1) qU60 rfl in3 rfl hF rfl rfl rfl) rfl rfl rfl fun a hF=>?_
 refine aA hF (aI qA3 hF rfl rfl (hM.cell (i:=1) rfl (RMark.g_next _))) rfl rfl rfl fun a hF=>?_
 refine aA hF (aC (off':=0) qU60 rfl in3 rfl hF rfl rfl rfl) rfl rfl rfl fun a hF=>?_
 refine aA hF (aI qA3 hF rfl rfl (hM.cell (i:=1) rfl (RMark.g_at_ _))) rfl rfl rfl fun a hF=>?_
 refine aA hF (cE z60 qU60 pl60 hF (parts:=[(0,.tmp 11),(1,.tmp 13)]) rfl rfl (cM rfl rfl (by rw [RMark.len]; decide) (RMark.s_at_ _ _) (cM rfl rfl (by rw [RMark.len]; decide) (RMark.s_next _ _) cX))) rfl rfl rfl fun a hF=>?_
 refine aO hF rfl rfl rfl (bO z60 (zs:=RMark.zero.enc) rfl rfl fun c1 w t3 k4=>?_)
 have hM:=hM.plus k4
 replace hM:MemL _ (pt c1 (RMark.enc zMk) 60 :: pt c0 (RMark.enc zMk) 60 :: pt c2 (RMark.enc (mMk x0 s1 s3 s5 s9)) 60 :: Lr):=hM
 intro a hF
 refine bI rfl rfl (aY (vs:=_) qS60 (hM.obj (i:=0) rfl) hF rfl rfl rfl rfl (RMark.len _) (RMark.one _) (by first | (rw [RMark.len,RMark.len]; decide) | (rw [RMark.len]; decide)) (bF ((RMark.len _).trans (RMark.len _).symm)) fun w n8=>?_)
 have hM:=hM.chg n8 (i:=0) rfl
 replace hM:MemL _ (pt c1 (RMark.enc (RMark.mk x0.next x0.at_ false SV.nil SV.nil SV.nil SV.nil)) 60 :: pt c0 (RMark.enc zMk) 60 :: pt c2 (RMark.enc (mMk x0 s1 s3 s5 s9)) 60 :: Lr):=hM
 refine aJ (aB ?_)
 refine aG ?_
 refine aU hF hM hP (fun F x a w=>match x with | k8=>∃ (i9:SV),Fr 78 [(1,.pointer (some ⟨c2,0,none⟩)),(2,.pointer (some ⟨c0,0,none⟩)),(3,.pointer (some ⟨c1,0,none⟩))] a ∧ MemL w (pt c1 (RMark.enc (RMark.mk x0.next x0.at_ false i9 SV.nil SV.nil SV.nil)) 60 :: rowL 0 i9 128 k8 :: pt c0 (RMark.enc zMk) 60 :: pt c2 (RMark.enc (mMk x0 s1 s3 s5 s9)) 60 :: Lr)) (fun u1 hP t8 hF hM=>?_) ?_
 ·refine aG ?_
  refine aD ?_
  refine aA hF (aC (off':=3) qU60 rfl in56 rfl hF rfl rfl rfl) rfl rfl rfl fun a hF=>?_
  refine aA hF (aI qA56 hF rfl rfl (hM.cell (i:=2) rfl (RMark.g_regs _))) rfl rfl rfl fun a hF=>?_
  refine aA hF (bM (f2 _ (hsub _ (dropM hM 3))) qU56 hF rfl rfl) rfl rfl rfl fun a hF=>?_
  refine aA hF (aF hF rfl rfl) rfl rfl rfl fun a hF=>?_
  refine aJ (aB ?_)
  refine aT ?_
  have hM:=hM.rowNil (X:=LTurn) 0 128
  refine bU hF hM hP (fun F x a w=>match x with | (g8,j5)=>∃ (d8:SV),Fr 78 [(18,.int .i64 j5),(1,.pointer (some ⟨c2,0,none⟩)),(16,(s1).v),(17,.int .i64 (x0.regs.length:Int)),(2,.pointer (some ⟨c0,0,none⟩)),(3,.pointer (some ⟨c1,0,none⟩))] a ∧ MemL w (pt c1 (RMark.enc (RMark.mk x0.next x0.at_ false d8 SV.nil SV.nil SV.nil)) 60 :: rowL 0 d8 128 g8 :: pt c0 (RMark.enc zMk) 60 :: pt c2 (RMark.enc (mMk x0 s1 s3 s5 s9)) 60 :: Lr)) (fun hF hM=>⟨SV.nil,hF.to ⟨rfl,rfl,rfl,rfl,rfl,rfl,trivial⟩,selM hM [1,0,2,3] 4 rfl⟩) ?_
  rintro ⟨g8,j5⟩ a w u4 hP n5 ⟨d8,hF,hM⟩
  replace hP:Sh.jV x0 g8 j5 = _:=hP
  unfold Sh.jV at hP
  refine aG ?_
  refine aD ?_
  refine aA hF (cI hF rfl rfl rfl) rfl rfl rfl fun a hF=>?_
  refine aJ (aB ?_)
  refine aG ?_
  refine aV hF (c:=.tmp 19) rfl (fun i6=>?_) (fun i6=>?_)
  ·have hP:=Fx.cT i6 hP
   refine aW (aB ?_)
   refine aG ?_
   refine aT ?_
   refine aG ?_
   refine aD ?_
   obtain ⟨c9,l4,hP⟩:=bind_some hP
   have m2:=aM l4
   refine aA hF (aS (sz:=9) (f2 _ (hsub _ (dropM hM 4))) qU56 in128 rfl hF rfl rfl rfl (bG l4)) rfl rfl rfl fun a hF=>?_
   refine aA hF (aQ qA128 qS128 hF rfl rfl (LTurn.len _) (((f2 _ (hsub _ (dropM hM 4))).elemS m2.2))) rfl rfl rfl fun a hF=>?_
   refine aO hF rfl rfl rfl (bO z128 (zs:=LTurn.zero.enc) rfl rfl fun d5 w t4 k5=>?_)
   have hM:=hM.plus k5
   replace hM:MemL _ (pt d5 (LTurn.enc LTurn.zero) 128 :: pt c1 (RMark.enc (RMark.mk x0.next x0.at_ false d8 SV.nil SV.nil SV.nil)) 60 :: rowL 0 d8 128 g8 :: pt c0 (RMark.enc zMk) 60 :: pt c2 (RMark.enc (mMk x0 s1 s3 s5 s9)) 60 :: Lr):=hM
   intro a hF
   refine bI rfl rfl (aY (vs:=_) qS128 (hM.obj (i:=0) rfl) hF rfl rfl rfl rfl (LTurn.len _) (LTurn.one _) (by first | (rw [LTurn.len,LTurn.len]; decide) | (rw [LTurn.len]; decide)) (bF ((LTurn.len _).trans (LTurn.len _).symm)) fun w n9=>?_)
   have hM:=hM.chg n9 (i:=0) rfl
   replace hM:MemL _ (pt d5 (LTurn.enc c9) 128 :: pt c1 (RMark.enc (RMark.mk x0.next x0.at_ false d8 SV.nil SV.nil SV.nil)) 60 :: rowL 0 d8 128 g8 :: pt c0 (RMark.enc zMk) 60 :: pt c2 (RMark.enc (mMk x0 s1 s3 s5 s9)) 60 :: Lr):=hM
   refine aJ (aB ?_)
   refine aD ?_
   refine aA hF (aC (off':=3) qU60 rfl in56 rfl hF rfl rfl rfl) rfl rfl rfl fun a hF=>?_
   refine aA hF (aI qA56 hF rfl rfl (hM.cell (i:=1) rfl (RMark.g_regs _))) rfl rfl rfl fun a hF=>?_
   refine aA hF (aC (off':=0) qU128 rfl in3 rfl hF rfl rfl rfl) rfl rfl rfl fun a hF=>?_
   refine aA hF (aI qA3 hF rfl rfl (hM.cell (i:=0) rfl (LTurn.g_reg _))) rfl rfl rfl fun a hF=>?_
   refine aA hF (aC (off':=5) qU128 rfl in46 rfl hF rfl rfl rfl) rfl rfl rfl fun a hF=>?_
   refine aA hF (aQ qA46 qS46 hF rfl rfl (LVal.len _) (hM.cells (i:=0) rfl (LTurn.c_new _))) rfl rfl rfl fun a hF=>?_
   refine aA hF (aC (off':=1) qU128 rfl in46 rfl hF rfl rfl rfl) rfl rfl rfl fun a hF=>?_
   refine aA hF (aQ qA46 qS46 hF rfl rfl (LVal.len _) (hM.cells (i:=0) rfl (LTurn.c_old _))) rfl rfl rfl fun a hF=>?_
   refine aA hF (cE z128 qU128 pl128 hF (parts:=[(0,.tmp 25),(1,.tmp 27),(2,.tmp 29)]) rfl rfl (cM rfl rfl (by rw [LTurn.len]; decide) (LTurn.s_reg _ _) (fS rfl (LVal.len _) (by rw [LVal.len,LTurn.len]; decide) (LTurn.p_old _ _) (fS rfl (LVal.len _) (by rw [LVal.len,LTurn.len]; decide) (LTurn.p_new _ _) cX)))) rfl rfl rfl fun a hF=>?_
   refine aO hF rfl rfl rfl (cL (X:=LTurn) (y:=(LTurn.mk c9.reg c9.new c9.old)) qU56 in128 rfl rfl rfl rfl hF rfl rfl rfl fun g4 w p8 j7=>?_)
   have hM:=hM.plus j7
   replace hM:MemL _ (pt g4 (encs ([(LTurn.mk c9.reg c9.new c9.old)]:List LTurn)) 128 :: pt d5 (LTurn.enc c9) 128 :: pt c1 (RMark.enc (RMark.mk x0.next x0.at_ false d8 SV.nil SV.nil SV.nil)) 60 :: rowL 0 d8 128 g8 :: pt c0 (RMark.enc zMk) 60 :: pt c2 (RMark.enc (mMk x0 s1 s3 s5 s9)) 60 :: Lr):=hM
   intro a hF
   obtain ⟨l1,p3,hP⟩:=bind_some hP
   refine aO hF rfl rfl rfl (cY (X:=LTurn) p3 qU56 in128 rfl rfl rfl rfl hF rfl rfl rfl (hM.own (X:=LTurn) (i:=3) rfl) (hM.ptS (X:=LTurn) (i:=0) (n:=1) (c:=1) rfl rfl rfl (Nat.le_refl _)) fun j0 w m7=>?_)
   have hM:=hM.chg m7 (i:=3) rfl
   replace hM:MemL _ (pt g4 (encs ([(LTurn.mk c9.reg c9.new c9.old)]:List LTurn)) 128 :: pt d5 (LTurn.enc c9) 128 :: pt c1 (RMark.enc (RMark.mk x0.next x0.at_ false d8 SV.nil SV.nil SV.nil)) 60 :: rowL 0 j0 128 l1 :: pt c0 (RMark.enc zMk) 60 :: pt c2 (RMark.enc (mMk x0 s1 s3 s5 s9)) 60 :: Lr):=hM
   intro a hF
   refine aA hF (aC (off':=3) qU60 rfl in56 rfl hF rfl rfl rfl) rfl rfl rfl fun a hF=>?_
   refine bI rfl rfl (bS qS56 (hM.obj (i:=2) rfl) hF rfl rfl rfl rfl (by rw [RMark.len]; decide) (RMark.s_regs _ _) fun w p0=>?_)
   have hM:=hM.chg p0 (i:=2) rfl
   replace hM:MemL _ (pt g4 (encs ([(LTurn.mk c9.reg c9.new c9.old)]:List LTurn)) 128 :: pt d5 (LTurn.enc c9) 128 :: pt c1 (RMark.enc (RMark.mk x0.next x0.at_ false j0 SV.nil SV.nil SV.nil)) 60 :: rowL 0 j0 128 l1 :: pt c0 (RMark.enc zMk) 60 :: pt c2 (RMark.enc (mMk x0 s1 s3 s5 s9)) 60 :: Lr):=hM
   refine aJ (bK (aB ?_))
   refine aD ?_
   refine aA hF (bX hF rfl rfl rfl) rfl rfl rfl fun a hF=>?_
   refine aA hF (aF hF rfl rfl) rfl rfl rfl fun a hF=>?_
   refine aJ (aB ?_)
   have hP:=oI hP
   subst hP
   exact ⟨(l1,(IntKind.i64.wrap (j5 + 1))),rfl,j0,hF.to ⟨rfl,rfl,rfl,rfl,rfl,rfl,trivial⟩,selM hM [2,3,4,5] 6 rfl⟩
  have hP:=Fx.cF i6 hP
  refine bY (bD (bD (cJ ?_)))
  refine aB ?_
  have hP:=oI hP
  subst hP
  have hP:=n5 _ rfl
  subst hP
  exact ⟨g8,rfl,d8,hF.to ⟨rfl,rfl,rfl,trivial⟩,hM⟩
 rintro k8 a w hP ⟨i9,hF,hM⟩
 replace hP:Sh.oY x0 k8 = _:=hP
 unfold Sh.oY at hP
 refine aB ?_
 refine aG ?_
 refine aU hF hM hP (fun F x a w=>match x with | (k9,l0)=>∃ (j1:SV) (j2:SV),Fr 78 [(1,.pointer (some ⟨c2,0,none⟩)),(2,.pointer (some ⟨c0,0,none⟩)),(3,.pointer (some ⟨c1,0,none⟩))] a ∧ MemL w (pt c1 (RMark.enc (RMark.mk x0.next x0.at_ false j1 j2 SV.nil SV.nil)) 60 :: rowL 0 j1 128 k9 :: rowL 0 j2 151 l0 :: pt c0 (RMark.enc zMk) 60 :: pt c2 (RMark.enc (mMk x0 s1 s3 s5 s9)) 60 :: Lr)) (fun u2 hP t9 hF hM=>?_) ?_
 ·refine aG ?_
  refine aD ?_
  refine aA hF (aC (off':=4) qU60 rfl in57 rfl hF rfl rfl rfl) rfl rfl rfl fun a hF=>?_
  refine aA hF (aI qA57 hF rfl rfl (hM.cell (i:=3) rfl (RMark.g_slots _))) rfl rfl rfl fun a hF=>?_
  refine aA hF (bM (f4 _ (hsub _ (dropM hM 4))) qU57 hF rfl rfl) rfl rfl rfl fun a hF=>?_
  refine aA hF (aF hF rfl rfl) rfl rfl rfl fun a hF=>?_
  refine aJ (aB ?_)
  refine aT ?_
  have hM:=hM.rowNil (X:=LCell) 0 151
  refine bU hF hM hP (fun F x a w=>match x with | (g0,g9,j6)=>∃ (d1:SV) (d9:SV),Fr 78 [(38,.int .i64 j6),(1,.pointer (some ⟨c2,0,none⟩)),(2,.pointer (some ⟨c0,0,none⟩)),(3,.pointer (some ⟨c1,0,none⟩)),(36,(s3).v),(37,.int .i64 (x0.slots.length:Int))] a ∧ MemL w (pt c1 (RMark.enc (RMark.mk x0.next x0.at_ false d1 d9 SV.nil SV.nil)) 60 :: rowL 0 d1 128 g0 :: rowL 0 d9 151 g9 :: pt c0 (RMark.enc zMk) 60 :: pt c2 (RMark.enc (mMk x0 s1 s3 s5 s9)) 60 :: Lr)) (fun hF hM=>⟨i9,SV.nil,hF.to ⟨rfl,rfl,rfl,rfl,rfl,rfl,trivial⟩,selM hM [1,2,0,3,4] 5 rfl⟩) ?_
  rintro ⟨g0,g9,j6⟩ a w u5 hP n6 ⟨d1,d9,hF,hM⟩
  replace hP:Sh.jW x0 g0 g9 j6 = _:=hP
  unfold Sh.jW at hP
  refine aG ?_
  refine aD ?_
  refine aA hF (cI hF rfl rfl rfl) rfl rfl rfl fun a hF=>?_
  refine aJ (aB ?_)
  refine aG ?_
  refine aV hF (c:=.tmp 39) rfl (fun i7=>?_) (fun i7=>?_)
  ·have hP:=Fx.cT i7 hP
   refine aW (aB ?_)
   refine aG ?_
   refine aT ?_
   refine aG ?_
   refine aD ?_
   obtain ⟨d0,l5,hP⟩:=bind_some hP
   have m3:=aM l5
   refine aA hF (aS (sz:=27) (f4 _ (hsub _ (dropM hM 5))) qU57 in151 rfl hF rfl rfl rfl (bG l5)) rfl rfl rfl fun a hF=>?_
   refine aA hF (aQ qA151 qS151 hF rfl rfl (LCell.len _) (((f4 _ (hsub _ (dropM hM 5))).elemS m3.2))) rfl rfl rfl fun a hF=>?_
   refine aO hF rfl rfl rfl (bO z151 (zs:=LCell.zero.enc) rfl rfl fun d6 w t5 k6=>?_)
   have hM:=hM.plus k6
   replace hM:MemL _ (pt d6 (LCell.enc LCell.zero) 151 :: pt c1 (RMark.enc (RMark.mk x0.next x0.at_ false d1 d9 SV.nil SV.nil)) 60 :: rowL 0 d1 128 g0 :: rowL 0 d9 151 g9 :: pt c0 (RMark.enc zMk) 60 :: pt c2 (RMark.enc (mMk x0 s1 s3 s5 s9)) 60 :: Lr):=hM
   intro a hF
   refine bI rfl rfl (aY (vs:=_) qS151 (hM.obj (i:=0) rfl) hF rfl rfl rfl rfl (LCell.len _) (LCell.one _) (by first | (rw [LCell.len,LCell.len]; decide) | (rw [LCell.len]; decide)) (bF ((LCell.len _).trans (LCell.len _).symm)) fun w p1=>?_)
   have hM:=hM.chg p1 (i:=0) rfl
   replace hM:MemL _ (pt d6 (LCell.enc d0) 151 :: pt c1 (RMark.enc (RMark.mk x0.next x0.at_ false d1 d9 SV.nil SV.nil)) 60 :: rowL 0 d1 128 g0 :: rowL 0 d9 151 g9 :: pt c0 (RMark.enc zMk) 60 :: pt c2 (RMark.enc (mMk x0 s1 s3 s5 s9)) 60 :: Lr):=hM
   refine aJ (aB ?_)
   refine aD ?_
   refine aA hF (aC (off':=4) qU60 rfl in57 rfl hF rfl rfl rfl) rfl rfl rfl fun a hF=>?_
   refine aA hF (aI qA57 hF rfl rfl (hM.cell (i:=1) rfl (RMark.g_slots _))) rfl rfl rfl fun a hF=>?_
   refine aA hF (aC (off':=0) qU151 rfl in3 rfl hF rfl rfl rfl) rfl rfl rfl fun a hF=>?_
   refine aA hF (aI qA3 hF rfl rfl (hM.cell (i:=0) rfl (LCell.g_slot _))) rfl rfl rfl fun a hF=>?_
   refine aA hF (aC (off':=14) qU151 rfl in50 rfl hF rfl rfl rfl) rfl rfl rfl fun a hF=>?_
   refine aA hF (aQ qA50 qS50 hF rfl rfl (LSlot.len _) (hM.cells (i:=0) rfl (LCell.c_new _))) rfl rfl rfl fun a hF=>?_
   refine aA hF (aC (off':=1) qU151 rfl in50 rfl hF rfl rfl rfl) rfl rfl rfl fun a hF=>?_
   refine aA hF (aQ qA50 qS50 hF rfl rfl (LSlot.len _) (hM.cells (i:=0) rfl (LCell.c_old _))) rfl rfl rfl fun a hF=>?_
   refine aA hF (cE z151 qU151 pl151 hF (parts:=[(0,.tmp 45),(1,.tmp 47),(2,.tmp 49)]) rfl rfl (cM rfl rfl (by rw [LCell.len]; decide) (LCell.s_slot _ _) (fS rfl (LSlot.len _) (by rw [LSlot.len,LCell.len]; decide) (LCell.p_old _ _) (fS rfl (LSlot.len _) (by rw [LSlot.len,LCell.len]; decide) (LCell.p_new _ _) cX)))) rfl rfl rfl fun a hF=>?_
   refine aO hF rfl rfl rfl (cL (X:=LCell) (y:=(LCell.mk d0.slot d0.new d0.old)) qU57 in151 rfl rfl rfl rfl hF rfl rfl rfl fun g5 w p9 j8=>?_)
   have hM:=hM.plus j8
   replace hM:MemL _ (pt g5 (encs ([(LCell.mk d0.slot d0.new d0.old)]:List LCell)) 151 :: pt d6 (LCell.enc d0) 151 :: pt c1 (RMark.enc (RMark.mk x0.next x0.at_ false d1 d9 SV.nil SV.nil)) 60 :: rowL 0 d1 128 g0 :: rowL 0 d9 151 g9 :: pt c0 (RMark.enc zMk) 60 :: pt c2 (RMark.enc (mMk x0 s1 s3 s5 s9)) 60 :: Lr):=hM
   intro a hF
   obtain ⟨l2,p4,hP⟩:=bind_some hP
   refine aO hF rfl rfl rfl (cY (X:=LCell) p4 qU57 in151 rfl rfl rfl rfl hF rfl rfl rfl (hM.own (X:=LCell) (i:=4) rfl) (hM.ptS (X:=LCell) (i:=0) (n:=1) (c:=1) rfl rfl rfl (Nat.le_refl _)) fun j3 w m8=>?_)
   have hM:=hM.chg m8 (i:=4) rfl
   replace hM:MemL _ (pt g5 (encs ([(LCell.mk d0.slot d0.new d0.old)]:List LCell)) 151 :: pt d6 (LCell.enc d0) 151 :: pt c1 (RMark.enc (RMark.mk x0.next x0.at_ false d1 d9 SV.nil SV.nil)) 60 :: rowL 0 d1 128 g0 :: rowL 0 j3 151 l2 :: pt c0 (RMark.enc zMk) 60 :: pt c2 (RMark.enc (mMk x0 s1 s3 s5 s9)) 60 :: Lr):=hM
   intro a hF
   refine aA hF (aC (off':=4) qU60 rfl in57 rfl hF rfl rfl rfl) rfl rfl rfl fun a hF=>?_
   refine bI rfl rfl (bS qS57 (hM.obj (i:=2) rfl) hF rfl rfl rfl rfl (by rw [RMark.len]; decide) (RMark.s_slots _ _) fun w p2=>?_)
   have hM:=hM.chg p2 (i:=2) rfl
   replace hM:MemL _ (pt g5 (encs ([(LCell.mk d0.slot d0.new d0.old)]:List LCell)) 151 :: pt d6 (LCell.enc d0) 151 :: pt c1 (RMark.enc (RMark.mk x0.next x0.at_ false d1 j3 SV.nil SV.nil)) 60 :: rowL 0 d1 128 g0 :: rowL 0 j3 151 l2 :: pt c0 (RMark.enc zMk) 60 :: pt c2 (RMark.enc (mMk x0 s1 s3 s5 s9)) 60 :: Lr):=hM
   refine aJ (bK (aB ?_))
   refine aD ?_
   refine aA hF (bX hF rfl rfl rfl) rfl rfl rfl fun a hF=>?_
   refine aA hF (aF hF rfl rfl) rfl rfl rfl fun a hF=>?_
   refine aJ (aB ?_)
   have hP:=oI hP
   subst hP
   exact ⟨(g0,l2,(IntKind.i64.wrap (j6 + 1))),rfl,d1,j3,hF.to ⟨rfl,rfl,rfl,rfl,rfl,rfl,trivial⟩,selM hM [2,3,4,5,6] 7 rfl⟩
  have hP:=Fx.cF i7 hP
  refine bY (bD (bD (cJ ?_)))
  refine aB ?_
  have hP:=oI hP
  subst hP
  have hP:=n6 _ rfl
  subst hP
  exact ⟨(g0,g9),rfl,d1,d9,hF.to ⟨rfl,rfl,rfl,trivial⟩,hM⟩
 rintro ⟨k9,l0⟩ a w hP ⟨j1,j2,hF,hM⟩
 replace hP:Sh.oZ x0 k9 l0 = _:=hP
 unfold Sh.oZ at hP
 refine aB ?_
 refine aG ?_
 refine aU hF hM hP (fun F x a w=>match x with | (i1,i2,j4)=>∃ (g1:SV) (g2:SV) (g3:SV) (g7:List RPiece),Each (QPieceIn Bf) g7 j4 ∧ Fr 78 [(2,.pointer (some ⟨c0,0,none⟩)),(3,.pointer (some ⟨c1,0,none⟩))] a ∧ MemL w (pt c1 (RMark.enc (RMark.mk x0.next x0.at_ false g1 g2 g3 SV.nil)) 60 :: rowL 0 g1 128 i1 :: rowL 0 g2 151 i2 :: rowL 0 g3 156 g7 :: pt c0 (RMark.enc zMk) 60 :: Lr)) (fun u3 hP u0 hF hM=>?_) ?_
 ·refine aG ?_
  refine aD ?_
  refine aA hF (aC (off':=5) qU60 rfl in58 rfl hF rfl rfl rfl) rfl rfl rfl fun a hF=>?_
  refine aA hF (aI qA58 hF rfl rfl (hM.cell (i:=4) rfl (RMark.g_pieces _))) rfl rfl rfl fun a hF=>?_
  refine aA hF (cQ (f7 _ (hsub _ (dropM hM 5))) q8.len qU58 hF rfl rfl) rfl rfl rfl fun a hF=>?_
  refine aA hF (aF hF rfl rfl) rfl rfl rfl fun a hF=>?_
  refine aJ (aB ?_)
  refine aT ?_
  have p6:Each (QPieceIn Bf) ([]:List RPiece) ([]:List QPiece):=Each.nil
  have hM:=hM.rowNil (X:=RPiece) 0 156
  refine bU hF hM hP (fun F x a w=>match x with | (d3,d4,i3,i4)=>∃ (c4:SV) (c5:SV) (d2:SV) (c6:List RPiece),Each (QPieceIn Bf) c6 i3 ∧ Fr 78 [(58,.int .i64 i4),(2,.pointer (some ⟨c0,0,none⟩)),(3,.pointer (some ⟨c1,0,none⟩)),(56,(s5).v),(57,.int .i64 (x0.pieces.length:Int))] a ∧ MemL w (pt c1 (RMark.enc (RMark.mk x0.next x0.at_ false c4 c5 d2 SV.nil)) 60 :: rowL 0 c4 128 d3 :: rowL 0 c5 151 d4 :: rowL 0 d2 156 c6 :: pt c0 (RMark.enc zMk) 60 :: Lr)) (fun hF hM=>⟨j1,j2,SV.nil,[],p6,hF.to ⟨rfl,rfl,rfl,rfl,rfl,trivial⟩,selM hM [1,2,3,0,4] 6 rfl⟩) ?_
  rintro ⟨d3,d4,i3,i4⟩ a w u6 hP n7 ⟨c4,c5,d2,c6,i8,hF,hM⟩
  replace hP:Sh.jX x0 d3 d4 i3 i4 = _:=hP
  unfold Sh.jX at hP
  refine aG ?_
  refine aD ?_
  refine aA hF (cI hF rfl rfl rfl) rfl rfl rfl fun a hF=>?_
  refine aJ (aB ?_)
  refine aG ?_
  refine aV hF (c:=.tmp 59) rfl (fun i5=>?_) (fun i5=>?_)
  ·have hP:=Fx.cT i5 hP
   refine aW (aB ?_)
   refine aG ?_
   refine aT ?_
   refine aG ?_
   refine aD ?_
   obtain ⟨c3,k0,hP⟩:=bind_some hP
   have l7:=aM k0
   obtain ⟨t7,m0,m1⟩:=Each.getr q8 l7.2
   have l9:=Each.bd q8 (bG k0)
   obtain ⟨c7,c8,rfl,n3,n4⟩:=m1
   refine aA hF (aS (sz:=4) (f7 _ (hsub _ (dropM hM 5))) qU58 in156 rfl hF rfl rfl rfl l9) rfl rfl rfl fun a hF=>?_
   refine aA hF (aQ qA156 qS156 hF rfl rfl (RPiece.len _) (((f7 _ (hsub _ (dropM hM 5))).elemS m0))) rfl rfl rfl fun a hF=>?_
   refine aO hF rfl rfl rfl (bO z156 (zs:=RPiece.zero.enc) rfl rfl fun d7 w t6 k7=>?_)
   have hM:=hM.plus k7
   replace hM:MemL _ (pt d7 (RPiece.enc (RPiece.mk 0 0 SV.nil SV.nil)) 156 :: pt c1 (RMark.enc (RMark.mk x0.next x0.at_ false c4 c5 d2 SV.nil)) 60 :: rowL 0 c4 128 d3 :: rowL 0 c5 151 d4 :: rowL 0 d2 156 c6 :: pt c0 (RMark.enc zMk) 60 :: Lr):=hM
   intro a hF
   refine bI rfl rfl (aY (vs:=_) qS156 (hM.obj (i:=0) rfl) hF rfl rfl rfl rfl (RPiece.len _) (RPiece.one _) (by first | (rw [RPiece.len,RPiece.len]; decide) | (rw [RPiece.len]; decide)) (bF ((RPiece.len _).trans (RPiece.len _).symm)) fun w m4=>?_)
   have hM:=hM.chg m4 (i:=0) rfl
   replace hM:MemL _ (pt d7 (RPiece.enc (mPc c3 c7 c8)) 156 :: pt c1 (RMark.enc (RMark.mk x0.next x0.at_ false c4 c5 d2 SV.nil)) 60 :: rowL 0 c4 128 d3 :: rowL 0 c5 151 d4 :: rowL 0 d2 156 c6 :: pt c0 (RMark.enc zMk) 60 :: Lr):=hM
   refine aJ (aB ?_)
   refine aD ?_
   refine aA hF (aC (off':=5) qU60 rfl in58 rfl hF rfl rfl rfl) rfl rfl rfl fun a hF=>?_
   refine aA hF (aI qA58 hF rfl rfl (hM.cell (i:=1) rfl (RMark.g_pieces _))) rfl rfl rfl fun a hF=>?_
   refine aA hF (aC (off':=0) qU156 rfl in3 rfl hF rfl rfl rfl) rfl rfl rfl fun a hF=>?_
   refine aA hF (aI qA3 hF rfl rfl (hM.cell (i:=0) rfl (RPiece.g_table _))) rfl rfl rfl fun a hF=>?_
   refine aA hF (aC (off':=1) qU156 rfl in3 rfl hF rfl rfl rfl) rfl rfl rfl fun a hF=>?_
   refine aA hF (aI qA3 hF rfl rfl (hM.cell (i:=0) rfl (RPiece.g_from_ _))) rfl rfl rfl fun a hF=>?_
   refine aA hF (aC (off':=3) qU156 rfl in23 rfl hF rfl rfl rfl) rfl rfl rfl fun a hF=>?_
   refine aA hF (aI qA23 hF rfl rfl (hM.cell (i:=0) rfl (RPiece.g_new _))) rfl rfl rfl fun a hF=>?_
   refine aA hF (aC (off':=2) qU156 rfl in23 rfl hF rfl rfl rfl) rfl rfl rfl fun a hF=>?_
   refine aA hF (aI qA23 hF rfl rfl (hM.cell (i:=0) rfl (RPiece.g_old _))) rfl rfl rfl fun a hF=>?_
   refine aA hF (cE z156 qU156 pl156 hF (parts:=[(0,.tmp 65),(1,.tmp 67),(2,.tmp 69),(3,.tmp 71)]) rfl rfl (cM rfl rfl (by rw [RPiece.len]; decide) (RPiece.s_table _ _) (cM rfl rfl (by rw [RPiece.len]; decide) (RPiece.s_from_ _ _) (cM rfl rfl (by rw [RPiece.len]; decide) (RPiece.s_old _ _) (cM rfl rfl (by rw [RPiece.len]; decide) (RPiece.s_new _ _) cX))))) rfl rfl rfl fun a hF=>?_
   refine aO hF rfl rfl rfl (cL (X:=RPiece) (y:=(mPc c3 c8 c7)) qU58 in156 rfl rfl rfl rfl hF rfl rfl rfl fun g6 w t0 j9=>?_)
   have hM:=hM.plus j9
   replace hM:MemL _ (pt g6 (encs ([(mPc c3 c8 c7)]:List RPiece)) 156 :: pt d7 (RPiece.enc (mPc c3 c7 c8)) 156 :: pt c1 (RMark.enc (RMark.mk x0.next x0.at_ false c4 c5 d2 SV.nil)) 60 :: rowL 0 c4 128 d3 :: rowL 0 c5 151 d4 :: rowL 0 d2 156 c6 :: pt c0 (RMark.enc zMk) 60 :: Lr):=hM
   intro a hF
   obtain ⟨l6,k1,hP⟩:=bind_some hP
   refine aO hF rfl rfl rfl (fG (X:=RPiece) k1 i8.len rfl qU58 in156 rfl rfl rfl rfl hF rfl rfl rfl (hM.own (X:=RPiece) (i:=5) rfl) (hM.ptS (X:=RPiece) (i:=0) (n:=1) (c:=1) rfl rfl rfl (Nat.le_refl _)) fun i0 w l8=>?_)
   have hM:=hM.chg l8 (i:=5) rfl
   have p7:Each (QPieceIn Bf) (c6 ++ [(mPc c3 c8 c7)]) l6:=by rw [(dL k1).2]; exact i8.snoc ⟨c8,c7,rfl,n4,n3⟩
   replace hM:MemL _ (pt g6 (encs ([(mPc c3 c8 c7)]:List RPiece)) 156 :: pt d7 (RPiece.enc (mPc c3 c7 c8)) 156 :: pt c1 (RMark.enc (RMark.mk x0.next x0.at_ false c4 c5 d2 SV.nil)) 60 :: rowL 0 c4 128 d3 :: rowL 0 c5 151 d4 :: rowL 0 i0 156 (c6 ++ [(mPc c3 c8 c7)]) :: pt c0 (RMark.enc zMk) 60 :: Lr):=hM
   intro a hF
   refine aA hF (aC (off':=5) qU60 rfl in58 rfl hF rfl rfl rfl) rfl rfl rfl fun a hF=>?_
   refine bI rfl rfl (bS qS58 (hM.obj (i:=2) rfl) hF rfl rfl rfl rfl (by rw [RMark.len]; decide) (RMark.s_pieces _ _) fun w m5=>?_)
   have hM:=hM.chg m5 (i:=2) rfl
   replace hM:MemL _ (pt g6 (encs ([(mPc c3 c8 c7)]:List RPiece)) 156 :: pt d7 (RPiece.enc (mPc c3 c7 c8)) 156 :: pt c1 (RMark.enc (RMark.mk x0.next x0.at_ false c4 c5 i0 SV.nil)) 60 :: rowL 0 c4 128 d3 :: rowL 0 c5 151 d4 :: rowL 0 i0 156 (c6 ++ [(mPc c3 c8 c7)]) :: pt c0 (RMark.enc zMk) 60 :: Lr):=hM
   refine aJ (bK (aB ?_))
   refine aD ?_
   refine aA hF (bX hF rfl rfl rfl) rfl rfl rfl fun a hF=>?_
   refine aA hF (aF hF rfl rfl) rfl rfl rfl fun a hF=>?_
   refine aJ (aB ?_)
   have hP:=oI hP
   subst hP
   exact ⟨(d3,d4,l6,(IntKind.i64.wrap (i4 + 1))),rfl,c4,c5,i0,(c6 ++ [(mPc c3 c8 c7)]),p7,hF.to ⟨rfl,rfl,rfl,rfl,rfl,trivial⟩,selM hM [2,3,4,5,6] 7 rfl⟩
  have hP:=Fx.cF i5 hP
  refine bY (bD (bD (cJ ?_)))
  refine aB ?_
  have hP:=oI hP
  subst hP
  have hP:=n7 _ rfl
  subst hP
  exact ⟨(d3,d4,i3),rfl,c4,c5,d2,c6,i8,hF.to ⟨rfl,rfl,trivial⟩,hM⟩
 rintro ⟨i1,i2,j4⟩ a w hP ⟨g1,g2,g3,g7,p5,hF,hM⟩
 replace hP:Sh.sJ x0 i1 i2 j4 = _:=hP
 unfold Sh.sJ at hP
 refine aB ?_
 refine aG ?_
 refine aD ?_
 refine aA hF (aQ qA60 qS60 hF rfl rfl (RMark.len _) (hM.cells (i:=0) rfl (bA (RMark.len _)))) rfl rfl rfl fun a hF=>?_
 refine bI rfl rfl (aY (vs:=_) qS60 (hM.obj (i:=4) rfl) hF rfl rfl rfl rfl (RMark.len _) (RMark.one _) (by first | (rw [RMark.len,RMark.len]; decide) | (rw [RMark.len]; decide)) (bF ((RMark.len _).trans (RMark.len _).symm)) fun w m6=>?_)
 have hM:=hM.chg m6 (i:=4) rfl
 replace hM:MemL _ (pt c1 (RMark.enc (RMark.mk x0.next x0.at_ false g1 g2 g3 SV.nil)) 60 :: rowL 0 g1 128 i1 :: rowL 0 g2 151 i2 :: rowL 0 g3 156 g7 :: pt c0 (RMark.enc (RMark.mk x0.next x0.at_ false g1 g2 g3 SV.nil)) 60 :: Lr):=hM
 refine aJ (aB ?_)
 refine c_ret ?_
 have hM:=hM.rowNil (X:=Int) 0 3
 have hP:=oI hP
 subst hP
 refine dO (rs:=[.cell 2 60]) Tryz.results132 hF (cG hF rfl qA60 qS60 (RMark.len _) (hM.cells (i:=5) rfl (bA (RMark.len _))) cP) rfl ?_
 exact ⟨g1,g2,g3,g7,SV.nil,rfl,p5,selM hM [2,3,4,0] 6 rfl⟩
end Go.Proofs
end
section
namespace Go.Proofs
open Go.Fw Go.Fx
set_option maxRecDepth 10000
set_option maxHeartbeats 4000000 in
theorem dJ {x0:Int} {x1:Int} {x2:Int} {out:Bool} {w0:World} {Lr:List Res} (hP:Sh.bS x0 x1 x2 = some out) (hM:MemL w0 (Lr)):Calls Tryz.prog 159 #[.int .i64 x0,.int .i64 x1,.int .i64 x2] w0 (Ret fun v w'=>v = .bool out ∧ MemL w' (Lr)):=by
 unfold Sh.bS at hP
 refine aR (vs:=[.int .i64 x0,.int .i64 x1,.int .i64 x2]) Tryz.func159 rfl Tryz.ntmps159 rfl fun a hF=>?_
 refine aG ?_
 refine aD ?_
 refine aA hF (aH hF rfl rfl) rfl rfl rfl fun a hF=>?_
 refine aJ (aB ?_)
 refine aG ?_
 refine aU hF hM hP (fun F x a w=>match x with | v7=>Fr 15 [(6,.bool v7)] a ∧ MemL w (Lr)) (fun c1 hP c0 hF hM=>?_) ?_
 ·refine aD ?_
  refine aA hF (aF hF rfl rfl) rfl rfl rfl fun a hF=>?_
  refine aA hF (aF hF rfl rfl) rfl rfl rfl fun a hF=>?_
  refine aA hF (jD hF rfl rfl rfl) rfl rfl rfl fun a hF=>?_
  refine aA hF (aF hF rfl rfl) rfl rfl rfl fun a hF=>?_
  refine bE 10 hF rfl (fun hb8=>?_) (fun hb8=>?_)
  ·have hP:=Fx.cT hb8 hP
   refine aL hF rfl rfl rfl hb8 (aF hF rfl rfl) rfl rfl fun a hF=>?_
   refine aL hF rfl rfl rfl hb8 (aF hF rfl rfl) rfl rfl fun a hF=>?_
   refine aL hF rfl rfl rfl hb8 (qI hF rfl rfl rfl) rfl rfl fun a hF=>?_
   refine aA hF (aP hF rfl rfl hb8 rfl) rfl rfl rfl fun a hF=>?_
   refine aA hF (aH hF rfl rfl) rfl rfl rfl fun a hF=>?_
   refine aJ (aB ?_)
   have hP:=oI hP
   subst hP
   exact ⟨(decide (x0 ≤ x2)),rfl,hF.to ⟨rfl,trivial⟩,hM⟩
  have hP:=Fx.cF hb8 hP
  refine aE hF rfl rfl rfl hb8 rfl rfl fun a hF=>?_
  refine aE hF rfl rfl rfl hb8 rfl rfl fun a hF=>?_
  refine aE hF rfl rfl rfl hb8 rfl rfl fun a hF=>?_
  refine aA hF (aX hF rfl rfl hb8 rfl) rfl rfl rfl fun a hF=>?_
  refine aA hF (aH hF rfl rfl) rfl rfl rfl fun a hF=>?_
  refine aJ (aB ?_)
  have hP:=oI hP
  subst hP
  exact ⟨false,rfl,hF.to ⟨rfl,trivial⟩,hM⟩
 rintro v7 a w hP ⟨hF,hM⟩
 replace hP:Sh.oQ v7 = _:=hP
 unfold Sh.oQ at hP
 refine aB ?_
 refine c_ret ?_
 have hP:=oI hP
 subst hP
 refine bH Tryz.results159 hF rfl ?_
 exact ⟨rfl,hM⟩
set_option maxHeartbeats 4000000 in
theorem iV {x0:QInput} {s1:SV} {s3:SV} {hs4:List SV} {out:Bool} {w0:World} {Bf:World → Prop} {Lr:List Res} (hP:Sh.iI x0 = some out) (hM:MemL w0 (Lr)) (hsub:∀ w,MemL w Lr → Bf w) (f2:LIn Bf s1 x0.ctx) (f5:LIn Bf s3 hs4) (q6:Each (LIn (X:=UInt8) Bf) hs4 x0.tables):Calls Tryz.prog 105 #[.agg (RInput.enc (RInput.mk s1 s3)).toArray] w0 (Ret fun v w'=>v = .bool out ∧ MemL w' (Lr)):=by
 unfold Sh.iI at hP
 refine aR (vs:=[.agg (RInput.enc (RInput.mk s1 s3)).toArray]) Tryz.func105 rfl Tryz.ntmps105 rfl fun a hF=>?_
 refine aG ?_
 refine aD ?_
 refine aO hF rfl rfl rfl (dA hF rfl rfl rfl fun c0 w d2 c4=>?_)
 have hM:=hM.plus c4
 replace hM:MemL _ (pt c0 (RInput.enc (RInput.mk s1 s3)) 30 :: Lr):=hM
 intro a hF
 refine aA hF (aH hF rfl rfl) rfl rfl rfl fun a hF=>?_
 refine aJ (aB ?_)
 refine aG ?_
 refine aG ?_
 refine aU hF hM hP (fun F x a w=>match x with | v84=>Fr 28 [(13,.bool v84),(1,.pointer (some ⟨c0,0,none⟩)),(2,.bool false)] a ∧ MemL w (pt c0 (RInput.enc (RInput.mk s1 s3)) 30 :: Lr)) (fun d5 hP d3 hF hM=>?_) ?_
 ·refine aD ?_
  refine aA hF (aC (off':=0) qU30 rfl in23 rfl hF rfl rfl rfl) rfl rfl rfl fun a hF=>?_
  refine aA hF (aI qA23 hF rfl rfl (hM.cell (i:=0) rfl (RInput.g_ctx _))) rfl rfl rfl fun a hF=>?_
  refine aA hF (bM (f2 _ (hsub _ (dropM hM 1))) qU23 hF rfl rfl) rfl rfl rfl fun a hF=>?_
  refine aA hF (eS hF rfl rfl rfl) rfl rfl rfl fun a hF=>?_
  refine aA hF (aF hF rfl rfl) rfl rfl rfl fun a hF=>?_
  refine bE 8 hF rfl (fun hb85=>?_) (fun hb85=>?_)
  ·have hP:=Fx.cT hb85 hP
   refine aE hF rfl rfl rfl hb85 rfl rfl fun a hF=>?_
   refine aE hF rfl rfl rfl hb85 rfl rfl fun a hF=>?_
   refine aE hF rfl rfl rfl hb85 rfl rfl fun a hF=>?_
   refine aE hF rfl rfl rfl hb85 rfl rfl fun a hF=>?_
   refine aA hF (aP hF rfl rfl hb85 rfl) rfl rfl rfl fun a hF=>?_
   refine aJ (aB ?_)
   have hP:=oI hP
   subst hP
   exact ⟨true,rfl,hF.to ⟨rfl,rfl,rfl,trivial⟩,hM⟩
  have hP:=Fx.cF hb85 hP
  refine aL hF rfl rfl rfl hb85 (aC (off':=1) qU30 rfl in28 rfl hF rfl rfl rfl) rfl rfl fun a hF=>?_
  refine aL hF rfl rfl rfl hb85 (aI qA28 hF rfl rfl (hM.cell (i:=0) rfl (RInput.g_tables _))) rfl rfl fun a hF=>?_
  refine aL hF rfl rfl rfl hb85 (cQ (f5 _ (hsub _ (dropM hM 1))) q6.len qU28 hF rfl rfl) rfl rfl fun a hF=>?_
  refine aL hF rfl rfl rfl hb85 (eS hF rfl rfl rfl) rfl rfl fun a hF=>?_
  refine aA hF (aX hF rfl rfl hb85 rfl) rfl rfl rfl fun a hF=>?_
  refine aJ (aB ?_)
  have hP:=oI hP
  subst hP
  exact ⟨(decide (8 < (x0.tables.length:Int))),rfl,hF.to ⟨rfl,rfl,rfl,trivial⟩,hM⟩
 rintro v84 a w hP ⟨hF,hM⟩
 replace hP:Sh.gB x0 v84 = _:=hP
 unfold Sh.gB at hP
 refine aB ?_
 refine aV hF (c:=.tmp 13) rfl (fun hb86=>?_) (fun hb86=>?_)
 ·have hP:=Fx.cT hb86 hP
  refine aG ?_
  refine aD ?_
  refine aA hF (aH hF rfl rfl) rfl rfl rfl fun a hF=>?_
  refine aJ (aB ?_)
  refine c_ret ?_
  have hP:=oI hP
  subst hP
  refine bH Tryz.results105 hF rfl ?_
  exact ⟨rfl,selM hM [] 1 rfl⟩
 have hP:=Fx.cF hb86 hP
 refine aW (aB ?_)
 refine aG ?_
 refine aU hF hM hP (fun F x a w=>match x with | _=>Fr 28 [(2,.bool false)] a ∧ MemL w (Lr)) (fun d6 hP d1 hF hM=>?_) ?_
 ·refine aG ?_
  refine aD ?_
  refine aA hF (aH hF rfl rfl) rfl rfl rfl fun a hF=>?_
  refine aJ (aB ?_)
  refine aT ?_
  refine bU hF hM hP (fun F x a w=>match x with | c3=>Fr 28 [(3,.int .i64 c3),(1,.pointer (some ⟨c0,0,none⟩)),(2,.bool false)] a ∧ MemL w (pt c0 (RInput.enc (RInput.mk s1 s3)) 30 :: Lr)) (fun hF hM=>⟨hF.to ⟨rfl,rfl,rfl,trivial⟩,hM⟩) ?_
  rintro c3 a w d7 hP c5 ⟨hF,hM⟩
  replace hP:Sh.eI x0 c3 = _:=hP
  unfold Sh.eI at hP
  refine aG ?_
  refine aG ?_
  refine aD ?_
  refine aA hF (aF hF rfl rfl) rfl rfl rfl fun a hF=>?_
  refine aA hF (aC (off':=1) qU30 rfl in28 rfl hF rfl rfl rfl) rfl rfl rfl fun a hF=>?_
  refine aA hF (aI qA28 hF rfl rfl (hM.cell (i:=0) rfl (RInput.g_tables _))) rfl rfl rfl fun a hF=>?_
  refine aA hF (cQ (f5 _ (hsub _ (dropM hM 1))) q6.len qU28 hF rfl rfl) rfl rfl rfl fun a hF=>?_
  refine aA hF (cI hF rfl rfl rfl) rfl rfl rfl fun a hF=>?_
  refine aJ (aB ?_)
  refine aV hF (c:=.tmp 18) rfl (fun c1=>?_) (fun c1=>?_)
  ·have hP:=Fx.cT c1 hP
   refine aW (aB ?_)
   refine aG ?_
   refine aT ?_
   refine aG ?_
   refine aD ?_
   refine aA hF (aC (off':=1) qU30 rfl in28 rfl hF rfl rfl rfl) rfl rfl rfl fun a hF=>?_
   refine aA hF (aI qA28 hF rfl rfl (hM.cell (i:=0) rfl (RInput.g_tables _))) rfl rfl rfl fun a hF=>?_
   refine aA hF (aF hF rfl rfl) rfl rfl rfl fun a hF=>?_
   obtain ⟨d8,c6,hP⟩:=bind_some hP
   have c7:=aM c6
   obtain ⟨d4,c9,d0⟩:=Each.getr q6 c7.2
   have c8:=Each.bd q6 (bG c6)
   refine aA hF (aS (sz:=1) (f5 _ (hsub _ (dropM hM 1))) qU28 in23 rfl hF rfl rfl rfl c8) rfl rfl rfl fun a hF=>?_
   refine aA hF (aI qA23 hF rfl rfl ((((f5 _ (hsub _ (dropM hM 1))).elemS c9)).get 0 rfl)) rfl rfl rfl fun a hF=>?_
   refine aA hF (bM (d0 _ (hsub _ (dropM hM 1))) qU23 hF rfl rfl) rfl rfl rfl fun a hF=>?_
   refine aA hF (eS hF rfl rfl rfl) rfl rfl rfl fun a hF=>?_
   refine aJ (aB ?_)
   refine aV hF (c:=.tmp 27) rfl (fun c2=>?_) (fun c2=>?_)
   ·have hP:=Fx.cT c2 hP
    refine aG ?_
    refine aD ?_
    refine aA hF (aH hF rfl rfl) rfl rfl rfl fun a hF=>?_
    refine aJ (aB ?_)
    refine c_ret ?_
    have hP:=oI hP
    subst hP
    have hP:=c5 _ rfl
    subst hP
    have hP:=dB d1
    subst hP
    refine bH Tryz.results105 hF rfl ?_
    exact ⟨rfl,selM hM [] 1 rfl⟩
   have hP:=Fx.cF c2 hP
   refine aW (bK (aB ?_))
   refine aD ?_
   refine aA hF (aF hF rfl rfl) rfl rfl rfl fun a hF=>?_
   refine aA hF (bX hF rfl rfl rfl) rfl rfl rfl fun a hF=>?_
   refine aA hF (aH hF rfl rfl) rfl rfl rfl fun a hF=>?_
   refine aJ (aB ?_)
   have hP:=oI hP
   subst hP
   exact ⟨(IntKind.i64.wrap (c3 + 1)),rfl,hF.to ⟨rfl,rfl,rfl,trivial⟩,hM⟩
  have hP:=Fx.cF c1 hP
  refine bY (bD (bD (cJ ?_)))
  refine aB ?_
  have hP:=oI hP
  subst hP
  have hP:=c5 _ rfl
  subst hP
  exact ⟨(),rfl,hF.to ⟨rfl,trivial⟩,selM hM [] 1 rfl⟩
 rintro ⟨⟩ a w hP ⟨hF,hM⟩
 replace hP:Sh.oI = _:=hP
 unfold Sh.oI at hP
 refine aB ?_
 refine aG ?_
 refine aD ?_
 refine aA hF (aH hF rfl rfl) rfl rfl rfl fun a hF=>?_
 refine aJ (aB ?_)
 refine c_ret ?_
 have hP:=oI hP
 subst hP
 refine bH Tryz.results105 hF rfl ?_
 exact ⟨rfl,hM⟩
set_option maxHeartbeats 4000000 in
theorem eX {x0:QState} {s1:SV} {s3:SV} {hs4:List SV} {s7:SV} {out:Bool} {w0:World} {Bf:World → Prop} {Lr:List Res} (hP:Sh.fB x0 = some out) (hM:MemL w0 (Lr)) (hsub:∀ w,MemL w Lr → Bf w) (f2:LIn Bf s1 x0.ctx) (f5:LIn Bf s3 hs4) (q6:Each (LIn (X:=UInt8) Bf) hs4 x0.tables) (f8:LIn Bf s7 x0.sent):Calls Tryz.prog 87 #[.agg (RState.enc (mSt x0 s1 s3 s7)).toArray] w0 (Ret fun v w'=>v = .bool out ∧ MemL w' (Lr)):=by
 unfold Sh.fB at hP
 refine aR (vs:=[.agg (RState.enc (mSt x0 s1 s3 s7)).toArray]) Tryz.func87 rfl Tryz.ntmps87 rfl fun a hF=>?_
 refine aG ?_
 refine aD ?_
 refine aO hF rfl rfl rfl (dA hF rfl rfl rfl fun c0 w c2 c1=>?_)
 have hM:=hM.plus c1
 replace hM:MemL _ (pt c0 (RState.enc (mSt x0 s1 s3 s7)) 54 :: Lr):=hM
 intro a hF
 refine aA hF (aH hF rfl rfl) rfl rfl rfl fun a hF=>?_
 refine aJ (aB ?_)
 refine aG ?_
 refine aU hF hM hP (fun F x a w=>match x with | v50=>Fr 19 [(2,.bool v50)] a ∧ MemL w (Lr)) (fun c4 hP c3 hF hM=>?_) ?_
 ·refine aD ?_
  refine aA hF (aC (off':=463) qU54 rfl in3 rfl hF rfl rfl rfl) rfl rfl rfl fun a hF=>?_
  refine aA hF (aI qA3 hF rfl rfl (hM.cell (i:=0) rfl (RState.g_at_ _))) rfl rfl rfl fun a hF=>?_
  obtain ⟨y52,hy52,hP⟩:=bind_some hP
  refine aO hF rfl rfl rfl (aN (xs:=[.tmp 4,.const (.int .i64 (0)),.const (.int .i64 (4095))]) qC159 hF rfl rfl (dJ hy52 hM ) fun v w hR=>?_)
  obtain ⟨rfl,hM⟩:=hR
  replace hM:MemL _ (pt c0 (RState.enc (mSt x0 s1 s3 s7)) 54 :: Lr):=hM
  intro a hF
  refine aA hF (aF hF rfl rfl) rfl rfl rfl fun a hF=>?_
  refine bE 6 hF rfl (fun hb53=>?_) (fun hb53=>?_)
  ·have hP:=Fx.cT hb53 hP
   refine aL hF rfl rfl rfl hb53 (aC (off':=464) qU54 rfl in3 rfl hF rfl rfl rfl) rfl rfl fun a hF=>?_
   refine aL hF rfl rfl rfl hb53 (aI qA3 hF rfl rfl (hM.cell (i:=0) rfl (RState.g_steps _))) rfl rfl fun a hF=>?_
   obtain ⟨y55,hy55,hP⟩:=bind_some hP
   refine dV hF rfl rfl rfl hb53 rfl rfl (aN (xs:=[.tmp 8,.const (.int .i64 (0)),.const (.int .i64 (4294967296))]) qC159 hF rfl rfl (dJ hy55 hM ) fun v w hR=>?_)
   obtain ⟨rfl,hM⟩:=hR
   replace hM:MemL _ (pt c0 (RState.enc (mSt x0 s1 s3 s7)) 54 :: Lr):=hM
   intro a hF
   refine aA hF (aP hF rfl rfl hb53 rfl) rfl rfl rfl fun a hF=>?_
   refine aA hF (aF hF rfl rfl) rfl rfl rfl fun a hF=>?_
   refine bE 11 hF rfl (fun hb56=>?_) (fun hb56=>?_)
   ·have hP:=Fx.cT hb56 hP
    refine aL hF rfl rfl rfl hb56 (aC (off':=460) qU54 rfl in23 rfl hF rfl rfl rfl) rfl rfl fun a hF=>?_
    refine aL hF rfl rfl rfl hb56 (aI qA23 hF rfl rfl (hM.cell (i:=0) rfl (RState.g_ctx _))) rfl rfl fun a hF=>?_
    refine aL hF rfl rfl rfl hb56 (aC (off':=461) qU54 rfl in28 rfl hF rfl rfl rfl) rfl rfl fun a hF=>?_
    refine aL hF rfl rfl rfl hb56 (aI qA28 hF rfl rfl (hM.cell (i:=0) rfl (RState.g_tables _))) rfl rfl fun a hF=>?_
    refine aL hF rfl rfl rfl hb56 (cE z30 qU30 pl30 hF (parts:=[(0,.tmp 13),(1,.tmp 15)]) rfl rfl (cM rfl rfl (by rw [RInput.len]; decide) (RInput.s_ctx _ _) (cM rfl rfl (by rw [RInput.len]; decide) (RInput.s_tables _ _) cX))) rfl rfl fun a hF=>?_
    obtain ⟨y58,hy58,hP⟩:=bind_some hP
    refine dV hF rfl rfl rfl hb56 rfl rfl (aN (xs:=[.tmp 16]) Tryz.call105 hF rfl rfl (iV hy58 hM (Bf:=Bf) (fun w hM=>hsub _ (dropM hM 1)) f2 f5 q6) fun v w hR=>?_)
    obtain ⟨rfl,hM⟩:=hR
    replace hM:MemL _ (pt c0 (RState.enc (mSt x0 s1 s3 s7)) 54 :: Lr):=hM
    intro a hF
    refine aA hF (aP hF rfl rfl hb56 rfl) rfl rfl rfl fun a hF=>?_
    refine aA hF (aH hF rfl rfl) rfl rfl rfl fun a hF=>?_
    refine aJ (aB ?_)
    have hP:=oI hP
    subst hP
    exact ⟨y58,rfl,hF.to ⟨rfl,trivial⟩,selM hM [] 1 rfl⟩
   have hP:=Fx.cF hb56 hP
   refine aE hF rfl rfl rfl hb56 rfl rfl fun a hF=>?_
   refine aE hF rfl rfl rfl hb56 rfl rfl fun a hF=>?_
   refine aE hF rfl rfl rfl hb56 rfl rfl fun a hF=>?_
   refine aE hF rfl rfl rfl hb56 rfl rfl fun a hF=>?_
   refine aE hF rfl rfl rfl hb56 rfl rfl fun a hF=>?_
   refine aE hF rfl rfl rfl hb56 rfl rfl fun a hF=>?_
   refine aA hF (aX hF rfl rfl hb56 rfl) rfl rfl rfl fun a hF=>?_
   refine aA hF (aH hF rfl rfl) rfl rfl rfl fun a hF=>?_
   refine aJ (aB ?_)
   have hP:=oI hP
   subst hP
   exact ⟨false,rfl,hF.to ⟨rfl,trivial⟩,selM hM [] 1 rfl⟩
  have hP:=Fx.cF hb53 hP
  refine aE hF rfl rfl rfl hb53 rfl rfl fun a hF=>?_
  refine aE hF rfl rfl rfl hb53 rfl rfl fun a hF=>?_
  refine aE hF rfl rfl rfl hb53 rfl rfl fun a hF=>?_
  refine aA hF (aX hF rfl rfl hb53 rfl) rfl rfl rfl fun a hF=>?_
  refine aA hF (aF hF rfl rfl) rfl rfl rfl fun a hF=>?_
  refine aE hF rfl rfl rfl rfl rfl rfl fun a hF=>?_
  refine aE hF rfl rfl rfl rfl rfl rfl fun a hF=>?_
  refine aE hF rfl rfl rfl rfl rfl rfl fun a hF=>?_
  refine aE hF rfl rfl rfl rfl rfl rfl fun a hF=>?_
  refine aE hF rfl rfl rfl rfl rfl rfl fun a hF=>?_
  refine aE hF rfl rfl rfl rfl rfl rfl fun a hF=>?_
  refine aA hF (aX hF rfl rfl rfl rfl) rfl rfl rfl fun a hF=>?_
  refine aA hF (aH hF rfl rfl) rfl rfl rfl fun a hF=>?_
  refine aJ (aB ?_)
  have hP:=oI hP
  subst hP
  exact ⟨false,rfl,hF.to ⟨rfl,trivial⟩,selM hM [] 1 rfl⟩
 rintro v50 a w hP ⟨hF,hM⟩
 replace hP:Sh.lR v50 = _:=hP
 unfold Sh.lR at hP
 refine aB ?_
 refine c_ret ?_
 have hP:=oI hP
 subst hP
 refine bH Tryz.results87 hF rfl ?_
 exact ⟨rfl,hM⟩
set_option maxHeartbeats 4000000 in
theorem pK {x0:List QPiece} {s1:SV} {hs2:List RPiece} {out:Bool} {w0:World} {Bf:World → Prop} {Lr:List Res} (hP:Sh.pC x0 = some out) (hM:MemL w0 (Lr)) (hsub:∀ w,MemL w Lr → Bf w) (f3:LIn Bf s1 hs2) (q4:Each (QPieceIn Bf) hs2 x0):Calls Tryz.prog 198 #[(s1).v] w0 (Ret fun v w'=>v = .bool out ∧ MemL w' (Lr)):=by
 unfold Sh.pC at hP
 refine aR (vs:=[(s1).v]) Tryz.func198 rfl Tryz.ntmps198 rfl fun a hF=>?_
 refine aG ?_
 refine aD ?_
 refine aA hF (aH hF rfl rfl) rfl rfl rfl fun a hF=>?_
 refine aJ (aB ?_)
 refine aG ?_
 refine aU hF hM hP (fun F x a w=>match x with | _=>Fr 99 [(2,.bool false)] a ∧ MemL w (Lr)) (fun l3 hP g9 hF hM=>?_) ?_
 ·refine aG ?_
  refine aD ?_
  refine aA hF (aH hF rfl rfl) rfl rfl rfl fun a hF=>?_
  refine aJ (aB ?_)
  refine aT ?_
  refine bU hF hM hP (fun F x a w=>match x with | c8=>Fr 99 [(3,.int .i64 c8),(0,(s1).v),(2,.bool false)] a ∧ MemL w (Lr)) (fun hF hM=>⟨hF.to ⟨rfl,rfl,rfl,trivial⟩,hM⟩) ?_
  rintro c8 a w l8 hP d9 ⟨hF,hM⟩
  replace hP:Sh.eL x0 c8 = _:=hP
  unfold Sh.eL at hP
  refine aG ?_
  refine aG ?_
  refine aD ?_
  refine aA hF (aF hF rfl rfl) rfl rfl rfl fun a hF=>?_
  refine aA hF (aF hF rfl rfl) rfl rfl rfl fun a hF=>?_
  refine aA hF (cQ (f3 _ (hsub _ (dropM hM 0))) q4.len qU58 hF rfl rfl) rfl rfl rfl fun a hF=>?_
  refine aA hF (cI hF rfl rfl rfl) rfl rfl rfl fun a hF=>?_
  refine aJ (aB ?_)
  refine aV hF (c:=.tmp 10) rfl (fun g2=>?_) (fun g2=>?_)
  ·have hP:=Fx.cT g2 hP
   refine aW (aB ?_)
   refine aG ?_
   refine aU hF hM hP (fun F x a w=>match x with | _=>Fr 99 [(0,(s1).v),(2,.bool false),(3,.int .i64 c8)] a ∧ MemL w (Lr)) (fun l4 hP i0 hF hM=>?_) ?_
   ·refine aT ?_
    refine aG ?_
    refine aD ?_
    refine aA hF (aF hF rfl rfl) rfl rfl rfl fun a hF=>?_
    refine aA hF (aF hF rfl rfl) rfl rfl rfl fun a hF=>?_
    obtain ⟨c4,g5,hP⟩:=bind_some hP
    have i1:=aM g5
    obtain ⟨k4,i9,j1⟩:=Each.getr q4 i1.2
    have i7:=Each.bd q4 (bG g5)
    obtain ⟨c9,d0,rfl,d1,g1⟩:=j1
    refine aA hF (aS (sz:=4) (f3 _ (hsub _ (dropM hM 0))) qU58 in156 rfl hF rfl rfl rfl i7) rfl rfl rfl fun a hF=>?_
    refine aA hF (aQ qA156 qS156 hF rfl rfl (RPiece.len _) (((f3 _ (hsub _ (dropM hM 0))).elemS i9))) rfl rfl rfl fun a hF=>?_
    refine aO hF rfl rfl rfl (bO z156 (zs:=RPiece.zero.enc) rfl rfl fun c5 w k2 i5=>?_)
    have hM:=hM.plus i5
    replace hM:MemL _ (pt c5 (RPiece.enc (RPiece.mk 0 0 SV.nil SV.nil)) 156 :: Lr):=hM
    intro a hF
    refine bI rfl rfl (aY (vs:=_) qS156 (hM.obj (i:=0) rfl) hF rfl rfl rfl rfl (RPiece.len _) (RPiece.one _) (by first | (rw [RPiece.len,RPiece.len]; decide) | (rw [RPiece.len]; decide)) (bF ((RPiece.len _).trans (RPiece.len _).symm)) fun w j4=>?_)
    have hM:=hM.chg j4 (i:=0) rfl
    replace hM:MemL _ (pt c5 (RPiece.enc (mPc c4 c9 d0)) 156 :: Lr):=hM
    refine aJ (aB ?_)
    refine aG ?_
    refine aG ?_
    refine aU hF hM hP (fun F x a w=>match x with | g3=>Fr 99 [(50,.bool g3),(0,(s1).v),(2,.bool false),(3,.int .i64 c8),(4,.pointer (some ⟨c5,0,none⟩))] a ∧ MemL w (pt c5 (RPiece.enc (mPc c4 c9 d0)) 156 :: Lr)) (fun l5 hP l1 hF hM=>?_) ?_
    ·refine aD ?_
     refine aA hF (aC (off':=0) qU156 rfl in3 rfl hF rfl rfl rfl) rfl rfl rfl fun a hF=>?_
     refine aA hF (aI qA3 hF rfl rfl (hM.cell (i:=0) rfl (RPiece.g_table _))) rfl rfl rfl fun a hF=>?_
     obtain ⟨k9,j6,hP⟩:=bind_some hP
     refine aO hF rfl rfl rfl (aN (xs:=[.tmp 18,.const (.int .i64 (-1)),.const (.int .i64 (7))]) qC159 hF rfl rfl (dJ j6 hM ) fun v w hR=>?_)
     obtain ⟨rfl,hM⟩:=hR
     replace hM:MemL _ (pt c5 (RPiece.enc (mPc c4 c9 d0)) 156 :: Lr):=hM
     intro a hF
     refine aA hF (dE hF rfl rfl) rfl rfl rfl fun a hF=>?_
     refine aA hF (aF hF rfl rfl) rfl rfl rfl fun a hF=>?_
     refine bE 21 hF rfl (fun c6=>?_) (fun c6=>?_)
     ·have hP:=Fx.cT c6 hP
      refine aE hF rfl rfl rfl c6 rfl rfl fun a hF=>?_
      refine aE hF rfl rfl rfl c6 rfl rfl fun a hF=>?_
      refine aE hF rfl rfl rfl c6 rfl rfl fun a hF=>?_
      refine aE hF rfl rfl rfl c6 rfl rfl fun a hF=>?_
      refine aA hF (aP hF rfl rfl c6 rfl) rfl rfl rfl fun a hF=>?_
      refine aA hF (aF hF rfl rfl) rfl rfl rfl fun a hF=>?_
      refine aE hF rfl rfl rfl rfl rfl rfl fun a hF=>?_
      refine aE hF rfl rfl rfl rfl rfl rfl fun a hF=>?_
      refine aE hF rfl rfl rfl rfl rfl rfl fun a hF=>?_
      refine aE hF rfl rfl rfl rfl rfl rfl fun a hF=>?_
      refine aE hF rfl rfl rfl rfl rfl rfl fun a hF=>?_
      refine aE hF rfl rfl rfl rfl rfl rfl fun a hF=>?_
      refine aE hF rfl rfl rfl rfl rfl rfl fun a hF=>?_
      refine aA hF (aP hF rfl rfl rfl rfl) rfl rfl rfl fun a hF=>?_
      refine aA hF (aF hF rfl rfl) rfl rfl rfl fun a hF=>?_
      refine aE hF rfl rfl rfl rfl rfl rfl fun a hF=>?_
      refine aE hF rfl rfl rfl rfl rfl rfl fun a hF=>?_
      refine aE hF rfl rfl rfl rfl rfl rfl fun a hF=>?_
      refine aE hF rfl rfl rfl rfl rfl rfl fun a hF=>?_
      refine aA hF (aP hF rfl rfl rfl rfl) rfl rfl rfl fun a hF=>?_
      refine aA hF (aF hF rfl rfl) rfl rfl rfl fun a hF=>?_
      refine aE hF rfl rfl rfl rfl rfl rfl fun a hF=>?_
      refine aE hF rfl rfl rfl rfl rfl rfl fun a hF=>?_
      refine aE hF rfl rfl rfl rfl rfl rfl fun a hF=>?_
      refine aE hF rfl rfl rfl rfl rfl rfl fun a hF=>?_
      refine aE hF rfl rfl rfl rfl rfl rfl fun a hF=>?_
      refine aE hF rfl rfl rfl rfl rfl rfl fun a hF=>?_
      refine aE hF rfl rfl rfl rfl rfl rfl fun a hF=>?_
      refine aA hF (aP hF rfl rfl rfl rfl) rfl rfl rfl fun a hF=>?_
      refine aJ (aB ?_)
      have hP:=oI hP
      subst hP
      exact ⟨true,rfl,hF.to ⟨rfl,rfl,rfl,rfl,rfl,trivial⟩,hM⟩
     have hP:=Fx.cF c6 hP
     refine aL hF rfl rfl rfl c6 (aC (off':=1) qU156 rfl in3 rfl hF rfl rfl rfl) rfl rfl fun a hF=>?_
     refine aL hF rfl rfl rfl c6 (aI qA3 hF rfl rfl (hM.cell (i:=0) rfl (RPiece.g_from_ _))) rfl rfl fun a hF=>?_
     obtain ⟨l0,j7,hP⟩:=bind_some hP
     refine dV hF rfl rfl rfl c6 rfl rfl (aN (xs:=[.tmp 23,.const (.int .i64 (0)),.const (.int .i64 (65535))]) qC159 hF rfl rfl (dJ j7 hM ) fun v w hR=>?_)
     obtain ⟨rfl,hM⟩:=hR
     replace hM:MemL _ (pt c5 (RPiece.enc (mPc c4 c9 d0)) 156 :: Lr):=hM
     intro a hF
     refine aL hF rfl rfl rfl c6 (dE hF rfl rfl) rfl rfl fun a hF=>?_
     refine aA hF (aX hF rfl rfl c6 rfl) rfl rfl rfl fun a hF=>?_
     refine aA hF (aF hF rfl rfl) rfl rfl rfl fun a hF=>?_
     refine bE 27 hF rfl (fun c2=>?_) (fun c2=>?_)
     ·have hP:=Fx.cT c2 hP
      refine aE hF rfl rfl rfl c2 rfl rfl fun a hF=>?_
      refine aE hF rfl rfl rfl c2 rfl rfl fun a hF=>?_
      refine aE hF rfl rfl rfl c2 rfl rfl fun a hF=>?_
      refine aE hF rfl rfl rfl c2 rfl rfl fun a hF=>?_
      refine aE hF rfl rfl rfl c2 rfl rfl fun a hF=>?_
      refine aE hF rfl rfl rfl c2 rfl rfl fun a hF=>?_
      refine aE hF rfl rfl rfl c2 rfl rfl fun a hF=>?_
      refine aA hF (aP hF rfl rfl c2 rfl) rfl rfl rfl fun a hF=>?_
      refine aA hF (aF hF rfl rfl) rfl rfl rfl fun a hF=>?_
      refine aE hF rfl rfl rfl rfl rfl rfl fun a hF=>?_
      refine aE hF rfl rfl rfl rfl rfl rfl fun a hF=>?_
      refine aE hF rfl rfl rfl rfl rfl rfl fun a hF=>?_
      refine aE hF rfl rfl rfl rfl rfl rfl fun a hF=>?_
      refine aA hF (aP hF rfl rfl rfl rfl) rfl rfl rfl fun a hF=>?_
      refine aA hF (aF hF rfl rfl) rfl rfl rfl fun a hF=>?_
      refine aE hF rfl rfl rfl rfl rfl rfl fun a hF=>?_
      refine aE hF rfl rfl rfl rfl rfl rfl fun a hF=>?_
      refine aE hF rfl rfl rfl rfl rfl rfl fun a hF=>?_
      refine aE hF rfl rfl rfl rfl rfl rfl fun a hF=>?_
      refine aE hF rfl rfl rfl rfl rfl rfl fun a hF=>?_
      refine aE hF rfl rfl rfl rfl rfl rfl fun a hF=>?_
      refine aE hF rfl rfl rfl rfl rfl rfl fun a hF=>?_
      refine aA hF (aP hF rfl rfl rfl rfl) rfl rfl rfl fun a hF=>?_
      refine aJ (aB ?_)
      have hP:=oI hP
      subst hP
      exact ⟨true,rfl,hF.to ⟨rfl,rfl,rfl,rfl,rfl,trivial⟩,hM⟩
     have hP:=Fx.cF c2 hP
     refine aL hF rfl rfl rfl c2 (aC (off':=2) qU156 rfl in23 rfl hF rfl rfl rfl) rfl rfl fun a hF=>?_
     refine aL hF rfl rfl rfl c2 (aI qA23 hF rfl rfl (hM.cell (i:=0) rfl (RPiece.g_old _))) rfl rfl fun a hF=>?_
     refine aL hF rfl rfl rfl c2 (bM (d1 _ (hsub _ (dropM hM 1))) qU23 hF rfl rfl) rfl rfl fun a hF=>?_
     refine aL hF rfl rfl rfl c2 (aC (off':=3) qU156 rfl in23 rfl hF rfl rfl rfl) rfl rfl fun a hF=>?_
     refine aL hF rfl rfl rfl c2 (aI qA23 hF rfl rfl (hM.cell (i:=0) rfl (RPiece.g_new _))) rfl rfl fun a hF=>?_
     refine aL hF rfl rfl rfl c2 (bM (g1 _ (hsub _ (dropM hM 1))) qU23 hF rfl rfl) rfl rfl fun a hF=>?_
     refine aL hF rfl rfl rfl c2 (dC hF rfl rfl rfl) rfl rfl fun a hF=>?_
     refine aA hF (aX hF rfl rfl c2 rfl) rfl rfl rfl fun a hF=>?_
     refine aA hF (aF hF rfl rfl) rfl rfl rfl fun a hF=>?_
     refine bE 36 hF rfl (fun c7=>?_) (fun c7=>?_)
     ·have hP:=Fx.cT c7 hP
      refine aE hF rfl rfl rfl c7 rfl rfl fun a hF=>?_
      refine aE hF rfl rfl rfl c7 rfl rfl fun a hF=>?_
      refine aE hF rfl rfl rfl c7 rfl rfl fun a hF=>?_
      refine aE hF rfl rfl rfl c7 rfl rfl fun a hF=>?_
      refine aA hF (aP hF rfl rfl c7 rfl) rfl rfl rfl fun a hF=>?_
      refine aA hF (aF hF rfl rfl) rfl rfl rfl fun a hF=>?_
      refine aE hF rfl rfl rfl rfl rfl rfl fun a hF=>?_
      refine aE hF rfl rfl rfl rfl rfl rfl fun a hF=>?_
      refine aE hF rfl rfl rfl rfl rfl rfl fun a hF=>?_
      refine aE hF rfl rfl rfl rfl rfl rfl fun a hF=>?_
      refine aE hF rfl rfl rfl rfl rfl rfl fun a hF=>?_
      refine aE hF rfl rfl rfl rfl rfl rfl fun a hF=>?_
      refine aE hF rfl rfl rfl rfl rfl rfl fun a hF=>?_
      refine aA hF (aP hF rfl rfl rfl rfl) rfl rfl rfl fun a hF=>?_
      refine aJ (aB ?_)
      have hP:=oI hP
      subst hP
      exact ⟨true,rfl,hF.to ⟨rfl,rfl,rfl,rfl,rfl,trivial⟩,hM⟩
     have hP:=Fx.cF c7 hP
     refine aL hF rfl rfl rfl c7 (aC (off':=2) qU156 rfl in23 rfl hF rfl rfl rfl) rfl rfl fun a hF=>?_
     refine aL hF rfl rfl rfl c7 (aI qA23 hF rfl rfl (hM.cell (i:=0) rfl (RPiece.g_old _))) rfl rfl fun a hF=>?_
     refine aL hF rfl rfl rfl c7 (bM (d1 _ (hsub _ (dropM hM 1))) qU23 hF rfl rfl) rfl rfl fun a hF=>?_
     refine aL hF rfl rfl rfl c7 (dF hF rfl rfl rfl) rfl rfl fun a hF=>?_
     refine aA hF (aX hF rfl rfl c7 rfl) rfl rfl rfl fun a hF=>?_
     refine aA hF (aF hF rfl rfl) rfl rfl rfl fun a hF=>?_
     refine bE 42 hF rfl (fun c3=>?_) (fun c3=>?_)
     ·have hP:=Fx.cT c3 hP
      refine aE hF rfl rfl rfl c3 rfl rfl fun a hF=>?_
      refine aE hF rfl rfl rfl c3 rfl rfl fun a hF=>?_
      refine aE hF rfl rfl rfl c3 rfl rfl fun a hF=>?_
      refine aE hF rfl rfl rfl c3 rfl rfl fun a hF=>?_
      refine aE hF rfl rfl rfl c3 rfl rfl fun a hF=>?_
      refine aE hF rfl rfl rfl c3 rfl rfl fun a hF=>?_
      refine aE hF rfl rfl rfl c3 rfl rfl fun a hF=>?_
      refine aA hF (aP hF rfl rfl c3 rfl) rfl rfl rfl fun a hF=>?_
      refine aJ (aB ?_)
      have hP:=oI hP
      subst hP
      exact ⟨true,rfl,hF.to ⟨rfl,rfl,rfl,rfl,rfl,trivial⟩,hM⟩
     have hP:=Fx.cF c3 hP
     refine aL hF rfl rfl rfl c3 (aC (off':=1) qU156 rfl in3 rfl hF rfl rfl rfl) rfl rfl fun a hF=>?_
     refine aL hF rfl rfl rfl c3 (aI qA3 hF rfl rfl (hM.cell (i:=0) rfl (RPiece.g_from_ _))) rfl rfl fun a hF=>?_
     refine aL hF rfl rfl rfl c3 (aC (off':=2) qU156 rfl in23 rfl hF rfl rfl rfl) rfl rfl fun a hF=>?_
     refine aL hF rfl rfl rfl c3 (aI qA23 hF rfl rfl (hM.cell (i:=0) rfl (RPiece.g_old _))) rfl rfl fun a hF=>?_
     refine aL hF rfl rfl rfl c3 (bM (d1 _ (hsub _ (dropM hM 1))) qU23 hF rfl rfl) rfl rfl fun a hF=>?_
     refine aL hF rfl rfl rfl c3 (bX hF rfl rfl rfl) rfl rfl fun a hF=>?_
     refine aL hF rfl rfl rfl c3 (eS hF rfl rfl rfl) rfl rfl fun a hF=>?_
     refine aA hF (aX hF rfl rfl c3 rfl) rfl rfl rfl fun a hF=>?_
     refine aJ (aB ?_)
     have hP:=oI hP
     subst hP
     exact ⟨(decide (65535 < (IntKind.i64.wrap (c4.from_ + (c4.old.length:Int))))),rfl,hF.to ⟨rfl,rfl,rfl,rfl,rfl,trivial⟩,hM⟩
    rintro g3 a w hP ⟨hF,hM⟩
    replace hP:Sh.bJ x0 c8 c4 g3 = _:=hP
    unfold Sh.bJ at hP
    refine aB ?_
    refine aV hF (c:=.tmp 50) rfl (fun d4=>?_) (fun d4=>?_)
    ·have hP:=Fx.cT d4 hP
     refine aG ?_
     refine aD ?_
     refine aA hF (aH hF rfl rfl) rfl rfl rfl fun a hF=>?_
     refine aJ (aB ?_)
     refine c_ret ?_
     have hP:=oI hP
     subst hP
     have hP:=dB i0
     subst hP
     have hP:=d9 _ rfl
     subst hP
     have hP:=dB g9
     subst hP
     refine bH qR198 hF rfl ?_
     exact ⟨rfl,selM hM [] 1 rfl⟩
    have hP:=Fx.cF d4 hP
    refine aW (aB ?_)
    refine aG ?_
    refine aU hF hM hP (fun F x a w=>match x with | _=>Fr 99 [(0,(s1).v),(2,.bool false),(3,.int .i64 c8),(4,.pointer (some ⟨c5,0,none⟩))] a ∧ MemL w (pt c5 (RPiece.enc (mPc c4 c9 d0)) 156 :: Lr)) (fun l6 hP k1 hF hM=>?_) ?_
    ·refine aG ?_
     refine aD ?_
     refine aA hF (aH hF rfl rfl) rfl rfl rfl fun a hF=>?_
     refine aJ (aB ?_)
     refine aT ?_
     refine bU hF hM hP (fun F x a w=>match x with | d2=>Fr 99 [(5,.int .i64 d2),(0,(s1).v),(2,.bool false),(3,.int .i64 c8),(4,.pointer (some ⟨c5,0,none⟩))] a ∧ MemL w (pt c5 (RPiece.enc (mPc c4 c9 d0)) 156 :: Lr)) (fun hF hM=>⟨hF.to ⟨rfl,rfl,rfl,rfl,rfl,trivial⟩,hM⟩) ?_
     rintro d2 a w l9 hP j3 ⟨hF,hM⟩
     replace hP:Sh.gA c4 d2 = _:=hP
     unfold Sh.gA at hP
     refine aG ?_
     refine aG ?_
     refine aD ?_
     refine aA hF (aF hF rfl rfl) rfl rfl rfl fun a hF=>?_
     refine aA hF (aC (off':=2) qU156 rfl in23 rfl hF rfl rfl rfl) rfl rfl rfl fun a hF=>?_
     refine aA hF (aI qA23 hF rfl rfl (hM.cell (i:=0) rfl (RPiece.g_old _))) rfl rfl rfl fun a hF=>?_
     refine aA hF (bM (d1 _ (hsub _ (dropM hM 1))) qU23 hF rfl rfl) rfl rfl rfl fun a hF=>?_
     refine aA hF (cI hF rfl rfl rfl) rfl rfl rfl fun a hF=>?_
     refine aJ (aB ?_)
     refine aV hF (c:=.tmp 55) rfl (fun d5=>?_) (fun d5=>?_)
     ·have hP:=Fx.cT d5 hP
      refine aW (aB ?_)
      refine aG ?_
      refine aT ?_
      refine aG ?_
      refine bL mixed (by kernel_rfl) hM [0] 1 rfl fun hch=>?_
      refine aK hF hch 0 rfl (by kernel_rfl) rfl rfl rfl (fun w hM=>(aC (off':=2) qU156 rfl in23 rfl hF rfl rfl rfl)) fun a hF=>?_
      refine aK hF hch 1 rfl (by kernel_rfl) rfl rfl rfl (fun w hM=>(aI qA23 hF rfl rfl (hM.cell (i:=0) rfl (RPiece.g_old _)))) fun a hF=>?_
      refine aK hF hch 2 rfl (by kernel_rfl) rfl rfl rfl (fun w hM=>(aF hF rfl rfl)) fun a hF=>?_
      obtain ⟨k7,g6,hP⟩:=bind_some hP
      have i2:=aM g6
      refine aK hF hch 3 rfl (by kernel_rfl) rfl rfl rfl (fun w hM=>(aS (sz:=1) (d1 _ (hsub _ (dropM hM 1))) qU23 in5 rfl hF rfl rfl rfl (bG g6))) fun a hF=>?_
      refine aK hF hch 4 rfl (by kernel_rfl) rfl rfl rfl (fun w hM=>(aI qA5 hF rfl rfl ((((d1 _ (hsub _ (dropM hM 1))).elemS i2.2)).get 0 rfl))) fun a hF=>?_
      refine aK hF hch 5 rfl (by kernel_rfl) rfl rfl rfl (fun w hM=>(aC (off':=3) qU156 rfl in23 rfl hF rfl rfl rfl)) fun a hF=>?_
      refine aK hF hch 6 rfl (by kernel_rfl) rfl rfl rfl (fun w hM=>(aI qA23 hF rfl rfl (hM.cell (i:=0) rfl (RPiece.g_new _)))) fun a hF=>?_
      refine aK hF hch 7 rfl (by kernel_rfl) rfl rfl rfl (fun w hM=>(aF hF rfl rfl)) fun a hF=>?_
      obtain ⟨k8,g7,hP⟩:=bind_some hP
      have i3:=aM g7
      refine aK hF hch 8 rfl (by kernel_rfl) rfl rfl rfl (fun w hM=>(aS (sz:=1) (g1 _ (hsub _ (dropM hM 1))) qU23 in5 rfl hF rfl rfl rfl (bG g7))) fun a hF=>?_
      refine aK hF hch 9 rfl (by kernel_rfl) rfl rfl rfl (fun w hM=>(aI qA5 hF rfl rfl ((((g1 _ (hsub _ (dropM hM 1))).elemS i3.2)).get 0 rfl))) fun a hF=>?_
      refine aK hF hch 10 rfl (by kernel_rfl) rfl rfl rfl (fun w hM=>(dF hF rfl rfl rfl)) fun a hF=>?_
      refine bW hch (by kernel_rfl) fun w hM=>?_
      refine aB ?_
      refine aV hF (c:=.tmp 68) rfl (fun d6=>?_) (fun d6=>?_)
      ·have hP:=Fx.cT d6 hP
       refine aG ?_
       refine aD ?_
       refine aA hF (aH hF rfl rfl) rfl rfl rfl fun a hF=>?_
       refine aJ (aB ?_)
       refine c_ret ?_
       have hP:=oI hP
       subst hP
       have hP:=j3 _ rfl
       subst hP
       have hP:=dB k1
       subst hP
       have hP:=dB i0
       subst hP
       have hP:=d9 _ rfl
       subst hP
       have hP:=dB g9
       subst hP
       refine bH qR198 hF rfl ?_
       exact ⟨rfl,selM hM [] 1 rfl⟩
      have hP:=Fx.cF d6 hP
      refine aW (bK (aB ?_))
      refine aD ?_
      refine aA hF (aF hF rfl rfl) rfl rfl rfl fun a hF=>?_
      refine aA hF (bX hF rfl rfl rfl) rfl rfl rfl fun a hF=>?_
      refine aA hF (aH hF rfl rfl) rfl rfl rfl fun a hF=>?_
      refine aJ (aB ?_)
      have hP:=oI hP
      subst hP
      exact ⟨(IntKind.i64.wrap (d2 + 1)),rfl,hF.to ⟨rfl,rfl,rfl,rfl,rfl,trivial⟩,hM⟩
     have hP:=Fx.cF d5 hP
     refine bY (bD (bD (cJ ?_)))
     refine aB ?_
     have hP:=oI hP
     subst hP
     have hP:=j3 _ rfl
     subst hP
     exact ⟨(),rfl,hF.to ⟨rfl,rfl,rfl,rfl,trivial⟩,hM⟩
    rintro ⟨⟩ a w hP ⟨hF,hM⟩
    replace hP:Sh.mF x0 c8 c4 = _:=hP
    unfold Sh.mF at hP
    refine aB ?_
    refine aG ?_
    refine aG ?_
    refine aD ?_
    refine aA hF (aF hF rfl rfl) rfl rfl rfl fun a hF=>?_
    refine aA hF (dF hF rfl rfl rfl) rfl rfl rfl fun a hF=>?_
    refine aJ (aB ?_)
    refine aV hF (c:=.tmp 70) rfl (fun d7=>?_) (fun d7=>?_)
    ·have hP:=Fx.cT d7 hP
     refine bY (bD (cJ ?_))
     refine aB ?_
     have hP:=oI hP
     subst hP
     exact ⟨(),rfl,hF.to ⟨rfl,rfl,rfl,trivial⟩,selM hM [] 1 rfl⟩
    have hP:=Fx.cF d7 hP
    refine aW (aB ?_)
    refine aG ?_
    refine aD ?_
    refine aA hF (aF hF rfl rfl) rfl rfl rfl fun a hF=>?_
    refine aA hF (aF hF rfl rfl) rfl rfl rfl fun a hF=>?_
    refine aA hF (eV hF rfl rfl rfl) rfl rfl rfl fun a hF=>?_
    obtain ⟨d3,g8,hP⟩:=bind_some hP
    have i4:=aM g8
    obtain ⟨k5,j0,j2⟩:=Each.getr q4 i4.2
    have i8:=Each.bd q4 (bG g8)
    obtain ⟨j9,k0,rfl,j8,k6⟩:=j2
    refine aA hF (aS (sz:=4) (f3 _ (hsub _ (dropM hM 1))) qU58 in156 rfl hF rfl rfl rfl i8) rfl rfl rfl fun a hF=>?_
    refine aA hF (aQ qA156 qS156 hF rfl rfl (RPiece.len _) (((f3 _ (hsub _ (dropM hM 1))).elemS j0))) rfl rfl rfl fun a hF=>?_
    refine aO hF rfl rfl rfl (bO z156 (zs:=RPiece.zero.enc) rfl rfl fun g0 w k3 i6=>?_)
    have hM:=hM.plus i6
    replace hM:MemL _ (pt g0 (RPiece.enc (RPiece.mk 0 0 SV.nil SV.nil)) 156 :: pt c5 (RPiece.enc (mPc c4 c9 d0)) 156 :: Lr):=hM
    intro a hF
    refine bI rfl rfl (aY (vs:=_) qS156 (hM.obj (i:=0) rfl) hF rfl rfl rfl rfl (RPiece.len _) (RPiece.one _) (by first | (rw [RPiece.len,RPiece.len]; decide) | (rw [RPiece.len]; decide)) (bF ((RPiece.len _).trans (RPiece.len _).symm)) fun w j5=>?_)
    have hM:=hM.chg j5 (i:=0) rfl
    replace hM:MemL _ (pt g0 (RPiece.enc (mPc d3 j9 k0)) 156 :: pt c5 (RPiece.enc (mPc c4 c9 d0)) 156 :: Lr):=hM
    refine aJ (aB ?_)
    refine aG ?_
    refine aU hF hM hP (fun F x a w=>match x with | g4=>Fr 99 [(98,.bool g4),(0,(s1).v),(2,.bool false),(3,.int .i64 c8)] a ∧ MemL w (Lr)) (fun l7 hP l2 hF hM=>?_) ?_
    ·refine aD ?_
     refine aA hF (aC (off':=0) qU156 rfl in3 rfl hF rfl rfl rfl) rfl rfl rfl fun a hF=>?_
     refine aA hF (aI qA3 hF rfl rfl (hM.cell (i:=1) rfl (RPiece.g_table _))) rfl rfl rfl fun a hF=>?_
     refine aA hF (aC (off':=0) qU156 rfl in3 rfl hF rfl rfl rfl) rfl rfl rfl fun a hF=>?_
     refine aA hF (aI qA3 hF rfl rfl (hM.cell (i:=0) rfl (RPiece.g_table _))) rfl rfl rfl fun a hF=>?_
     refine aA hF (cI hF rfl rfl rfl) rfl rfl rfl fun a hF=>?_
     refine aA hF (aF hF rfl rfl) rfl rfl rfl fun a hF=>?_
     refine bE 81 hF rfl (fun c1=>?_) (fun c1=>?_)
     ·have hP:=Fx.cT c1 hP
      refine aE hF rfl rfl rfl c1 rfl rfl fun a hF=>?_
      refine aE hF rfl rfl rfl c1 rfl rfl fun a hF=>?_
      refine aE hF rfl rfl rfl c1 rfl rfl fun a hF=>?_
      refine aE hF rfl rfl rfl c1 rfl rfl fun a hF=>?_
      refine aE hF rfl rfl rfl c1 rfl rfl fun a hF=>?_
      refine aE hF rfl rfl rfl c1 rfl rfl fun a hF=>?_
      refine fH hF rfl rfl rfl rfl rfl fun a hF=>?_
      refine fH hF rfl rfl rfl rfl rfl fun a hF=>?_
      refine fH hF rfl rfl rfl rfl rfl fun a hF=>?_
      refine fH hF rfl rfl rfl rfl rfl fun a hF=>?_
      refine fH hF rfl rfl rfl rfl rfl fun a hF=>?_
      refine fH hF rfl rfl rfl rfl rfl fun a hF=>?_
      refine fH hF rfl rfl rfl rfl rfl fun a hF=>?_
      refine fH hF rfl rfl rfl rfl rfl fun a hF=>?_
      refine fH hF rfl rfl rfl rfl rfl fun a hF=>?_
      refine aE hF rfl rfl rfl c1 rfl rfl fun a hF=>?_
      refine aA hF (aP hF rfl rfl c1 rfl) rfl rfl rfl fun a hF=>?_
      refine aJ (aB ?_)
      have hP:=oI hP
      subst hP
      exact ⟨true,rfl,hF.to ⟨rfl,rfl,rfl,rfl,trivial⟩,selM hM [] 2 rfl⟩
     have hP:=Fx.cF c1 hP
     refine aL hF rfl rfl rfl c1 (aC (off':=0) qU156 rfl in3 rfl hF rfl rfl rfl) rfl rfl fun a hF=>?_
     refine aL hF rfl rfl rfl c1 (aI qA3 hF rfl rfl (hM.cell (i:=1) rfl (RPiece.g_table _))) rfl rfl fun a hF=>?_
     refine aL hF rfl rfl rfl c1 (aC (off':=0) qU156 rfl in3 rfl hF rfl rfl rfl) rfl rfl fun a hF=>?_
     refine aL hF rfl rfl rfl c1 (aI qA3 hF rfl rfl (hM.cell (i:=0) rfl (RPiece.g_table _))) rfl rfl fun a hF=>?_
     refine aL hF rfl rfl rfl c1 (dF hF rfl rfl rfl) rfl rfl fun a hF=>?_
     refine aL hF rfl rfl rfl c1 (aF hF rfl rfl) rfl rfl fun a hF=>?_
     refine bE 87 hF rfl (fun c0=>?_) (fun c0=>?_)
     ·have hP:=Fx.cT c0 hP
      refine aL hF rfl rfl rfl c0 (aC (off':=1) qU156 rfl in3 rfl hF rfl rfl rfl) rfl rfl fun a hF=>?_
      refine aL hF rfl rfl rfl c0 (aI qA3 hF rfl rfl (hM.cell (i:=1) rfl (RPiece.g_from_ _))) rfl rfl fun a hF=>?_
      refine aL hF rfl rfl rfl c0 (aC (off':=1) qU156 rfl in3 rfl hF rfl rfl rfl) rfl rfl fun a hF=>?_
      refine aL hF rfl rfl rfl c0 (aI qA3 hF rfl rfl (hM.cell (i:=0) rfl (RPiece.g_from_ _))) rfl rfl fun a hF=>?_
      refine aL hF rfl rfl rfl c0 (aC (off':=2) qU156 rfl in23 rfl hF rfl rfl rfl) rfl rfl fun a hF=>?_
      refine aL hF rfl rfl rfl c0 (aI qA23 hF rfl rfl (hM.cell (i:=0) rfl (RPiece.g_old _))) rfl rfl fun a hF=>?_
      refine aL hF rfl rfl rfl c0 (bM (j8 _ (hsub _ (dropM hM 2))) qU23 hF rfl rfl) rfl rfl fun a hF=>?_
      refine aL hF rfl rfl rfl c0 (bX hF rfl rfl rfl) rfl rfl fun a hF=>?_
      refine aL hF rfl rfl rfl c0 (qI hF rfl rfl rfl) rfl rfl fun a hF=>?_
      refine aL hF rfl rfl rfl c1 (aP hF rfl rfl c0 rfl) rfl rfl fun a hF=>?_
      refine aA hF (aX hF rfl rfl c1 rfl) rfl rfl rfl fun a hF=>?_
      refine aJ (aB ?_)
      have hP:=oI hP
      subst hP
      exact ⟨(decide (c4.from_ ≤ (IntKind.i64.wrap (d3.from_ + (d3.old.length:Int))))),rfl,hF.to ⟨rfl,rfl,rfl,rfl,trivial⟩,selM hM [] 2 rfl⟩
     have hP:=Fx.cF c0 hP
     refine aE hF rfl rfl rfl c0 rfl rfl fun a hF=>?_
     refine aE hF rfl rfl rfl c0 rfl rfl fun a hF=>?_
     refine aE hF rfl rfl rfl c0 rfl rfl fun a hF=>?_
     refine aE hF rfl rfl rfl c0 rfl rfl fun a hF=>?_
     refine aE hF rfl rfl rfl c0 rfl rfl fun a hF=>?_
     refine aE hF rfl rfl rfl c0 rfl rfl fun a hF=>?_
     refine aE hF rfl rfl rfl c0 rfl rfl fun a hF=>?_
     refine aE hF rfl rfl rfl c0 rfl rfl fun a hF=>?_
     refine aE hF rfl rfl rfl c0 rfl rfl fun a hF=>?_
     refine aL hF rfl rfl rfl c1 (aX hF rfl rfl c0 rfl) rfl rfl fun a hF=>?_
     refine aA hF (aX hF rfl rfl c1 rfl) rfl rfl rfl fun a hF=>?_
     refine aJ (aB ?_)
     have hP:=oI hP
     subst hP
     exact ⟨false,rfl,hF.to ⟨rfl,rfl,rfl,rfl,trivial⟩,selM hM [] 2 rfl⟩
    rintro g4 a w hP ⟨hF,hM⟩
    replace hP:Sh.hI g4 = _:=hP
    unfold Sh.hI at hP
    refine aB ?_
    refine aV hF (c:=.tmp 98) rfl (fun d8=>?_) (fun d8=>?_)
    ·have hP:=Fx.cT d8 hP
     refine aG ?_
     refine aD ?_
     refine aA hF (aH hF rfl rfl) rfl rfl rfl fun a hF=>?_
     refine aJ (aB ?_)
     refine c_ret ?_
     have hP:=oI hP
     subst hP
     have hP:=dB i0
     subst hP
     have hP:=d9 _ rfl
     subst hP
     have hP:=dB g9
     subst hP
     refine bH qR198 hF rfl ?_
     exact ⟨rfl,hM⟩
    have hP:=Fx.cF d8 hP
    refine aW (bK (aB ?_))
    have hP:=oI hP
    subst hP
    exact ⟨(),rfl,hF.to ⟨rfl,rfl,rfl,trivial⟩,hM⟩
   rintro ⟨⟩ a w hP ⟨hF,hM⟩
   replace hP:Sh.fZ c8 = _:=hP
   unfold Sh.fZ at hP
   refine aB ?_
   refine aD ?_
   refine aA hF (aF hF rfl rfl) rfl rfl rfl fun a hF=>?_
   refine aA hF (bX hF rfl rfl rfl) rfl rfl rfl fun a hF=>?_
   refine aA hF (aH hF rfl rfl) rfl rfl rfl fun a hF=>?_
   refine aJ (aB ?_)
   have hP:=oI hP
   subst hP
   exact ⟨(IntKind.i64.wrap (c8 + 1)),rfl,hF.to ⟨rfl,rfl,rfl,trivial⟩,hM⟩
  have hP:=Fx.cF g2 hP
  refine bY (bD (bD (cJ ?_)))
  refine aB ?_
  have hP:=oI hP
  subst hP
  have hP:=d9 _ rfl
  subst hP
  exact ⟨(),rfl,hF.to ⟨rfl,trivial⟩,hM⟩
 rintro ⟨⟩ a w hP ⟨hF,hM⟩
 replace hP:Sh.rR = _:=hP
 unfold Sh.rR at hP
 refine aB ?_
 refine aG ?_
 refine aD ?_
 refine aA hF (aH hF rfl rfl) rfl rfl rfl fun a hF=>?_
 refine aJ (aB ?_)
 refine c_ret ?_
 have hP:=oI hP
 subst hP
 refine bH qR198 hF rfl ?_
 exact ⟨rfl,hM⟩
set_option maxHeartbeats 4000000 in
theorem gM {x0:QMark} {s1:SV} {s3:SV} {s5:SV} {hs6:List RPiece} {s9:SV} {out:Bool} {w0:World} {Bf:World → Prop} {Lr:List Res} (hP:Sh.iM x0 = some out) (hM:MemL w0 (Lr)) (hsub:∀ w,MemL w Lr → Bf w) (f2:LIn Bf s1 x0.regs) (f4:LIn Bf s3 x0.slots) (f7:LIn Bf s5 hs6) (q8:Each (QPieceIn Bf) hs6 x0.pieces) (f10:LIn Bf s9 x0.sent):Calls Tryz.prog 135 #[.agg (RMark.enc (mMk x0 s1 s3 s5 s9)).toArray] w0 (Ret fun v w'=>v = .bool out ∧ MemL w' (Lr)):=by
 unfold Sh.iM at hP
 refine aR (vs:=[.agg (RMark.enc (mMk x0 s1 s3 s5 s9)).toArray]) Tryz.func135 rfl Tryz.ntmps135 rfl fun a hF=>?_
 refine aG ?_
 refine aD ?_
 refine aO hF rfl rfl rfl (dA hF rfl rfl rfl fun c0 w j7 g6=>?_)
 have hM:=hM.plus g6
 replace hM:MemL _ (pt c0 (RMark.enc (mMk x0 s1 s3 s5 s9)) 60 :: Lr):=hM
 intro a hF
 refine aA hF (aH hF rfl rfl) rfl rfl rfl fun a hF=>?_
 refine aJ (aB ?_)
 refine aG ?_
 refine aG ?_
 refine aU hF hM hP (fun F x a w=>match x with | g9=>Fr 104 [(22,.bool g9),(1,.pointer (some ⟨c0,0,none⟩)),(2,.bool false)] a ∧ MemL w (pt c0 (RMark.enc (mMk x0 s1 s3 s5 s9)) 60 :: Lr)) (fun k6 hP k0 hF hM=>?_) ?_
 ·refine aD ?_
  refine aA hF (aC (off':=0) qU60 rfl in3 rfl hF rfl rfl rfl) rfl rfl rfl fun a hF=>?_
  refine aA hF (aI qA3 hF rfl rfl (hM.cell (i:=0) rfl (RMark.g_at_ _))) rfl rfl rfl fun a hF=>?_
  obtain ⟨l3,j3,hP⟩:=bind_some hP
  refine aO hF rfl rfl rfl (aN (xs:=[.tmp 8,.const (.int .i64 (0)),.const (.int .i64 (4095))]) qC159 hF rfl rfl (dJ j3 hM ) fun v w hR=>?_)
  obtain ⟨rfl,hM⟩:=hR
  replace hM:MemL _ (pt c0 (RMark.enc (mMk x0 s1 s3 s5 s9)) 60 :: Lr):=hM
  intro a hF
  refine aA hF (dE hF rfl rfl) rfl rfl rfl fun a hF=>?_
  refine aA hF (aF hF rfl rfl) rfl rfl rfl fun a hF=>?_
  refine bE 11 hF rfl (fun c7=>?_) (fun c7=>?_)
  ·have hP:=Fx.cT c7 hP
   refine aE hF rfl rfl rfl c7 rfl rfl fun a hF=>?_
   refine aE hF rfl rfl rfl c7 rfl rfl fun a hF=>?_
   refine aE hF rfl rfl rfl c7 rfl rfl fun a hF=>?_
   refine aE hF rfl rfl rfl c7 rfl rfl fun a hF=>?_
   refine aA hF (aP hF rfl rfl c7 rfl) rfl rfl rfl fun a hF=>?_
   refine aA hF (aF hF rfl rfl) rfl rfl rfl fun a hF=>?_
   refine aE hF rfl rfl rfl rfl rfl rfl fun a hF=>?_
   refine aE hF rfl rfl rfl rfl rfl rfl fun a hF=>?_
   refine aE hF rfl rfl rfl rfl rfl rfl fun a hF=>?_
   refine aE hF rfl rfl rfl rfl rfl rfl fun a hF=>?_
   refine aA hF (aP hF rfl rfl rfl rfl) rfl rfl rfl fun a hF=>?_
   refine aJ (aB ?_)
   have hP:=oI hP
   subst hP
   exact ⟨true,rfl,hF.to ⟨rfl,rfl,rfl,trivial⟩,hM⟩
  have hP:=Fx.cF c7 hP
  refine aL hF rfl rfl rfl c7 (aC (off':=1) qU60 rfl in3 rfl hF rfl rfl rfl) rfl rfl fun a hF=>?_
  refine aL hF rfl rfl rfl c7 (aI qA3 hF rfl rfl (hM.cell (i:=0) rfl (RMark.g_next _))) rfl rfl fun a hF=>?_
  obtain ⟨l4,j4,hP⟩:=bind_some hP
  refine dV hF rfl rfl rfl c7 rfl rfl (aN (xs:=[.tmp 13,.const (.int .i64 (0)),.const (.int .i64 (4095))]) qC159 hF rfl rfl (dJ j4 hM ) fun v w hR=>?_)
  obtain ⟨rfl,hM⟩:=hR
  replace hM:MemL _ (pt c0 (RMark.enc (mMk x0 s1 s3 s5 s9)) 60 :: Lr):=hM
  intro a hF
  refine aL hF rfl rfl rfl c7 (dE hF rfl rfl) rfl rfl fun a hF=>?_
  refine aA hF (aX hF rfl rfl c7 rfl) rfl rfl rfl fun a hF=>?_
  refine aA hF (aF hF rfl rfl) rfl rfl rfl fun a hF=>?_
  refine bE 17 hF rfl (fun c8=>?_) (fun c8=>?_)
  ·have hP:=Fx.cT c8 hP
   refine aE hF rfl rfl rfl c8 rfl rfl fun a hF=>?_
   refine aE hF rfl rfl rfl c8 rfl rfl fun a hF=>?_
   refine aE hF rfl rfl rfl c8 rfl rfl fun a hF=>?_
   refine aE hF rfl rfl rfl c8 rfl rfl fun a hF=>?_
   refine aA hF (aP hF rfl rfl c8 rfl) rfl rfl rfl fun a hF=>?_
   refine aJ (aB ?_)
   have hP:=oI hP
   subst hP
   exact ⟨true,rfl,hF.to ⟨rfl,rfl,rfl,trivial⟩,hM⟩
  have hP:=Fx.cF c8 hP
  refine aL hF rfl rfl rfl c8 (aC (off':=6) qU60 rfl in52 rfl hF rfl rfl rfl) rfl rfl fun a hF=>?_
  refine aL hF rfl rfl rfl c8 (aI qA52 hF rfl rfl (hM.cell (i:=0) rfl (RMark.g_sent _))) rfl rfl fun a hF=>?_
  refine aL hF rfl rfl rfl c8 (bM (f10 _ (hsub _ (dropM hM 1))) qU52 hF rfl rfl) rfl rfl fun a hF=>?_
  refine aL hF rfl rfl rfl c8 (eS hF rfl rfl rfl) rfl rfl fun a hF=>?_
  refine aA hF (aX hF rfl rfl c8 rfl) rfl rfl rfl fun a hF=>?_
  refine aJ (aB ?_)
  have hP:=oI hP
  subst hP
  exact ⟨(decide (1 < (x0.sent.length:Int))),rfl,hF.to ⟨rfl,rfl,rfl,trivial⟩,hM⟩
 rintro g9 a w hP ⟨hF,hM⟩
 replace hP:Sh.mV x0 g9 = _:=hP
 unfold Sh.mV at hP
 refine aB ?_
 refine aV hF (c:=.tmp 22) rfl (fun d7=>?_) (fun d7=>?_)
 ·have hP:=Fx.cT d7 hP
  refine aG ?_
  refine aD ?_
  refine aA hF (aH hF rfl rfl) rfl rfl rfl fun a hF=>?_
  refine aJ (aB ?_)
  refine c_ret ?_
  have hP:=oI hP
  subst hP
  refine bH qR135 hF rfl ?_
  exact ⟨rfl,selM hM [] 1 rfl⟩
 have hP:=Fx.cF d7 hP
 refine aW (aB ?_)
 refine aG ?_
 refine aU hF hM hP (fun F x a w=>match x with | _=>Fr 104 [(1,.pointer (some ⟨c0,0,none⟩)),(2,.bool false)] a ∧ MemL w (pt c0 (RMark.enc (mMk x0 s1 s3 s5 s9)) 60 :: Lr)) (fun k7 hP j1 hF hM=>?_) ?_
 ·refine aG ?_
  refine aD ?_
  refine aA hF (aH hF rfl rfl) rfl rfl rfl fun a hF=>?_
  refine aJ (aB ?_)
  refine aT ?_
  refine bU hF hM hP (fun F x a w=>match x with | c9=>Fr 104 [(3,.int .i64 c9),(1,.pointer (some ⟨c0,0,none⟩)),(2,.bool false)] a ∧ MemL w (pt c0 (RMark.enc (mMk x0 s1 s3 s5 s9)) 60 :: Lr)) (fun hF hM=>⟨hF.to ⟨rfl,rfl,rfl,trivial⟩,hM⟩) ?_
  rintro c9 a w l1 hP i0 ⟨hF,hM⟩
  replace hP:Sh.fH x0 c9 = _:=hP
  unfold Sh.fH at hP
  refine aG ?_
  refine aG ?_
  refine aD ?_
  refine aA hF (aF hF rfl rfl) rfl rfl rfl fun a hF=>?_
  refine aA hF (aC (off':=3) qU60 rfl in56 rfl hF rfl rfl rfl) rfl rfl rfl fun a hF=>?_
  refine aA hF (aI qA56 hF rfl rfl (hM.cell (i:=0) rfl (RMark.g_regs _))) rfl rfl rfl fun a hF=>?_
  refine aA hF (bM (f2 _ (hsub _ (dropM hM 1))) qU56 hF rfl rfl) rfl rfl rfl fun a hF=>?_
  refine aA hF (cI hF rfl rfl rfl) rfl rfl rfl fun a hF=>?_
  refine aJ (aB ?_)
  refine aV hF (c:=.tmp 27) rfl (fun d3=>?_) (fun d3=>?_)
  ·have hP:=Fx.cT d3 hP
   refine aW (aB ?_)
   refine aG ?_
   refine aT ?_
   refine aG ?_
   refine aD ?_
   refine aA hF (aC (off':=3) qU60 rfl in56 rfl hF rfl rfl rfl) rfl rfl rfl fun a hF=>?_
   refine aA hF (aI qA56 hF rfl rfl (hM.cell (i:=0) rfl (RMark.g_regs _))) rfl rfl rfl fun a hF=>?_
   refine aA hF (aF hF rfl rfl) rfl rfl rfl fun a hF=>?_
   obtain ⟨g0,g2,hP⟩:=bind_some hP
   have i2:=aM g2
   refine aA hF (aS (sz:=9) (f2 _ (hsub _ (dropM hM 1))) qU56 in128 rfl hF rfl rfl rfl (bG g2)) rfl rfl rfl fun a hF=>?_
   refine aA hF (aQ qA128 qS128 hF rfl rfl (LTurn.len _) (((f2 _ (hsub _ (dropM hM 1))).elemS i2.2))) rfl rfl rfl fun a hF=>?_
   refine aO hF rfl rfl rfl (bO z128 (zs:=LTurn.zero.enc) rfl rfl fun d1 w j8 g7=>?_)
   have hM:=hM.plus g7
   replace hM:MemL _ (pt d1 (LTurn.enc LTurn.zero) 128 :: pt c0 (RMark.enc (mMk x0 s1 s3 s5 s9)) 60 :: Lr):=hM
   intro a hF
   refine bI rfl rfl (aY (vs:=_) qS128 (hM.obj (i:=0) rfl) hF rfl rfl rfl rfl (LTurn.len _) (LTurn.one _) (by first | (rw [LTurn.len,LTurn.len]; decide) | (rw [LTurn.len]; decide)) (bF ((LTurn.len _).trans (LTurn.len _).symm)) fun w i6=>?_)
   have hM:=hM.chg i6 (i:=0) rfl
   replace hM:MemL _ (pt d1 (LTurn.enc g0) 128 :: pt c0 (RMark.enc (mMk x0 s1 s3 s5 s9)) 60 :: Lr):=hM
   refine aJ (aB ?_)
   refine aG ?_
   refine aU hF hM hP (fun F x a w=>match x with | d8=>Fr 104 [(61,.bool d8),(1,.pointer (some ⟨c0,0,none⟩)),(2,.bool false),(3,.int .i64 c9)] a ∧ MemL w (pt c0 (RMark.enc (mMk x0 s1 s3 s5 s9)) 60 :: Lr)) (fun k8 hP k1 hF hM=>?_) ?_
   ·refine bL mixed (by kernel_rfl) hM [0,1] 2 rfl fun hch=>?_
    refine aK hF hch 0 rfl (by kernel_rfl) rfl rfl rfl (fun w hM=>(aC (off':=0) qU128 rfl in3 rfl hF rfl rfl rfl)) fun a hF=>?_
    refine aK hF hch 1 rfl (by kernel_rfl) rfl rfl rfl (fun w hM=>(aI qA3 hF rfl rfl (hM.cell (i:=0) rfl (LTurn.g_reg _)))) fun a hF=>?_
    refine bC hch 2 (by kernel_rfl) rfl rfl ?_
    refine bV hF 2 rfl rfl rfl rfl rfl fun w hMs hM=>?_
    obtain ⟨k3,i8,hP⟩:=bind_some hP
    refine (aN (xs:=[.tmp 36,.const (.int .i64 (0)),.const (.int .i64 (10))]) qC159 hF rfl rfl (dJ i8 hM ) fun v w hR=>?_)
    obtain ⟨rfl,hM⟩:=hR
    replace hM:MemL _ (pt d1 (LTurn.enc g0) 128 :: pt c0 (RMark.enc (mMk x0 s1 s3 s5 s9)) 60 :: Lr):=hM
    have hMs:=selM hM [0,1] 2 rfl
    refine ⟨_,_,hMs,hM,.inl fun _ h=>h,fun a hF=>?_⟩
    refine aK hF hch 3 rfl (by kernel_rfl) rfl rfl rfl (fun w hM=>(dE hF rfl rfl)) fun a hF=>?_
    refine aK hF hch 4 rfl (by kernel_rfl) rfl rfl rfl (fun w hM=>(aF hF rfl rfl)) fun a hF=>?_
    refine bE 39 hF rfl (fun c3=>?_) (fun c3=>?_)
    ·have hP:=Fx.cT c3 hP
     refine aZ hF hch 5 rfl (by kernel_rfl) rfl rfl rfl c3 rfl rfl fun a hF=>?_
     refine aZ hF hch 6 rfl (by kernel_rfl) rfl rfl rfl c3 rfl rfl fun a hF=>?_
     refine aZ hF hch 7 rfl (by kernel_rfl) rfl rfl rfl c3 rfl rfl fun a hF=>?_
     refine aZ hF hch 8 rfl (by kernel_rfl) rfl rfl rfl c3 rfl rfl fun a hF=>?_
     refine aZ hF hch 9 rfl (by kernel_rfl) rfl rfl rfl c3 rfl rfl fun a hF=>?_
     refine aK hF hch 10 rfl (by kernel_rfl) rfl rfl rfl (fun w hM=>(aP hF rfl rfl c3 rfl)) fun a hF=>?_
     refine aK hF hch 11 rfl (by kernel_rfl) rfl rfl rfl (fun w hM=>(aF hF rfl rfl)) fun a hF=>?_
     refine aZ hF hch 12 rfl (by kernel_rfl) rfl rfl rfl rfl rfl rfl fun a hF=>?_
     refine aZ hF hch 13 rfl (by kernel_rfl) rfl rfl rfl rfl rfl rfl fun a hF=>?_
     refine aZ hF hch 14 rfl (by kernel_rfl) rfl rfl rfl rfl rfl rfl fun a hF=>?_
     refine cA hF hch 15 rfl (by kernel_rfl) rfl rfl rfl rfl rfl fun a hF=>?_
     refine cA hF hch 16 rfl (by kernel_rfl) rfl rfl rfl rfl rfl fun a hF=>?_
     refine cA hF hch 17 rfl (by kernel_rfl) rfl rfl rfl rfl rfl fun a hF=>?_
     refine cA hF hch 18 rfl (by kernel_rfl) rfl rfl rfl rfl rfl fun a hF=>?_
     refine cA hF hch 19 rfl (by kernel_rfl) rfl rfl rfl rfl rfl fun a hF=>?_
     refine cA hF hch 20 rfl (by kernel_rfl) rfl rfl rfl rfl rfl fun a hF=>?_
     refine cA hF hch 21 rfl (by kernel_rfl) rfl rfl rfl rfl rfl fun a hF=>?_
     refine cA hF hch 22 rfl (by kernel_rfl) rfl rfl rfl rfl rfl fun a hF=>?_
     refine cA hF hch 23 rfl (by kernel_rfl) rfl rfl rfl rfl rfl fun a hF=>?_
     refine cA hF hch 24 rfl (by kernel_rfl) rfl rfl rfl rfl rfl fun a hF=>?_
     refine aZ hF hch 25 rfl (by kernel_rfl) rfl rfl rfl rfl rfl rfl fun a hF=>?_
     refine aK hF hch 26 rfl (by kernel_rfl) rfl rfl rfl (fun w hM=>(aP hF rfl rfl rfl rfl)) fun a hF=>?_
     refine bW hch (by kernel_rfl) fun w hM=>?_
     refine aB ?_
     have hP:=oI hP
     subst hP
     exact ⟨true,rfl,hF.to ⟨rfl,rfl,rfl,rfl,trivial⟩,selM hM [1] 2 rfl⟩
    have hP:=Fx.cF c3 hP
    refine bQ hF hch 5 rfl (by kernel_rfl) rfl rfl rfl c3 rfl rfl (fun w hM=>(aC (off':=1) qU128 rfl in46 rfl hF rfl rfl rfl)) fun a hF=>?_
    refine bQ hF hch 6 rfl (by kernel_rfl) rfl rfl rfl c3 rfl rfl (fun w hM=>(aQ qA46 qS46 hF rfl rfl (LVal.len _) (hM.cells (i:=0) rfl (LTurn.c_old _)))) fun a hF=>?_
    refine bQ hF hch 7 rfl (by kernel_rfl) rfl rfl rfl c3 rfl rfl (fun w hM=>(aC (off':=5) qU128 rfl in46 rfl hF rfl rfl rfl)) fun a hF=>?_
    refine bQ hF hch 8 rfl (by kernel_rfl) rfl rfl rfl c3 rfl rfl (fun w hM=>(aQ qA46 qS46 hF rfl rfl (LVal.len _) (hM.cells (i:=0) rfl (LTurn.c_new _)))) fun a hF=>?_
    refine bQ hF hch 9 rfl (by kernel_rfl) rfl rfl rfl c3 rfl rfl (fun w hM=>(jJ qG46 (gA _ _ _ _ (by decide)) hF rfl rfl rfl)) fun a hF=>?_
    refine aK hF hch 10 rfl (by kernel_rfl) rfl rfl rfl (fun w hM=>(aX hF rfl rfl c3 rfl)) fun a hF=>?_
    refine aK hF hch 11 rfl (by kernel_rfl) rfl rfl rfl (fun w hM=>(aF hF rfl rfl)) fun a hF=>?_
    refine bE 46 hF rfl (fun c4=>?_) (fun c4=>?_)
    ·have hP:=Fx.cT c4 hP
     refine aZ hF hch 12 rfl (by kernel_rfl) rfl rfl rfl c4 rfl rfl fun a hF=>?_
     refine aZ hF hch 13 rfl (by kernel_rfl) rfl rfl rfl c4 rfl rfl fun a hF=>?_
     refine aZ hF hch 14 rfl (by kernel_rfl) rfl rfl rfl c4 rfl rfl fun a hF=>?_
     refine cA hF hch 15 rfl (by kernel_rfl) rfl rfl rfl rfl rfl fun a hF=>?_
     refine cA hF hch 16 rfl (by kernel_rfl) rfl rfl rfl rfl rfl fun a hF=>?_
     refine cA hF hch 17 rfl (by kernel_rfl) rfl rfl rfl rfl rfl fun a hF=>?_
     refine cA hF hch 18 rfl (by kernel_rfl) rfl rfl rfl rfl rfl fun a hF=>?_
     refine cA hF hch 19 rfl (by kernel_rfl) rfl rfl rfl rfl rfl fun a hF=>?_
     refine cA hF hch 20 rfl (by kernel_rfl) rfl rfl rfl rfl rfl fun a hF=>?_
     refine cA hF hch 21 rfl (by kernel_rfl) rfl rfl rfl rfl rfl fun a hF=>?_
     refine cA hF hch 22 rfl (by kernel_rfl) rfl rfl rfl rfl rfl fun a hF=>?_
     refine cA hF hch 23 rfl (by kernel_rfl) rfl rfl rfl rfl rfl fun a hF=>?_
     refine cA hF hch 24 rfl (by kernel_rfl) rfl rfl rfl rfl rfl fun a hF=>?_
     refine aZ hF hch 25 rfl (by kernel_rfl) rfl rfl rfl c4 rfl rfl fun a hF=>?_
     refine aK hF hch 26 rfl (by kernel_rfl) rfl rfl rfl (fun w hM=>(aP hF rfl rfl c4 rfl)) fun a hF=>?_
     refine bW hch (by kernel_rfl) fun w hM=>?_
     refine aB ?_
     have hP:=oI hP
     subst hP
     exact ⟨true,rfl,hF.to ⟨rfl,rfl,rfl,rfl,trivial⟩,selM hM [1] 2 rfl⟩
    have hP:=Fx.cF c4 hP
    refine bQ hF hch 12 rfl (by kernel_rfl) rfl rfl rfl c4 rfl rfl (fun w hM=>(aF hF rfl rfl)) fun a hF=>?_
    refine bQ hF hch 13 rfl (by kernel_rfl) rfl rfl rfl c4 rfl rfl (fun w hM=>(eS hF rfl rfl rfl)) fun a hF=>?_
    refine bQ hF hch 14 rfl (by kernel_rfl) rfl rfl rfl c4 rfl rfl (fun w hM=>(aF hF rfl rfl)) fun a hF=>?_
    refine bE 49 hF rfl (fun c1=>?_) (fun c1=>?_)
    ·have hP:=Fx.cT c1 hP
     refine bQ hF hch 15 rfl (by kernel_rfl) rfl rfl rfl c1 rfl rfl (fun w hM=>(aC (off':=0) qU128 rfl in3 rfl hF rfl rfl rfl)) fun a hF=>?_
     refine bQ hF hch 16 rfl (by kernel_rfl) rfl rfl rfl c1 rfl rfl (fun w hM=>(aI qA3 hF rfl rfl (hM.cell (i:=0) rfl (LTurn.g_reg _)))) fun a hF=>?_
     refine bQ hF hch 17 rfl (by kernel_rfl) rfl rfl rfl c1 rfl rfl (fun w hM=>(aC (off':=3) qU60 rfl in56 rfl hF rfl rfl rfl)) fun a hF=>?_
     refine bQ hF hch 18 rfl (by kernel_rfl) rfl rfl rfl c1 rfl rfl (fun w hM=>(aI qA56 hF rfl rfl (hM.cell (i:=1) rfl (RMark.g_regs _)))) fun a hF=>?_
     refine bQ hF hch 19 rfl (by kernel_rfl) rfl rfl rfl c1 rfl rfl (fun w hM=>(aF hF rfl rfl)) fun a hF=>?_
     refine bQ hF hch 20 rfl (by kernel_rfl) rfl rfl rfl c1 rfl rfl (fun w hM=>(eV hF rfl rfl rfl)) fun a hF=>?_
     obtain ⟨j5,g3,hP⟩:=bind_some hP
     have i3:=aM g3
     refine bQ hF hch 21 rfl (by kernel_rfl) rfl rfl rfl c1 rfl rfl (fun w hM=>(aS (sz:=9) (f2 _ (hsub _ (dropM hM 2))) qU56 in128 rfl hF rfl rfl rfl (bG g3))) fun a hF=>?_
     refine bQ hF hch 22 rfl (by kernel_rfl) rfl rfl rfl c1 rfl rfl (fun w hM=>(aC qU128 rfl in3 rfl hF rfl rfl rfl)) fun a hF=>?_
     refine bQ hF hch 23 rfl (by kernel_rfl) rfl rfl rfl c1 rfl rfl (fun w hM=>(aI qA3 hF rfl rfl ((((f2 _ (hsub _ (dropM hM 2))).elemS i3.2)).get 0 (LTurn.g_reg _)))) fun a hF=>?_
     refine bQ hF hch 24 rfl (by kernel_rfl) rfl rfl rfl c1 rfl rfl (fun w hM=>(qI hF rfl rfl rfl)) fun a hF=>?_
     refine bQ hF hch 25 rfl (by kernel_rfl) rfl rfl rfl c4 rfl rfl (fun w hM=>(aP hF rfl rfl c1 rfl)) fun a hF=>?_
     refine aK hF hch 26 rfl (by kernel_rfl) rfl rfl rfl (fun w hM=>(aX hF rfl rfl c4 rfl)) fun a hF=>?_
     refine bW hch (by kernel_rfl) fun w hM=>?_
     refine aB ?_
     have hP:=oI hP
     subst hP
     exact ⟨(decide (g0.reg ≤ j5.reg)),rfl,hF.to ⟨rfl,rfl,rfl,rfl,trivial⟩,selM hM [1] 2 rfl⟩
    have hP:=Fx.cF c1 hP
    refine aZ hF hch 15 rfl (by kernel_rfl) rfl rfl rfl c1 rfl rfl fun a hF=>?_
    refine aZ hF hch 16 rfl (by kernel_rfl) rfl rfl rfl c1 rfl rfl fun a hF=>?_
    refine aZ hF hch 17 rfl (by kernel_rfl) rfl rfl rfl c1 rfl rfl fun a hF=>?_
    refine aZ hF hch 18 rfl (by kernel_rfl) rfl rfl rfl c1 rfl rfl fun a hF=>?_
    refine aZ hF hch 19 rfl (by kernel_rfl) rfl rfl rfl c1 rfl rfl fun a hF=>?_
    refine aZ hF hch 20 rfl (by kernel_rfl) rfl rfl rfl c1 rfl rfl fun a hF=>?_
    refine aZ hF hch 21 rfl (by kernel_rfl) rfl rfl rfl c1 rfl rfl fun a hF=>?_
    refine aZ hF hch 22 rfl (by kernel_rfl) rfl rfl rfl c1 rfl rfl fun a hF=>?_
    refine aZ hF hch 23 rfl (by kernel_rfl) rfl rfl rfl c1 rfl rfl fun a hF=>?_
    refine aZ hF hch 24 rfl (by kernel_rfl) rfl rfl rfl c1 rfl rfl fun a hF=>?_
    refine bQ hF hch 25 rfl (by kernel_rfl) rfl rfl rfl c4 rfl rfl (fun w hM=>(aX hF rfl rfl c1 rfl)) fun a hF=>?_
    refine aK hF hch 26 rfl (by kernel_rfl) rfl rfl rfl (fun w hM=>(aX hF rfl rfl c4 rfl)) fun a hF=>?_
    refine bW hch (by kernel_rfl) fun w hM=>?_
    refine aB ?_
    have hP:=oI hP
    subst hP
    exact ⟨false,rfl,hF.to ⟨rfl,rfl,rfl,rfl,trivial⟩,selM hM [1] 2 rfl⟩
   rintro d8 a w hP ⟨hF,hM⟩
   replace hP:Sh.pL c9 d8 = _:=hP
   unfold Sh.pL at hP
   refine aB ?_
   refine aV hF (c:=.tmp 61) rfl (fun d4=>?_) (fun d4=>?_)
   ·have hP:=Fx.cT d4 hP
    refine aG ?_
    refine aD ?_
    refine aA hF (aH hF rfl rfl) rfl rfl rfl fun a hF=>?_
    refine aJ (aB ?_)
    refine c_ret ?_
    have hP:=oI hP
    subst hP
    have hP:=i0 _ rfl
    subst hP
    have hP:=dB j1
    subst hP
    refine bH qR135 hF rfl ?_
    exact ⟨rfl,selM hM [] 1 rfl⟩
   have hP:=Fx.cF d4 hP
   refine aW (bK (aB ?_))
   refine aD ?_
   refine aA hF (aF hF rfl rfl) rfl rfl rfl fun a hF=>?_
   refine aA hF (bX hF rfl rfl rfl) rfl rfl rfl fun a hF=>?_
   refine aA hF (aH hF rfl rfl) rfl rfl rfl fun a hF=>?_
   refine aJ (aB ?_)
   have hP:=oI hP
   subst hP
   exact ⟨(IntKind.i64.wrap (c9 + 1)),rfl,hF.to ⟨rfl,rfl,rfl,trivial⟩,hM⟩
  have hP:=Fx.cF d3 hP
  refine bY (bD (bD (cJ ?_)))
  refine aB ?_
  have hP:=oI hP
  subst hP
  have hP:=i0 _ rfl
  subst hP
  exact ⟨(),rfl,hF.to ⟨rfl,rfl,trivial⟩,hM⟩
 rintro ⟨⟩ a w hP ⟨hF,hM⟩
 replace hP:Sh.mW x0 = _:=hP
 unfold Sh.mW at hP
 refine aB ?_
 refine aG ?_
 refine aU hF hM hP (fun F x a w=>match x with | _=>Fr 104 [(1,.pointer (some ⟨c0,0,none⟩)),(2,.bool false)] a ∧ MemL w (pt c0 (RMark.enc (mMk x0 s1 s3 s5 s9)) 60 :: Lr)) (fun k9 hP j2 hF hM=>?_) ?_
 ·refine aG ?_
  refine aD ?_
  refine aA hF (aH hF rfl rfl) rfl rfl rfl fun a hF=>?_
  refine aJ (aB ?_)
  refine aT ?_
  refine bU hF hM hP (fun F x a w=>match x with | d0=>Fr 104 [(5,.int .i64 d0),(1,.pointer (some ⟨c0,0,none⟩)),(2,.bool false)] a ∧ MemL w (pt c0 (RMark.enc (mMk x0 s1 s3 s5 s9)) 60 :: Lr)) (fun hF hM=>⟨hF.to ⟨rfl,rfl,rfl,trivial⟩,hM⟩) ?_
  rintro d0 a w l2 hP i1 ⟨hF,hM⟩
  replace hP:Sh.fI x0 d0 = _:=hP
  unfold Sh.fI at hP
  refine aG ?_
  refine aG ?_
  refine aD ?_
  refine aA hF (aF hF rfl rfl) rfl rfl rfl fun a hF=>?_
  refine aA hF (aC (off':=4) qU60 rfl in57 rfl hF rfl rfl rfl) rfl rfl rfl fun a hF=>?_
  refine aA hF (aI qA57 hF rfl rfl (hM.cell (i:=0) rfl (RMark.g_slots _))) rfl rfl rfl fun a hF=>?_
  refine aA hF (bM (f4 _ (hsub _ (dropM hM 1))) qU57 hF rfl rfl) rfl rfl rfl fun a hF=>?_
  refine aA hF (cI hF rfl rfl rfl) rfl rfl rfl fun a hF=>?_
  refine aJ (aB ?_)
  refine aV hF (c:=.tmp 66) rfl (fun d5=>?_) (fun d5=>?_)
  ·have hP:=Fx.cT d5 hP
   refine aW (aB ?_)
   refine aG ?_
   refine aT ?_
   refine aG ?_
   refine aD ?_
   refine aA hF (aC (off':=4) qU60 rfl in57 rfl hF rfl rfl rfl) rfl rfl rfl fun a hF=>?_
   refine aA hF (aI qA57 hF rfl rfl (hM.cell (i:=0) rfl (RMark.g_slots _))) rfl rfl rfl fun a hF=>?_
   refine aA hF (aF hF rfl rfl) rfl rfl rfl fun a hF=>?_
   obtain ⟨g1,g4,hP⟩:=bind_some hP
   have i4:=aM g4
   refine aA hF (aS (sz:=27) (f4 _ (hsub _ (dropM hM 1))) qU57 in151 rfl hF rfl rfl rfl (bG g4)) rfl rfl rfl fun a hF=>?_
   refine aA hF (aQ qA151 qS151 hF rfl rfl (LCell.len _) (((f4 _ (hsub _ (dropM hM 1))).elemS i4.2))) rfl rfl rfl fun a hF=>?_
   refine aO hF rfl rfl rfl (bO z151 (zs:=LCell.zero.enc) rfl rfl fun d2 w j9 g8=>?_)
   have hM:=hM.plus g8
   replace hM:MemL _ (pt d2 (LCell.enc LCell.zero) 151 :: pt c0 (RMark.enc (mMk x0 s1 s3 s5 s9)) 60 :: Lr):=hM
   intro a hF
   refine bI rfl rfl (aY (vs:=_) qS151 (hM.obj (i:=0) rfl) hF rfl rfl rfl rfl (LCell.len _) (LCell.one _) (by first | (rw [LCell.len,LCell.len]; decide) | (rw [LCell.len]; decide)) (bF ((LCell.len _).trans (LCell.len _).symm)) fun w i7=>?_)
   have hM:=hM.chg i7 (i:=0) rfl
   replace hM:MemL _ (pt d2 (LCell.enc g1) 151 :: pt c0 (RMark.enc (mMk x0 s1 s3 s5 s9)) 60 :: Lr):=hM
   refine aJ (aB ?_)
   refine aG ?_
   refine aU hF hM hP (fun F x a w=>match x with | d9=>Fr 104 [(100,.bool d9),(1,.pointer (some ⟨c0,0,none⟩)),(2,.bool false),(5,.int .i64 d0)] a ∧ MemL w (pt c0 (RMark.enc (mMk x0 s1 s3 s5 s9)) 60 :: Lr)) (fun l0 hP k2 hF hM=>?_) ?_
   ·refine bL mixed (by kernel_rfl) hM [0,1] 2 rfl fun hch=>?_
    refine aK hF hch 0 rfl (by kernel_rfl) rfl rfl rfl (fun w hM=>(aC (off':=0) qU151 rfl in3 rfl hF rfl rfl rfl)) fun a hF=>?_
    refine aK hF hch 1 rfl (by kernel_rfl) rfl rfl rfl (fun w hM=>(aI qA3 hF rfl rfl (hM.cell (i:=0) rfl (LCell.g_slot _)))) fun a hF=>?_
    refine bC hch 2 (by kernel_rfl) rfl rfl ?_
    refine bV hF 2 rfl rfl rfl rfl rfl fun w hMs hM=>?_
    obtain ⟨k4,i9,hP⟩:=bind_some hP
    refine (aN (xs:=[.tmp 75,.const (.int .i64 (0)),.const (.int .i64 (31))]) qC159 hF rfl rfl (dJ i9 hM ) fun v w hR=>?_)
    obtain ⟨rfl,hM⟩:=hR
    replace hM:MemL _ (pt d2 (LCell.enc g1) 151 :: pt c0 (RMark.enc (mMk x0 s1 s3 s5 s9)) 60 :: Lr):=hM
    have hMs:=selM hM [0,1] 2 rfl
    refine ⟨_,_,hMs,hM,.inl fun _ h=>h,fun a hF=>?_⟩
    refine aK hF hch 3 rfl (by kernel_rfl) rfl rfl rfl (fun w hM=>(dE hF rfl rfl)) fun a hF=>?_
    refine aK hF hch 4 rfl (by kernel_rfl) rfl rfl rfl (fun w hM=>(aF hF rfl rfl)) fun a hF=>?_
    refine bE 78 hF rfl (fun c5=>?_) (fun c5=>?_)
    ·have hP:=Fx.cT c5 hP
     refine aZ hF hch 5 rfl (by kernel_rfl) rfl rfl rfl c5 rfl rfl fun a hF=>?_
     refine aZ hF hch 6 rfl (by kernel_rfl) rfl rfl rfl c5 rfl rfl fun a hF=>?_
     refine aZ hF hch 7 rfl (by kernel_rfl) rfl rfl rfl c5 rfl rfl fun a hF=>?_
     refine aZ hF hch 8 rfl (by kernel_rfl) rfl rfl rfl c5 rfl rfl fun a hF=>?_
     refine aZ hF hch 9 rfl (by kernel_rfl) rfl rfl rfl c5 rfl rfl fun a hF=>?_
     refine aK hF hch 10 rfl (by kernel_rfl) rfl rfl rfl (fun w hM=>(aP hF rfl rfl c5 rfl)) fun a hF=>?_
     refine aK hF hch 11 rfl (by kernel_rfl) rfl rfl rfl (fun w hM=>(aF hF rfl rfl)) fun a hF=>?_
     refine aZ hF hch 12 rfl (by kernel_rfl) rfl rfl rfl rfl rfl rfl fun a hF=>?_
     refine aZ hF hch 13 rfl (by kernel_rfl) rfl rfl rfl rfl rfl rfl fun a hF=>?_
     refine aZ hF hch 14 rfl (by kernel_rfl) rfl rfl rfl rfl rfl rfl fun a hF=>?_
     refine cA hF hch 15 rfl (by kernel_rfl) rfl rfl rfl rfl rfl fun a hF=>?_
     refine cA hF hch 16 rfl (by kernel_rfl) rfl rfl rfl rfl rfl fun a hF=>?_
     refine cA hF hch 17 rfl (by kernel_rfl) rfl rfl rfl rfl rfl fun a hF=>?_
     refine cA hF hch 18 rfl (by kernel_rfl) rfl rfl rfl rfl rfl fun a hF=>?_
     refine cA hF hch 19 rfl (by kernel_rfl) rfl rfl rfl rfl rfl fun a hF=>?_
     refine cA hF hch 20 rfl (by kernel_rfl) rfl rfl rfl rfl rfl fun a hF=>?_
     refine cA hF hch 21 rfl (by kernel_rfl) rfl rfl rfl rfl rfl fun a hF=>?_
     refine cA hF hch 22 rfl (by kernel_rfl) rfl rfl rfl rfl rfl fun a hF=>?_
     refine cA hF hch 23 rfl (by kernel_rfl) rfl rfl rfl rfl rfl fun a hF=>?_
     refine cA hF hch 24 rfl (by kernel_rfl) rfl rfl rfl rfl rfl fun a hF=>?_
     refine aZ hF hch 25 rfl (by kernel_rfl) rfl rfl rfl rfl rfl rfl fun a hF=>?_
     refine aK hF hch 26 rfl (by kernel_rfl) rfl rfl rfl (fun w hM=>(aP hF rfl rfl rfl rfl)) fun a hF=>?_
     refine bW hch (by kernel_rfl) fun w hM=>?_
     refine aB ?_
     have hP:=oI hP
     subst hP
     exact ⟨true,rfl,hF.to ⟨rfl,rfl,rfl,rfl,trivial⟩,selM hM [1] 2 rfl⟩
    have hP:=Fx.cF c5 hP
    refine bQ hF hch 5 rfl (by kernel_rfl) rfl rfl rfl c5 rfl rfl (fun w hM=>(aC (off':=1) qU151 rfl in50 rfl hF rfl rfl rfl)) fun a hF=>?_
    refine bQ hF hch 6 rfl (by kernel_rfl) rfl rfl rfl c5 rfl rfl (fun w hM=>(aQ qA50 qS50 hF rfl rfl (LSlot.len _) (hM.cells (i:=0) rfl (LCell.c_old _)))) fun a hF=>?_
    refine bQ hF hch 7 rfl (by kernel_rfl) rfl rfl rfl c5 rfl rfl (fun w hM=>(aC (off':=14) qU151 rfl in50 rfl hF rfl rfl rfl)) fun a hF=>?_
    refine bQ hF hch 8 rfl (by kernel_rfl) rfl rfl rfl c5 rfl rfl (fun w hM=>(aQ qA50 qS50 hF rfl rfl (LSlot.len _) (hM.cells (i:=0) rfl (LCell.c_new _)))) fun a hF=>?_
    refine bQ hF hch 9 rfl (by kernel_rfl) rfl rfl rfl c5 rfl rfl (fun w hM=>(jJ qG50 (gR _ _ _ _ (by decide)) hF rfl rfl rfl)) fun a hF=>?_
    refine aK hF hch 10 rfl (by kernel_rfl) rfl rfl rfl (fun w hM=>(aX hF rfl rfl c5 rfl)) fun a hF=>?_
    refine aK hF hch 11 rfl (by kernel_rfl) rfl rfl rfl (fun w hM=>(aF hF rfl rfl)) fun a hF=>?_
    refine bE 85 hF rfl (fun c6=>?_) (fun c6=>?_)
    ·have hP:=Fx.cT c6 hP
     refine aZ hF hch 12 rfl (by kernel_rfl) rfl rfl rfl c6 rfl rfl fun a hF=>?_
     refine aZ hF hch 13 rfl (by kernel_rfl) rfl rfl rfl c6 rfl rfl fun a hF=>?_
     refine aZ hF hch 14 rfl (by kernel_rfl) rfl rfl rfl c6 rfl rfl fun a hF=>?_
     refine cA hF hch 15 rfl (by kernel_rfl) rfl rfl rfl rfl rfl fun a hF=>?_
     refine cA hF hch 16 rfl (by kernel_rfl) rfl rfl rfl rfl rfl fun a hF=>?_
     refine cA hF hch 17 rfl (by kernel_rfl) rfl rfl rfl rfl rfl fun a hF=>?_
     refine cA hF hch 18 rfl (by kernel_rfl) rfl rfl rfl rfl rfl fun a hF=>?_
     refine cA hF hch 19 rfl (by kernel_rfl) rfl rfl rfl rfl rfl fun a hF=>?_
     refine cA hF hch 20 rfl (by kernel_rfl) rfl rfl rfl rfl rfl fun a hF=>?_
     refine cA hF hch 21 rfl (by kernel_rfl) rfl rfl rfl rfl rfl fun a hF=>?_
     refine cA hF hch 22 rfl (by kernel_rfl) rfl rfl rfl rfl rfl fun a hF=>?_
     refine cA hF hch 23 rfl (by kernel_rfl) rfl rfl rfl rfl rfl fun a hF=>?_
     refine cA hF hch 24 rfl (by kernel_rfl) rfl rfl rfl rfl rfl fun a hF=>?_
     refine aZ hF hch 25 rfl (by kernel_rfl) rfl rfl rfl c6 rfl rfl fun a hF=>?_
     refine aK hF hch 26 rfl (by kernel_rfl) rfl rfl rfl (fun w hM=>(aP hF rfl rfl c6 rfl)) fun a hF=>?_
     refine bW hch (by kernel_rfl) fun w hM=>?_
     refine aB ?_
     have hP:=oI hP
     subst hP
     exact ⟨true,rfl,hF.to ⟨rfl,rfl,rfl,rfl,trivial⟩,selM hM [1] 2 rfl⟩
    have hP:=Fx.cF c6 hP
    refine bQ hF hch 12 rfl (by kernel_rfl) rfl rfl rfl c6 rfl rfl (fun w hM=>(aF hF rfl rfl)) fun a hF=>?_
    refine bQ hF hch 13 rfl (by kernel_rfl) rfl rfl rfl c6 rfl rfl (fun w hM=>(eS hF rfl rfl rfl)) fun a hF=>?_
    refine bQ hF hch 14 rfl (by kernel_rfl) rfl rfl rfl c6 rfl rfl (fun w hM=>(aF hF rfl rfl)) fun a hF=>?_
    refine bE 88 hF rfl (fun c2=>?_) (fun c2=>?_)
    ·have hP:=Fx.cT c2 hP
     refine bQ hF hch 15 rfl (by kernel_rfl) rfl rfl rfl c2 rfl rfl (fun w hM=>(aC (off':=0) qU151 rfl in3 rfl hF rfl rfl rfl)) fun a hF=>?_
     refine bQ hF hch 16 rfl (by kernel_rfl) rfl rfl rfl c2 rfl rfl (fun w hM=>(aI qA3 hF rfl rfl (hM.cell (i:=0) rfl (LCell.g_slot _)))) fun a hF=>?_
     refine bQ hF hch 17 rfl (by kernel_rfl) rfl rfl rfl c2 rfl rfl (fun w hM=>(aC (off':=4) qU60 rfl in57 rfl hF rfl rfl rfl)) fun a hF=>?_
     refine bQ hF hch 18 rfl (by kernel_rfl) rfl rfl rfl c2 rfl rfl (fun w hM=>(aI qA57 hF rfl rfl (hM.cell (i:=1) rfl (RMark.g_slots _)))) fun a hF=>?_
     refine bQ hF hch 19 rfl (by kernel_rfl) rfl rfl rfl c2 rfl rfl (fun w hM=>(aF hF rfl rfl)) fun a hF=>?_
     refine bQ hF hch 20 rfl (by kernel_rfl) rfl rfl rfl c2 rfl rfl (fun w hM=>(eV hF rfl rfl rfl)) fun a hF=>?_
     obtain ⟨j6,g5,hP⟩:=bind_some hP
     have i5:=aM g5
     refine bQ hF hch 21 rfl (by kernel_rfl) rfl rfl rfl c2 rfl rfl (fun w hM=>(aS (sz:=27) (f4 _ (hsub _ (dropM hM 2))) qU57 in151 rfl hF rfl rfl rfl (bG g5))) fun a hF=>?_
     refine bQ hF hch 22 rfl (by kernel_rfl) rfl rfl rfl c2 rfl rfl (fun w hM=>(aC qU151 rfl in3 rfl hF rfl rfl rfl)) fun a hF=>?_
     refine bQ hF hch 23 rfl (by kernel_rfl) rfl rfl rfl c2 rfl rfl (fun w hM=>(aI qA3 hF rfl rfl ((((f4 _ (hsub _ (dropM hM 2))).elemS i5.2)).get 0 (LCell.g_slot _)))) fun a hF=>?_
     refine bQ hF hch 24 rfl (by kernel_rfl) rfl rfl rfl c2 rfl rfl (fun w hM=>(qI hF rfl rfl rfl)) fun a hF=>?_
     refine bQ hF hch 25 rfl (by kernel_rfl) rfl rfl rfl c6 rfl rfl (fun w hM=>(aP hF rfl rfl c2 rfl)) fun a hF=>?_
     refine aK hF hch 26 rfl (by kernel_rfl) rfl rfl rfl (fun w hM=>(aX hF rfl rfl c6 rfl)) fun a hF=>?_
     refine bW hch (by kernel_rfl) fun w hM=>?_
     refine aB ?_
     have hP:=oI hP
     subst hP
     exact ⟨(decide (g1.slot ≤ j6.slot)),rfl,hF.to ⟨rfl,rfl,rfl,rfl,trivial⟩,selM hM [1] 2 rfl⟩
    have hP:=Fx.cF c2 hP
    refine aZ hF hch 15 rfl (by kernel_rfl) rfl rfl rfl c2 rfl rfl fun a hF=>?_
    refine aZ hF hch 16 rfl (by kernel_rfl) rfl rfl rfl c2 rfl rfl fun a hF=>?_
    refine aZ hF hch 17 rfl (by kernel_rfl) rfl rfl rfl c2 rfl rfl fun a hF=>?_
    refine aZ hF hch 18 rfl (by kernel_rfl) rfl rfl rfl c2 rfl rfl fun a hF=>?_
    refine aZ hF hch 19 rfl (by kernel_rfl) rfl rfl rfl c2 rfl rfl fun a hF=>?_
    refine aZ hF hch 20 rfl (by kernel_rfl) rfl rfl rfl c2 rfl rfl fun a hF=>?_
    refine aZ hF hch 21 rfl (by kernel_rfl) rfl rfl rfl c2 rfl rfl fun a hF=>?_
    refine aZ hF hch 22 rfl (by kernel_rfl) rfl rfl rfl c2 rfl rfl fun a hF=>?_
    refine aZ hF hch 23 rfl (by kernel_rfl) rfl rfl rfl c2 rfl rfl fun a hF=>?_
    refine aZ hF hch 24 rfl (by kernel_rfl) rfl rfl rfl c2 rfl rfl fun a hF=>?_
    refine bQ hF hch 25 rfl (by kernel_rfl) rfl rfl rfl c6 rfl rfl (fun w hM=>(aX hF rfl rfl c2 rfl)) fun a hF=>?_
    refine aK hF hch 26 rfl (by kernel_rfl) rfl rfl rfl (fun w hM=>(aX hF rfl rfl c6 rfl)) fun a hF=>?_
    refine bW hch (by kernel_rfl) fun w hM=>?_
    refine aB ?_
    have hP:=oI hP
    subst hP
    exact ⟨false,rfl,hF.to ⟨rfl,rfl,rfl,rfl,trivial⟩,selM hM [1] 2 rfl⟩
   rintro d9 a w hP ⟨hF,hM⟩
   replace hP:Sh.pM d0 d9 = _:=hP
   unfold Sh.pM at hP
   refine aB ?_
   refine aV hF (c:=.tmp 100) rfl (fun d6=>?_) (fun d6=>?_)
   ·have hP:=Fx.cT d6 hP
    refine aG ?_
    refine aD ?_
    refine aA hF (aH hF rfl rfl) rfl rfl rfl fun a hF=>?_
    refine aJ (aB ?_)
    refine c_ret ?_
    have hP:=oI hP
    subst hP
    have hP:=i1 _ rfl
    subst hP
    have hP:=dB j2
    subst hP
    refine bH qR135 hF rfl ?_
    exact ⟨rfl,selM hM [] 1 rfl⟩
   have hP:=Fx.cF d6 hP
   refine aW (bK (aB ?_))
   refine aD ?_
   refine aA hF (aF hF rfl rfl) rfl rfl rfl fun a hF=>?_
   refine aA hF (bX hF rfl rfl rfl) rfl rfl rfl fun a hF=>?_
   refine aA hF (aH hF rfl rfl) rfl rfl rfl fun a hF=>?_
   refine aJ (aB ?_)
   have hP:=oI hP
   subst hP
   exact ⟨(IntKind.i64.wrap (d0 + 1)),rfl,hF.to ⟨rfl,rfl,rfl,trivial⟩,hM⟩
  have hP:=Fx.cF d5 hP
  refine bY (bD (bD (cJ ?_)))
  refine aB ?_
  have hP:=oI hP
  subst hP
  have hP:=i1 _ rfl
  subst hP
  exact ⟨(),rfl,hF.to ⟨rfl,rfl,trivial⟩,hM⟩
 rintro ⟨⟩ a w hP ⟨hF,hM⟩
 replace hP:Sh.mX x0 = _:=hP
 unfold Sh.mX at hP
 refine aB ?_
 refine aG ?_
 refine aD ?_
 refine aA hF (aC (off':=5) qU60 rfl in58 rfl hF rfl rfl rfl) rfl rfl rfl fun a hF=>?_
 refine aA hF (aI qA58 hF rfl rfl (hM.cell (i:=0) rfl (RMark.g_pieces _))) rfl rfl rfl fun a hF=>?_
 obtain ⟨k5,j0,hP⟩:=bind_some hP
 refine aO hF rfl rfl rfl (aN (xs:=[.tmp 102]) Tryz.call198 hF rfl rfl (pK j0 hM (Bf:=Bf) (fun w hM=>hsub _ (dropM hM 1)) f7 q8) fun v w hR=>?_)
 obtain ⟨rfl,hM⟩:=hR
 replace hM:MemL _ (pt c0 (RMark.enc (mMk x0 s1 s3 s5 s9)) 60 :: Lr):=hM
 intro a hF
 refine aA hF (aH hF rfl rfl) rfl rfl rfl fun a hF=>?_
 refine aJ (aB ?_)
 refine c_ret ?_
 have hP:=oI hP
 subst hP
 refine bH qR135 hF rfl ?_
 exact ⟨rfl,selM hM [] 1 rfl⟩
end Go.Proofs
end
