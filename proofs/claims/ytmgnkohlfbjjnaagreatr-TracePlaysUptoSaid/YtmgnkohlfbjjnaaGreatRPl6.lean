/- Ground for this claim: The call of TracePlays returns true. Condition: the arguments are of bulk at most 1048576. -/
import Derived.Test.YtmgnkohlfbjjnaaGreatRProg
import Derived.KernelRfl
import Derived.Test.YtmgnkohlfbjjnaaGreatRPl5
set_option linter.unusedVariables false
set_option linter.unusedSimpArgs false
section
namespace Go.Proofs
open Go.Fw
set_option maxRecDepth 20000
theorem mixed:Tryz.prog.follows .mixedOrders = true:=by kernel_rfl
theorem gA (d:Nat) (x y:LVal) (w:World) (hd:3 ≤ d):(Op.equalIn d 46 (.agg x.enc.toArray) (.agg y.enc.toArray)).run Tryz.prog w = .ok (decide (x = y)) w:=by
  obtain ⟨d,rfl⟩ : ∃ d',d = d' + 1:=⟨d - 1,by omega⟩
  rw [run_equalIn_struct w d 46 _ _ (by simp only [Program.fieldsOf,Tryz.underlying46]) Tryz.stoodInHeld46]
  simp only [Program.fieldsOf,Tryz.underlying46]
  have key:(x = y) ↔ x.kind = y.kind ∧ x.table = y.table ∧ x.row = y.row ∧ x.x = y.x:=by cases x; cases y; simp
  rw [dS (by decide) Tryz.isAgg3 (LVal.g_kind x) (LVal.g_kind y) ((EqSpec.int (k:=.i64) Tryz.underlying3) d _ _ w (by omega))]
  rw [dS (by decide) Tryz.isAgg3 (LVal.g_table x) (LVal.g_table y) ((EqSpec.int (k:=.i64) Tryz.underlying3) d _ _ w (by omega))]
  rw [dS (by decide) Tryz.isAgg3 (LVal.g_row x) (LVal.g_row y) ((EqSpec.int (k:=.i64) Tryz.underlying3) d _ _ w (by omega))]
  rw [dS (by decide) Tryz.isAgg3 (LVal.g_x x) (LVal.g_x y) ((EqSpec.int (k:=.i64) Tryz.underlying3) d _ _ w (by omega))]
  rw [fZ]
  simp only [decide_eq_true_eq,key]
  repeat' split
  all_goals simp_all
theorem zB:∀ (d:Nat) (x y:Vec UInt8 8) (w:World),2 ≤ d → (Op.equalIn d 48 (.agg (encs x.l).toArray) (.agg (encs y.l).toArray)).run Tryz.prog w = .ok (decide (x = y)) w :=
  EqSpec.vecOne Tryz.underlying48 Tryz.sizeOf5 rfl Tryz.isAgg5 (fun _=>rfl) (EqSpec.u8 Tryz.underlying5)
theorem gR (d:Nat) (x y:LSlot) (w:World) (hd:6 ≤ d):(Op.equalIn d 50 (.agg x.enc.toArray) (.agg y.enc.toArray)).run Tryz.prog w = .ok (decide (x = y)) w:=by
  obtain ⟨d,rfl⟩ : ∃ d',d = d' + 1:=⟨d - 1,by omega⟩
  rw [run_equalIn_struct w d 50 _ _ (by simp only [Program.fieldsOf,Tryz.underlying50]) Tryz.stoodInHeld50]
  simp only [Program.fieldsOf,Tryz.underlying50]
  have key:(x = y) ↔ x.ptr = y.ptr ∧ x.bytes = y.bytes ∧ x.mask = y.mask:=by cases x; cases y; simp
  rw [gX (by decide) Tryz.isAgg46 Tryz.sizeOf46 (LSlot.c_ptr x) (LSlot.c_ptr y) (gA d _ _ w (by omega))]
  rw [gX (by decide) Tryz.isAgg48 Tryz.sizeOf48 (LSlot.c_bytes x) (LSlot.c_bytes y) (zB d _ _ w (by omega))]
  rw [dS (by decide) Tryz.isAgg3 (LSlot.g_mask x) (LSlot.g_mask y) ((EqSpec.int (k:=.i64) Tryz.underlying3) d _ _ w (by omega))]
  rw [fZ]
  simp only [decide_eq_true_eq,key]
  repeat' split
  all_goals simp_all
theorem aEu (d:Nat) (x y:LTurn) (w:World) (hd:6 ≤ d):(Op.equalIn d 128 (.agg x.enc.toArray) (.agg y.enc.toArray)).run Tryz.prog w = .ok (decide (x = y)) w:=by
  obtain ⟨d,rfl⟩ : ∃ d',d = d' + 1:=⟨d - 1,by omega⟩
  rw [run_equalIn_struct w d 128 _ _ (by simp only [Program.fieldsOf,Tryz.underlying128]) Tryz.stoodInHeld128]
  simp only [Program.fieldsOf,Tryz.underlying128]
  have key:(x = y) ↔ x.reg = y.reg ∧ x.old = y.old ∧ x.new = y.new:=by cases x; cases y; simp
  rw [dS (by decide) Tryz.isAgg3 (LTurn.g_reg x) (LTurn.g_reg y) ((EqSpec.int (k:=.i64) Tryz.underlying3) d _ _ w (by omega))]
  rw [gX (by decide) Tryz.isAgg46 Tryz.sizeOf46 (LTurn.c_old x) (LTurn.c_old y) (gA d _ _ w (by omega))]
  rw [gX (by decide) Tryz.isAgg46 Tryz.sizeOf46 (LTurn.c_new x) (LTurn.c_new y) (gA d _ _ w (by omega))]
  rw [fZ]
  simp only [decide_eq_true_eq,key]
  repeat' split
  all_goals simp_all
theorem aEt (d:Nat) (x y:LCell) (w:World) (hd:8 ≤ d):(Op.equalIn d 151 (.agg x.enc.toArray) (.agg y.enc.toArray)).run Tryz.prog w = .ok (decide (x = y)) w:=by
  obtain ⟨d,rfl⟩ : ∃ d',d = d' + 1:=⟨d - 1,by omega⟩
  rw [run_equalIn_struct w d 151 _ _ (by simp only [Program.fieldsOf,Tryz.underlying151]) Tryz.stoodInHeld151]
  simp only [Program.fieldsOf,Tryz.underlying151]
  have key:(x = y) ↔ x.slot = y.slot ∧ x.old = y.old ∧ x.new = y.new:=by cases x; cases y; simp
  rw [dS (by decide) Tryz.isAgg3 (LCell.g_slot x) (LCell.g_slot y) ((EqSpec.int (k:=.i64) Tryz.underlying3) d _ _ w (by omega))]
  rw [gX (by decide) Tryz.isAgg50 Tryz.sizeOf50 (LCell.c_old x) (LCell.c_old y) (gR d _ _ w (by omega))]
  rw [gX (by decide) Tryz.isAgg50 Tryz.sizeOf50 (LCell.c_new x) (LCell.c_new y) (gR d _ _ w (by omega))]
  rw [fZ]
  simp only [decide_eq_true_eq,key]
  repeat' split
  all_goals simp_all
theorem aEv:∀ (d:Nat) (x y:Vec LVal 11) (w:World),9 ≤ d → (Op.equalIn d 47 (.agg (encs x.l).toArray) (.agg (encs y.l).toArray)).run Tryz.prog w = .ok (decide (x = y)) w :=
  EqSpec.vecAgg Tryz.underlying47 Tryz.sizeOf46 Tryz.isAgg46 fun d x y w h=>gA d x y w (by omega)
theorem aEw:∀ (d:Nat) (x y:Vec LSlot 32) (w:World),9 ≤ d → (Op.equalIn d 51 (.agg (encs x.l).toArray) (.agg (encs y.l).toArray)).run Tryz.prog w = .ok (decide (x = y)) w :=
  EqSpec.vecAgg Tryz.underlying51 Tryz.sizeOf50 Tryz.isAgg50 fun d x y w h=>gR d x y w (by omega)
theorem z46 (w:World):(zeroValue 46).run Tryz.prog w = .ok (.agg LVal.zero.enc.toArray) w:=(Tryz.zeroValue46 w).trans (by kernel_rfl)
theorem z50 (w:World):(zeroValue 50).run Tryz.prog w = .ok (.agg LSlot.zero.enc.toArray) w:=(Tryz.zeroValue50 w).trans (by kernel_rfl)
theorem z128 (w:World):(zeroValue 128).run Tryz.prog w = .ok (.agg LTurn.zero.enc.toArray) w:=(Tryz.zeroValue128 w).trans (by kernel_rfl)
theorem z151 (w:World):(zeroValue 151).run Tryz.prog w = .ok (.agg LCell.zero.enc.toArray) w:=(Tryz.zeroValue151 w).trans (by kernel_rfl)
theorem z156 (w:World):(zeroValue 156).run Tryz.prog w = .ok (.agg RPiece.zero.enc.toArray) w:=(Tryz.zeroValue156 w).trans (by kernel_rfl)
theorem z60 (w:World):(zeroValue 60).run Tryz.prog w = .ok (.agg RMark.zero.enc.toArray) w:=(Tryz.zeroValue60 w).trans (by kernel_rfl)
theorem z30 (w:World):(zeroValue 30).run Tryz.prog w = .ok (.agg RInput.zero.enc.toArray) w:=(Tryz.zeroValue30 w).trans (by kernel_rfl)
theorem z36 (w:World):(zeroValue 36).run Tryz.prog w = .ok (.agg RRecord.zero.enc.toArray) w:=(Tryz.zeroValue36 w).trans (by kernel_rfl)
theorem z54 (w:World):(zeroValue 54).run Tryz.prog w = .ok (.agg RState.zero.enc.toArray) w:=by
  rw [Tryz.zeroValue54]
  have:Tryz.zeroCells54 = RState.zero.enc.toArray:=by kernel_rfl
  rw [this]
theorem in3:Tryz.prog.info? 3 = some Tryz.t3:=by kernel_rfl
theorem in4:Tryz.prog.info? 4 = some Tryz.t4:=by kernel_rfl
theorem in5:Tryz.prog.info? 5 = some Tryz.t5:=by kernel_rfl
theorem in23:Tryz.prog.info? 23 = some Tryz.t23:=by kernel_rfl
theorem in28:Tryz.prog.info? 28 = some Tryz.t28:=by kernel_rfl
theorem in30:Tryz.prog.info? 30 = some Tryz.t30:=by kernel_rfl
theorem in33:Tryz.prog.info? 33 = some Tryz.t33:=by kernel_rfl
theorem in34:Tryz.prog.info? 34 = some Tryz.t34:=by kernel_rfl
theorem in46:Tryz.prog.info? 46 = some Tryz.t46:=by kernel_rfl
theorem in47:Tryz.prog.info? 47 = some Tryz.t47:=by kernel_rfl
theorem in48:Tryz.prog.info? 48 = some Tryz.t48:=by kernel_rfl
theorem in50:Tryz.prog.info? 50 = some Tryz.t50:=by kernel_rfl
theorem in51:Tryz.prog.info? 51 = some Tryz.t51:=by kernel_rfl
theorem in52:Tryz.prog.info? 52 = some Tryz.t52:=by kernel_rfl
theorem in56:Tryz.prog.info? 56 = some Tryz.t56:=by kernel_rfl
theorem in57:Tryz.prog.info? 57 = some Tryz.t57:=by kernel_rfl
theorem in58:Tryz.prog.info? 58 = some Tryz.t58:=by kernel_rfl
theorem in60:Tryz.prog.info? 60 = some Tryz.t60:=by kernel_rfl
theorem in128:Tryz.prog.info? 128 = some Tryz.t128:=by kernel_rfl
theorem in151:Tryz.prog.info? 151 = some Tryz.t151:=by kernel_rfl
theorem in156:Tryz.prog.info? 156 = some Tryz.t156:=by kernel_rfl
theorem pl46:∀ w,(plc Tryz.prog 46).run Tryz.prog w = .ok #[(0,1),(1,1),(2,1),(3,1)] w:=fun w=>by kernel_rfl
theorem pl128:∀ w,(plc Tryz.prog 128).run Tryz.prog w = .ok #[(0,1),(1,4),(5,4)] w:=fun w=>by kernel_rfl
theorem pl151:∀ w,(plc Tryz.prog 151).run Tryz.prog w = .ok #[(0,1),(1,13),(14,13)] w:=fun w=>by kernel_rfl
theorem pl156:∀ w,(plc Tryz.prog 156).run Tryz.prog w = .ok #[(0,1),(1,1),(2,1),(3,1)] w:=fun w=>by kernel_rfl
theorem pl60:∀ w,(plc Tryz.prog 60).run Tryz.prog w = .ok #[(0,1),(1,1),(2,1),(3,1),(4,1),(5,1),(6,1)] w:=fun w=>by kernel_rfl
theorem pl30:∀ w,(plc Tryz.prog 30).run Tryz.prog w = .ok #[(0,1),(1,1)] w:=fun w=>by kernel_rfl
theorem pl36:∀ w,(plc Tryz.prog 36).run Tryz.prog w = .ok #[(0,2),(2,1),(3,1)] w:=fun w=>by kernel_rfl
theorem pl54:∀ w,(plc Tryz.prog 54).run Tryz.prog w = .ok #[(0,44),(44,416),(460,1),(461,1),(462,1),(463,1),(464,1),(465,1)] w:=fun w=>by kernel_rfl
abbrev qC124:=@Tryz.call124
abbrev qC159:=@Tryz.call159
abbrev qC43:=@Tryz.call43
abbrev qG46:=@Tryz.eqGuardType46
abbrev qG50:=@Tryz.eqGuardType50
abbrev qA128:=@Tryz.isAgg128
abbrev qA151:=@Tryz.isAgg151
abbrev qA156:=@Tryz.isAgg156
abbrev qA23:=@Tryz.isAgg23
abbrev qA28:=@Tryz.isAgg28
abbrev qA3:=@Tryz.isAgg3
abbrev qA30:=@Tryz.isAgg30
abbrev qA33:=@Tryz.isAgg33
abbrev qA34:=@Tryz.isAgg34
abbrev qA36:=@Tryz.isAgg36
abbrev qA4:=@Tryz.isAgg4
abbrev qA46:=@Tryz.isAgg46
abbrev qA5:=@Tryz.isAgg5
abbrev qA50:=@Tryz.isAgg50
abbrev qA52:=@Tryz.isAgg52
abbrev qA54:=@Tryz.isAgg54
abbrev qA56:=@Tryz.isAgg56
abbrev qA57:=@Tryz.isAgg57
abbrev qA58:=@Tryz.isAgg58
abbrev qA60:=@Tryz.isAgg60
abbrev qN171:=@Tryz.ntmps171
abbrev qR126:=@Tryz.results126
abbrev qR135:=@Tryz.results135
abbrev qR136:=@Tryz.results136
abbrev qR166:=@Tryz.results166
abbrev qR171:=@Tryz.results171
abbrev qR173:=@Tryz.results173
abbrev qR192:=@Tryz.results192
abbrev qR198:=@Tryz.results198
abbrev qR226:=@Tryz.results226
abbrev qR33:=@Tryz.results33
abbrev qR38:=@Tryz.results38
abbrev qR51:=@Tryz.results51
abbrev qR56:=@Tryz.results56
abbrev qR61:=@Tryz.results61
abbrev qR63:=@Tryz.results63
abbrev qS128:=@Tryz.sizeOf128
abbrev qS151:=@Tryz.sizeOf151
abbrev qS156:=@Tryz.sizeOf156
abbrev qS23:=@Tryz.sizeOf23
abbrev qS28:=@Tryz.sizeOf28
abbrev qS3:=@Tryz.sizeOf3
abbrev qS30:=@Tryz.sizeOf30
abbrev qS34:=@Tryz.sizeOf34
abbrev qS36:=@Tryz.sizeOf36
abbrev qS46:=@Tryz.sizeOf46
abbrev qS5:=@Tryz.sizeOf5
abbrev qS50:=@Tryz.sizeOf50
abbrev qS52:=@Tryz.sizeOf52
abbrev qS54:=@Tryz.sizeOf54
abbrev qS56:=@Tryz.sizeOf56
abbrev qS57:=@Tryz.sizeOf57
abbrev qS58:=@Tryz.sizeOf58
abbrev qS60:=@Tryz.sizeOf60
abbrev qU128:=@Tryz.underlying128
abbrev qU151:=@Tryz.underlying151
abbrev qU156:=@Tryz.underlying156
abbrev qU23:=@Tryz.underlying23
abbrev qU28:=@Tryz.underlying28
abbrev qU30:=@Tryz.underlying30
abbrev qU33:=@Tryz.underlying33
abbrev qU36:=@Tryz.underlying36
abbrev qU46:=@Tryz.underlying46
abbrev qU47:=@Tryz.underlying47
abbrev qU5:=@Tryz.underlying5
abbrev qU51:=@Tryz.underlying51
abbrev qU52:=@Tryz.underlying52
abbrev qU54:=@Tryz.underlying54
abbrev qU56:=@Tryz.underlying56
abbrev qU57:=@Tryz.underlying57
abbrev qU58:=@Tryz.underlying58
abbrev qU60:=@Tryz.underlying60
abbrev qU9:=@Tryz.underlying9
section
open Go.Fw Go.Fx
abbrev zSt:RState:=RState.mk (⟨List.replicate 11 LVal.zero,rfl⟩ : Vec LVal 11) (⟨List.replicate 32 LSlot.zero,rfl⟩ : Vec LSlot 32) SV.nil SV.nil SV.nil 0 0 false
abbrev zRc:RRecord:=RRecord.mk (RInput.mk SV.nil SV.nil) SV.nil 0
abbrev mRc (x:QRecord) (a b c:SV):RRecord:=RRecord.mk (RInput.mk a b) c x.end_
abbrev mPc (x:QPiece) (a b:SV):RPiece:=RPiece.mk x.table x.from_ a b
abbrev zMk:RMark:=RMark.mk 0 0 false SV.nil SV.nil SV.nil SV.nil
abbrev mSt (x:QState) (a b c:SV):RState:=RState.mk x.regs x.stack a b c x.at_ x.steps x.done
abbrev mMk (x:QMark) (a b c d:SV):RMark:=RMark.mk x.at_ x.next x.done a b c d
theorem oI {α:Type} {a b:α} (h:some a = some b):a = b:=Option.some.inj h
end
theorem E.{u} {α:Sort u} {a:α}:a = a:=rfl
end Go.Proofs
end
section
namespace Go.Proofs
open Go.Fw Go.Fx
set_option maxRecDepth 10000
theorem eH {x0:List UInt8} {s:SV} {Bf:World → Prop} {Lr:List Res} {out:List UInt8} {w0:World} (I:Sh.eB x0 = some out) (H:MemL w0 Lr) (S:∀ w,MemL w Lr → Bf w) (f:LIn Bf s x0):Calls Tryz.prog 73 #[(s).v] w0 (Ret fun v w'=>∃ (s:SV),v = (s).v ∧ MemL w' (rowL 0 s 5 out::Lr)):=by
 unfold Sh.eB at I
 refine aR (vs:=[(s).v]) Tryz.func73 E Tryz.ntmps73 E fun a G=>?_
 refine aG ?_
 refine aD ?_
 refine aA G (aH G E E) E E E fun a G=>?_
 refine aJ (aB ?_)
 refine aG ?_
 refine aG ?_
 refine aD ?_
 refine aA G (aF G E E) E E E fun a G=>?_
 refine aA G (iX qU23 G E E E) E E E fun a G=>?_
 refine aJ (aB ?_)
 refine aT G (c:=.tmp 4) E (fun hb=>?_) (fun hb=>?_)
 ·have hn:=(f _ (S _ H)).isNil hb
  subst hn
  have ho:=(dM I).2
  subst ho
  refine aG ?_
  refine aD ?_
  refine aA G (aH G E E) E E E fun a G=>?_
  refine aJ (aB ?_)
  refine c_ret ?_
  refine mY ?_
  refine bJ Tryz.results73 G E ?_
  exact ⟨SV.nil,E,H.rowNil (X:=UInt8) 0 5⟩
 refine aW (aB ?_)
 refine aG ?_
 refine aD ?_
 refine aN G E E E (fW (X:=UInt8) 0 (Nat.zero_le _) qU23 in5 E fun s1 w hA=>?_)
 have H:=H.plus hA
 intro a G
 refine aA G (aF G E E) E E E fun a G=>?_
 refine aN G E E E (dC (X:=UInt8) I qU23 in5 E E E E G E E E (H.own (X:=UInt8) (i:=0) E) (f _ (S _ (dropM H 1))) fun s2 w hU=>?_)
 have H:=H.chg hU (i:=0) rfl
 intro a G
 refine aA G (aH G E E) E E E fun a G=>?_
 refine aJ (aB ?_)
 refine c_ret ?_
 refine bJ Tryz.results73 G E ?_
 exact ⟨s2,E,H⟩
theorem fA {x0:List Int} {s:SV} {Bf:World → Prop} {Lr:List Res} {out:List Int} {w0:World} (I:Sh.eA x0 = some out) (H:MemL w0 Lr) (S:∀ w,MemL w Lr → Bf w) (f:LIn Bf s x0):Calls Tryz.prog 134 #[(s).v] w0 (Ret fun v w'=>∃ (s:SV),v = (s).v ∧ MemL w' (rowL 0 s 3 out::Lr)):=by
 unfold Sh.eA at I
 refine aR (vs:=[(s).v]) Tryz.func134 E Tryz.ntmps134 E fun a G=>?_
 refine aG ?_
 refine aD ?_
 refine aA G (aH G E E) E E E fun a G=>?_
 refine aJ (aB ?_)
 refine aG ?_
 refine aG ?_
 refine aD ?_
 refine aA G (aF G E E) E E E fun a G=>?_
 refine aA G (iX qU52 G E E E) E E E fun a G=>?_
 refine aJ (aB ?_)
 refine aT G (c:=.tmp 4) E (fun hb=>?_) (fun hb=>?_)
 ·have hn:=(f _ (S _ H)).isNil hb
  subst hn
  have ho:=(dM I).2
  subst ho
  refine aG ?_
  refine aD ?_
  refine aA G (aH G E E) E E E fun a G=>?_
  refine aJ (aB ?_)
  refine c_ret ?_
  refine mY ?_
  refine bJ Tryz.results134 G E ?_
  exact ⟨SV.nil,E,H.rowNil (X:=Int) 0 3⟩
 refine aW (aB ?_)
 refine aG ?_
 refine aD ?_
 refine aN G E E E (fW (X:=Int) 0 (Nat.zero_le _) qU52 in3 E fun s1 w hA=>?_)
 have H:=H.plus hA
 intro a G
 refine aA G (aF G E E) E E E fun a G=>?_
 refine aN G E E E (dC (X:=Int) I qU52 in3 E E E E G E E E (H.own (X:=Int) (i:=0) E) (f _ (S _ (dropM H 1))) fun s2 w hU=>?_)
 have H:=H.chg hU (i:=0) rfl
 intro a G
 refine aA G (aH G E E) E E E fun a G=>?_
 refine aJ (aB ?_)
 refine c_ret ?_
 refine bJ Tryz.results134 G E ?_
 exact ⟨s2,E,H⟩
theorem jG {x0:List (List UInt8)} {hs:List SV} {s:SV} {Bf:World → Prop} {Lr:List Res} {out:List (List UInt8)} {w0:World} (I:Sh.eS x0 = some out) (H:MemL w0 Lr) (S:∀ w,MemL w Lr → Bf w) (f:LIn Bf s hs) (q:Each (LIn (X:=UInt8) Bf) hs x0):Calls Tryz.prog 148 #[(s).v] w0 (Ret fun v w'=>∃ (s:SV) (hs:List SV),v = (s).v ∧ Each (LIn (X:=UInt8) Bf) hs out ∧ MemL w' (rowL 0 s 23 hs::Lr)):=by
 unfold Sh.eS at I
 refine aR (vs:=[(s).v]) Tryz.func148 E Tryz.ntmps148 E fun a G=>?_
 refine aG ?_
 refine aD ?_
 refine aA G (aH G E E) E E E fun a G=>?_
 refine aJ (aB ?_)
 refine aG ?_
 refine aG ?_
 refine aD ?_
 refine aA G (aF G E E) E E E fun a G=>?_
 refine aA G (iX qU28 G E E E) E E E fun a G=>?_
 refine aJ (aB ?_)
 refine aT G (c:=.tmp 4) E (fun hb=>?_) (fun hb=>?_)
 ·have hn:=(f _ (S _ H)).isNil hb
  have hx:x0 = []:=List.eq_nil_of_length_eq_zero (by rw [← q.len,hn]; rfl)
  subst hx
  have ho:=(dM I).2
  subst ho
  refine aG ?_
  refine aD ?_
  refine aA G (aH G E E) E E E fun a G=>?_
  refine aJ (aB ?_)
  refine c_ret ?_
  refine mY ?_
  refine bJ Tryz.results148 G E ?_
  exact ⟨SV.nil,[],E,Each.nil,H.rowNil (X:=SV) 0 23⟩
 refine aW (aB ?_)
 refine aG ?_
 refine aD ?_
 refine aN G E E E (fW (X:=SV) 0 (Nat.zero_le _) qU28 in23 E fun s1 w hA=>?_)
 have H:=H.plus hA
 intro a G
 refine aA G (aF G E E) E E E fun a G=>?_
 refine aN G E E E (fC (X:=SV) (xs:=[]) (ys:=[]) I E q.len qU28 in23 E E E E G E E E (H.own (X:=SV) (i:=0) E) (f _ (S _ (dropM H 1))) fun s2 w hU=>?_)
 have H:=H.chg hU (i:=0) rfl
 intro a G
 refine aA G (aH G E E) E E E fun a G=>?_
 refine aJ (aB ?_)
 refine c_ret ?_
 refine bJ Tryz.results148 G E ?_
 have ho:=(dM I).2
 subst ho
 exact ⟨s2,hs,E,q,H⟩
theorem hH {x0:List LTurn} {s:SV} {Bf:World → Prop} {Lr:List Res} {out:List LTurn} {w0:World} (I:Sh.cT x0 = some out) (H:MemL w0 Lr) (S:∀ w,MemL w Lr → Bf w) (f:LIn Bf s x0):Calls Tryz.prog 195 #[(s).v] w0 (Ret fun v w'=>∃ (s:SV),v = (s).v ∧ MemL w' (rowL 0 s 128 out::Lr)):=by
 unfold Sh.cT at I
 refine aR (vs:=[(s).v]) Tryz.func195 E Tryz.ntmps195 E fun a G=>?_
 refine aG ?_
 refine aD ?_
 refine aA G (aH G E E) E E E fun a G=>?_
 refine aJ (aB ?_)
 refine aG ?_
 refine aG ?_
 refine aD ?_
 refine aA G (aF G E E) E E E fun a G=>?_
 refine aA G (iX qU56 G E E E) E E E fun a G=>?_
 refine aJ (aB ?_)
 refine aT G (c:=.tmp 4) E (fun hb=>?_) (fun hb=>?_)
 ·have hn:=(f _ (S _ H)).isNil hb
  subst hn
  have ho:=(dM I).2
  subst ho
  refine aG ?_
  refine aD ?_
  refine aA G (aH G E E) E E E fun a G=>?_
  refine aJ (aB ?_)
  refine c_ret ?_
  refine mY ?_
  refine bJ Tryz.results195 G E ?_
  exact ⟨SV.nil,E,H.rowNil (X:=LTurn) 0 128⟩
 refine aW (aB ?_)
 refine aG ?_
 refine aD ?_
 refine aN G E E E (fW (X:=LTurn) 0 (Nat.zero_le _) qU56 in128 E fun s1 w hA=>?_)
 have H:=H.plus hA
 intro a G
 refine aA G (aF G E E) E E E fun a G=>?_
 refine aN G E E E (dC (X:=LTurn) I qU56 in128 E E E E G E E E (H.own (X:=LTurn) (i:=0) E) (f _ (S _ (dropM H 1))) fun s2 w hU=>?_)
 have H:=H.chg hU (i:=0) rfl
 intro a G
 refine aA G (aH G E E) E E E fun a G=>?_
 refine aJ (aB ?_)
 refine c_ret ?_
 refine bJ Tryz.results195 G E ?_
 exact ⟨s2,E,H⟩
theorem gZ {x0:List LCell} {s:SV} {Bf:World → Prop} {Lr:List Res} {out:List LCell} {w0:World} (I:Sh.cS x0 = some out) (H:MemL w0 Lr) (S:∀ w,MemL w Lr → Bf w) (f:LIn Bf s x0):Calls Tryz.prog 196 #[(s).v] w0 (Ret fun v w'=>∃ (s:SV),v = (s).v ∧ MemL w' (rowL 0 s 151 out::Lr)):=by
 unfold Sh.cS at I
 refine aR (vs:=[(s).v]) Tryz.func196 E Tryz.ntmps196 E fun a G=>?_
 refine aG ?_
 refine aD ?_
 refine aA G (aH G E E) E E E fun a G=>?_
 refine aJ (aB ?_)
 refine aG ?_
 refine aG ?_
 refine aD ?_
 refine aA G (aF G E E) E E E fun a G=>?_
 refine aA G (iX qU57 G E E E) E E E fun a G=>?_
 refine aJ (aB ?_)
 refine aT G (c:=.tmp 4) E (fun hb=>?_) (fun hb=>?_)
 ·have hn:=(f _ (S _ H)).isNil hb
  subst hn
  have ho:=(dM I).2
  subst ho
  refine aG ?_
  refine aD ?_
  refine aA G (aH G E E) E E E fun a G=>?_
  refine aJ (aB ?_)
  refine c_ret ?_
  refine mY ?_
  refine bJ Tryz.results196 G E ?_
  exact ⟨SV.nil,E,H.rowNil (X:=LCell) 0 151⟩
 refine aW (aB ?_)
 refine aG ?_
 refine aD ?_
 refine aN G E E E (fW (X:=LCell) 0 (Nat.zero_le _) qU57 in151 E fun s1 w hA=>?_)
 have H:=H.plus hA
 intro a G
 refine aA G (aF G E E) E E E fun a G=>?_
 refine aN G E E E (dC (X:=LCell) I qU57 in151 E E E E G E E E (H.own (X:=LCell) (i:=0) E) (f _ (S _ (dropM H 1))) fun s2 w hU=>?_)
 have H:=H.chg hU (i:=0) rfl
 intro a G
 refine aA G (aH G E E) E E E fun a G=>?_
 refine aJ (aB ?_)
 refine c_ret ?_
 refine bJ Tryz.results196 G E ?_
 exact ⟨s2,E,H⟩
theorem gN {x0:List QPiece} {hs:List RPiece} {s:SV} {Bf:World → Prop} {Lr:List Res} {out:List QPiece} {w0:World} (I:Sh.cG x0 = some out) (H:MemL w0 Lr) (S:∀ w,MemL w Lr → Bf w) (f:LIn Bf s hs) (q:Each (QPieceIn Bf) hs x0):Calls Tryz.prog 197 #[(s).v] w0 (Ret fun v w'=>∃ (s:SV) (hs:List RPiece),v = (s).v ∧ Each (QPieceIn Bf) hs out ∧ MemL w' (rowL 0 s 156 hs::Lr)):=by
 unfold Sh.cG at I
 refine aR (vs:=[(s).v]) Tryz.func197 E Tryz.ntmps197 E fun a G=>?_
 refine aG ?_
 refine aD ?_
 refine aA G (aH G E E) E E E fun a G=>?_
 refine aJ (aB ?_)
 refine aG ?_
 refine aG ?_
 refine aD ?_
 refine aA G (aF G E E) E E E fun a G=>?_
 refine aA G (iX qU58 G E E E) E E E fun a G=>?_
 refine aJ (aB ?_)
 refine aT G (c:=.tmp 4) E (fun hb=>?_) (fun hb=>?_)
 ·have hn:=(f _ (S _ H)).isNil hb
  have hx:x0 = []:=List.eq_nil_of_length_eq_zero (by rw [← q.len,hn]; rfl)
  subst hx
  have ho:=(dM I).2
  subst ho
  refine aG ?_
  refine aD ?_
  refine aA G (aH G E E) E E E fun a G=>?_
  refine aJ (aB ?_)
  refine c_ret ?_
  refine mY ?_
  refine bJ Tryz.results197 G E ?_
  exact ⟨SV.nil,[],E,Each.nil,H.rowNil (X:=RPiece) 0 156⟩
 refine aW (aB ?_)
 refine aG ?_
 refine aD ?_
 refine aN G E E E (fW (X:=RPiece) 0 (Nat.zero_le _) qU58 in156 E fun s1 w hA=>?_)
 have H:=H.plus hA
 intro a G
 refine aA G (aF G E E) E E E fun a G=>?_
 refine aN G E E E (fC (X:=RPiece) (xs:=[]) (ys:=[]) I E q.len qU58 in156 E E E E G E E E (H.own (X:=RPiece) (i:=0) E) (f _ (S _ (dropM H 1))) fun s2 w hU=>?_)
 have H:=H.chg hU (i:=0) rfl
 intro a G
 refine aA G (aH G E E) E E E fun a G=>?_
 refine aJ (aB ?_)
 refine c_ret ?_
 refine bJ Tryz.results197 G E ?_
 have ho:=(dM I).2
 subst ho
 exact ⟨s2,hs,E,q,H⟩
end Go.Proofs
end
section
namespace Go.Proofs
open Go.Fw Go.Fx
set_option maxRecDepth 10000
set_option maxHeartbeats 4000000 in
theorem dI {x0:Int} {x1:Int} {x2:Int} {out:Bool} {w0:World} {Lr:List Res} (I:Sh.bG x0 x1 x2 = some out) (H:MemL w0 (Lr)):Calls Tryz.prog 124 #[.int .i64 x0,.int .i64 x1,.int .i64 x2] w0 (Ret fun v w'=>v = .bool out ∧ MemL w' (Lr)):=by
 unfold Sh.bG at I
 refine aR (vs:=[.int .i64 x0,.int .i64 x1,.int .i64 x2]) Tryz.func124 E Tryz.ntmps124 E fun a G=>?_
 refine aG ?_
 refine aD ?_
 refine aA G (aH G E E) E E E fun a G=>?_
 refine aJ (aB ?_)
 refine aG ?_
 refine aV G H I (fun F x a w=>match x with | v7=>Fr 15 [(6,.bool v7)] a ∧ MemL w (Lr)) (fun c1 I c0 G H=>?_) ?_
 ·refine aD ?_
  refine aA G (aF G E E) E E E fun a G=>?_
  refine aA G (aF G E E) E E E fun a G=>?_
  refine aA G (jH G E E E) E E E fun a G=>?_
  refine aA G (aF G E E) E E E fun a G=>?_
  refine bG 10 G E (fun hb8=>?_) (fun hb8=>?_)
  ·have I:=Fx.cT hb8 I
   refine aL G E E E hb8 (aF G E E) E E fun a G=>?_
   refine aL G E E E hb8 (aF G E E) E E fun a G=>?_
   refine aL G E E E hb8 (qP G E E E) E E fun a G=>?_
   refine aA G (aP G E E hb8 E) E E E fun a G=>?_
   refine aA G (aH G E E) E E E fun a G=>?_
   refine aJ (aB ?_)
   have I:=oI I
   subst I
   exact ⟨(decide (x0 ≤ x2)),E,G.to ⟨E,trivial⟩,H⟩
  have I:=Fx.cF hb8 I
  refine aE G E E E hb8 E E fun a G=>?_
  refine aE G E E E hb8 E E fun a G=>?_
  refine aE G E E E hb8 E E fun a G=>?_
  refine aA G (aZ G E E hb8 E) E E E fun a G=>?_
  refine aA G (aH G E E) E E E fun a G=>?_
  refine aJ (aB ?_)
  have I:=oI I
  subst I
  exact ⟨false,E,G.to ⟨E,trivial⟩,H⟩
 rintro v7 a w I ⟨G,H⟩
 replace I:Sh.pM v7 = _:=I
 unfold Sh.pM at I
 refine aB ?_
 refine c_ret ?_
 have I:=oI I
 subst I
 refine bJ Tryz.results124 G E ?_
 exact ⟨E,H⟩
set_option maxHeartbeats 4000000 in
theorem iC {x0:List UInt8} {x1:List UInt8} {s1:SV} {s3:SV} {out:List Int} {w0:World} {Bf:World → Prop} {Lr:List Res} (I:Sh.cH x0 x1 = some out) (H:MemL w0 (Lr)) (S:∀ w,MemL w Lr → Bf w) (f2:LIn Bf s1 x0) (f4:LIn Bf s3 x1):Calls Tryz.prog 158 #[(s1).v,(s3).v] w0 (Ret fun v w'=>∃ (d6:SV),v = (d6).v ∧ MemL w' (rowL 0 d6 3 out::Lr)):=by
 unfold Sh.cH at I
 refine aR (vs:=[(s1).v,(s3).v]) Tryz.func158 E Tryz.ntmps158 E fun a G=>?_
 refine aG ?_
 refine aD ?_
 refine aA G (aH G E E) E E E fun a G=>?_
 refine aJ (aB ?_)
 refine aG ?_
 refine aD ?_
 refine aA G (aH G E E) E E E fun a G=>?_
 refine aJ (aB ?_)
 refine aG ?_
 refine aV G H I (fun F x a w=>match x with | d0=>∃ (c6:SV),Fr 27 [(5,(c6).v),(4,(SV.nil).v)] a ∧ MemL w (rowL 0 c6 3 d0::Lr)) (fun g4 I g2 G H=>?_) ?_
 ·refine aG ?_
  refine aD ?_
  refine aA G (aF G E E) E E E fun a G=>?_
  refine aA G (bQ (f2 _ (S _ (dropM H 0))) qU23 G E E) E E E fun a G=>?_
  refine aA G (aF G E E) E E E fun a G=>?_
  refine aJ (aB ?_)
  refine aU ?_
  have H:=H.rowNil (X:=Int) 0 3
  refine bU G H I (fun F x a w=>match x with | (c2,c0)=>∃ (c1:SV),Fr 27 [(5,(c1).v),(9,.int .i64 c0),(0,(s1).v),(1,(s3).v),(4,(SV.nil).v),(8,.int .i64 (x0.length:Int))] a ∧ MemL w (rowL 0 c1 3 c2::Lr)) (fun G H=>⟨SV.nil,G.to ⟨E,E,E,E,E,E,trivial⟩,H⟩) ?_
  rintro ⟨c2,c0⟩ a w g6 I d9 ⟨c1,G,H⟩
  replace I:Sh.aT x0 x1 c2 c0 = _:=I
  unfold Sh.aT at I
  refine aG ?_
  refine aD ?_
  refine aA G (cK G E E E) E E E fun a G=>?_
  refine aJ (aB ?_)
  refine aG ?_
  refine aT G (c:=.tmp 10) E (fun c4=>?_) (fun c4=>?_)
  ·have I:=Fx.cT c4 I
   refine aW (aB ?_)
   refine aG ?_
   refine aV G H I (fun F x a w=>match x with | c8=>∃ (c7:SV),Fr 27 [(5,(c7).v),(0,(s1).v),(1,(s3).v),(4,(SV.nil).v),(8,.int .i64 (x0.length:Int)),(9,.int .i64 c0)] a ∧ MemL w (rowL 0 c7 3 c8::Lr)) (fun g5 I g3 G H=>?_) ?_
   ·refine aU ?_
    refine aG ?_
    refine aD ?_
    refine aA G (aF G E E) E E E fun a G=>?_
    refine aA G (aH G E E) E E E fun a G=>?_
    refine aJ (aB ?_)
    refine aG ?_
    refine bM mixed (by kernel_rfl) H [0] 1 E fun K=>?_
    refine aK G K 0 E (by kernel_rfl) E E E (fun w H=>(aF G E E)) fun a G=>?_
    refine aK G K 1 E (by kernel_rfl) E E E (fun w H=>(aF G E E)) fun a G=>?_
    obtain ⟨g7,d1,I⟩:=bind_some I
    have d3:=aM d1
    refine aK G K 2 E (by kernel_rfl) E E E (fun w H=>(aS (sz:=1) (f2 _ (S _ (dropM H 1))) qU23 in5 E G E E E (bH d1))) fun a G=>?_
    refine aK G K 3 E (by kernel_rfl) E E E (fun w H=>(aI qA5 G E E ((((f2 _ (S _ (dropM H 1))).elemS d3.2)).get 0 E))) fun a G=>?_
    refine aK G K 4 E (by kernel_rfl) E E E (fun w H=>(aF G E E)) fun a G=>?_
    refine aK G K 5 E (by kernel_rfl) E E E (fun w H=>(aF G E E)) fun a G=>?_
    obtain ⟨g8,d2,I⟩:=bind_some I
    have d4:=aM d2
    refine aK G K 6 E (by kernel_rfl) E E E (fun w H=>(aS (sz:=1) (f4 _ (S _ (dropM H 1))) qU23 in5 E G E E E (bH d2))) fun a G=>?_
    refine aK G K 7 E (by kernel_rfl) E E E (fun w H=>(aI qA5 G E E ((((f4 _ (S _ (dropM H 1))).elemS d4.2)).get 0 E))) fun a G=>?_
    refine aK G K 8 E (by kernel_rfl) E E E (fun w H=>(dD G E E E)) fun a G=>?_
    refine bV K (by kernel_rfl) fun w H=>?_
    refine aB ?_
    refine aT G (c:=.tmp 20) E (fun c5=>?_) (fun c5=>?_)
    ·have I:=Fx.cT c5 I
     refine aD ?_
     refine aA G (aF G E E) E E E fun a G=>?_
     refine aA G (aF G E E) E E E fun a G=>?_
     refine aN G E E E (cR (X:=Int) (y:=c0) qU52 in3 E E E E G E E E fun c3 w g1 c9=>?_)
     have H:=H.plus c9
     replace H:MemL _ (pt c3 (encs ([c0]:List Int)) 3::rowL 0 c1 3 c2::Lr):=H
     intro a G
     obtain ⟨d8,g0,I⟩:=bind_some I
     refine aN G E E E (dC (X:=Int) g0 qU52 in3 E E E E G E E E (H.own (X:=Int) (i:=1) E) (H.ptS (X:=Int) (i:=0) (n:=1) (c:=1) E E E (Nat.le_refl _)) fun d7 w d5=>?_)
     have H:=H.chg d5 (i:=1) rfl
     replace H:MemL _ (pt c3 (encs ([c0]:List Int)) 3::rowL 0 d7 3 d8::Lr):=H
     intro a G
     refine aA G (aH G E E) E E E fun a G=>?_
     refine aJ (bK (aB ?_))
     have I:=oI I
     subst I
     exact ⟨d8,E,d7,G.to ⟨E,E,E,E,E,E,trivial⟩,selM H [1] 2 E⟩
    have I:=Fx.cF c5 I
    refine aW (bK (aB ?_))
    have I:=oI I
    subst I
    exact ⟨c2,E,c1,G.to ⟨E,E,E,E,E,E,trivial⟩,H⟩
   rintro c8 a w I ⟨c7,G,H⟩
   replace I:Sh.cA c0 c8 = _:=I
   unfold Sh.cA at I
   refine aB ?_
   refine aD ?_
   refine aA G (bW G E E E) E E E fun a G=>?_
   refine aA G (aF G E E) E E E fun a G=>?_
   refine aJ (aB ?_)
   have I:=oI I
   subst I
   exact ⟨(c8,(IntKind.i64.wrap (c0 + 1))),E,c7,G.to ⟨E,E,E,E,E,E,trivial⟩,H⟩
  have I:=Fx.cF c4 I
  refine bX (bC (bC (cO ?_)))
  refine aB ?_
  have I:=oI I
  subst I
  have I:=d9 _ rfl
  subst I
  exact ⟨c2,E,c1,G.to ⟨E,E,trivial⟩,H⟩
 rintro d0 a w I ⟨c6,G,H⟩
 replace I:Sh.nO d0 = _:=I
 unfold Sh.nO at I
 refine aB ?_
 refine aG ?_
 refine aD ?_
 refine aA G (aF G E E) E E E fun a G=>?_
 refine aA G (aH G E E) E E E fun a G=>?_
 refine aJ (aB ?_)
 refine c_ret ?_
 have I:=oI I
 subst I
 refine bJ Tryz.results158 G E ?_
 exact ⟨c6,E,H⟩
set_option maxHeartbeats 4000000 in
theorem mK {x0:List QPiece} {s1:SV} {hs2:List RPiece} {out:Bool} {w0:World} {Bf:World → Prop} {Lr:List Res} (I:Sh.dX x0 = some out) (H:MemL w0 (Lr)) (S:∀ w,MemL w Lr → Bf w) (f3:LIn Bf s1 hs2) (q4:Each (QPieceIn Bf) hs2 x0):Calls Tryz.prog 227 #[(s1).v] w0 (Ret fun v w'=>v = .bool out ∧ MemL w' (Lr)):=by
 unfold Sh.dX at I
 refine aR (vs:=[(s1).v]) Tryz.func227 E Tryz.ntmps227 E fun a G=>?_
 refine aG ?_
 refine aD ?_
 refine aA G (aH G E E) E E E fun a G=>?_
 refine aJ (aB ?_)
 refine aG ?_
 refine aD ?_
 refine aA G (aH G E E) E E E fun a G=>?_
 refine aA G (aH G E E) E E E fun a G=>?_
 refine aJ (aB ?_)
 refine aG ?_
 refine aV G H I (fun F x a w=>match x with | _=>Fr 68 [(2,.bool false)] a ∧ MemL w (Lr)) (fun j0 I g3 G H=>?_) ?_
 ·refine aG ?_
  refine aD ?_
  refine aA G (aF G E E) E E E fun a G=>?_
  refine aA G (cQ (f3 _ (S _ (dropM H 0))) q4.len qU58 G E E) E E E fun a G=>?_
  refine aA G (aF G E E) E E E fun a G=>?_
  refine aJ (aB ?_)
  refine aU ?_
  refine bU G H I (fun F x a w=>match x with | (c6,d0,d1)=>Fr 68 [(10,.int .i64 c6),(3,.int .i64 d0),(4,.int .i64 d1),(2,.bool false),(8,(s1).v),(9,.int .i64 (x0.length:Int))] a ∧ MemL w (Lr)) (fun G H=>⟨G.to ⟨E,E,E,E,E,E,trivial⟩,H⟩) ?_
  rintro ⟨c6,d0,d1⟩ a w j3 I d7 ⟨G,H⟩
  replace I:Sh.aK x0 c6 d0 d1 = _:=I
  unfold Sh.aK at I
  refine aG ?_
  refine aD ?_
  refine aA G (cK G E E E) E E E fun a G=>?_
  refine aJ (aB ?_)
  refine aG ?_
  refine aT G (c:=.tmp 11) E (fun d3=>?_) (fun d3=>?_)
  ·have I:=Fx.cT d3 I
   refine aW (aB ?_)
   refine aG ?_
   refine aU ?_
   refine aG ?_
   refine aD ?_
   obtain ⟨c2,d9,I⟩:=bind_some I
   have g5:=aM d9
   obtain ⟨i6,g7,g8⟩:=Each.getr q4 g5.2
   have g6:=Each.bd q4 (bH d9)
   obtain ⟨c7,c8,rfl,g1,g2⟩:=g8
   refine aA G (aS (sz:=4) (f3 _ (S _ (dropM H 0))) qU58 in156 E G E E E g6) E E E fun a G=>?_
   refine aA G (aQ qA156 qS156 G E E (RPiece.len _) (((f3 _ (S _ (dropM H 0))).elemS g7))) E E E fun a G=>?_
   refine aN G E E E (bN z156 (zs:=RPiece.zero.enc) E E fun c4 w i5 g0=>?_)
   have H:=H.plus g0
   replace H:MemL _ (pt c4 (RPiece.enc (RPiece.mk 0 0 SV.nil SV.nil)) 156::Lr):=H
   intro a G
   refine bD E E (aX (vs:=_) qS156 (H.obj (i:=0) E) G E E E E (RPiece.len _) (RPiece.one _) (by first | (rw [RPiece.len,RPiece.len]; decide) | (rw [RPiece.len]; decide)) (bE ((RPiece.len _).trans (RPiece.len _).symm)) fun w g9=>?_)
   have H:=H.chg g9 (i:=0) rfl
   replace H:MemL _ (pt c4 (RPiece.enc (mPc c2 c7 c8)) 156::Lr):=H
   refine aJ (aB ?_)
   refine aG ?_
   refine aV G H I (fun F x a w=>match x with | (c9,d2)=>Fr 68 [(3,.int .i64 c9),(4,.int .i64 d2),(10,.int .i64 c6),(2,.bool false),(6,.pointer (some ⟨c4,0,none⟩)),(8,(s1).v),(9,.int .i64 (x0.length:Int))] a ∧ MemL w (pt c4 (RPiece.enc (mPc c2 c7 c8)) 156::Lr)) (fun j1 I i3 G H=>?_) ?_
   ·refine aU ?_
    refine aG ?_
    refine aD ?_
    refine aA G (aC (off':=0) qU156 E in3 E G E E E) E E E fun a G=>?_
    refine aA G (aI qA3 G E E (H.cell (i:=0) E (RPiece.g_table _))) E E E fun a G=>?_
    refine aA G (aF G E E) E E E fun a G=>?_
    obtain ⟨i8,i0,I⟩:=bind_some I
    refine aN G E E E (aO (xs:=[.tmp 16,.tmp 17,.const (.int .i64 (7))]) qC124 G E E (dI i0 H ) fun v w hR=>?_)
    obtain ⟨rfl,H⟩:=hR
    replace H:MemL _ (pt c4 (RPiece.enc (mPc c2 c7 c8)) 156::Lr):=H
    intro a G
    refine aA G (dF G E E) E E E fun a G=>?_
    refine aA G (aH G E E) E E E fun a G=>?_
    refine aJ (aB ?_)
    refine aT G (c:=.tmp 14) E (fun d4=>?_) (fun d4=>?_)
    ·have I:=Fx.cT d4 I
     refine aG ?_
     refine aD ?_
     refine aA G (aH G E E) E E E fun a G=>?_
     refine aJ (aB ?_)
     refine c_ret ?_
     have I:=oI I
     subst I
     have I:=dE i3
     subst I
     have I:=d7 _ rfl
     subst I
     have I:=dE g3
     subst I
     refine bJ Tryz.results227 G E ?_
     exact ⟨E,selM H [] 1 E⟩
    have I:=Fx.cF d4 I
    refine aG ?_
    refine aD ?_
    refine aA G (aC (off':=0) qU156 E in3 E G E E E) E E E fun a G=>?_
    refine aA G (aI qA3 G E E (H.cell (i:=0) E (RPiece.g_table _))) E E E fun a G=>?_
    refine aA G (aF G E E) E E E fun a G=>?_
    refine aA G (eR G E E E) E E E fun a G=>?_
    refine aA G (aH G E E) E E E fun a G=>?_
    refine aJ (aB ?_)
    refine aT G (c:=.tmp 20) E (fun d5=>?_) (fun d5=>?_)
    ·have I:=Fx.cT d5 I
     refine aD ?_
     refine aA G (aC (off':=0) qU156 E in3 E G E E E) E E E fun a G=>?_
     refine aA G (aI qA3 G E E (H.cell (i:=0) E (RPiece.g_table _))) E E E fun a G=>?_
     refine aA G (aH G E E) E E E fun a G=>?_
     refine aA G (aH G E E) E E E fun a G=>?_
     refine aJ (bK (aB ?_))
     have I:=oI I
     subst I
     exact ⟨(c2.table,0),E,G.to ⟨E,E,E,E,E,E,E,trivial⟩,H⟩
    have I:=Fx.cF d5 I
    refine aW (bK (aB ?_))
    have I:=oI I
    subst I
    exact ⟨(d0,d1),E,G.to ⟨E,E,E,E,E,E,E,trivial⟩,H⟩
   rintro ⟨c9,d2⟩ a w I ⟨G,H⟩
   replace I:Sh.cC c6 c2 c9 d2 = _:=I
   unfold Sh.cC at I
   refine aB ?_
   refine aG ?_
   refine aD ?_
   refine aA G (aC (off':=2) qU156 E in23 E G E E E) E E E fun a G=>?_
   refine aA G (aI qA23 G E E (H.cell (i:=0) E (RPiece.g_old _))) E E E fun a G=>?_
   refine aA G (bQ (g1 _ (S _ (dropM H 1))) qU23 G E E) E E E fun a G=>?_
   refine aA G (aH G E E) E E E fun a G=>?_
   refine aJ (aB ?_)
   refine aG ?_
   refine aG ?_
   refine aV G H I (fun F x a w=>match x with | d8=>Fr 68 [(61,.bool d8),(10,.int .i64 c6),(2,.bool false),(3,.int .i64 c9),(4,.int .i64 d2),(6,.pointer (some ⟨c4,0,none⟩)),(7,.int .i64 (c2.old.length:Int)),(8,(s1).v),(9,.int .i64 (x0.length:Int))] a ∧ MemL w (pt c4 (RPiece.enc (mPc c2 c7 c8)) 156::Lr)) (fun j2 I i7 G H=>?_) ?_
   ·refine aD ?_
    refine aA G (aF G E E) E E E fun a G=>?_
    refine aA G (dG G E E E) E E E fun a G=>?_
    refine aA G (aF G E E) E E E fun a G=>?_
    refine bG 32 G E (fun c3=>?_) (fun c3=>?_)
    ·have I:=Fx.cT c3 I
     refine aE G E E E c3 E E fun a G=>?_
     refine aE G E E E c3 E E fun a G=>?_
     refine aE G E E E c3 E E fun a G=>?_
     refine aE G E E E c3 E E fun a G=>?_
     refine aE G E E E c3 E E fun a G=>?_
     refine aA G (aP G E E c3 E) E E E fun a G=>?_
     refine aA G (aF G E E) E E E fun a G=>?_
     refine aE G E E E E E E fun a G=>?_
     refine aE G E E E E E E fun a G=>?_
     refine aA G (aP G E E E E) E E E fun a G=>?_
     refine aA G (aF G E E) E E E fun a G=>?_
     refine aE G E E E E E E fun a G=>?_
     refine aE G E E E E E E fun a G=>?_
     refine aE G E E E E E E fun a G=>?_
     refine aE G E E E E E E fun a G=>?_
     refine aE G E E E E E E fun a G=>?_
     refine aE G E E E E E E fun a G=>?_
     refine aE G E E E E E E fun a G=>?_
     refine aA G (aP G E E E E) E E E fun a G=>?_
     refine aA G (aF G E E) E E E fun a G=>?_
     refine aE G E E E E E E fun a G=>?_
     refine aE G E E E E E E fun a G=>?_
     refine aE G E E E E E E fun a G=>?_
     refine aE G E E E E E E fun a G=>?_
     refine aE G E E E E E E fun a G=>?_
     refine aE G E E E E E E fun a G=>?_
     refine aE G E E E E E E fun a G=>?_
     refine aE G E E E E E E fun a G=>?_
     refine aA G (aP G E E E E) E E E fun a G=>?_
     refine aJ (aB ?_)
     have I:=oI I
     subst I
     exact ⟨true,E,G.to ⟨E,E,E,E,E,E,E,E,E,trivial⟩,H⟩
    have I:=Fx.cF c3 I
    refine aL G E E E c3 (aC (off':=3) qU156 E in23 E G E E E) E E fun a G=>?_
    refine aL G E E E c3 (aI qA23 G E E (H.cell (i:=0) E (RPiece.g_new _))) E E fun a G=>?_
    refine aL G E E E c3 (bQ (g2 _ (S _ (dropM H 1))) qU23 G E E) E E fun a G=>?_
    refine aL G E E E c3 (aF G E E) E E fun a G=>?_
    refine aL G E E E c3 (dD G E E E) E E fun a G=>?_
    refine aA G (aZ G E E c3 E) E E E fun a G=>?_
    refine aA G (aF G E E) E E E fun a G=>?_
    refine bG 39 G E (fun c5=>?_) (fun c5=>?_)
    ·have I:=Fx.cT c5 I
     refine aE G E E E c5 E E fun a G=>?_
     refine aE G E E E c5 E E fun a G=>?_
     refine aA G (aP G E E c5 E) E E E fun a G=>?_
     refine aA G (aF G E E) E E E fun a G=>?_
     refine aE G E E E E E E fun a G=>?_
     refine aE G E E E E E E fun a G=>?_
     refine aE G E E E E E E fun a G=>?_
     refine aE G E E E E E E fun a G=>?_
     refine aE G E E E E E E fun a G=>?_
     refine aE G E E E E E E fun a G=>?_
     refine aE G E E E E E E fun a G=>?_
     refine aA G (aP G E E E E) E E E fun a G=>?_
     refine aA G (aF G E E) E E E fun a G=>?_
     refine aE G E E E E E E fun a G=>?_
     refine aE G E E E E E E fun a G=>?_
     refine aE G E E E E E E fun a G=>?_
     refine aE G E E E E E E fun a G=>?_
     refine aE G E E E E E E fun a G=>?_
     refine aE G E E E E E E fun a G=>?_
     refine aE G E E E E E E fun a G=>?_
     refine aE G E E E E E E fun a G=>?_
     refine aA G (aP G E E E E) E E E fun a G=>?_
     refine aJ (aB ?_)
     have I:=oI I
     subst I
     exact ⟨true,E,G.to ⟨E,E,E,E,E,E,E,E,E,trivial⟩,H⟩
    have I:=Fx.cF c5 I
    refine aL G E E E c5 (aF G E E) E E fun a G=>?_
    refine aL G E E E c5 (eR G E E E) E E fun a G=>?_
    refine aA G (aZ G E E c5 E) E E E fun a G=>?_
    refine aA G (aF G E E) E E E fun a G=>?_
    refine bG 43 G E (fun c1=>?_) (fun c1=>?_)
    ·have I:=Fx.cT c1 I
     refine aE G E E E c1 E E fun a G=>?_
     refine aE G E E E c1 E E fun a G=>?_
     refine aE G E E E c1 E E fun a G=>?_
     refine aE G E E E c1 E E fun a G=>?_
     refine aE G E E E c1 E E fun a G=>?_
     refine aE G E E E c1 E E fun a G=>?_
     refine aE G E E E c1 E E fun a G=>?_
     refine aA G (aP G E E c1 E) E E E fun a G=>?_
     refine aA G (aF G E E) E E E fun a G=>?_
     refine aE G E E E E E E fun a G=>?_
     refine aE G E E E E E E fun a G=>?_
     refine aE G E E E E E E fun a G=>?_
     refine aE G E E E E E E fun a G=>?_
     refine aE G E E E E E E fun a G=>?_
     refine aE G E E E E E E fun a G=>?_
     refine aE G E E E E E E fun a G=>?_
     refine aE G E E E E E E fun a G=>?_
     refine aA G (aP G E E E E) E E E fun a G=>?_
     refine aJ (aB ?_)
     have I:=oI I
     subst I
     exact ⟨true,E,G.to ⟨E,E,E,E,E,E,E,E,E,trivial⟩,H⟩
    have I:=Fx.cF c1 I
    refine aL G E E E c1 (aC (off':=1) qU156 E in3 E G E E E) E E fun a G=>?_
    refine aL G E E E c1 (aI qA3 G E E (H.cell (i:=0) E (RPiece.g_from_ _))) E E fun a G=>?_
    refine aL G E E E c1 (aF G E E) E E fun a G=>?_
    refine aL G E E E c1 (aF G E E) E E fun a G=>?_
    refine aL G E E E c1 (eS G E E E) E E fun a G=>?_
    obtain ⟨i9,i1,I⟩:=bind_some I
    refine dV G E E E c1 E E (aO (xs:=[.tmp 45,.tmp 46,.tmp 48]) qC124 G E E (dI i1 H ) fun v w hR=>?_)
    obtain ⟨rfl,H⟩:=hR
    replace H:MemL _ (pt c4 (RPiece.enc (mPc c2 c7 c8)) 156::Lr):=H
    intro a G
    refine aL G E E E c1 (dF G E E) E E fun a G=>?_
    refine aA G (aZ G E E c1 E) E E E fun a G=>?_
    refine aA G (aF G E E) E E E fun a G=>?_
    refine bG 52 G E (fun c0=>?_) (fun c0=>?_)
    ·have I:=Fx.cT c0 I
     refine aE G E E E c0 E E fun a G=>?_
     refine aE G E E E c0 E E fun a G=>?_
     refine aE G E E E c0 E E fun a G=>?_
     refine aE G E E E c0 E E fun a G=>?_
     refine aE G E E E c0 E E fun a G=>?_
     refine aE G E E E c0 E E fun a G=>?_
     refine aE G E E E c0 E E fun a G=>?_
     refine aE G E E E c0 E E fun a G=>?_
     refine aA G (aP G E E c0 E) E E E fun a G=>?_
     refine aJ (aB ?_)
     have I:=oI I
     subst I
     exact ⟨true,E,G.to ⟨E,E,E,E,E,E,E,E,E,trivial⟩,H⟩
    have I:=Fx.cF c0 I
    refine aL G E E E c0 (aC (off':=2) qU156 E in23 E G E E E) E E fun a G=>?_
    refine aL G E E E c0 (aI qA23 G E E (H.cell (i:=0) E (RPiece.g_old _))) E E fun a G=>?_
    refine aL G E E E c0 (aC (off':=3) qU156 E in23 E G E E E) E E fun a G=>?_
    refine aL G E E E c0 (aI qA23 G E E (H.cell (i:=0) E (RPiece.g_new _))) E E fun a G=>?_
    obtain ⟨g4,i2,I⟩:=bind_some I
    refine dV G E E E c0 E E (aO (xs:=[.tmp 54,.tmp 56]) Tryz.call158 G E E (iC i2 H (Bf:=Bf) (fun w H=>S _ (dropM H 1)) g1 g2) fun v w hR=>?_)
    obtain ⟨i4,rfl,H⟩:=hR
    replace H:MemL _ (rowL 0 i4 3 g4::pt c4 (RPiece.enc (mPc c2 c7 c8)) 156::Lr):=H
    intro a G
    refine aL G E E E c0 (bQ (H.rowS (X:=Int) (i:=0) E) qU52 G E E) E E fun a G=>?_
    refine aL G E E E c0 (aF G E E) E E fun a G=>?_
    refine aL G E E E c0 (cK G E E E) E E fun a G=>?_
    refine aA G (aZ G E E c0 E) E E E fun a G=>?_
    refine aJ (aB ?_)
    have I:=oI I
    subst I
    exact ⟨(decide ((g4.length:Int) < (c2.old.length:Int))),E,G.to ⟨E,E,E,E,E,E,E,E,E,trivial⟩,selM H [1] 2 E⟩
   rintro d8 a w I ⟨G,H⟩
   replace I:Sh.aW c6 c2 c9 d8 = _:=I
   unfold Sh.aW at I
   refine aB ?_
   refine aT G (c:=.tmp 61) E (fun d6=>?_) (fun d6=>?_)
   ·have I:=Fx.cT d6 I
    refine aG ?_
    refine aD ?_
    refine aA G (aH G E E) E E E fun a G=>?_
    refine aJ (aB ?_)
    refine c_ret ?_
    have I:=oI I
    subst I
    have I:=d7 _ rfl
    subst I
    have I:=dE g3
    subst I
    refine bJ Tryz.results227 G E ?_
    exact ⟨E,selM H [] 1 E⟩
   have I:=Fx.cF d6 I
   refine aW (aB ?_)
   refine aD ?_
   refine aA G (aC (off':=1) qU156 E in3 E G E E E) E E E fun a G=>?_
   refine aA G (aI qA3 G E E (H.cell (i:=0) E (RPiece.g_from_ _))) E E E fun a G=>?_
   refine aA G (aF G E E) E E E fun a G=>?_
   refine aA G (bW G E E E) E E E fun a G=>?_
   refine aA G (bW G E E E) E E E fun a G=>?_
   refine aA G (aH G E E) E E E fun a G=>?_
   refine aJ (bK (aB ?_))
   refine aD ?_
   refine aA G (bW G E E E) E E E fun a G=>?_
   refine aA G (aF G E E) E E E fun a G=>?_
   refine aJ (aB ?_)
   have I:=oI I
   subst I
   exact ⟨((IntKind.i64.wrap (c6 + 1)),c9,(IntKind.i64.wrap ((IntKind.i64.wrap (c2.from_ + (c2.old.length:Int))) + 1))),E,G.to ⟨E,E,E,E,E,E,trivial⟩,selM H [] 1 E⟩
  have I:=Fx.cF d3 I
  refine bX (bC (bC (cO ?_)))
  refine aB ?_
  have I:=oI I
  subst I
  have I:=d7 _ rfl
  subst I
  exact ⟨(),E,G.to ⟨E,trivial⟩,H⟩
 rintro ⟨⟩ a w I ⟨G,H⟩
 replace I:Sh.kQ = _:=I
 unfold Sh.kQ at I
 refine aB ?_
 refine aG ?_
 refine aD ?_
 refine aA G (aH G E E) E E E fun a G=>?_
 refine aJ (aB ?_)
 refine c_ret ?_
 have I:=oI I
 subst I
 refine bJ Tryz.results227 G E ?_
 exact ⟨E,H⟩
set_option maxHeartbeats 4000000 in
theorem jF {x0:QMark} {s1:SV} {s3:SV} {s5:SV} {hs6:List RPiece} {s9:SV} {out:Bool} {w0:World} {Bf:World → Prop} {Lr:List Res} (I:Sh.cI x0 = some out) (H:MemL w0 (Lr)) (S:∀ w,MemL w Lr → Bf w) (f2:LIn Bf s1 x0.regs) (f4:LIn Bf s3 x0.slots) (f7:LIn Bf s5 hs6) (q8:Each (QPieceIn Bf) hs6 x0.pieces) (f10:LIn Bf s9 x0.sent):Calls Tryz.prog 173 #[.agg (RMark.enc (mMk x0 s1 s3 s5 s9)).toArray] w0 (Ret fun v w'=>v = .bool out ∧ MemL w' (Lr)):=by
 unfold Sh.cI at I
 refine aR (vs:=[.agg (RMark.enc (mMk x0 s1 s3 s5 s9)).toArray]) Tryz.func173 E Tryz.ntmps173 E fun a G=>?_
 refine aG ?_
 refine aD ?_
 refine aN G E E E (dA G E E E fun c0 w i9 g3=>?_)
 have H:=H.plus g3
 replace H:MemL _ (pt c0 (RMark.enc (mMk x0 s1 s3 s5 s9)) 60::Lr):=H
 intro a G
 refine aA G (aH G E E) E E E fun a G=>?_
 refine aJ (aB ?_)
 refine aG ?_
 refine aG ?_
 refine aV G H I (fun F x a w=>match x with | d8=>Fr 73 [(23,.bool d8),(1,.pointer (some ⟨c0,0,none⟩)),(2,.bool false)] a ∧ MemL w (pt c0 (RMark.enc (mMk x0 s1 s3 s5 s9)) 60::Lr)) (fun k0 I j2 G H=>?_) ?_
 ·refine aD ?_
  refine aA G (aC (off':=0) qU60 E in3 E G E E E) E E E fun a G=>?_
  refine aA G (aI qA3 G E E (H.cell (i:=0) E (RMark.g_at_ _))) E E E fun a G=>?_
  obtain ⟨j5,i2,I⟩:=bind_some I
  refine aN G E E E (aO (xs:=[.tmp 9,.const (.int .i64 (0)),.const (.int .i64 (4095))]) qC124 G E E (dI i2 H ) fun v w hR=>?_)
  obtain ⟨rfl,H⟩:=hR
  replace H:MemL _ (pt c0 (RMark.enc (mMk x0 s1 s3 s5 s9)) 60::Lr):=H
  intro a G
  refine aA G (dF G E E) E E E fun a G=>?_
  refine aA G (aF G E E) E E E fun a G=>?_
  refine bG 12 G E (fun c3=>?_) (fun c3=>?_)
  ·have I:=Fx.cT c3 I
   refine aE G E E E c3 E E fun a G=>?_
   refine aE G E E E c3 E E fun a G=>?_
   refine aE G E E E c3 E E fun a G=>?_
   refine aE G E E E c3 E E fun a G=>?_
   refine aA G (aP G E E c3 E) E E E fun a G=>?_
   refine aA G (aF G E E) E E E fun a G=>?_
   refine aE G E E E E E E fun a G=>?_
   refine aE G E E E E E E fun a G=>?_
   refine aE G E E E E E E fun a G=>?_
   refine aE G E E E E E E fun a G=>?_
   refine aA G (aP G E E E E) E E E fun a G=>?_
   refine aJ (aB ?_)
   have I:=oI I
   subst I
   exact ⟨true,E,G.to ⟨E,E,E,trivial⟩,H⟩
  have I:=Fx.cF c3 I
  refine aL G E E E c3 (aC (off':=1) qU60 E in3 E G E E E) E E fun a G=>?_
  refine aL G E E E c3 (aI qA3 G E E (H.cell (i:=0) E (RMark.g_next _))) E E fun a G=>?_
  obtain ⟨j6,i3,I⟩:=bind_some I
  refine dV G E E E c3 E E (aO (xs:=[.tmp 14,.const (.int .i64 (0)),.const (.int .i64 (4095))]) qC124 G E E (dI i3 H ) fun v w hR=>?_)
  obtain ⟨rfl,H⟩:=hR
  replace H:MemL _ (pt c0 (RMark.enc (mMk x0 s1 s3 s5 s9)) 60::Lr):=H
  intro a G
  refine aL G E E E c3 (dF G E E) E E fun a G=>?_
  refine aA G (aZ G E E c3 E) E E E fun a G=>?_
  refine aA G (aF G E E) E E E fun a G=>?_
  refine bG 18 G E (fun c4=>?_) (fun c4=>?_)
  ·have I:=Fx.cT c4 I
   refine aE G E E E c4 E E fun a G=>?_
   refine aE G E E E c4 E E fun a G=>?_
   refine aE G E E E c4 E E fun a G=>?_
   refine aE G E E E c4 E E fun a G=>?_
   refine aA G (aP G E E c4 E) E E E fun a G=>?_
   refine aJ (aB ?_)
   have I:=oI I
   subst I
   exact ⟨true,E,G.to ⟨E,E,E,trivial⟩,H⟩
  have I:=Fx.cF c4 I
  refine aL G E E E c4 (aC (off':=6) qU60 E in52 E G E E E) E E fun a G=>?_
  refine aL G E E E c4 (aI qA52 G E E (H.cell (i:=0) E (RMark.g_sent _))) E E fun a G=>?_
  refine aL G E E E c4 (bQ (f10 _ (S _ (dropM H 1))) qU52 G E E) E E fun a G=>?_
  refine aL G E E E c4 (eR G E E E) E E fun a G=>?_
  refine aA G (aZ G E E c4 E) E E E fun a G=>?_
  refine aJ (aB ?_)
  have I:=oI I
  subst I
  exact ⟨(decide (1 < (x0.sent.length:Int))),E,G.to ⟨E,E,E,trivial⟩,H⟩
 rintro d8 a w I ⟨G,H⟩
 replace I:Sh.cV x0 d8 = _:=I
 unfold Sh.cV at I
 refine aB ?_
 refine aT G (c:=.tmp 23) E (fun d3=>?_) (fun d3=>?_)
 ·have I:=Fx.cT d3 I
  refine aG ?_
  refine aD ?_
  refine aA G (aH G E E) E E E fun a G=>?_
  refine aJ (aB ?_)
  refine c_ret ?_
  have I:=oI I
  subst I
  refine bJ qR173 G E ?_
  exact ⟨E,selM H [] 1 E⟩
 have I:=Fx.cF d3 I
 refine aW (aB ?_)
 refine aG ?_
 refine aD ?_
 refine aA G (aH G E E) E E E fun a G=>?_
 refine aJ (aB ?_)
 refine aG ?_
 refine aV G H I (fun F x a w=>match x with | _=>Fr 73 [(1,.pointer (some ⟨c0,0,none⟩)),(2,.bool false)] a ∧ MemL w (pt c0 (RMark.enc (mMk x0 s1 s3 s5 s9)) 60::Lr)) (fun k1 I i7 G H=>?_) ?_
 ·refine aG ?_
  refine aD ?_
  refine aA G (aC (off':=3) qU60 E in56 E G E E E) E E E fun a G=>?_
  refine aA G (aI qA56 G E E (H.cell (i:=0) E (RMark.g_regs _))) E E E fun a G=>?_
  refine aA G (bQ (f2 _ (S _ (dropM H 1))) qU56 G E E) E E E fun a G=>?_
  refine aA G (aF G E E) E E E fun a G=>?_
  refine aJ (aB ?_)
  refine aU ?_
  refine bU G H I (fun F x a w=>match x with | (c9,d1)=>Fr 73 [(27,.int .i64 c9),(3,.int .i64 d1),(1,.pointer (some ⟨c0,0,none⟩)),(2,.bool false),(25,(s1).v),(26,.int .i64 (x0.regs.length:Int))] a ∧ MemL w (pt c0 (RMark.enc (mMk x0 s1 s3 s5 s9)) 60::Lr)) (fun G H=>⟨G.to ⟨E,E,E,E,E,E,trivial⟩,H⟩) ?_
  rintro ⟨c9,d1⟩ a w k5 I g6 ⟨G,H⟩
  replace I:Sh.bI x0 c9 d1 = _:=I
  unfold Sh.bI at I
  refine aG ?_
  refine aD ?_
  refine aA G (cK G E E E) E E E fun a G=>?_
  refine aJ (aB ?_)
  refine aG ?_
  refine aT G (c:=.tmp 28) E (fun d4=>?_) (fun d4=>?_)
  ·have I:=Fx.cT d4 I
   refine aW (aB ?_)
   refine aG ?_
   refine aU ?_
   refine aG ?_
   refine aD ?_
   obtain ⟨c7,g1,I⟩:=bind_some I
   have g8:=aM g1
   refine aA G (aS (sz:=9) (f2 _ (S _ (dropM H 1))) qU56 in128 E G E E E (bH g1)) E E E fun a G=>?_
   refine aA G (aQ qA128 qS128 G E E (LTurn.len _) (((f2 _ (S _ (dropM H 1))).elemS g8.2))) E E E fun a G=>?_
   refine aN G E E E (bN z128 (zs:=LTurn.zero.enc) E E fun c5 w j0 g4=>?_)
   have H:=H.plus g4
   replace H:MemL _ (pt c5 (LTurn.enc LTurn.zero) 128::pt c0 (RMark.enc (mMk x0 s1 s3 s5 s9)) 60::Lr):=H
   intro a G
   refine bD E E (aX (vs:=_) qS128 (H.obj (i:=0) E) G E E E E (LTurn.len _) (LTurn.one _) (by first | (rw [LTurn.len,LTurn.len]; decide) | (rw [LTurn.len]; decide)) (bE ((LTurn.len _).trans (LTurn.len _).symm)) fun w i0=>?_)
   have H:=H.chg i0 (i:=0) rfl
   replace H:MemL _ (pt c5 (LTurn.enc c7) 128::pt c0 (RMark.enc (mMk x0 s1 s3 s5 s9)) 60::Lr):=H
   refine aJ (aB ?_)
   refine aG ?_
   refine aG ?_
   refine aV G H I (fun F x a w=>match x with | d9=>Fr 73 [(43,.bool d9),(1,.pointer (some ⟨c0,0,none⟩)),(2,.bool false),(25,(s1).v),(26,.int .i64 (x0.regs.length:Int)),(27,.int .i64 c9),(3,.int .i64 d1),(5,.pointer (some ⟨c5,0,none⟩))] a ∧ MemL w (pt c5 (LTurn.enc c7) 128::pt c0 (RMark.enc (mMk x0 s1 s3 s5 s9)) 60::Lr)) (fun k2 I j3 G H=>?_) ?_
   ·refine aD ?_
    refine aA G (aC (off':=0) qU128 E in3 E G E E E) E E E fun a G=>?_
    refine aA G (aI qA3 G E E (H.cell (i:=0) E (LTurn.g_reg _))) E E E fun a G=>?_
    refine aA G (aF G E E) E E E fun a G=>?_
    refine aA G (bW G E E E) E E E fun a G=>?_
    obtain ⟨j7,i4,I⟩:=bind_some I
    refine aN G E E E (aO (xs:=[.tmp 32,.tmp 34,.const (.int .i64 (10))]) qC124 G E E (dI i4 H ) fun v w hR=>?_)
    obtain ⟨rfl,H⟩:=hR
    replace H:MemL _ (pt c5 (LTurn.enc c7) 128::pt c0 (RMark.enc (mMk x0 s1 s3 s5 s9)) 60::Lr):=H
    intro a G
    refine aA G (dF G E E) E E E fun a G=>?_
    refine aA G (aF G E E) E E E fun a G=>?_
    refine bG 37 G E (fun c1=>?_) (fun c1=>?_)
    ·have I:=Fx.cT c1 I
     refine aE G E E E c1 E E fun a G=>?_
     refine aE G E E E c1 E E fun a G=>?_
     refine aE G E E E c1 E E fun a G=>?_
     refine aE G E E E c1 E E fun a G=>?_
     refine aE G E E E c1 E E fun a G=>?_
     refine aA G (aP G E E c1 E) E E E fun a G=>?_
     refine aJ (aB ?_)
     have I:=oI I
     subst I
     exact ⟨true,E,G.to ⟨E,E,E,E,E,E,E,E,trivial⟩,H⟩
    have I:=Fx.cF c1 I
    refine aL G E E E c1 (aC (off':=1) qU128 E in46 E G E E E) E E fun a G=>?_
    refine aL G E E E c1 (aQ qA46 qS46 G E E (LVal.len _) (H.cells (i:=0) E (LTurn.c_old _))) E E fun a G=>?_
    refine aL G E E E c1 (aC (off':=5) qU128 E in46 E G E E E) E E fun a G=>?_
    refine aL G E E E c1 (aQ qA46 qS46 G E E (LVal.len _) (H.cells (i:=0) E (LTurn.c_new _))) E E fun a G=>?_
    refine aL G E E E c1 (jP qG46 (gA _ _ _ _ (by decide)) G E E E) E E fun a G=>?_
    refine aA G (aZ G E E c1 E) E E E fun a G=>?_
    refine aJ (aB ?_)
    have I:=oI I
    subst I
    exact ⟨(decide (c7.old = c7.new)),E,G.to ⟨E,E,E,E,E,E,E,E,trivial⟩,H⟩
   rintro d9 a w I ⟨G,H⟩
   replace I:Sh.nR c9 c7 d9 = _:=I
   unfold Sh.nR at I
   refine aB ?_
   refine aT G (c:=.tmp 43) E (fun d5=>?_) (fun d5=>?_)
   ·have I:=Fx.cT d5 I
    refine aG ?_
    refine aD ?_
    refine aA G (aH G E E) E E E fun a G=>?_
    refine aJ (aB ?_)
    refine c_ret ?_
    have I:=oI I
    subst I
    have I:=g6 _ rfl
    subst I
    have I:=dE i7
    subst I
    refine bJ qR173 G E ?_
    exact ⟨E,selM H [] 2 E⟩
   have I:=Fx.cF d5 I
   refine aW (aB ?_)
   refine aD ?_
   refine aA G (aC (off':=0) qU128 E in3 E G E E E) E E E fun a G=>?_
   refine aA G (aI qA3 G E E (H.cell (i:=0) E (LTurn.g_reg _))) E E E fun a G=>?_
   refine aA G (aH G E E) E E E fun a G=>?_
   refine aJ (bK (aB ?_))
   refine aD ?_
   refine aA G (bW G E E E) E E E fun a G=>?_
   refine aA G (aF G E E) E E E fun a G=>?_
   refine aJ (aB ?_)
   have I:=oI I
   subst I
   exact ⟨((IntKind.i64.wrap (c9 + 1)),c7.reg),E,G.to ⟨E,E,E,E,E,E,trivial⟩,selM H [1] 2 E⟩
  have I:=Fx.cF d4 I
  refine bX (bC (bC (cO ?_)))
  refine aB ?_
  have I:=oI I
  subst I
  have I:=g6 _ rfl
  subst I
  exact ⟨(),E,G.to ⟨E,E,trivial⟩,H⟩
 rintro ⟨⟩ a w I ⟨G,H⟩
 replace I:Sh.cW x0 = _:=I
 unfold Sh.cW at I
 refine aB ?_
 refine aG ?_
 refine aD ?_
 refine aA G (aH G E E) E E E fun a G=>?_
 refine aJ (aB ?_)
 refine aG ?_
 refine aV G H I (fun F x a w=>match x with | _=>Fr 73 [(1,.pointer (some ⟨c0,0,none⟩)),(2,.bool false)] a ∧ MemL w (pt c0 (RMark.enc (mMk x0 s1 s3 s5 s9)) 60::Lr)) (fun k3 I i8 G H=>?_) ?_
 ·refine aG ?_
  refine aD ?_
  refine aA G (aC (off':=4) qU60 E in57 E G E E E) E E E fun a G=>?_
  refine aA G (aI qA57 G E E (H.cell (i:=0) E (RMark.g_slots _))) E E E fun a G=>?_
  refine aA G (bQ (f4 _ (S _ (dropM H 1))) qU57 G E E) E E E fun a G=>?_
  refine aA G (aF G E E) E E E fun a G=>?_
  refine aJ (aB ?_)
  refine aU ?_
  refine bU G H I (fun F x a w=>match x with | (d2,d0)=>Fr 73 [(3,.int .i64 d2),(50,.int .i64 d0),(1,.pointer (some ⟨c0,0,none⟩)),(2,.bool false),(48,(s3).v),(49,.int .i64 (x0.slots.length:Int))] a ∧ MemL w (pt c0 (RMark.enc (mMk x0 s1 s3 s5 s9)) 60::Lr)) (fun G H=>⟨G.to ⟨E,E,E,E,E,E,trivial⟩,H⟩) ?_
  rintro ⟨d2,d0⟩ a w k6 I g7 ⟨G,H⟩
  replace I:Sh.bJ x0 d2 d0 = _:=I
  unfold Sh.bJ at I
  refine aG ?_
  refine aD ?_
  refine aA G (cK G E E E) E E E fun a G=>?_
  refine aJ (aB ?_)
  refine aG ?_
  refine aT G (c:=.tmp 51) E (fun d6=>?_) (fun d6=>?_)
  ·have I:=Fx.cT d6 I
   refine aW (aB ?_)
   refine aG ?_
   refine aU ?_
   refine aG ?_
   refine aD ?_
   obtain ⟨c8,g2,I⟩:=bind_some I
   have g9:=aM g2
   refine aA G (aS (sz:=27) (f4 _ (S _ (dropM H 1))) qU57 in151 E G E E E (bH g2)) E E E fun a G=>?_
   refine aA G (aQ qA151 qS151 G E E (LCell.len _) (((f4 _ (S _ (dropM H 1))).elemS g9.2))) E E E fun a G=>?_
   refine aN G E E E (bN z151 (zs:=LCell.zero.enc) E E fun c6 w j1 g5=>?_)
   have H:=H.plus g5
   replace H:MemL _ (pt c6 (LCell.enc LCell.zero) 151::pt c0 (RMark.enc (mMk x0 s1 s3 s5 s9)) 60::Lr):=H
   intro a G
   refine bD E E (aX (vs:=_) qS151 (H.obj (i:=0) E) G E E E E (LCell.len _) (LCell.one _) (by first | (rw [LCell.len,LCell.len]; decide) | (rw [LCell.len]; decide)) (bE ((LCell.len _).trans (LCell.len _).symm)) fun w i1=>?_)
   have H:=H.chg i1 (i:=0) rfl
   replace H:MemL _ (pt c6 (LCell.enc c8) 151::pt c0 (RMark.enc (mMk x0 s1 s3 s5 s9)) 60::Lr):=H
   refine aJ (aB ?_)
   refine aG ?_
   refine aG ?_
   refine aV G H I (fun F x a w=>match x with | g0=>Fr 73 [(66,.bool g0),(1,.pointer (some ⟨c0,0,none⟩)),(2,.bool false),(3,.int .i64 d2),(48,(s3).v),(49,.int .i64 (x0.slots.length:Int)),(50,.int .i64 d0),(7,.pointer (some ⟨c6,0,none⟩))] a ∧ MemL w (pt c6 (LCell.enc c8) 151::pt c0 (RMark.enc (mMk x0 s1 s3 s5 s9)) 60::Lr)) (fun k4 I j4 G H=>?_) ?_
   ·refine aD ?_
    refine aA G (aC (off':=0) qU151 E in3 E G E E E) E E E fun a G=>?_
    refine aA G (aI qA3 G E E (H.cell (i:=0) E (LCell.g_slot _))) E E E fun a G=>?_
    refine aA G (aF G E E) E E E fun a G=>?_
    refine aA G (bW G E E E) E E E fun a G=>?_
    obtain ⟨j8,i5,I⟩:=bind_some I
    refine aN G E E E (aO (xs:=[.tmp 55,.tmp 57,.const (.int .i64 (31))]) qC124 G E E (dI i5 H ) fun v w hR=>?_)
    obtain ⟨rfl,H⟩:=hR
    replace H:MemL _ (pt c6 (LCell.enc c8) 151::pt c0 (RMark.enc (mMk x0 s1 s3 s5 s9)) 60::Lr):=H
    intro a G
    refine aA G (dF G E E) E E E fun a G=>?_
    refine aA G (aF G E E) E E E fun a G=>?_
    refine bG 60 G E (fun c2=>?_) (fun c2=>?_)
    ·have I:=Fx.cT c2 I
     refine aE G E E E c2 E E fun a G=>?_
     refine aE G E E E c2 E E fun a G=>?_
     refine aE G E E E c2 E E fun a G=>?_
     refine aE G E E E c2 E E fun a G=>?_
     refine aE G E E E c2 E E fun a G=>?_
     refine aA G (aP G E E c2 E) E E E fun a G=>?_
     refine aJ (aB ?_)
     have I:=oI I
     subst I
     exact ⟨true,E,G.to ⟨E,E,E,E,E,E,E,E,trivial⟩,H⟩
    have I:=Fx.cF c2 I
    refine aL G E E E c2 (aC (off':=1) qU151 E in50 E G E E E) E E fun a G=>?_
    refine aL G E E E c2 (aQ qA50 qS50 G E E (LSlot.len _) (H.cells (i:=0) E (LCell.c_old _))) E E fun a G=>?_
    refine aL G E E E c2 (aC (off':=14) qU151 E in50 E G E E E) E E fun a G=>?_
    refine aL G E E E c2 (aQ qA50 qS50 G E E (LSlot.len _) (H.cells (i:=0) E (LCell.c_new _))) E E fun a G=>?_
    refine aL G E E E c2 (jP qG50 (gR _ _ _ _ (by decide)) G E E E) E E fun a G=>?_
    refine aA G (aZ G E E c2 E) E E E fun a G=>?_
    refine aJ (aB ?_)
    have I:=oI I
    subst I
    exact ⟨(decide (c8.old = c8.new)),E,G.to ⟨E,E,E,E,E,E,E,E,trivial⟩,H⟩
   rintro g0 a w I ⟨G,H⟩
   replace I:Sh.nS d0 c8 g0 = _:=I
   unfold Sh.nS at I
   refine aB ?_
   refine aT G (c:=.tmp 66) E (fun d7=>?_) (fun d7=>?_)
   ·have I:=Fx.cT d7 I
    refine aG ?_
    refine aD ?_
    refine aA G (aH G E E) E E E fun a G=>?_
    refine aJ (aB ?_)
    refine c_ret ?_
    have I:=oI I
    subst I
    have I:=g7 _ rfl
    subst I
    have I:=dE i8
    subst I
    refine bJ qR173 G E ?_
    exact ⟨E,selM H [] 2 E⟩
   have I:=Fx.cF d7 I
   refine aW (aB ?_)
   refine aD ?_
   refine aA G (aC (off':=0) qU151 E in3 E G E E E) E E E fun a G=>?_
   refine aA G (aI qA3 G E E (H.cell (i:=0) E (LCell.g_slot _))) E E E fun a G=>?_
   refine aA G (aH G E E) E E E fun a G=>?_
   refine aJ (bK (aB ?_))
   refine aD ?_
   refine aA G (bW G E E E) E E E fun a G=>?_
   refine aA G (aF G E E) E E E fun a G=>?_
   refine aJ (aB ?_)
   have I:=oI I
   subst I
   exact ⟨(c8.slot,(IntKind.i64.wrap (d0 + 1))),E,G.to ⟨E,E,E,E,E,E,trivial⟩,selM H [1] 2 E⟩
  have I:=Fx.cF d6 I
  refine bX (bC (bC (cO ?_)))
  refine aB ?_
  have I:=oI I
  subst I
  have I:=g7 _ rfl
  subst I
  exact ⟨(),E,G.to ⟨E,E,trivial⟩,H⟩
 rintro ⟨⟩ a w I ⟨G,H⟩
 replace I:Sh.cX x0 = _:=I
 unfold Sh.cX at I
 refine aB ?_
 refine aG ?_
 refine aD ?_
 refine aA G (aC (off':=5) qU60 E in58 E G E E E) E E E fun a G=>?_
 refine aA G (aI qA58 G E E (H.cell (i:=0) E (RMark.g_pieces _))) E E E fun a G=>?_
 obtain ⟨j9,i6,I⟩:=bind_some I
 refine aN G E E E (aO (xs:=[.tmp 71]) Tryz.call227 G E E (mK i6 H (Bf:=Bf) (fun w H=>S _ (dropM H 1)) f7 q8) fun v w hR=>?_)
 obtain ⟨rfl,H⟩:=hR
 replace H:MemL _ (pt c0 (RMark.enc (mMk x0 s1 s3 s5 s9)) 60::Lr):=H
 intro a G
 refine aA G (aH G E E) E E E fun a G=>?_
 refine aJ (aB ?_)
 refine c_ret ?_
 have I:=oI I
 subst I
 refine bJ qR173 G E ?_
 exact ⟨E,selM H [] 1 E⟩
set_option maxHeartbeats 4000000 in
theorem gF {x0:QState} {s1:SV} {s3:SV} {hs4:List SV} {s7:SV} {out:Bool} {w0:World} {Bf:World → Prop} {Lr:List Res} (I:Sh.gR x0 = some out) (H:MemL w0 (Lr)) (S:∀ w,MemL w Lr → Bf w) (f2:LIn Bf s1 x0.ctx) (f5:LIn Bf s3 hs4) (q6:Each (LIn (X:=UInt8) Bf) hs4 x0.tables) (f8:LIn Bf s7 x0.sent):Calls Tryz.prog 82 #[.agg (RState.enc (mSt x0 s1 s3 s7)).toArray] w0 (Ret fun v w'=>v = .bool out ∧ MemL w' (Lr)):=by
 unfold Sh.gR at I
 refine aR (vs:=[.agg (RState.enc (mSt x0 s1 s3 s7)).toArray]) Tryz.func82 E Tryz.ntmps82 E fun a G=>?_
 refine aG ?_
 refine aD ?_
 refine aN G E E E (dA G E E E fun c3 w i8 g2=>?_)
 have H:=H.plus g2
 replace H:MemL _ (pt c3 (RState.enc (mSt x0 s1 s3 s7)) 54::Lr):=H
 intro a G
 refine aA G (aH G E E) E E E fun a G=>?_
 refine aJ (aB ?_)
 refine aG ?_
 refine aV G H I (fun F x a w=>match x with | d6=>Fr 19 [(2,.bool d6)] a ∧ MemL w (Lr)) (fun j5 I j1 G H=>?_) ?_
 ·refine aD ?_
  refine aA G (aC (off':=463) qU54 E in3 E G E E E) E E E fun a G=>?_
  refine aA G (aI qA3 G E E (H.cell (i:=0) E (RState.g_at_ _))) E E E fun a G=>?_
  obtain ⟨j3,g4,I⟩:=bind_some I
  refine aN G E E E (aO (xs:=[.tmp 4,.const (.int .i64 (0)),.const (.int .i64 (4095))]) qC124 G E E (dI g4 H ) fun v w hR=>?_)
  obtain ⟨rfl,H⟩:=hR
  replace H:MemL _ (pt c3 (RState.enc (mSt x0 s1 s3 s7)) 54::Lr):=H
  intro a G
  refine aA G (aF G E E) E E E fun a G=>?_
  refine bG 6 G E (fun c4=>?_) (fun c4=>?_)
  ·have I:=Fx.cT c4 I
   refine aL G E E E c4 (aC (off':=464) qU54 E in3 E G E E E) E E fun a G=>?_
   refine aL G E E E c4 (aI qA3 G E E (H.cell (i:=0) E (RState.g_steps _))) E E fun a G=>?_
   obtain ⟨j4,g5,I⟩:=bind_some I
   refine dV G E E E c4 E E (aO (xs:=[.tmp 8,.const (.int .i64 (0)),.const (.int .i64 (4294967296))]) qC124 G E E (dI g5 H ) fun v w hR=>?_)
   obtain ⟨rfl,H⟩:=hR
   replace H:MemL _ (pt c3 (RState.enc (mSt x0 s1 s3 s7)) 54::Lr):=H
   intro a G
   refine aA G (aP G E E c4 E) E E E fun a G=>?_
   refine aA G (aF G E E) E E E fun a G=>?_
   refine bG 11 G E (fun c1=>?_) (fun c1=>?_)
   ·have I:=Fx.cT c1 I
    refine aL G E E E c1 (aC (off':=460) qU54 E in23 E G E E E) E E fun a G=>?_
    refine aL G E E E c1 (aI qA23 G E E (H.cell (i:=0) E (RState.g_ctx _))) E E fun a G=>?_
    refine aL G E E E c1 (aC (off':=461) qU54 E in28 E G E E E) E E fun a G=>?_
    refine aL G E E E c1 (aI qA28 G E E (H.cell (i:=0) E (RState.g_tables _))) E E fun a G=>?_
    refine aL G E E E c1 (cB z30 qU30 pl30 G (parts:=[(0,.tmp 13),(1,.tmp 15)]) E E (cJ E E (by rw [RInput.len]; decide) (RInput.s_ctx _ _) (cJ E E (by rw [RInput.len]; decide) (RInput.s_tables _ _) cN))) E E fun a G=>?_
    obtain ⟨i3,I,g7⟩:=dH I
    refine dV G E E E c1 E E (aO (xs:=[.tmp 16]) Tryz.call98 G E E (R:=fun v w=>∃ x,i3 = .inl x ∧ match x with | c7=>v = .bool c7 ∧ MemL w (pt c3 (RState.enc (mSt x0 s1 s3 s7)) 54::Lr)) ?_ fun v w hR=>?_)
    ·refine aR Tryz.func98 E Tryz.ntmps98 E fun a G=>?_
     refine aG ?_
     refine aD ?_
     refine aN G E E E (dA G E E E fun c5 w i9 g3=>?_)
     have H:=H.plus g3
     replace H:MemL _ (pt c5 (RInput.enc (RInput.mk s1 s3)) 30::pt c3 (RState.enc (mSt x0 s1 s3 s7)) 54::Lr):=H
     intro a G
     refine aA G (aH G E E) E E E fun a G=>?_
     refine aJ (aB ?_)
     refine aG ?_
     refine aD ?_
     refine aA G (aH G E E) E E E fun a G=>?_
     refine aJ (aB ?_)
     refine aG ?_
     refine aV G H I (fun F x a w=>match x with | c8=>Fr 22 [(2,.bool c8)] a ∧ MemL w (pt c3 (RState.enc (mSt x0 s1 s3 s7)) 54::Lr)) (fun j6 I j2 G H=>?_) ?_
     ·refine aD ?_
      refine aA G (aF G E E) E E E fun a G=>?_
      refine aA G (aC (off':=0) qU30 E in23 E G E E E) E E E fun a G=>?_
      refine aA G (aI qA23 G E E (H.cell (i:=0) E (RInput.g_ctx _))) E E E fun a G=>?_
      obtain ⟨i4,I,g8⟩:=dH I
      refine aN G E E E (hJ (xs:=[.tmp 6]) Tryz.call171 G E E E (R:=fun v w=>∃ x,i4 = .inl x ∧ match x with | d3=>v = .bool d3 ∧ MemL w (pt c5 (RInput.enc (RInput.mk s1 s3)) 30::pt c3 (RState.enc (mSt x0 s1 s3 s7)) 54::Lr)) ?_ fun v w hR=>?_)
      ·refine aR Tryz.func171 E qN171 E fun a G=>?_
       refine aG ?_
       refine aD ?_
       refine aA G (aH G E E) E E E fun a G=>?_
       refine aJ (aB ?_)
       refine aG ?_
       refine aD ?_
       refine aA G (aF G E E) E E E fun a G=>?_
       refine aA G (bQ (f2 _ (S _ (dropM H 2))) qU23 G E E) E E E fun a G=>?_
       refine aA G (eR G E E E) E E E fun a G=>?_
       refine aA G (aH G E E) E E E fun a G=>?_
       refine aJ (aB ?_)
       refine c_ret ?_
       have I:=oI I
       subst I
       refine bJ qR171 G E ?_
       exact ⟨(decide (65535 < (x0.ctx.length:Int))),E,E,H⟩
      obtain ⟨d3,rfl,rfl,H⟩:=hR
      replace I:Sh.gI x0 d3 = _:=g8
      unfold Sh.gI at I
      intro a G
      refine aA G (dF G E E) E E E fun a G=>?_
      refine aA G (aF G E E) E E E fun a G=>?_
      refine bG 9 G E (fun c2=>?_) (fun c2=>?_)
      ·have I:=Fx.cT c2 I
       refine aL G E E E c2 (aC (off':=1) qU30 E in28 E G E E E) E E fun a G=>?_
       refine aL G E E E c2 (aI qA28 G E E (H.cell (i:=0) E (RInput.g_tables _))) E E fun a G=>?_
       refine aL G E E E c2 (cQ (f5 _ (S _ (dropM H 2))) q6.len qU28 G E E) E E fun a G=>?_
       refine aL G E E E c2 (qP G E E E) E E fun a G=>?_
       refine aA G (aP G E E c2 E) E E E fun a G=>?_
       refine aA G (aF G E E) E E E fun a G=>?_
       refine bG 15 G E (fun c0=>?_) (fun c0=>?_)
       ·have I:=Fx.cT c0 I
        refine aL G E E E c0 (aC (off':=1) qU30 E in28 E G E E E) E E fun a G=>?_
        refine aL G E E E c0 (aI qA28 G E E (H.cell (i:=0) E (RInput.g_tables _))) E E fun a G=>?_
        refine aL G E E E c0 (aF G E E) E E fun a G=>?_
        obtain ⟨i5,I,g9⟩:=dH I
        refine dV G E E E c0 E E (aO (xs:=[.tmp 17,.tmp 18]) Tryz.call172 G E E (R:=fun v w=>∃ x,i5 = .inl x ∧ match x with | c9=>v = .bool c9 ∧ MemL w (pt c5 (RInput.enc (RInput.mk s1 s3)) 30::pt c3 (RState.enc (mSt x0 s1 s3 s7)) 54::Lr)) ?_ fun v w hR=>?_)
        ·refine aR Tryz.func172 E Tryz.ntmps172 E fun a G=>?_
         refine aG ?_
         refine aD ?_
         refine aA G (aH G E E) E E E fun a G=>?_
         refine aJ (aB ?_)
         refine aG ?_
         refine aD ?_
         refine aA G (aF G E E) E E E fun a G=>?_
         refine aA G (aF G E E) E E E fun a G=>?_
         obtain ⟨i6,I,i0⟩:=dH I
         refine aN G E E E (aO (xs:=[.tmp 5,.tmp 6]) Tryz.call226 G E E (R:=fun v w=>∃ x,i6 = .inl x ∧ match x with | d0=>v = .int .i64 d0 ∧ MemL w (pt c5 (RInput.enc (RInput.mk s1 s3)) 30::pt c3 (RState.enc (mSt x0 s1 s3 s7)) 54::Lr)) ?_ fun v w hR=>?_)
         ·refine aR Tryz.func226 E Tryz.ntmps226 E fun a G=>?_
          refine aG ?_
          refine aD ?_
          refine aA G (aH G E E) E E E fun a G=>?_
          refine aJ (aB ?_)
          refine aG ?_
          refine aV G H I (fun F x a w=>match x with | _=>Fr 19 [(4,.int .i64 0)] a ∧ MemL w (pt c5 (RInput.enc (RInput.mk s1 s3)) 30::pt c3 (RState.enc (mSt x0 s1 s3 s7)) 54::Lr)) (fun j7 I i2 G H=>?_) ?_
          ·refine aG ?_
           refine aD ?_
           refine aA G (aF G E E) E E E fun a G=>?_
           refine aA G (cQ (f5 _ (S _ (dropM H 2))) q6.len qU28 G E E) E E E fun a G=>?_
           refine aA G (aF G E E) E E E fun a G=>?_
           refine aJ (aB ?_)
           refine aU ?_
           refine bU G H I (fun F x a w=>match x with | c6=>Fr 19 [(8,.int .i64 c6),(0,(s3).v),(1,.func (.func 171) [].toArray [].toArray),(4,.int .i64 0),(7,.int .i64 (x0.tables.length:Int))] a ∧ MemL w (pt c5 (RInput.enc (RInput.mk s1 s3)) 30::pt c3 (RState.enc (mSt x0 s1 s3 s7)) 54::Lr)) (fun G H=>⟨G.to ⟨E,E,E,E,E,trivial⟩,H⟩) ?_
           rintro c6 a w j8 I g1 ⟨G,H⟩
           replace I:Sh.eP x0 c6 = _:=I
           unfold Sh.eP at I
           refine aG ?_
           refine aD ?_
           refine aA G (cK G E E E) E E E fun a G=>?_
           refine aJ (aB ?_)
           refine aG ?_
           refine aT G (c:=.tmp 9) E (fun d1=>?_) (fun d1=>?_)
           ·have I:=Fx.cT d1 I
            refine aW (aB ?_)
            refine aG ?_
            refine aU ?_
            refine aG ?_
            refine aD ?_
            refine aA G (aF G E E) E E E fun a G=>?_
            refine aA G (aH G E E) E E E fun a G=>?_
            refine aJ (aB ?_)
            refine aG ?_
            refine aD ?_
            refine aA G (aF G E E) E E E fun a G=>?_
            refine aA G (aF G E E) E E E fun a G=>?_
            refine aA G (aF G E E) E E E fun a G=>?_
            obtain ⟨g6,d5,I⟩:=bind_some I
            have d7:=aM d5
            obtain ⟨j0,d9,g0⟩:=Each.getr q6 d7.2
            have d8:=Each.bd q6 (bH d5)
            refine aA G (aS (sz:=1) (f5 _ (S _ (dropM H 2))) qU28 in23 E G E E E d8) E E E fun a G=>?_
            refine aA G (aI qA23 G E E ((((f5 _ (S _ (dropM H 2))).elemS d9)).get 0 E)) E E E fun a G=>?_
            obtain ⟨i7,I,i1⟩:=dH I
            refine aN G E E E (hJ (xs:=[.tmp 15]) Tryz.call171 G E E E (R:=fun v w=>∃ x,i7 = .inl x ∧ match x with | d4=>v = .bool d4 ∧ MemL w (pt c5 (RInput.enc (RInput.mk s1 s3)) 30::pt c3 (RState.enc (mSt x0 s1 s3 s7)) 54::Lr)) ?_ fun v w hR=>?_)
            ·refine aR Tryz.func171 E qN171 E fun a G=>?_
             refine aG ?_
             refine aD ?_
             refine aA G (aH G E E) E E E fun a G=>?_
             refine aJ (aB ?_)
             refine aG ?_
             refine aD ?_
             refine aA G (aF G E E) E E E fun a G=>?_
             refine aA G (bQ (g0 _ (S _ (dropM H 2))) qU23 G E E) E E E fun a G=>?_
             refine aA G (eR G E E E) E E E fun a G=>?_
             refine aA G (aH G E E) E E E fun a G=>?_
             refine aJ (aB ?_)
             refine c_ret ?_
             have I:=oI I
             subst I
             refine bJ qR171 G E ?_
             exact ⟨(decide (65535 < (g6.length:Int))),E,E,H⟩
            obtain ⟨d4,rfl,rfl,H⟩:=hR
            replace I:Sh.lZ c6 d4 = _:=i1
            unfold Sh.lZ at I
            intro a G
            refine aJ (aB ?_)
            refine aT G (c:=.tmp 16) E (fun d2=>?_) (fun d2=>?_)
            ·have I:=Fx.cT d2 I
             refine aG ?_
             refine aD ?_
             refine aA G (aF G E E) E E E fun a G=>?_
             refine aA G (aH G E E) E E E fun a G=>?_
             refine aJ (aB ?_)
             refine c_ret ?_
             have I:=oI I
             subst I
             have I:=g1 _ rfl
             subst I
             have I:=dE i2
             subst I
             refine bJ qR226 G E ?_
             exact ⟨c6,E,E,H⟩
            have I:=Fx.cF d2 I
            refine aW (bK (aB ?_))
            refine aD ?_
            refine aA G (bW G E E E) E E E fun a G=>?_
            refine aA G (aF G E E) E E E fun a G=>?_
            refine aJ (aB ?_)
            have I:=oI I
            subst I
            exact ⟨(IntKind.i64.wrap (c6 + 1)),E,G.to ⟨E,E,E,E,E,trivial⟩,H⟩
           have I:=Fx.cF d1 I
           refine bX (bC (bC (cO ?_)))
           refine aB ?_
           have I:=oI I
           subst I
           have I:=g1 _ rfl
           subst I
           exact ⟨(),E,G.to ⟨E,trivial⟩,H⟩
          rintro ⟨⟩ a w I ⟨G,H⟩
          replace I:Sh.oV = _:=I
          unfold Sh.oV at I
          refine aB ?_
          refine aG ?_
          refine aD ?_
          refine aA G (aH G E E) E E E fun a G=>?_
          refine aJ (aB ?_)
          refine c_ret ?_
          have I:=oI I
          subst I
          refine bJ qR226 G E ?_
          exact ⟨(-1),E,E,H⟩
         obtain ⟨d0,rfl,rfl,H⟩:=hR
         replace I:Sh.lY d0 = _:=i0
         unfold Sh.lY at I
         intro a G
         refine aA G (jH G E E E) E E E fun a G=>?_
         refine aA G (aH G E E) E E E fun a G=>?_
         refine aJ (aB ?_)
         refine c_ret ?_
         have I:=oI I
         subst I
         refine bJ Tryz.results172 G E ?_
         exact ⟨(decide (0 ≤ d0)),E,E,H⟩
        obtain ⟨c9,rfl,rfl,H⟩:=hR
        replace I:Sh.lX c9 = _:=g9
        unfold Sh.lX at I
        intro a G
        refine aL G E E E c0 (dF G E E) E E fun a G=>?_
        refine aA G (aP G E E c0 E) E E E fun a G=>?_
        refine aA G (aH G E E) E E E fun a G=>?_
        refine aJ (aB ?_)
        have I:=oI I
        subst I
        exact ⟨(!c9),E,G.to ⟨E,trivial⟩,selM H [1] 2 E⟩
       have I:=Fx.cF c0 I
       refine aE G E E E c0 E E fun a G=>?_
       refine aE G E E E c0 E E fun a G=>?_
       refine aE G E E E c0 E E fun a G=>?_
       refine aE G E E E c0 E E fun a G=>?_
       refine aE G E E E c0 E E fun a G=>?_
       refine aA G (aZ G E E c0 E) E E E fun a G=>?_
       refine aA G (aH G E E) E E E fun a G=>?_
       refine aJ (aB ?_)
       have I:=oI I
       subst I
       exact ⟨false,E,G.to ⟨E,trivial⟩,selM H [1] 2 E⟩
      have I:=Fx.cF c2 I
      refine aE G E E E c2 E E fun a G=>?_
      refine aE G E E E c2 E E fun a G=>?_
      refine aE G E E E c2 E E fun a G=>?_
      refine aE G E E E c2 E E fun a G=>?_
      refine aA G (aZ G E E c2 E) E E E fun a G=>?_
      refine aA G (aF G E E) E E E fun a G=>?_
      refine aE G E E E E E E fun a G=>?_
      refine aE G E E E E E E fun a G=>?_
      refine aE G E E E E E E fun a G=>?_
      refine aE G E E E E E E fun a G=>?_
      refine aE G E E E E E E fun a G=>?_
      refine aA G (aZ G E E E E) E E E fun a G=>?_
      refine aA G (aH G E E) E E E fun a G=>?_
      refine aJ (aB ?_)
      have I:=oI I
      subst I
      exact ⟨false,E,G.to ⟨E,trivial⟩,selM H [1] 2 E⟩
     rintro c8 a w I ⟨G,H⟩
     replace I:Sh.gK c8 = _:=I
     unfold Sh.gK at I
     refine aB ?_
     refine c_ret ?_
     have I:=oI I
     subst I
     refine bJ Tryz.results98 G E ?_
     exact ⟨c8,E,E,H⟩
    obtain ⟨c7,rfl,rfl,H⟩:=hR
    replace I:Sh.gH c7 = _:=g7
    unfold Sh.gH at I
    intro a G
    refine aA G (aP G E E c1 E) E E E fun a G=>?_
    refine aA G (aH G E E) E E E fun a G=>?_
    refine aJ (aB ?_)
    have I:=oI I
    subst I
    exact ⟨c7,E,G.to ⟨E,trivial⟩,selM H [] 1 E⟩
   have I:=Fx.cF c1 I
   refine aE G E E E c1 E E fun a G=>?_
   refine aE G E E E c1 E E fun a G=>?_
   refine aE G E E E c1 E E fun a G=>?_
   refine aE G E E E c1 E E fun a G=>?_
   refine aE G E E E c1 E E fun a G=>?_
   refine aE G E E E c1 E E fun a G=>?_
   refine aA G (aZ G E E c1 E) E E E fun a G=>?_
   refine aA G (aH G E E) E E E fun a G=>?_
   refine aJ (aB ?_)
   have I:=oI I
   subst I
   exact ⟨false,E,G.to ⟨E,trivial⟩,selM H [] 1 E⟩
  have I:=Fx.cF c4 I
  refine aE G E E E c4 E E fun a G=>?_
  refine aE G E E E c4 E E fun a G=>?_
  refine aE G E E E c4 E E fun a G=>?_
  refine aA G (aZ G E E c4 E) E E E fun a G=>?_
  refine aA G (aF G E E) E E E fun a G=>?_
  refine aE G E E E E E E fun a G=>?_
  refine aE G E E E E E E fun a G=>?_
  refine aE G E E E E E E fun a G=>?_
  refine aE G E E E E E E fun a G=>?_
  refine aE G E E E E E E fun a G=>?_
  refine aE G E E E E E E fun a G=>?_
  refine aA G (aZ G E E E E) E E E fun a G=>?_
  refine aA G (aH G E E) E E E fun a G=>?_
  refine aJ (aB ?_)
  have I:=oI I
  subst I
  exact ⟨false,E,G.to ⟨E,trivial⟩,selM H [] 1 E⟩
 rintro d6 a w I ⟨G,H⟩
 replace I:Sh.gJ d6 = _:=I
 unfold Sh.gJ at I
 refine aB ?_
 refine c_ret ?_
 have I:=oI I
 subst I
 refine bJ Tryz.results82 G E ?_
 exact ⟨E,H⟩
set_option maxHeartbeats 4000000 in
theorem pX {x0:QState} {x1:Int} {s1:SV} {s3:SV} {hs4:List SV} {s7:SV} {out:(List UInt8 × Bool)} {w0:World} {Bf:World → Prop} {Lr:List Res} (I:Sh.nP x0 x1 = some out) (H:MemL w0 (Lr)) (S:∀ w,MemL w Lr → Bf w) (f2:LIn Bf s1 x0.ctx) (f5:LIn Bf s3 hs4) (q6:Each (LIn (X:=UInt8) Bf) hs4 x0.tables) (f8:LIn Bf s7 x0.sent):Calls Tryz.prog 192 #[.agg (RState.enc (mSt x0 s1 s3 s7)).toArray,.int .i64 x1] w0 (Ret fun v w'=>∃ (s15:SV),v = .tuple #[(s15).v,.bool out.2] ∧ LIn Bf s15 out.1 ∧ MemL w' (Lr)):=by
 unfold Sh.nP at I
 refine aR (vs:=[.agg (RState.enc (mSt x0 s1 s3 s7)).toArray,.int .i64 x1]) Tryz.func192 E Tryz.ntmps192 E fun a G=>?_
 refine aG ?_
 refine aD ?_
 refine aN G E E E (dA G E E E fun c0 w c2 c1=>?_)
 have H:=H.plus c1
 replace H:MemL _ (pt c0 (RState.enc (mSt x0 s1 s3 s7)) 54::Lr):=H
 intro a G
 refine aA G (aH G E E) E E E fun a G=>?_
 refine aA G (aH G E E) E E E fun a G=>?_
 refine aJ (aB ?_)
 refine aG ?_
 refine aU ?_
 refine aG ?_
 refine aD ?_
 refine aA G (aF G E E) E E E fun a G=>?_
 refine aA G (cK G E E E) E E E fun a G=>?_
 refine aA G (aH G E E) E E E fun a G=>?_
 refine aJ (aB ?_)
 refine aT G (c:=.tmp 6) E (fun hb20=>?_) (fun hb20=>?_)
 ·have I:=Fx.cT hb20 I
  refine aG ?_
  refine aD ?_
  refine aA G (aC (off':=460) qU54 E in23 E G E E E) E E E fun a G=>?_
  refine aA G (aI qA23 G E E (H.cell (i:=0) E (RState.g_ctx _))) E E E fun a G=>?_
  refine aA G (aH G E E) E E E fun a G=>?_
  refine aA G (aH G E E) E E E fun a G=>?_
  refine aJ (aB ?_)
  refine c_ret ?_
  have I:=oI I
  subst I
  refine dJ (rs:=[.tmp 4,.tmp 5]) qR192 G (cL G E (cL G E cI)) E ?_
  exact ⟨s1,E,f2,selM H [] 1 E⟩
 have I:=Fx.cF hb20 I
 refine aG ?_
 refine aD ?_
 refine aA G (aF G E E) E E E fun a G=>?_
 refine aA G (aC (off':=461) qU54 E in28 E G E E E) E E E fun a G=>?_
 refine aA G (aI qA28 G E E (H.cell (i:=0) E (RState.g_tables _))) E E E fun a G=>?_
 refine aA G (cQ (f5 _ (S _ (dropM H 1))) q6.len qU28 G E E) E E E fun a G=>?_
 refine aA G (cK G E E E) E E E fun a G=>?_
 refine aA G (aH G E E) E E E fun a G=>?_
 refine aJ (aB ?_)
 refine aT G (c:=.tmp 11) E (fun hb21=>?_) (fun hb21=>?_)
 ·have I:=Fx.cT hb21 I
  refine aG ?_
  refine aD ?_
  refine aA G (aC (off':=461) qU54 E in28 E G E E E) E E E fun a G=>?_
  refine aA G (aI qA28 G E E (H.cell (i:=0) E (RState.g_tables _))) E E E fun a G=>?_
  refine aA G (aF G E E) E E E fun a G=>?_
  obtain ⟨x22,hx22,I⟩:=bind_some I
  have h0x22:=aM hx22
  obtain ⟨yx22,hgx22,hrx22⟩:=Each.getr q6 h0x22.2
  have hdx22:=Each.bd q6 (bH hx22)
  refine aA G (aS (sz:=1) (f5 _ (S _ (dropM H 1))) qU28 in23 E G E E E hdx22) E E E fun a G=>?_
  refine aA G (aI qA23 G E E ((((f5 _ (S _ (dropM H 1))).elemS hgx22)).get 0 E)) E E E fun a G=>?_
  refine aA G (aH G E E) E E E fun a G=>?_
  refine aA G (aH G E E) E E E fun a G=>?_
  refine aJ (aB ?_)
  refine c_ret ?_
  have I:=oI I
  subst I
  refine dJ (rs:=[.tmp 4,.tmp 5]) qR192 G (cL G E (cL G E cI)) E ?_
  exact ⟨yx22,E,hrx22,selM H [] 1 E⟩
 have I:=Fx.cF hb21 I
 refine aW (bK (aB ?_))
 refine aG ?_
 refine aD ?_
 refine aA G (aH G E E) E E E fun a G=>?_
 refine aA G (aH G E E) E E E fun a G=>?_
 refine aJ (aB ?_)
 refine c_ret ?_
 have I:=oI I
 subst I
 refine dJ (rs:=[.tmp 4,.tmp 5]) qR192 G (cL G E (cL G E cI)) E ?_
 exact ⟨SV.nil,E,LIn.nil,selM H [] 1 E⟩
set_option maxHeartbeats 4000000 in
theorem mJ {x0:QState} {x1:QMark} {s1:SV} {s3:SV} {hs4:List SV} {s7:SV} {s9:SV} {s11:SV} {s13:SV} {hs14:List RPiece} {s17:SV} {out:Bool} {w0:World} {Bf:World → Prop} {Lr:List Res} (I:Sh.qK x0 x1 = some out) (H:MemL w0 (Lr)) (S:∀ w,MemL w Lr → Bf w) (f2:LIn Bf s1 x0.ctx) (f5:LIn Bf s3 hs4) (q6:Each (LIn (X:=UInt8) Bf) hs4 x0.tables) (f8:LIn Bf s7 x0.sent) (f10:LIn Bf s9 x1.regs) (f12:LIn Bf s11 x1.slots) (f15:LIn Bf s13 hs14) (q16:Each (QPieceIn Bf) hs14 x1.pieces) (f18:LIn Bf s17 x1.sent):Calls Tryz.prog 126 #[.agg (RState.enc (mSt x0 s1 s3 s7)).toArray,.agg (RMark.enc (mMk x1 s9 s11 s13 s17)).toArray] w0 (Ret fun v w'=>v = .bool out ∧ MemL w' (Lr)):=by
 unfold Sh.qK at I
 refine aR (vs:=[.agg (RState.enc (mSt x0 s1 s3 s7)).toArray,.agg (RMark.enc (mMk x1 s9 s11 s13 s17)).toArray]) Tryz.func126 E Tryz.ntmps126 E fun a G=>?_
 refine aG ?_
 refine aD ?_
 refine aN G E E E (dA G E E E fun c0 w k3 g7=>?_)
 have H:=H.plus g7
 intro a G
 refine aN G E E E (dA G E E E fun c1 w k4 g8=>?_)
 have H:=H.plus g8
 replace H:MemL _ (pt c1 (RMark.enc (mMk x1 s9 s11 s13 s17)) 60::pt c0 (RState.enc (mSt x0 s1 s3 s7)) 54::Lr):=H
 intro a G
 refine aA G (aH G E E) E E E fun a G=>?_
 refine aJ (aB ?_)
 refine aG ?_
 refine aV G H I (fun F x a w=>match x with | _=>Fr 91 [(2,.pointer (some ⟨c0,0,none⟩)),(3,.pointer (some ⟨c1,0,none⟩)),(4,.bool false)] a ∧ MemL w (pt c1 (RMark.enc (mMk x1 s9 s11 s13 s17)) 60::pt c0 (RState.enc (mSt x0 s1 s3 s7)) 54::Lr)) (fun l7 I j7 G H=>?_) ?_
 ·refine aG ?_
  refine aD ?_
  refine aA G (aC (off':=3) qU60 E in56 E G E E E) E E E fun a G=>?_
  refine aA G (aI qA56 G E E (H.cell (i:=0) E (RMark.g_regs _))) E E E fun a G=>?_
  refine aA G (bQ (f10 _ (S _ (dropM H 2))) qU56 G E E) E E E fun a G=>?_
  refine aA G (aF G E E) E E E fun a G=>?_
  refine aJ (aB ?_)
  refine aU ?_
  refine bU G H I (fun F x a w=>match x with | g2=>Fr 91 [(17,.int .i64 g2),(15,(s9).v),(16,.int .i64 (x1.regs.length:Int)),(2,.pointer (some ⟨c0,0,none⟩)),(3,.pointer (some ⟨c1,0,none⟩)),(4,.bool false)] a ∧ MemL w (pt c1 (RMark.enc (mMk x1 s9 s11 s13 s17)) 60::pt c0 (RState.enc (mSt x0 s1 s3 s7)) 54::Lr)) (fun G H=>⟨G.to ⟨E,E,E,E,E,E,trivial⟩,H⟩) ?_
  rintro g2 a w m1 I i2 ⟨G,H⟩
  replace I:Sh.mC x0 x1 g2 = _:=I
  unfold Sh.mC at I
  refine aG ?_
  refine aD ?_
  refine aA G (cK G E E E) E E E fun a G=>?_
  refine aJ (aB ?_)
  refine aG ?_
  refine aT G (c:=.tmp 18) E (fun d5=>?_) (fun d5=>?_)
  ·have I:=Fx.cT d5 I
   refine aW (aB ?_)
   refine aG ?_
   refine aU ?_
   refine aG ?_
   refine aD ?_
   obtain ⟨k8,i5,I⟩:=bind_some I
   have j2:=aM i5
   refine aA G (aS (sz:=9) (f10 _ (S _ (dropM H 2))) qU56 in128 E G E E E (bH i5)) E E E fun a G=>?_
   refine aA G (aQ qA128 qS128 G E E (LTurn.len _) (((f10 _ (S _ (dropM H 2))).elemS j2.2))) E E E fun a G=>?_
   refine aN G E E E (bN z128 (zs:=LTurn.zero.enc) E E fun d0 w k5 g9=>?_)
   have H:=H.plus g9
   replace H:MemL _ (pt d0 (LTurn.enc LTurn.zero) 128::pt c1 (RMark.enc (mMk x1 s9 s11 s13 s17)) 60::pt c0 (RState.enc (mSt x0 s1 s3 s7)) 54::Lr):=H
   intro a G
   refine bD E E (aX (vs:=_) qS128 (H.obj (i:=0) E) G E E E E (LTurn.len _) (LTurn.one _) (by first | (rw [LTurn.len,LTurn.len]; decide) | (rw [LTurn.len]; decide)) (bE ((LTurn.len _).trans (LTurn.len _).symm)) fun w k0=>?_)
   have H:=H.chg k0 (i:=0) rfl
   replace H:MemL _ (pt d0 (LTurn.enc k8) 128::pt c1 (RMark.enc (mMk x1 s9 s11 s13 s17)) 60::pt c0 (RState.enc (mSt x0 s1 s3 s7)) 54::Lr):=H
   refine aJ (aB ?_)
   refine aG ?_
   refine bM mixed (by kernel_rfl) H [0,1,2] 3 E fun K=>?_
   refine aK G K 0 E (by kernel_rfl) E E E (fun w H=>(aC (off':=0) qU128 E in3 E G E E E)) fun a G=>?_
   refine aK G K 1 E (by kernel_rfl) E E E (fun w H=>(aI qA3 G E E (H.cell (i:=0) E (LTurn.g_reg _)))) fun a G=>?_
   refine aK G K 2 E (by kernel_rfl) E E E (fun w H=>(aC (off':=0) qU54 E in47 E G E E E)) fun a G=>?_
   obtain ⟨m4,d9,I⟩:=bind_some I
   have l0:=aM d9
   refine aK G K 3 E (by kernel_rfl) E E E (fun w H=>(cP (sz:=4) qU47 in46 E G E E E (cU d9))) fun a G=>?_
   refine aK G K 4 E (by kernel_rfl) E E E (fun w H=>(aQ qA46 qS46 G E E (LVal.len _) (H.cells (i:=2) E (RState.ci_regs _ _ _ (aM d9).2)))) fun a G=>?_
   refine aK G K 5 E (by kernel_rfl) E E E (fun w H=>(aC (off':=1) qU128 E in46 E G E E E)) fun a G=>?_
   refine aK G K 6 E (by kernel_rfl) E E E (fun w H=>(aQ qA46 qS46 G E E (LVal.len _) (H.cells (i:=0) E (LTurn.c_old _)))) fun a G=>?_
   refine aK G K 7 E (by kernel_rfl) E E E (fun w H=>(jQ qG46 (gA _ _ _ _ (by decide)) G E E E)) fun a G=>?_
   refine bV K (by kernel_rfl) fun w H=>?_
   refine aB ?_
   refine aT G (c:=.tmp 28) E (fun d6=>?_) (fun d6=>?_)
   ·have I:=Fx.cT d6 I
    refine aG ?_
    refine aD ?_
    refine aA G (aH G E E) E E E fun a G=>?_
    refine aJ (aB ?_)
    refine c_ret ?_
    have I:=oI I
    subst I
    have I:=i2 _ rfl
    subst I
    have I:=dE j7
    subst I
    refine bJ qR126 G E ?_
    exact ⟨E,selM H [] 3 E⟩
   have I:=Fx.cF d6 I
   refine aW (bK (aB ?_))
   refine aD ?_
   refine aA G (bW G E E E) E E E fun a G=>?_
   refine aA G (aF G E E) E E E fun a G=>?_
   refine aJ (aB ?_)
   have I:=oI I
   subst I
   exact ⟨(IntKind.i64.wrap (g2 + 1)),E,G.to ⟨E,E,E,E,E,E,trivial⟩,selM H [1,2] 3 E⟩
  have I:=Fx.cF d5 I
  refine bX (bC (bC (cO ?_)))
  refine aB ?_
  have I:=oI I
  subst I
  have I:=i2 _ rfl
  subst I
  exact ⟨(),E,G.to ⟨E,E,E,trivial⟩,H⟩
 rintro ⟨⟩ a w I ⟨G,H⟩
 replace I:Sh.rY x0 x1 = _:=I
 unfold Sh.rY at I
 refine aB ?_
 refine aG ?_
 refine aV G H I (fun F x a w=>match x with | _=>Fr 91 [(2,.pointer (some ⟨c0,0,none⟩)),(3,.pointer (some ⟨c1,0,none⟩)),(4,.bool false)] a ∧ MemL w (pt c1 (RMark.enc (mMk x1 s9 s11 s13 s17)) 60::pt c0 (RState.enc (mSt x0 s1 s3 s7)) 54::Lr)) (fun l8 I j8 G H=>?_) ?_
 ·refine aG ?_
  refine aD ?_
  refine aA G (aC (off':=4) qU60 E in57 E G E E E) E E E fun a G=>?_
  refine aA G (aI qA57 G E E (H.cell (i:=0) E (RMark.g_slots _))) E E E fun a G=>?_
  refine aA G (bQ (f12 _ (S _ (dropM H 2))) qU57 G E E) E E E fun a G=>?_
  refine aA G (aF G E E) E E E fun a G=>?_
  refine aJ (aB ?_)
  refine aU ?_
  refine bU G H I (fun F x a w=>match x with | g3=>Fr 91 [(33,.int .i64 g3),(2,.pointer (some ⟨c0,0,none⟩)),(3,.pointer (some ⟨c1,0,none⟩)),(31,(s11).v),(32,.int .i64 (x1.slots.length:Int)),(4,.bool false)] a ∧ MemL w (pt c1 (RMark.enc (mMk x1 s9 s11 s13 s17)) 60::pt c0 (RState.enc (mSt x0 s1 s3 s7)) 54::Lr)) (fun G H=>⟨G.to ⟨E,E,E,E,E,E,trivial⟩,H⟩) ?_
  rintro g3 a w m2 I i3 ⟨G,H⟩
  replace I:Sh.mD x0 x1 g3 = _:=I
  unfold Sh.mD at I
  refine aG ?_
  refine aD ?_
  refine aA G (cK G E E E) E E E fun a G=>?_
  refine aJ (aB ?_)
  refine aG ?_
  refine aT G (c:=.tmp 34) E (fun d7=>?_) (fun d7=>?_)
  ·have I:=Fx.cT d7 I
   refine aW (aB ?_)
   refine aG ?_
   refine aU ?_
   refine aG ?_
   refine aD ?_
   obtain ⟨k9,i6,I⟩:=bind_some I
   have j3:=aM i6
   refine aA G (aS (sz:=27) (f12 _ (S _ (dropM H 2))) qU57 in151 E G E E E (bH i6)) E E E fun a G=>?_
   refine aA G (aQ qA151 qS151 G E E (LCell.len _) (((f12 _ (S _ (dropM H 2))).elemS j3.2))) E E E fun a G=>?_
   refine aN G E E E (bN z151 (zs:=LCell.zero.enc) E E fun d1 w k6 i0=>?_)
   have H:=H.plus i0
   replace H:MemL _ (pt d1 (LCell.enc LCell.zero) 151::pt c1 (RMark.enc (mMk x1 s9 s11 s13 s17)) 60::pt c0 (RState.enc (mSt x0 s1 s3 s7)) 54::Lr):=H
   intro a G
   refine bD E E (aX (vs:=_) qS151 (H.obj (i:=0) E) G E E E E (LCell.len _) (LCell.one _) (by first | (rw [LCell.len,LCell.len]; decide) | (rw [LCell.len]; decide)) (bE ((LCell.len _).trans (LCell.len _).symm)) fun w k1=>?_)
   have H:=H.chg k1 (i:=0) rfl
   replace H:MemL _ (pt d1 (LCell.enc k9) 151::pt c1 (RMark.enc (mMk x1 s9 s11 s13 s17)) 60::pt c0 (RState.enc (mSt x0 s1 s3 s7)) 54::Lr):=H
   refine aJ (aB ?_)
   refine aG ?_
   refine bM mixed (by kernel_rfl) H [0,1,2] 3 E fun K=>?_
   refine aK G K 0 E (by kernel_rfl) E E E (fun w H=>(aC (off':=0) qU151 E in3 E G E E E)) fun a G=>?_
   refine aK G K 1 E (by kernel_rfl) E E E (fun w H=>(aI qA3 G E E (H.cell (i:=0) E (LCell.g_slot _)))) fun a G=>?_
   refine aK G K 2 E (by kernel_rfl) E E E (fun w H=>(aC (off':=44) qU54 E in51 E G E E E)) fun a G=>?_
   obtain ⟨m5,g0,I⟩:=bind_some I
   have l1:=aM g0
   refine aK G K 3 E (by kernel_rfl) E E E (fun w H=>(cP (sz:=13) qU51 in50 E G E E E (cU g0))) fun a G=>?_
   refine aK G K 4 E (by kernel_rfl) E E E (fun w H=>(aQ qA50 qS50 G E E (LSlot.len _) (H.cells (i:=2) E (RState.ci_stack _ _ _ (aM g0).2)))) fun a G=>?_
   refine aK G K 5 E (by kernel_rfl) E E E (fun w H=>(aC (off':=1) qU151 E in50 E G E E E)) fun a G=>?_
   refine aK G K 6 E (by kernel_rfl) E E E (fun w H=>(aQ qA50 qS50 G E E (LSlot.len _) (H.cells (i:=0) E (LCell.c_old _)))) fun a G=>?_
   refine aK G K 7 E (by kernel_rfl) E E E (fun w H=>(jQ qG50 (gR _ _ _ _ (by decide)) G E E E)) fun a G=>?_
   refine bV K (by kernel_rfl) fun w H=>?_
   refine aB ?_
   refine aT G (c:=.tmp 44) E (fun d8=>?_) (fun d8=>?_)
   ·have I:=Fx.cT d8 I
    refine aG ?_
    refine aD ?_
    refine aA G (aH G E E) E E E fun a G=>?_
    refine aJ (aB ?_)
    refine c_ret ?_
    have I:=oI I
    subst I
    have I:=i3 _ rfl
    subst I
    have I:=dE j8
    subst I
    refine bJ qR126 G E ?_
    exact ⟨E,selM H [] 3 E⟩
   have I:=Fx.cF d8 I
   refine aW (bK (aB ?_))
   refine aD ?_
   refine aA G (bW G E E E) E E E fun a G=>?_
   refine aA G (aF G E E) E E E fun a G=>?_
   refine aJ (aB ?_)
   have I:=oI I
   subst I
   exact ⟨(IntKind.i64.wrap (g3 + 1)),E,G.to ⟨E,E,E,E,E,E,trivial⟩,selM H [1,2] 3 E⟩
  have I:=Fx.cF d7 I
  refine bX (bC (bC (cO ?_)))
  refine aB ?_
  have I:=oI I
  subst I
  have I:=i3 _ rfl
  subst I
  exact ⟨(),E,G.to ⟨E,E,E,trivial⟩,H⟩
 rintro ⟨⟩ a w I ⟨G,H⟩
 replace I:Sh.rZ x0 x1 = _:=I
 unfold Sh.rZ at I
 refine aB ?_
 refine aG ?_
 refine aV G H I (fun F x a w=>match x with | _=>Fr 91 [(2,.pointer (some ⟨c0,0,none⟩)),(3,.pointer (some ⟨c1,0,none⟩)),(4,.bool false)] a ∧ MemL w (pt c1 (RMark.enc (mMk x1 s9 s11 s13 s17)) 60::pt c0 (RState.enc (mSt x0 s1 s3 s7)) 54::Lr)) (fun l9 I j9 G H=>?_) ?_
 ·refine aG ?_
  refine aD ?_
  refine aA G (aC (off':=5) qU60 E in58 E G E E E) E E E fun a G=>?_
  refine aA G (aI qA58 G E E (H.cell (i:=0) E (RMark.g_pieces _))) E E E fun a G=>?_
  refine aA G (cQ (f15 _ (S _ (dropM H 2))) q16.len qU58 G E E) E E E fun a G=>?_
  refine aA G (aF G E E) E E E fun a G=>?_
  refine aJ (aB ?_)
  refine aU ?_
  refine bU G H I (fun F x a w=>match x with | c6=>Fr 91 [(49,.int .i64 c6),(2,.pointer (some ⟨c0,0,none⟩)),(3,.pointer (some ⟨c1,0,none⟩)),(4,.bool false),(47,(s13).v),(48,.int .i64 (x1.pieces.length:Int))] a ∧ MemL w (pt c1 (RMark.enc (mMk x1 s9 s11 s13 s17)) 60::pt c0 (RState.enc (mSt x0 s1 s3 s7)) 54::Lr)) (fun G H=>⟨G.to ⟨E,E,E,E,E,E,trivial⟩,H⟩) ?_
  rintro c6 a w m3 I i4 ⟨G,H⟩
  replace I:Sh.mE x0 x1 c6 = _:=I
  unfold Sh.mE at I
  refine aG ?_
  refine aD ?_
  refine aA G (cK G E E E) E E E fun a G=>?_
  refine aJ (aB ?_)
  refine aG ?_
  refine aT G (c:=.tmp 50) E (fun d2=>?_) (fun d2=>?_)
  ·have I:=Fx.cT d2 I
   refine aW (aB ?_)
   refine aG ?_
   refine aU ?_
   refine aG ?_
   refine aD ?_
   obtain ⟨c4,g5,I⟩:=bind_some I
   have i8:=aM g5
   obtain ⟨l2,j0,j1⟩:=Each.getr q16 i8.2
   have i9:=Each.bd q16 (bH g5)
   obtain ⟨c7,c8,rfl,i1,l3⟩:=j1
   refine aA G (aS (sz:=4) (f15 _ (S _ (dropM H 2))) qU58 in156 E G E E E i9) E E E fun a G=>?_
   refine aA G (aQ qA156 qS156 G E E (RPiece.len _) (((f15 _ (S _ (dropM H 2))).elemS j0))) E E E fun a G=>?_
   refine aN G E E E (bN z156 (zs:=RPiece.zero.enc) E E fun c5 w k2 g4=>?_)
   have H:=H.plus g4
   replace H:MemL _ (pt c5 (RPiece.enc (RPiece.mk 0 0 SV.nil SV.nil)) 156::pt c1 (RMark.enc (mMk x1 s9 s11 s13 s17)) 60::pt c0 (RState.enc (mSt x0 s1 s3 s7)) 54::Lr):=H
   intro a G
   refine bD E E (aX (vs:=_) qS156 (H.obj (i:=0) E) G E E E E (RPiece.len _) (RPiece.one _) (by first | (rw [RPiece.len,RPiece.len]; decide) | (rw [RPiece.len]; decide)) (bE ((RPiece.len _).trans (RPiece.len _).symm)) fun w j4=>?_)
   have H:=H.chg j4 (i:=0) rfl
   replace H:MemL _ (pt c5 (RPiece.enc (mPc c4 c7 c8)) 156::pt c1 (RMark.enc (mMk x1 s9 s11 s13 s17)) 60::pt c0 (RState.enc (mSt x0 s1 s3 s7)) 54::Lr):=H
   refine aJ (aB ?_)
   refine aG ?_
   refine aD ?_
   refine aA G (aQ qA54 qS54 G E E (RState.len _) (H.cells (i:=2) E (aY (RState.len _)))) E E E fun a G=>?_
   refine aA G (aC (off':=0) qU156 E in3 E G E E E) E E E fun a G=>?_
   refine aA G (aI qA3 G E E (H.cell (i:=0) E (RPiece.g_table _))) E E E fun a G=>?_
   obtain ⟨l6,j5,I⟩:=bind_some I
   refine aN G E E E (aO (xs:=[.tmp 54,.tmp 56]) Tryz.call192 G E E (pX j5 H (Bf:=Bf) (fun w H=>S _ (dropM H 3)) f2 f5 q6 f8) fun v w hR=>?_)
   obtain ⟨l5,rfl,d4,H⟩:=hR
   replace H:MemL _ (pt c5 (RPiece.enc (mPc c4 c7 c8)) 156::pt c1 (RMark.enc (mMk x1 s9 s11 s13 s17)) 60::pt c0 (RState.enc (mSt x0 s1 s3 s7)) 54::Lr):=H
   intro a G
   refine aA G (aF G E E) E E E fun a G=>?_
   refine aA G (cZ G E E E) E E E fun a G=>?_
   refine aA G (cZ G E E E) E E E fun a G=>?_
   refine aA G (aH G E E) E E E fun a G=>?_
   refine aA G (aH G E E) E E E fun a G=>?_
   refine aJ (aB ?_)
   refine aG ?_
   refine aD ?_
   refine aA G (aC (off':=1) qU156 E in3 E G E E E) E E E fun a G=>?_
   refine aA G (aI qA3 G E E (H.cell (i:=0) E (RPiece.g_from_ _))) E E E fun a G=>?_
   refine aA G (aC (off':=2) qU156 E in23 E G E E E) E E E fun a G=>?_
   refine aA G (aI qA23 G E E (H.cell (i:=0) E (RPiece.g_old _))) E E E fun a G=>?_
   refine aA G (bQ (i1 _ (S _ (dropM H 3))) qU23 G E E) E E E fun a G=>?_
   refine aA G (bW G E E E) E E E fun a G=>?_
   refine aA G (aH G E E) E E E fun a G=>?_
   refine aJ (aB ?_)
   refine aG ?_
   refine aV G H I (fun F x a w=>match x with | g1=>Fr 91 [(84,.bool g1),(2,.pointer (some ⟨c0,0,none⟩)),(3,.pointer (some ⟨c1,0,none⟩)),(4,.bool false),(47,(s13).v),(48,.int .i64 (x1.pieces.length:Int)),(49,.int .i64 c6)] a ∧ MemL w (pt c1 (RMark.enc (mMk x1 s9 s11 s13 s17)) 60::pt c0 (RState.enc (mSt x0 s1 s3 s7)) 54::Lr)) (fun m0 I l4 G H=>?_) ?_
   ·refine bM mixed (by kernel_rfl) H [0,1,2] 3 E fun K=>?_
    refine aK G K 0 E (by kernel_rfl) E E E (fun w H=>(aF G E E)) fun a G=>?_
    refine aK G K 1 E (by kernel_rfl) E E E (fun w H=>(dF G E E)) fun a G=>?_
    refine aK G K 2 E (by kernel_rfl) E E E (fun w H=>(aF G E E)) fun a G=>?_
    refine bG 68 G E (fun c3=>?_) (fun c3=>?_)
    ·have I:=Fx.cT c3 I
     refine bA G K 3 E (by kernel_rfl) E E E c3 E E fun a G=>?_
     refine bA G K 4 E (by kernel_rfl) E E E c3 E E fun a G=>?_
     refine bA G K 5 E (by kernel_rfl) E E E c3 E E fun a G=>?_
     refine bA G K 6 E (by kernel_rfl) E E E c3 E E fun a G=>?_
     refine aK G K 7 E (by kernel_rfl) E E E (fun w H=>(aP G E E c3 E)) fun a G=>?_
     refine aK G K 8 E (by kernel_rfl) E E E (fun w H=>(aF G E E)) fun a G=>?_
     refine bA G K 9 E (by kernel_rfl) E E E E E E fun a G=>?_
     refine bA G K 10 E (by kernel_rfl) E E E E E E fun a G=>?_
     refine bA G K 11 E (by kernel_rfl) E E E E E E fun a G=>?_
     refine bA G K 12 E (by kernel_rfl) E E E E E E fun a G=>?_
     refine bA G K 13 E (by kernel_rfl) E E E E E E fun a G=>?_
     refine bA G K 14 E (by kernel_rfl) E E E E E E fun a G=>?_
     refine bA G K 15 E (by kernel_rfl) E E E E E E fun a G=>?_
     refine bA G K 16 E (by kernel_rfl) E E E E E E fun a G=>?_
     refine bA G K 17 E (by kernel_rfl) E E E E E E fun a G=>?_
     refine aK G K 18 E (by kernel_rfl) E E E (fun w H=>(aP G E E E E)) fun a G=>?_
     refine bV K (by kernel_rfl) fun w H=>?_
     refine aB ?_
     have I:=oI I
     subst I
     exact ⟨true,E,G.to ⟨E,E,E,E,E,E,E,trivial⟩,selM H [1,2] 3 E⟩
    have I:=Fx.cF c3 I
    refine bR G K 3 E (by kernel_rfl) E E E c3 E E (fun w H=>(aF G E E)) fun a G=>?_
    refine bR G K 4 E (by kernel_rfl) E E E c3 E E (fun w H=>(aF G E E)) fun a G=>?_
    refine bR G K 5 E (by kernel_rfl) E E E c3 E E (fun w H=>(bQ (d4 _ (S _ (dropM H 3))) qU23 G E E)) fun a G=>?_
    refine bR G K 6 E (by kernel_rfl) E E E c3 E E (fun w H=>(eR G E E E)) fun a G=>?_
    refine aK G K 7 E (by kernel_rfl) E E E (fun w H=>(aZ G E E c3 E)) fun a G=>?_
    refine aK G K 8 E (by kernel_rfl) E E E (fun w H=>(aF G E E)) fun a G=>?_
    refine bG 74 G E (fun c2=>?_) (fun c2=>?_)
    ·have I:=Fx.cT c2 I
     refine bA G K 9 E (by kernel_rfl) E E E c2 E E fun a G=>?_
     refine bA G K 10 E (by kernel_rfl) E E E c2 E E fun a G=>?_
     refine bA G K 11 E (by kernel_rfl) E E E c2 E E fun a G=>?_
     refine bA G K 12 E (by kernel_rfl) E E E c2 E E fun a G=>?_
     refine bA G K 13 E (by kernel_rfl) E E E c2 E E fun a G=>?_
     refine bA G K 14 E (by kernel_rfl) E E E c2 E E fun a G=>?_
     refine bA G K 15 E (by kernel_rfl) E E E c2 E E fun a G=>?_
     refine bA G K 16 E (by kernel_rfl) E E E c2 E E fun a G=>?_
     refine bA G K 17 E (by kernel_rfl) E E E c2 E E fun a G=>?_
     refine aK G K 18 E (by kernel_rfl) E E E (fun w H=>(aP G E E c2 E)) fun a G=>?_
     refine bV K (by kernel_rfl) fun w H=>?_
     refine aB ?_
     have I:=oI I
     subst I
     exact ⟨true,E,G.to ⟨E,E,E,E,E,E,E,trivial⟩,selM H [1,2] 3 E⟩
    have I:=Fx.cF c2 I
    refine bR G K 9 E (by kernel_rfl) E E E c2 E E (fun w H=>(aF G E E)) fun a G=>?_
    refine bR G K 10 E (by kernel_rfl) E E E c2 E E (fun w H=>(aC (off':=1) qU156 E in3 E G E E E)) fun a G=>?_
    refine bR G K 11 E (by kernel_rfl) E E E c2 E E (fun w H=>(aI qA3 G E E (H.cell (i:=0) E (RPiece.g_from_ _)))) fun a G=>?_
    refine bR G K 12 E (by kernel_rfl) E E E c2 E E (fun w H=>(aF G E E)) fun a G=>?_
    obtain ⟨i7,g6,I⟩:=bind_some I
    refine bR G K 13 E (by kernel_rfl) E E E c2 E E (fun w H=>(eL (d4 _ (S _ (dropM H 3))) g6 qU23 in5 E G E E (.inr ⟨_,_,E,E⟩) (.inr ⟨_,_,E,E⟩))) fun a G=>?_
    refine bR G K 14 E (by kernel_rfl) E E E c2 E E (fun w H=>(aC (off':=2) qU156 E in23 E G E E E)) fun a G=>?_
    refine bR G K 15 E (by kernel_rfl) E E E c2 E E (fun w H=>(aI qA23 G E E (H.cell (i:=0) E (RPiece.g_old _)))) fun a G=>?_
    refine bF K 16 (by kernel_rfl) E E ?_
    refine yW G 16 E E E E E c2 E E fun w hMs H=>?_
    obtain ⟨k7,I,j6⟩:=dH I
    refine (aO (xs:=[.tmp 79,.tmp 81]) Tryz.call168 G E E (R:=fun v w=>∃ x,k7 = .inl x ∧ match x with | c9=>v = .bool c9 ∧ MemL w (pt c5 (RPiece.enc (mPc c4 c7 c8)) 156::pt c1 (RMark.enc (mMk x1 s9 s11 s13 s17)) 60::pt c0 (RState.enc (mSt x0 s1 s3 s7)) 54::Lr)) ?_ fun v w hR=>?_)
    ·refine aR Tryz.func168 E Tryz.ntmps168 E fun a G=>?_
     refine aG ?_
     refine aD ?_
     refine aA G (aH G E E) E E E fun a G=>?_
     refine aJ (aB ?_)
     refine aG ?_
     refine aD ?_
     refine aA G (aF G E E) E E E fun a G=>?_
     refine aA G (iG ((LIn.slc d4 g6 E) _ (S _ (dropM H 3))) qU23 qU5 qU9 G E E) E E E fun a G=>?_
     refine aA G (aF G E E) E E E fun a G=>?_
     refine aA G (iG (i1 _ (S _ (dropM H 3))) qU23 qU5 qU9 G E E) E E E fun a G=>?_
     refine aA G (uQ (i:=i7) (j:=c4.old) G E E E) E E E fun a G=>?_
     refine aA G (aH G E E) E E E fun a G=>?_
     refine aJ (aB ?_)
     refine c_ret ?_
     have I:=oI I
     subst I
     refine bJ Tryz.results168 G E ?_
     exact ⟨(decide (i7 = c4.old)),E,E,H⟩
    obtain ⟨c9,rfl,rfl,H⟩:=hR
    replace I:Sh.rX c9 = _:=j6
    unfold Sh.rX at I
    replace H:MemL _ (pt c5 (RPiece.enc (mPc c4 c7 c8)) 156::pt c1 (RMark.enc (mMk x1 s9 s11 s13 s17)) 60::pt c0 (RState.enc (mSt x0 s1 s3 s7)) 54::Lr):=H
    have hMs:=selM H [0,1,2] 3 rfl
    refine ⟨_,_,hMs,H,.inl fun _ h=>h,fun a G=>?_⟩
    refine bR G K 17 E (by kernel_rfl) E E E c2 E E (fun w H=>(dF G E E)) fun a G=>?_
    refine aK G K 18 E (by kernel_rfl) E E E (fun w H=>(aZ G E E c2 E)) fun a G=>?_
    refine bV K (by kernel_rfl) fun w H=>?_
    refine aB ?_
    have I:=oI I
    subst I
    exact ⟨(!c9),E,G.to ⟨E,E,E,E,E,E,E,trivial⟩,selM H [1,2] 3 E⟩
   rintro g1 a w I ⟨G,H⟩
   replace I:Sh.oK c6 g1 = _:=I
   unfold Sh.oK at I
   refine aB ?_
   refine aT G (c:=.tmp 84) E (fun d3=>?_) (fun d3=>?_)
   ·have I:=Fx.cT d3 I
    refine aG ?_
    refine aD ?_
    refine aA G (aH G E E) E E E fun a G=>?_
    refine aJ (aB ?_)
    refine c_ret ?_
    have I:=oI I
    subst I
    have I:=i4 _ rfl
    subst I
    have I:=dE j9
    subst I
    refine bJ qR126 G E ?_
    exact ⟨E,selM H [] 2 E⟩
   have I:=Fx.cF d3 I
   refine aW (bK (aB ?_))
   refine aD ?_
   refine aA G (bW G E E E) E E E fun a G=>?_
   refine aA G (aF G E E) E E E fun a G=>?_
   refine aJ (aB ?_)
   have I:=oI I
   subst I
   exact ⟨(IntKind.i64.wrap (c6 + 1)),E,G.to ⟨E,E,E,E,E,E,trivial⟩,H⟩
  have I:=Fx.cF d2 I
  refine bX (bC (bC (cO ?_)))
  refine aB ?_
  have I:=oI I
  subst I
  have I:=i4 _ rfl
  subst I
  exact ⟨(),E,G.to ⟨E,E,E,trivial⟩,H⟩
 rintro ⟨⟩ a w I ⟨G,H⟩
 replace I:Sh.sA x0 x1 = _:=I
 unfold Sh.sA at I
 refine aB ?_
 refine aG ?_
 refine aD ?_
 refine aA G (aC (off':=463) qU54 E in3 E G E E E) E E E fun a G=>?_
 refine aA G (aI qA3 G E E (H.cell (i:=1) E (RState.g_at_ _))) E E E fun a G=>?_
 refine aA G (aC (off':=0) qU60 E in3 E G E E E) E E E fun a G=>?_
 refine aA G (aI qA3 G E E (H.cell (i:=0) E (RMark.g_at_ _))) E E E fun a G=>?_
 refine aA G (dG G E E E) E E E fun a G=>?_
 refine aA G (aH G E E) E E E fun a G=>?_
 refine aJ (aB ?_)
 refine c_ret ?_
 have I:=oI I
 subst I
 refine bJ qR126 G E ?_
 exact ⟨E,selM H [] 2 E⟩
end Go.Proofs
end
section
namespace Go.Proofs
open Go.Fw Go.Fx
set_option maxRecDepth 10000
set_option maxHeartbeats 4000000 in
theorem dN {x0:Int} {x1:Int} {x2:Int} {out:Bool} {w0:World} {Lr:List Res} (I:Sh.bV x0 x1 x2 = some out) (H:MemL w0 (Lr)):Calls Tryz.prog 159 #[.int .i64 x0,.int .i64 x1,.int .i64 x2] w0 (Ret fun v w'=>v = .bool out ∧ MemL w' (Lr)):=by
 unfold Sh.bV at I
 refine aR (vs:=[.int .i64 x0,.int .i64 x1,.int .i64 x2]) Tryz.func159 E Tryz.ntmps159 E fun a G=>?_
 refine aG ?_
 refine aD ?_
 refine aA G (aH G E E) E E E fun a G=>?_
 refine aJ (aB ?_)
 refine aG ?_
 refine aV G H I (fun F x a w=>match x with | v7=>Fr 15 [(6,.bool v7)] a ∧ MemL w (Lr)) (fun c1 I c0 G H=>?_) ?_
 ·refine aD ?_
  refine aA G (aF G E E) E E E fun a G=>?_
  refine aA G (aF G E E) E E E fun a G=>?_
  refine aA G (jH G E E E) E E E fun a G=>?_
  refine aA G (aF G E E) E E E fun a G=>?_
  refine bG 10 G E (fun hb8=>?_) (fun hb8=>?_)
  ·have I:=Fx.cT hb8 I
   refine aL G E E E hb8 (aF G E E) E E fun a G=>?_
   refine aL G E E E hb8 (aF G E E) E E fun a G=>?_
   refine aL G E E E hb8 (qP G E E E) E E fun a G=>?_
   refine aA G (aP G E E hb8 E) E E E fun a G=>?_
   refine aA G (aH G E E) E E E fun a G=>?_
   refine aJ (aB ?_)
   have I:=oI I
   subst I
   exact ⟨(decide (x0 ≤ x2)),E,G.to ⟨E,trivial⟩,H⟩
  have I:=Fx.cF hb8 I
  refine aE G E E E hb8 E E fun a G=>?_
  refine aE G E E E hb8 E E fun a G=>?_
  refine aE G E E E hb8 E E fun a G=>?_
  refine aA G (aZ G E E hb8 E) E E E fun a G=>?_
  refine aA G (aH G E E) E E E fun a G=>?_
  refine aJ (aB ?_)
  have I:=oI I
  subst I
  exact ⟨false,E,G.to ⟨E,trivial⟩,H⟩
 rintro v7 a w I ⟨G,H⟩
 replace I:Sh.pC v7 = _:=I
 unfold Sh.pC at I
 refine aB ?_
 refine c_ret ?_
 have I:=oI I
 subst I
 refine bJ Tryz.results159 G E ?_
 exact ⟨E,H⟩
set_option maxHeartbeats 4000000 in
theorem gC {x0:QInput} {s1:SV} {s3:SV} {hs4:List SV} {out:Bool} {w0:World} {Bf:World → Prop} {Lr:List Res} (I:Sh.gQ x0 = some out) (H:MemL w0 (Lr)) (S:∀ w,MemL w Lr → Bf w) (f2:LIn Bf s1 x0.ctx) (f5:LIn Bf s3 hs4) (q6:Each (LIn (X:=UInt8) Bf) hs4 x0.tables):Calls Tryz.prog 105 #[.agg (RInput.enc (RInput.mk s1 s3)).toArray] w0 (Ret fun v w'=>v = .bool out ∧ MemL w' (Lr)):=by
 unfold Sh.gQ at I
 refine aR (vs:=[.agg (RInput.enc (RInput.mk s1 s3)).toArray]) Tryz.func105 E Tryz.ntmps105 E fun a G=>?_
 refine aG ?_
 refine aD ?_
 refine aN G E E E (dA G E E E fun c0 w d2 c4=>?_)
 have H:=H.plus c4
 replace H:MemL _ (pt c0 (RInput.enc (RInput.mk s1 s3)) 30::Lr):=H
 intro a G
 refine aA G (aH G E E) E E E fun a G=>?_
 refine aJ (aB ?_)
 refine aG ?_
 refine aG ?_
 refine aV G H I (fun F x a w=>match x with | v84=>Fr 28 [(13,.bool v84),(1,.pointer (some ⟨c0,0,none⟩)),(2,.bool false)] a ∧ MemL w (pt c0 (RInput.enc (RInput.mk s1 s3)) 30::Lr)) (fun d5 I d3 G H=>?_) ?_
 ·refine aD ?_
  refine aA G (aC (off':=0) qU30 E in23 E G E E E) E E E fun a G=>?_
  refine aA G (aI qA23 G E E (H.cell (i:=0) E (RInput.g_ctx _))) E E E fun a G=>?_
  refine aA G (bQ (f2 _ (S _ (dropM H 1))) qU23 G E E) E E E fun a G=>?_
  refine aA G (eR G E E E) E E E fun a G=>?_
  refine aA G (aF G E E) E E E fun a G=>?_
  refine bG 8 G E (fun hb85=>?_) (fun hb85=>?_)
  ·have I:=Fx.cT hb85 I
   refine aE G E E E hb85 E E fun a G=>?_
   refine aE G E E E hb85 E E fun a G=>?_
   refine aE G E E E hb85 E E fun a G=>?_
   refine aE G E E E hb85 E E fun a G=>?_
   refine aA G (aP G E E hb85 E) E E E fun a G=>?_
   refine aJ (aB ?_)
   have I:=oI I
   subst I
   exact ⟨true,E,G.to ⟨E,E,E,trivial⟩,H⟩
  have I:=Fx.cF hb85 I
  refine aL G E E E hb85 (aC (off':=1) qU30 E in28 E G E E E) E E fun a G=>?_
  refine aL G E E E hb85 (aI qA28 G E E (H.cell (i:=0) E (RInput.g_tables _))) E E fun a G=>?_
  refine aL G E E E hb85 (cQ (f5 _ (S _ (dropM H 1))) q6.len qU28 G E E) E E fun a G=>?_
  refine aL G E E E hb85 (eR G E E E) E E fun a G=>?_
  refine aA G (aZ G E E hb85 E) E E E fun a G=>?_
  refine aJ (aB ?_)
  have I:=oI I
  subst I
  exact ⟨(decide (8 < (x0.tables.length:Int))),E,G.to ⟨E,E,E,trivial⟩,H⟩
 rintro v84 a w I ⟨G,H⟩
 replace I:Sh.gG x0 v84 = _:=I
 unfold Sh.gG at I
 refine aB ?_
 refine aT G (c:=.tmp 13) E (fun hb86=>?_) (fun hb86=>?_)
 ·have I:=Fx.cT hb86 I
  refine aG ?_
  refine aD ?_
  refine aA G (aH G E E) E E E fun a G=>?_
  refine aJ (aB ?_)
  refine c_ret ?_
  have I:=oI I
  subst I
  refine bJ Tryz.results105 G E ?_
  exact ⟨E,selM H [] 1 E⟩
 have I:=Fx.cF hb86 I
 refine aW (aB ?_)
 refine aG ?_
 refine aV G H I (fun F x a w=>match x with | _=>Fr 28 [(2,.bool false)] a ∧ MemL w (Lr)) (fun d6 I d1 G H=>?_) ?_
 ·refine aG ?_
  refine aD ?_
  refine aA G (aH G E E) E E E fun a G=>?_
  refine aJ (aB ?_)
  refine aU ?_
  refine bU G H I (fun F x a w=>match x with | c3=>Fr 28 [(3,.int .i64 c3),(1,.pointer (some ⟨c0,0,none⟩)),(2,.bool false)] a ∧ MemL w (pt c0 (RInput.enc (RInput.mk s1 s3)) 30::Lr)) (fun G H=>⟨G.to ⟨E,E,E,trivial⟩,H⟩) ?_
  rintro c3 a w d7 I c5 ⟨G,H⟩
  replace I:Sh.eO x0 c3 = _:=I
  unfold Sh.eO at I
  refine aG ?_
  refine aG ?_
  refine aD ?_
  refine aA G (aF G E E) E E E fun a G=>?_
  refine aA G (aC (off':=1) qU30 E in28 E G E E E) E E E fun a G=>?_
  refine aA G (aI qA28 G E E (H.cell (i:=0) E (RInput.g_tables _))) E E E fun a G=>?_
  refine aA G (cQ (f5 _ (S _ (dropM H 1))) q6.len qU28 G E E) E E E fun a G=>?_
  refine aA G (cK G E E E) E E E fun a G=>?_
  refine aJ (aB ?_)
  refine aT G (c:=.tmp 18) E (fun c1=>?_) (fun c1=>?_)
  ·have I:=Fx.cT c1 I
   refine aW (aB ?_)
   refine aG ?_
   refine aU ?_
   refine aG ?_
   refine aD ?_
   refine aA G (aC (off':=1) qU30 E in28 E G E E E) E E E fun a G=>?_
   refine aA G (aI qA28 G E E (H.cell (i:=0) E (RInput.g_tables _))) E E E fun a G=>?_
   refine aA G (aF G E E) E E E fun a G=>?_
   obtain ⟨d8,c6,I⟩:=bind_some I
   have c7:=aM c6
   obtain ⟨d4,c9,d0⟩:=Each.getr q6 c7.2
   have c8:=Each.bd q6 (bH c6)
   refine aA G (aS (sz:=1) (f5 _ (S _ (dropM H 1))) qU28 in23 E G E E E c8) E E E fun a G=>?_
   refine aA G (aI qA23 G E E ((((f5 _ (S _ (dropM H 1))).elemS c9)).get 0 E)) E E E fun a G=>?_
   refine aA G (bQ (d0 _ (S _ (dropM H 1))) qU23 G E E) E E E fun a G=>?_
   refine aA G (eR G E E E) E E E fun a G=>?_
   refine aJ (aB ?_)
   refine aT G (c:=.tmp 27) E (fun c2=>?_) (fun c2=>?_)
   ·have I:=Fx.cT c2 I
    refine aG ?_
    refine aD ?_
    refine aA G (aH G E E) E E E fun a G=>?_
    refine aJ (aB ?_)
    refine c_ret ?_
    have I:=oI I
    subst I
    have I:=c5 _ rfl
    subst I
    have I:=dE d1
    subst I
    refine bJ Tryz.results105 G E ?_
    exact ⟨E,selM H [] 1 E⟩
   have I:=Fx.cF c2 I
   refine aW (bK (aB ?_))
   refine aD ?_
   refine aA G (aF G E E) E E E fun a G=>?_
   refine aA G (bW G E E E) E E E fun a G=>?_
   refine aA G (aH G E E) E E E fun a G=>?_
   refine aJ (aB ?_)
   have I:=oI I
   subst I
   exact ⟨(IntKind.i64.wrap (c3 + 1)),E,G.to ⟨E,E,E,trivial⟩,H⟩
  have I:=Fx.cF c1 I
  refine bX (bC (bC (cO ?_)))
  refine aB ?_
  have I:=oI I
  subst I
  have I:=c5 _ rfl
  subst I
  exact ⟨(),E,G.to ⟨E,trivial⟩,selM H [] 1 E⟩
 rintro ⟨⟩ a w I ⟨G,H⟩
 replace I:Sh.oU = _:=I
 unfold Sh.oU at I
 refine aB ?_
 refine aG ?_
 refine aD ?_
 refine aA G (aH G E E) E E E fun a G=>?_
 refine aJ (aB ?_)
 refine c_ret ?_
 have I:=oI I
 subst I
 refine bJ Tryz.results105 G E ?_
 exact ⟨E,H⟩
set_option maxHeartbeats 4000000 in
theorem eZ {x0:QState} {s1:SV} {s3:SV} {hs4:List SV} {s7:SV} {out:Bool} {w0:World} {Bf:World → Prop} {Lr:List Res} (I:Sh.fG x0 = some out) (H:MemL w0 (Lr)) (S:∀ w,MemL w Lr → Bf w) (f2:LIn Bf s1 x0.ctx) (f5:LIn Bf s3 hs4) (q6:Each (LIn (X:=UInt8) Bf) hs4 x0.tables) (f8:LIn Bf s7 x0.sent):Calls Tryz.prog 87 #[.agg (RState.enc (mSt x0 s1 s3 s7)).toArray] w0 (Ret fun v w'=>v = .bool out ∧ MemL w' (Lr)):=by
 unfold Sh.fG at I
 refine aR (vs:=[.agg (RState.enc (mSt x0 s1 s3 s7)).toArray]) Tryz.func87 E Tryz.ntmps87 E fun a G=>?_
 refine aG ?_
 refine aD ?_
 refine aN G E E E (dA G E E E fun c0 w c2 c1=>?_)
 have H:=H.plus c1
 replace H:MemL _ (pt c0 (RState.enc (mSt x0 s1 s3 s7)) 54::Lr):=H
 intro a G
 refine aA G (aH G E E) E E E fun a G=>?_
 refine aJ (aB ?_)
 refine aG ?_
 refine aV G H I (fun F x a w=>match x with | v50=>Fr 19 [(2,.bool v50)] a ∧ MemL w (Lr)) (fun c4 I c3 G H=>?_) ?_
 ·refine aD ?_
  refine aA G (aC (off':=463) qU54 E in3 E G E E E) E E E fun a G=>?_
  refine aA G (aI qA3 G E E (H.cell (i:=0) E (RState.g_at_ _))) E E E fun a G=>?_
  obtain ⟨y52,hy52,I⟩:=bind_some I
  refine aN G E E E (aO (xs:=[.tmp 4,.const (.int .i64 (0)),.const (.int .i64 (4095))]) qC159 G E E (dN hy52 H ) fun v w hR=>?_)
  obtain ⟨rfl,H⟩:=hR
  replace H:MemL _ (pt c0 (RState.enc (mSt x0 s1 s3 s7)) 54::Lr):=H
  intro a G
  refine aA G (aF G E E) E E E fun a G=>?_
  refine bG 6 G E (fun hb53=>?_) (fun hb53=>?_)
  ·have I:=Fx.cT hb53 I
   refine aL G E E E hb53 (aC (off':=464) qU54 E in3 E G E E E) E E fun a G=>?_
   refine aL G E E E hb53 (aI qA3 G E E (H.cell (i:=0) E (RState.g_steps _))) E E fun a G=>?_
   obtain ⟨y55,hy55,I⟩:=bind_some I
   refine dV G E E E hb53 E E (aO (xs:=[.tmp 8,.const (.int .i64 (0)),.const (.int .i64 (4294967296))]) qC159 G E E (dN hy55 H ) fun v w hR=>?_)
   obtain ⟨rfl,H⟩:=hR
   replace H:MemL _ (pt c0 (RState.enc (mSt x0 s1 s3 s7)) 54::Lr):=H
   intro a G
   refine aA G (aP G E E hb53 E) E E E fun a G=>?_
   refine aA G (aF G E E) E E E fun a G=>?_
   refine bG 11 G E (fun hb56=>?_) (fun hb56=>?_)
   ·have I:=Fx.cT hb56 I
    refine aL G E E E hb56 (aC (off':=460) qU54 E in23 E G E E E) E E fun a G=>?_
    refine aL G E E E hb56 (aI qA23 G E E (H.cell (i:=0) E (RState.g_ctx _))) E E fun a G=>?_
    refine aL G E E E hb56 (aC (off':=461) qU54 E in28 E G E E E) E E fun a G=>?_
    refine aL G E E E hb56 (aI qA28 G E E (H.cell (i:=0) E (RState.g_tables _))) E E fun a G=>?_
    refine aL G E E E hb56 (cB z30 qU30 pl30 G (parts:=[(0,.tmp 13),(1,.tmp 15)]) E E (cJ E E (by rw [RInput.len]; decide) (RInput.s_ctx _ _) (cJ E E (by rw [RInput.len]; decide) (RInput.s_tables _ _) cN))) E E fun a G=>?_
    obtain ⟨y58,hy58,I⟩:=bind_some I
    refine dV G E E E hb56 E E (aO (xs:=[.tmp 16]) Tryz.call105 G E E (gC hy58 H (Bf:=Bf) (fun w H=>S _ (dropM H 1)) f2 f5 q6) fun v w hR=>?_)
    obtain ⟨rfl,H⟩:=hR
    replace H:MemL _ (pt c0 (RState.enc (mSt x0 s1 s3 s7)) 54::Lr):=H
    intro a G
    refine aA G (aP G E E hb56 E) E E E fun a G=>?_
    refine aA G (aH G E E) E E E fun a G=>?_
    refine aJ (aB ?_)
    have I:=oI I
    subst I
    exact ⟨y58,E,G.to ⟨E,trivial⟩,selM H [] 1 E⟩
   have I:=Fx.cF hb56 I
   refine aE G E E E hb56 E E fun a G=>?_
   refine aE G E E E hb56 E E fun a G=>?_
   refine aE G E E E hb56 E E fun a G=>?_
   refine aE G E E E hb56 E E fun a G=>?_
   refine aE G E E E hb56 E E fun a G=>?_
   refine aE G E E E hb56 E E fun a G=>?_
   refine aA G (aZ G E E hb56 E) E E E fun a G=>?_
   refine aA G (aH G E E) E E E fun a G=>?_
   refine aJ (aB ?_)
   have I:=oI I
   subst I
   exact ⟨false,E,G.to ⟨E,trivial⟩,selM H [] 1 E⟩
  have I:=Fx.cF hb53 I
  refine aE G E E E hb53 E E fun a G=>?_
  refine aE G E E E hb53 E E fun a G=>?_
  refine aE G E E E hb53 E E fun a G=>?_
  refine aA G (aZ G E E hb53 E) E E E fun a G=>?_
  refine aA G (aF G E E) E E E fun a G=>?_
  refine aE G E E E E E E fun a G=>?_
  refine aE G E E E E E E fun a G=>?_
  refine aE G E E E E E E fun a G=>?_
  refine aE G E E E E E E fun a G=>?_
  refine aE G E E E E E E fun a G=>?_
  refine aE G E E E E E E fun a G=>?_
  refine aA G (aZ G E E E E) E E E fun a G=>?_
  refine aA G (aH G E E) E E E fun a G=>?_
  refine aJ (aB ?_)
  have I:=oI I
  subst I
  exact ⟨false,E,G.to ⟨E,trivial⟩,selM H [] 1 E⟩
 rintro v50 a w I ⟨G,H⟩
 replace I:Sh.lW v50 = _:=I
 unfold Sh.lW at I
 refine aB ?_
 refine c_ret ?_
 have I:=oI I
 subst I
 refine bJ Tryz.results87 G E ?_
 exact ⟨E,H⟩
set_option maxHeartbeats 4000000 in
theorem pS {x0:List QPiece} {s1:SV} {hs2:List RPiece} {out:Bool} {w0:World} {Bf:World → Prop} {Lr:List Res} (I:Sh.pO x0 = some out) (H:MemL w0 (Lr)) (S:∀ w,MemL w Lr → Bf w) (f3:LIn Bf s1 hs2) (q4:Each (QPieceIn Bf) hs2 x0):Calls Tryz.prog 198 #[(s1).v] w0 (Ret fun v w'=>v = .bool out ∧ MemL w' (Lr)):=by
 unfold Sh.pO at I
 refine aR (vs:=[(s1).v]) Tryz.func198 E Tryz.ntmps198 E fun a G=>?_
 refine aG ?_
 refine aD ?_
 refine aA G (aH G E E) E E E fun a G=>?_
 refine aJ (aB ?_)
 refine aG ?_
 refine aV G H I (fun F x a w=>match x with | _=>Fr 99 [(2,.bool false)] a ∧ MemL w (Lr)) (fun l3 I g9 G H=>?_) ?_
 ·refine aG ?_
  refine aD ?_
  refine aA G (aH G E E) E E E fun a G=>?_
  refine aJ (aB ?_)
  refine aU ?_
  refine bU G H I (fun F x a w=>match x with | c8=>Fr 99 [(3,.int .i64 c8),(0,(s1).v),(2,.bool false)] a ∧ MemL w (Lr)) (fun G H=>⟨G.to ⟨E,E,E,trivial⟩,H⟩) ?_
  rintro c8 a w l8 I d9 ⟨G,H⟩
  replace I:Sh.eR x0 c8 = _:=I
  unfold Sh.eR at I
  refine aG ?_
  refine aG ?_
  refine aD ?_
  refine aA G (aF G E E) E E E fun a G=>?_
  refine aA G (aF G E E) E E E fun a G=>?_
  refine aA G (cQ (f3 _ (S _ (dropM H 0))) q4.len qU58 G E E) E E E fun a G=>?_
  refine aA G (cK G E E E) E E E fun a G=>?_
  refine aJ (aB ?_)
  refine aT G (c:=.tmp 10) E (fun g2=>?_) (fun g2=>?_)
  ·have I:=Fx.cT g2 I
   refine aW (aB ?_)
   refine aG ?_
   refine aV G H I (fun F x a w=>match x with | _=>Fr 99 [(0,(s1).v),(2,.bool false),(3,.int .i64 c8)] a ∧ MemL w (Lr)) (fun l4 I i0 G H=>?_) ?_
   ·refine aU ?_
    refine aG ?_
    refine aD ?_
    refine aA G (aF G E E) E E E fun a G=>?_
    refine aA G (aF G E E) E E E fun a G=>?_
    obtain ⟨c4,g5,I⟩:=bind_some I
    have i1:=aM g5
    obtain ⟨k4,i9,j1⟩:=Each.getr q4 i1.2
    have i7:=Each.bd q4 (bH g5)
    obtain ⟨c9,d0,rfl,d1,g1⟩:=j1
    refine aA G (aS (sz:=4) (f3 _ (S _ (dropM H 0))) qU58 in156 E G E E E i7) E E E fun a G=>?_
    refine aA G (aQ qA156 qS156 G E E (RPiece.len _) (((f3 _ (S _ (dropM H 0))).elemS i9))) E E E fun a G=>?_
    refine aN G E E E (bN z156 (zs:=RPiece.zero.enc) E E fun c5 w k2 i5=>?_)
    have H:=H.plus i5
    replace H:MemL _ (pt c5 (RPiece.enc (RPiece.mk 0 0 SV.nil SV.nil)) 156::Lr):=H
    intro a G
    refine bD E E (aX (vs:=_) qS156 (H.obj (i:=0) E) G E E E E (RPiece.len _) (RPiece.one _) (by first | (rw [RPiece.len,RPiece.len]; decide) | (rw [RPiece.len]; decide)) (bE ((RPiece.len _).trans (RPiece.len _).symm)) fun w j4=>?_)
    have H:=H.chg j4 (i:=0) rfl
    replace H:MemL _ (pt c5 (RPiece.enc (mPc c4 c9 d0)) 156::Lr):=H
    refine aJ (aB ?_)
    refine aG ?_
    refine aG ?_
    refine aV G H I (fun F x a w=>match x with | g3=>Fr 99 [(50,.bool g3),(0,(s1).v),(2,.bool false),(3,.int .i64 c8),(4,.pointer (some ⟨c5,0,none⟩))] a ∧ MemL w (pt c5 (RPiece.enc (mPc c4 c9 d0)) 156::Lr)) (fun l5 I l1 G H=>?_) ?_
    ·refine aD ?_
     refine aA G (aC (off':=0) qU156 E in3 E G E E E) E E E fun a G=>?_
     refine aA G (aI qA3 G E E (H.cell (i:=0) E (RPiece.g_table _))) E E E fun a G=>?_
     obtain ⟨k9,j6,I⟩:=bind_some I
     refine aN G E E E (aO (xs:=[.tmp 18,.const (.int .i64 (-1)),.const (.int .i64 (7))]) qC159 G E E (dN j6 H ) fun v w hR=>?_)
     obtain ⟨rfl,H⟩:=hR
     replace H:MemL _ (pt c5 (RPiece.enc (mPc c4 c9 d0)) 156::Lr):=H
     intro a G
     refine aA G (dF G E E) E E E fun a G=>?_
     refine aA G (aF G E E) E E E fun a G=>?_
     refine bG 21 G E (fun c6=>?_) (fun c6=>?_)
     ·have I:=Fx.cT c6 I
      refine aE G E E E c6 E E fun a G=>?_
      refine aE G E E E c6 E E fun a G=>?_
      refine aE G E E E c6 E E fun a G=>?_
      refine aE G E E E c6 E E fun a G=>?_
      refine aA G (aP G E E c6 E) E E E fun a G=>?_
      refine aA G (aF G E E) E E E fun a G=>?_
      refine aE G E E E E E E fun a G=>?_
      refine aE G E E E E E E fun a G=>?_
      refine aE G E E E E E E fun a G=>?_
      refine aE G E E E E E E fun a G=>?_
      refine aE G E E E E E E fun a G=>?_
      refine aE G E E E E E E fun a G=>?_
      refine aE G E E E E E E fun a G=>?_
      refine aA G (aP G E E E E) E E E fun a G=>?_
      refine aA G (aF G E E) E E E fun a G=>?_
      refine aE G E E E E E E fun a G=>?_
      refine aE G E E E E E E fun a G=>?_
      refine aE G E E E E E E fun a G=>?_
      refine aE G E E E E E E fun a G=>?_
      refine aA G (aP G E E E E) E E E fun a G=>?_
      refine aA G (aF G E E) E E E fun a G=>?_
      refine aE G E E E E E E fun a G=>?_
      refine aE G E E E E E E fun a G=>?_
      refine aE G E E E E E E fun a G=>?_
      refine aE G E E E E E E fun a G=>?_
      refine aE G E E E E E E fun a G=>?_
      refine aE G E E E E E E fun a G=>?_
      refine aE G E E E E E E fun a G=>?_
      refine aA G (aP G E E E E) E E E fun a G=>?_
      refine aJ (aB ?_)
      have I:=oI I
      subst I
      exact ⟨true,E,G.to ⟨E,E,E,E,E,trivial⟩,H⟩
     have I:=Fx.cF c6 I
     refine aL G E E E c6 (aC (off':=1) qU156 E in3 E G E E E) E E fun a G=>?_
     refine aL G E E E c6 (aI qA3 G E E (H.cell (i:=0) E (RPiece.g_from_ _))) E E fun a G=>?_
     obtain ⟨l0,j7,I⟩:=bind_some I
     refine dV G E E E c6 E E (aO (xs:=[.tmp 23,.const (.int .i64 (0)),.const (.int .i64 (65535))]) qC159 G E E (dN j7 H ) fun v w hR=>?_)
     obtain ⟨rfl,H⟩:=hR
     replace H:MemL _ (pt c5 (RPiece.enc (mPc c4 c9 d0)) 156::Lr):=H
     intro a G
     refine aL G E E E c6 (dF G E E) E E fun a G=>?_
     refine aA G (aZ G E E c6 E) E E E fun a G=>?_
     refine aA G (aF G E E) E E E fun a G=>?_
     refine bG 27 G E (fun c2=>?_) (fun c2=>?_)
     ·have I:=Fx.cT c2 I
      refine aE G E E E c2 E E fun a G=>?_
      refine aE G E E E c2 E E fun a G=>?_
      refine aE G E E E c2 E E fun a G=>?_
      refine aE G E E E c2 E E fun a G=>?_
      refine aE G E E E c2 E E fun a G=>?_
      refine aE G E E E c2 E E fun a G=>?_
      refine aE G E E E c2 E E fun a G=>?_
      refine aA G (aP G E E c2 E) E E E fun a G=>?_
      refine aA G (aF G E E) E E E fun a G=>?_
      refine aE G E E E E E E fun a G=>?_
      refine aE G E E E E E E fun a G=>?_
      refine aE G E E E E E E fun a G=>?_
      refine aE G E E E E E E fun a G=>?_
      refine aA G (aP G E E E E) E E E fun a G=>?_
      refine aA G (aF G E E) E E E fun a G=>?_
      refine aE G E E E E E E fun a G=>?_
      refine aE G E E E E E E fun a G=>?_
      refine aE G E E E E E E fun a G=>?_
      refine aE G E E E E E E fun a G=>?_
      refine aE G E E E E E E fun a G=>?_
      refine aE G E E E E E E fun a G=>?_
      refine aE G E E E E E E fun a G=>?_
      refine aA G (aP G E E E E) E E E fun a G=>?_
      refine aJ (aB ?_)
      have I:=oI I
      subst I
      exact ⟨true,E,G.to ⟨E,E,E,E,E,trivial⟩,H⟩
     have I:=Fx.cF c2 I
     refine aL G E E E c2 (aC (off':=2) qU156 E in23 E G E E E) E E fun a G=>?_
     refine aL G E E E c2 (aI qA23 G E E (H.cell (i:=0) E (RPiece.g_old _))) E E fun a G=>?_
     refine aL G E E E c2 (bQ (d1 _ (S _ (dropM H 1))) qU23 G E E) E E fun a G=>?_
     refine aL G E E E c2 (aC (off':=3) qU156 E in23 E G E E E) E E fun a G=>?_
     refine aL G E E E c2 (aI qA23 G E E (H.cell (i:=0) E (RPiece.g_new _))) E E fun a G=>?_
     refine aL G E E E c2 (bQ (g1 _ (S _ (dropM H 1))) qU23 G E E) E E fun a G=>?_
     refine aL G E E E c2 (dD G E E E) E E fun a G=>?_
     refine aA G (aZ G E E c2 E) E E E fun a G=>?_
     refine aA G (aF G E E) E E E fun a G=>?_
     refine bG 36 G E (fun c7=>?_) (fun c7=>?_)
     ·have I:=Fx.cT c7 I
      refine aE G E E E c7 E E fun a G=>?_
      refine aE G E E E c7 E E fun a G=>?_
      refine aE G E E E c7 E E fun a G=>?_
      refine aE G E E E c7 E E fun a G=>?_
      refine aA G (aP G E E c7 E) E E E fun a G=>?_
      refine aA G (aF G E E) E E E fun a G=>?_
      refine aE G E E E E E E fun a G=>?_
      refine aE G E E E E E E fun a G=>?_
      refine aE G E E E E E E fun a G=>?_
      refine aE G E E E E E E fun a G=>?_
      refine aE G E E E E E E fun a G=>?_
      refine aE G E E E E E E fun a G=>?_
      refine aE G E E E E E E fun a G=>?_
      refine aA G (aP G E E E E) E E E fun a G=>?_
      refine aJ (aB ?_)
      have I:=oI I
      subst I
      exact ⟨true,E,G.to ⟨E,E,E,E,E,trivial⟩,H⟩
     have I:=Fx.cF c7 I
     refine aL G E E E c7 (aC (off':=2) qU156 E in23 E G E E E) E E fun a G=>?_
     refine aL G E E E c7 (aI qA23 G E E (H.cell (i:=0) E (RPiece.g_old _))) E E fun a G=>?_
     refine aL G E E E c7 (bQ (d1 _ (S _ (dropM H 1))) qU23 G E E) E E fun a G=>?_
     refine aL G E E E c7 (dG G E E E) E E fun a G=>?_
     refine aA G (aZ G E E c7 E) E E E fun a G=>?_
     refine aA G (aF G E E) E E E fun a G=>?_
     refine bG 42 G E (fun c3=>?_) (fun c3=>?_)
     ·have I:=Fx.cT c3 I
      refine aE G E E E c3 E E fun a G=>?_
      refine aE G E E E c3 E E fun a G=>?_
      refine aE G E E E c3 E E fun a G=>?_
      refine aE G E E E c3 E E fun a G=>?_
      refine aE G E E E c3 E E fun a G=>?_
      refine aE G E E E c3 E E fun a G=>?_
      refine aE G E E E c3 E E fun a G=>?_
      refine aA G (aP G E E c3 E) E E E fun a G=>?_
      refine aJ (aB ?_)
      have I:=oI I
      subst I
      exact ⟨true,E,G.to ⟨E,E,E,E,E,trivial⟩,H⟩
     have I:=Fx.cF c3 I
     refine aL G E E E c3 (aC (off':=1) qU156 E in3 E G E E E) E E fun a G=>?_
     refine aL G E E E c3 (aI qA3 G E E (H.cell (i:=0) E (RPiece.g_from_ _))) E E fun a G=>?_
     refine aL G E E E c3 (aC (off':=2) qU156 E in23 E G E E E) E E fun a G=>?_
     refine aL G E E E c3 (aI qA23 G E E (H.cell (i:=0) E (RPiece.g_old _))) E E fun a G=>?_
     refine aL G E E E c3 (bQ (d1 _ (S _ (dropM H 1))) qU23 G E E) E E fun a G=>?_
     refine aL G E E E c3 (bW G E E E) E E fun a G=>?_
     refine aL G E E E c3 (eR G E E E) E E fun a G=>?_
     refine aA G (aZ G E E c3 E) E E E fun a G=>?_
     refine aJ (aB ?_)
     have I:=oI I
     subst I
     exact ⟨(decide (65535 < (IntKind.i64.wrap (c4.from_ + (c4.old.length:Int))))),E,G.to ⟨E,E,E,E,E,trivial⟩,H⟩
    rintro g3 a w I ⟨G,H⟩
    replace I:Sh.bL x0 c8 c4 g3 = _:=I
    unfold Sh.bL at I
    refine aB ?_
    refine aT G (c:=.tmp 50) E (fun d4=>?_) (fun d4=>?_)
    ·have I:=Fx.cT d4 I
     refine aG ?_
     refine aD ?_
     refine aA G (aH G E E) E E E fun a G=>?_
     refine aJ (aB ?_)
     refine c_ret ?_
     have I:=oI I
     subst I
     have I:=dE i0
     subst I
     have I:=d9 _ rfl
     subst I
     have I:=dE g9
     subst I
     refine bJ qR198 G E ?_
     exact ⟨E,selM H [] 1 E⟩
    have I:=Fx.cF d4 I
    refine aW (aB ?_)
    refine aG ?_
    refine aV G H I (fun F x a w=>match x with | _=>Fr 99 [(0,(s1).v),(2,.bool false),(3,.int .i64 c8),(4,.pointer (some ⟨c5,0,none⟩))] a ∧ MemL w (pt c5 (RPiece.enc (mPc c4 c9 d0)) 156::Lr)) (fun l6 I k1 G H=>?_) ?_
    ·refine aG ?_
     refine aD ?_
     refine aA G (aH G E E) E E E fun a G=>?_
     refine aJ (aB ?_)
     refine aU ?_
     refine bU G H I (fun F x a w=>match x with | d2=>Fr 99 [(5,.int .i64 d2),(0,(s1).v),(2,.bool false),(3,.int .i64 c8),(4,.pointer (some ⟨c5,0,none⟩))] a ∧ MemL w (pt c5 (RPiece.enc (mPc c4 c9 d0)) 156::Lr)) (fun G H=>⟨G.to ⟨E,E,E,E,E,trivial⟩,H⟩) ?_
     rintro d2 a w l9 I j3 ⟨G,H⟩
     replace I:Sh.gE c4 d2 = _:=I
     unfold Sh.gE at I
     refine aG ?_
     refine aG ?_
     refine aD ?_
     refine aA G (aF G E E) E E E fun a G=>?_
     refine aA G (aC (off':=2) qU156 E in23 E G E E E) E E E fun a G=>?_
     refine aA G (aI qA23 G E E (H.cell (i:=0) E (RPiece.g_old _))) E E E fun a G=>?_
     refine aA G (bQ (d1 _ (S _ (dropM H 1))) qU23 G E E) E E E fun a G=>?_
     refine aA G (cK G E E E) E E E fun a G=>?_
     refine aJ (aB ?_)
     refine aT G (c:=.tmp 55) E (fun d5=>?_) (fun d5=>?_)
     ·have I:=Fx.cT d5 I
      refine aW (aB ?_)
      refine aG ?_
      refine aU ?_
      refine aG ?_
      refine bM mixed (by kernel_rfl) H [0] 1 E fun K=>?_
      refine aK G K 0 E (by kernel_rfl) E E E (fun w H=>(aC (off':=2) qU156 E in23 E G E E E)) fun a G=>?_
      refine aK G K 1 E (by kernel_rfl) E E E (fun w H=>(aI qA23 G E E (H.cell (i:=0) E (RPiece.g_old _)))) fun a G=>?_
      refine aK G K 2 E (by kernel_rfl) E E E (fun w H=>(aF G E E)) fun a G=>?_
      obtain ⟨k7,g6,I⟩:=bind_some I
      have i2:=aM g6
      refine aK G K 3 E (by kernel_rfl) E E E (fun w H=>(aS (sz:=1) (d1 _ (S _ (dropM H 1))) qU23 in5 E G E E E (bH g6))) fun a G=>?_
      refine aK G K 4 E (by kernel_rfl) E E E (fun w H=>(aI qA5 G E E ((((d1 _ (S _ (dropM H 1))).elemS i2.2)).get 0 E))) fun a G=>?_
      refine aK G K 5 E (by kernel_rfl) E E E (fun w H=>(aC (off':=3) qU156 E in23 E G E E E)) fun a G=>?_
      refine aK G K 6 E (by kernel_rfl) E E E (fun w H=>(aI qA23 G E E (H.cell (i:=0) E (RPiece.g_new _)))) fun a G=>?_
      refine aK G K 7 E (by kernel_rfl) E E E (fun w H=>(aF G E E)) fun a G=>?_
      obtain ⟨k8,g7,I⟩:=bind_some I
      have i3:=aM g7
      refine aK G K 8 E (by kernel_rfl) E E E (fun w H=>(aS (sz:=1) (g1 _ (S _ (dropM H 1))) qU23 in5 E G E E E (bH g7))) fun a G=>?_
      refine aK G K 9 E (by kernel_rfl) E E E (fun w H=>(aI qA5 G E E ((((g1 _ (S _ (dropM H 1))).elemS i3.2)).get 0 E))) fun a G=>?_
      refine aK G K 10 E (by kernel_rfl) E E E (fun w H=>(dG G E E E)) fun a G=>?_
      refine bV K (by kernel_rfl) fun w H=>?_
      refine aB ?_
      refine aT G (c:=.tmp 68) E (fun d6=>?_) (fun d6=>?_)
      ·have I:=Fx.cT d6 I
       refine aG ?_
       refine aD ?_
       refine aA G (aH G E E) E E E fun a G=>?_
       refine aJ (aB ?_)
       refine c_ret ?_
       have I:=oI I
       subst I
       have I:=j3 _ rfl
       subst I
       have I:=dE k1
       subst I
       have I:=dE i0
       subst I
       have I:=d9 _ rfl
       subst I
       have I:=dE g9
       subst I
       refine bJ qR198 G E ?_
       exact ⟨E,selM H [] 1 E⟩
      have I:=Fx.cF d6 I
      refine aW (bK (aB ?_))
      refine aD ?_
      refine aA G (aF G E E) E E E fun a G=>?_
      refine aA G (bW G E E E) E E E fun a G=>?_
      refine aA G (aH G E E) E E E fun a G=>?_
      refine aJ (aB ?_)
      have I:=oI I
      subst I
      exact ⟨(IntKind.i64.wrap (d2 + 1)),E,G.to ⟨E,E,E,E,E,trivial⟩,H⟩
     have I:=Fx.cF d5 I
     refine bX (bC (bC (cO ?_)))
     refine aB ?_
     have I:=oI I
     subst I
     have I:=j3 _ rfl
     subst I
     exact ⟨(),E,G.to ⟨E,E,E,E,trivial⟩,H⟩
    rintro ⟨⟩ a w I ⟨G,H⟩
    replace I:Sh.mJ x0 c8 c4 = _:=I
    unfold Sh.mJ at I
    refine aB ?_
    refine aG ?_
    refine aG ?_
    refine aD ?_
    refine aA G (aF G E E) E E E fun a G=>?_
    refine aA G (dG G E E E) E E E fun a G=>?_
    refine aJ (aB ?_)
    refine aT G (c:=.tmp 70) E (fun d7=>?_) (fun d7=>?_)
    ·have I:=Fx.cT d7 I
     refine bX (bC (cO ?_))
     refine aB ?_
     have I:=oI I
     subst I
     exact ⟨(),E,G.to ⟨E,E,E,trivial⟩,selM H [] 1 E⟩
    have I:=Fx.cF d7 I
    refine aW (aB ?_)
    refine aG ?_
    refine aD ?_
    refine aA G (aF G E E) E E E fun a G=>?_
    refine aA G (aF G E E) E E E fun a G=>?_
    refine aA G (eS G E E E) E E E fun a G=>?_
    obtain ⟨d3,g8,I⟩:=bind_some I
    have i4:=aM g8
    obtain ⟨k5,j0,j2⟩:=Each.getr q4 i4.2
    have i8:=Each.bd q4 (bH g8)
    obtain ⟨j9,k0,rfl,j8,k6⟩:=j2
    refine aA G (aS (sz:=4) (f3 _ (S _ (dropM H 1))) qU58 in156 E G E E E i8) E E E fun a G=>?_
    refine aA G (aQ qA156 qS156 G E E (RPiece.len _) (((f3 _ (S _ (dropM H 1))).elemS j0))) E E E fun a G=>?_
    refine aN G E E E (bN z156 (zs:=RPiece.zero.enc) E E fun g0 w k3 i6=>?_)
    have H:=H.plus i6
    replace H:MemL _ (pt g0 (RPiece.enc (RPiece.mk 0 0 SV.nil SV.nil)) 156::pt c5 (RPiece.enc (mPc c4 c9 d0)) 156::Lr):=H
    intro a G
    refine bD E E (aX (vs:=_) qS156 (H.obj (i:=0) E) G E E E E (RPiece.len _) (RPiece.one _) (by first | (rw [RPiece.len,RPiece.len]; decide) | (rw [RPiece.len]; decide)) (bE ((RPiece.len _).trans (RPiece.len _).symm)) fun w j5=>?_)
    have H:=H.chg j5 (i:=0) rfl
    replace H:MemL _ (pt g0 (RPiece.enc (mPc d3 j9 k0)) 156::pt c5 (RPiece.enc (mPc c4 c9 d0)) 156::Lr):=H
    refine aJ (aB ?_)
    refine aG ?_
    refine aV G H I (fun F x a w=>match x with | g4=>Fr 99 [(98,.bool g4),(0,(s1).v),(2,.bool false),(3,.int .i64 c8)] a ∧ MemL w (Lr)) (fun l7 I l2 G H=>?_) ?_
    ·refine aD ?_
     refine aA G (aC (off':=0) qU156 E in3 E G E E E) E E E fun a G=>?_
     refine aA G (aI qA3 G E E (H.cell (i:=1) E (RPiece.g_table _))) E E E fun a G=>?_
     refine aA G (aC (off':=0) qU156 E in3 E G E E E) E E E fun a G=>?_
     refine aA G (aI qA3 G E E (H.cell (i:=0) E (RPiece.g_table _))) E E E fun a G=>?_
     refine aA G (cK G E E E) E E E fun a G=>?_
     refine aA G (aF G E E) E E E fun a G=>?_
     refine bG 81 G E (fun c1=>?_) (fun c1=>?_)
     ·have I:=Fx.cT c1 I
      refine aE G E E E c1 E E fun a G=>?_
      refine aE G E E E c1 E E fun a G=>?_
      refine aE G E E E c1 E E fun a G=>?_
      refine aE G E E E c1 E E fun a G=>?_
      refine aE G E E E c1 E E fun a G=>?_
      refine aE G E E E c1 E E fun a G=>?_
      refine fH G E E E E E fun a G=>?_
      refine fH G E E E E E fun a G=>?_
      refine fH G E E E E E fun a G=>?_
      refine fH G E E E E E fun a G=>?_
      refine fH G E E E E E fun a G=>?_
      refine fH G E E E E E fun a G=>?_
      refine fH G E E E E E fun a G=>?_
      refine fH G E E E E E fun a G=>?_
      refine fH G E E E E E fun a G=>?_
      refine aE G E E E c1 E E fun a G=>?_
      refine aA G (aP G E E c1 E) E E E fun a G=>?_
      refine aJ (aB ?_)
      have I:=oI I
      subst I
      exact ⟨true,E,G.to ⟨E,E,E,E,trivial⟩,selM H [] 2 E⟩
     have I:=Fx.cF c1 I
     refine aL G E E E c1 (aC (off':=0) qU156 E in3 E G E E E) E E fun a G=>?_
     refine aL G E E E c1 (aI qA3 G E E (H.cell (i:=1) E (RPiece.g_table _))) E E fun a G=>?_
     refine aL G E E E c1 (aC (off':=0) qU156 E in3 E G E E E) E E fun a G=>?_
     refine aL G E E E c1 (aI qA3 G E E (H.cell (i:=0) E (RPiece.g_table _))) E E fun a G=>?_
     refine aL G E E E c1 (dG G E E E) E E fun a G=>?_
     refine aL G E E E c1 (aF G E E) E E fun a G=>?_
     refine bG 87 G E (fun c0=>?_) (fun c0=>?_)
     ·have I:=Fx.cT c0 I
      refine aL G E E E c0 (aC (off':=1) qU156 E in3 E G E E E) E E fun a G=>?_
      refine aL G E E E c0 (aI qA3 G E E (H.cell (i:=1) E (RPiece.g_from_ _))) E E fun a G=>?_
      refine aL G E E E c0 (aC (off':=1) qU156 E in3 E G E E E) E E fun a G=>?_
      refine aL G E E E c0 (aI qA3 G E E (H.cell (i:=0) E (RPiece.g_from_ _))) E E fun a G=>?_
      refine aL G E E E c0 (aC (off':=2) qU156 E in23 E G E E E) E E fun a G=>?_
      refine aL G E E E c0 (aI qA23 G E E (H.cell (i:=0) E (RPiece.g_old _))) E E fun a G=>?_
      refine aL G E E E c0 (bQ (j8 _ (S _ (dropM H 2))) qU23 G E E) E E fun a G=>?_
      refine aL G E E E c0 (bW G E E E) E E fun a G=>?_
      refine aL G E E E c0 (qP G E E E) E E fun a G=>?_
      refine aL G E E E c1 (aP G E E c0 E) E E fun a G=>?_
      refine aA G (aZ G E E c1 E) E E E fun a G=>?_
      refine aJ (aB ?_)
      have I:=oI I
      subst I
      exact ⟨(decide (c4.from_ ≤ (IntKind.i64.wrap (d3.from_ + (d3.old.length:Int))))),E,G.to ⟨E,E,E,E,trivial⟩,selM H [] 2 E⟩
     have I:=Fx.cF c0 I
     refine aE G E E E c0 E E fun a G=>?_
     refine aE G E E E c0 E E fun a G=>?_
     refine aE G E E E c0 E E fun a G=>?_
     refine aE G E E E c0 E E fun a G=>?_
     refine aE G E E E c0 E E fun a G=>?_
     refine aE G E E E c0 E E fun a G=>?_
     refine aE G E E E c0 E E fun a G=>?_
     refine aE G E E E c0 E E fun a G=>?_
     refine aE G E E E c0 E E fun a G=>?_
     refine aL G E E E c1 (aZ G E E c0 E) E E fun a G=>?_
     refine aA G (aZ G E E c1 E) E E E fun a G=>?_
     refine aJ (aB ?_)
     have I:=oI I
     subst I
     exact ⟨false,E,G.to ⟨E,E,E,E,trivial⟩,selM H [] 2 E⟩
    rintro g4 a w I ⟨G,H⟩
    replace I:Sh.hN g4 = _:=I
    unfold Sh.hN at I
    refine aB ?_
    refine aT G (c:=.tmp 98) E (fun d8=>?_) (fun d8=>?_)
    ·have I:=Fx.cT d8 I
     refine aG ?_
     refine aD ?_
     refine aA G (aH G E E) E E E fun a G=>?_
     refine aJ (aB ?_)
     refine c_ret ?_
     have I:=oI I
     subst I
     have I:=dE i0
     subst I
     have I:=d9 _ rfl
     subst I
     have I:=dE g9
     subst I
     refine bJ qR198 G E ?_
     exact ⟨E,H⟩
    have I:=Fx.cF d8 I
    refine aW (bK (aB ?_))
    have I:=oI I
    subst I
    exact ⟨(),E,G.to ⟨E,E,E,trivial⟩,H⟩
   rintro ⟨⟩ a w I ⟨G,H⟩
   replace I:Sh.gD c8 = _:=I
   unfold Sh.gD at I
   refine aB ?_
   refine aD ?_
   refine aA G (aF G E E) E E E fun a G=>?_
   refine aA G (bW G E E E) E E E fun a G=>?_
   refine aA G (aH G E E) E E E fun a G=>?_
   refine aJ (aB ?_)
   have I:=oI I
   subst I
   exact ⟨(IntKind.i64.wrap (c8 + 1)),E,G.to ⟨E,E,E,trivial⟩,H⟩
  have I:=Fx.cF g2 I
  refine bX (bC (bC (cO ?_)))
  refine aB ?_
  have I:=oI I
  subst I
  have I:=d9 _ rfl
  subst I
  exact ⟨(),E,G.to ⟨E,trivial⟩,H⟩
 rintro ⟨⟩ a w I ⟨G,H⟩
 replace I:Sh.sQ = _:=I
 unfold Sh.sQ at I
 refine aB ?_
 refine aG ?_
 refine aD ?_
 refine aA G (aH G E E) E E E fun a G=>?_
 refine aJ (aB ?_)
 refine c_ret ?_
 have I:=oI I
 subst I
 refine bJ qR198 G E ?_
 exact ⟨E,H⟩
set_option maxHeartbeats 4000000 in
theorem gM {x0:QMark} {s1:SV} {s3:SV} {s5:SV} {hs6:List RPiece} {s9:SV} {out:Bool} {w0:World} {Bf:World → Prop} {Lr:List Res} (I:Sh.iR x0 = some out) (H:MemL w0 (Lr)) (S:∀ w,MemL w Lr → Bf w) (f2:LIn Bf s1 x0.regs) (f4:LIn Bf s3 x0.slots) (f7:LIn Bf s5 hs6) (q8:Each (QPieceIn Bf) hs6 x0.pieces) (f10:LIn Bf s9 x0.sent):Calls Tryz.prog 135 #[.agg (RMark.enc (mMk x0 s1 s3 s5 s9)).toArray] w0 (Ret fun v w'=>v = .bool out ∧ MemL w' (Lr)):=by
 unfold Sh.iR at I
 refine aR (vs:=[.agg (RMark.enc (mMk x0 s1 s3 s5 s9)).toArray]) Tryz.func135 E Tryz.ntmps135 E fun a G=>?_
 refine aG ?_
 refine aD ?_
 refine aN G E E E (dA G E E E fun c0 w j7 g6=>?_)
 have H:=H.plus g6
 replace H:MemL _ (pt c0 (RMark.enc (mMk x0 s1 s3 s5 s9)) 60::Lr):=H
 intro a G
 refine aA G (aH G E E) E E E fun a G=>?_
 refine aJ (aB ?_)
 refine aG ?_
 refine aG ?_
 refine aV G H I (fun F x a w=>match x with | g9=>Fr 104 [(22,.bool g9),(1,.pointer (some ⟨c0,0,none⟩)),(2,.bool false)] a ∧ MemL w (pt c0 (RMark.enc (mMk x0 s1 s3 s5 s9)) 60::Lr)) (fun k6 I k0 G H=>?_) ?_
 ·refine aD ?_
  refine aA G (aC (off':=0) qU60 E in3 E G E E E) E E E fun a G=>?_
  refine aA G (aI qA3 G E E (H.cell (i:=0) E (RMark.g_at_ _))) E E E fun a G=>?_
  obtain ⟨l3,j3,I⟩:=bind_some I
  refine aN G E E E (aO (xs:=[.tmp 8,.const (.int .i64 (0)),.const (.int .i64 (4095))]) qC159 G E E (dN j3 H ) fun v w hR=>?_)
  obtain ⟨rfl,H⟩:=hR
  replace H:MemL _ (pt c0 (RMark.enc (mMk x0 s1 s3 s5 s9)) 60::Lr):=H
  intro a G
  refine aA G (dF G E E) E E E fun a G=>?_
  refine aA G (aF G E E) E E E fun a G=>?_
  refine bG 11 G E (fun c7=>?_) (fun c7=>?_)
  ·have I:=Fx.cT c7 I
   refine aE G E E E c7 E E fun a G=>?_
   refine aE G E E E c7 E E fun a G=>?_
   refine aE G E E E c7 E E fun a G=>?_
   refine aE G E E E c7 E E fun a G=>?_
   refine aA G (aP G E E c7 E) E E E fun a G=>?_
   refine aA G (aF G E E) E E E fun a G=>?_
   refine aE G E E E E E E fun a G=>?_
   refine aE G E E E E E E fun a G=>?_
   refine aE G E E E E E E fun a G=>?_
   refine aE G E E E E E E fun a G=>?_
   refine aA G (aP G E E E E) E E E fun a G=>?_
   refine aJ (aB ?_)
   have I:=oI I
   subst I
   exact ⟨true,E,G.to ⟨E,E,E,trivial⟩,H⟩
  have I:=Fx.cF c7 I
  refine aL G E E E c7 (aC (off':=1) qU60 E in3 E G E E E) E E fun a G=>?_
  refine aL G E E E c7 (aI qA3 G E E (H.cell (i:=0) E (RMark.g_next _))) E E fun a G=>?_
  obtain ⟨l4,j4,I⟩:=bind_some I
  refine dV G E E E c7 E E (aO (xs:=[.tmp 13,.const (.int .i64 (0)),.const (.int .i64 (4095))]) qC159 G E E (dN j4 H ) fun v w hR=>?_)
  obtain ⟨rfl,H⟩:=hR
  replace H:MemL _ (pt c0 (RMark.enc (mMk x0 s1 s3 s5 s9)) 60::Lr):=H
  intro a G
  refine aL G E E E c7 (dF G E E) E E fun a G=>?_
  refine aA G (aZ G E E c7 E) E E E fun a G=>?_
  refine aA G (aF G E E) E E E fun a G=>?_
  refine bG 17 G E (fun c8=>?_) (fun c8=>?_)
  ·have I:=Fx.cT c8 I
   refine aE G E E E c8 E E fun a G=>?_
   refine aE G E E E c8 E E fun a G=>?_
   refine aE G E E E c8 E E fun a G=>?_
   refine aE G E E E c8 E E fun a G=>?_
   refine aA G (aP G E E c8 E) E E E fun a G=>?_
   refine aJ (aB ?_)
   have I:=oI I
   subst I
   exact ⟨true,E,G.to ⟨E,E,E,trivial⟩,H⟩
  have I:=Fx.cF c8 I
  refine aL G E E E c8 (aC (off':=6) qU60 E in52 E G E E E) E E fun a G=>?_
  refine aL G E E E c8 (aI qA52 G E E (H.cell (i:=0) E (RMark.g_sent _))) E E fun a G=>?_
  refine aL G E E E c8 (bQ (f10 _ (S _ (dropM H 1))) qU52 G E E) E E fun a G=>?_
  refine aL G E E E c8 (eR G E E E) E E fun a G=>?_
  refine aA G (aZ G E E c8 E) E E E fun a G=>?_
  refine aJ (aB ?_)
  have I:=oI I
  subst I
  exact ⟨(decide (1 < (x0.sent.length:Int))),E,G.to ⟨E,E,E,trivial⟩,H⟩
 rintro g9 a w I ⟨G,H⟩
 replace I:Sh.nA x0 g9 = _:=I
 unfold Sh.nA at I
 refine aB ?_
 refine aT G (c:=.tmp 22) E (fun d7=>?_) (fun d7=>?_)
 ·have I:=Fx.cT d7 I
  refine aG ?_
  refine aD ?_
  refine aA G (aH G E E) E E E fun a G=>?_
  refine aJ (aB ?_)
  refine c_ret ?_
  have I:=oI I
  subst I
  refine bJ qR135 G E ?_
  exact ⟨E,selM H [] 1 E⟩
 have I:=Fx.cF d7 I
 refine aW (aB ?_)
 refine aG ?_
 refine aV G H I (fun F x a w=>match x with | _=>Fr 104 [(1,.pointer (some ⟨c0,0,none⟩)),(2,.bool false)] a ∧ MemL w (pt c0 (RMark.enc (mMk x0 s1 s3 s5 s9)) 60::Lr)) (fun k7 I j1 G H=>?_) ?_
 ·refine aG ?_
  refine aD ?_
  refine aA G (aH G E E) E E E fun a G=>?_
  refine aJ (aB ?_)
  refine aU ?_
  refine bU G H I (fun F x a w=>match x with | c9=>Fr 104 [(3,.int .i64 c9),(1,.pointer (some ⟨c0,0,none⟩)),(2,.bool false)] a ∧ MemL w (pt c0 (RMark.enc (mMk x0 s1 s3 s5 s9)) 60::Lr)) (fun G H=>⟨G.to ⟨E,E,E,trivial⟩,H⟩) ?_
  rintro c9 a w l1 I i0 ⟨G,H⟩
  replace I:Sh.fL x0 c9 = _:=I
  unfold Sh.fL at I
  refine aG ?_
  refine aG ?_
  refine aD ?_
  refine aA G (aF G E E) E E E fun a G=>?_
  refine aA G (aC (off':=3) qU60 E in56 E G E E E) E E E fun a G=>?_
  refine aA G (aI qA56 G E E (H.cell (i:=0) E (RMark.g_regs _))) E E E fun a G=>?_
  refine aA G (bQ (f2 _ (S _ (dropM H 1))) qU56 G E E) E E E fun a G=>?_
  refine aA G (cK G E E E) E E E fun a G=>?_
  refine aJ (aB ?_)
  refine aT G (c:=.tmp 27) E (fun d3=>?_) (fun d3=>?_)
  ·have I:=Fx.cT d3 I
   refine aW (aB ?_)
   refine aG ?_
   refine aU ?_
   refine aG ?_
   refine aD ?_
   refine aA G (aC (off':=3) qU60 E in56 E G E E E) E E E fun a G=>?_
   refine aA G (aI qA56 G E E (H.cell (i:=0) E (RMark.g_regs _))) E E E fun a G=>?_
   refine aA G (aF G E E) E E E fun a G=>?_
   obtain ⟨g0,g2,I⟩:=bind_some I
   have i2:=aM g2
   refine aA G (aS (sz:=9) (f2 _ (S _ (dropM H 1))) qU56 in128 E G E E E (bH g2)) E E E fun a G=>?_
   refine aA G (aQ qA128 qS128 G E E (LTurn.len _) (((f2 _ (S _ (dropM H 1))).elemS i2.2))) E E E fun a G=>?_
   refine aN G E E E (bN z128 (zs:=LTurn.zero.enc) E E fun d1 w j8 g7=>?_)
   have H:=H.plus g7
   replace H:MemL _ (pt d1 (LTurn.enc LTurn.zero) 128::pt c0 (RMark.enc (mMk x0 s1 s3 s5 s9)) 60::Lr):=H
   intro a G
   refine bD E E (aX (vs:=_) qS128 (H.obj (i:=0) E) G E E E E (LTurn.len _) (LTurn.one _) (by first | (rw [LTurn.len,LTurn.len]; decide) | (rw [LTurn.len]; decide)) (bE ((LTurn.len _).trans (LTurn.len _).symm)) fun w i6=>?_)
   have H:=H.chg i6 (i:=0) rfl
   replace H:MemL _ (pt d1 (LTurn.enc g0) 128::pt c0 (RMark.enc (mMk x0 s1 s3 s5 s9)) 60::Lr):=H
   refine aJ (aB ?_)
   refine aG ?_
   refine aV G H I (fun F x a w=>match x with | d8=>Fr 104 [(61,.bool d8),(1,.pointer (some ⟨c0,0,none⟩)),(2,.bool false),(3,.int .i64 c9)] a ∧ MemL w (pt c0 (RMark.enc (mMk x0 s1 s3 s5 s9)) 60::Lr)) (fun k8 I k1 G H=>?_) ?_
   ·refine bM mixed (by kernel_rfl) H [0,1] 2 E fun K=>?_
    refine aK G K 0 E (by kernel_rfl) E E E (fun w H=>(aC (off':=0) qU128 E in3 E G E E E)) fun a G=>?_
    refine aK G K 1 E (by kernel_rfl) E E E (fun w H=>(aI qA3 G E E (H.cell (i:=0) E (LTurn.g_reg _)))) fun a G=>?_
    refine bF K 2 (by kernel_rfl) E E ?_
    refine bY G 2 E E E E E fun w hMs H=>?_
    obtain ⟨k3,i8,I⟩:=bind_some I
    refine (aO (xs:=[.tmp 36,.const (.int .i64 (0)),.const (.int .i64 (10))]) qC159 G E E (dN i8 H ) fun v w hR=>?_)
    obtain ⟨rfl,H⟩:=hR
    replace H:MemL _ (pt d1 (LTurn.enc g0) 128::pt c0 (RMark.enc (mMk x0 s1 s3 s5 s9)) 60::Lr):=H
    have hMs:=selM H [0,1] 2 rfl
    refine ⟨_,_,hMs,H,.inl fun _ h=>h,fun a G=>?_⟩
    refine aK G K 3 E (by kernel_rfl) E E E (fun w H=>(dF G E E)) fun a G=>?_
    refine aK G K 4 E (by kernel_rfl) E E E (fun w H=>(aF G E E)) fun a G=>?_
    refine bG 39 G E (fun c3=>?_) (fun c3=>?_)
    ·have I:=Fx.cT c3 I
     refine bA G K 5 E (by kernel_rfl) E E E c3 E E fun a G=>?_
     refine bA G K 6 E (by kernel_rfl) E E E c3 E E fun a G=>?_
     refine bA G K 7 E (by kernel_rfl) E E E c3 E E fun a G=>?_
     refine bA G K 8 E (by kernel_rfl) E E E c3 E E fun a G=>?_
     refine bA G K 9 E (by kernel_rfl) E E E c3 E E fun a G=>?_
     refine aK G K 10 E (by kernel_rfl) E E E (fun w H=>(aP G E E c3 E)) fun a G=>?_
     refine aK G K 11 E (by kernel_rfl) E E E (fun w H=>(aF G E E)) fun a G=>?_
     refine bA G K 12 E (by kernel_rfl) E E E E E E fun a G=>?_
     refine bA G K 13 E (by kernel_rfl) E E E E E E fun a G=>?_
     refine bA G K 14 E (by kernel_rfl) E E E E E E fun a G=>?_
     refine cC G K 15 E (by kernel_rfl) E E E E E fun a G=>?_
     refine cC G K 16 E (by kernel_rfl) E E E E E fun a G=>?_
     refine cC G K 17 E (by kernel_rfl) E E E E E fun a G=>?_
     refine cC G K 18 E (by kernel_rfl) E E E E E fun a G=>?_
     refine cC G K 19 E (by kernel_rfl) E E E E E fun a G=>?_
     refine cC G K 20 E (by kernel_rfl) E E E E E fun a G=>?_
     refine cC G K 21 E (by kernel_rfl) E E E E E fun a G=>?_
     refine cC G K 22 E (by kernel_rfl) E E E E E fun a G=>?_
     refine cC G K 23 E (by kernel_rfl) E E E E E fun a G=>?_
     refine cC G K 24 E (by kernel_rfl) E E E E E fun a G=>?_
     refine bA G K 25 E (by kernel_rfl) E E E E E E fun a G=>?_
     refine aK G K 26 E (by kernel_rfl) E E E (fun w H=>(aP G E E E E)) fun a G=>?_
     refine bV K (by kernel_rfl) fun w H=>?_
     refine aB ?_
     have I:=oI I
     subst I
     exact ⟨true,E,G.to ⟨E,E,E,E,trivial⟩,selM H [1] 2 E⟩
    have I:=Fx.cF c3 I
    refine bR G K 5 E (by kernel_rfl) E E E c3 E E (fun w H=>(aC (off':=1) qU128 E in46 E G E E E)) fun a G=>?_
    refine bR G K 6 E (by kernel_rfl) E E E c3 E E (fun w H=>(aQ qA46 qS46 G E E (LVal.len _) (H.cells (i:=0) E (LTurn.c_old _)))) fun a G=>?_
    refine bR G K 7 E (by kernel_rfl) E E E c3 E E (fun w H=>(aC (off':=5) qU128 E in46 E G E E E)) fun a G=>?_
    refine bR G K 8 E (by kernel_rfl) E E E c3 E E (fun w H=>(aQ qA46 qS46 G E E (LVal.len _) (H.cells (i:=0) E (LTurn.c_new _)))) fun a G=>?_
    refine bR G K 9 E (by kernel_rfl) E E E c3 E E (fun w H=>(jP qG46 (gA _ _ _ _ (by decide)) G E E E)) fun a G=>?_
    refine aK G K 10 E (by kernel_rfl) E E E (fun w H=>(aZ G E E c3 E)) fun a G=>?_
    refine aK G K 11 E (by kernel_rfl) E E E (fun w H=>(aF G E E)) fun a G=>?_
    refine bG 46 G E (fun c4=>?_) (fun c4=>?_)
    ·have I:=Fx.cT c4 I
     refine bA G K 12 E (by kernel_rfl) E E E c4 E E fun a G=>?_
     refine bA G K 13 E (by kernel_rfl) E E E c4 E E fun a G=>?_
     refine bA G K 14 E (by kernel_rfl) E E E c4 E E fun a G=>?_
     refine cC G K 15 E (by kernel_rfl) E E E E E fun a G=>?_
     refine cC G K 16 E (by kernel_rfl) E E E E E fun a G=>?_
     refine cC G K 17 E (by kernel_rfl) E E E E E fun a G=>?_
     refine cC G K 18 E (by kernel_rfl) E E E E E fun a G=>?_
     refine cC G K 19 E (by kernel_rfl) E E E E E fun a G=>?_
     refine cC G K 20 E (by kernel_rfl) E E E E E fun a G=>?_
     refine cC G K 21 E (by kernel_rfl) E E E E E fun a G=>?_
     refine cC G K 22 E (by kernel_rfl) E E E E E fun a G=>?_
     refine cC G K 23 E (by kernel_rfl) E E E E E fun a G=>?_
     refine cC G K 24 E (by kernel_rfl) E E E E E fun a G=>?_
     refine bA G K 25 E (by kernel_rfl) E E E c4 E E fun a G=>?_
     refine aK G K 26 E (by kernel_rfl) E E E (fun w H=>(aP G E E c4 E)) fun a G=>?_
     refine bV K (by kernel_rfl) fun w H=>?_
     refine aB ?_
     have I:=oI I
     subst I
     exact ⟨true,E,G.to ⟨E,E,E,E,trivial⟩,selM H [1] 2 E⟩
    have I:=Fx.cF c4 I
    refine bR G K 12 E (by kernel_rfl) E E E c4 E E (fun w H=>(aF G E E)) fun a G=>?_
    refine bR G K 13 E (by kernel_rfl) E E E c4 E E (fun w H=>(eR G E E E)) fun a G=>?_
    refine bR G K 14 E (by kernel_rfl) E E E c4 E E (fun w H=>(aF G E E)) fun a G=>?_
    refine bG 49 G E (fun c1=>?_) (fun c1=>?_)
    ·have I:=Fx.cT c1 I
     refine bR G K 15 E (by kernel_rfl) E E E c1 E E (fun w H=>(aC (off':=0) qU128 E in3 E G E E E)) fun a G=>?_
     refine bR G K 16 E (by kernel_rfl) E E E c1 E E (fun w H=>(aI qA3 G E E (H.cell (i:=0) E (LTurn.g_reg _)))) fun a G=>?_
     refine bR G K 17 E (by kernel_rfl) E E E c1 E E (fun w H=>(aC (off':=3) qU60 E in56 E G E E E)) fun a G=>?_
     refine bR G K 18 E (by kernel_rfl) E E E c1 E E (fun w H=>(aI qA56 G E E (H.cell (i:=1) E (RMark.g_regs _)))) fun a G=>?_
     refine bR G K 19 E (by kernel_rfl) E E E c1 E E (fun w H=>(aF G E E)) fun a G=>?_
     refine bR G K 20 E (by kernel_rfl) E E E c1 E E (fun w H=>(eS G E E E)) fun a G=>?_
     obtain ⟨j5,g3,I⟩:=bind_some I
     have i3:=aM g3
     refine bR G K 21 E (by kernel_rfl) E E E c1 E E (fun w H=>(aS (sz:=9) (f2 _ (S _ (dropM H 2))) qU56 in128 E G E E E (bH g3))) fun a G=>?_
     refine bR G K 22 E (by kernel_rfl) E E E c1 E E (fun w H=>(aC qU128 E in3 E G E E E)) fun a G=>?_
     refine bR G K 23 E (by kernel_rfl) E E E c1 E E (fun w H=>(aI qA3 G E E ((((f2 _ (S _ (dropM H 2))).elemS i3.2)).get 0 (LTurn.g_reg _)))) fun a G=>?_
     refine bR G K 24 E (by kernel_rfl) E E E c1 E E (fun w H=>(qP G E E E)) fun a G=>?_
     refine bR G K 25 E (by kernel_rfl) E E E c4 E E (fun w H=>(aP G E E c1 E)) fun a G=>?_
     refine aK G K 26 E (by kernel_rfl) E E E (fun w H=>(aZ G E E c4 E)) fun a G=>?_
     refine bV K (by kernel_rfl) fun w H=>?_
     refine aB ?_
     have I:=oI I
     subst I
     exact ⟨(decide (g0.reg ≤ j5.reg)),E,G.to ⟨E,E,E,E,trivial⟩,selM H [1] 2 E⟩
    have I:=Fx.cF c1 I
    refine bA G K 15 E (by kernel_rfl) E E E c1 E E fun a G=>?_
    refine bA G K 16 E (by kernel_rfl) E E E c1 E E fun a G=>?_
    refine bA G K 17 E (by kernel_rfl) E E E c1 E E fun a G=>?_
    refine bA G K 18 E (by kernel_rfl) E E E c1 E E fun a G=>?_
    refine bA G K 19 E (by kernel_rfl) E E E c1 E E fun a G=>?_
    refine bA G K 20 E (by kernel_rfl) E E E c1 E E fun a G=>?_
    refine bA G K 21 E (by kernel_rfl) E E E c1 E E fun a G=>?_
    refine bA G K 22 E (by kernel_rfl) E E E c1 E E fun a G=>?_
    refine bA G K 23 E (by kernel_rfl) E E E c1 E E fun a G=>?_
    refine bA G K 24 E (by kernel_rfl) E E E c1 E E fun a G=>?_
    refine bR G K 25 E (by kernel_rfl) E E E c4 E E (fun w H=>(aZ G E E c1 E)) fun a G=>?_
    refine aK G K 26 E (by kernel_rfl) E E E (fun w H=>(aZ G E E c4 E)) fun a G=>?_
    refine bV K (by kernel_rfl) fun w H=>?_
    refine aB ?_
    have I:=oI I
    subst I
    exact ⟨false,E,G.to ⟨E,E,E,E,trivial⟩,selM H [1] 2 E⟩
   rintro d8 a w I ⟨G,H⟩
   replace I:Sh.pX c9 d8 = _:=I
   unfold Sh.pX at I
   refine aB ?_
   refine aT G (c:=.tmp 61) E (fun d4=>?_) (fun d4=>?_)
   ·have I:=Fx.cT d4 I
    refine aG ?_
    refine aD ?_
    refine aA G (aH G E E) E E E fun a G=>?_
    refine aJ (aB ?_)
    refine c_ret ?_
    have I:=oI I
    subst I
    have I:=i0 _ rfl
    subst I
    have I:=dE j1
    subst I
    refine bJ qR135 G E ?_
    exact ⟨E,selM H [] 1 E⟩
   have I:=Fx.cF d4 I
   refine aW (bK (aB ?_))
   refine aD ?_
   refine aA G (aF G E E) E E E fun a G=>?_
   refine aA G (bW G E E E) E E E fun a G=>?_
   refine aA G (aH G E E) E E E fun a G=>?_
   refine aJ (aB ?_)
   have I:=oI I
   subst I
   exact ⟨(IntKind.i64.wrap (c9 + 1)),E,G.to ⟨E,E,E,trivial⟩,H⟩
  have I:=Fx.cF d3 I
  refine bX (bC (bC (cO ?_)))
  refine aB ?_
  have I:=oI I
  subst I
  have I:=i0 _ rfl
  subst I
  exact ⟨(),E,G.to ⟨E,E,trivial⟩,H⟩
 rintro ⟨⟩ a w I ⟨G,H⟩
 replace I:Sh.nB x0 = _:=I
 unfold Sh.nB at I
 refine aB ?_
 refine aG ?_
 refine aV G H I (fun F x a w=>match x with | _=>Fr 104 [(1,.pointer (some ⟨c0,0,none⟩)),(2,.bool false)] a ∧ MemL w (pt c0 (RMark.enc (mMk x0 s1 s3 s5 s9)) 60::Lr)) (fun k9 I j2 G H=>?_) ?_
 ·refine aG ?_
  refine aD ?_
  refine aA G (aH G E E) E E E fun a G=>?_
  refine aJ (aB ?_)
  refine aU ?_
  refine bU G H I (fun F x a w=>match x with | d0=>Fr 104 [(5,.int .i64 d0),(1,.pointer (some ⟨c0,0,none⟩)),(2,.bool false)] a ∧ MemL w (pt c0 (RMark.enc (mMk x0 s1 s3 s5 s9)) 60::Lr)) (fun G H=>⟨G.to ⟨E,E,E,trivial⟩,H⟩) ?_
  rintro d0 a w l2 I i1 ⟨G,H⟩
  replace I:Sh.fM x0 d0 = _:=I
  unfold Sh.fM at I
  refine aG ?_
  refine aG ?_
  refine aD ?_
  refine aA G (aF G E E) E E E fun a G=>?_
  refine aA G (aC (off':=4) qU60 E in57 E G E E E) E E E fun a G=>?_
  refine aA G (aI qA57 G E E (H.cell (i:=0) E (RMark.g_slots _))) E E E fun a G=>?_
  refine aA G (bQ (f4 _ (S _ (dropM H 1))) qU57 G E E) E E E fun a G=>?_
  refine aA G (cK G E E E) E E E fun a G=>?_
  refine aJ (aB ?_)
  refine aT G (c:=.tmp 66) E (fun d5=>?_) (fun d5=>?_)
  ·have I:=Fx.cT d5 I
   refine aW (aB ?_)
   refine aG ?_
   refine aU ?_
   refine aG ?_
   refine aD ?_
   refine aA G (aC (off':=4) qU60 E in57 E G E E E) E E E fun a G=>?_
   refine aA G (aI qA57 G E E (H.cell (i:=0) E (RMark.g_slots _))) E E E fun a G=>?_
   refine aA G (aF G E E) E E E fun a G=>?_
   obtain ⟨g1,g4,I⟩:=bind_some I
   have i4:=aM g4
   refine aA G (aS (sz:=27) (f4 _ (S _ (dropM H 1))) qU57 in151 E G E E E (bH g4)) E E E fun a G=>?_
   refine aA G (aQ qA151 qS151 G E E (LCell.len _) (((f4 _ (S _ (dropM H 1))).elemS i4.2))) E E E fun a G=>?_
   refine aN G E E E (bN z151 (zs:=LCell.zero.enc) E E fun d2 w j9 g8=>?_)
   have H:=H.plus g8
   replace H:MemL _ (pt d2 (LCell.enc LCell.zero) 151::pt c0 (RMark.enc (mMk x0 s1 s3 s5 s9)) 60::Lr):=H
   intro a G
   refine bD E E (aX (vs:=_) qS151 (H.obj (i:=0) E) G E E E E (LCell.len _) (LCell.one _) (by first | (rw [LCell.len,LCell.len]; decide) | (rw [LCell.len]; decide)) (bE ((LCell.len _).trans (LCell.len _).symm)) fun w i7=>?_)
   have H:=H.chg i7 (i:=0) rfl
   replace H:MemL _ (pt d2 (LCell.enc g1) 151::pt c0 (RMark.enc (mMk x0 s1 s3 s5 s9)) 60::Lr):=H
   refine aJ (aB ?_)
   refine aG ?_
   refine aV G H I (fun F x a w=>match x with | d9=>Fr 104 [(100,.bool d9),(1,.pointer (some ⟨c0,0,none⟩)),(2,.bool false),(5,.int .i64 d0)] a ∧ MemL w (pt c0 (RMark.enc (mMk x0 s1 s3 s5 s9)) 60::Lr)) (fun l0 I k2 G H=>?_) ?_
   ·refine bM mixed (by kernel_rfl) H [0,1] 2 E fun K=>?_
    refine aK G K 0 E (by kernel_rfl) E E E (fun w H=>(aC (off':=0) qU151 E in3 E G E E E)) fun a G=>?_
    refine aK G K 1 E (by kernel_rfl) E E E (fun w H=>(aI qA3 G E E (H.cell (i:=0) E (LCell.g_slot _)))) fun a G=>?_
    refine bF K 2 (by kernel_rfl) E E ?_
    refine bY G 2 E E E E E fun w hMs H=>?_
    obtain ⟨k4,i9,I⟩:=bind_some I
    refine (aO (xs:=[.tmp 75,.const (.int .i64 (0)),.const (.int .i64 (31))]) qC159 G E E (dN i9 H ) fun v w hR=>?_)
    obtain ⟨rfl,H⟩:=hR
    replace H:MemL _ (pt d2 (LCell.enc g1) 151::pt c0 (RMark.enc (mMk x0 s1 s3 s5 s9)) 60::Lr):=H
    have hMs:=selM H [0,1] 2 rfl
    refine ⟨_,_,hMs,H,.inl fun _ h=>h,fun a G=>?_⟩
    refine aK G K 3 E (by kernel_rfl) E E E (fun w H=>(dF G E E)) fun a G=>?_
    refine aK G K 4 E (by kernel_rfl) E E E (fun w H=>(aF G E E)) fun a G=>?_
    refine bG 78 G E (fun c5=>?_) (fun c5=>?_)
    ·have I:=Fx.cT c5 I
     refine bA G K 5 E (by kernel_rfl) E E E c5 E E fun a G=>?_
     refine bA G K 6 E (by kernel_rfl) E E E c5 E E fun a G=>?_
     refine bA G K 7 E (by kernel_rfl) E E E c5 E E fun a G=>?_
     refine bA G K 8 E (by kernel_rfl) E E E c5 E E fun a G=>?_
     refine bA G K 9 E (by kernel_rfl) E E E c5 E E fun a G=>?_
     refine aK G K 10 E (by kernel_rfl) E E E (fun w H=>(aP G E E c5 E)) fun a G=>?_
     refine aK G K 11 E (by kernel_rfl) E E E (fun w H=>(aF G E E)) fun a G=>?_
     refine bA G K 12 E (by kernel_rfl) E E E E E E fun a G=>?_
     refine bA G K 13 E (by kernel_rfl) E E E E E E fun a G=>?_
     refine bA G K 14 E (by kernel_rfl) E E E E E E fun a G=>?_
     refine cC G K 15 E (by kernel_rfl) E E E E E fun a G=>?_
     refine cC G K 16 E (by kernel_rfl) E E E E E fun a G=>?_
     refine cC G K 17 E (by kernel_rfl) E E E E E fun a G=>?_
     refine cC G K 18 E (by kernel_rfl) E E E E E fun a G=>?_
     refine cC G K 19 E (by kernel_rfl) E E E E E fun a G=>?_
     refine cC G K 20 E (by kernel_rfl) E E E E E fun a G=>?_
     refine cC G K 21 E (by kernel_rfl) E E E E E fun a G=>?_
     refine cC G K 22 E (by kernel_rfl) E E E E E fun a G=>?_
     refine cC G K 23 E (by kernel_rfl) E E E E E fun a G=>?_
     refine cC G K 24 E (by kernel_rfl) E E E E E fun a G=>?_
     refine bA G K 25 E (by kernel_rfl) E E E E E E fun a G=>?_
     refine aK G K 26 E (by kernel_rfl) E E E (fun w H=>(aP G E E E E)) fun a G=>?_
     refine bV K (by kernel_rfl) fun w H=>?_
     refine aB ?_
     have I:=oI I
     subst I
     exact ⟨true,E,G.to ⟨E,E,E,E,trivial⟩,selM H [1] 2 E⟩
    have I:=Fx.cF c5 I
    refine bR G K 5 E (by kernel_rfl) E E E c5 E E (fun w H=>(aC (off':=1) qU151 E in50 E G E E E)) fun a G=>?_
    refine bR G K 6 E (by kernel_rfl) E E E c5 E E (fun w H=>(aQ qA50 qS50 G E E (LSlot.len _) (H.cells (i:=0) E (LCell.c_old _)))) fun a G=>?_
    refine bR G K 7 E (by kernel_rfl) E E E c5 E E (fun w H=>(aC (off':=14) qU151 E in50 E G E E E)) fun a G=>?_
    refine bR G K 8 E (by kernel_rfl) E E E c5 E E (fun w H=>(aQ qA50 qS50 G E E (LSlot.len _) (H.cells (i:=0) E (LCell.c_new _)))) fun a G=>?_
    refine bR G K 9 E (by kernel_rfl) E E E c5 E E (fun w H=>(jP qG50 (gR _ _ _ _ (by decide)) G E E E)) fun a G=>?_
    refine aK G K 10 E (by kernel_rfl) E E E (fun w H=>(aZ G E E c5 E)) fun a G=>?_
    refine aK G K 11 E (by kernel_rfl) E E E (fun w H=>(aF G E E)) fun a G=>?_
    refine bG 85 G E (fun c6=>?_) (fun c6=>?_)
    ·have I:=Fx.cT c6 I
     refine bA G K 12 E (by kernel_rfl) E E E c6 E E fun a G=>?_
     refine bA G K 13 E (by kernel_rfl) E E E c6 E E fun a G=>?_
     refine bA G K 14 E (by kernel_rfl) E E E c6 E E fun a G=>?_
     refine cC G K 15 E (by kernel_rfl) E E E E E fun a G=>?_
     refine cC G K 16 E (by kernel_rfl) E E E E E fun a G=>?_
     refine cC G K 17 E (by kernel_rfl) E E E E E fun a G=>?_
     refine cC G K 18 E (by kernel_rfl) E E E E E fun a G=>?_
     refine cC G K 19 E (by kernel_rfl) E E E E E fun a G=>?_
     refine cC G K 20 E (by kernel_rfl) E E E E E fun a G=>?_
     refine cC G K 21 E (by kernel_rfl) E E E E E fun a G=>?_
     refine cC G K 22 E (by kernel_rfl) E E E E E fun a G=>?_
     refine cC G K 23 E (by kernel_rfl) E E E E E fun a G=>?_
     refine cC G K 24 E (by kernel_rfl) E E E E E fun a G=>?_
     refine bA G K 25 E (by kernel_rfl) E E E c6 E E fun a G=>?_
     refine aK G K 26 E (by kernel_rfl) E E E (fun w H=>(aP G E E c6 E)) fun a G=>?_
     refine bV K (by kernel_rfl) fun w H=>?_
     refine aB ?_
     have I:=oI I
     subst I
     exact ⟨true,E,G.to ⟨E,E,E,E,trivial⟩,selM H [1] 2 E⟩
    have I:=Fx.cF c6 I
    refine bR G K 12 E (by kernel_rfl) E E E c6 E E (fun w H=>(aF G E E)) fun a G=>?_
    refine bR G K 13 E (by kernel_rfl) E E E c6 E E (fun w H=>(eR G E E E)) fun a G=>?_
    refine bR G K 14 E (by kernel_rfl) E E E c6 E E (fun w H=>(aF G E E)) fun a G=>?_
    refine bG 88 G E (fun c2=>?_) (fun c2=>?_)
    ·have I:=Fx.cT c2 I
     refine bR G K 15 E (by kernel_rfl) E E E c2 E E (fun w H=>(aC (off':=0) qU151 E in3 E G E E E)) fun a G=>?_
     refine bR G K 16 E (by kernel_rfl) E E E c2 E E (fun w H=>(aI qA3 G E E (H.cell (i:=0) E (LCell.g_slot _)))) fun a G=>?_
     refine bR G K 17 E (by kernel_rfl) E E E c2 E E (fun w H=>(aC (off':=4) qU60 E in57 E G E E E)) fun a G=>?_
     refine bR G K 18 E (by kernel_rfl) E E E c2 E E (fun w H=>(aI qA57 G E E (H.cell (i:=1) E (RMark.g_slots _)))) fun a G=>?_
     refine bR G K 19 E (by kernel_rfl) E E E c2 E E (fun w H=>(aF G E E)) fun a G=>?_
     refine bR G K 20 E (by kernel_rfl) E E E c2 E E (fun w H=>(eS G E E E)) fun a G=>?_
     obtain ⟨j6,g5,I⟩:=bind_some I
     have i5:=aM g5
     refine bR G K 21 E (by kernel_rfl) E E E c2 E E (fun w H=>(aS (sz:=27) (f4 _ (S _ (dropM H 2))) qU57 in151 E G E E E (bH g5))) fun a G=>?_
     refine bR G K 22 E (by kernel_rfl) E E E c2 E E (fun w H=>(aC qU151 E in3 E G E E E)) fun a G=>?_
     refine bR G K 23 E (by kernel_rfl) E E E c2 E E (fun w H=>(aI qA3 G E E ((((f4 _ (S _ (dropM H 2))).elemS i5.2)).get 0 (LCell.g_slot _)))) fun a G=>?_
     refine bR G K 24 E (by kernel_rfl) E E E c2 E E (fun w H=>(qP G E E E)) fun a G=>?_
     refine bR G K 25 E (by kernel_rfl) E E E c6 E E (fun w H=>(aP G E E c2 E)) fun a G=>?_
     refine aK G K 26 E (by kernel_rfl) E E E (fun w H=>(aZ G E E c6 E)) fun a G=>?_
     refine bV K (by kernel_rfl) fun w H=>?_
     refine aB ?_
     have I:=oI I
     subst I
     exact ⟨(decide (g1.slot ≤ j6.slot)),E,G.to ⟨E,E,E,E,trivial⟩,selM H [1] 2 E⟩
    have I:=Fx.cF c2 I
    refine bA G K 15 E (by kernel_rfl) E E E c2 E E fun a G=>?_
    refine bA G K 16 E (by kernel_rfl) E E E c2 E E fun a G=>?_
    refine bA G K 17 E (by kernel_rfl) E E E c2 E E fun a G=>?_
    refine bA G K 18 E (by kernel_rfl) E E E c2 E E fun a G=>?_
    refine bA G K 19 E (by kernel_rfl) E E E c2 E E fun a G=>?_
    refine bA G K 20 E (by kernel_rfl) E E E c2 E E fun a G=>?_
    refine bA G K 21 E (by kernel_rfl) E E E c2 E E fun a G=>?_
    refine bA G K 22 E (by kernel_rfl) E E E c2 E E fun a G=>?_
    refine bA G K 23 E (by kernel_rfl) E E E c2 E E fun a G=>?_
    refine bA G K 24 E (by kernel_rfl) E E E c2 E E fun a G=>?_
    refine bR G K 25 E (by kernel_rfl) E E E c6 E E (fun w H=>(aZ G E E c2 E)) fun a G=>?_
    refine aK G K 26 E (by kernel_rfl) E E E (fun w H=>(aZ G E E c6 E)) fun a G=>?_
    refine bV K (by kernel_rfl) fun w H=>?_
    refine aB ?_
    have I:=oI I
    subst I
    exact ⟨false,E,G.to ⟨E,E,E,E,trivial⟩,selM H [1] 2 E⟩
   rintro d9 a w I ⟨G,H⟩
   replace I:Sh.pY d0 d9 = _:=I
   unfold Sh.pY at I
   refine aB ?_
   refine aT G (c:=.tmp 100) E (fun d6=>?_) (fun d6=>?_)
   ·have I:=Fx.cT d6 I
    refine aG ?_
    refine aD ?_
    refine aA G (aH G E E) E E E fun a G=>?_
    refine aJ (aB ?_)
    refine c_ret ?_
    have I:=oI I
    subst I
    have I:=i1 _ rfl
    subst I
    have I:=dE j2
    subst I
    refine bJ qR135 G E ?_
    exact ⟨E,selM H [] 1 E⟩
   have I:=Fx.cF d6 I
   refine aW (bK (aB ?_))
   refine aD ?_
   refine aA G (aF G E E) E E E fun a G=>?_
   refine aA G (bW G E E E) E E E fun a G=>?_
   refine aA G (aH G E E) E E E fun a G=>?_
   refine aJ (aB ?_)
   have I:=oI I
   subst I
   exact ⟨(IntKind.i64.wrap (d0 + 1)),E,G.to ⟨E,E,E,trivial⟩,H⟩
  have I:=Fx.cF d5 I
  refine bX (bC (bC (cO ?_)))
  refine aB ?_
  have I:=oI I
  subst I
  have I:=i1 _ rfl
  subst I
  exact ⟨(),E,G.to ⟨E,E,trivial⟩,H⟩
 rintro ⟨⟩ a w I ⟨G,H⟩
 replace I:Sh.nC x0 = _:=I
 unfold Sh.nC at I
 refine aB ?_
 refine aG ?_
 refine aD ?_
 refine aA G (aC (off':=5) qU60 E in58 E G E E E) E E E fun a G=>?_
 refine aA G (aI qA58 G E E (H.cell (i:=0) E (RMark.g_pieces _))) E E E fun a G=>?_
 obtain ⟨k5,j0,I⟩:=bind_some I
 refine aN G E E E (aO (xs:=[.tmp 102]) Tryz.call198 G E E (pS j0 H (Bf:=Bf) (fun w H=>S _ (dropM H 1)) f7 q8) fun v w hR=>?_)
 obtain ⟨rfl,H⟩:=hR
 replace H:MemL _ (pt c0 (RMark.enc (mMk x0 s1 s3 s5 s9)) 60::Lr):=H
 intro a G
 refine aA G (aH G E E) E E E fun a G=>?_
 refine aJ (aB ?_)
 refine c_ret ?_
 have I:=oI I
 subst I
 refine bJ qR135 G E ?_
 exact ⟨E,selM H [] 1 E⟩
end Go.Proofs
end
section
namespace Go.Proofs
open Go.Fw Go.Fx
set_option maxRecDepth 10000
set_option maxHeartbeats 4000000 in
theorem dZ {x0:List UInt8} {x1:List UInt8} {s1:SV} {s3:SV} {out:Bool} {w0:World} {Bf:World → Prop} {Lr:List Res} (I:Sh.aV x0 x1 = some out) (H:MemL w0 (Lr)) (S:∀ w,MemL w Lr → Bf w) (f2:LIn Bf s1 x0) (f4:LIn Bf s3 x1):Calls Tryz.prog 43 #[(s1).v,(s3).v] w0 (Ret fun v w'=>v = .bool out ∧ MemL w' (Lr)):=by
 unfold Sh.aV at I
 refine aR (vs:=[(s1).v,(s3).v]) Tryz.func43 E Tryz.ntmps43 E fun a G=>?_
 refine aG ?_
 refine aD ?_
 refine aA G (aH G E E) E E E fun a G=>?_
 refine aJ (aB ?_)
 refine aG ?_
 refine aD ?_
 refine aA G (aF G E E) E E E fun a G=>?_
 refine aA G (iG (f2 _ (S _ (dropM H 0))) qU23 qU5 qU9 G E E) E E E fun a G=>?_
 refine aA G (aF G E E) E E E fun a G=>?_
 refine aA G (iG (f4 _ (S _ (dropM H 0))) qU23 qU5 qU9 G E E) E E E fun a G=>?_
 refine aA G (uQ (i:=x0) (j:=x1) G E E E) E E E fun a G=>?_
 refine aA G (aH G E E) E E E fun a G=>?_
 refine aJ (aB ?_)
 refine c_ret ?_
 have I:=oI I
 subst I
 refine bJ Tryz.results43 G E ?_
 exact ⟨E,H⟩
set_option maxHeartbeats 4000000 in
theorem jZ {x0:List Int} {x1:List Int} {s1:SV} {s3:SV} {out:Bool} {w0:World} {Bf:World → Prop} {Lr:List Res} (I:Sh.gT x0 x1 = some out) (H:MemL w0 (Lr)) (S:∀ w,MemL w Lr → Bf w) (f2:LIn Bf s1 x0) (f4:LIn Bf s3 x1):Calls Tryz.prog 89 #[(s1).v,(s3).v] w0 (Ret fun v w'=>v = .bool out ∧ MemL w' (Lr)):=by
 unfold Sh.gT at I
 refine aR (vs:=[(s1).v,(s3).v]) Tryz.func89 E Tryz.ntmps89 E fun a G=>?_
 refine aG ?_
 refine aD ?_
 refine aA G (aH G E E) E E E fun a G=>?_
 refine aJ (aB ?_)
 refine aG ?_
 refine aG ?_
 refine aD ?_
 refine aA G (aF G E E) E E E fun a G=>?_
 refine aA G (bQ (f2 _ (S _ (dropM H 0))) qU52 G E E) E E E fun a G=>?_
 refine aA G (aF G E E) E E E fun a G=>?_
 refine aA G (bQ (f4 _ (S _ (dropM H 0))) qU52 G E E) E E E fun a G=>?_
 refine aA G (dD G E E E) E E E fun a G=>?_
 refine aJ (aB ?_)
 refine aT G (c:=.tmp 10) E (fun c0=>?_) (fun c0=>?_)
 ·have I:=Fx.cT c0 I
  refine aG ?_
  refine aD ?_
  refine aA G (aH G E E) E E E fun a G=>?_
  refine aJ (aB ?_)
  refine c_ret ?_
  have I:=oI I
  subst I
  refine bJ Tryz.results89 G E ?_
  exact ⟨E,H⟩
 have I:=Fx.cF c0 I
 refine aW (aB ?_)
 refine aG ?_
 refine aV G H I (fun F x a w=>match x with | _=>Fr 26 [(4,.bool false)] a ∧ MemL w (Lr)) (fun d0 I c9 G H=>?_) ?_
 ·refine aG ?_
  refine aD ?_
  refine aA G (aH G E E) E E E fun a G=>?_
  refine aJ (aB ?_)
  refine aU ?_
  refine bU G H I (fun F x a w=>match x with | c3=>Fr 26 [(5,.int .i64 c3),(0,(s1).v),(1,(s3).v),(4,.bool false)] a ∧ MemL w (Lr)) (fun G H=>⟨G.to ⟨E,E,E,E,trivial⟩,H⟩) ?_
  rintro c3 a w d1 I c4 ⟨G,H⟩
  replace I:Sh.dP x0 x1 c3 = _:=I
  unfold Sh.dP at I
  refine aG ?_
  refine aG ?_
  refine aD ?_
  refine aA G (aF G E E) E E E fun a G=>?_
  refine aA G (aF G E E) E E E fun a G=>?_
  refine aA G (bQ (f2 _ (S _ (dropM H 0))) qU52 G E E) E E E fun a G=>?_
  refine aA G (cK G E E E) E E E fun a G=>?_
  refine aJ (aB ?_)
  refine aT G (c:=.tmp 14) E (fun c1=>?_) (fun c1=>?_)
  ·have I:=Fx.cT c1 I
   refine aW (aB ?_)
   refine aG ?_
   refine aU ?_
   refine aG ?_
   refine bM mixed (by kernel_rfl) H [] 0 E fun K=>?_
   refine aK G K 0 E (by kernel_rfl) E E E (fun w H=>(aF G E E)) fun a G=>?_
   refine aK G K 1 E (by kernel_rfl) E E E (fun w H=>(aF G E E)) fun a G=>?_
   obtain ⟨d2,c5,I⟩:=bind_some I
   have c7:=aM c5
   refine aK G K 2 E (by kernel_rfl) E E E (fun w H=>(aS (sz:=1) (f2 _ (S _ (dropM H 0))) qU52 in3 E G E E E (bH c5))) fun a G=>?_
   refine aK G K 3 E (by kernel_rfl) E E E (fun w H=>(aI qA3 G E E ((((f2 _ (S _ (dropM H 0))).elemS c7.2)).get 0 E))) fun a G=>?_
   refine aK G K 4 E (by kernel_rfl) E E E (fun w H=>(aF G E E)) fun a G=>?_
   refine aK G K 5 E (by kernel_rfl) E E E (fun w H=>(aF G E E)) fun a G=>?_
   obtain ⟨d3,c6,I⟩:=bind_some I
   have c8:=aM c6
   refine aK G K 6 E (by kernel_rfl) E E E (fun w H=>(aS (sz:=1) (f4 _ (S _ (dropM H 0))) qU52 in3 E G E E E (bH c6))) fun a G=>?_
   refine aK G K 7 E (by kernel_rfl) E E E (fun w H=>(aI qA3 G E E ((((f4 _ (S _ (dropM H 0))).elemS c8.2)).get 0 E))) fun a G=>?_
   refine aK G K 8 E (by kernel_rfl) E E E (fun w H=>(dD G E E E)) fun a G=>?_
   refine bV K (by kernel_rfl) fun w H=>?_
   refine aB ?_
   refine aT G (c:=.tmp 25) E (fun c2=>?_) (fun c2=>?_)
   ·have I:=Fx.cT c2 I
    refine aG ?_
    refine aD ?_
    refine aA G (aH G E E) E E E fun a G=>?_
    refine aJ (aB ?_)
    refine c_ret ?_
    have I:=oI I
    subst I
    have I:=c4 _ rfl
    subst I
    have I:=dE c9
    subst I
    refine bJ Tryz.results89 G E ?_
    exact ⟨E,H⟩
   have I:=Fx.cF c2 I
   refine aW (bK (aB ?_))
   refine aD ?_
   refine aA G (aF G E E) E E E fun a G=>?_
   refine aA G (bW G E E E) E E E fun a G=>?_
   refine aA G (aH G E E) E E E fun a G=>?_
   refine aJ (aB ?_)
   have I:=oI I
   subst I
   exact ⟨(IntKind.i64.wrap (c3 + 1)),E,G.to ⟨E,E,E,E,trivial⟩,H⟩
  have I:=Fx.cF c1 I
  refine bX (bC (bC (cO ?_)))
  refine aB ?_
  have I:=oI I
  subst I
  have I:=c4 _ rfl
  subst I
  exact ⟨(),E,G.to ⟨E,trivial⟩,H⟩
 rintro ⟨⟩ a w I ⟨G,H⟩
 replace I:Sh.mT = _:=I
 unfold Sh.mT at I
 refine aB ?_
 refine aG ?_
 refine aD ?_
 refine aA G (aH G E E) E E E fun a G=>?_
 refine aJ (aB ?_)
 refine c_ret ?_
 have I:=oI I
 subst I
 refine bJ Tryz.results89 G E ?_
 exact ⟨E,H⟩
set_option maxHeartbeats 4000000 in
theorem dY {x0:List UInt8} {s1:SV} {out:List UInt8} {w0:World} {Bf:World → Prop} {Lr:List Res} (I:Sh.bA x0 = some out) (H:MemL w0 (Lr)) (S:∀ w,MemL w Lr → Bf w) (f2:LIn Bf s1 x0):Calls Tryz.prog 50 #[(s1).v] w0 (Ret fun v w'=>∃ (s6:SV),v = (s6).v ∧ MemL w' (rowL 0 s6 5 out::Lr)):=by
 unfold Sh.bA at I
 refine aR (vs:=[(s1).v]) Tryz.func50 E Tryz.ntmps50 E fun a G=>?_
 refine aG ?_
 refine aD ?_
 refine aA G (aH G E E) E E E fun a G=>?_
 refine aJ (aB ?_)
 refine aG ?_
 refine aD ?_
 refine aA G (aF G E E) E E E fun a G=>?_
 have H:=H.rowNil (X:=UInt8) 0 5
 obtain ⟨x10,hx10,I⟩:=bind_some I
 refine aN G E E E (dC (X:=UInt8) hx10 qU23 in5 E E E E G E E E (H.own (X:=UInt8) (i:=0) E) (f2 _ (S _ (dropM H 1))) fun s8 w hUs8=>?_)
 have H:=H.chg hUs8 (i:=0) rfl
 replace H:MemL _ (rowL 0 s8 5 x10::Lr):=H
 intro a G
 refine aA G (aH G E E) E E E fun a G=>?_
 refine aJ (aB ?_)
 refine c_ret ?_
 have I:=oI I
 subst I
 refine bJ Tryz.results50 G E ?_
 exact ⟨s8,E,H⟩
set_option maxHeartbeats 4000000 in
theorem fI {x0:List Int} {s1:SV} {out:List Int} {w0:World} {Bf:World → Prop} {Lr:List Res} (I:Sh.fK x0 = some out) (H:MemL w0 (Lr)) (S:∀ w,MemL w Lr → Bf w) (f2:LIn Bf s1 x0):Calls Tryz.prog 81 #[(s1).v] w0 (Ret fun v w'=>∃ (s6:SV),v = (s6).v ∧ MemL w' (rowL 0 s6 3 out::Lr)):=by
 unfold Sh.fK at I
 refine aR (vs:=[(s1).v]) Tryz.func81 E Tryz.ntmps81 E fun a G=>?_
 refine aG ?_
 refine aD ?_
 refine aA G (aH G E E) E E E fun a G=>?_
 refine aJ (aB ?_)
 refine aG ?_
 refine aD ?_
 refine aA G (aF G E E) E E E fun a G=>?_
 have H:=H.rowNil (X:=Int) 0 3
 obtain ⟨x10,hx10,I⟩:=bind_some I
 refine aN G E E E (dC (X:=Int) hx10 qU52 in3 E E E E G E E E (H.own (X:=Int) (i:=0) E) (f2 _ (S _ (dropM H 1))) fun s8 w hUs8=>?_)
 have H:=H.chg hUs8 (i:=0) rfl
 replace H:MemL _ (rowL 0 s8 3 x10::Lr):=H
 intro a G
 refine aA G (aH G E E) E E E fun a G=>?_
 refine aJ (aB ?_)
 refine c_ret ?_
 have I:=oI I
 subst I
 refine bJ Tryz.results81 G E ?_
 exact ⟨s8,E,H⟩
set_option maxHeartbeats 4000000 in
theorem kA {x0:List (List UInt8)} {x1:List (List UInt8)} {s1:SV} {hs2:List SV} {s5:SV} {hs6:List SV} {out:Bool} {w0:World} {Bf:World → Prop} {Lr:List Res} (I:Sh.gU x0 x1 = some out) (H:MemL w0 (Lr)) (S:∀ w,MemL w Lr → Bf w) (f3:LIn Bf s1 hs2) (q4:Each (LIn (X:=UInt8) Bf) hs2 x0) (f7:LIn Bf s5 hs6) (q8:Each (LIn (X:=UInt8) Bf) hs6 x1):Calls Tryz.prog 64 #[(s1).v,(s5).v] w0 (Ret fun v w'=>v = .bool out ∧ MemL w' (Lr)):=by
 unfold Sh.gU at I
 refine aR (vs:=[(s1).v,(s5).v]) Tryz.func64 E Tryz.ntmps64 E fun a G=>?_
 refine aG ?_
 refine aD ?_
 refine aA G (aH G E E) E E E fun a G=>?_
 refine aJ (aB ?_)
 refine aG ?_
 refine aG ?_
 refine aD ?_
 refine aA G (aF G E E) E E E fun a G=>?_
 refine aA G (cQ (f3 _ (S _ (dropM H 0))) q4.len qU28 G E E) E E E fun a G=>?_
 refine aA G (aF G E E) E E E fun a G=>?_
 refine aA G (cQ (f7 _ (S _ (dropM H 0))) q8.len qU28 G E E) E E E fun a G=>?_
 refine aA G (dD G E E E) E E E fun a G=>?_
 refine aJ (aB ?_)
 refine aT G (c:=.tmp 10) E (fun c0=>?_) (fun c0=>?_)
 ·have I:=Fx.cT c0 I
  refine aG ?_
  refine aD ?_
  refine aA G (aH G E E) E E E fun a G=>?_
  refine aJ (aB ?_)
  refine c_ret ?_
  have I:=oI I
  subst I
  refine bJ Tryz.results64 G E ?_
  exact ⟨E,H⟩
 have I:=Fx.cF c0 I
 refine aW (aB ?_)
 refine aG ?_
 refine aV G H I (fun F x a w=>match x with | _=>Fr 27 [(4,.bool false)] a ∧ MemL w (Lr)) (fun d9 I d5 G H=>?_) ?_
 ·refine aG ?_
  refine aD ?_
  refine aA G (aH G E E) E E E fun a G=>?_
  refine aJ (aB ?_)
  refine aU ?_
  refine bU G H I (fun F x a w=>match x with | c3=>Fr 27 [(5,.int .i64 c3),(0,(s1).v),(1,(s5).v),(4,.bool false)] a ∧ MemL w (Lr)) (fun G H=>⟨G.to ⟨E,E,E,E,trivial⟩,H⟩) ?_
  rintro c3 a w g0 I c4 ⟨G,H⟩
  replace I:Sh.dQ x0 x1 c3 = _:=I
  unfold Sh.dQ at I
  refine aG ?_
  refine aG ?_
  refine aD ?_
  refine aA G (aF G E E) E E E fun a G=>?_
  refine aA G (aF G E E) E E E fun a G=>?_
  refine aA G (cQ (f3 _ (S _ (dropM H 0))) q4.len qU28 G E E) E E E fun a G=>?_
  refine aA G (cK G E E E) E E E fun a G=>?_
  refine aJ (aB ?_)
  refine aT G (c:=.tmp 14) E (fun c1=>?_) (fun c1=>?_)
  ·have I:=Fx.cT c1 I
   refine aW (aB ?_)
   refine aG ?_
   refine aU ?_
   refine aG ?_
   refine bM mixed (by kernel_rfl) H [] 0 E fun K=>?_
   refine aK G K 0 E (by kernel_rfl) E E E (fun w H=>(aF G E E)) fun a G=>?_
   refine aK G K 1 E (by kernel_rfl) E E E (fun w H=>(aF G E E)) fun a G=>?_
   obtain ⟨g1,c5,I⟩:=bind_some I
   have c7:=aM c5
   obtain ⟨d7,d1,d3⟩:=Each.getr q4 c7.2
   have c9:=Each.bd q4 (bH c5)
   refine aK G K 2 E (by kernel_rfl) E E E (fun w H=>(aS (sz:=1) (f3 _ (S _ (dropM H 0))) qU28 in23 E G E E E c9)) fun a G=>?_
   refine aK G K 3 E (by kernel_rfl) E E E (fun w H=>(aI qA23 G E E ((((f3 _ (S _ (dropM H 0))).elemS d1)).get 0 E))) fun a G=>?_
   refine aK G K 4 E (by kernel_rfl) E E E (fun w H=>(aF G E E)) fun a G=>?_
   refine aK G K 5 E (by kernel_rfl) E E E (fun w H=>(aF G E E)) fun a G=>?_
   obtain ⟨g2,c6,I⟩:=bind_some I
   have c8:=aM c6
   obtain ⟨d8,d2,d4⟩:=Each.getr q8 c8.2
   have d0:=Each.bd q8 (bH c6)
   refine aK G K 6 E (by kernel_rfl) E E E (fun w H=>(aS (sz:=1) (f7 _ (S _ (dropM H 0))) qU28 in23 E G E E E d0)) fun a G=>?_
   refine aK G K 7 E (by kernel_rfl) E E E (fun w H=>(aI qA23 G E E ((((f7 _ (S _ (dropM H 0))).elemS d2)).get 0 E))) fun a G=>?_
   refine bF K 8 (by kernel_rfl) E E ?_
   refine bY G 8 E E E E E fun w hMs H=>?_
   obtain ⟨g3,d6,I⟩:=bind_some I
   refine (aO (xs:=[.tmp 20,.tmp 24]) qC43 G E E (dZ d6 H (Bf:=Bf) (fun w H=>S _ (dropM H 0)) d3 d4) fun v w hR=>?_)
   obtain ⟨rfl,H⟩:=hR
   replace H:MemL _ (Lr):=H
   have hMs:=selM H [] 0 rfl
   refine ⟨_,_,hMs,H,.inl fun _ h=>h,fun a G=>?_⟩
   refine aK G K 9 E (by kernel_rfl) E E E (fun w H=>(dF G E E)) fun a G=>?_
   refine bV K (by kernel_rfl) fun w H=>?_
   refine aB ?_
   refine aT G (c:=.tmp 26) E (fun c2=>?_) (fun c2=>?_)
   ·have I:=Fx.cT c2 I
    refine aG ?_
    refine aD ?_
    refine aA G (aH G E E) E E E fun a G=>?_
    refine aJ (aB ?_)
    refine c_ret ?_
    have I:=oI I
    subst I
    have I:=c4 _ rfl
    subst I
    have I:=dE d5
    subst I
    refine bJ Tryz.results64 G E ?_
    exact ⟨E,H⟩
   have I:=Fx.cF c2 I
   refine aW (bK (aB ?_))
   refine aD ?_
   refine aA G (aF G E E) E E E fun a G=>?_
   refine aA G (bW G E E E) E E E fun a G=>?_
   refine aA G (aH G E E) E E E fun a G=>?_
   refine aJ (aB ?_)
   have I:=oI I
   subst I
   exact ⟨(IntKind.i64.wrap (c3 + 1)),E,G.to ⟨E,E,E,E,trivial⟩,H⟩
  have I:=Fx.cF c1 I
  refine bX (bC (bC (cO ?_)))
  refine aB ?_
  have I:=oI I
  subst I
  have I:=c4 _ rfl
  subst I
  exact ⟨(),E,G.to ⟨E,trivial⟩,H⟩
 rintro ⟨⟩ a w I ⟨G,H⟩
 replace I:Sh.mU = _:=I
 unfold Sh.mU at I
 refine aB ?_
 refine aG ?_
 refine aD ?_
 refine aA G (aH G E E) E E E fun a G=>?_
 refine aJ (aB ?_)
 refine c_ret ?_
 have I:=oI I
 subst I
 refine bJ Tryz.results64 G E ?_
 exact ⟨E,H⟩
set_option maxHeartbeats 4000000 in
theorem nG {x0:QInput} {x1:QInput} {s1:SV} {s3:SV} {hs4:List SV} {s7:SV} {s9:SV} {hs10:List SV} {out:Bool} {w0:World} {Bf:World → Prop} {Lr:List Res} (I:Sh.hG x0 x1 = some out) (H:MemL w0 (Lr)) (S:∀ w,MemL w Lr → Bf w) (f2:LIn Bf s1 x0.ctx) (f5:LIn Bf s3 hs4) (q6:Each (LIn (X:=UInt8) Bf) hs4 x0.tables) (f8:LIn Bf s7 x1.ctx) (f11:LIn Bf s9 hs10) (q12:Each (LIn (X:=UInt8) Bf) hs10 x1.tables):Calls Tryz.prog 29 #[.agg (RInput.enc (RInput.mk s1 s3)).toArray,.agg (RInput.enc (RInput.mk s7 s9)).toArray] w0 (Ret fun v w'=>v = .bool out ∧ MemL w' (Lr)):=by
 unfold Sh.hG at I
 refine aR (vs:=[.agg (RInput.enc (RInput.mk s1 s3)).toArray,.agg (RInput.enc (RInput.mk s7 s9)).toArray]) Tryz.func29 E Tryz.ntmps29 E fun a G=>?_
 refine aG ?_
 refine aD ?_
 refine aN G E E E (dA G E E E fun c0 w c4 c2=>?_)
 have H:=H.plus c2
 intro a G
 refine aN G E E E (dA G E E E fun c1 w c5 c3=>?_)
 have H:=H.plus c3
 replace H:MemL _ (pt c1 (RInput.enc (RInput.mk s7 s9)) 30::pt c0 (RInput.enc (RInput.mk s1 s3)) 30::Lr):=H
 intro a G
 refine aA G (aH G E E) E E E fun a G=>?_
 refine aJ (aB ?_)
 refine aG ?_
 refine aV G H I (fun F x a w=>match x with | v39=>Fr 17 [(4,.bool v39)] a ∧ MemL w (Lr)) (fun c7 I c6 G H=>?_) ?_
 ·refine aD ?_
  refine aA G (aC (off':=0) qU30 E in23 E G E E E) E E E fun a G=>?_
  refine aA G (aI qA23 G E E (H.cell (i:=1) E (RInput.g_ctx _))) E E E fun a G=>?_
  refine aA G (aC (off':=0) qU30 E in23 E G E E E) E E E fun a G=>?_
  refine aA G (aI qA23 G E E (H.cell (i:=0) E (RInput.g_ctx _))) E E E fun a G=>?_
  obtain ⟨y41,hy41,I⟩:=bind_some I
  refine aN G E E E (aO (xs:=[.tmp 6,.tmp 8]) qC43 G E E (dZ hy41 H (Bf:=Bf) (fun w H=>S _ (dropM H 2)) f2 f8) fun v w hR=>?_)
  obtain ⟨rfl,H⟩:=hR
  replace H:MemL _ (pt c1 (RInput.enc (RInput.mk s7 s9)) 30::pt c0 (RInput.enc (RInput.mk s1 s3)) 30::Lr):=H
  intro a G
  refine aA G (aF G E E) E E E fun a G=>?_
  refine bG 10 G E (fun hb42=>?_) (fun hb42=>?_)
  ·have I:=Fx.cT hb42 I
   refine aL G E E E hb42 (aC (off':=1) qU30 E in28 E G E E E) E E fun a G=>?_
   refine aL G E E E hb42 (aI qA28 G E E (H.cell (i:=1) E (RInput.g_tables _))) E E fun a G=>?_
   refine aL G E E E hb42 (aC (off':=1) qU30 E in28 E G E E E) E E fun a G=>?_
   refine aL G E E E hb42 (aI qA28 G E E (H.cell (i:=0) E (RInput.g_tables _))) E E fun a G=>?_
   obtain ⟨y44,hy44,I⟩:=bind_some I
   refine dV G E E E hb42 E E (aO (xs:=[.tmp 12,.tmp 14]) Tryz.call64 G E E (kA hy44 H (Bf:=Bf) (fun w H=>S _ (dropM H 2)) f5 q6 f11 q12) fun v w hR=>?_)
   obtain ⟨rfl,H⟩:=hR
   replace H:MemL _ (pt c1 (RInput.enc (RInput.mk s7 s9)) 30::pt c0 (RInput.enc (RInput.mk s1 s3)) 30::Lr):=H
   intro a G
   refine aA G (aP G E E hb42 E) E E E fun a G=>?_
   refine aA G (aH G E E) E E E fun a G=>?_
   refine aJ (aB ?_)
   have I:=oI I
   subst I
   exact ⟨y44,E,G.to ⟨E,trivial⟩,selM H [] 2 E⟩
  have I:=Fx.cF hb42 I
  refine aE G E E E hb42 E E fun a G=>?_
  refine aE G E E E hb42 E E fun a G=>?_
  refine aE G E E E hb42 E E fun a G=>?_
  refine aE G E E E hb42 E E fun a G=>?_
  refine aE G E E E hb42 E E fun a G=>?_
  refine aA G (aZ G E E hb42 E) E E E fun a G=>?_
  refine aA G (aH G E E) E E E fun a G=>?_
  refine aJ (aB ?_)
  have I:=oI I
  subst I
  exact ⟨false,E,G.to ⟨E,trivial⟩,selM H [] 2 E⟩
 rintro v39 a w I ⟨G,H⟩
 replace I:Sh.gS v39 = _:=I
 unfold Sh.gS at I
 refine aB ?_
 refine c_ret ?_
 have I:=oI I
 subst I
 refine bJ Tryz.results29 G E ?_
 exact ⟨E,H⟩
set_option maxHeartbeats 4000000 in
theorem eJ {x0:QState} {x1:QState} {s1:SV} {s3:SV} {hs4:List SV} {s7:SV} {s9:SV} {s11:SV} {hs12:List SV} {s15:SV} {out:Bool} {w0:World} {Bf:World → Prop} {Lr:List Res} (I:Sh.bE x0 x1 = some out) (H:MemL w0 (Lr)) (S:∀ w,MemL w Lr → Bf w) (f2:LIn Bf s1 x0.ctx) (f5:LIn Bf s3 hs4) (q6:Each (LIn (X:=UInt8) Bf) hs4 x0.tables) (f8:LIn Bf s7 x0.sent) (f10:LIn Bf s9 x1.ctx) (f13:LIn Bf s11 hs12) (q14:Each (LIn (X:=UInt8) Bf) hs12 x1.tables) (f16:LIn Bf s15 x1.sent):Calls Tryz.prog 34 #[.agg (RState.enc (mSt x0 s1 s3 s7)).toArray,.agg (RState.enc (mSt x1 s9 s11 s15)).toArray] w0 (Ret fun v w'=>v = .bool out ∧ MemL w' (Lr)):=by
 unfold Sh.bE at I
 refine aR (vs:=[.agg (RState.enc (mSt x0 s1 s3 s7)).toArray,.agg (RState.enc (mSt x1 s9 s11 s15)).toArray]) Tryz.func34 E Tryz.ntmps34 E fun a G=>?_
 refine aG ?_
 refine aD ?_
 refine aN G E E E (dA G E E E fun c0 w c4 c2=>?_)
 have H:=H.plus c2
 intro a G
 refine aN G E E E (dA G E E E fun c1 w c5 c3=>?_)
 have H:=H.plus c3
 replace H:MemL _ (pt c1 (RState.enc (mSt x1 s9 s11 s15)) 54::pt c0 (RState.enc (mSt x0 s1 s3 s7)) 54::Lr):=H
 intro a G
 refine aA G (aH G E E) E E E fun a G=>?_
 refine aJ (aB ?_)
 refine aG ?_
 refine aV G H I (fun F x a w=>match x with | v83=>Fr 59 [(4,.bool v83)] a ∧ MemL w (Lr)) (fun c7 I c6 G H=>?_) ?_
 ·refine aD ?_
  refine aA G (aC (off':=0) qU54 E in47 E G E E E) E E E fun a G=>?_
  refine aA G (aQ Tryz.isAgg47 Tryz.sizeOf47 G E E (bS _) (H.cells (i:=1) E (RState.c_regs _))) E E E fun a G=>?_
  refine aA G (aC (off':=0) qU54 E in47 E G E E E) E E E fun a G=>?_
  refine aA G (aQ Tryz.isAgg47 Tryz.sizeOf47 G E E (bS _) (H.cells (i:=0) E (RState.c_regs _))) E E E fun a G=>?_
  refine aA G (jP Tryz.eqGuardType47 (aEv _ _ _ _ (by decide)) G E E E) E E E fun a G=>?_
  refine aA G (aF G E E) E E E fun a G=>?_
  refine bG 10 G E (fun hb84=>?_) (fun hb84=>?_)
  ·have I:=Fx.cT hb84 I
   refine aL G E E E hb84 (aC (off':=44) qU54 E in51 E G E E E) E E fun a G=>?_
   refine aL G E E E hb84 (aQ Tryz.isAgg51 Tryz.sizeOf51 G E E (bS _) (H.cells (i:=1) E (RState.c_stack _))) E E fun a G=>?_
   refine aL G E E E hb84 (aC (off':=44) qU54 E in51 E G E E E) E E fun a G=>?_
   refine aL G E E E hb84 (aQ Tryz.isAgg51 Tryz.sizeOf51 G E E (bS _) (H.cells (i:=0) E (RState.c_stack _))) E E fun a G=>?_
   refine aL G E E E hb84 (jP Tryz.eqGuardType51 (aEw _ _ _ _ (by decide)) G E E E) E E fun a G=>?_
   refine aA G (aP G E E hb84 E) E E E fun a G=>?_
   refine aA G (aF G E E) E E E fun a G=>?_
   refine bG 17 G E (fun hb85=>?_) (fun hb85=>?_)
   ·have I:=Fx.cT hb85 I
    refine aL G E E E hb85 (aC (off':=460) qU54 E in23 E G E E E) E E fun a G=>?_
    refine aL G E E E hb85 (aI qA23 G E E (H.cell (i:=1) E (RState.g_ctx _))) E E fun a G=>?_
    refine aL G E E E hb85 (aC (off':=460) qU54 E in23 E G E E E) E E fun a G=>?_
    refine aL G E E E hb85 (aI qA23 G E E (H.cell (i:=0) E (RState.g_ctx _))) E E fun a G=>?_
    obtain ⟨y87,hy87,I⟩:=bind_some I
    refine dV G E E E hb85 E E (aO (xs:=[.tmp 19,.tmp 21]) qC43 G E E (dZ hy87 H (Bf:=Bf) (fun w H=>S _ (dropM H 2)) f2 f10) fun v w hR=>?_)
    obtain ⟨rfl,H⟩:=hR
    replace H:MemL _ (pt c1 (RState.enc (mSt x1 s9 s11 s15)) 54::pt c0 (RState.enc (mSt x0 s1 s3 s7)) 54::Lr):=H
    intro a G
    refine aA G (aP G E E hb85 E) E E E fun a G=>?_
    refine aA G (aF G E E) E E E fun a G=>?_
    refine bG 24 G E (fun hb88=>?_) (fun hb88=>?_)
    ·have I:=Fx.cT hb88 I
     refine aL G E E E hb88 (aC (off':=461) qU54 E in28 E G E E E) E E fun a G=>?_
     refine aL G E E E hb88 (aI qA28 G E E (H.cell (i:=1) E (RState.g_tables _))) E E fun a G=>?_
     refine aL G E E E hb88 (aC (off':=461) qU54 E in28 E G E E E) E E fun a G=>?_
     refine aL G E E E hb88 (aI qA28 G E E (H.cell (i:=0) E (RState.g_tables _))) E E fun a G=>?_
     obtain ⟨y90,hy90,I⟩:=bind_some I
     refine dV G E E E hb88 E E (aO (xs:=[.tmp 26,.tmp 28]) Tryz.call64 G E E (kA hy90 H (Bf:=Bf) (fun w H=>S _ (dropM H 2)) f5 q6 f13 q14) fun v w hR=>?_)
     obtain ⟨rfl,H⟩:=hR
     replace H:MemL _ (pt c1 (RState.enc (mSt x1 s9 s11 s15)) 54::pt c0 (RState.enc (mSt x0 s1 s3 s7)) 54::Lr):=H
     intro a G
     refine aA G (aP G E E hb88 E) E E E fun a G=>?_
     refine aA G (aF G E E) E E E fun a G=>?_
     refine bG 31 G E (fun hb91=>?_) (fun hb91=>?_)
     ·have I:=Fx.cT hb91 I
      refine aL G E E E hb91 (aC (off':=462) qU54 E in52 E G E E E) E E fun a G=>?_
      refine aL G E E E hb91 (aI qA52 G E E (H.cell (i:=1) E (RState.g_sent _))) E E fun a G=>?_
      refine aL G E E E hb91 (aC (off':=462) qU54 E in52 E G E E E) E E fun a G=>?_
      refine aL G E E E hb91 (aI qA52 G E E (H.cell (i:=0) E (RState.g_sent _))) E E fun a G=>?_
      obtain ⟨y93,hy93,I⟩:=bind_some I
      refine dV G E E E hb91 E E (aO (xs:=[.tmp 33,.tmp 35]) Tryz.call89 G E E (jZ hy93 H (Bf:=Bf) (fun w H=>S _ (dropM H 2)) f8 f16) fun v w hR=>?_)
      obtain ⟨rfl,H⟩:=hR
      replace H:MemL _ (pt c1 (RState.enc (mSt x1 s9 s11 s15)) 54::pt c0 (RState.enc (mSt x0 s1 s3 s7)) 54::Lr):=H
      intro a G
      refine aA G (aP G E E hb91 E) E E E fun a G=>?_
      refine aA G (aF G E E) E E E fun a G=>?_
      refine bG 38 G E (fun hb94=>?_) (fun hb94=>?_)
      ·have I:=Fx.cT hb94 I
       refine aL G E E E hb94 (aC (off':=463) qU54 E in3 E G E E E) E E fun a G=>?_
       refine aL G E E E hb94 (aI qA3 G E E (H.cell (i:=1) E (RState.g_at_ _))) E E fun a G=>?_
       refine aL G E E E hb94 (aC (off':=463) qU54 E in3 E G E E E) E E fun a G=>?_
       refine aL G E E E hb94 (aI qA3 G E E (H.cell (i:=0) E (RState.g_at_ _))) E E fun a G=>?_
       refine aL G E E E hb94 (dG G E E E) E E fun a G=>?_
       refine aA G (aP G E E hb94 E) E E E fun a G=>?_
       refine aA G (aF G E E) E E E fun a G=>?_
       refine bG 45 G E (fun hb95=>?_) (fun hb95=>?_)
       ·have I:=Fx.cT hb95 I
        refine aL G E E E hb95 (aC (off':=464) qU54 E in3 E G E E E) E E fun a G=>?_
        refine aL G E E E hb95 (aI qA3 G E E (H.cell (i:=1) E (RState.g_steps _))) E E fun a G=>?_
        refine aL G E E E hb95 (aC (off':=464) qU54 E in3 E G E E E) E E fun a G=>?_
        refine aL G E E E hb95 (aI qA3 G E E (H.cell (i:=0) E (RState.g_steps _))) E E fun a G=>?_
        refine aL G E E E hb95 (dG G E E E) E E fun a G=>?_
        refine aA G (aP G E E hb95 E) E E E fun a G=>?_
        refine aA G (aF G E E) E E E fun a G=>?_
        refine bG 52 G E (fun hb96=>?_) (fun hb96=>?_)
        ·have I:=Fx.cT hb96 I
         refine aL G E E E hb96 (aC (off':=465) qU54 E in4 E G E E E) E E fun a G=>?_
         refine aL G E E E hb96 (aI qA4 G E E (H.cell (i:=1) E (RState.g_done _))) E E fun a G=>?_
         refine aL G E E E hb96 (aC (off':=465) qU54 E in4 E G E E E) E E fun a G=>?_
         refine aL G E E E hb96 (aI qA4 G E E (H.cell (i:=0) E (RState.g_done _))) E E fun a G=>?_
         refine aL G E E E hb96 (aJa Tryz.underlying4 G E E E) E E fun a G=>?_
         refine aA G (aP G E E hb96 E) E E E fun a G=>?_
         refine aA G (aH G E E) E E E fun a G=>?_
         refine aJ (aB ?_)
         have I:=oI I
         subst I
         exact ⟨(decide (x0.done = x1.done)),E,G.to ⟨E,trivial⟩,selM H [] 2 E⟩
        have I:=Fx.cF hb96 I
        refine aE G E E E hb96 E E fun a G=>?_
        refine aE G E E E hb96 E E fun a G=>?_
        refine aE G E E E hb96 E E fun a G=>?_
        refine aE G E E E hb96 E E fun a G=>?_
        refine aE G E E E hb96 E E fun a G=>?_
        refine aA G (aZ G E E hb96 E) E E E fun a G=>?_
        refine aA G (aH G E E) E E E fun a G=>?_
        refine aJ (aB ?_)
        have I:=oI I
        subst I
        exact ⟨false,E,G.to ⟨E,trivial⟩,selM H [] 2 E⟩
       have I:=Fx.cF hb95 I
       refine aE G E E E hb95 E E fun a G=>?_
       refine aE G E E E hb95 E E fun a G=>?_
       refine aE G E E E hb95 E E fun a G=>?_
       refine aE G E E E hb95 E E fun a G=>?_
       refine aE G E E E hb95 E E fun a G=>?_
       refine aA G (aZ G E E hb95 E) E E E fun a G=>?_
       refine aA G (aF G E E) E E E fun a G=>?_
       refine aE G E E E E E E fun a G=>?_
       refine aE G E E E E E E fun a G=>?_
       refine aE G E E E E E E fun a G=>?_
       refine aE G E E E E E E fun a G=>?_
       refine aE G E E E E E E fun a G=>?_
       refine aA G (aZ G E E E E) E E E fun a G=>?_
       refine aA G (aH G E E) E E E fun a G=>?_
       refine aJ (aB ?_)
       have I:=oI I
       subst I
       exact ⟨false,E,G.to ⟨E,trivial⟩,selM H [] 2 E⟩
      have I:=Fx.cF hb94 I
      refine aE G E E E hb94 E E fun a G=>?_
      refine aE G E E E hb94 E E fun a G=>?_
      refine aE G E E E hb94 E E fun a G=>?_
      refine aE G E E E hb94 E E fun a G=>?_
      refine aE G E E E hb94 E E fun a G=>?_
      refine aA G (aZ G E E hb94 E) E E E fun a G=>?_
      refine aA G (aF G E E) E E E fun a G=>?_
      refine aE G E E E E E E fun a G=>?_
      refine aE G E E E E E E fun a G=>?_
      refine aE G E E E E E E fun a G=>?_
      refine aE G E E E E E E fun a G=>?_
      refine aE G E E E E E E fun a G=>?_
      refine aA G (aZ G E E E E) E E E fun a G=>?_
      refine aA G (aF G E E) E E E fun a G=>?_
      refine aE G E E E E E E fun a G=>?_
      refine aE G E E E E E E fun a G=>?_
      refine aE G E E E E E E fun a G=>?_
      refine aE G E E E E E E fun a G=>?_
      refine aE G E E E E E E fun a G=>?_
      refine aA G (aZ G E E E E) E E E fun a G=>?_
      refine aA G (aH G E E) E E E fun a G=>?_
      refine aJ (aB ?_)
      have I:=oI I
      subst I
      exact ⟨false,E,G.to ⟨E,trivial⟩,selM H [] 2 E⟩
     have I:=Fx.cF hb91 I
     refine aE G E E E hb91 E E fun a G=>?_
     refine aE G E E E hb91 E E fun a G=>?_
     refine aE G E E E hb91 E E fun a G=>?_
     refine aE G E E E hb91 E E fun a G=>?_
     refine aE G E E E hb91 E E fun a G=>?_
     refine aA G (aZ G E E hb91 E) E E E fun a G=>?_
     refine aA G (aF G E E) E E E fun a G=>?_
     refine aE G E E E E E E fun a G=>?_
     refine aE G E E E E E E fun a G=>?_
     refine aE G E E E E E E fun a G=>?_
     refine aE G E E E E E E fun a G=>?_
     refine aE G E E E E E E fun a G=>?_
     refine aA G (aZ G E E E E) E E E fun a G=>?_
     refine aA G (aF G E E) E E E fun a G=>?_
     refine aE G E E E E E E fun a G=>?_
     refine aE G E E E E E E fun a G=>?_
     refine aE G E E E E E E fun a G=>?_
     refine aE G E E E E E E fun a G=>?_
     refine aE G E E E E E E fun a G=>?_
     refine aA G (aZ G E E E E) E E E fun a G=>?_
     refine aA G (aF G E E) E E E fun a G=>?_
     refine aE G E E E E E E fun a G=>?_
     refine aE G E E E E E E fun a G=>?_
     refine aE G E E E E E E fun a G=>?_
     refine aE G E E E E E E fun a G=>?_
     refine aE G E E E E E E fun a G=>?_
     refine aA G (aZ G E E E E) E E E fun a G=>?_
     refine aA G (aH G E E) E E E fun a G=>?_
     refine aJ (aB ?_)
     have I:=oI I
     subst I
     exact ⟨false,E,G.to ⟨E,trivial⟩,selM H [] 2 E⟩
    have I:=Fx.cF hb88 I
    refine aE G E E E hb88 E E fun a G=>?_
    refine aE G E E E hb88 E E fun a G=>?_
    refine aE G E E E hb88 E E fun a G=>?_
    refine aE G E E E hb88 E E fun a G=>?_
    refine aE G E E E hb88 E E fun a G=>?_
    refine aA G (aZ G E E hb88 E) E E E fun a G=>?_
    refine aA G (aF G E E) E E E fun a G=>?_
    refine aE G E E E E E E fun a G=>?_
    refine aE G E E E E E E fun a G=>?_
    refine aE G E E E E E E fun a G=>?_
    refine aE G E E E E E E fun a G=>?_
    refine aE G E E E E E E fun a G=>?_
    refine aA G (aZ G E E E E) E E E fun a G=>?_
    refine aA G (aF G E E) E E E fun a G=>?_
    refine aE G E E E E E E fun a G=>?_
    refine aE G E E E E E E fun a G=>?_
    refine aE G E E E E E E fun a G=>?_
    refine aE G E E E E E E fun a G=>?_
    refine aE G E E E E E E fun a G=>?_
    refine aA G (aZ G E E E E) E E E fun a G=>?_
    refine aA G (aF G E E) E E E fun a G=>?_
    refine aE G E E E E E E fun a G=>?_
    refine aE G E E E E E E fun a G=>?_
    refine aE G E E E E E E fun a G=>?_
    refine aE G E E E E E E fun a G=>?_
    refine aE G E E E E E E fun a G=>?_
    refine aA G (aZ G E E E E) E E E fun a G=>?_
    refine aA G (aF G E E) E E E fun a G=>?_
    refine aE G E E E E E E fun a G=>?_
    refine aE G E E E E E E fun a G=>?_
    refine aE G E E E E E E fun a G=>?_
    refine aE G E E E E E E fun a G=>?_
    refine aE G E E E E E E fun a G=>?_
    refine aA G (aZ G E E E E) E E E fun a G=>?_
    refine aA G (aH G E E) E E E fun a G=>?_
    refine aJ (aB ?_)
    have I:=oI I
    subst I
    exact ⟨false,E,G.to ⟨E,trivial⟩,selM H [] 2 E⟩
   have I:=Fx.cF hb85 I
   refine aE G E E E hb85 E E fun a G=>?_
   refine aE G E E E hb85 E E fun a G=>?_
   refine aE G E E E hb85 E E fun a G=>?_
   refine aE G E E E hb85 E E fun a G=>?_
   refine aE G E E E hb85 E E fun a G=>?_
   refine aA G (aZ G E E hb85 E) E E E fun a G=>?_
   refine aA G (aF G E E) E E E fun a G=>?_
   refine aE G E E E E E E fun a G=>?_
   refine aE G E E E E E E fun a G=>?_
   refine aE G E E E E E E fun a G=>?_
   refine aE G E E E E E E fun a G=>?_
   refine aE G E E E E E E fun a G=>?_
   refine aA G (aZ G E E E E) E E E fun a G=>?_
   refine aA G (aF G E E) E E E fun a G=>?_
   refine aE G E E E E E E fun a G=>?_
   refine aE G E E E E E E fun a G=>?_
   refine aE G E E E E E E fun a G=>?_
   refine aE G E E E E E E fun a G=>?_
   refine aE G E E E E E E fun a G=>?_
   refine aA G (aZ G E E E E) E E E fun a G=>?_
   refine aA G (aF G E E) E E E fun a G=>?_
   refine aE G E E E E E E fun a G=>?_
   refine aE G E E E E E E fun a G=>?_
   refine aE G E E E E E E fun a G=>?_
   refine aE G E E E E E E fun a G=>?_
   refine aE G E E E E E E fun a G=>?_
   refine aA G (aZ G E E E E) E E E fun a G=>?_
   refine aA G (aF G E E) E E E fun a G=>?_
   refine aE G E E E E E E fun a G=>?_
   refine aE G E E E E E E fun a G=>?_
   refine aE G E E E E E E fun a G=>?_
   refine aE G E E E E E E fun a G=>?_
   refine aE G E E E E E E fun a G=>?_
   refine aA G (aZ G E E E E) E E E fun a G=>?_
   refine aA G (aF G E E) E E E fun a G=>?_
   refine aE G E E E E E E fun a G=>?_
   refine aE G E E E E E E fun a G=>?_
   refine aE G E E E E E E fun a G=>?_
   refine aE G E E E E E E fun a G=>?_
   refine aE G E E E E E E fun a G=>?_
   refine aA G (aZ G E E E E) E E E fun a G=>?_
   refine aA G (aH G E E) E E E fun a G=>?_
   refine aJ (aB ?_)
   have I:=oI I
   subst I
   exact ⟨false,E,G.to ⟨E,trivial⟩,selM H [] 2 E⟩
  have I:=Fx.cF hb84 I
  refine aE G E E E hb84 E E fun a G=>?_
  refine aE G E E E hb84 E E fun a G=>?_
  refine aE G E E E hb84 E E fun a G=>?_
  refine aE G E E E hb84 E E fun a G=>?_
  refine aE G E E E hb84 E E fun a G=>?_
  refine aA G (aZ G E E hb84 E) E E E fun a G=>?_
  refine aA G (aF G E E) E E E fun a G=>?_
  refine aE G E E E E E E fun a G=>?_
  refine aE G E E E E E E fun a G=>?_
  refine aE G E E E E E E fun a G=>?_
  refine aE G E E E E E E fun a G=>?_
  refine aE G E E E E E E fun a G=>?_
  refine aA G (aZ G E E E E) E E E fun a G=>?_
  refine aA G (aF G E E) E E E fun a G=>?_
  refine aE G E E E E E E fun a G=>?_
  refine aE G E E E E E E fun a G=>?_
  refine aE G E E E E E E fun a G=>?_
  refine aE G E E E E E E fun a G=>?_
  refine aE G E E E E E E fun a G=>?_
  refine aA G (aZ G E E E E) E E E fun a G=>?_
  refine aA G (aF G E E) E E E fun a G=>?_
  refine aE G E E E E E E fun a G=>?_
  refine aE G E E E E E E fun a G=>?_
  refine aE G E E E E E E fun a G=>?_
  refine aE G E E E E E E fun a G=>?_
  refine aE G E E E E E E fun a G=>?_
  refine aA G (aZ G E E E E) E E E fun a G=>?_
  refine aA G (aF G E E) E E E fun a G=>?_
  refine aE G E E E E E E fun a G=>?_
  refine aE G E E E E E E fun a G=>?_
  refine aE G E E E E E E fun a G=>?_
  refine aE G E E E E E E fun a G=>?_
  refine aE G E E E E E E fun a G=>?_
  refine aA G (aZ G E E E E) E E E fun a G=>?_
  refine aA G (aF G E E) E E E fun a G=>?_
  refine aE G E E E E E E fun a G=>?_
  refine aE G E E E E E E fun a G=>?_
  refine aE G E E E E E E fun a G=>?_
  refine aE G E E E E E E fun a G=>?_
  refine aE G E E E E E E fun a G=>?_
  refine aA G (aZ G E E E E) E E E fun a G=>?_
  refine aA G (aF G E E) E E E fun a G=>?_
  refine aE G E E E E E E fun a G=>?_
  refine aE G E E E E E E fun a G=>?_
  refine aE G E E E E E E fun a G=>?_
  refine aE G E E E E E E fun a G=>?_
  refine aE G E E E E E E fun a G=>?_
  refine aA G (aZ G E E E E) E E E fun a G=>?_
  refine aA G (aH G E E) E E E fun a G=>?_
  refine aJ (aB ?_)
  have I:=oI I
  subst I
  exact ⟨false,E,G.to ⟨E,trivial⟩,selM H [] 2 E⟩
 rintro v83 a w I ⟨G,H⟩
 replace I:Sh.mG v83 = _:=I
 unfold Sh.mG at I
 refine aB ?_
 refine c_ret ?_
 have I:=oI I
 subst I
 refine bJ Tryz.results34 G E ?_
 exact ⟨E,H⟩
set_option maxHeartbeats 4000000 in
theorem eE {x0:QMark} {x1:QMark} {s1:SV} {s3:SV} {s5:SV} {hs6:List RPiece} {s9:SV} {s11:SV} {s13:SV} {s15:SV} {hs16:List RPiece} {s19:SV} {out:Bool} {w0:World} {Bf:World → Prop} {Lr:List Res} (I:Sh.cK x0 x1 = some out) (H:MemL w0 (Lr)) (S:∀ w,MemL w Lr → Bf w) (f2:LIn Bf s1 x0.regs) (f4:LIn Bf s3 x0.slots) (f7:LIn Bf s5 hs6) (q8:Each (QPieceIn Bf) hs6 x0.pieces) (f10:LIn Bf s9 x0.sent) (f12:LIn Bf s11 x1.regs) (f14:LIn Bf s13 x1.slots) (f17:LIn Bf s15 hs16) (q18:Each (QPieceIn Bf) hs16 x1.pieces) (f20:LIn Bf s19 x1.sent):Calls Tryz.prog 33 #[.agg (RMark.enc (mMk x0 s1 s3 s5 s9)).toArray,.agg (RMark.enc (mMk x1 s11 s13 s15 s19)).toArray] w0 (Ret fun v w'=>v = .bool out ∧ MemL w' (Lr)):=by
 unfold Sh.cK at I
 refine aR (vs:=[.agg (RMark.enc (mMk x0 s1 s3 s5 s9)).toArray,.agg (RMark.enc (mMk x1 s11 s13 s15 s19)).toArray]) Tryz.func33 E Tryz.ntmps33 E fun a G=>?_
 refine aG ?_
 refine aD ?_
 refine aN G E E E (dA G E E E fun c0 w m0 j6=>?_)
 have H:=H.plus j6
 intro a G
 refine aN G E E E (dA G E E E fun c1 w m1 j7=>?_)
 have H:=H.plus j7
 replace H:MemL _ (pt c1 (RMark.enc (mMk x1 s11 s13 s15 s19)) 60::pt c0 (RMark.enc (mMk x0 s1 s3 s5 s9)) 60::Lr):=H
 intro a G
 refine aA G (aH G E E) E E E fun a G=>?_
 refine aJ (aB ?_)
 refine aG ?_
 refine aG ?_
 refine aV G H I (fun F x a w=>match x with | i6=>Fr 145 [(63,.bool i6),(2,.pointer (some ⟨c0,0,none⟩)),(3,.pointer (some ⟨c1,0,none⟩)),(4,.bool false)] a ∧ MemL w (pt c1 (RMark.enc (mMk x1 s11 s13 s15 s19)) 60::pt c0 (RMark.enc (mMk x0 s1 s3 s5 s9)) 60::Lr)) (fun n3 I m6 G H=>?_) ?_
 ·refine aD ?_
  refine aA G (aC (off':=0) qU60 E in3 E G E E E) E E E fun a G=>?_
  refine aA G (aI qA3 G E E (H.cell (i:=1) E (RMark.g_at_ _))) E E E fun a G=>?_
  refine aA G (aC (off':=0) qU60 E in3 E G E E E) E E E fun a G=>?_
  refine aA G (aI qA3 G E E (H.cell (i:=0) E (RMark.g_at_ _))) E E E fun a G=>?_
  refine aA G (dD G E E E) E E E fun a G=>?_
  refine aA G (aF G E E) E E E fun a G=>?_
  refine bG 15 G E (fun c9=>?_) (fun c9=>?_)
  ·have I:=Fx.cT c9 I
   refine aE G E E E c9 E E fun a G=>?_
   refine aE G E E E c9 E E fun a G=>?_
   refine aE G E E E c9 E E fun a G=>?_
   refine aE G E E E c9 E E fun a G=>?_
   refine aE G E E E c9 E E fun a G=>?_
   refine aA G (aP G E E c9 E) E E E fun a G=>?_
   refine aA G (aF G E E) E E E fun a G=>?_
   refine aE G E E E E E E fun a G=>?_
   refine aE G E E E E E E fun a G=>?_
   refine aE G E E E E E E fun a G=>?_
   refine aE G E E E E E E fun a G=>?_
   refine aE G E E E E E E fun a G=>?_
   refine aA G (aP G E E E E) E E E fun a G=>?_
   refine aA G (aF G E E) E E E fun a G=>?_
   refine aE G E E E E E E fun a G=>?_
   refine aE G E E E E E E fun a G=>?_
   refine aE G E E E E E E fun a G=>?_
   refine aE G E E E E E E fun a G=>?_
   refine aE G E E E E E E fun a G=>?_
   refine aE G E E E E E E fun a G=>?_
   refine aE G E E E E E E fun a G=>?_
   refine aA G (aP G E E E E) E E E fun a G=>?_
   refine aA G (aF G E E) E E E fun a G=>?_
   refine aE G E E E E E E fun a G=>?_
   refine aE G E E E E E E fun a G=>?_
   refine aE G E E E E E E fun a G=>?_
   refine aE G E E E E E E fun a G=>?_
   refine aE G E E E E E E fun a G=>?_
   refine aE G E E E E E E fun a G=>?_
   refine aE G E E E E E E fun a G=>?_
   refine aA G (aP G E E E E) E E E fun a G=>?_
   refine aA G (aF G E E) E E E fun a G=>?_
   refine aE G E E E E E E fun a G=>?_
   refine aE G E E E E E E fun a G=>?_
   refine aE G E E E E E E fun a G=>?_
   refine aE G E E E E E E fun a G=>?_
   refine aE G E E E E E E fun a G=>?_
   refine aE G E E E E E E fun a G=>?_
   refine aE G E E E E E E fun a G=>?_
   refine aA G (aP G E E E E) E E E fun a G=>?_
   refine aA G (aF G E E) E E E fun a G=>?_
   refine aE G E E E E E E fun a G=>?_
   refine aE G E E E E E E fun a G=>?_
   refine aE G E E E E E E fun a G=>?_
   refine aE G E E E E E E fun a G=>?_
   refine aE G E E E E E E fun a G=>?_
   refine aE G E E E E E E fun a G=>?_
   refine aA G (aP G E E E E) E E E fun a G=>?_
   refine aJ (aB ?_)
   have I:=oI I
   subst I
   exact ⟨true,E,G.to ⟨E,E,E,E,trivial⟩,H⟩
  have I:=Fx.cF c9 I
  refine aL G E E E c9 (aC (off':=1) qU60 E in3 E G E E E) E E fun a G=>?_
  refine aL G E E E c9 (aI qA3 G E E (H.cell (i:=1) E (RMark.g_next _))) E E fun a G=>?_
  refine aL G E E E c9 (aC (off':=1) qU60 E in3 E G E E E) E E fun a G=>?_
  refine aL G E E E c9 (aI qA3 G E E (H.cell (i:=0) E (RMark.g_next _))) E E fun a G=>?_
  refine aL G E E E c9 (dD G E E E) E E fun a G=>?_
  refine aA G (aZ G E E c9 E) E E E fun a G=>?_
  refine aA G (aF G E E) E E E fun a G=>?_
  refine bG 22 G E (fun d0=>?_) (fun d0=>?_)
  ·have I:=Fx.cT d0 I
   refine aE G E E E d0 E E fun a G=>?_
   refine aE G E E E d0 E E fun a G=>?_
   refine aE G E E E d0 E E fun a G=>?_
   refine aE G E E E d0 E E fun a G=>?_
   refine aE G E E E d0 E E fun a G=>?_
   refine aA G (aP G E E d0 E) E E E fun a G=>?_
   refine aA G (aF G E E) E E E fun a G=>?_
   refine aE G E E E E E E fun a G=>?_
   refine aE G E E E E E E fun a G=>?_
   refine aE G E E E E E E fun a G=>?_
   refine aE G E E E E E E fun a G=>?_
   refine aE G E E E E E E fun a G=>?_
   refine aE G E E E E E E fun a G=>?_
   refine aE G E E E E E E fun a G=>?_
   refine aA G (aP G E E E E) E E E fun a G=>?_
   refine aA G (aF G E E) E E E fun a G=>?_
   refine aE G E E E E E E fun a G=>?_
   refine aE G E E E E E E fun a G=>?_
   refine aE G E E E E E E fun a G=>?_
   refine aE G E E E E E E fun a G=>?_
   refine aE G E E E E E E fun a G=>?_
   refine aE G E E E E E E fun a G=>?_
   refine aE G E E E E E E fun a G=>?_
   refine aA G (aP G E E E E) E E E fun a G=>?_
   refine aA G (aF G E E) E E E fun a G=>?_
   refine aE G E E E E E E fun a G=>?_
   refine aE G E E E E E E fun a G=>?_
   refine aE G E E E E E E fun a G=>?_
   refine aE G E E E E E E fun a G=>?_
   refine aE G E E E E E E fun a G=>?_
   refine aE G E E E E E E fun a G=>?_
   refine aE G E E E E E E fun a G=>?_
   refine aA G (aP G E E E E) E E E fun a G=>?_
   refine aA G (aF G E E) E E E fun a G=>?_
   refine aE G E E E E E E fun a G=>?_
   refine aE G E E E E E E fun a G=>?_
   refine aE G E E E E E E fun a G=>?_
   refine aE G E E E E E E fun a G=>?_
   refine aE G E E E E E E fun a G=>?_
   refine aE G E E E E E E fun a G=>?_
   refine aA G (aP G E E E E) E E E fun a G=>?_
   refine aJ (aB ?_)
   have I:=oI I
   subst I
   exact ⟨true,E,G.to ⟨E,E,E,E,trivial⟩,H⟩
  have I:=Fx.cF d0 I
  refine aL G E E E d0 (aC (off':=2) qU60 E in4 E G E E E) E E fun a G=>?_
  refine aL G E E E d0 (aI qA4 G E E (H.cell (i:=1) E (RMark.g_done _))) E E fun a G=>?_
  refine aL G E E E d0 (aC (off':=2) qU60 E in4 E G E E E) E E fun a G=>?_
  refine aL G E E E d0 (aI qA4 G E E (H.cell (i:=0) E (RMark.g_done _))) E E fun a G=>?_
  refine aL G E E E d0 (aBi Tryz.underlying4 G E E E) E E fun a G=>?_
  refine aA G (aZ G E E d0 E) E E E fun a G=>?_
  refine aA G (aF G E E) E E E fun a G=>?_
  refine bG 29 G E (fun c2=>?_) (fun c2=>?_)
  ·have I:=Fx.cT c2 I
   refine aE G E E E c2 E E fun a G=>?_
   refine aE G E E E c2 E E fun a G=>?_
   refine aE G E E E c2 E E fun a G=>?_
   refine aE G E E E c2 E E fun a G=>?_
   refine aE G E E E c2 E E fun a G=>?_
   refine aE G E E E c2 E E fun a G=>?_
   refine aE G E E E c2 E E fun a G=>?_
   refine aA G (aP G E E c2 E) E E E fun a G=>?_
   refine aA G (aF G E E) E E E fun a G=>?_
   refine aE G E E E E E E fun a G=>?_
   refine aE G E E E E E E fun a G=>?_
   refine aE G E E E E E E fun a G=>?_
   refine aE G E E E E E E fun a G=>?_
   refine aE G E E E E E E fun a G=>?_
   refine aE G E E E E E E fun a G=>?_
   refine aE G E E E E E E fun a G=>?_
   refine aA G (aP G E E E E) E E E fun a G=>?_
   refine aA G (aF G E E) E E E fun a G=>?_
   refine aE G E E E E E E fun a G=>?_
   refine aE G E E E E E E fun a G=>?_
   refine aE G E E E E E E fun a G=>?_
   refine aE G E E E E E E fun a G=>?_
   refine aE G E E E E E E fun a G=>?_
   refine aE G E E E E E E fun a G=>?_
   refine aE G E E E E E E fun a G=>?_
   refine aA G (aP G E E E E) E E E fun a G=>?_
   refine aA G (aF G E E) E E E fun a G=>?_
   refine aE G E E E E E E fun a G=>?_
   refine aE G E E E E E E fun a G=>?_
   refine aE G E E E E E E fun a G=>?_
   refine aE G E E E E E E fun a G=>?_
   refine aE G E E E E E E fun a G=>?_
   refine aE G E E E E E E fun a G=>?_
   refine aA G (aP G E E E E) E E E fun a G=>?_
   refine aJ (aB ?_)
   have I:=oI I
   subst I
   exact ⟨true,E,G.to ⟨E,E,E,E,trivial⟩,H⟩
  have I:=Fx.cF c2 I
  refine aL G E E E c2 (aC (off':=3) qU60 E in56 E G E E E) E E fun a G=>?_
  refine aL G E E E c2 (aI qA56 G E E (H.cell (i:=1) E (RMark.g_regs _))) E E fun a G=>?_
  refine aL G E E E c2 (bQ (f2 _ (S _ (dropM H 2))) qU56 G E E) E E fun a G=>?_
  refine aL G E E E c2 (aC (off':=3) qU60 E in56 E G E E E) E E fun a G=>?_
  refine aL G E E E c2 (aI qA56 G E E (H.cell (i:=0) E (RMark.g_regs _))) E E fun a G=>?_
  refine aL G E E E c2 (bQ (f12 _ (S _ (dropM H 2))) qU56 G E E) E E fun a G=>?_
  refine aL G E E E c2 (dD G E E E) E E fun a G=>?_
  refine aA G (aZ G E E c2 E) E E E fun a G=>?_
  refine aA G (aF G E E) E E E fun a G=>?_
  refine bG 38 G E (fun c3=>?_) (fun c3=>?_)
  ·have I:=Fx.cT c3 I
   refine aE G E E E c3 E E fun a G=>?_
   refine aE G E E E c3 E E fun a G=>?_
   refine aE G E E E c3 E E fun a G=>?_
   refine aE G E E E c3 E E fun a G=>?_
   refine aE G E E E c3 E E fun a G=>?_
   refine aE G E E E c3 E E fun a G=>?_
   refine aE G E E E c3 E E fun a G=>?_
   refine aA G (aP G E E c3 E) E E E fun a G=>?_
   refine aA G (aF G E E) E E E fun a G=>?_
   refine aE G E E E E E E fun a G=>?_
   refine aE G E E E E E E fun a G=>?_
   refine aE G E E E E E E fun a G=>?_
   refine aE G E E E E E E fun a G=>?_
   refine aE G E E E E E E fun a G=>?_
   refine aE G E E E E E E fun a G=>?_
   refine aE G E E E E E E fun a G=>?_
   refine aA G (aP G E E E E) E E E fun a G=>?_
   refine aA G (aF G E E) E E E fun a G=>?_
   refine aE G E E E E E E fun a G=>?_
   refine aE G E E E E E E fun a G=>?_
   refine aE G E E E E E E fun a G=>?_
   refine aE G E E E E E E fun a G=>?_
   refine aE G E E E E E E fun a G=>?_
   refine aE G E E E E E E fun a G=>?_
   refine aA G (aP G E E E E) E E E fun a G=>?_
   refine aJ (aB ?_)
   have I:=oI I
   subst I
   exact ⟨true,E,G.to ⟨E,E,E,E,trivial⟩,H⟩
  have I:=Fx.cF c3 I
  refine aL G E E E c3 (aC (off':=4) qU60 E in57 E G E E E) E E fun a G=>?_
  refine aL G E E E c3 (aI qA57 G E E (H.cell (i:=1) E (RMark.g_slots _))) E E fun a G=>?_
  refine aL G E E E c3 (bQ (f4 _ (S _ (dropM H 2))) qU57 G E E) E E fun a G=>?_
  refine aL G E E E c3 (aC (off':=4) qU60 E in57 E G E E E) E E fun a G=>?_
  refine aL G E E E c3 (aI qA57 G E E (H.cell (i:=0) E (RMark.g_slots _))) E E fun a G=>?_
  refine aL G E E E c3 (bQ (f14 _ (S _ (dropM H 2))) qU57 G E E) E E fun a G=>?_
  refine aL G E E E c3 (dD G E E E) E E fun a G=>?_
  refine aA G (aZ G E E c3 E) E E E fun a G=>?_
  refine aA G (aF G E E) E E E fun a G=>?_
  refine bG 47 G E (fun c4=>?_) (fun c4=>?_)
  ·have I:=Fx.cT c4 I
   refine aE G E E E c4 E E fun a G=>?_
   refine aE G E E E c4 E E fun a G=>?_
   refine aE G E E E c4 E E fun a G=>?_
   refine aE G E E E c4 E E fun a G=>?_
   refine aE G E E E c4 E E fun a G=>?_
   refine aE G E E E c4 E E fun a G=>?_
   refine aE G E E E c4 E E fun a G=>?_
   refine aA G (aP G E E c4 E) E E E fun a G=>?_
   refine aA G (aF G E E) E E E fun a G=>?_
   refine aE G E E E E E E fun a G=>?_
   refine aE G E E E E E E fun a G=>?_
   refine aE G E E E E E E fun a G=>?_
   refine aE G E E E E E E fun a G=>?_
   refine aE G E E E E E E fun a G=>?_
   refine aE G E E E E E E fun a G=>?_
   refine aA G (aP G E E E E) E E E fun a G=>?_
   refine aJ (aB ?_)
   have I:=oI I
   subst I
   exact ⟨true,E,G.to ⟨E,E,E,E,trivial⟩,H⟩
  have I:=Fx.cF c4 I
  refine aL G E E E c4 (aC (off':=5) qU60 E in58 E G E E E) E E fun a G=>?_
  refine aL G E E E c4 (aI qA58 G E E (H.cell (i:=1) E (RMark.g_pieces _))) E E fun a G=>?_
  refine aL G E E E c4 (cQ (f7 _ (S _ (dropM H 2))) q8.len qU58 G E E) E E fun a G=>?_
  refine aL G E E E c4 (aC (off':=5) qU60 E in58 E G E E E) E E fun a G=>?_
  refine aL G E E E c4 (aI qA58 G E E (H.cell (i:=0) E (RMark.g_pieces _))) E E fun a G=>?_
  refine aL G E E E c4 (cQ (f17 _ (S _ (dropM H 2))) q18.len qU58 G E E) E E fun a G=>?_
  refine aL G E E E c4 (dD G E E E) E E fun a G=>?_
  refine aA G (aZ G E E c4 E) E E E fun a G=>?_
  refine aA G (aF G E E) E E E fun a G=>?_
  refine bG 56 G E (fun c5=>?_) (fun c5=>?_)
  ·have I:=Fx.cT c5 I
   refine aE G E E E c5 E E fun a G=>?_
   refine aE G E E E c5 E E fun a G=>?_
   refine aE G E E E c5 E E fun a G=>?_
   refine aE G E E E c5 E E fun a G=>?_
   refine aE G E E E c5 E E fun a G=>?_
   refine aE G E E E c5 E E fun a G=>?_
   refine aA G (aP G E E c5 E) E E E fun a G=>?_
   refine aJ (aB ?_)
   have I:=oI I
   subst I
   exact ⟨true,E,G.to ⟨E,E,E,E,trivial⟩,H⟩
  have I:=Fx.cF c5 I
  refine aL G E E E c5 (aC (off':=6) qU60 E in52 E G E E E) E E fun a G=>?_
  refine aL G E E E c5 (aI qA52 G E E (H.cell (i:=1) E (RMark.g_sent _))) E E fun a G=>?_
  refine aL G E E E c5 (aC (off':=6) qU60 E in52 E G E E E) E E fun a G=>?_
  refine aL G E E E c5 (aI qA52 G E E (H.cell (i:=0) E (RMark.g_sent _))) E E fun a G=>?_
  obtain ⟨l8,k8,I⟩:=bind_some I
  refine dV G E E E c5 E E (aO (xs:=[.tmp 58,.tmp 60]) Tryz.call89 G E E (jZ k8 H (Bf:=Bf) (fun w H=>S _ (dropM H 2)) f10 f20) fun v w hR=>?_)
  obtain ⟨rfl,H⟩:=hR
  replace H:MemL _ (pt c1 (RMark.enc (mMk x1 s11 s13 s15 s19)) 60::pt c0 (RMark.enc (mMk x0 s1 s3 s5 s9)) 60::Lr):=H
  intro a G
  refine aL G E E E c5 (dF G E E) E E fun a G=>?_
  refine aA G (aZ G E E c5 E) E E E fun a G=>?_
  refine aJ (aB ?_)
  have I:=oI I
  subst I
  exact ⟨(!l8),E,G.to ⟨E,E,E,E,trivial⟩,H⟩
 rintro i6 a w I ⟨G,H⟩
 replace I:Sh.bH x0 x1 i6 = _:=I
 unfold Sh.bH at I
 refine aB ?_
 refine aT G (c:=.tmp 63) E (fun g0=>?_) (fun g0=>?_)
 ·have I:=Fx.cT g0 I
  refine aG ?_
  refine aD ?_
  refine aA G (aH G E E) E E E fun a G=>?_
  refine aJ (aB ?_)
  refine c_ret ?_
  have I:=oI I
  subst I
  refine bJ qR33 G E ?_
  exact ⟨E,selM H [] 2 E⟩
 have I:=Fx.cF g0 I
 refine aW (aB ?_)
 refine aG ?_
 refine aV G H I (fun F x a w=>match x with | _=>Fr 145 [(2,.pointer (some ⟨c0,0,none⟩)),(3,.pointer (some ⟨c1,0,none⟩)),(4,.bool false)] a ∧ MemL w (pt c1 (RMark.enc (mMk x1 s11 s13 s15 s19)) 60::pt c0 (RMark.enc (mMk x0 s1 s3 s5 s9)) 60::Lr)) (fun n4 I l5 G H=>?_) ?_
 ·refine aG ?_
  refine aD ?_
  refine aA G (aH G E E) E E E fun a G=>?_
  refine aJ (aB ?_)
  refine aU ?_
  refine bU G H I (fun F x a w=>match x with | d8=>Fr 145 [(5,.int .i64 d8),(2,.pointer (some ⟨c0,0,none⟩)),(3,.pointer (some ⟨c1,0,none⟩)),(4,.bool false)] a ∧ MemL w (pt c1 (RMark.enc (mMk x1 s11 s13 s15 s19)) 60::pt c0 (RMark.enc (mMk x0 s1 s3 s5 s9)) 60::Lr)) (fun G H=>⟨G.to ⟨E,E,E,E,trivial⟩,H⟩) ?_
  rintro d8 a w n8 I i7 ⟨G,H⟩
  replace I:Sh.dS x0 x1 d8 = _:=I
  unfold Sh.dS at I
  refine aG ?_
  refine aG ?_
  refine aD ?_
  refine aA G (aF G E E) E E E fun a G=>?_
  refine aA G (aC (off':=3) qU60 E in56 E G E E E) E E E fun a G=>?_
  refine aA G (aI qA56 G E E (H.cell (i:=1) E (RMark.g_regs _))) E E E fun a G=>?_
  refine aA G (bQ (f2 _ (S _ (dropM H 2))) qU56 G E E) E E E fun a G=>?_
  refine aA G (cK G E E E) E E E fun a G=>?_
  refine aJ (aB ?_)
  refine aT G (c:=.tmp 68) E (fun g1=>?_) (fun g1=>?_)
  ·have I:=Fx.cT g1 I
   refine aW (aB ?_)
   refine aG ?_
   refine aU ?_
   refine aG ?_
   refine bM mixed (by kernel_rfl) H [0,1] 2 E fun K=>?_
   refine aK G K 0 E (by kernel_rfl) E E E (fun w H=>(aC (off':=3) qU60 E in56 E G E E E)) fun a G=>?_
   refine aK G K 1 E (by kernel_rfl) E E E (fun w H=>(aI qA56 G E E (H.cell (i:=1) E (RMark.g_regs _)))) fun a G=>?_
   refine aK G K 2 E (by kernel_rfl) E E E (fun w H=>(aF G E E)) fun a G=>?_
   obtain ⟨m8,i0,I⟩:=bind_some I
   have j0:=aM i0
   refine aK G K 3 E (by kernel_rfl) E E E (fun w H=>(aS (sz:=9) (f2 _ (S _ (dropM H 2))) qU56 in128 E G E E E (bH i0))) fun a G=>?_
   refine aK G K 4 E (by kernel_rfl) E E E (fun w H=>(aQ qA128 qS128 G E E (LTurn.len _) (((f2 _ (S _ (dropM H 2))).elemS j0.2)))) fun a G=>?_
   refine aK G K 5 E (by kernel_rfl) E E E (fun w H=>(aC (off':=3) qU60 E in56 E G E E E)) fun a G=>?_
   refine aK G K 6 E (by kernel_rfl) E E E (fun w H=>(aI qA56 G E E (H.cell (i:=0) E (RMark.g_regs _)))) fun a G=>?_
   refine aK G K 7 E (by kernel_rfl) E E E (fun w H=>(aF G E E)) fun a G=>?_
   obtain ⟨m9,i1,I⟩:=bind_some I
   have j1:=aM i1
   refine aK G K 8 E (by kernel_rfl) E E E (fun w H=>(aS (sz:=9) (f12 _ (S _ (dropM H 2))) qU56 in128 E G E E E (bH i1))) fun a G=>?_
   refine aK G K 9 E (by kernel_rfl) E E E (fun w H=>(aQ qA128 qS128 G E E (LTurn.len _) (((f12 _ (S _ (dropM H 2))).elemS j1.2)))) fun a G=>?_
   refine aK G K 10 E (by kernel_rfl) E E E (fun w H=>(jQ Tryz.eqGuardType128 (aEu _ _ _ _ (by decide)) G E E E)) fun a G=>?_
   refine bV K (by kernel_rfl) fun w H=>?_
   refine aB ?_
   refine aT G (c:=.tmp 81) E (fun g2=>?_) (fun g2=>?_)
   ·have I:=Fx.cT g2 I
    refine aG ?_
    refine aD ?_
    refine aA G (aH G E E) E E E fun a G=>?_
    refine aJ (aB ?_)
    refine c_ret ?_
    have I:=oI I
    subst I
    have I:=i7 _ rfl
    subst I
    have I:=dE l5
    subst I
    refine bJ qR33 G E ?_
    exact ⟨E,selM H [] 2 E⟩
   have I:=Fx.cF g2 I
   refine aW (bK (aB ?_))
   refine aD ?_
   refine aA G (aF G E E) E E E fun a G=>?_
   refine aA G (bW G E E E) E E E fun a G=>?_
   refine aA G (aH G E E) E E E fun a G=>?_
   refine aJ (aB ?_)
   have I:=oI I
   subst I
   exact ⟨(IntKind.i64.wrap (d8 + 1)),E,G.to ⟨E,E,E,E,trivial⟩,H⟩
  have I:=Fx.cF g1 I
  refine bX (bC (bC (cO ?_)))
  refine aB ?_
  have I:=oI I
  subst I
  have I:=i7 _ rfl
  subst I
  exact ⟨(),E,G.to ⟨E,E,E,trivial⟩,H⟩
 rintro ⟨⟩ a w I ⟨G,H⟩
 replace I:Sh.hV x0 x1 = _:=I
 unfold Sh.hV at I
 refine aB ?_
 refine aG ?_
 refine aV G H I (fun F x a w=>match x with | _=>Fr 145 [(2,.pointer (some ⟨c0,0,none⟩)),(3,.pointer (some ⟨c1,0,none⟩)),(4,.bool false)] a ∧ MemL w (pt c1 (RMark.enc (mMk x1 s11 s13 s15 s19)) 60::pt c0 (RMark.enc (mMk x0 s1 s3 s5 s9)) 60::Lr)) (fun n5 I l6 G H=>?_) ?_
 ·refine aG ?_
  refine aD ?_
  refine aA G (aH G E E) E E E fun a G=>?_
  refine aJ (aB ?_)
  refine aU ?_
  refine bU G H I (fun F x a w=>match x with | d9=>Fr 145 [(6,.int .i64 d9),(2,.pointer (some ⟨c0,0,none⟩)),(3,.pointer (some ⟨c1,0,none⟩)),(4,.bool false)] a ∧ MemL w (pt c1 (RMark.enc (mMk x1 s11 s13 s15 s19)) 60::pt c0 (RMark.enc (mMk x0 s1 s3 s5 s9)) 60::Lr)) (fun G H=>⟨G.to ⟨E,E,E,E,trivial⟩,H⟩) ?_
  rintro d9 a w n9 I i8 ⟨G,H⟩
  replace I:Sh.dT x0 x1 d9 = _:=I
  unfold Sh.dT at I
  refine aG ?_
  refine aG ?_
  refine aD ?_
  refine aA G (aF G E E) E E E fun a G=>?_
  refine aA G (aC (off':=4) qU60 E in57 E G E E E) E E E fun a G=>?_
  refine aA G (aI qA57 G E E (H.cell (i:=1) E (RMark.g_slots _))) E E E fun a G=>?_
  refine aA G (bQ (f4 _ (S _ (dropM H 2))) qU57 G E E) E E E fun a G=>?_
  refine aA G (cK G E E E) E E E fun a G=>?_
  refine aJ (aB ?_)
  refine aT G (c:=.tmp 86) E (fun g3=>?_) (fun g3=>?_)
  ·have I:=Fx.cT g3 I
   refine aW (aB ?_)
   refine aG ?_
   refine aU ?_
   refine aG ?_
   refine bM mixed (by kernel_rfl) H [0,1] 2 E fun K=>?_
   refine aK G K 0 E (by kernel_rfl) E E E (fun w H=>(aC (off':=4) qU60 E in57 E G E E E)) fun a G=>?_
   refine aK G K 1 E (by kernel_rfl) E E E (fun w H=>(aI qA57 G E E (H.cell (i:=1) E (RMark.g_slots _)))) fun a G=>?_
   refine aK G K 2 E (by kernel_rfl) E E E (fun w H=>(aF G E E)) fun a G=>?_
   obtain ⟨n0,i2,I⟩:=bind_some I
   have j2:=aM i2
   refine aK G K 3 E (by kernel_rfl) E E E (fun w H=>(aS (sz:=27) (f4 _ (S _ (dropM H 2))) qU57 in151 E G E E E (bH i2))) fun a G=>?_
   refine aK G K 4 E (by kernel_rfl) E E E (fun w H=>(aQ qA151 qS151 G E E (LCell.len _) (((f4 _ (S _ (dropM H 2))).elemS j2.2)))) fun a G=>?_
   refine aK G K 5 E (by kernel_rfl) E E E (fun w H=>(aC (off':=4) qU60 E in57 E G E E E)) fun a G=>?_
   refine aK G K 6 E (by kernel_rfl) E E E (fun w H=>(aI qA57 G E E (H.cell (i:=0) E (RMark.g_slots _)))) fun a G=>?_
   refine aK G K 7 E (by kernel_rfl) E E E (fun w H=>(aF G E E)) fun a G=>?_
   obtain ⟨n1,i3,I⟩:=bind_some I
   have j3:=aM i3
   refine aK G K 8 E (by kernel_rfl) E E E (fun w H=>(aS (sz:=27) (f14 _ (S _ (dropM H 2))) qU57 in151 E G E E E (bH i3))) fun a G=>?_
   refine aK G K 9 E (by kernel_rfl) E E E (fun w H=>(aQ qA151 qS151 G E E (LCell.len _) (((f14 _ (S _ (dropM H 2))).elemS j3.2)))) fun a G=>?_
   refine aK G K 10 E (by kernel_rfl) E E E (fun w H=>(jQ Tryz.eqGuardType151 (aEt _ _ _ _ (by decide)) G E E E)) fun a G=>?_
   refine bV K (by kernel_rfl) fun w H=>?_
   refine aB ?_
   refine aT G (c:=.tmp 99) E (fun g4=>?_) (fun g4=>?_)
   ·have I:=Fx.cT g4 I
    refine aG ?_
    refine aD ?_
    refine aA G (aH G E E) E E E fun a G=>?_
    refine aJ (aB ?_)
    refine c_ret ?_
    have I:=oI I
    subst I
    have I:=i8 _ rfl
    subst I
    have I:=dE l6
    subst I
    refine bJ qR33 G E ?_
    exact ⟨E,selM H [] 2 E⟩
   have I:=Fx.cF g4 I
   refine aW (bK (aB ?_))
   refine aD ?_
   refine aA G (aF G E E) E E E fun a G=>?_
   refine aA G (bW G E E E) E E E fun a G=>?_
   refine aA G (aH G E E) E E E fun a G=>?_
   refine aJ (aB ?_)
   have I:=oI I
   subst I
   exact ⟨(IntKind.i64.wrap (d9 + 1)),E,G.to ⟨E,E,E,E,trivial⟩,H⟩
  have I:=Fx.cF g3 I
  refine bX (bC (bC (cO ?_)))
  refine aB ?_
  have I:=oI I
  subst I
  have I:=i8 _ rfl
  subst I
  exact ⟨(),E,G.to ⟨E,E,E,trivial⟩,H⟩
 rintro ⟨⟩ a w I ⟨G,H⟩
 replace I:Sh.hW x0 x1 = _:=I
 unfold Sh.hW at I
 refine aB ?_
 refine aG ?_
 refine aV G H I (fun F x a w=>match x with | _=>Fr 145 [(4,.bool false)] a ∧ MemL w (Lr)) (fun n6 I l7 G H=>?_) ?_
 ·refine aG ?_
  refine aD ?_
  refine aA G (aH G E E) E E E fun a G=>?_
  refine aJ (aB ?_)
  refine aU ?_
  refine bU G H I (fun F x a w=>match x with | d4=>Fr 145 [(7,.int .i64 d4),(2,.pointer (some ⟨c0,0,none⟩)),(3,.pointer (some ⟨c1,0,none⟩)),(4,.bool false)] a ∧ MemL w (pt c1 (RMark.enc (mMk x1 s11 s13 s15 s19)) 60::pt c0 (RMark.enc (mMk x0 s1 s3 s5 s9)) 60::Lr)) (fun G H=>⟨G.to ⟨E,E,E,E,trivial⟩,H⟩) ?_
  rintro d4 a w p0 I i9 ⟨G,H⟩
  replace I:Sh.dU x0 x1 d4 = _:=I
  unfold Sh.dU at I
  refine aG ?_
  refine aG ?_
  refine aD ?_
  refine aA G (aF G E E) E E E fun a G=>?_
  refine aA G (aC (off':=5) qU60 E in58 E G E E E) E E E fun a G=>?_
  refine aA G (aI qA58 G E E (H.cell (i:=1) E (RMark.g_pieces _))) E E E fun a G=>?_
  refine aA G (cQ (f7 _ (S _ (dropM H 2))) q8.len qU58 G E E) E E E fun a G=>?_
  refine aA G (cK G E E E) E E E fun a G=>?_
  refine aJ (aB ?_)
  refine aT G (c:=.tmp 104) E (fun g5=>?_) (fun g5=>?_)
  ·have I:=Fx.cT g5 I
   refine aW (aB ?_)
   refine aG ?_
   refine aU ?_
   refine aG ?_
   refine aD ?_
   refine aA G (aC (off':=5) qU60 E in58 E G E E E) E E E fun a G=>?_
   refine aA G (aI qA58 G E E (H.cell (i:=1) E (RMark.g_pieces _))) E E E fun a G=>?_
   refine aA G (aF G E E) E E E fun a G=>?_
   obtain ⟨d1,i4,I⟩:=bind_some I
   have j4:=aM i4
   obtain ⟨m4,k2,k4⟩:=Each.getr q8 j4.2
   have k0:=Each.bd q8 (bH i4)
   obtain ⟨d6,d7,rfl,l1,l2⟩:=k4
   refine aA G (aS (sz:=4) (f7 _ (S _ (dropM H 2))) qU58 in156 E G E E E k0) E E E fun a G=>?_
   refine aA G (aQ qA156 qS156 G E E (RPiece.len _) (((f7 _ (S _ (dropM H 2))).elemS k2))) E E E fun a G=>?_
   refine aN G E E E (bN z156 (zs:=RPiece.zero.enc) E E fun d2 w m2 j8=>?_)
   have H:=H.plus j8
   replace H:MemL _ (pt d2 (RPiece.enc (RPiece.mk 0 0 SV.nil SV.nil)) 156::pt c1 (RMark.enc (mMk x1 s11 s13 s15 s19)) 60::pt c0 (RMark.enc (mMk x0 s1 s3 s5 s9)) 60::Lr):=H
   intro a G
   refine bD E E (aX (vs:=_) qS156 (H.obj (i:=0) E) G E E E E (RPiece.len _) (RPiece.one _) (by first | (rw [RPiece.len,RPiece.len]; decide) | (rw [RPiece.len]; decide)) (bE ((RPiece.len _).trans (RPiece.len _).symm)) fun w k6=>?_)
   have H:=H.chg k6 (i:=0) rfl
   replace H:MemL _ (pt d2 (RPiece.enc (mPc d1 d6 d7)) 156::pt c1 (RMark.enc (mMk x1 s11 s13 s15 s19)) 60::pt c0 (RMark.enc (mMk x0 s1 s3 s5 s9)) 60::Lr):=H
   refine aJ (aB ?_)
   refine aG ?_
   refine aD ?_
   refine aA G (aC (off':=5) qU60 E in58 E G E E E) E E E fun a G=>?_
   refine aA G (aI qA58 G E E (H.cell (i:=1) E (RMark.g_pieces _))) E E E fun a G=>?_
   refine aA G (aF G E E) E E E fun a G=>?_
   obtain ⟨d5,i5,I⟩:=bind_some I
   have j5:=aM i5
   obtain ⟨m5,k3,k5⟩:=Each.getr q18 j5.2
   have k1:=Each.bd q18 (bH i5)
   obtain ⟨g7,g8,rfl,l3,l4⟩:=k5
   refine aA G (aS (sz:=4) (f17 _ (S _ (dropM H 3))) qU58 in156 E G E E E k1) E E E fun a G=>?_
   refine aA G (aQ qA156 qS156 G E E (RPiece.len _) (((f17 _ (S _ (dropM H 3))).elemS k3))) E E E fun a G=>?_
   refine aN G E E E (bN z156 (zs:=RPiece.zero.enc) E E fun d3 w m3 j9=>?_)
   have H:=H.plus j9
   replace H:MemL _ (pt d3 (RPiece.enc (RPiece.mk 0 0 SV.nil SV.nil)) 156::pt d2 (RPiece.enc (mPc d1 d6 d7)) 156::pt c1 (RMark.enc (mMk x1 s11 s13 s15 s19)) 60::pt c0 (RMark.enc (mMk x0 s1 s3 s5 s9)) 60::Lr):=H
   intro a G
   refine bD E E (aX (vs:=_) qS156 (H.obj (i:=0) E) G E E E E (RPiece.len _) (RPiece.one _) (by first | (rw [RPiece.len,RPiece.len]; decide) | (rw [RPiece.len]; decide)) (bE ((RPiece.len _).trans (RPiece.len _).symm)) fun w k7=>?_)
   have H:=H.chg k7 (i:=0) rfl
   replace H:MemL _ (pt d3 (RPiece.enc (mPc d5 g7 g8)) 156::pt d2 (RPiece.enc (mPc d1 d6 d7)) 156::pt c1 (RMark.enc (mMk x1 s11 s13 s15 s19)) 60::pt c0 (RMark.enc (mMk x0 s1 s3 s5 s9)) 60::Lr):=H
   refine aJ (aB ?_)
   refine aG ?_
   refine aV G H I (fun F x a w=>match x with | g9=>Fr 145 [(144,.bool g9),(2,.pointer (some ⟨c0,0,none⟩)),(3,.pointer (some ⟨c1,0,none⟩)),(4,.bool false),(7,.int .i64 d4)] a ∧ MemL w (pt c1 (RMark.enc (mMk x1 s11 s13 s15 s19)) 60::pt c0 (RMark.enc (mMk x0 s1 s3 s5 s9)) 60::Lr)) (fun n7 I m7 G H=>?_) ?_
   ·refine aD ?_
    refine aA G (aC (off':=0) qU156 E in3 E G E E E) E E E fun a G=>?_
    refine aA G (aI qA3 G E E (H.cell (i:=1) E (RPiece.g_table _))) E E E fun a G=>?_
    refine aA G (aC (off':=0) qU156 E in3 E G E E E) E E E fun a G=>?_
    refine aA G (aI qA3 G E E (H.cell (i:=0) E (RPiece.g_table _))) E E E fun a G=>?_
    refine aA G (dD G E E E) E E E fun a G=>?_
    refine aA G (aF G E E) E E E fun a G=>?_
    refine bG 122 G E (fun c8=>?_) (fun c8=>?_)
    ·have I:=Fx.cT c8 I
     refine aE G E E E c8 E E fun a G=>?_
     refine aE G E E E c8 E E fun a G=>?_
     refine aE G E E E c8 E E fun a G=>?_
     refine aE G E E E c8 E E fun a G=>?_
     refine aE G E E E c8 E E fun a G=>?_
     refine aA G (aP G E E c8 E) E E E fun a G=>?_
     refine aA G (aF G E E) E E E fun a G=>?_
     refine aE G E E E E E E fun a G=>?_
     refine aE G E E E E E E fun a G=>?_
     refine aE G E E E E E E fun a G=>?_
     refine aE G E E E E E E fun a G=>?_
     refine aE G E E E E E E fun a G=>?_
     refine aE G E E E E E E fun a G=>?_
     refine aA G (aP G E E E E) E E E fun a G=>?_
     refine aA G (aF G E E) E E E fun a G=>?_
     refine aE G E E E E E E fun a G=>?_
     refine aE G E E E E E E fun a G=>?_
     refine aE G E E E E E E fun a G=>?_
     refine aE G E E E E E E fun a G=>?_
     refine aE G E E E E E E fun a G=>?_
     refine aE G E E E E E E fun a G=>?_
     refine aA G (aP G E E E E) E E E fun a G=>?_
     refine aJ (aB ?_)
     have I:=oI I
     subst I
     exact ⟨true,E,G.to ⟨E,E,E,E,E,trivial⟩,selM H [2,3] 4 E⟩
    have I:=Fx.cF c8 I
    refine aL G E E E c8 (aC (off':=1) qU156 E in3 E G E E E) E E fun a G=>?_
    refine aL G E E E c8 (aI qA3 G E E (H.cell (i:=1) E (RPiece.g_from_ _))) E E fun a G=>?_
    refine aL G E E E c8 (aC (off':=1) qU156 E in3 E G E E E) E E fun a G=>?_
    refine aL G E E E c8 (aI qA3 G E E (H.cell (i:=0) E (RPiece.g_from_ _))) E E fun a G=>?_
    refine aL G E E E c8 (dD G E E E) E E fun a G=>?_
    refine aA G (aZ G E E c8 E) E E E fun a G=>?_
    refine aA G (aF G E E) E E E fun a G=>?_
    refine bG 129 G E (fun c6=>?_) (fun c6=>?_)
    ·have I:=Fx.cT c6 I
     refine aE G E E E c6 E E fun a G=>?_
     refine aE G E E E c6 E E fun a G=>?_
     refine aE G E E E c6 E E fun a G=>?_
     refine aE G E E E c6 E E fun a G=>?_
     refine aE G E E E c6 E E fun a G=>?_
     refine aE G E E E c6 E E fun a G=>?_
     refine aA G (aP G E E c6 E) E E E fun a G=>?_
     refine aA G (aF G E E) E E E fun a G=>?_
     refine aE G E E E E E E fun a G=>?_
     refine aE G E E E E E E fun a G=>?_
     refine aE G E E E E E E fun a G=>?_
     refine aE G E E E E E E fun a G=>?_
     refine aE G E E E E E E fun a G=>?_
     refine aE G E E E E E E fun a G=>?_
     refine aA G (aP G E E E E) E E E fun a G=>?_
     refine aJ (aB ?_)
     have I:=oI I
     subst I
     exact ⟨true,E,G.to ⟨E,E,E,E,E,trivial⟩,selM H [2,3] 4 E⟩
    have I:=Fx.cF c6 I
    refine aL G E E E c6 (aC (off':=2) qU156 E in23 E G E E E) E E fun a G=>?_
    refine aL G E E E c6 (aI qA23 G E E (H.cell (i:=1) E (RPiece.g_old _))) E E fun a G=>?_
    refine aL G E E E c6 (aC (off':=2) qU156 E in23 E G E E E) E E fun a G=>?_
    refine aL G E E E c6 (aI qA23 G E E (H.cell (i:=0) E (RPiece.g_old _))) E E fun a G=>?_
    obtain ⟨n2,k9,I⟩:=bind_some I
    refine dV G E E E c6 E E (aO (xs:=[.tmp 131,.tmp 133]) qC43 G E E (dZ k9 H (Bf:=Bf) (fun w H=>S _ (dropM H 4)) l1 l3) fun v w hR=>?_)
    obtain ⟨rfl,H⟩:=hR
    replace H:MemL _ (pt d3 (RPiece.enc (mPc d5 g7 g8)) 156::pt d2 (RPiece.enc (mPc d1 d6 d7)) 156::pt c1 (RMark.enc (mMk x1 s11 s13 s15 s19)) 60::pt c0 (RMark.enc (mMk x0 s1 s3 s5 s9)) 60::Lr):=H
    intro a G
    refine aL G E E E c6 (dF G E E) E E fun a G=>?_
    refine aA G (aZ G E E c6 E) E E E fun a G=>?_
    refine aA G (aF G E E) E E E fun a G=>?_
    refine bG 137 G E (fun c7=>?_) (fun c7=>?_)
    ·have I:=Fx.cT c7 I
     refine aE G E E E c7 E E fun a G=>?_
     refine aE G E E E c7 E E fun a G=>?_
     refine aE G E E E c7 E E fun a G=>?_
     refine aE G E E E c7 E E fun a G=>?_
     refine aE G E E E c7 E E fun a G=>?_
     refine aE G E E E c7 E E fun a G=>?_
     refine aA G (aP G E E c7 E) E E E fun a G=>?_
     refine aJ (aB ?_)
     have I:=oI I
     subst I
     exact ⟨true,E,G.to ⟨E,E,E,E,E,trivial⟩,selM H [2,3] 4 E⟩
    have I:=Fx.cF c7 I
    refine aL G E E E c7 (aC (off':=3) qU156 E in23 E G E E E) E E fun a G=>?_
    refine aL G E E E c7 (aI qA23 G E E (H.cell (i:=1) E (RPiece.g_new _))) E E fun a G=>?_
    refine aL G E E E c7 (aC (off':=3) qU156 E in23 E G E E E) E E fun a G=>?_
    refine aL G E E E c7 (aI qA23 G E E (H.cell (i:=0) E (RPiece.g_new _))) E E fun a G=>?_
    obtain ⟨l9,l0,I⟩:=bind_some I
    refine dV G E E E c7 E E (aO (xs:=[.tmp 139,.tmp 141]) qC43 G E E (dZ l0 H (Bf:=Bf) (fun w H=>S _ (dropM H 4)) l2 l4) fun v w hR=>?_)
    obtain ⟨rfl,H⟩:=hR
    replace H:MemL _ (pt d3 (RPiece.enc (mPc d5 g7 g8)) 156::pt d2 (RPiece.enc (mPc d1 d6 d7)) 156::pt c1 (RMark.enc (mMk x1 s11 s13 s15 s19)) 60::pt c0 (RMark.enc (mMk x0 s1 s3 s5 s9)) 60::Lr):=H
    intro a G
    refine aL G E E E c7 (dF G E E) E E fun a G=>?_
    refine aA G (aZ G E E c7 E) E E E fun a G=>?_
    refine aJ (aB ?_)
    have I:=oI I
    subst I
    exact ⟨(!l9),E,G.to ⟨E,E,E,E,E,trivial⟩,selM H [2,3] 4 E⟩
   rintro g9 a w I ⟨G,H⟩
   replace I:Sh.dR d4 g9 = _:=I
   unfold Sh.dR at I
   refine aB ?_
   refine aT G (c:=.tmp 144) E (fun g6=>?_) (fun g6=>?_)
   ·have I:=Fx.cT g6 I
    refine aG ?_
    refine aD ?_
    refine aA G (aH G E E) E E E fun a G=>?_
    refine aJ (aB ?_)
    refine c_ret ?_
    have I:=oI I
    subst I
    have I:=i9 _ rfl
    subst I
    have I:=dE l7
    subst I
    refine bJ qR33 G E ?_
    exact ⟨E,selM H [] 2 E⟩
   have I:=Fx.cF g6 I
   refine aW (bK (aB ?_))
   refine aD ?_
   refine aA G (aF G E E) E E E fun a G=>?_
   refine aA G (bW G E E E) E E E fun a G=>?_
   refine aA G (aH G E E) E E E fun a G=>?_
   refine aJ (aB ?_)
   have I:=oI I
   subst I
   exact ⟨(IntKind.i64.wrap (d4 + 1)),E,G.to ⟨E,E,E,E,trivial⟩,H⟩
  have I:=Fx.cF g5 I
  refine bX (bC (bC (cO ?_)))
  refine aB ?_
  have I:=oI I
  subst I
  have I:=i9 _ rfl
  subst I
  exact ⟨(),E,G.to ⟨E,trivial⟩,selM H [] 2 E⟩
 rintro ⟨⟩ a w I ⟨G,H⟩
 replace I:Sh.qU = _:=I
 unfold Sh.qU at I
 refine aB ?_
 refine aG ?_
 refine aD ?_
 refine aA G (aH G E E) E E E fun a G=>?_
 refine aJ (aB ?_)
 refine c_ret ?_
 have I:=oI I
 subst I
 refine bJ qR33 G E ?_
 exact ⟨E,H⟩
set_option maxHeartbeats 4000000 in
theorem eY {x0:QRecord} {x1:QRecord} {s1:SV} {s3:SV} {hs4:List SV} {s7:SV} {hs8:List RMark} {s11:SV} {s13:SV} {hs14:List SV} {s17:SV} {hs18:List RMark} {out:Bool} {w0:World} {Bf:World → Prop} {Lr:List Res} (I:Sh.bO x0 x1 = some out) (H:MemL w0 (Lr)) (S:∀ w,MemL w Lr → Bf w) (f2:LIn Bf s1 x0.in_.ctx) (f5:LIn Bf s3 hs4) (q6:Each (LIn (X:=UInt8) Bf) hs4 x0.in_.tables) (f9:LIn Bf s7 hs8) (q10:Each (QMarkIn Bf) hs8 x0.marks) (f12:LIn Bf s11 x1.in_.ctx) (f15:LIn Bf s13 hs14) (q16:Each (LIn (X:=UInt8) Bf) hs14 x1.in_.tables) (f19:LIn Bf s17 hs18) (q20:Each (QMarkIn Bf) hs18 x1.marks):Calls Tryz.prog 27 #[.agg (RRecord.enc (mRc x0 s1 s3 s7)).toArray,.agg (RRecord.enc (mRc x1 s11 s13 s17)).toArray] w0 (Ret fun v w'=>v = .bool out ∧ MemL w' (Lr)):=by
 unfold Sh.bO at I
 refine aR (vs:=[.agg (RRecord.enc (mRc x0 s1 s3 s7)).toArray,.agg (RRecord.enc (mRc x1 s11 s13 s17)).toArray]) Tryz.func27 E Tryz.ntmps27 E fun a G=>?_
 refine aG ?_
 refine aD ?_
 refine aN G E E E (dA G E E E fun c2 w i6 d4=>?_)
 have H:=H.plus d4
 intro a G
 refine aN G E E E (dA G E E E fun c3 w i7 d5=>?_)
 have H:=H.plus d5
 replace H:MemL _ (pt c3 (RRecord.enc (mRc x1 s11 s13 s17)) 36::pt c2 (RRecord.enc (mRc x0 s1 s3 s7)) 36::Lr):=H
 intro a G
 refine aA G (aH G E E) E E E fun a G=>?_
 refine aJ (aB ?_)
 refine aG ?_
 refine aG ?_
 refine aV G H I (fun F x a w=>match x with | d0=>Fr 47 [(27,.bool d0),(2,.pointer (some ⟨c2,0,none⟩)),(3,.pointer (some ⟨c3,0,none⟩)),(4,.bool false)] a ∧ MemL w (pt c3 (RRecord.enc (mRc x1 s11 s13 s17)) 36::pt c2 (RRecord.enc (mRc x0 s1 s3 s7)) 36::Lr)) (fun k4 I j2 G H=>?_) ?_
 ·refine aD ?_
  refine aA G (aC (off':=3) qU36 E in34 E G E E E) E E E fun a G=>?_
  refine aA G (aI qA34 G E E (H.cell (i:=1) E (RRecord.g_end_ _))) E E E fun a G=>?_
  refine aA G (aC (off':=3) qU36 E in34 E G E E E) E E E fun a G=>?_
  refine aA G (aI qA34 G E E (H.cell (i:=0) E (RRecord.g_end_ _))) E E E fun a G=>?_
  refine aA G (dD G E E E) E E E fun a G=>?_
  refine aA G (aF G E E) E E E fun a G=>?_
  refine bG 11 G E (fun c0=>?_) (fun c0=>?_)
  ·have I:=Fx.cT c0 I
   refine aE G E E E c0 E E fun a G=>?_
   refine aE G E E E c0 E E fun a G=>?_
   refine aE G E E E c0 E E fun a G=>?_
   refine aE G E E E c0 E E fun a G=>?_
   refine aE G E E E c0 E E fun a G=>?_
   refine aE G E E E c0 E E fun a G=>?_
   refine aE G E E E c0 E E fun a G=>?_
   refine aA G (aP G E E c0 E) E E E fun a G=>?_
   refine aA G (aF G E E) E E E fun a G=>?_
   refine aE G E E E E E E fun a G=>?_
   refine aE G E E E E E E fun a G=>?_
   refine aE G E E E E E E fun a G=>?_
   refine aE G E E E E E E fun a G=>?_
   refine aE G E E E E E E fun a G=>?_
   refine aE G E E E E E E fun a G=>?_
   refine aA G (aP G E E E E) E E E fun a G=>?_
   refine aJ (aB ?_)
   have I:=oI I
   subst I
   exact ⟨true,E,G.to ⟨E,E,E,E,trivial⟩,H⟩
  have I:=Fx.cF c0 I
  refine aL G E E E c0 (aC (off':=2) qU36 E in33 E G E E E) E E fun a G=>?_
  refine aL G E E E c0 (aI qA33 G E E (H.cell (i:=1) E (RRecord.g_marks _))) E E fun a G=>?_
  refine aL G E E E c0 (cQ (f9 _ (S _ (dropM H 2))) q10.len qU33 G E E) E E fun a G=>?_
  refine aL G E E E c0 (aC (off':=2) qU36 E in33 E G E E E) E E fun a G=>?_
  refine aL G E E E c0 (aI qA33 G E E (H.cell (i:=0) E (RRecord.g_marks _))) E E fun a G=>?_
  refine aL G E E E c0 (cQ (f19 _ (S _ (dropM H 2))) q20.len qU33 G E E) E E fun a G=>?_
  refine aL G E E E c0 (dD G E E E) E E fun a G=>?_
  refine aA G (aZ G E E c0 E) E E E fun a G=>?_
  refine aA G (aF G E E) E E E fun a G=>?_
  refine bG 20 G E (fun c1=>?_) (fun c1=>?_)
  ·have I:=Fx.cT c1 I
   refine aE G E E E c1 E E fun a G=>?_
   refine aE G E E E c1 E E fun a G=>?_
   refine aE G E E E c1 E E fun a G=>?_
   refine aE G E E E c1 E E fun a G=>?_
   refine aE G E E E c1 E E fun a G=>?_
   refine aE G E E E c1 E E fun a G=>?_
   refine aA G (aP G E E c1 E) E E E fun a G=>?_
   refine aJ (aB ?_)
   have I:=oI I
   subst I
   exact ⟨true,E,G.to ⟨E,E,E,E,trivial⟩,H⟩
  have I:=Fx.cF c1 I
  refine aL G E E E c1 (aC (off':=0) qU36 E in30 E G E E E) E E fun a G=>?_
  refine aL G E E E c1 (aQ qA30 qS30 G E E (RInput.len _) (H.cells (i:=1) E (RRecord.c_in_ _))) E E fun a G=>?_
  refine aL G E E E c1 (aC (off':=0) qU36 E in30 E G E E E) E E fun a G=>?_
  refine aL G E E E c1 (aQ qA30 qS30 G E E (RInput.len _) (H.cells (i:=0) E (RRecord.c_in_ _))) E E fun a G=>?_
  obtain ⟨i5,i2,I⟩:=bind_some I
  refine dV G E E E c1 E E (aO (xs:=[.tmp 22,.tmp 24]) Tryz.call29 G E E (nG i2 H (Bf:=Bf) (fun w H=>S _ (dropM H 2)) f2 f5 q6 f12 f15 q16) fun v w hR=>?_)
  obtain ⟨rfl,H⟩:=hR
  replace H:MemL _ (pt c3 (RRecord.enc (mRc x1 s11 s13 s17)) 36::pt c2 (RRecord.enc (mRc x0 s1 s3 s7)) 36::Lr):=H
  intro a G
  refine aL G E E E c1 (dF G E E) E E fun a G=>?_
  refine aA G (aZ G E E c1 E) E E E fun a G=>?_
  refine aJ (aB ?_)
  have I:=oI I
  subst I
  exact ⟨(!i5),E,G.to ⟨E,E,E,E,trivial⟩,H⟩
 rintro d0 a w I ⟨G,H⟩
 replace I:Sh.cL x0 x1 d0 = _:=I
 unfold Sh.cL at I
 refine aB ?_
 refine aT G (c:=.tmp 27) E (fun c7=>?_) (fun c7=>?_)
 ·have I:=Fx.cT c7 I
  refine aG ?_
  refine aD ?_
  refine aA G (aH G E E) E E E fun a G=>?_
  refine aJ (aB ?_)
  refine c_ret ?_
  have I:=oI I
  subst I
  refine bJ Tryz.results27 G E ?_
  exact ⟨E,selM H [] 2 E⟩
 have I:=Fx.cF c7 I
 refine aW (aB ?_)
 refine aG ?_
 refine aV G H I (fun F x a w=>match x with | _=>Fr 47 [(4,.bool false)] a ∧ MemL w (Lr)) (fun k5 I i1 G H=>?_) ?_
 ·refine aG ?_
  refine aD ?_
  refine aA G (aH G E E) E E E fun a G=>?_
  refine aJ (aB ?_)
  refine aU ?_
  refine bU G H I (fun F x a w=>match x with | c4=>Fr 47 [(5,.int .i64 c4),(2,.pointer (some ⟨c2,0,none⟩)),(3,.pointer (some ⟨c3,0,none⟩)),(4,.bool false)] a ∧ MemL w (pt c3 (RRecord.enc (mRc x1 s11 s13 s17)) 36::pt c2 (RRecord.enc (mRc x0 s1 s3 s7)) 36::Lr)) (fun G H=>⟨G.to ⟨E,E,E,E,trivial⟩,H⟩) ?_
  rintro c4 a w k6 I d1 ⟨G,H⟩
  replace I:Sh.cM x0 x1 c4 = _:=I
  unfold Sh.cM at I
  refine aG ?_
  refine aG ?_
  refine aD ?_
  refine aA G (aF G E E) E E E fun a G=>?_
  refine aA G (aC (off':=2) qU36 E in33 E G E E E) E E E fun a G=>?_
  refine aA G (aI qA33 G E E (H.cell (i:=1) E (RRecord.g_marks _))) E E E fun a G=>?_
  refine aA G (cQ (f9 _ (S _ (dropM H 2))) q10.len qU33 G E E) E E E fun a G=>?_
  refine aA G (cK G E E E) E E E fun a G=>?_
  refine aJ (aB ?_)
  refine aT G (c:=.tmp 32) E (fun c5=>?_) (fun c5=>?_)
  ·have I:=Fx.cT c5 I
   refine aW (aB ?_)
   refine aG ?_
   refine aU ?_
   refine aG ?_
   refine bM mixed (by kernel_rfl) H [0,1] 2 E fun K=>?_
   refine aK G K 0 E (by kernel_rfl) E E E (fun w H=>(aC (off':=2) qU36 E in33 E G E E E)) fun a G=>?_
   refine aK G K 1 E (by kernel_rfl) E E E (fun w H=>(aI qA33 G E E (H.cell (i:=1) E (RRecord.g_marks _)))) fun a G=>?_
   refine aK G K 2 E (by kernel_rfl) E E E (fun w H=>(aF G E E)) fun a G=>?_
   obtain ⟨k1,c8,I⟩:=bind_some I
   have d2:=aM c8
   obtain ⟨j0,d8,g0⟩:=Each.getr q10 d2.2
   have d6:=Each.bd q10 (bH c8)
   obtain ⟨j3,j4,j5,i8,j6,rfl,g3,g4,g5,i3,g6⟩:=g0
   refine aK G K 3 E (by kernel_rfl) E E E (fun w H=>(aS (sz:=7) (f9 _ (S _ (dropM H 2))) qU33 in60 E G E E E d6)) fun a G=>?_
   refine aK G K 4 E (by kernel_rfl) E E E (fun w H=>(aQ qA60 qS60 G E E (RMark.len _) (((f9 _ (S _ (dropM H 2))).elemS d8)))) fun a G=>?_
   refine aK G K 5 E (by kernel_rfl) E E E (fun w H=>(aC (off':=2) qU36 E in33 E G E E E)) fun a G=>?_
   refine aK G K 6 E (by kernel_rfl) E E E (fun w H=>(aI qA33 G E E (H.cell (i:=0) E (RRecord.g_marks _)))) fun a G=>?_
   refine aK G K 7 E (by kernel_rfl) E E E (fun w H=>(aF G E E)) fun a G=>?_
   obtain ⟨k2,c9,I⟩:=bind_some I
   have d3:=aM c9
   obtain ⟨j1,d9,g1⟩:=Each.getr q20 d3.2
   have d7:=Each.bd q20 (bH c9)
   obtain ⟨j7,j8,j9,i9,k0,rfl,g7,g8,g9,i4,i0⟩:=g1
   refine aK G K 8 E (by kernel_rfl) E E E (fun w H=>(aS (sz:=7) (f19 _ (S _ (dropM H 2))) qU33 in60 E G E E E d7)) fun a G=>?_
   refine aK G K 9 E (by kernel_rfl) E E E (fun w H=>(aQ qA60 qS60 G E E (RMark.len _) (((f19 _ (S _ (dropM H 2))).elemS d9)))) fun a G=>?_
   refine bF K 10 (by kernel_rfl) E E ?_
   refine bY G 10 E E E E E fun w hMs H=>?_
   obtain ⟨k3,g2,I⟩:=bind_some I
   refine (aO (xs:=[.tmp 39,.tmp 44]) Tryz.call33 G E E (eE g2 H (Bf:=Bf) (fun w H=>S _ (dropM H 2)) g3 g4 g5 i3 g6 g7 g8 g9 i4 i0) fun v w hR=>?_)
   obtain ⟨rfl,H⟩:=hR
   replace H:MemL _ (pt c3 (RRecord.enc (mRc x1 s11 s13 s17)) 36::pt c2 (RRecord.enc (mRc x0 s1 s3 s7)) 36::Lr):=H
   have hMs:=selM H [0,1] 2 rfl
   refine ⟨_,_,hMs,H,.inl fun _ h=>h,fun a G=>?_⟩
   refine aK G K 11 E (by kernel_rfl) E E E (fun w H=>(dF G E E)) fun a G=>?_
   refine bV K (by kernel_rfl) fun w H=>?_
   refine aB ?_
   refine aT G (c:=.tmp 46) E (fun c6=>?_) (fun c6=>?_)
   ·have I:=Fx.cT c6 I
    refine aG ?_
    refine aD ?_
    refine aA G (aH G E E) E E E fun a G=>?_
    refine aJ (aB ?_)
    refine c_ret ?_
    have I:=oI I
    subst I
    have I:=d1 _ rfl
    subst I
    have I:=dE i1
    subst I
    refine bJ Tryz.results27 G E ?_
    exact ⟨E,selM H [] 2 E⟩
   have I:=Fx.cF c6 I
   refine aW (bK (aB ?_))
   refine aD ?_
   refine aA G (aF G E E) E E E fun a G=>?_
   refine aA G (bW G E E E) E E E fun a G=>?_
   refine aA G (aH G E E) E E E fun a G=>?_
   refine aJ (aB ?_)
   have I:=oI I
   subst I
   exact ⟨(IntKind.i64.wrap (c4 + 1)),E,G.to ⟨E,E,E,E,trivial⟩,H⟩
  have I:=Fx.cF c5 I
  refine bX (bC (bC (cO ?_)))
  refine aB ?_
  have I:=oI I
  subst I
  have I:=d1 _ rfl
  subst I
  exact ⟨(),E,G.to ⟨E,trivial⟩,selM H [] 2 E⟩
 rintro ⟨⟩ a w I ⟨G,H⟩
 replace I:Sh.oT = _:=I
 unfold Sh.oT at I
 refine aB ?_
 refine aG ?_
 refine aD ?_
 refine aA G (aH G E E) E E E fun a G=>?_
 refine aJ (aB ?_)
 refine c_ret ?_
 have I:=oI I
 subst I
 refine bJ Tryz.results27 G E ?_
 exact ⟨E,H⟩
end Go.Proofs
end
section
namespace Go.Proofs
open Go.Fw Go.Fx
set_option maxRecDepth 10000
set_option maxHeartbeats 4000000 in
theorem jI {x0:QInput} {s1:SV} {s3:SV} {hs4:List SV} {out:Bool} {w0:World} {Bf:World → Prop} {Lr:List Res} (I:Sh.gF x0 = some out) (H:MemL w0 (Lr)) (S:∀ w,MemL w Lr → Bf w) (f2:LIn Bf s1 x0.ctx) (f5:LIn Bf s3 hs4) (q6:Each (LIn (X:=UInt8) Bf) hs4 x0.tables):Calls Tryz.prog 98 #[.agg (RInput.enc (RInput.mk s1 s3)).toArray] w0 (Ret fun v w'=>v = .bool out ∧ MemL w' (Lr)):=by
 unfold Sh.gF at I
 refine aR (vs:=[.agg (RInput.enc (RInput.mk s1 s3)).toArray]) Tryz.func98 E Tryz.ntmps98 E fun a G=>?_
 refine aG ?_
 refine aD ?_
 refine aN G E E E (dA G E E E fun c2 w g8 d4=>?_)
 have H:=H.plus d4
 replace H:MemL _ (pt c2 (RInput.enc (RInput.mk s1 s3)) 30::Lr):=H
 intro a G
 refine aA G (aH G E E) E E E fun a G=>?_
 refine aJ (aB ?_)
 refine aG ?_
 refine aD ?_
 refine aA G (aH G E E) E E E fun a G=>?_
 refine aJ (aB ?_)
 refine aG ?_
 refine aV G H I (fun F x a w=>match x with | c8=>Fr 22 [(2,.bool c8)] a ∧ MemL w (Lr)) (fun i1 I i0 G H=>?_) ?_
 ·refine aD ?_
  refine aA G (aF G E E) E E E fun a G=>?_
  refine aA G (aC (off':=0) qU30 E in23 E G E E E) E E E fun a G=>?_
  refine aA G (aI qA23 G E E (H.cell (i:=0) E (RInput.g_ctx _))) E E E fun a G=>?_
  obtain ⟨g4,I,d8⟩:=dH I
  refine aN G E E E (hJ (xs:=[.tmp 6]) Tryz.call171 G E E E (R:=fun v w=>∃ x,g4 = .inl x ∧ match x with | c9=>v = .bool c9 ∧ MemL w (pt c2 (RInput.enc (RInput.mk s1 s3)) 30::Lr)) ?_ fun v w hR=>?_)
  ·refine aR Tryz.func171 E qN171 E fun a G=>?_
   refine aG ?_
   refine aD ?_
   refine aA G (aH G E E) E E E fun a G=>?_
   refine aJ (aB ?_)
   refine aG ?_
   refine aD ?_
   refine aA G (aF G E E) E E E fun a G=>?_
   refine aA G (bQ (f2 _ (S _ (dropM H 1))) qU23 G E E) E E E fun a G=>?_
   refine aA G (eR G E E E) E E E fun a G=>?_
   refine aA G (aH G E E) E E E fun a G=>?_
   refine aJ (aB ?_)
   refine c_ret ?_
   have I:=oI I
   subst I
   refine bJ qR171 G E ?_
   exact ⟨(decide (65535 < (x0.ctx.length:Int))),E,E,H⟩
  obtain ⟨c9,rfl,rfl,H⟩:=hR
  replace I:Sh.fH x0 c9 = _:=d8
  unfold Sh.fH at I
  intro a G
  refine aA G (dF G E E) E E E fun a G=>?_
  refine aA G (aF G E E) E E E fun a G=>?_
  refine bG 9 G E (fun c1=>?_) (fun c1=>?_)
  ·have I:=Fx.cT c1 I
   refine aL G E E E c1 (aC (off':=1) qU30 E in28 E G E E E) E E fun a G=>?_
   refine aL G E E E c1 (aI qA28 G E E (H.cell (i:=0) E (RInput.g_tables _))) E E fun a G=>?_
   refine aL G E E E c1 (cQ (f5 _ (S _ (dropM H 1))) q6.len qU28 G E E) E E fun a G=>?_
   refine aL G E E E c1 (qP G E E E) E E fun a G=>?_
   refine aA G (aP G E E c1 E) E E E fun a G=>?_
   refine aA G (aF G E E) E E E fun a G=>?_
   refine bG 15 G E (fun c0=>?_) (fun c0=>?_)
   ·have I:=Fx.cT c0 I
    refine aL G E E E c0 (aC (off':=1) qU30 E in28 E G E E E) E E fun a G=>?_
    refine aL G E E E c0 (aI qA28 G E E (H.cell (i:=0) E (RInput.g_tables _))) E E fun a G=>?_
    refine aL G E E E c0 (aF G E E) E E fun a G=>?_
    obtain ⟨g5,I,d9⟩:=dH I
    refine dV G E E E c0 E E (aO (xs:=[.tmp 17,.tmp 18]) Tryz.call172 G E E (R:=fun v w=>∃ x,g5 = .inl x ∧ match x with | c4=>v = .bool c4 ∧ MemL w (pt c2 (RInput.enc (RInput.mk s1 s3)) 30::Lr)) ?_ fun v w hR=>?_)
    ·refine aR Tryz.func172 E Tryz.ntmps172 E fun a G=>?_
     refine aG ?_
     refine aD ?_
     refine aA G (aH G E E) E E E fun a G=>?_
     refine aJ (aB ?_)
     refine aG ?_
     refine aD ?_
     refine aA G (aF G E E) E E E fun a G=>?_
     refine aA G (aF G E E) E E E fun a G=>?_
     obtain ⟨g6,I,g0⟩:=dH I
     refine aN G E E E (aO (xs:=[.tmp 5,.tmp 6]) Tryz.call226 G E E (R:=fun v w=>∃ x,g6 = .inl x ∧ match x with | c5=>v = .int .i64 c5 ∧ MemL w (pt c2 (RInput.enc (RInput.mk s1 s3)) 30::Lr)) ?_ fun v w hR=>?_)
     ·refine aR Tryz.func226 E Tryz.ntmps226 E fun a G=>?_
      refine aG ?_
      refine aD ?_
      refine aA G (aH G E E) E E E fun a G=>?_
      refine aJ (aB ?_)
      refine aG ?_
      refine aV G H I (fun F x a w=>match x with | _=>Fr 19 [(4,.int .i64 0)] a ∧ MemL w (pt c2 (RInput.enc (RInput.mk s1 s3)) 30::Lr)) (fun i2 I g2 G H=>?_) ?_
      ·refine aG ?_
       refine aD ?_
       refine aA G (aF G E E) E E E fun a G=>?_
       refine aA G (cQ (f5 _ (S _ (dropM H 1))) q6.len qU28 G E E) E E E fun a G=>?_
       refine aA G (aF G E E) E E E fun a G=>?_
       refine aJ (aB ?_)
       refine aU ?_
       refine bU G H I (fun F x a w=>match x with | c3=>Fr 19 [(8,.int .i64 c3),(0,(s3).v),(1,.func (.func 171) [].toArray [].toArray),(4,.int .i64 0),(7,.int .i64 (x0.tables.length:Int))] a ∧ MemL w (pt c2 (RInput.enc (RInput.mk s1 s3)) 30::Lr)) (fun G H=>⟨G.to ⟨E,E,E,E,E,trivial⟩,H⟩) ?_
       rintro c3 a w i3 I d2 ⟨G,H⟩
       replace I:Sh.bW x0 c3 = _:=I
       unfold Sh.bW at I
       refine aG ?_
       refine aD ?_
       refine aA G (cK G E E E) E E E fun a G=>?_
       refine aJ (aB ?_)
       refine aG ?_
       refine aT G (c:=.tmp 9) E (fun c6=>?_) (fun c6=>?_)
       ·have I:=Fx.cT c6 I
        refine aW (aB ?_)
        refine aG ?_
        refine aU ?_
        refine aG ?_
        refine aD ?_
        refine aA G (aF G E E) E E E fun a G=>?_
        refine aA G (aH G E E) E E E fun a G=>?_
        refine aJ (aB ?_)
        refine aG ?_
        refine aD ?_
        refine aA G (aF G E E) E E E fun a G=>?_
        refine aA G (aF G E E) E E E fun a G=>?_
        refine aA G (aF G E E) E E E fun a G=>?_
        obtain ⟨g3,d1,I⟩:=bind_some I
        have d3:=aM d1
        obtain ⟨g9,d6,d7⟩:=Each.getr q6 d3.2
        have d5:=Each.bd q6 (bH d1)
        refine aA G (aS (sz:=1) (f5 _ (S _ (dropM H 1))) qU28 in23 E G E E E d5) E E E fun a G=>?_
        refine aA G (aI qA23 G E E ((((f5 _ (S _ (dropM H 1))).elemS d6)).get 0 E)) E E E fun a G=>?_
        obtain ⟨g7,I,g1⟩:=dH I
        refine aN G E E E (hJ (xs:=[.tmp 15]) Tryz.call171 G E E E (R:=fun v w=>∃ x,g7 = .inl x ∧ match x with | d0=>v = .bool d0 ∧ MemL w (pt c2 (RInput.enc (RInput.mk s1 s3)) 30::Lr)) ?_ fun v w hR=>?_)
        ·refine aR Tryz.func171 E qN171 E fun a G=>?_
         refine aG ?_
         refine aD ?_
         refine aA G (aH G E E) E E E fun a G=>?_
         refine aJ (aB ?_)
         refine aG ?_
         refine aD ?_
         refine aA G (aF G E E) E E E fun a G=>?_
         refine aA G (bQ (d7 _ (S _ (dropM H 1))) qU23 G E E) E E E fun a G=>?_
         refine aA G (eR G E E E) E E E fun a G=>?_
         refine aA G (aH G E E) E E E fun a G=>?_
         refine aJ (aB ?_)
         refine c_ret ?_
         have I:=oI I
         subst I
         refine bJ qR171 G E ?_
         exact ⟨(decide (65535 < (g3.length:Int))),E,E,H⟩
        obtain ⟨d0,rfl,rfl,H⟩:=hR
        replace I:Sh.iV c3 d0 = _:=g1
        unfold Sh.iV at I
        intro a G
        refine aJ (aB ?_)
        refine aT G (c:=.tmp 16) E (fun c7=>?_) (fun c7=>?_)
        ·have I:=Fx.cT c7 I
         refine aG ?_
         refine aD ?_
         refine aA G (aF G E E) E E E fun a G=>?_
         refine aA G (aH G E E) E E E fun a G=>?_
         refine aJ (aB ?_)
         refine c_ret ?_
         have I:=oI I
         subst I
         have I:=d2 _ rfl
         subst I
         have I:=dE g2
         subst I
         refine bJ qR226 G E ?_
         exact ⟨c3,E,E,H⟩
        have I:=Fx.cF c7 I
        refine aW (bK (aB ?_))
        refine aD ?_
        refine aA G (bW G E E E) E E E fun a G=>?_
        refine aA G (aF G E E) E E E fun a G=>?_
        refine aJ (aB ?_)
        have I:=oI I
        subst I
        exact ⟨(IntKind.i64.wrap (c3 + 1)),E,G.to ⟨E,E,E,E,E,trivial⟩,H⟩
       have I:=Fx.cF c6 I
       refine bX (bC (bC (cO ?_)))
       refine aB ?_
       have I:=oI I
       subst I
       have I:=d2 _ rfl
       subst I
       exact ⟨(),E,G.to ⟨E,trivial⟩,H⟩
      rintro ⟨⟩ a w I ⟨G,H⟩
      replace I:Sh.pR = _:=I
      unfold Sh.pR at I
      refine aB ?_
      refine aG ?_
      refine aD ?_
      refine aA G (aH G E E) E E E fun a G=>?_
      refine aJ (aB ?_)
      refine c_ret ?_
      have I:=oI I
      subst I
      refine bJ qR226 G E ?_
      exact ⟨(-1),E,E,H⟩
     obtain ⟨c5,rfl,rfl,H⟩:=hR
     replace I:Sh.mP c5 = _:=g0
     unfold Sh.mP at I
     intro a G
     refine aA G (jH G E E E) E E E fun a G=>?_
     refine aA G (aH G E E) E E E fun a G=>?_
     refine aJ (aB ?_)
     refine c_ret ?_
     have I:=oI I
     subst I
     refine bJ Tryz.results172 G E ?_
     exact ⟨(decide (0 ≤ c5)),E,E,H⟩
    obtain ⟨c4,rfl,rfl,H⟩:=hR
    replace I:Sh.mO c4 = _:=d9
    unfold Sh.mO at I
    intro a G
    refine aL G E E E c0 (dF G E E) E E fun a G=>?_
    refine aA G (aP G E E c0 E) E E E fun a G=>?_
    refine aA G (aH G E E) E E E fun a G=>?_
    refine aJ (aB ?_)
    have I:=oI I
    subst I
    exact ⟨(!c4),E,G.to ⟨E,trivial⟩,selM H [] 1 E⟩
   have I:=Fx.cF c0 I
   refine aE G E E E c0 E E fun a G=>?_
   refine aE G E E E c0 E E fun a G=>?_
   refine aE G E E E c0 E E fun a G=>?_
   refine aE G E E E c0 E E fun a G=>?_
   refine aE G E E E c0 E E fun a G=>?_
   refine aA G (aZ G E E c0 E) E E E fun a G=>?_
   refine aA G (aH G E E) E E E fun a G=>?_
   refine aJ (aB ?_)
   have I:=oI I
   subst I
   exact ⟨false,E,G.to ⟨E,trivial⟩,selM H [] 1 E⟩
  have I:=Fx.cF c1 I
  refine aE G E E E c1 E E fun a G=>?_
  refine aE G E E E c1 E E fun a G=>?_
  refine aE G E E E c1 E E fun a G=>?_
  refine aE G E E E c1 E E fun a G=>?_
  refine aA G (aZ G E E c1 E) E E E fun a G=>?_
  refine aA G (aF G E E) E E E fun a G=>?_
  refine aE G E E E E E E fun a G=>?_
  refine aE G E E E E E E fun a G=>?_
  refine aE G E E E E E E fun a G=>?_
  refine aE G E E E E E E fun a G=>?_
  refine aE G E E E E E E fun a G=>?_
  refine aA G (aZ G E E E E) E E E fun a G=>?_
  refine aA G (aH G E E) E E E fun a G=>?_
  refine aJ (aB ?_)
  have I:=oI I
  subst I
  exact ⟨false,E,G.to ⟨E,trivial⟩,selM H [] 1 E⟩
 rintro c8 a w I ⟨G,H⟩
 replace I:Sh.hB c8 = _:=I
 unfold Sh.hB at I
 refine aB ?_
 refine c_ret ?_
 have I:=oI I
 subst I
 refine bJ Tryz.results98 G E ?_
 exact ⟨E,H⟩
end Go.Proofs
end
section
namespace Go.Ev
open Go.Fw Go.Proofs
set_option maxRecDepth 1000000
theorem known_ev:okT (acall (tabOf Tryz.prog) 1000 40 [] (.f 22 [] []) [] { h:=.e,nx:=0 }) = true:=by kernel_rfl
end Go.Ev
end
section
namespace Go.Proofs
open Go.Fw Go.Fx
theorem gL {out:Bool} {w0:World} {Lr:List Res} (hP:Sh.cN = some out) (hM:MemL w0 Lr):Calls Tryz.prog 22 #[] w0 (Ret fun v w'=>v = .bool out ∧ MemL w' Lr):=by
  cases hP
  refine Calls.mono (Go.Ev.closed_true (fuel:=1000) (k:=40) (by kernel_rfl) Go.Ev.known_ev w0) fun e w' he=>?_
  cases e <;> first
    | exact ⟨he.1,hM.keep he.2⟩
    | exact he
end Go.Proofs
end
