/- Ground for this claim: The call of TraceBytes returns true, and what is read reads as before. Condition: what is read is of bulk at most 1048576. -/
import Derived.Test.YtmgnkohlfbjjnaaGreatRProg
import Derived.KernelRfl
import Derived.Test.YtmgnkohlfbjjnaaGreatRTb5
section
namespace Go.Proofs
open Go.Fw
set_option maxRecDepth 20000
theorem mixed:Tryz.prog.follows .mixedOrders = true:=by kernel_rfl
theorem fY (d:Nat) (x y:LVal) (w:World) (hd:3 ≤ d):(Op.equalIn d 46 (.agg x.enc.toArray) (.agg y.enc.toArray)).run Tryz.prog w = .ok (decide (x = y)) w:=by
  obtain ⟨d,rfl⟩ : ∃ d',d = d' + 1:=⟨d - 1,by omega⟩
  rw [run_equalIn_struct w d 46 _ _ (by simp only [Program.fieldsOf,Tryz.underlying46]) Tryz.stoodInHeld46]
  simp only [Program.fieldsOf,Tryz.underlying46]
  have key:(x = y) ↔ x.kind = y.kind ∧ x.table = y.table ∧ x.row = y.row ∧ x.x = y.x:=by cases x; cases y; simp
  rw [cZ (by decide) Tryz.isAgg3 (LVal.g_kind x) (LVal.g_kind y) ((EqSpec.int (k:=.i64) Tryz.underlying3) d _ _ w (by omega))]
  rw [cZ (by decide) Tryz.isAgg3 (LVal.g_table x) (LVal.g_table y) ((EqSpec.int (k:=.i64) Tryz.underlying3) d _ _ w (by omega))]
  rw [cZ (by decide) Tryz.isAgg3 (LVal.g_row x) (LVal.g_row y) ((EqSpec.int (k:=.i64) Tryz.underlying3) d _ _ w (by omega))]
  rw [cZ (by decide) Tryz.isAgg3 (LVal.g_x x) (LVal.g_x y) ((EqSpec.int (k:=.i64) Tryz.underlying3) d _ _ w (by omega))]
  rw [fD]
  simp only [decide_eq_true_eq,key]
  repeat' split
  all_goals simp_all
theorem sK:∀ (d:Nat) (x y:Vec UInt8 8) (w:World),2 ≤ d → (Op.equalIn d 48 (.agg (encs x.l).toArray) (.agg (encs y.l).toArray)).run Tryz.prog w = .ok (decide (x = y)) w :=
  EqSpec.vecOne Tryz.underlying48 Tryz.sizeOf5 rfl Tryz.isAgg5 (fun _=>rfl) (EqSpec.u8 Tryz.underlying5)
theorem gS (d:Nat) (x y:LSlot) (w:World) (hd:6 ≤ d):(Op.equalIn d 50 (.agg x.enc.toArray) (.agg y.enc.toArray)).run Tryz.prog w = .ok (decide (x = y)) w:=by
  obtain ⟨d,rfl⟩ : ∃ d',d = d' + 1:=⟨d - 1,by omega⟩
  rw [run_equalIn_struct w d 50 _ _ (by simp only [Program.fieldsOf,Tryz.underlying50]) Tryz.stoodInHeld50]
  simp only [Program.fieldsOf,Tryz.underlying50]
  have key:(x = y) ↔ x.ptr = y.ptr ∧ x.bytes = y.bytes ∧ x.mask = y.mask:=by cases x; cases y; simp
  rw [fX (by decide) Tryz.isAgg46 Tryz.sizeOf46 (LSlot.c_ptr x) (LSlot.c_ptr y) (fY d _ _ w (by omega))]
  rw [fX (by decide) Tryz.isAgg48 Tryz.sizeOf48 (LSlot.c_bytes x) (LSlot.c_bytes y) (sK d _ _ w (by omega))]
  rw [cZ (by decide) Tryz.isAgg3 (LSlot.g_mask x) (LSlot.g_mask y) ((EqSpec.int (k:=.i64) Tryz.underlying3) d _ _ w (by omega))]
  rw [fD]
  simp only [decide_eq_true_eq,key]
  repeat' split
  all_goals simp_all
theorem xI (d:Nat) (x y:LTurn) (w:World) (hd:6 ≤ d):(Op.equalIn d 128 (.agg x.enc.toArray) (.agg y.enc.toArray)).run Tryz.prog w = .ok (decide (x = y)) w:=by
  obtain ⟨d,rfl⟩ : ∃ d',d = d' + 1:=⟨d - 1,by omega⟩
  rw [run_equalIn_struct w d 128 _ _ (by simp only [Program.fieldsOf,Tryz.underlying128]) Tryz.stoodInHeld128]
  simp only [Program.fieldsOf,Tryz.underlying128]
  have key:(x = y) ↔ x.reg = y.reg ∧ x.old = y.old ∧ x.new = y.new:=by cases x; cases y; simp
  rw [cZ (by decide) Tryz.isAgg3 (LTurn.g_reg x) (LTurn.g_reg y) ((EqSpec.int (k:=.i64) Tryz.underlying3) d _ _ w (by omega))]
  rw [fX (by decide) Tryz.isAgg46 Tryz.sizeOf46 (LTurn.c_old x) (LTurn.c_old y) (fY d _ _ w (by omega))]
  rw [fX (by decide) Tryz.isAgg46 Tryz.sizeOf46 (LTurn.c_new x) (LTurn.c_new y) (fY d _ _ w (by omega))]
  rw [fD]
  simp only [decide_eq_true_eq,key]
  repeat' split
  all_goals simp_all
theorem xH (d:Nat) (x y:LCell) (w:World) (hd:8 ≤ d):(Op.equalIn d 151 (.agg x.enc.toArray) (.agg y.enc.toArray)).run Tryz.prog w = .ok (decide (x = y)) w:=by
  obtain ⟨d,rfl⟩ : ∃ d',d = d' + 1:=⟨d - 1,by omega⟩
  rw [run_equalIn_struct w d 151 _ _ (by simp only [Program.fieldsOf,Tryz.underlying151]) Tryz.stoodInHeld151]
  simp only [Program.fieldsOf,Tryz.underlying151]
  have key:(x = y) ↔ x.slot = y.slot ∧ x.old = y.old ∧ x.new = y.new:=by cases x; cases y; simp
  rw [cZ (by decide) Tryz.isAgg3 (LCell.g_slot x) (LCell.g_slot y) ((EqSpec.int (k:=.i64) Tryz.underlying3) d _ _ w (by omega))]
  rw [fX (by decide) Tryz.isAgg50 Tryz.sizeOf50 (LCell.c_old x) (LCell.c_old y) (gS d _ _ w (by omega))]
  rw [fX (by decide) Tryz.isAgg50 Tryz.sizeOf50 (LCell.c_new x) (LCell.c_new y) (gS d _ _ w (by omega))]
  rw [fD]
  simp only [decide_eq_true_eq,key]
  repeat' split
  all_goals simp_all
theorem z46 (w:World):(zeroValue 46).run Tryz.prog w = .ok (.agg LVal.zero.enc.toArray) w:=(Tryz.zeroValue46 w).trans (by kernel_rfl)
theorem z50 (w:World):(zeroValue 50).run Tryz.prog w = .ok (.agg LSlot.zero.enc.toArray) w:=(Tryz.zeroValue50 w).trans (by kernel_rfl)
theorem z128 (w:World):(zeroValue 128).run Tryz.prog w = .ok (.agg LTurn.zero.enc.toArray) w:=(Tryz.zeroValue128 w).trans (by kernel_rfl)
theorem z151 (w:World):(zeroValue 151).run Tryz.prog w = .ok (.agg LCell.zero.enc.toArray) w:=(Tryz.zeroValue151 w).trans (by kernel_rfl)
theorem z156 (w:World):(zeroValue 156).run Tryz.prog w = .ok (.agg RPiece.zero.enc.toArray) w:=(Tryz.zeroValue156 w).trans (by kernel_rfl)
theorem z60 (w:World):(zeroValue 60).run Tryz.prog w = .ok (.agg RMark.zero.enc.toArray) w:=(Tryz.zeroValue60 w).trans (by kernel_rfl)
theorem z36 (w:World):(zeroValue 36).run Tryz.prog w = .ok (.agg RRecord.zero.enc.toArray) w:=(Tryz.zeroValue36 w).trans (by kernel_rfl)
theorem z167 (w:World):(zeroValue 167).run Tryz.prog w = .ok (.agg RWriter.zero.enc.toArray) w:=(Tryz.zeroValue167 w).trans (by kernel_rfl)
theorem z176 (w:World):(zeroValue 176).run Tryz.prog w = .ok (.agg RReader.zero.enc.toArray) w:=(Tryz.zeroValue176 w).trans (by kernel_rfl)
theorem in3:Tryz.prog.info? 3 = some Tryz.t3:=by kernel_rfl
theorem in4:Tryz.prog.info? 4 = some Tryz.t4:=by kernel_rfl
theorem in5:Tryz.prog.info? 5 = some Tryz.t5:=by kernel_rfl
theorem in23:Tryz.prog.info? 23 = some Tryz.t23:=by kernel_rfl
theorem in28:Tryz.prog.info? 28 = some Tryz.t28:=by kernel_rfl
theorem in30:Tryz.prog.info? 30 = some Tryz.t30:=by kernel_rfl
theorem in33:Tryz.prog.info? 33 = some Tryz.t33:=by kernel_rfl
theorem in34:Tryz.prog.info? 34 = some Tryz.t34:=by kernel_rfl
theorem in46:Tryz.prog.info? 46 = some Tryz.t46:=by kernel_rfl
theorem in48:Tryz.prog.info? 48 = some Tryz.t48:=by kernel_rfl
theorem in50:Tryz.prog.info? 50 = some Tryz.t50:=by kernel_rfl
theorem in52:Tryz.prog.info? 52 = some Tryz.t52:=by kernel_rfl
theorem in56:Tryz.prog.info? 56 = some Tryz.t56:=by kernel_rfl
theorem in57:Tryz.prog.info? 57 = some Tryz.t57:=by kernel_rfl
theorem in58:Tryz.prog.info? 58 = some Tryz.t58:=by kernel_rfl
theorem in60:Tryz.prog.info? 60 = some Tryz.t60:=by kernel_rfl
theorem in128:Tryz.prog.info? 128 = some Tryz.t128:=by kernel_rfl
theorem in151:Tryz.prog.info? 151 = some Tryz.t151:=by kernel_rfl
theorem in156:Tryz.prog.info? 156 = some Tryz.t156:=by kernel_rfl
theorem pl46:∀ w,(plc Tryz.prog 46).run Tryz.prog w = .ok #[(0,1),(1,1),(2,1),(3,1)] w:=fun w=>by kernel_rfl
theorem pl50:∀ w,(plc Tryz.prog 50).run Tryz.prog w = .ok #[(0,4),(4,8),(12,1)] w:=fun w=>by kernel_rfl
theorem pl128:∀ w,(plc Tryz.prog 128).run Tryz.prog w = .ok #[(0,1),(1,4),(5,4)] w:=fun w=>by kernel_rfl
theorem pl151:∀ w,(plc Tryz.prog 151).run Tryz.prog w = .ok #[(0,1),(1,13),(14,13)] w:=fun w=>by kernel_rfl
theorem pl156:∀ w,(plc Tryz.prog 156).run Tryz.prog w = .ok #[(0,1),(1,1),(2,1),(3,1)] w:=fun w=>by kernel_rfl
theorem pl60:∀ w,(plc Tryz.prog 60).run Tryz.prog w = .ok #[(0,1),(1,1),(2,1),(3,1),(4,1),(5,1),(6,1)] w:=fun w=>by kernel_rfl
theorem pl36:∀ w,(plc Tryz.prog 36).run Tryz.prog w = .ok #[(0,2),(2,1),(3,1)] w:=fun w=>by kernel_rfl
theorem pl167:∀ w,(plc Tryz.prog 167).run Tryz.prog w = .ok #[(0,1)] w:=fun w=>by kernel_rfl
theorem pl176:∀ w,(plc Tryz.prog 176).run Tryz.prog w = .ok #[(0,1),(1,1),(2,1),(3,1)] w:=fun w=>by kernel_rfl
end Go.Proofs
end
section
namespace Go.Proofs
open Go.Fw Go.Fx
set_option maxRecDepth 10000
set_option linter.unusedVariables false
set_option linter.unusedSimpArgs false
theorem fM {x0:List UInt8} {s:SV} {Bf:World → Prop} {Lr:List Res} {out:List UInt8} {w0:World} (hP:Sh.iF x0 = some out) (hM:MemL w0 Lr) (hsub:∀ w,MemL w Lr → Bf w) (f:LIn Bf s x0):Calls Tryz.prog 73 #[(s).v] w0 (Ret fun v w'=>∃ (s:SV),v = (s).v ∧ MemL w' (rowL 0 s 5 out :: Lr)):=by
 unfold Sh.iF at hP
 refine aM (vs:=[(s).v]) Tryz.func73 rfl Tryz.ntmps73 rfl fun a hF=>?_
 refine aH ?_
 refine aC ?_
 refine aA hF (aG hF rfl rfl) rfl rfl rfl fun a hF=>?_
 refine aI (aB ?_)
 refine aH ?_
 refine aH ?_
 refine aC ?_
 refine aA hF (aF hF rfl rfl) rfl rfl rfl fun a hF=>?_
 refine aA hF (gT Tryz.underlying23 hF rfl rfl rfl) rfl rfl rfl fun a hF=>?_
 refine aI (aB ?_)
 refine aR hF (c:=.tmp 4) rfl (fun hb=>?_) (fun hb=>?_)
 ·have hn:=(f _ (hsub _ hM)).isNil hb
  subst hn
  have ho:=(dU hP).2
  subst ho
  refine aH ?_
  refine aC ?_
  refine aA hF (aG hF rfl rfl) rfl rfl rfl fun a hF=>?_
  refine aI (aB ?_)
  refine c_ret ?_
  refine kJ ?_
  refine aY Tryz.results73 hF rfl ?_
  exact ⟨SV.nil,rfl,hM.rowNil (X:=UInt8) 0 5⟩
 refine aT (aB ?_)
 refine aH ?_
 refine aC ?_
 refine aN hF rfl rfl rfl (gX (X:=UInt8) 0 (Nat.zero_le _) Tryz.underlying23 in5 rfl fun s1 w hA=>?_)
 have hM:=hM.plus hA
 intro a hF
 refine aA hF (aF hF rfl rfl) rfl rfl rfl fun a hF=>?_
 refine aN hF rfl rfl rfl (dE (X:=UInt8) hP Tryz.underlying23 in5 rfl rfl rfl rfl hF rfl rfl rfl (hM.own (X:=UInt8) (i:=0) rfl) (f _ (hsub _ (dropM hM 1))) fun s2 w hU=>?_)
 have hM:=hM.chg hU (i:=0) rfl
 intro a hF
 refine aA hF (aG hF rfl rfl) rfl rfl rfl fun a hF=>?_
 refine aI (aB ?_)
 refine c_ret ?_
 refine aY Tryz.results73 hF rfl ?_
 exact ⟨s2,rfl,hM⟩
end Go.Proofs
end
section
namespace Go.Proofs
open Go.Fw Go.Fx
set_option maxRecDepth 10000
set_option linter.unusedVariables false
set_option linter.unusedSimpArgs false
set_option maxHeartbeats 4000000 in
theorem dB {x0:QReader} {x1:Int} {x2:Int} {s1:SV} {b0:Nat} {out:QReader} {w0:World} {Bf:World → Prop} {Lr:List Res} (hP:Sh.aB x0 x1 x2 = some out) (hM:MemL w0 (pt b0 (RReader.enc (RReader.mk s1 x0.at_ x0.place x0.e)) 176 :: Lr)) (hsub:∀ w,MemL w Lr → Bf w) (f2:LIn Bf s1 x0.b):Calls Tryz.prog 112 #[.pointer (some ⟨b0,0,none⟩),.int .i64 x1,.int .i64 x2] w0 (Ret fun v w'=>∃ (s6:SV),v = .tuple #[] ∧ LIn Bf s6 out.b ∧ MemL w' (pt b0 (RReader.enc (RReader.mk s6 out.at_ out.place out.e)) 176 :: Lr)):=by
 unfold Sh.aB at hP
 refine aM (vs:=[.pointer (some ⟨b0,0,none⟩),.int .i64 x1,.int .i64 x2]) Tryz.func112 rfl Tryz.ntmps112 rfl fun a hF=>?_
 refine aH ?_
 refine aC ?_
 refine aA hF (aF hF rfl rfl) rfl rfl rfl fun a hF=>?_
 refine aA hF (aX hF rfl rfl) rfl rfl rfl fun a hF=>?_
 refine aA hF (aD (off':=3) Tryz.underlying176 rfl in34 rfl hF rfl rfl rfl) rfl rfl rfl fun a hF=>?_
 refine aA hF (aJ Tryz.isAgg34 hF rfl rfl (hM.cell (i:=0) rfl (RReader.g_e _))) rfl rfl rfl fun a hF=>?_
 refine aA hF (cE hF rfl rfl rfl) rfl rfl rfl fun a hF=>?_
 refine aI (aB ?_)
 refine aR hF (c:=.tmp 10) rfl (fun hb8=>?_) (fun hb8=>?_)
 ·have hP:=Fx.cT hb8 hP
  refine aC ?_
  refine aA hF (aF hF rfl rfl) rfl rfl rfl fun a hF=>?_
  refine aA hF (aF hF rfl rfl) rfl rfl rfl fun a hF=>?_
  refine aA hF (aF hF rfl rfl) rfl rfl rfl fun a hF=>?_
  refine aA hF (aF hF rfl rfl) rfl rfl rfl fun a hF=>?_
  refine aA hF (aX hF rfl rfl) rfl rfl rfl fun a hF=>?_
  refine aA hF (aD (off':=2) Tryz.underlying176 rfl in3 rfl hF rfl rfl rfl) rfl rfl rfl fun a hF=>?_
  refine bO rfl rfl (bZ Tryz.sizeOf3 (hM.obj (i:=0) rfl) hF rfl rfl rfl rfl (by rw [RReader.len]; decide) (RReader.s_place _ _) fun w hU9=>?_)
  have hM:=hM.chg hU9 (i:=0) rfl
  replace hM:MemL _ (pt b0 (RReader.enc (RReader.mk s1 x0.at_ x1 x0.e)) 176 :: Lr):=hM
  refine aA hF (aX hF rfl rfl) rfl rfl rfl fun a hF=>?_
  refine aA hF (aD (off':=3) Tryz.underlying176 rfl in34 rfl hF rfl rfl rfl) rfl rfl rfl fun a hF=>?_
  refine bO rfl rfl (bZ Tryz.sizeOf34 (hM.obj (i:=0) rfl) hF rfl rfl rfl rfl (by rw [RReader.len]; decide) (RReader.s_e _ _) fun w hU10=>?_)
  have hM:=hM.chg hU10 (i:=0) rfl
  replace hM:MemL _ (pt b0 (RReader.enc (RReader.mk s1 x0.at_ x1 x2)) 176 :: Lr):=hM
  refine aI ?_
  have hP:=Option.some.inj hP
  subst hP
  refine eI Tryz.results112 hF ?_
  exact ⟨s1,rfl,f2,hM⟩
 have hP:=Fx.cF hb8 hP
 refine aT ?_
 have hP:=Option.some.inj hP
 subst hP
 refine eI Tryz.results112 hF ?_
 exact ⟨s1,rfl,f2,hM⟩
set_option maxHeartbeats 4000000 in
theorem dO {x0:QReader} {x1:Int} {s1:SV} {b0:Nat} {out:(List UInt8 × QReader)} {w0:World} {Bf:World → Prop} {Lr:List Res} (hP:Sh.aT x0 x1 = some out) (hM:MemL w0 (pt b0 (RReader.enc (RReader.mk s1 x0.at_ x0.place x0.e)) 176 :: Lr)) (hsub:∀ w,MemL w Lr → Bf w) (f2:LIn Bf s1 x0.b):Calls Tryz.prog 111 #[.pointer (some ⟨b0,0,none⟩),.int .i64 x1] w0 (Ret fun v w'=>∃ (s26:SV) (s28:SV),v = (s26).v ∧ LIn Bf s26 out.1 ∧ LIn Bf s28 out.2.b ∧ MemL w' (pt b0 (RReader.enc (RReader.mk s28 out.2.at_ out.2.place out.2.e)) 176 :: Lr)):=by
 unfold Sh.aT at hP
 refine aM (vs:=[.pointer (some ⟨b0,0,none⟩),.int .i64 x1]) Tryz.func111 rfl Tryz.ntmps111 rfl fun a hF=>?_
 refine aH ?_
 refine aC ?_
 refine aA hF (aG hF rfl rfl) rfl rfl rfl fun a hF=>?_
 refine aI (aB ?_)
 refine aH ?_
 refine aS hF hM hP (fun F x a w=>match x with | v40=>∃ (s41:SV),LIn Bf s41 v40.b ∧ Fr 52 [(0,.pointer (some ⟨b0,0,none⟩)),(1,.int .i64 x1),(4,(SV.nil).v)] a ∧ MemL w (pt b0 (RReader.enc (RReader.mk s41 v40.at_ v40.place v40.e)) 176 :: Lr)) (fun c1 hP c0 hF hM=>?_) ?_
 ·refine aH ?_
  refine bQ mixed (by kernel_rfl) hM [0] 1 rfl fun hch=>?_
  refine aL hF hch 0 rfl (by kernel_rfl) rfl rfl rfl (fun w hM=>(aF hF rfl rfl)) fun a hF=>?_
  refine aL hF hch 1 rfl (by kernel_rfl) rfl rfl rfl (fun w hM=>(aF hF rfl rfl)) fun a hF=>?_
  refine aL hF hch 2 rfl (by kernel_rfl) rfl rfl rfl (fun w hM=>(aX hF rfl rfl)) fun a hF=>?_
  refine aL hF hch 3 rfl (by kernel_rfl) rfl rfl rfl (fun w hM=>(aD (off':=0) Tryz.underlying176 rfl in23 rfl hF rfl rfl rfl)) fun a hF=>?_
  refine aL hF hch 4 rfl (by kernel_rfl) rfl rfl rfl (fun w hM=>(aJ Tryz.isAgg23 hF rfl rfl (hM.cell (i:=0) rfl (RReader.g_b _)))) fun a hF=>?_
  refine aL hF hch 5 rfl (by kernel_rfl) rfl rfl rfl (fun w hM=>(bG (f2 _ (hsub _ (dropM hM 1))) Tryz.underlying23 hF rfl rfl)) fun a hF=>?_
  refine aL hF hch 6 rfl (by kernel_rfl) rfl rfl rfl (fun w hM=>(aF hF rfl rfl)) fun a hF=>?_
  refine aL hF hch 7 rfl (by kernel_rfl) rfl rfl rfl (fun w hM=>(aX hF rfl rfl)) fun a hF=>?_
  refine aL hF hch 8 rfl (by kernel_rfl) rfl rfl rfl (fun w hM=>(aD (off':=1) Tryz.underlying176 rfl in3 rfl hF rfl rfl rfl)) fun a hF=>?_
  refine aL hF hch 9 rfl (by kernel_rfl) rfl rfl rfl (fun w hM=>(aJ Tryz.isAgg3 hF rfl rfl (hM.cell (i:=0) rfl (RReader.g_at_ _)))) fun a hF=>?_
  refine aL hF hch 10 rfl (by kernel_rfl) rfl rfl rfl (fun w hM=>(fH hF rfl rfl rfl)) fun a hF=>?_
  refine aL hF hch 11 rfl (by kernel_rfl) rfl rfl rfl (fun w hM=>(eJ hF rfl rfl rfl)) fun a hF=>?_
  refine cI hch (by kernel_rfl) fun w hM=>?_
  refine aB ?_
  refine aR hF (c:=.tmp 16) rfl (fun hb43=>?_) (fun hb43=>?_)
  ·have hP:=Fx.cT hb43 hP
   refine aC ?_
   refine aA hF (aF hF rfl rfl) rfl rfl rfl fun a hF=>?_
   refine aA hF (aF hF rfl rfl) rfl rfl rfl fun a hF=>?_
   refine aA hF (aX hF rfl rfl) rfl rfl rfl fun a hF=>?_
   refine aA hF (aD (off':=0) Tryz.underlying176 rfl in23 rfl hF rfl rfl rfl) rfl rfl rfl fun a hF=>?_
   refine aA hF (aJ Tryz.isAgg23 hF rfl rfl (hM.cell (i:=0) rfl (RReader.g_b _))) rfl rfl rfl fun a hF=>?_
   refine aA hF (bG (f2 _ (hsub _ (dropM hM 1))) Tryz.underlying23 hF rfl rfl) rfl rfl rfl fun a hF=>?_
   obtain ⟨y45,hy45,hP⟩:=bind_some hP
   refine aN hF rfl rfl rfl (aO (xs:=[.tmp 17,.tmp 22,.const (.int .i64 (236))]) Tryz.call112 hF rfl rfl (dB hy45 hM (Bf:=Bf) (fun w hM=>hsub _ (dropM hM 0)) f2) fun v w hR=>?_)
   obtain ⟨s46,rfl,f47,hM⟩:=hR
   replace hM:MemL _ (pt b0 (RReader.enc (RReader.mk s46 y45.at_ y45.place y45.e)) 176 :: Lr):=hM
   intro a hF
   refine aI (aB ?_)
   have hP:=Option.some.inj hP
   subst hP
   exact ⟨y45,rfl,s46,f47,hF.to ⟨rfl,rfl,rfl,trivial⟩,hM⟩
  have hP:=Fx.cF hb43 hP
  refine aT (aB ?_)
  have hP:=Option.some.inj hP
  subst hP
  exact ⟨x0,rfl,s1,f2,hF.to ⟨rfl,rfl,rfl,trivial⟩,hM⟩
 rintro v40 a w hP ⟨s41,f42,hF,hM⟩
 replace hP:Sh.cA x1 v40 = _:=hP
 unfold Sh.cA at hP
 refine aB ?_
 refine aH ?_
 refine aH ?_
 refine aC ?_
 refine aA hF (aF hF rfl rfl) rfl rfl rfl fun a hF=>?_
 refine aA hF (aX hF rfl rfl) rfl rfl rfl fun a hF=>?_
 refine aA hF (aD (off':=3) Tryz.underlying176 rfl in34 rfl hF rfl rfl rfl) rfl rfl rfl fun a hF=>?_
 refine aA hF (aJ Tryz.isAgg34 hF rfl rfl (hM.cell (i:=0) rfl (RReader.g_e _))) rfl rfl rfl fun a hF=>?_
 refine aA hF (cW hF rfl rfl rfl) rfl rfl rfl fun a hF=>?_
 refine aI (aB ?_)
 refine aR hF (c:=.tmp 28) rfl (fun hb49=>?_) (fun hb49=>?_)
 ·have hP:=Fx.cT hb49 hP
  refine aH ?_
  refine aC ?_
  refine aA hF (aG hF rfl rfl) rfl rfl rfl fun a hF=>?_
  refine aI (aB ?_)
  refine c_ret ?_
  have hP:=Option.some.inj hP
  subst hP
  refine aY Tryz.results111 hF rfl ?_
  exact ⟨SV.nil,s41,rfl,LIn.nil,f42,hM⟩
 have hP:=Fx.cF hb49 hP
 refine aT (aB ?_)
 refine aH ?_
 refine aC ?_
 refine aA hF (aF hF rfl rfl) rfl rfl rfl fun a hF=>?_
 refine aA hF (aX hF rfl rfl) rfl rfl rfl fun a hF=>?_
 refine aA hF (aD (off':=1) Tryz.underlying176 rfl in3 rfl hF rfl rfl rfl) rfl rfl rfl fun a hF=>?_
 refine aA hF (aJ Tryz.isAgg3 hF rfl rfl (hM.cell (i:=0) rfl (RReader.g_at_ _))) rfl rfl rfl fun a hF=>?_
 refine aA hF (aF hF rfl rfl) rfl rfl rfl fun a hF=>?_
 refine aA hF (cA hF rfl rfl rfl) rfl rfl rfl fun a hF=>?_
 refine aA hF (aX hF rfl rfl) rfl rfl rfl fun a hF=>?_
 refine aA hF (aD (off':=1) Tryz.underlying176 rfl in3 rfl hF rfl rfl rfl) rfl rfl rfl fun a hF=>?_
 refine bO rfl rfl (bZ Tryz.sizeOf3 (hM.obj (i:=0) rfl) hF rfl rfl rfl rfl (by rw [RReader.len]; decide) (RReader.s_at_ _ _) fun w hU50=>?_)
 have hM:=hM.chg hU50 (i:=0) rfl
 replace hM:MemL _ (pt b0 (RReader.enc (RReader.mk s41 (IntKind.i64.wrap (v40.at_ + x1)) v40.place v40.e)) 176 :: Lr):=hM
 refine aI (aB ?_)
 refine aH ?_
 refine bQ mixed (by kernel_rfl) hM [0] 1 rfl fun hch=>?_
 refine aL hF hch 0 rfl (by kernel_rfl) rfl rfl rfl (fun w hM=>(aF hF rfl rfl)) fun a hF=>?_
 refine aL hF hch 1 rfl (by kernel_rfl) rfl rfl rfl (fun w hM=>(aX hF rfl rfl)) fun a hF=>?_
 refine aL hF hch 2 rfl (by kernel_rfl) rfl rfl rfl (fun w hM=>(aD (off':=0) Tryz.underlying176 rfl in23 rfl hF rfl rfl rfl)) fun a hF=>?_
 refine aL hF hch 3 rfl (by kernel_rfl) rfl rfl rfl (fun w hM=>(aJ Tryz.isAgg23 hF rfl rfl (hM.cell (i:=0) rfl (RReader.g_b _)))) fun a hF=>?_
 refine aL hF hch 4 rfl (by kernel_rfl) rfl rfl rfl (fun w hM=>(aF hF rfl rfl)) fun a hF=>?_
 refine aL hF hch 5 rfl (by kernel_rfl) rfl rfl rfl (fun w hM=>(aX hF rfl rfl)) fun a hF=>?_
 refine aL hF hch 6 rfl (by kernel_rfl) rfl rfl rfl (fun w hM=>(aD (off':=1) Tryz.underlying176 rfl in3 rfl hF rfl rfl rfl)) fun a hF=>?_
 refine aL hF hch 7 rfl (by kernel_rfl) rfl rfl rfl (fun w hM=>(aJ Tryz.isAgg3 hF rfl rfl (hM.cell (i:=0) rfl (RReader.g_at_ _)))) fun a hF=>?_
 refine aL hF hch 8 rfl (by kernel_rfl) rfl rfl rfl (fun w hM=>(aF hF rfl rfl)) fun a hF=>?_
 refine aL hF hch 9 rfl (by kernel_rfl) rfl rfl rfl (fun w hM=>(fH hF rfl rfl rfl)) fun a hF=>?_
 refine aL hF hch 10 rfl (by kernel_rfl) rfl rfl rfl (fun w hM=>(aF hF rfl rfl)) fun a hF=>?_
 refine aL hF hch 11 rfl (by kernel_rfl) rfl rfl rfl (fun w hM=>(aX hF rfl rfl)) fun a hF=>?_
 refine aL hF hch 12 rfl (by kernel_rfl) rfl rfl rfl (fun w hM=>(aD (off':=1) Tryz.underlying176 rfl in3 rfl hF rfl rfl rfl)) fun a hF=>?_
 refine aL hF hch 13 rfl (by kernel_rfl) rfl rfl rfl (fun w hM=>(aJ Tryz.isAgg3 hF rfl rfl (hM.cell (i:=0) rfl (RReader.g_at_ _)))) fun a hF=>?_
 obtain ⟨x52,hx52,hP⟩:=bind_some hP
 refine aL hF hch 14 rfl (by kernel_rfl) rfl rfl rfl (fun w hM=>(iZ (f42 _ (hsub _ (dropM hM 1))) hx52 Tryz.underlying23 in5 rfl hF rfl rfl (.inr ⟨_,_,rfl,rfl⟩) (.inr ⟨_,_,rfl,rfl⟩))) fun a hF=>?_
 refine aL hF hch 15 rfl (by kernel_rfl) rfl rfl rfl (fun w hM=>(aG hF rfl rfl)) fun a hF=>?_
 refine cI hch (by kernel_rfl) fun w hM=>?_
 refine aB ?_
 refine c_ret ?_
 have hP:=Option.some.inj hP
 subst hP
 refine aY Tryz.results111 hF rfl ?_
 exact ⟨(s41.cut ((IntKind.i64.wrap ((IntKind.i64.wrap (v40.at_ + x1)) - x1)):Int).toNat ((IntKind.i64.wrap (v40.at_ + x1)):Int).toNat 1),s41,rfl,(LIn.slc f42 hx52 rfl),f42,hM⟩
set_option maxHeartbeats 4000000 in
theorem bE {x0:QReader} {x1:Int} {s1:SV} {b0:Nat} {out:(Int × QReader)} {w0:World} {Bf:World → Prop} {Lr:List Res} (hP:Sh.aA x0 x1 = some out) (hM:MemL w0 (pt b0 (RReader.enc (RReader.mk s1 x0.at_ x0.place x0.e)) 176 :: Lr)) (hsub:∀ w,MemL w Lr → Bf w) (f2:LIn Bf s1 x0.b):Calls Tryz.prog 113 #[.pointer (some ⟨b0,0,none⟩),.int .i64 x1] w0 (Ret fun v w'=>∃ (s91:SV),v = .int .i64 out.1 ∧ LIn Bf s91 out.2.b ∧ MemL w' (pt b0 (RReader.enc (RReader.mk s91 out.2.at_ out.2.place out.2.e)) 176 :: Lr)):=by
 unfold Sh.aA at hP
 refine aM (vs:=[.pointer (some ⟨b0,0,none⟩),.int .i64 x1]) Tryz.func113 rfl Tryz.ntmps113 rfl fun a hF=>?_
 refine aH ?_
 refine aC ?_
 refine aA hF (aG hF rfl rfl) rfl rfl rfl fun a hF=>?_
 refine aI (aB ?_)
 refine aH ?_
 refine aC ?_
 refine aA hF (aG hF rfl rfl) rfl rfl rfl fun a hF=>?_
 refine aI (aB ?_)
 refine aH ?_
 refine aS hF hM hP (fun F x a w=>match x with | (c1,c8)=>∃ (c5:SV),LIn Bf c5 c1.b ∧ Fr 26 [(5,.int .i64 c8),(4,.int .i64 0)] a ∧ MemL w (pt b0 (RReader.enc (RReader.mk c5 c1.at_ c1.place c1.e)) 176 :: Lr)) (fun d9 hP d8 hF hM=>?_) ?_
 ·refine aH ?_
  refine aC ?_
  refine aA hF (aF hF rfl rfl) rfl rfl rfl fun a hF=>?_
  refine aA hF (aF hF rfl rfl) rfl rfl rfl fun a hF=>?_
  obtain ⟨c0,d3,hP⟩:=bind_some hP
  refine aN hF rfl rfl rfl (aO (xs:=[.tmp 8,.tmp 9]) Tryz.call111 hF rfl rfl (dO d3 hM (Bf:=Bf) (fun w hM=>hsub _ (dropM hM 0)) f2) fun v w hR=>?_)
  obtain ⟨d6,c7,rfl,c6,d5,hM⟩:=hR
  replace hM:MemL _ (pt b0 (RReader.enc (RReader.mk c7 c0.2.at_ c0.2.place c0.2.e)) 176 :: Lr):=hM
  intro a hF
  refine aA hF (bG (c6 _ (hsub _ (dropM hM 1))) Tryz.underlying23 hF rfl rfl) rfl rfl rfl fun a hF=>?_
  refine aA hF (aF hF rfl rfl) rfl rfl rfl fun a hF=>?_
  refine aI (aB ?_)
  refine aV ?_
  refine bN hF hM hP (fun F x a w=>match x with | (c2,c3)=>Fr 26 [(12,.int .i64 c2),(5,.int .i64 c3),(10,(d6).v),(11,.int .i64 (c0.1.length:Int)),(4,.int .i64 0)] a ∧ MemL w (pt b0 (RReader.enc (RReader.mk c7 c0.2.at_ c0.2.place c0.2.e)) 176 :: Lr)) (fun hF hM=>⟨hF.to ⟨rfl,rfl,rfl,rfl,rfl,trivial⟩,hM⟩) ?_
  rintro ⟨c2,c3⟩ a w g0 hP d1 ⟨hF,hM⟩
  replace hP:Sh.dT c0 c2 c3 = _:=hP
  unfold Sh.dT at hP
  refine aH ?_
  refine aC ?_
  refine aA hF (cH hF rfl rfl rfl) rfl rfl rfl fun a hF=>?_
  refine aI (aB ?_)
  refine aH ?_
  refine aR hF (c:=.tmp 13) rfl (fun c4=>?_) (fun c4=>?_)
  ·have hP:=Fx.cT c4 hP
   refine aT (aB ?_)
   refine aH ?_
   refine aV ?_
   refine aH ?_
   refine aC ?_
   refine aA hF (aF hF rfl rfl) rfl rfl rfl fun a hF=>?_
   obtain ⟨d7,c9,hP⟩:=bind_some hP
   have d0:=aW c9
   refine aA hF (bC (sz:=1) (c6 _ (hsub _ (dropM hM 1))) Tryz.underlying23 in5 rfl hF rfl rfl rfl (bK c9)) rfl rfl rfl fun a hF=>?_
   refine aA hF (aJ Tryz.isAgg5 hF rfl rfl ((((c6 _ (hsub _ (dropM hM 1))).elemS d0.2)).get 0 rfl)) rfl rfl rfl fun a hF=>?_
   refine aA hF (aG hF rfl rfl) rfl rfl rfl fun a hF=>?_
   refine aA hF (aG hF rfl rfl) rfl rfl rfl fun a hF=>?_
   refine aI (aB ?_)
   refine aC ?_
   refine aA hF (aF hF rfl rfl) rfl rfl rfl fun a hF=>?_
   refine aA hF (aF hF rfl rfl) rfl rfl rfl fun a hF=>?_
   refine aA hF (uU Tryz.underlying5 Tryz.underlying3 rfl hF rfl rfl) rfl rfl rfl fun a hF=>?_
   refine aA hF (aF hF rfl rfl) rfl rfl rfl fun a hF=>?_
   refine aA hF (uW hF rfl rfl rfl) rfl rfl rfl fun a hF=>?_
   obtain ⟨d2,hP⟩:=gA hP
   refine aA hF (aCl hF rfl rfl rfl (of_decide_eq_true d2)) rfl rfl rfl fun a hF=>?_
   refine aA hF (aC6 hF rfl rfl rfl) rfl rfl rfl fun a hF=>?_
   refine aA hF (aG hF rfl rfl) rfl rfl rfl fun a hF=>?_
   refine aI (bI (aB ?_))
   refine aC ?_
   refine aA hF (cA hF rfl rfl rfl) rfl rfl rfl fun a hF=>?_
   refine aA hF (aF hF rfl rfl) rfl rfl rfl fun a hF=>?_
   refine aI (aB ?_)
   have hP:=Option.some.inj hP
   subst hP
   exact ⟨((IntKind.i64.wrap (c2 + 1)),(bor .i64 c3 (shl .i64 (d7.toNat:Int) ((IntKind.i64.wrap (8 * c2))).toNat))),rfl,hF.to ⟨rfl,rfl,rfl,rfl,rfl,trivial⟩,hM⟩
  have hP:=Fx.cF c4 hP
  refine bW (bD (bD (cG ?_)))
  refine aB ?_
  have hP:=Option.some.inj hP
  subst hP
  have hP:=d1 _ rfl
  subst hP
  exact ⟨(c0.2,c3),rfl,c7,d5,hF.to ⟨rfl,rfl,trivial⟩,hM⟩
 rintro ⟨c1,c8⟩ a w hP ⟨c5,d4,hF,hM⟩
 replace hP:Sh.jE c1 c8 = _:=hP
 unfold Sh.jE at hP
 refine aB ?_
 refine aH ?_
 refine aC ?_
 refine aA hF (aF hF rfl rfl) rfl rfl rfl fun a hF=>?_
 refine aA hF (aG hF rfl rfl) rfl rfl rfl fun a hF=>?_
 refine aI (aB ?_)
 refine c_ret ?_
 have hP:=Option.some.inj hP
 subst hP
 refine aY Tryz.results113 hF rfl ?_
 exact ⟨c5,rfl,d4,hM⟩
set_option maxHeartbeats 4000000 in
theorem cP {x0:QReader} {x1:Int} {s1:SV} {b0:Nat} {out:(Int × QReader)} {w0:World} {Bf:World → Prop} {Lr:List Res} (hP:Sh.aN x0 x1 = some out) (hM:MemL w0 (pt b0 (RReader.enc (RReader.mk s1 x0.at_ x0.place x0.e)) 176 :: Lr)) (hsub:∀ w,MemL w Lr → Bf w) (f2:LIn Bf s1 x0.b):Calls Tryz.prog 115 #[.pointer (some ⟨b0,0,none⟩),.int .i64 x1] w0 (Ret fun v w'=>∃ (s17:SV),v = .int .i64 out.1 ∧ LIn Bf s17 out.2.b ∧ MemL w' (pt b0 (RReader.enc (RReader.mk s17 out.2.at_ out.2.place out.2.e)) 176 :: Lr)):=by
 unfold Sh.aN at hP
 refine aM (vs:=[.pointer (some ⟨b0,0,none⟩),.int .i64 x1]) Tryz.func115 rfl Tryz.ntmps115 rfl fun a hF=>?_
 refine aH ?_
 refine aC ?_
 refine aA hF (aG hF rfl rfl) rfl rfl rfl fun a hF=>?_
 refine aI (aB ?_)
 refine aH ?_
 refine aC ?_
 refine aA hF (aF hF rfl rfl) rfl rfl rfl fun a hF=>?_
 obtain ⟨y20,hy20,hP⟩:=bind_some hP
 refine aN hF rfl rfl rfl (aO (xs:=[.tmp 6,.const (.int .i64 (1))]) Tryz.call113 hF rfl rfl (bE hy20 hM (Bf:=Bf) (fun w hM=>hsub _ (dropM hM 0)) f2) fun v w hR=>?_)
 obtain ⟨s21,rfl,f22,hM⟩:=hR
 replace hM:MemL _ (pt b0 (RReader.enc (RReader.mk s21 y20.2.at_ y20.2.place y20.2.e)) 176 :: Lr):=hM
 intro a hF
 refine aA hF (aG hF rfl rfl) rfl rfl rfl fun a hF=>?_
 refine aI (aB ?_)
 refine aH ?_
 refine aH ?_
 refine aC ?_
 refine aA hF (aF hF rfl rfl) rfl rfl rfl fun a hF=>?_
 refine aA hF (aF hF rfl rfl) rfl rfl rfl fun a hF=>?_
 refine aA hF (eJ hF rfl rfl rfl) rfl rfl rfl fun a hF=>?_
 refine aI (aB ?_)
 refine aR hF (c:=.tmp 10) rfl (fun hb28=>?_) (fun hb28=>?_)
 ·have hP:=Fx.cT hb28 hP
  refine aH ?_
  refine aC ?_
  refine aA hF (aF hF rfl rfl) rfl rfl rfl fun a hF=>?_
  refine aA hF (aF hF rfl rfl) rfl rfl rfl fun a hF=>?_
  refine aA hF (aX hF rfl rfl) rfl rfl rfl fun a hF=>?_
  refine aA hF (aD (off':=1) Tryz.underlying176 rfl in3 rfl hF rfl rfl rfl) rfl rfl rfl fun a hF=>?_
  refine aA hF (aJ Tryz.isAgg3 hF rfl rfl (hM.cell (i:=0) rfl (RReader.g_at_ _))) rfl rfl rfl fun a hF=>?_
  refine aA hF (fH hF rfl rfl rfl) rfl rfl rfl fun a hF=>?_
  obtain ⟨y30,hy30,hP⟩:=bind_some hP
  refine aN hF rfl rfl rfl (aO (xs:=[.tmp 11,.tmp 16,.const (.int .i64 (236))]) Tryz.call112 hF rfl rfl (dB hy30 hM (Bf:=Bf) (fun w hM=>hsub _ (dropM hM 0)) f22) fun v w hR=>?_)
  obtain ⟨s31,rfl,f32,hM⟩:=hR
  replace hM:MemL _ (pt b0 (RReader.enc (RReader.mk s31 y30.at_ y30.place y30.e)) 176 :: Lr):=hM
  intro a hF
  refine aI (aB ?_)
  refine aH ?_
  refine aC ?_
  refine aA hF (aG hF rfl rfl) rfl rfl rfl fun a hF=>?_
  refine aI (aB ?_)
  refine c_ret ?_
  have hP:=Option.some.inj hP
  subst hP
  refine aY Tryz.results115 hF rfl ?_
  exact ⟨s31,rfl,f32,hM⟩
 have hP:=Fx.cF hb28 hP
 refine aT (aB ?_)
 refine aH ?_
 refine aC ?_
 refine aA hF (aF hF rfl rfl) rfl rfl rfl fun a hF=>?_
 refine aA hF (aG hF rfl rfl) rfl rfl rfl fun a hF=>?_
 refine aI (aB ?_)
 refine c_ret ?_
 have hP:=Option.some.inj hP
 subst hP
 refine aY Tryz.results115 hF rfl ?_
 exact ⟨s21,rfl,f22,hM⟩
set_option maxHeartbeats 4000000 in
theorem gL {x0:QReader} {x1:Int} {s1:SV} {b0:Nat} {out:(LVal × QReader)} {w0:World} {Bf:World → Prop} {Lr:List Res} (hP:Sh.aO x0 x1 = some out) (hM:MemL w0 (pt b0 (RReader.enc (RReader.mk s1 x0.at_ x0.place x0.e)) 176 :: Lr)) (hsub:∀ w,MemL w Lr → Bf w) (f2:LIn Bf s1 x0.b):Calls Tryz.prog 228 #[.pointer (some ⟨b0,0,none⟩),.int .i64 x1] w0 (Ret fun v w'=>∃ (s64:SV),v = .agg (LVal.enc out.1).toArray ∧ LIn Bf s64 out.2.b ∧ MemL w' (pt b0 (RReader.enc (RReader.mk s64 out.2.at_ out.2.place out.2.e)) 176 :: Lr)):=by
 unfold Sh.aO at hP
 refine aM (vs:=[.pointer (some ⟨b0,0,none⟩),.int .i64 x1]) Tryz.func228 rfl Tryz.ntmps228 rfl fun a hF=>?_
 refine aH ?_
 refine aC ?_
 refine aN hF rfl rfl rfl (cB z46 (zs:=LVal.zero.enc) rfl rfl fun c0 w g0 c8=>?_)
 have hM:=hM.plus c8
 replace hM:MemL _ (pt c0 (LVal.enc LVal.zero) 46 :: pt b0 (RReader.enc (RReader.mk s1 x0.at_ x0.place x0.e)) 176 :: Lr):=hM
 intro a hF
 refine aI (aB ?_)
 refine aH ?_
 refine aC ?_
 refine aA hF (aF hF rfl rfl) rfl rfl rfl fun a hF=>?_
 refine aA hF (cU z46 Tryz.underlying46 pl46 hF (parts:=[(0,.tmp 6)]) rfl rfl (cN rfl rfl (by rw [LVal.len]; decide) (LVal.s_kind _ _) dI)) rfl rfl rfl fun a hF=>?_
 refine aN hF rfl rfl rfl (cB z46 (zs:=LVal.zero.enc) rfl rfl fun c1 w g1 c9=>?_)
 have hM:=hM.plus c9
 replace hM:MemL _ (pt c1 (LVal.enc LVal.zero) 46 :: pt c0 (LVal.enc LVal.zero) 46 :: pt b0 (RReader.enc (RReader.mk s1 x0.at_ x0.place x0.e)) 176 :: Lr):=hM
 intro a hF
 refine bO rfl rfl (bL (vs:=_) Tryz.sizeOf46 (hM.obj (i:=0) rfl) hF rfl rfl rfl rfl (LVal.len _) (LVal.one _) (by first | (rw [LVal.len,LVal.len]; decide) | (rw [LVal.len]; decide)) (bU ((LVal.len _).trans (LVal.len _).symm)) fun w hU66=>?_)
 have hM:=hM.chg hU66 (i:=0) rfl
 replace hM:MemL _ (pt c1 (LVal.enc (LVal.mk x1 0 0 0)) 46 :: pt c0 (LVal.enc LVal.zero) 46 :: pt b0 (RReader.enc (RReader.mk s1 x0.at_ x0.place x0.e)) 176 :: Lr):=hM
 refine aI (aB ?_)
 refine aH ?_
 refine aS hF hM hP (fun F x a w=>match x with | (v89,v90)=>∃ (s91:SV),LIn Bf s91 v90.b ∧ Fr 22 [(0,.pointer (some ⟨b0,0,none⟩)),(1,.int .i64 x1),(4,.pointer (some ⟨c0,0,none⟩)),(5,.pointer (some ⟨c1,0,none⟩))] a ∧ MemL w (pt c1 (LVal.enc v89) 46 :: pt b0 (RReader.enc (RReader.mk s91 v90.at_ v90.place v90.e)) 176 :: pt c0 (LVal.enc LVal.zero) 46 :: Lr)) (fun g4 hP g2 hF hM=>?_) ?_
 ·refine aH ?_
  refine aC ?_
  refine aA hF (aF hF rfl rfl) rfl rfl rfl fun a hF=>?_
  refine aA hF (cE hF rfl rfl rfl) rfl rfl rfl fun a hF=>?_
  refine aI (aB ?_)
  refine aR hF (c:=.tmp 9) rfl (fun hb93=>?_) (fun hb93=>?_)
  ·have hP:=Fx.cT hb93 hP
   refine aH ?_
   refine aC ?_
   refine aA hF (aF hF rfl rfl) rfl rfl rfl fun a hF=>?_
   obtain ⟨y95,hy95,hP⟩:=bind_some hP
   refine aN hF rfl rfl rfl (aO (xs:=[.tmp 10,.const (.int .i64 (7))]) Tryz.call115 hF rfl rfl (cP hy95 (selM hM [2,0,1] 3 rfl) (Bf:=Bf) (fun w hM=>hsub _ (dropM hM 2)) f2) fun v w hR=>?_)
   obtain ⟨s96,rfl,f97,hM⟩:=hR
   replace hM:MemL _ (pt b0 (RReader.enc (RReader.mk s96 y95.2.at_ y95.2.place y95.2.e)) 176 :: pt c1 (LVal.enc (LVal.mk x1 0 0 0)) 46 :: pt c0 (LVal.enc LVal.zero) 46 :: Lr):=hM
   intro a hF
   refine aA hF (aD (off':=1) Tryz.underlying46 rfl in3 rfl hF rfl rfl rfl) rfl rfl rfl fun a hF=>?_
   refine bO rfl rfl (bZ Tryz.sizeOf3 (hM.obj (i:=1) rfl) hF rfl rfl rfl rfl (by rw [LVal.len]; decide) (LVal.s_table _ _) fun w hU98=>?_)
   have hM:=hM.chg hU98 (i:=1) rfl
   replace hM:MemL _ (pt b0 (RReader.enc (RReader.mk s96 y95.2.at_ y95.2.place y95.2.e)) 176 :: pt c1 (LVal.enc (LVal.mk x1 y95.1 0 0)) 46 :: pt c0 (LVal.enc LVal.zero) 46 :: Lr):=hM
   refine aI (aB ?_)
   refine aC ?_
   refine aA hF (aF hF rfl rfl) rfl rfl rfl fun a hF=>?_
   obtain ⟨c3,d5,hP⟩:=bind_some hP
   refine aN hF rfl rfl rfl (aO (xs:=[.tmp 13,.const (.int .i64 (63))]) Tryz.call115 hF rfl rfl (cP d5 hM (Bf:=Bf) (fun w hM=>hsub _ (dropM hM 2)) f97) fun v w hR=>?_)
   obtain ⟨d0,rfl,d7,hM⟩:=hR
   replace hM:MemL _ (pt b0 (RReader.enc (RReader.mk d0 c3.2.at_ c3.2.place c3.2.e)) 176 :: pt c1 (LVal.enc (LVal.mk x1 y95.1 0 0)) 46 :: pt c0 (LVal.enc LVal.zero) 46 :: Lr):=hM
   intro a hF
   refine aA hF (aD (off':=2) Tryz.underlying46 rfl in3 rfl hF rfl rfl rfl) rfl rfl rfl fun a hF=>?_
   refine bO rfl rfl (bZ Tryz.sizeOf3 (hM.obj (i:=1) rfl) hF rfl rfl rfl rfl (by rw [LVal.len]; decide) (LVal.s_row _ _) fun w d2=>?_)
   have hM:=hM.chg d2 (i:=1) rfl
   replace hM:MemL _ (pt b0 (RReader.enc (RReader.mk d0 c3.2.at_ c3.2.place c3.2.e)) 176 :: pt c1 (LVal.enc (LVal.mk x1 y95.1 c3.1 0)) 46 :: pt c0 (LVal.enc LVal.zero) 46 :: Lr):=hM
   refine aI (aB ?_)
   have hP:=Option.some.inj hP
   subst hP
   exact ⟨((LVal.mk x1 y95.1 c3.1 0),c3.2),rfl,d0,d7,hF.to ⟨rfl,rfl,rfl,rfl,trivial⟩,selM hM [1,0,2] 3 rfl⟩
  have hP:=Fx.cF hb93 hP
  refine aT (aB ?_)
  have hP:=Option.some.inj hP
  subst hP
  exact ⟨((LVal.mk x1 0 0 0),x0),rfl,s1,f2,hF.to ⟨rfl,rfl,rfl,rfl,trivial⟩,selM hM [0,2,1] 3 rfl⟩
 rintro ⟨v89,v90⟩ a w hP ⟨s91,f92,hF,hM⟩
 replace hP:Sh.aR x1 v89 v90 = _:=hP
 unfold Sh.aR at hP
 refine aB ?_
 refine aH ?_
 refine aS hF hM hP (fun F x a w=>match x with | (c6,c2)=>∃ (c5:SV),LIn Bf c5 c2.b ∧ Fr 22 [(4,.pointer (some ⟨c0,0,none⟩)),(5,.pointer (some ⟨c1,0,none⟩))] a ∧ MemL w (pt c1 (LVal.enc c6) 46 :: pt b0 (RReader.enc (RReader.mk c5 c2.at_ c2.place c2.e)) 176 :: pt c0 (LVal.enc LVal.zero) 46 :: Lr)) (fun g5 hP g3 hF hM=>?_) ?_
 ·refine aH ?_
  refine aC ?_
  refine aA hF (aF hF rfl rfl) rfl rfl rfl fun a hF=>?_
  refine aA hF (cW hF rfl rfl rfl) rfl rfl rfl fun a hF=>?_
  refine aI (aB ?_)
  refine aR hF (c:=.tmp 17) rfl (fun c7=>?_) (fun c7=>?_)
  ·have hP:=Fx.cT c7 hP
   refine aC ?_
   refine aA hF (aF hF rfl rfl) rfl rfl rfl fun a hF=>?_
   obtain ⟨c4,d6,hP⟩:=bind_some hP
   refine aN hF rfl rfl rfl (aO (xs:=[.tmp 18,.const (.int .i64 (8))]) Tryz.call113 hF rfl rfl (bE d6 (selM hM [1,0,2] 3 rfl) (Bf:=Bf) (fun w hM=>hsub _ (dropM hM 2)) f92) fun v w hR=>?_)
   obtain ⟨d1,rfl,d9,hM⟩:=hR
   replace hM:MemL _ (pt b0 (RReader.enc (RReader.mk d1 c4.2.at_ c4.2.place c4.2.e)) 176 :: pt c1 (LVal.enc v89) 46 :: pt c0 (LVal.enc LVal.zero) 46 :: Lr):=hM
   intro a hF
   refine aA hF (aD (off':=3) Tryz.underlying46 rfl in3 rfl hF rfl rfl rfl) rfl rfl rfl fun a hF=>?_
   refine bO rfl rfl (bZ Tryz.sizeOf3 (hM.obj (i:=1) rfl) hF rfl rfl rfl rfl (by rw [LVal.len]; decide) (LVal.s_x _ _) fun w d3=>?_)
   have hM:=hM.chg d3 (i:=1) rfl
   replace hM:MemL _ (pt b0 (RReader.enc (RReader.mk d1 c4.2.at_ c4.2.place c4.2.e)) 176 :: pt c1 (LVal.enc (LVal.mk v89.kind v89.table v89.row c4.1)) 46 :: pt c0 (LVal.enc LVal.zero) 46 :: Lr):=hM
   refine aI (aB ?_)
   have hP:=Option.some.inj hP
   subst hP
   exact ⟨((LVal.mk v89.kind v89.table v89.row c4.1),c4.2),rfl,d1,d9,hF.to ⟨rfl,rfl,trivial⟩,selM hM [1,0,2] 3 rfl⟩
  have hP:=Fx.cF c7 hP
  refine aT (aB ?_)
  have hP:=Option.some.inj hP
  subst hP
  exact ⟨(v89,v90),rfl,s91,f92,hF.to ⟨rfl,rfl,trivial⟩,hM⟩
 rintro ⟨c6,c2⟩ a w hP ⟨c5,d8,hF,hM⟩
 replace hP:Sh.aS c6 c2 = _:=hP
 unfold Sh.aS at hP
 refine aB ?_
 refine aH ?_
 refine aC ?_
 refine aA hF (bB Tryz.isAgg46 Tryz.sizeOf46 hF rfl rfl (LVal.len _) (hM.cells (i:=0) rfl (bV (LVal.len _)))) rfl rfl rfl fun a hF=>?_
 refine bO rfl rfl (bL (vs:=_) Tryz.sizeOf46 (hM.obj (i:=2) rfl) hF rfl rfl rfl rfl (LVal.len _) (LVal.one _) (by first | (rw [LVal.len,LVal.len]; decide) | (rw [LVal.len]; decide)) (bU ((LVal.len _).trans (LVal.len _).symm)) fun w d4=>?_)
 have hM:=hM.chg d4 (i:=2) rfl
 replace hM:MemL _ (pt c1 (LVal.enc c6) 46 :: pt b0 (RReader.enc (RReader.mk c5 c2.at_ c2.place c2.e)) 176 :: pt c0 (LVal.enc c6) 46 :: Lr):=hM
 refine aI (aB ?_)
 refine c_ret ?_
 have hP:=Option.some.inj hP
 subst hP
 refine eH (rs:=[.cell 4 46]) Tryz.results228 hF (dK hF rfl Tryz.isAgg46 Tryz.sizeOf46 (LVal.len _) (hM.cells (i:=2) rfl (bV (LVal.len _))) dC) rfl ?_
 exact ⟨c5,rfl,d8,selM hM [1] 3 rfl⟩
set_option maxHeartbeats 4000000 in
theorem gG {x0:QReader} {s1:SV} {b0:Nat} {out:(LVal × QReader)} {w0:World} {Bf:World → Prop} {Lr:List Res} (hP:Sh.cC x0 = some out) (hM:MemL w0 (pt b0 (RReader.enc (RReader.mk s1 x0.at_ x0.place x0.e)) 176 :: Lr)) (hsub:∀ w,MemL w Lr → Bf w) (f2:LIn Bf s1 x0.b):Calls Tryz.prog 185 #[.pointer (some ⟨b0,0,none⟩)] w0 (Ret fun v w'=>∃ (s12:SV),v = .agg (LVal.enc out.1).toArray ∧ LIn Bf s12 out.2.b ∧ MemL w' (pt b0 (RReader.enc (RReader.mk s12 out.2.at_ out.2.place out.2.e)) 176 :: Lr)):=by
 unfold Sh.cC at hP
 refine aM (vs:=[.pointer (some ⟨b0,0,none⟩)]) Tryz.func185 rfl Tryz.ntmps185 rfl fun a hF=>?_
 refine aH ?_
 refine aC ?_
 refine aN hF rfl rfl rfl (cB z46 (zs:=LVal.zero.enc) rfl rfl fun c0 w c2 c1=>?_)
 have hM:=hM.plus c1
 replace hM:MemL _ (pt c0 (LVal.enc LVal.zero) 46 :: pt b0 (RReader.enc (RReader.mk s1 x0.at_ x0.place x0.e)) 176 :: Lr):=hM
 intro a hF
 refine aI (aB ?_)
 refine aH ?_
 refine aC ?_
 refine aA hF (aF hF rfl rfl) rfl rfl rfl fun a hF=>?_
 refine aA hF (aF hF rfl rfl) rfl rfl rfl fun a hF=>?_
 obtain ⟨y15,hy15,hP⟩:=bind_some hP
 refine aN hF rfl rfl rfl (aO (xs:=[.tmp 4,.const (.int .i64 (5))]) Tryz.call115 hF rfl rfl (cP hy15 (selM hM [1,0] 2 rfl) (Bf:=Bf) (fun w hM=>hsub _ (dropM hM 1)) f2) fun v w hR=>?_)
 obtain ⟨s16,rfl,f17,hM⟩:=hR
 replace hM:MemL _ (pt b0 (RReader.enc (RReader.mk s16 y15.2.at_ y15.2.place y15.2.e)) 176 :: pt c0 (LVal.enc LVal.zero) 46 :: Lr):=hM
 intro a hF
 obtain ⟨y19,hy19,hP⟩:=bind_some hP
 refine aN hF rfl rfl rfl (aO (xs:=[.tmp 3,.tmp 5]) Tryz.call228 hF rfl rfl (gL hy19 hM (Bf:=Bf) (fun w hM=>hsub _ (dropM hM 1)) f17) fun v w hR=>?_)
 obtain ⟨s20,rfl,f21,hM⟩:=hR
 replace hM:MemL _ (pt b0 (RReader.enc (RReader.mk s20 y19.2.at_ y19.2.place y19.2.e)) 176 :: pt c0 (LVal.enc LVal.zero) 46 :: Lr):=hM
 intro a hF
 refine bO rfl rfl (bL (vs:=_) Tryz.sizeOf46 (hM.obj (i:=1) rfl) hF rfl rfl rfl rfl (LVal.len _) (LVal.one _) (by first | (rw [LVal.len,LVal.len]; decide) | (rw [LVal.len]; decide)) (bU ((LVal.len _).trans (LVal.len _).symm)) fun w hU22=>?_)
 have hM:=hM.chg hU22 (i:=1) rfl
 replace hM:MemL _ (pt b0 (RReader.enc (RReader.mk s20 y19.2.at_ y19.2.place y19.2.e)) 176 :: pt c0 (LVal.enc y19.1) 46 :: Lr):=hM
 refine aI (aB ?_)
 refine c_ret ?_
 have hP:=Option.some.inj hP
 subst hP
 refine eH (rs:=[.cell 2 46]) Tryz.results185 hF (dK hF rfl Tryz.isAgg46 Tryz.sizeOf46 (LVal.len _) (hM.cells (i:=1) rfl (bV (LVal.len _))) dC) rfl ?_
 exact ⟨s20,rfl,f21,selM hM [0] 2 rfl⟩
set_option maxHeartbeats 4000000 in
theorem gM {x0:QReader} {s1:SV} {b0:Nat} {out:(LSlot × QReader)} {w0:World} {Bf:World → Prop} {Lr:List Res} (hP:Sh.aP x0 = some out) (hM:MemL w0 (pt b0 (RReader.enc (RReader.mk s1 x0.at_ x0.place x0.e)) 176 :: Lr)) (hsub:∀ w,MemL w Lr → Bf w) (f2:LIn Bf s1 x0.b):Calls Tryz.prog 187 #[.pointer (some ⟨b0,0,none⟩)] w0 (Ret fun v w'=>∃ (i0:SV),v = .agg (LSlot.enc out.1).toArray ∧ LIn Bf i0 out.2.b ∧ MemL w' (pt b0 (RReader.enc (RReader.mk i0 out.2.at_ out.2.place out.2.e)) 176 :: Lr)):=by
 unfold Sh.aP at hP
 refine aM (vs:=[.pointer (some ⟨b0,0,none⟩)]) Tryz.func187 rfl Tryz.ntmps187 rfl fun a hF=>?_
 refine aH ?_
 refine aC ?_
 refine aN hF rfl rfl rfl (cB z50 (zs:=LSlot.zero.enc) rfl rfl fun c0 w j9 g4=>?_)
 have hM:=hM.plus g4
 replace hM:MemL _ (pt c0 (LSlot.enc LSlot.zero) 50 :: pt b0 (RReader.enc (RReader.mk s1 x0.at_ x0.place x0.e)) 176 :: Lr):=hM
 intro a hF
 refine aI (aB ?_)
 refine aH ?_
 refine aC ?_
 refine aA hF (aF hF rfl rfl) rfl rfl rfl fun a hF=>?_
 obtain ⟨g9,i8,hP⟩:=bind_some hP
 refine aN hF rfl rfl rfl (aO (xs:=[.tmp 6,.const (.int .i64 (5))]) Tryz.call115 hF rfl rfl (cP i8 (selM hM [1,0] 2 rfl) (Bf:=Bf) (fun w hM=>hsub _ (dropM hM 1)) f2) fun v w hR=>?_)
 obtain ⟨k1,rfl,g2,hM⟩:=hR
 replace hM:MemL _ (pt b0 (RReader.enc (RReader.mk k1 g9.2.at_ g9.2.place g9.2.e)) 176 :: pt c0 (LSlot.enc LSlot.zero) 50 :: Lr):=hM
 intro a hF
 refine aA hF (aG hF rfl rfl) rfl rfl rfl fun a hF=>?_
 refine aI (aB ?_)
 refine aH ?_
 refine aH ?_
 refine aC ?_
 refine aA hF (aF hF rfl rfl) rfl rfl rfl fun a hF=>?_
 refine aI (aB ?_)
 refine aV ?_
 refine aH ?_
 refine aC ?_
 refine aA hF (cE hF rfl rfl rfl) rfl rfl rfl fun a hF=>?_
 refine aA hF (aG hF rfl rfl) rfl rfl rfl fun a hF=>?_
 refine aI (aB ?_)
 refine aR hF (c:=.tmp 13) rfl (fun d5=>?_) (fun d5=>?_)
 ·have hP:=Fx.cT d5 hP
  refine aT (bI (aB ?_))
  refine aH ?_
  refine aC ?_
  refine aA hF (aF hF rfl rfl) rfl rfl rfl fun a hF=>?_
  obtain ⟨c3,i9,hP⟩:=bind_some hP
  refine aN hF rfl rfl rfl (aO (xs:=[.tmp 25,.const (.int .i64 (1))]) Tryz.call113 hF rfl rfl (bE i9 hM (Bf:=Bf) (fun w hM=>hsub _ (dropM hM 1)) g2) fun v w hR=>?_)
  obtain ⟨d9,rfl,j3,hM⟩:=hR
  replace hM:MemL _ (pt b0 (RReader.enc (RReader.mk d9 c3.2.at_ c3.2.place c3.2.e)) 176 :: pt c0 (LSlot.enc LSlot.zero) 50 :: Lr):=hM
  intro a hF
  refine aA hF (cU z50 Tryz.underlying50 pl50 hF (parts:=[(2,.tmp 26)]) rfl rfl (cN rfl rfl (by rw [LSlot.len]; decide) (LSlot.s_mask _ _) dI)) rfl rfl rfl fun a hF=>?_
  refine aN hF rfl rfl rfl (cB z50 (zs:=LSlot.zero.enc) rfl rfl fun c1 w k0 g5=>?_)
  have hM:=hM.plus g5
  replace hM:MemL _ (pt c1 (LSlot.enc LSlot.zero) 50 :: pt b0 (RReader.enc (RReader.mk d9 c3.2.at_ c3.2.place c3.2.e)) 176 :: pt c0 (LSlot.enc LSlot.zero) 50 :: Lr):=hM
  intro a hF
  refine bO rfl rfl (bL (vs:=_) Tryz.sizeOf50 (hM.obj (i:=0) rfl) hF rfl rfl rfl rfl (LSlot.len _) (LSlot.one _) (by first | (rw [LSlot.len,LSlot.len]; decide) | (rw [LSlot.len]; decide)) (bU ((LSlot.len _).trans (LSlot.len _).symm)) fun w i2=>?_)
  have hM:=hM.chg i2 (i:=0) rfl
  replace hM:MemL _ (pt c1 (LSlot.enc (LSlot.mk LVal.zero (⟨List.replicate 8 0,rfl⟩ : Vec UInt8 8) c3.1)) 50 :: pt b0 (RReader.enc (RReader.mk d9 c3.2.at_ c3.2.place c3.2.e)) 176 :: pt c0 (LSlot.enc LSlot.zero) 50 :: Lr):=hM
  refine aI (aB ?_)
  refine aH ?_
  refine aS hF hM hP (fun F x a w=>match x with | (d4,c4)=>∃ (d2:SV),LIn Bf d2 c4.b ∧ Fr 45 [(2,.pointer (some ⟨c0,0,none⟩)),(4,.pointer (some ⟨c1,0,none⟩))] a ∧ MemL w (pt c1 (LSlot.enc d4) 50 :: pt b0 (RReader.enc (RReader.mk d2 c4.at_ c4.place c4.e)) 176 :: pt c0 (LSlot.enc LSlot.zero) 50 :: Lr)) (fun k5 hP k3 hF hM=>?_) ?_
  ·refine aH ?_
   refine aC ?_
   refine aA hF (aF hF rfl rfl) rfl rfl rfl fun a hF=>?_
   refine aI (aB ?_)
   refine aV ?_
   refine bN hF hM hP (fun F x a w=>match x with | (c2,c6,c7)=>∃ (d3:SV),LIn Bf d3 c6.b ∧ Fr 45 [(28,.int .i64 c7),(0,.pointer (some ⟨b0,0,none⟩)),(2,.pointer (some ⟨c0,0,none⟩)),(4,.pointer (some ⟨c1,0,none⟩))] a ∧ MemL w (pt c1 (LSlot.enc c2) 50 :: pt b0 (RReader.enc (RReader.mk d3 c6.at_ c6.place c6.e)) 176 :: pt c0 (LSlot.enc LSlot.zero) 50 :: Lr)) (fun hF hM=>⟨d9,j3,hF.to ⟨rfl,rfl,rfl,rfl,trivial⟩,hM⟩) ?_
   rintro ⟨c2,c6,c7⟩ a w k7 hP i1 ⟨d3,g3,hF,hM⟩
   replace hP:Sh.aM c2 c6 c7 = _:=hP
   unfold Sh.aM at hP
   refine aH ?_
   refine aC ?_
   refine aA hF (cH hF rfl rfl rfl) rfl rfl rfl fun a hF=>?_
   refine aI (aB ?_)
   refine aH ?_
   refine aR hF (c:=.tmp 29) rfl (fun d6=>?_) (fun d6=>?_)
   ·have hP:=Fx.cT d6 hP
    refine aT (aB ?_)
    refine aH ?_
    refine aS hF hM hP (fun F x a w=>match x with | (g1,c8)=>∃ (g0:SV),LIn Bf g0 c8.b ∧ Fr 45 [(0,.pointer (some ⟨b0,0,none⟩)),(2,.pointer (some ⟨c0,0,none⟩)),(28,.int .i64 c7),(4,.pointer (some ⟨c1,0,none⟩))] a ∧ MemL w (pt c1 (LSlot.enc g1) 50 :: pt b0 (RReader.enc (RReader.mk g0 c8.at_ c8.place c8.e)) 176 :: pt c0 (LSlot.enc LSlot.zero) 50 :: Lr)) (fun k6 hP k4 hF hM=>?_) ?_
    ·refine aV ?_
     refine aH ?_
     refine aC ?_
     refine aA hF (aF hF rfl rfl) rfl rfl rfl fun a hF=>?_
     refine aA hF (aG hF rfl rfl) rfl rfl rfl fun a hF=>?_
     refine aI (aB ?_)
     refine aH ?_
     refine aC ?_
     refine aA hF (aD (off':=12) Tryz.underlying50 rfl in3 rfl hF rfl rfl rfl) rfl rfl rfl fun a hF=>?_
     refine aA hF (aJ Tryz.isAgg3 hF rfl rfl (hM.cell (i:=0) rfl (LSlot.g_mask _))) rfl rfl rfl fun a hF=>?_
     refine aA hF (aF hF rfl rfl) rfl rfl rfl fun a hF=>?_
     obtain ⟨i7,hP⟩:=gA hP
     refine aA hF (nU hF rfl rfl rfl (of_decide_eq_true i7)) rfl rfl rfl fun a hF=>?_
     refine aA hF (pH hF rfl rfl rfl) rfl rfl rfl fun a hF=>?_
     refine aA hF (cE hF rfl rfl rfl) rfl rfl rfl fun a hF=>?_
     refine aI (aB ?_)
     refine aR hF (c:=.tmp 36) rfl (fun d7=>?_) (fun d7=>?_)
     ·have hP:=Fx.cT d7 hP
      refine aC ?_
      refine aA hF (aF hF rfl rfl) rfl rfl rfl fun a hF=>?_
      refine aA hF (aF hF rfl rfl) rfl rfl rfl fun a hF=>?_
      obtain ⟨c5,j0,hP⟩:=bind_some hP
      refine aN hF rfl rfl rfl (aO (xs:=[.tmp 38,.const (.int .i64 (1))]) Tryz.call113 hF rfl rfl (bE j0 (selM hM [1,0,2] 3 rfl) (Bf:=Bf) (fun w hM=>hsub _ (dropM hM 2)) g3) fun v w hR=>?_)
      obtain ⟨g6,rfl,j6,hM⟩:=hR
      replace hM:MemL _ (pt b0 (RReader.enc (RReader.mk g6 c5.2.at_ c5.2.place c5.2.e)) 176 :: pt c1 (LSlot.enc c2) 50 :: pt c0 (LSlot.enc LSlot.zero) 50 :: Lr):=hM
      intro a hF
      refine aA hF (eS Tryz.underlying3 Tryz.underlying5 hF rfl rfl) rfl rfl rfl fun a hF=>?_
      refine aA hF (aD (off':=4) Tryz.underlying50 rfl in48 rfl hF rfl rfl rfl) rfl rfl rfl fun a hF=>?_
      obtain ⟨k8,d0,hP⟩:=bind_some hP
      have k2:=aW d0
      refine aA hF (dZ (sz:=1) Tryz.underlying48 in5 rfl hF rfl rfl rfl (eL d0)) rfl rfl rfl fun a hF=>?_
      refine bO rfl rfl (bZ Tryz.sizeOf5 (hM.obj (i:=1) rfl) hF rfl rfl rfl rfl (by have:=(eL d0); rw [LSlot.len]; omega) (uX (LSlot.pi_bytes _ _ _ (by have:=(eL d0); omega)) (by have:=(eL d0); rw [LSlot.len]; omega)) fun w i3=>?_)
      have hM:=hM.chg i3 (i:=1) rfl
      replace hM:MemL _ (pt b0 (RReader.enc (RReader.mk g6 c5.2.at_ c5.2.place c5.2.e)) 176 :: pt c1 (LSlot.enc (LSlot.mk c2.ptr (c2.bytes.set (c7:Int).toNat (Fw.byteOf c5.1)) c2.mask)) 50 :: pt c0 (LSlot.enc LSlot.zero) 50 :: Lr):=hM
      refine aI (bI (aB ?_))
      have hP:=Option.some.inj hP
      subst hP
      exact ⟨((LSlot.mk c2.ptr (c2.bytes.set (c7:Int).toNat (Fw.byteOf c5.1)) c2.mask),c5.2),rfl,g6,j6,hF.to ⟨rfl,rfl,rfl,rfl,trivial⟩,selM hM [1,0,2] 3 rfl⟩
     have hP:=Fx.cF d7 hP
     refine aT (bI (aB ?_))
     have hP:=Option.some.inj hP
     subst hP
     exact ⟨(c2,c6),rfl,d3,g3,hF.to ⟨rfl,rfl,rfl,rfl,trivial⟩,hM⟩
    rintro ⟨g1,c8⟩ a w hP ⟨g0,j5,hF,hM⟩
    replace hP:Sh.bZ c7 g1 c8 = _:=hP
    unfold Sh.bZ at hP
    refine aB ?_
    refine aC ?_
    refine aA hF (cA hF rfl rfl rfl) rfl rfl rfl fun a hF=>?_
    refine aA hF (aF hF rfl rfl) rfl rfl rfl fun a hF=>?_
    refine aI (aB ?_)
    have hP:=Option.some.inj hP
    subst hP
    exact ⟨(g1,c8,(IntKind.i64.wrap (c7 + 1))),rfl,g0,j5,hF.to ⟨rfl,rfl,rfl,rfl,trivial⟩,hM⟩
   have hP:=Fx.cF d6 hP
   refine bW (bD (bD (cG ?_)))
   refine aB ?_
   have hP:=Option.some.inj hP
   subst hP
   have hP:=i1 _ rfl
   subst hP
   exact ⟨(c2,c6),rfl,d3,g3,hF.to ⟨rfl,rfl,trivial⟩,hM⟩
  rintro ⟨d4,c4⟩ a w hP ⟨d2,j4,hF,hM⟩
  replace hP:Sh.jX d4 c4 = _:=hP
  unfold Sh.jX at hP
  refine aB ?_
  refine aH ?_
  refine aC ?_
  refine aA hF (bB Tryz.isAgg50 Tryz.sizeOf50 hF rfl rfl (LSlot.len _) (hM.cells (i:=0) rfl (bV (LSlot.len _)))) rfl rfl rfl fun a hF=>?_
  refine bO rfl rfl (bL (vs:=_) Tryz.sizeOf50 (hM.obj (i:=2) rfl) hF rfl rfl rfl rfl (LSlot.len _) (LSlot.one _) (by first | (rw [LSlot.len,LSlot.len]; decide) | (rw [LSlot.len]; decide)) (bU ((LSlot.len _).trans (LSlot.len _).symm)) fun w i4=>?_)
  have hM:=hM.chg i4 (i:=2) rfl
  replace hM:MemL _ (pt c1 (LSlot.enc d4) 50 :: pt b0 (RReader.enc (RReader.mk d2 c4.at_ c4.place c4.e)) 176 :: pt c0 (LSlot.enc d4) 50 :: Lr):=hM
  refine aI (aB ?_)
  refine c_ret ?_
  have hP:=Option.some.inj hP
  subst hP
  refine eH (rs:=[.cell 2 50]) Tryz.results187 hF (dK hF rfl Tryz.isAgg50 Tryz.sizeOf50 (LSlot.len _) (hM.cells (i:=2) rfl (bV (LSlot.len _))) dC) rfl ?_
  exact ⟨d2,rfl,j4,selM hM [1] 3 rfl⟩
 have hP:=Fx.cF d5 hP
 refine aH ?_
 refine aC ?_
 refine aA hF (cE hF rfl rfl rfl) rfl rfl rfl fun a hF=>?_
 refine aA hF (aG hF rfl rfl) rfl rfl rfl fun a hF=>?_
 refine aI (aB ?_)
 refine aR hF (c:=.tmp 15) rfl (fun d8=>?_) (fun d8=>?_)
 ·have hP:=Fx.cT d8 hP
  refine aH ?_
  refine aC ?_
  refine aA hF (aF hF rfl rfl) rfl rfl rfl fun a hF=>?_
  refine aA hF (aF hF rfl rfl) rfl rfl rfl fun a hF=>?_
  refine aA hF (aX hF rfl rfl) rfl rfl rfl fun a hF=>?_
  refine aA hF (aD (off':=1) Tryz.underlying176 rfl in3 rfl hF rfl rfl rfl) rfl rfl rfl fun a hF=>?_
  refine aA hF (aJ Tryz.isAgg3 hF rfl rfl (hM.cell (i:=0) rfl (RReader.g_at_ _))) rfl rfl rfl fun a hF=>?_
  refine aA hF (fH hF rfl rfl rfl) rfl rfl rfl fun a hF=>?_
  obtain ⟨d1,j1,hP⟩:=bind_some hP
  refine aN hF rfl rfl rfl (aO (xs:=[.tmp 17,.tmp 22,.const (.int .i64 (236))]) Tryz.call112 hF rfl rfl (dB j1 hM (Bf:=Bf) (fun w hM=>hsub _ (dropM hM 1)) g2) fun v w hR=>?_)
  obtain ⟨g7,rfl,j7,hM⟩:=hR
  replace hM:MemL _ (pt b0 (RReader.enc (RReader.mk g7 d1.at_ d1.place d1.e)) 176 :: pt c0 (LSlot.enc LSlot.zero) 50 :: Lr):=hM
  intro a hF
  refine aI (aB ?_)
  refine aH ?_
  refine aC ?_
  refine aA hF (cU z50 Tryz.underlying50 pl50 hF (parts:=[]) rfl rfl dI) rfl rfl rfl fun a hF=>?_
  refine bO rfl rfl (bL (vs:=_) Tryz.sizeOf50 (hM.obj (i:=1) rfl) hF rfl rfl rfl rfl (LSlot.len _) (LSlot.one _) (by first | (rw [LSlot.len,LSlot.len]; decide) | (rw [LSlot.len]; decide)) (bU ((LSlot.len _).trans (LSlot.len _).symm)) fun w i5=>?_)
  have hM:=hM.chg i5 (i:=1) rfl
  replace hM:MemL _ (pt b0 (RReader.enc (RReader.mk g7 d1.at_ d1.place d1.e)) 176 :: pt c0 (LSlot.enc LSlot.zero) 50 :: Lr):=hM
  refine aI (aB ?_)
  refine c_ret ?_
  have hP:=Option.some.inj hP
  subst hP
  refine eH (rs:=[.cell 2 50]) Tryz.results187 hF (dK hF rfl Tryz.isAgg50 Tryz.sizeOf50 (LSlot.len _) (hM.cells (i:=1) rfl (bV (LSlot.len _))) dC) rfl ?_
  exact ⟨g7,rfl,j7,selM hM [0] 2 rfl⟩
 have hP:=Fx.cF d8 hP
 refine aH ?_
 refine aC ?_
 refine aA hF (aF hF rfl rfl) rfl rfl rfl fun a hF=>?_
 refine aA hF (aF hF rfl rfl) rfl rfl rfl fun a hF=>?_
 obtain ⟨c9,j2,hP⟩:=bind_some hP
 refine aN hF rfl rfl rfl (aO (xs:=[.tmp 9,.tmp 10]) Tryz.call228 hF rfl rfl (gL j2 hM (Bf:=Bf) (fun w hM=>hsub _ (dropM hM 1)) g2) fun v w hR=>?_)
 obtain ⟨g8,rfl,j8,hM⟩:=hR
 replace hM:MemL _ (pt b0 (RReader.enc (RReader.mk g8 c9.2.at_ c9.2.place c9.2.e)) 176 :: pt c0 (LSlot.enc LSlot.zero) 50 :: Lr):=hM
 intro a hF
 refine aA hF (cU z50 Tryz.underlying50 pl50 hF (parts:=[(0,.tmp 11)]) rfl rfl (iW rfl (LVal.len _) (by rw [LVal.len,LSlot.len]; decide) (LSlot.p_ptr _ _) dI)) rfl rfl rfl fun a hF=>?_
 refine bO rfl rfl (bL (vs:=_) Tryz.sizeOf50 (hM.obj (i:=1) rfl) hF rfl rfl rfl rfl (LSlot.len _) (LSlot.one _) (by first | (rw [LSlot.len,LSlot.len]; decide) | (rw [LSlot.len]; decide)) (bU ((LSlot.len _).trans (LSlot.len _).symm)) fun w i6=>?_)
 have hM:=hM.chg i6 (i:=1) rfl
 replace hM:MemL _ (pt b0 (RReader.enc (RReader.mk g8 c9.2.at_ c9.2.place c9.2.e)) 176 :: pt c0 (LSlot.enc (LSlot.mk c9.1 (⟨List.replicate 8 0,rfl⟩ : Vec UInt8 8) 0)) 50 :: Lr):=hM
 refine aI (aB ?_)
 refine c_ret ?_
 have hP:=Option.some.inj hP
 subst hP
 refine eH (rs:=[.cell 2 50]) Tryz.results187 hF (dK hF rfl Tryz.isAgg50 Tryz.sizeOf50 (LSlot.len _) (hM.cells (i:=1) rfl (bV (LSlot.len _))) dC) rfl ?_
 exact ⟨g8,rfl,j8,selM hM [0] 2 rfl⟩
end Go.Proofs
end
section
namespace Go.Proofs
open Go.Fw Go.Fx
set_option maxRecDepth 10000
set_option linter.unusedVariables false
set_option linter.unusedSimpArgs false
set_option maxHeartbeats 4000000 in
theorem cK {x0:Int} {x1:Int} {x2:Int} {out:Bool} {w0:World} {Lr:List Res} (hP:Sh.bT x0 x1 x2 = some out) (hM:MemL w0 (Lr)):Calls Tryz.prog 124 #[.int .i64 x0,.int .i64 x1,.int .i64 x2] w0 (Ret fun v w'=>v = .bool out ∧ MemL w' (Lr)):=by
 unfold Sh.bT at hP
 refine aM (vs:=[.int .i64 x0,.int .i64 x1,.int .i64 x2]) Tryz.func124 rfl Tryz.ntmps124 rfl fun a hF=>?_
 refine aH ?_
 refine aC ?_
 refine aA hF (aG hF rfl rfl) rfl rfl rfl fun a hF=>?_
 refine aI (aB ?_)
 refine aH ?_
 refine aS hF hM hP (fun F x a w=>match x with | v7=>Fr 15 [(6,.bool v7)] a ∧ MemL w (Lr)) (fun c1 hP c0 hF hM=>?_) ?_
 ·refine aC ?_
  refine aA hF (aF hF rfl rfl) rfl rfl rfl fun a hF=>?_
  refine aA hF (aF hF rfl rfl) rfl rfl rfl fun a hF=>?_
  refine aA hF (jF hF rfl rfl rfl) rfl rfl rfl fun a hF=>?_
  refine aA hF (aF hF rfl rfl) rfl rfl rfl fun a hF=>?_
  refine aZ 10 hF rfl (fun hb8=>?_) (fun hb8=>?_)
  ·have hP:=Fx.cT hb8 hP
   refine aK hF rfl rfl rfl hb8 (aF hF rfl rfl) rfl rfl fun a hF=>?_
   refine aK hF rfl rfl rfl hb8 (aF hF rfl rfl) rfl rfl fun a hF=>?_
   refine aK hF rfl rfl rfl hb8 (mR hF rfl rfl rfl) rfl rfl fun a hF=>?_
   refine aA hF (aP hF rfl rfl hb8 rfl) rfl rfl rfl fun a hF=>?_
   refine aA hF (aG hF rfl rfl) rfl rfl rfl fun a hF=>?_
   refine aI (aB ?_)
   have hP:=Option.some.inj hP
   subst hP
   exact ⟨(decide (x0 ≤ x2)),rfl,hF.to ⟨rfl,trivial⟩,hM⟩
  have hP:=Fx.cF hb8 hP
  refine aE hF rfl rfl rfl hb8 rfl rfl fun a hF=>?_
  refine aE hF rfl rfl rfl hb8 rfl rfl fun a hF=>?_
  refine aE hF rfl rfl rfl hb8 rfl rfl fun a hF=>?_
  refine aA hF (aQ hF rfl rfl hb8 rfl) rfl rfl rfl fun a hF=>?_
  refine aA hF (aG hF rfl rfl) rfl rfl rfl fun a hF=>?_
  refine aI (aB ?_)
  have hP:=Option.some.inj hP
  subst hP
  exact ⟨false,rfl,hF.to ⟨rfl,trivial⟩,hM⟩
 rintro v7 a w hP ⟨hF,hM⟩
 replace hP:Sh.kP v7 = _:=hP
 unfold Sh.kP at hP
 refine aB ?_
 refine c_ret ?_
 have hP:=Option.some.inj hP
 subst hP
 refine aY Tryz.results124 hF rfl ?_
 exact ⟨rfl,hM⟩
set_option maxHeartbeats 4000000 in
theorem iO {x0:Int} {out:Bool} {w0:World} {Lr:List Res} (hP:Sh.eP x0 = some out) (hM:MemL w0 (Lr)):Calls Tryz.prog 100 #[.int .i64 x0] w0 (Ret fun v w'=>v = .bool out ∧ MemL w' (Lr)):=by
 unfold Sh.eP at hP
 refine aM (vs:=[.int .i64 x0]) Tryz.func100 rfl Tryz.ntmps100 rfl fun a hF=>?_
 refine aH ?_
 refine aC ?_
 refine aA hF (aG hF rfl rfl) rfl rfl rfl fun a hF=>?_
 refine aI (aB ?_)
 refine aH ?_
 refine aS hF hM hP (fun F x a w=>match x with | v12=>Fr 13 [(2,.bool v12)] a ∧ MemL w (Lr)) (fun c1 hP c0 hF hM=>?_) ?_
 ·refine aC ?_
  refine aA hF (aF hF rfl rfl) rfl rfl rfl fun a hF=>?_
  refine aA hF (cE hF rfl rfl rfl) rfl rfl rfl fun a hF=>?_
  refine aA hF (aF hF rfl rfl) rfl rfl rfl fun a hF=>?_
  refine aZ 5 hF rfl (fun hb13=>?_) (fun hb13=>?_)
  ·have hP:=Fx.cT hb13 hP
   refine aE hF rfl rfl rfl hb13 rfl rfl fun a hF=>?_
   refine aE hF rfl rfl rfl hb13 rfl rfl fun a hF=>?_
   refine aE hF rfl rfl rfl hb13 rfl rfl fun a hF=>?_
   refine eQ hF rfl rfl rfl rfl rfl fun a hF=>?_
   refine eQ hF rfl rfl rfl rfl rfl fun a hF=>?_
   refine aE hF rfl rfl rfl hb13 rfl rfl fun a hF=>?_
   refine aA hF (aP hF rfl rfl hb13 rfl) rfl rfl rfl fun a hF=>?_
   refine aA hF (aG hF rfl rfl) rfl rfl rfl fun a hF=>?_
   refine aI (aB ?_)
   have hP:=Option.some.inj hP
   subst hP
   exact ⟨true,rfl,hF.to ⟨rfl,trivial⟩,hM⟩
  have hP:=Fx.cF hb13 hP
  refine aK hF rfl rfl rfl hb13 (aF hF rfl rfl) rfl rfl fun a hF=>?_
  refine aK hF rfl rfl rfl hb13 (jF hF rfl rfl rfl) rfl rfl fun a hF=>?_
  refine aK hF rfl rfl rfl hb13 (aF hF rfl rfl) rfl rfl fun a hF=>?_
  refine aZ 8 hF rfl (fun hb14=>?_) (fun hb14=>?_)
  ·have hP:=Fx.cT hb14 hP
   refine aK hF rfl rfl rfl hb14 (aF hF rfl rfl) rfl rfl fun a hF=>?_
   refine aK hF rfl rfl rfl hb14 (mR hF rfl rfl rfl) rfl rfl fun a hF=>?_
   refine aK hF rfl rfl rfl hb13 (aP hF rfl rfl hb14 rfl) rfl rfl fun a hF=>?_
   refine aA hF (aQ hF rfl rfl hb13 rfl) rfl rfl rfl fun a hF=>?_
   refine aA hF (aG hF rfl rfl) rfl rfl rfl fun a hF=>?_
   refine aI (aB ?_)
   have hP:=Option.some.inj hP
   subst hP
   exact ⟨(decide (x0 ≤ 89)),rfl,hF.to ⟨rfl,trivial⟩,hM⟩
  have hP:=Fx.cF hb14 hP
  refine aE hF rfl rfl rfl hb14 rfl rfl fun a hF=>?_
  refine aE hF rfl rfl rfl hb14 rfl rfl fun a hF=>?_
  refine aK hF rfl rfl rfl hb13 (aQ hF rfl rfl hb14 rfl) rfl rfl fun a hF=>?_
  refine aA hF (aQ hF rfl rfl hb13 rfl) rfl rfl rfl fun a hF=>?_
  refine aA hF (aG hF rfl rfl) rfl rfl rfl fun a hF=>?_
  refine aI (aB ?_)
  have hP:=Option.some.inj hP
  subst hP
  exact ⟨false,rfl,hF.to ⟨rfl,trivial⟩,hM⟩
 rintro v12 a w hP ⟨hF,hM⟩
 replace hP:Sh.iN v12 = _:=hP
 unfold Sh.iN at hP
 refine aB ?_
 refine c_ret ?_
 have hP:=Option.some.inj hP
 subst hP
 refine aY Tryz.results100 hF rfl ?_
 exact ⟨rfl,hM⟩
set_option maxHeartbeats 4000000 in
theorem jK {x0:List UInt8} {x1:List UInt8} {s1:SV} {s3:SV} {out:List Int} {w0:World} {Bf:World → Prop} {Lr:List Res} (hP:Sh.eM x0 x1 = some out) (hM:MemL w0 (Lr)) (hsub:∀ w,MemL w Lr → Bf w) (f2:LIn Bf s1 x0) (f4:LIn Bf s3 x1):Calls Tryz.prog 158 #[(s1).v,(s3).v] w0 (Ret fun v w'=>∃ (d6:SV),v = (d6).v ∧ MemL w' (rowL 0 d6 3 out :: Lr)):=by
 unfold Sh.eM at hP
 refine aM (vs:=[(s1).v,(s3).v]) Tryz.func158 rfl Tryz.ntmps158 rfl fun a hF=>?_
 refine aH ?_
 refine aC ?_
 refine aA hF (aG hF rfl rfl) rfl rfl rfl fun a hF=>?_
 refine aI (aB ?_)
 refine aH ?_
 refine aC ?_
 refine aA hF (aG hF rfl rfl) rfl rfl rfl fun a hF=>?_
 refine aI (aB ?_)
 refine aH ?_
 refine aS hF hM hP (fun F x a w=>match x with | d0=>∃ (c6:SV),Fr 27 [(5,(c6).v),(4,(SV.nil).v)] a ∧ MemL w (rowL 0 c6 3 d0 :: Lr)) (fun g4 hP g2 hF hM=>?_) ?_
 ·refine aH ?_
  refine aC ?_
  refine aA hF (aF hF rfl rfl) rfl rfl rfl fun a hF=>?_
  refine aA hF (bG (f2 _ (hsub _ (dropM hM 0))) Tryz.underlying23 hF rfl rfl) rfl rfl rfl fun a hF=>?_
  refine aA hF (aF hF rfl rfl) rfl rfl rfl fun a hF=>?_
  refine aI (aB ?_)
  refine aV ?_
  have hM:=hM.rowNil (X:=Int) 0 3
  refine bN hF hM hP (fun F x a w=>match x with | (c2,c0)=>∃ (c1:SV),Fr 27 [(5,(c1).v),(9,.int .i64 c0),(0,(s1).v),(1,(s3).v),(4,(SV.nil).v),(8,.int .i64 (x0.length:Int))] a ∧ MemL w (rowL 0 c1 3 c2 :: Lr)) (fun hF hM=>⟨SV.nil,hF.to ⟨rfl,rfl,rfl,rfl,rfl,rfl,trivial⟩,hM⟩) ?_
  rintro ⟨c2,c0⟩ a w g6 hP d9 ⟨c1,hF,hM⟩
  replace hP:Sh.bC x0 x1 c2 c0 = _:=hP
  unfold Sh.bC at hP
  refine aH ?_
  refine aC ?_
  refine aA hF (cH hF rfl rfl rfl) rfl rfl rfl fun a hF=>?_
  refine aI (aB ?_)
  refine aH ?_
  refine aR hF (c:=.tmp 10) rfl (fun c4=>?_) (fun c4=>?_)
  ·have hP:=Fx.cT c4 hP
   refine aT (aB ?_)
   refine aH ?_
   refine aS hF hM hP (fun F x a w=>match x with | c8=>∃ (c7:SV),Fr 27 [(5,(c7).v),(0,(s1).v),(1,(s3).v),(4,(SV.nil).v),(8,.int .i64 (x0.length:Int)),(9,.int .i64 c0)] a ∧ MemL w (rowL 0 c7 3 c8 :: Lr)) (fun g5 hP g3 hF hM=>?_) ?_
   ·refine aV ?_
    refine aH ?_
    refine aC ?_
    refine aA hF (aF hF rfl rfl) rfl rfl rfl fun a hF=>?_
    refine aA hF (aG hF rfl rfl) rfl rfl rfl fun a hF=>?_
    refine aI (aB ?_)
    refine aH ?_
    refine bQ mixed (by kernel_rfl) hM [0] 1 rfl fun hch=>?_
    refine aL hF hch 0 rfl (by kernel_rfl) rfl rfl rfl (fun w hM=>(aF hF rfl rfl)) fun a hF=>?_
    refine aL hF hch 1 rfl (by kernel_rfl) rfl rfl rfl (fun w hM=>(aF hF rfl rfl)) fun a hF=>?_
    obtain ⟨g7,d1,hP⟩:=bind_some hP
    have d3:=aW d1
    refine aL hF hch 2 rfl (by kernel_rfl) rfl rfl rfl (fun w hM=>(bC (sz:=1) (f2 _ (hsub _ (dropM hM 1))) Tryz.underlying23 in5 rfl hF rfl rfl rfl (bK d1))) fun a hF=>?_
    refine aL hF hch 3 rfl (by kernel_rfl) rfl rfl rfl (fun w hM=>(aJ Tryz.isAgg5 hF rfl rfl ((((f2 _ (hsub _ (dropM hM 1))).elemS d3.2)).get 0 rfl))) fun a hF=>?_
    refine aL hF hch 4 rfl (by kernel_rfl) rfl rfl rfl (fun w hM=>(aF hF rfl rfl)) fun a hF=>?_
    refine aL hF hch 5 rfl (by kernel_rfl) rfl rfl rfl (fun w hM=>(aF hF rfl rfl)) fun a hF=>?_
    obtain ⟨g8,d2,hP⟩:=bind_some hP
    have d4:=aW d2
    refine aL hF hch 6 rfl (by kernel_rfl) rfl rfl rfl (fun w hM=>(bC (sz:=1) (f4 _ (hsub _ (dropM hM 1))) Tryz.underlying23 in5 rfl hF rfl rfl rfl (bK d2))) fun a hF=>?_
    refine aL hF hch 7 rfl (by kernel_rfl) rfl rfl rfl (fun w hM=>(aJ Tryz.isAgg5 hF rfl rfl ((((f4 _ (hsub _ (dropM hM 1))).elemS d4.2)).get 0 rfl))) fun a hF=>?_
    refine aL hF hch 8 rfl (by kernel_rfl) rfl rfl rfl (fun w hM=>(cW hF rfl rfl rfl)) fun a hF=>?_
    refine cI hch (by kernel_rfl) fun w hM=>?_
    refine aB ?_
    refine aR hF (c:=.tmp 20) rfl (fun c5=>?_) (fun c5=>?_)
    ·have hP:=Fx.cT c5 hP
     refine aC ?_
     refine aA hF (aF hF rfl rfl) rfl rfl rfl fun a hF=>?_
     refine aA hF (aF hF rfl rfl) rfl rfl rfl fun a hF=>?_
     refine aN hF rfl rfl rfl (cY (X:=Int) (y:=c0) Tryz.underlying52 in3 rfl rfl rfl rfl hF rfl rfl rfl fun c3 w g1 c9=>?_)
     have hM:=hM.plus c9
     replace hM:MemL _ (pt c3 (encs ([c0]:List Int)) 3 :: rowL 0 c1 3 c2 :: Lr):=hM
     intro a hF
     obtain ⟨d8,g0,hP⟩:=bind_some hP
     refine aN hF rfl rfl rfl (dE (X:=Int) g0 Tryz.underlying52 in3 rfl rfl rfl rfl hF rfl rfl rfl (hM.own (X:=Int) (i:=1) rfl) (hM.ptS (X:=Int) (i:=0) (n:=1) (c:=1) rfl rfl rfl (Nat.le_refl _)) fun d7 w d5=>?_)
     have hM:=hM.chg d5 (i:=1) rfl
     replace hM:MemL _ (pt c3 (encs ([c0]:List Int)) 3 :: rowL 0 d7 3 d8 :: Lr):=hM
     intro a hF
     refine aA hF (aG hF rfl rfl) rfl rfl rfl fun a hF=>?_
     refine aI (bI (aB ?_))
     have hP:=Option.some.inj hP
     subst hP
     exact ⟨d8,rfl,d7,hF.to ⟨rfl,rfl,rfl,rfl,rfl,rfl,trivial⟩,selM hM [1] 2 rfl⟩
    have hP:=Fx.cF c5 hP
    refine aT (bI (aB ?_))
    have hP:=Option.some.inj hP
    subst hP
    exact ⟨c2,rfl,c1,hF.to ⟨rfl,rfl,rfl,rfl,rfl,rfl,trivial⟩,hM⟩
   rintro c8 a w hP ⟨c7,hF,hM⟩
   replace hP:Sh.dH c0 c8 = _:=hP
   unfold Sh.dH at hP
   refine aB ?_
   refine aC ?_
   refine aA hF (cA hF rfl rfl rfl) rfl rfl rfl fun a hF=>?_
   refine aA hF (aF hF rfl rfl) rfl rfl rfl fun a hF=>?_
   refine aI (aB ?_)
   have hP:=Option.some.inj hP
   subst hP
   exact ⟨(c8,(IntKind.i64.wrap (c0 + 1))),rfl,c7,hF.to ⟨rfl,rfl,rfl,rfl,rfl,rfl,trivial⟩,hM⟩
  have hP:=Fx.cF c4 hP
  refine bW (bD (bD (cG ?_)))
  refine aB ?_
  have hP:=Option.some.inj hP
  subst hP
  have hP:=d9 _ rfl
  subst hP
  exact ⟨c2,rfl,c1,hF.to ⟨rfl,rfl,trivial⟩,hM⟩
 rintro d0 a w hP ⟨c6,hF,hM⟩
 replace hP:Sh.jQ d0 = _:=hP
 unfold Sh.jQ at hP
 refine aB ?_
 refine aH ?_
 refine aC ?_
 refine aA hF (aF hF rfl rfl) rfl rfl rfl fun a hF=>?_
 refine aA hF (aG hF rfl rfl) rfl rfl rfl fun a hF=>?_
 refine aI (aB ?_)
 refine c_ret ?_
 have hP:=Option.some.inj hP
 subst hP
 refine aY Tryz.results158 hF rfl ?_
 exact ⟨c6,rfl,hM⟩
set_option maxHeartbeats 4000000 in
theorem jW {x0:List QPiece} {s1:SV} {hs2:List RPiece} {out:Bool} {w0:World} {Bf:World → Prop} {Lr:List Res} (hP:Sh.dX x0 = some out) (hM:MemL w0 (Lr)) (hsub:∀ w,MemL w Lr → Bf w) (f3:LIn Bf s1 hs2) (q4:Each (QPieceIn Bf) hs2 x0):Calls Tryz.prog 227 #[(s1).v] w0 (Ret fun v w'=>v = .bool out ∧ MemL w' (Lr)):=by
 unfold Sh.dX at hP
 refine aM (vs:=[(s1).v]) Tryz.func227 rfl Tryz.ntmps227 rfl fun a hF=>?_
 refine aH ?_
 refine aC ?_
 refine aA hF (aG hF rfl rfl) rfl rfl rfl fun a hF=>?_
 refine aI (aB ?_)
 refine aH ?_
 refine aC ?_
 refine aA hF (aG hF rfl rfl) rfl rfl rfl fun a hF=>?_
 refine aA hF (aG hF rfl rfl) rfl rfl rfl fun a hF=>?_
 refine aI (aB ?_)
 refine aH ?_
 refine aS hF hM hP (fun F x a w=>match x with | _=>Fr 68 [(2,.bool false)] a ∧ MemL w (Lr)) (fun j0 hP g3 hF hM=>?_) ?_
 ·refine aH ?_
  refine aC ?_
  refine aA hF (aF hF rfl rfl) rfl rfl rfl fun a hF=>?_
  refine aA hF (cV (f3 _ (hsub _ (dropM hM 0))) q4.len Tryz.underlying58 hF rfl rfl) rfl rfl rfl fun a hF=>?_
  refine aA hF (aF hF rfl rfl) rfl rfl rfl fun a hF=>?_
  refine aI (aB ?_)
  refine aV ?_
  refine bN hF hM hP (fun F x a w=>match x with | (c6,d0,d1)=>Fr 68 [(10,.int .i64 c6),(3,.int .i64 d0),(4,.int .i64 d1),(2,.bool false),(8,(s1).v),(9,.int .i64 (x0.length:Int))] a ∧ MemL w (Lr)) (fun hF hM=>⟨hF.to ⟨rfl,rfl,rfl,rfl,rfl,rfl,trivial⟩,hM⟩) ?_
  rintro ⟨c6,d0,d1⟩ a w j3 hP d7 ⟨hF,hM⟩
  replace hP:Sh.aL x0 c6 d0 d1 = _:=hP
  unfold Sh.aL at hP
  refine aH ?_
  refine aC ?_
  refine aA hF (cH hF rfl rfl rfl) rfl rfl rfl fun a hF=>?_
  refine aI (aB ?_)
  refine aH ?_
  refine aR hF (c:=.tmp 11) rfl (fun d3=>?_) (fun d3=>?_)
  ·have hP:=Fx.cT d3 hP
   refine aT (aB ?_)
   refine aH ?_
   refine aV ?_
   refine aH ?_
   refine aC ?_
   obtain ⟨c2,d9,hP⟩:=bind_some hP
   have g5:=aW d9
   obtain ⟨i6,g7,g8⟩:=Each.getr q4 g5.2
   have g6:=Each.bd q4 (bK d9)
   obtain ⟨c7,c8,rfl,g1,g2⟩:=g8
   refine aA hF (bC (sz:=4) (f3 _ (hsub _ (dropM hM 0))) Tryz.underlying58 in156 rfl hF rfl rfl rfl g6) rfl rfl rfl fun a hF=>?_
   refine aA hF (bB Tryz.isAgg156 Tryz.sizeOf156 hF rfl rfl (RPiece.len _) (((f3 _ (hsub _ (dropM hM 0))).elemS g7))) rfl rfl rfl fun a hF=>?_
   refine aN hF rfl rfl rfl (cB z156 (zs:=RPiece.zero.enc) rfl rfl fun c4 w i5 g0=>?_)
   have hM:=hM.plus g0
   replace hM:MemL _ (pt c4 (RPiece.enc (RPiece.mk 0 0 SV.nil SV.nil)) 156 :: Lr):=hM
   intro a hF
   refine bO rfl rfl (bL (vs:=_) Tryz.sizeOf156 (hM.obj (i:=0) rfl) hF rfl rfl rfl rfl (RPiece.len _) (RPiece.one _) (by first | (rw [RPiece.len,RPiece.len]; decide) | (rw [RPiece.len]; decide)) (bU ((RPiece.len _).trans (RPiece.len _).symm)) fun w g9=>?_)
   have hM:=hM.chg g9 (i:=0) rfl
   replace hM:MemL _ (pt c4 (RPiece.enc (RPiece.mk c2.table c2.from_ c7 c8)) 156 :: Lr):=hM
   refine aI (aB ?_)
   refine aH ?_
   refine aS hF hM hP (fun F x a w=>match x with | (c9,d2)=>Fr 68 [(3,.int .i64 c9),(4,.int .i64 d2),(10,.int .i64 c6),(2,.bool false),(6,.pointer (some ⟨c4,0,none⟩)),(8,(s1).v),(9,.int .i64 (x0.length:Int))] a ∧ MemL w (pt c4 (RPiece.enc (RPiece.mk c2.table c2.from_ c7 c8)) 156 :: Lr)) (fun j1 hP i3 hF hM=>?_) ?_
   ·refine aV ?_
    refine aH ?_
    refine aC ?_
    refine aA hF (aD (off':=0) Tryz.underlying156 rfl in3 rfl hF rfl rfl rfl) rfl rfl rfl fun a hF=>?_
    refine aA hF (aJ Tryz.isAgg3 hF rfl rfl (hM.cell (i:=0) rfl (RPiece.g_table _))) rfl rfl rfl fun a hF=>?_
    refine aA hF (aF hF rfl rfl) rfl rfl rfl fun a hF=>?_
    obtain ⟨i8,i0,hP⟩:=bind_some hP
    refine aN hF rfl rfl rfl (aO (xs:=[.tmp 16,.tmp 17,.const (.int .i64 (7))]) Tryz.call124 hF rfl rfl (cK i0 hM ) fun v w hR=>?_)
    obtain ⟨rfl,hM⟩:=hR
    replace hM:MemL _ (pt c4 (RPiece.enc (RPiece.mk c2.table c2.from_ c7 c8)) 156 :: Lr):=hM
    intro a hF
    refine aA hF (dJ hF rfl rfl) rfl rfl rfl fun a hF=>?_
    refine aA hF (aG hF rfl rfl) rfl rfl rfl fun a hF=>?_
    refine aI (aB ?_)
    refine aR hF (c:=.tmp 14) rfl (fun d4=>?_) (fun d4=>?_)
    ·have hP:=Fx.cT d4 hP
     refine aH ?_
     refine aC ?_
     refine aA hF (aG hF rfl rfl) rfl rfl rfl fun a hF=>?_
     refine aI (aB ?_)
     refine c_ret ?_
     have hP:=Option.some.inj hP
     subst hP
     have hP:=cL i3
     subst hP
     have hP:=d7 _ rfl
     subst hP
     have hP:=cL g3
     subst hP
     refine aY Tryz.results227 hF rfl ?_
     exact ⟨rfl,selM hM [] 1 rfl⟩
    have hP:=Fx.cF d4 hP
    refine aH ?_
    refine aC ?_
    refine aA hF (aD (off':=0) Tryz.underlying156 rfl in3 rfl hF rfl rfl rfl) rfl rfl rfl fun a hF=>?_
    refine aA hF (aJ Tryz.isAgg3 hF rfl rfl (hM.cell (i:=0) rfl (RPiece.g_table _))) rfl rfl rfl fun a hF=>?_
    refine aA hF (aF hF rfl rfl) rfl rfl rfl fun a hF=>?_
    refine aA hF (eJ hF rfl rfl rfl) rfl rfl rfl fun a hF=>?_
    refine aA hF (aG hF rfl rfl) rfl rfl rfl fun a hF=>?_
    refine aI (aB ?_)
    refine aR hF (c:=.tmp 20) rfl (fun d5=>?_) (fun d5=>?_)
    ·have hP:=Fx.cT d5 hP
     refine aC ?_
     refine aA hF (aD (off':=0) Tryz.underlying156 rfl in3 rfl hF rfl rfl rfl) rfl rfl rfl fun a hF=>?_
     refine aA hF (aJ Tryz.isAgg3 hF rfl rfl (hM.cell (i:=0) rfl (RPiece.g_table _))) rfl rfl rfl fun a hF=>?_
     refine aA hF (aG hF rfl rfl) rfl rfl rfl fun a hF=>?_
     refine aA hF (aG hF rfl rfl) rfl rfl rfl fun a hF=>?_
     refine aI (bI (aB ?_))
     have hP:=Option.some.inj hP
     subst hP
     exact ⟨(c2.table,0),rfl,hF.to ⟨rfl,rfl,rfl,rfl,rfl,rfl,rfl,trivial⟩,hM⟩
    have hP:=Fx.cF d5 hP
    refine aT (bI (aB ?_))
    have hP:=Option.some.inj hP
    subst hP
    exact ⟨(d0,d1),rfl,hF.to ⟨rfl,rfl,rfl,rfl,rfl,rfl,rfl,trivial⟩,hM⟩
   rintro ⟨c9,d2⟩ a w hP ⟨hF,hM⟩
   replace hP:Sh.bY c6 c2 c9 d2 = _:=hP
   unfold Sh.bY at hP
   refine aB ?_
   refine aH ?_
   refine aC ?_
   refine aA hF (aD (off':=2) Tryz.underlying156 rfl in23 rfl hF rfl rfl rfl) rfl rfl rfl fun a hF=>?_
   refine aA hF (aJ Tryz.isAgg23 hF rfl rfl (hM.cell (i:=0) rfl (RPiece.g_old _))) rfl rfl rfl fun a hF=>?_
   refine aA hF (bG (g1 _ (hsub _ (dropM hM 1))) Tryz.underlying23 hF rfl rfl) rfl rfl rfl fun a hF=>?_
   refine aA hF (aG hF rfl rfl) rfl rfl rfl fun a hF=>?_
   refine aI (aB ?_)
   refine aH ?_
   refine aH ?_
   refine aS hF hM hP (fun F x a w=>match x with | d8=>Fr 68 [(61,.bool d8),(10,.int .i64 c6),(2,.bool false),(3,.int .i64 c9),(4,.int .i64 d2),(6,.pointer (some ⟨c4,0,none⟩)),(7,.int .i64 (c2.old.length:Int)),(8,(s1).v),(9,.int .i64 (x0.length:Int))] a ∧ MemL w (pt c4 (RPiece.enc (RPiece.mk c2.table c2.from_ c7 c8)) 156 :: Lr)) (fun j2 hP i7 hF hM=>?_) ?_
   ·refine aC ?_
    refine aA hF (aF hF rfl rfl) rfl rfl rfl fun a hF=>?_
    refine aA hF (cE hF rfl rfl rfl) rfl rfl rfl fun a hF=>?_
    refine aA hF (aF hF rfl rfl) rfl rfl rfl fun a hF=>?_
    refine aZ 32 hF rfl (fun c3=>?_) (fun c3=>?_)
    ·have hP:=Fx.cT c3 hP
     refine aE hF rfl rfl rfl c3 rfl rfl fun a hF=>?_
     refine aE hF rfl rfl rfl c3 rfl rfl fun a hF=>?_
     refine aE hF rfl rfl rfl c3 rfl rfl fun a hF=>?_
     refine aE hF rfl rfl rfl c3 rfl rfl fun a hF=>?_
     refine aE hF rfl rfl rfl c3 rfl rfl fun a hF=>?_
     refine aA hF (aP hF rfl rfl c3 rfl) rfl rfl rfl fun a hF=>?_
     refine aA hF (aF hF rfl rfl) rfl rfl rfl fun a hF=>?_
     refine aE hF rfl rfl rfl rfl rfl rfl fun a hF=>?_
     refine aE hF rfl rfl rfl rfl rfl rfl fun a hF=>?_
     refine aA hF (aP hF rfl rfl rfl rfl) rfl rfl rfl fun a hF=>?_
     refine aA hF (aF hF rfl rfl) rfl rfl rfl fun a hF=>?_
     refine aE hF rfl rfl rfl rfl rfl rfl fun a hF=>?_
     refine aE hF rfl rfl rfl rfl rfl rfl fun a hF=>?_
     refine aE hF rfl rfl rfl rfl rfl rfl fun a hF=>?_
     refine aE hF rfl rfl rfl rfl rfl rfl fun a hF=>?_
     refine aE hF rfl rfl rfl rfl rfl rfl fun a hF=>?_
     refine aE hF rfl rfl rfl rfl rfl rfl fun a hF=>?_
     refine aE hF rfl rfl rfl rfl rfl rfl fun a hF=>?_
     refine aA hF (aP hF rfl rfl rfl rfl) rfl rfl rfl fun a hF=>?_
     refine aA hF (aF hF rfl rfl) rfl rfl rfl fun a hF=>?_
     refine aE hF rfl rfl rfl rfl rfl rfl fun a hF=>?_
     refine aE hF rfl rfl rfl rfl rfl rfl fun a hF=>?_
     refine aE hF rfl rfl rfl rfl rfl rfl fun a hF=>?_
     refine aE hF rfl rfl rfl rfl rfl rfl fun a hF=>?_
     refine aE hF rfl rfl rfl rfl rfl rfl fun a hF=>?_
     refine aE hF rfl rfl rfl rfl rfl rfl fun a hF=>?_
     refine aE hF rfl rfl rfl rfl rfl rfl fun a hF=>?_
     refine aE hF rfl rfl rfl rfl rfl rfl fun a hF=>?_
     refine aA hF (aP hF rfl rfl rfl rfl) rfl rfl rfl fun a hF=>?_
     refine aI (aB ?_)
     have hP:=Option.some.inj hP
     subst hP
     exact ⟨true,rfl,hF.to ⟨rfl,rfl,rfl,rfl,rfl,rfl,rfl,rfl,rfl,trivial⟩,hM⟩
    have hP:=Fx.cF c3 hP
    refine aK hF rfl rfl rfl c3 (aD (off':=3) Tryz.underlying156 rfl in23 rfl hF rfl rfl rfl) rfl rfl fun a hF=>?_
    refine aK hF rfl rfl rfl c3 (aJ Tryz.isAgg23 hF rfl rfl (hM.cell (i:=0) rfl (RPiece.g_new _))) rfl rfl fun a hF=>?_
    refine aK hF rfl rfl rfl c3 (bG (g2 _ (hsub _ (dropM hM 1))) Tryz.underlying23 hF rfl rfl) rfl rfl fun a hF=>?_
    refine aK hF rfl rfl rfl c3 (aF hF rfl rfl) rfl rfl fun a hF=>?_
    refine aK hF rfl rfl rfl c3 (cW hF rfl rfl rfl) rfl rfl fun a hF=>?_
    refine aA hF (aQ hF rfl rfl c3 rfl) rfl rfl rfl fun a hF=>?_
    refine aA hF (aF hF rfl rfl) rfl rfl rfl fun a hF=>?_
    refine aZ 39 hF rfl (fun c5=>?_) (fun c5=>?_)
    ·have hP:=Fx.cT c5 hP
     refine aE hF rfl rfl rfl c5 rfl rfl fun a hF=>?_
     refine aE hF rfl rfl rfl c5 rfl rfl fun a hF=>?_
     refine aA hF (aP hF rfl rfl c5 rfl) rfl rfl rfl fun a hF=>?_
     refine aA hF (aF hF rfl rfl) rfl rfl rfl fun a hF=>?_
     refine aE hF rfl rfl rfl rfl rfl rfl fun a hF=>?_
     refine aE hF rfl rfl rfl rfl rfl rfl fun a hF=>?_
     refine aE hF rfl rfl rfl rfl rfl rfl fun a hF=>?_
     refine aE hF rfl rfl rfl rfl rfl rfl fun a hF=>?_
     refine aE hF rfl rfl rfl rfl rfl rfl fun a hF=>?_
     refine aE hF rfl rfl rfl rfl rfl rfl fun a hF=>?_
     refine aE hF rfl rfl rfl rfl rfl rfl fun a hF=>?_
     refine aA hF (aP hF rfl rfl rfl rfl) rfl rfl rfl fun a hF=>?_
     refine aA hF (aF hF rfl rfl) rfl rfl rfl fun a hF=>?_
     refine aE hF rfl rfl rfl rfl rfl rfl fun a hF=>?_
     refine aE hF rfl rfl rfl rfl rfl rfl fun a hF=>?_
     refine aE hF rfl rfl rfl rfl rfl rfl fun a hF=>?_
     refine aE hF rfl rfl rfl rfl rfl rfl fun a hF=>?_
     refine aE hF rfl rfl rfl rfl rfl rfl fun a hF=>?_
     refine aE hF rfl rfl rfl rfl rfl rfl fun a hF=>?_
     refine aE hF rfl rfl rfl rfl rfl rfl fun a hF=>?_
     refine aE hF rfl rfl rfl rfl rfl rfl fun a hF=>?_
     refine aA hF (aP hF rfl rfl rfl rfl) rfl rfl rfl fun a hF=>?_
     refine aI (aB ?_)
     have hP:=Option.some.inj hP
     subst hP
     exact ⟨true,rfl,hF.to ⟨rfl,rfl,rfl,rfl,rfl,rfl,rfl,rfl,rfl,trivial⟩,hM⟩
    have hP:=Fx.cF c5 hP
    refine aK hF rfl rfl rfl c5 (aF hF rfl rfl) rfl rfl fun a hF=>?_
    refine aK hF rfl rfl rfl c5 (eJ hF rfl rfl rfl) rfl rfl fun a hF=>?_
    refine aA hF (aQ hF rfl rfl c5 rfl) rfl rfl rfl fun a hF=>?_
    refine aA hF (aF hF rfl rfl) rfl rfl rfl fun a hF=>?_
    refine aZ 43 hF rfl (fun c1=>?_) (fun c1=>?_)
    ·have hP:=Fx.cT c1 hP
     refine aE hF rfl rfl rfl c1 rfl rfl fun a hF=>?_
     refine aE hF rfl rfl rfl c1 rfl rfl fun a hF=>?_
     refine aE hF rfl rfl rfl c1 rfl rfl fun a hF=>?_
     refine aE hF rfl rfl rfl c1 rfl rfl fun a hF=>?_
     refine aE hF rfl rfl rfl c1 rfl rfl fun a hF=>?_
     refine aE hF rfl rfl rfl c1 rfl rfl fun a hF=>?_
     refine aE hF rfl rfl rfl c1 rfl rfl fun a hF=>?_
     refine aA hF (aP hF rfl rfl c1 rfl) rfl rfl rfl fun a hF=>?_
     refine aA hF (aF hF rfl rfl) rfl rfl rfl fun a hF=>?_
     refine aE hF rfl rfl rfl rfl rfl rfl fun a hF=>?_
     refine aE hF rfl rfl rfl rfl rfl rfl fun a hF=>?_
     refine aE hF rfl rfl rfl rfl rfl rfl fun a hF=>?_
     refine aE hF rfl rfl rfl rfl rfl rfl fun a hF=>?_
     refine aE hF rfl rfl rfl rfl rfl rfl fun a hF=>?_
     refine aE hF rfl rfl rfl rfl rfl rfl fun a hF=>?_
     refine aE hF rfl rfl rfl rfl rfl rfl fun a hF=>?_
     refine aE hF rfl rfl rfl rfl rfl rfl fun a hF=>?_
     refine aA hF (aP hF rfl rfl rfl rfl) rfl rfl rfl fun a hF=>?_
     refine aI (aB ?_)
     have hP:=Option.some.inj hP
     subst hP
     exact ⟨true,rfl,hF.to ⟨rfl,rfl,rfl,rfl,rfl,rfl,rfl,rfl,rfl,trivial⟩,hM⟩
    have hP:=Fx.cF c1 hP
    refine aK hF rfl rfl rfl c1 (aD (off':=1) Tryz.underlying156 rfl in3 rfl hF rfl rfl rfl) rfl rfl fun a hF=>?_
    refine aK hF rfl rfl rfl c1 (aJ Tryz.isAgg3 hF rfl rfl (hM.cell (i:=0) rfl (RPiece.g_from_ _))) rfl rfl fun a hF=>?_
    refine aK hF rfl rfl rfl c1 (aF hF rfl rfl) rfl rfl fun a hF=>?_
    refine aK hF rfl rfl rfl c1 (aF hF rfl rfl) rfl rfl fun a hF=>?_
    refine aK hF rfl rfl rfl c1 (fH hF rfl rfl rfl) rfl rfl fun a hF=>?_
    obtain ⟨i9,i1,hP⟩:=bind_some hP
    refine dX hF rfl rfl rfl c1 rfl rfl (aO (xs:=[.tmp 45,.tmp 46,.tmp 48]) Tryz.call124 hF rfl rfl (cK i1 hM ) fun v w hR=>?_)
    obtain ⟨rfl,hM⟩:=hR
    replace hM:MemL _ (pt c4 (RPiece.enc (RPiece.mk c2.table c2.from_ c7 c8)) 156 :: Lr):=hM
    intro a hF
    refine aK hF rfl rfl rfl c1 (dJ hF rfl rfl) rfl rfl fun a hF=>?_
    refine aA hF (aQ hF rfl rfl c1 rfl) rfl rfl rfl fun a hF=>?_
    refine aA hF (aF hF rfl rfl) rfl rfl rfl fun a hF=>?_
    refine aZ 52 hF rfl (fun c0=>?_) (fun c0=>?_)
    ·have hP:=Fx.cT c0 hP
     refine aE hF rfl rfl rfl c0 rfl rfl fun a hF=>?_
     refine aE hF rfl rfl rfl c0 rfl rfl fun a hF=>?_
     refine aE hF rfl rfl rfl c0 rfl rfl fun a hF=>?_
     refine aE hF rfl rfl rfl c0 rfl rfl fun a hF=>?_
     refine aE hF rfl rfl rfl c0 rfl rfl fun a hF=>?_
     refine aE hF rfl rfl rfl c0 rfl rfl fun a hF=>?_
     refine aE hF rfl rfl rfl c0 rfl rfl fun a hF=>?_
     refine aE hF rfl rfl rfl c0 rfl rfl fun a hF=>?_
     refine aA hF (aP hF rfl rfl c0 rfl) rfl rfl rfl fun a hF=>?_
     refine aI (aB ?_)
     have hP:=Option.some.inj hP
     subst hP
     exact ⟨true,rfl,hF.to ⟨rfl,rfl,rfl,rfl,rfl,rfl,rfl,rfl,rfl,trivial⟩,hM⟩
    have hP:=Fx.cF c0 hP
    refine aK hF rfl rfl rfl c0 (aD (off':=2) Tryz.underlying156 rfl in23 rfl hF rfl rfl rfl) rfl rfl fun a hF=>?_
    refine aK hF rfl rfl rfl c0 (aJ Tryz.isAgg23 hF rfl rfl (hM.cell (i:=0) rfl (RPiece.g_old _))) rfl rfl fun a hF=>?_
    refine aK hF rfl rfl rfl c0 (aD (off':=3) Tryz.underlying156 rfl in23 rfl hF rfl rfl rfl) rfl rfl fun a hF=>?_
    refine aK hF rfl rfl rfl c0 (aJ Tryz.isAgg23 hF rfl rfl (hM.cell (i:=0) rfl (RPiece.g_new _))) rfl rfl fun a hF=>?_
    obtain ⟨g4,i2,hP⟩:=bind_some hP
    refine dX hF rfl rfl rfl c0 rfl rfl (aO (xs:=[.tmp 54,.tmp 56]) Tryz.call158 hF rfl rfl (jK i2 hM (Bf:=Bf) (fun w hM=>hsub _ (dropM hM 1)) g1 g2) fun v w hR=>?_)
    obtain ⟨i4,rfl,hM⟩:=hR
    replace hM:MemL _ (rowL 0 i4 3 g4 :: pt c4 (RPiece.enc (RPiece.mk c2.table c2.from_ c7 c8)) 156 :: Lr):=hM
    intro a hF
    refine aK hF rfl rfl rfl c0 (bG (hM.rowS (X:=Int) (i:=0) rfl) Tryz.underlying52 hF rfl rfl) rfl rfl fun a hF=>?_
    refine aK hF rfl rfl rfl c0 (aF hF rfl rfl) rfl rfl fun a hF=>?_
    refine aK hF rfl rfl rfl c0 (cH hF rfl rfl rfl) rfl rfl fun a hF=>?_
    refine aA hF (aQ hF rfl rfl c0 rfl) rfl rfl rfl fun a hF=>?_
    refine aI (aB ?_)
    have hP:=Option.some.inj hP
    subst hP
    exact ⟨(decide ((g4.length:Int) < (c2.old.length:Int))),rfl,hF.to ⟨rfl,rfl,rfl,rfl,rfl,rfl,rfl,rfl,rfl,trivial⟩,selM hM [1] 2 rfl⟩
   rintro d8 a w hP ⟨hF,hM⟩
   replace hP:Sh.aU c6 c2 c9 d8 = _:=hP
   unfold Sh.aU at hP
   refine aB ?_
   refine aR hF (c:=.tmp 61) rfl (fun d6=>?_) (fun d6=>?_)
   ·have hP:=Fx.cT d6 hP
    refine aH ?_
    refine aC ?_
    refine aA hF (aG hF rfl rfl) rfl rfl rfl fun a hF=>?_
    refine aI (aB ?_)
    refine c_ret ?_
    have hP:=Option.some.inj hP
    subst hP
    have hP:=d7 _ rfl
    subst hP
    have hP:=cL g3
    subst hP
    refine aY Tryz.results227 hF rfl ?_
    exact ⟨rfl,selM hM [] 1 rfl⟩
   have hP:=Fx.cF d6 hP
   refine aT (aB ?_)
   refine aC ?_
   refine aA hF (aD (off':=1) Tryz.underlying156 rfl in3 rfl hF rfl rfl rfl) rfl rfl rfl fun a hF=>?_
   refine aA hF (aJ Tryz.isAgg3 hF rfl rfl (hM.cell (i:=0) rfl (RPiece.g_from_ _))) rfl rfl rfl fun a hF=>?_
   refine aA hF (aF hF rfl rfl) rfl rfl rfl fun a hF=>?_
   refine aA hF (cA hF rfl rfl rfl) rfl rfl rfl fun a hF=>?_
   refine aA hF (cA hF rfl rfl rfl) rfl rfl rfl fun a hF=>?_
   refine aA hF (aG hF rfl rfl) rfl rfl rfl fun a hF=>?_
   refine aI (bI (aB ?_))
   refine aC ?_
   refine aA hF (cA hF rfl rfl rfl) rfl rfl rfl fun a hF=>?_
   refine aA hF (aF hF rfl rfl) rfl rfl rfl fun a hF=>?_
   refine aI (aB ?_)
   have hP:=Option.some.inj hP
   subst hP
   exact ⟨((IntKind.i64.wrap (c6 + 1)),c9,(IntKind.i64.wrap ((IntKind.i64.wrap (c2.from_ + (c2.old.length:Int))) + 1))),rfl,hF.to ⟨rfl,rfl,rfl,rfl,rfl,rfl,trivial⟩,selM hM [] 1 rfl⟩
  have hP:=Fx.cF d3 hP
  refine bW (bD (bD (cG ?_)))
  refine aB ?_
  have hP:=Option.some.inj hP
  subst hP
  have hP:=d7 _ rfl
  subst hP
  exact ⟨(),rfl,hF.to ⟨rfl,trivial⟩,hM⟩
 rintro ⟨⟩ a w hP ⟨hF,hM⟩
 replace hP:Sh.iB = _:=hP
 unfold Sh.iB at hP
 refine aB ?_
 refine aH ?_
 refine aC ?_
 refine aA hF (aG hF rfl rfl) rfl rfl rfl fun a hF=>?_
 refine aI (aB ?_)
 refine c_ret ?_
 have hP:=Option.some.inj hP
 subst hP
 refine aY Tryz.results227 hF rfl ?_
 exact ⟨rfl,hM⟩
set_option maxHeartbeats 4000000 in
theorem jI {x0:QMark} {s1:SV} {s3:SV} {s5:SV} {hs6:List RPiece} {s9:SV} {out:Bool} {w0:World} {Bf:World → Prop} {Lr:List Res} (hP:Sh.dN x0 = some out) (hM:MemL w0 (Lr)) (hsub:∀ w,MemL w Lr → Bf w) (f2:LIn Bf s1 x0.regs) (f4:LIn Bf s3 x0.slots) (f7:LIn Bf s5 hs6) (q8:Each (QPieceIn Bf) hs6 x0.pieces) (f10:LIn Bf s9 x0.sent):Calls Tryz.prog 173 #[.agg (RMark.enc (RMark.mk x0.at_ x0.next x0.done s1 s3 s5 s9)).toArray] w0 (Ret fun v w'=>v = .bool out ∧ MemL w' (Lr)):=by
 unfold Sh.dN at hP
 refine aM (vs:=[.agg (RMark.enc (RMark.mk x0.at_ x0.next x0.done s1 s3 s5 s9)).toArray]) Tryz.func173 rfl Tryz.ntmps173 rfl fun a hF=>?_
 refine aH ?_
 refine aC ?_
 refine aN hF rfl rfl rfl (dD hF rfl rfl rfl fun c0 w i9 g3=>?_)
 have hM:=hM.plus g3
 replace hM:MemL _ (pt c0 (RMark.enc (RMark.mk x0.at_ x0.next x0.done s1 s3 s5 s9)) 60 :: Lr):=hM
 intro a hF
 refine aA hF (aG hF rfl rfl) rfl rfl rfl fun a hF=>?_
 refine aI (aB ?_)
 refine aH ?_
 refine aH ?_
 refine aS hF hM hP (fun F x a w=>match x with | d8=>Fr 73 [(23,.bool d8),(1,.pointer (some ⟨c0,0,none⟩)),(2,.bool false)] a ∧ MemL w (pt c0 (RMark.enc (RMark.mk x0.at_ x0.next x0.done s1 s3 s5 s9)) 60 :: Lr)) (fun k0 hP j2 hF hM=>?_) ?_
 ·refine aC ?_
  refine aA hF (aD (off':=0) Tryz.underlying60 rfl in3 rfl hF rfl rfl rfl) rfl rfl rfl fun a hF=>?_
  refine aA hF (aJ Tryz.isAgg3 hF rfl rfl (hM.cell (i:=0) rfl (RMark.g_at_ _))) rfl rfl rfl fun a hF=>?_
  obtain ⟨j5,i2,hP⟩:=bind_some hP
  refine aN hF rfl rfl rfl (aO (xs:=[.tmp 9,.const (.int .i64 (0)),.const (.int .i64 (4095))]) Tryz.call124 hF rfl rfl (cK i2 hM ) fun v w hR=>?_)
  obtain ⟨rfl,hM⟩:=hR
  replace hM:MemL _ (pt c0 (RMark.enc (RMark.mk x0.at_ x0.next x0.done s1 s3 s5 s9)) 60 :: Lr):=hM
  intro a hF
  refine aA hF (dJ hF rfl rfl) rfl rfl rfl fun a hF=>?_
  refine aA hF (aF hF rfl rfl) rfl rfl rfl fun a hF=>?_
  refine aZ 12 hF rfl (fun c3=>?_) (fun c3=>?_)
  ·have hP:=Fx.cT c3 hP
   refine aE hF rfl rfl rfl c3 rfl rfl fun a hF=>?_
   refine aE hF rfl rfl rfl c3 rfl rfl fun a hF=>?_
   refine aE hF rfl rfl rfl c3 rfl rfl fun a hF=>?_
   refine aE hF rfl rfl rfl c3 rfl rfl fun a hF=>?_
   refine aA hF (aP hF rfl rfl c3 rfl) rfl rfl rfl fun a hF=>?_
   refine aA hF (aF hF rfl rfl) rfl rfl rfl fun a hF=>?_
   refine aE hF rfl rfl rfl rfl rfl rfl fun a hF=>?_
   refine aE hF rfl rfl rfl rfl rfl rfl fun a hF=>?_
   refine aE hF rfl rfl rfl rfl rfl rfl fun a hF=>?_
   refine aE hF rfl rfl rfl rfl rfl rfl fun a hF=>?_
   refine aA hF (aP hF rfl rfl rfl rfl) rfl rfl rfl fun a hF=>?_
   refine aI (aB ?_)
   have hP:=Option.some.inj hP
   subst hP
   exact ⟨true,rfl,hF.to ⟨rfl,rfl,rfl,trivial⟩,hM⟩
  have hP:=Fx.cF c3 hP
  refine aK hF rfl rfl rfl c3 (aD (off':=1) Tryz.underlying60 rfl in3 rfl hF rfl rfl rfl) rfl rfl fun a hF=>?_
  refine aK hF rfl rfl rfl c3 (aJ Tryz.isAgg3 hF rfl rfl (hM.cell (i:=0) rfl (RMark.g_next _))) rfl rfl fun a hF=>?_
  obtain ⟨j6,i3,hP⟩:=bind_some hP
  refine dX hF rfl rfl rfl c3 rfl rfl (aO (xs:=[.tmp 14,.const (.int .i64 (0)),.const (.int .i64 (4095))]) Tryz.call124 hF rfl rfl (cK i3 hM ) fun v w hR=>?_)
  obtain ⟨rfl,hM⟩:=hR
  replace hM:MemL _ (pt c0 (RMark.enc (RMark.mk x0.at_ x0.next x0.done s1 s3 s5 s9)) 60 :: Lr):=hM
  intro a hF
  refine aK hF rfl rfl rfl c3 (dJ hF rfl rfl) rfl rfl fun a hF=>?_
  refine aA hF (aQ hF rfl rfl c3 rfl) rfl rfl rfl fun a hF=>?_
  refine aA hF (aF hF rfl rfl) rfl rfl rfl fun a hF=>?_
  refine aZ 18 hF rfl (fun c4=>?_) (fun c4=>?_)
  ·have hP:=Fx.cT c4 hP
   refine aE hF rfl rfl rfl c4 rfl rfl fun a hF=>?_
   refine aE hF rfl rfl rfl c4 rfl rfl fun a hF=>?_
   refine aE hF rfl rfl rfl c4 rfl rfl fun a hF=>?_
   refine aE hF rfl rfl rfl c4 rfl rfl fun a hF=>?_
   refine aA hF (aP hF rfl rfl c4 rfl) rfl rfl rfl fun a hF=>?_
   refine aI (aB ?_)
   have hP:=Option.some.inj hP
   subst hP
   exact ⟨true,rfl,hF.to ⟨rfl,rfl,rfl,trivial⟩,hM⟩
  have hP:=Fx.cF c4 hP
  refine aK hF rfl rfl rfl c4 (aD (off':=6) Tryz.underlying60 rfl in52 rfl hF rfl rfl rfl) rfl rfl fun a hF=>?_
  refine aK hF rfl rfl rfl c4 (aJ Tryz.isAgg52 hF rfl rfl (hM.cell (i:=0) rfl (RMark.g_sent _))) rfl rfl fun a hF=>?_
  refine aK hF rfl rfl rfl c4 (bG (f10 _ (hsub _ (dropM hM 1))) Tryz.underlying52 hF rfl rfl) rfl rfl fun a hF=>?_
  refine aK hF rfl rfl rfl c4 (eJ hF rfl rfl rfl) rfl rfl fun a hF=>?_
  refine aA hF (aQ hF rfl rfl c4 rfl) rfl rfl rfl fun a hF=>?_
  refine aI (aB ?_)
  have hP:=Option.some.inj hP
  subst hP
  exact ⟨(decide (1 < (x0.sent.length:Int))),rfl,hF.to ⟨rfl,rfl,rfl,trivial⟩,hM⟩
 rintro d8 a w hP ⟨hF,hM⟩
 replace hP:Sh.dI x0 d8 = _:=hP
 unfold Sh.dI at hP
 refine aB ?_
 refine aR hF (c:=.tmp 23) rfl (fun d3=>?_) (fun d3=>?_)
 ·have hP:=Fx.cT d3 hP
  refine aH ?_
  refine aC ?_
  refine aA hF (aG hF rfl rfl) rfl rfl rfl fun a hF=>?_
  refine aI (aB ?_)
  refine c_ret ?_
  have hP:=Option.some.inj hP
  subst hP
  refine aY Tryz.results173 hF rfl ?_
  exact ⟨rfl,selM hM [] 1 rfl⟩
 have hP:=Fx.cF d3 hP
 refine aT (aB ?_)
 refine aH ?_
 refine aC ?_
 refine aA hF (aG hF rfl rfl) rfl rfl rfl fun a hF=>?_
 refine aI (aB ?_)
 refine aH ?_
 refine aS hF hM hP (fun F x a w=>match x with | _=>Fr 73 [(1,.pointer (some ⟨c0,0,none⟩)),(2,.bool false)] a ∧ MemL w (pt c0 (RMark.enc (RMark.mk x0.at_ x0.next x0.done s1 s3 s5 s9)) 60 :: Lr)) (fun k1 hP i7 hF hM=>?_) ?_
 ·refine aH ?_
  refine aC ?_
  refine aA hF (aD (off':=3) Tryz.underlying60 rfl in56 rfl hF rfl rfl rfl) rfl rfl rfl fun a hF=>?_
  refine aA hF (aJ Tryz.isAgg56 hF rfl rfl (hM.cell (i:=0) rfl (RMark.g_regs _))) rfl rfl rfl fun a hF=>?_
  refine aA hF (bG (f2 _ (hsub _ (dropM hM 1))) Tryz.underlying56 hF rfl rfl) rfl rfl rfl fun a hF=>?_
  refine aA hF (aF hF rfl rfl) rfl rfl rfl fun a hF=>?_
  refine aI (aB ?_)
  refine aV ?_
  refine bN hF hM hP (fun F x a w=>match x with | (c9,d1)=>Fr 73 [(27,.int .i64 c9),(3,.int .i64 d1),(1,.pointer (some ⟨c0,0,none⟩)),(2,.bool false),(25,(s1).v),(26,.int .i64 (x0.regs.length:Int))] a ∧ MemL w (pt c0 (RMark.enc (RMark.mk x0.at_ x0.next x0.done s1 s3 s5 s9)) 60 :: Lr)) (fun hF hM=>⟨hF.to ⟨rfl,rfl,rfl,rfl,rfl,rfl,trivial⟩,hM⟩) ?_
  rintro ⟨c9,d1⟩ a w k5 hP g6 ⟨hF,hM⟩
  replace hP:Sh.bJ x0 c9 d1 = _:=hP
  unfold Sh.bJ at hP
  refine aH ?_
  refine aC ?_
  refine aA hF (cH hF rfl rfl rfl) rfl rfl rfl fun a hF=>?_
  refine aI (aB ?_)
  refine aH ?_
  refine aR hF (c:=.tmp 28) rfl (fun d4=>?_) (fun d4=>?_)
  ·have hP:=Fx.cT d4 hP
   refine aT (aB ?_)
   refine aH ?_
   refine aV ?_
   refine aH ?_
   refine aC ?_
   obtain ⟨c7,g1,hP⟩:=bind_some hP
   have g8:=aW g1
   refine aA hF (bC (sz:=9) (f2 _ (hsub _ (dropM hM 1))) Tryz.underlying56 in128 rfl hF rfl rfl rfl (bK g1)) rfl rfl rfl fun a hF=>?_
   refine aA hF (bB Tryz.isAgg128 Tryz.sizeOf128 hF rfl rfl (LTurn.len _) (((f2 _ (hsub _ (dropM hM 1))).elemS g8.2))) rfl rfl rfl fun a hF=>?_
   refine aN hF rfl rfl rfl (cB z128 (zs:=LTurn.zero.enc) rfl rfl fun c5 w j0 g4=>?_)
   have hM:=hM.plus g4
   replace hM:MemL _ (pt c5 (LTurn.enc LTurn.zero) 128 :: pt c0 (RMark.enc (RMark.mk x0.at_ x0.next x0.done s1 s3 s5 s9)) 60 :: Lr):=hM
   intro a hF
   refine bO rfl rfl (bL (vs:=_) Tryz.sizeOf128 (hM.obj (i:=0) rfl) hF rfl rfl rfl rfl (LTurn.len _) (LTurn.one _) (by first | (rw [LTurn.len,LTurn.len]; decide) | (rw [LTurn.len]; decide)) (bU ((LTurn.len _).trans (LTurn.len _).symm)) fun w i0=>?_)
   have hM:=hM.chg i0 (i:=0) rfl
   replace hM:MemL _ (pt c5 (LTurn.enc c7) 128 :: pt c0 (RMark.enc (RMark.mk x0.at_ x0.next x0.done s1 s3 s5 s9)) 60 :: Lr):=hM
   refine aI (aB ?_)
   refine aH ?_
   refine aH ?_
   refine aS hF hM hP (fun F x a w=>match x with | d9=>Fr 73 [(43,.bool d9),(1,.pointer (some ⟨c0,0,none⟩)),(2,.bool false),(25,(s1).v),(26,.int .i64 (x0.regs.length:Int)),(27,.int .i64 c9),(3,.int .i64 d1),(5,.pointer (some ⟨c5,0,none⟩))] a ∧ MemL w (pt c5 (LTurn.enc c7) 128 :: pt c0 (RMark.enc (RMark.mk x0.at_ x0.next x0.done s1 s3 s5 s9)) 60 :: Lr)) (fun k2 hP j3 hF hM=>?_) ?_
   ·refine aC ?_
    refine aA hF (aD (off':=0) Tryz.underlying128 rfl in3 rfl hF rfl rfl rfl) rfl rfl rfl fun a hF=>?_
    refine aA hF (aJ Tryz.isAgg3 hF rfl rfl (hM.cell (i:=0) rfl (LTurn.g_reg _))) rfl rfl rfl fun a hF=>?_
    refine aA hF (aF hF rfl rfl) rfl rfl rfl fun a hF=>?_
    refine aA hF (cA hF rfl rfl rfl) rfl rfl rfl fun a hF=>?_
    obtain ⟨j7,i4,hP⟩:=bind_some hP
    refine aN hF rfl rfl rfl (aO (xs:=[.tmp 32,.tmp 34,.const (.int .i64 (10))]) Tryz.call124 hF rfl rfl (cK i4 hM ) fun v w hR=>?_)
    obtain ⟨rfl,hM⟩:=hR
    replace hM:MemL _ (pt c5 (LTurn.enc c7) 128 :: pt c0 (RMark.enc (RMark.mk x0.at_ x0.next x0.done s1 s3 s5 s9)) 60 :: Lr):=hM
    intro a hF
    refine aA hF (dJ hF rfl rfl) rfl rfl rfl fun a hF=>?_
    refine aA hF (aF hF rfl rfl) rfl rfl rfl fun a hF=>?_
    refine aZ 37 hF rfl (fun c1=>?_) (fun c1=>?_)
    ·have hP:=Fx.cT c1 hP
     refine aE hF rfl rfl rfl c1 rfl rfl fun a hF=>?_
     refine aE hF rfl rfl rfl c1 rfl rfl fun a hF=>?_
     refine aE hF rfl rfl rfl c1 rfl rfl fun a hF=>?_
     refine aE hF rfl rfl rfl c1 rfl rfl fun a hF=>?_
     refine aE hF rfl rfl rfl c1 rfl rfl fun a hF=>?_
     refine aA hF (aP hF rfl rfl c1 rfl) rfl rfl rfl fun a hF=>?_
     refine aI (aB ?_)
     have hP:=Option.some.inj hP
     subst hP
     exact ⟨true,rfl,hF.to ⟨rfl,rfl,rfl,rfl,rfl,rfl,rfl,rfl,trivial⟩,hM⟩
    have hP:=Fx.cF c1 hP
    refine aK hF rfl rfl rfl c1 (aD (off':=1) Tryz.underlying128 rfl in46 rfl hF rfl rfl rfl) rfl rfl fun a hF=>?_
    refine aK hF rfl rfl rfl c1 (bB Tryz.isAgg46 Tryz.sizeOf46 hF rfl rfl (LVal.len _) (hM.cells (i:=0) rfl (LTurn.c_old _))) rfl rfl fun a hF=>?_
    refine aK hF rfl rfl rfl c1 (aD (off':=5) Tryz.underlying128 rfl in46 rfl hF rfl rfl rfl) rfl rfl fun a hF=>?_
    refine aK hF rfl rfl rfl c1 (bB Tryz.isAgg46 Tryz.sizeOf46 hF rfl rfl (LVal.len _) (hM.cells (i:=0) rfl (LTurn.c_new _))) rfl rfl fun a hF=>?_
    refine aK hF rfl rfl rfl c1 (hZ Tryz.eqGuardType46 (fY _ _ _ _ (by decide)) hF rfl rfl rfl) rfl rfl fun a hF=>?_
    refine aA hF (aQ hF rfl rfl c1 rfl) rfl rfl rfl fun a hF=>?_
    refine aI (aB ?_)
    have hP:=Option.some.inj hP
    subst hP
    exact ⟨(decide (c7.old = c7.new)),rfl,hF.to ⟨rfl,rfl,rfl,rfl,rfl,rfl,rfl,rfl,trivial⟩,hM⟩
   rintro d9 a w hP ⟨hF,hM⟩
   replace hP:Sh.jR c9 c7 d9 = _:=hP
   unfold Sh.jR at hP
   refine aB ?_
   refine aR hF (c:=.tmp 43) rfl (fun d5=>?_) (fun d5=>?_)
   ·have hP:=Fx.cT d5 hP
    refine aH ?_
    refine aC ?_
    refine aA hF (aG hF rfl rfl) rfl rfl rfl fun a hF=>?_
    refine aI (aB ?_)
    refine c_ret ?_
    have hP:=Option.some.inj hP
    subst hP
    have hP:=g6 _ rfl
    subst hP
    have hP:=cL i7
    subst hP
    refine aY Tryz.results173 hF rfl ?_
    exact ⟨rfl,selM hM [] 2 rfl⟩
   have hP:=Fx.cF d5 hP
   refine aT (aB ?_)
   refine aC ?_
   refine aA hF (aD (off':=0) Tryz.underlying128 rfl in3 rfl hF rfl rfl rfl) rfl rfl rfl fun a hF=>?_
   refine aA hF (aJ Tryz.isAgg3 hF rfl rfl (hM.cell (i:=0) rfl (LTurn.g_reg _))) rfl rfl rfl fun a hF=>?_
   refine aA hF (aG hF rfl rfl) rfl rfl rfl fun a hF=>?_
   refine aI (bI (aB ?_))
   refine aC ?_
   refine aA hF (cA hF rfl rfl rfl) rfl rfl rfl fun a hF=>?_
   refine aA hF (aF hF rfl rfl) rfl rfl rfl fun a hF=>?_
   refine aI (aB ?_)
   have hP:=Option.some.inj hP
   subst hP
   exact ⟨((IntKind.i64.wrap (c9 + 1)),c7.reg),rfl,hF.to ⟨rfl,rfl,rfl,rfl,rfl,rfl,trivial⟩,selM hM [1] 2 rfl⟩
  have hP:=Fx.cF d4 hP
  refine bW (bD (bD (cG ?_)))
  refine aB ?_
  have hP:=Option.some.inj hP
  subst hP
  have hP:=g6 _ rfl
  subst hP
  exact ⟨(),rfl,hF.to ⟨rfl,rfl,trivial⟩,hM⟩
 rintro ⟨⟩ a w hP ⟨hF,hM⟩
 replace hP:Sh.dJ x0 = _:=hP
 unfold Sh.dJ at hP
 refine aB ?_
 refine aH ?_
 refine aC ?_
 refine aA hF (aG hF rfl rfl) rfl rfl rfl fun a hF=>?_
 refine aI (aB ?_)
 refine aH ?_
 refine aS hF hM hP (fun F x a w=>match x with | _=>Fr 73 [(1,.pointer (some ⟨c0,0,none⟩)),(2,.bool false)] a ∧ MemL w (pt c0 (RMark.enc (RMark.mk x0.at_ x0.next x0.done s1 s3 s5 s9)) 60 :: Lr)) (fun k3 hP i8 hF hM=>?_) ?_
 ·refine aH ?_
  refine aC ?_
  refine aA hF (aD (off':=4) Tryz.underlying60 rfl in57 rfl hF rfl rfl rfl) rfl rfl rfl fun a hF=>?_
  refine aA hF (aJ Tryz.isAgg57 hF rfl rfl (hM.cell (i:=0) rfl (RMark.g_slots _))) rfl rfl rfl fun a hF=>?_
  refine aA hF (bG (f4 _ (hsub _ (dropM hM 1))) Tryz.underlying57 hF rfl rfl) rfl rfl rfl fun a hF=>?_
  refine aA hF (aF hF rfl rfl) rfl rfl rfl fun a hF=>?_
  refine aI (aB ?_)
  refine aV ?_
  refine bN hF hM hP (fun F x a w=>match x with | (d2,d0)=>Fr 73 [(3,.int .i64 d2),(50,.int .i64 d0),(1,.pointer (some ⟨c0,0,none⟩)),(2,.bool false),(48,(s3).v),(49,.int .i64 (x0.slots.length:Int))] a ∧ MemL w (pt c0 (RMark.enc (RMark.mk x0.at_ x0.next x0.done s1 s3 s5 s9)) 60 :: Lr)) (fun hF hM=>⟨hF.to ⟨rfl,rfl,rfl,rfl,rfl,rfl,trivial⟩,hM⟩) ?_
  rintro ⟨d2,d0⟩ a w k6 hP g7 ⟨hF,hM⟩
  replace hP:Sh.bK x0 d2 d0 = _:=hP
  unfold Sh.bK at hP
  refine aH ?_
  refine aC ?_
  refine aA hF (cH hF rfl rfl rfl) rfl rfl rfl fun a hF=>?_
  refine aI (aB ?_)
  refine aH ?_
  refine aR hF (c:=.tmp 51) rfl (fun d6=>?_) (fun d6=>?_)
  ·have hP:=Fx.cT d6 hP
   refine aT (aB ?_)
   refine aH ?_
   refine aV ?_
   refine aH ?_
   refine aC ?_
   obtain ⟨c8,g2,hP⟩:=bind_some hP
   have g9:=aW g2
   refine aA hF (bC (sz:=27) (f4 _ (hsub _ (dropM hM 1))) Tryz.underlying57 in151 rfl hF rfl rfl rfl (bK g2)) rfl rfl rfl fun a hF=>?_
   refine aA hF (bB Tryz.isAgg151 Tryz.sizeOf151 hF rfl rfl (LCell.len _) (((f4 _ (hsub _ (dropM hM 1))).elemS g9.2))) rfl rfl rfl fun a hF=>?_
   refine aN hF rfl rfl rfl (cB z151 (zs:=LCell.zero.enc) rfl rfl fun c6 w j1 g5=>?_)
   have hM:=hM.plus g5
   replace hM:MemL _ (pt c6 (LCell.enc LCell.zero) 151 :: pt c0 (RMark.enc (RMark.mk x0.at_ x0.next x0.done s1 s3 s5 s9)) 60 :: Lr):=hM
   intro a hF
   refine bO rfl rfl (bL (vs:=_) Tryz.sizeOf151 (hM.obj (i:=0) rfl) hF rfl rfl rfl rfl (LCell.len _) (LCell.one _) (by first | (rw [LCell.len,LCell.len]; decide) | (rw [LCell.len]; decide)) (bU ((LCell.len _).trans (LCell.len _).symm)) fun w i1=>?_)
   have hM:=hM.chg i1 (i:=0) rfl
   replace hM:MemL _ (pt c6 (LCell.enc c8) 151 :: pt c0 (RMark.enc (RMark.mk x0.at_ x0.next x0.done s1 s3 s5 s9)) 60 :: Lr):=hM
   refine aI (aB ?_)
   refine aH ?_
   refine aH ?_
   refine aS hF hM hP (fun F x a w=>match x with | g0=>Fr 73 [(66,.bool g0),(1,.pointer (some ⟨c0,0,none⟩)),(2,.bool false),(3,.int .i64 d2),(48,(s3).v),(49,.int .i64 (x0.slots.length:Int)),(50,.int .i64 d0),(7,.pointer (some ⟨c6,0,none⟩))] a ∧ MemL w (pt c6 (LCell.enc c8) 151 :: pt c0 (RMark.enc (RMark.mk x0.at_ x0.next x0.done s1 s3 s5 s9)) 60 :: Lr)) (fun k4 hP j4 hF hM=>?_) ?_
   ·refine aC ?_
    refine aA hF (aD (off':=0) Tryz.underlying151 rfl in3 rfl hF rfl rfl rfl) rfl rfl rfl fun a hF=>?_
    refine aA hF (aJ Tryz.isAgg3 hF rfl rfl (hM.cell (i:=0) rfl (LCell.g_slot _))) rfl rfl rfl fun a hF=>?_
    refine aA hF (aF hF rfl rfl) rfl rfl rfl fun a hF=>?_
    refine aA hF (cA hF rfl rfl rfl) rfl rfl rfl fun a hF=>?_
    obtain ⟨j8,i5,hP⟩:=bind_some hP
    refine aN hF rfl rfl rfl (aO (xs:=[.tmp 55,.tmp 57,.const (.int .i64 (31))]) Tryz.call124 hF rfl rfl (cK i5 hM ) fun v w hR=>?_)
    obtain ⟨rfl,hM⟩:=hR
    replace hM:MemL _ (pt c6 (LCell.enc c8) 151 :: pt c0 (RMark.enc (RMark.mk x0.at_ x0.next x0.done s1 s3 s5 s9)) 60 :: Lr):=hM
    intro a hF
    refine aA hF (dJ hF rfl rfl) rfl rfl rfl fun a hF=>?_
    refine aA hF (aF hF rfl rfl) rfl rfl rfl fun a hF=>?_
    refine aZ 60 hF rfl (fun c2=>?_) (fun c2=>?_)
    ·have hP:=Fx.cT c2 hP
     refine aE hF rfl rfl rfl c2 rfl rfl fun a hF=>?_
     refine aE hF rfl rfl rfl c2 rfl rfl fun a hF=>?_
     refine aE hF rfl rfl rfl c2 rfl rfl fun a hF=>?_
     refine aE hF rfl rfl rfl c2 rfl rfl fun a hF=>?_
     refine aE hF rfl rfl rfl c2 rfl rfl fun a hF=>?_
     refine aA hF (aP hF rfl rfl c2 rfl) rfl rfl rfl fun a hF=>?_
     refine aI (aB ?_)
     have hP:=Option.some.inj hP
     subst hP
     exact ⟨true,rfl,hF.to ⟨rfl,rfl,rfl,rfl,rfl,rfl,rfl,rfl,trivial⟩,hM⟩
    have hP:=Fx.cF c2 hP
    refine aK hF rfl rfl rfl c2 (aD (off':=1) Tryz.underlying151 rfl in50 rfl hF rfl rfl rfl) rfl rfl fun a hF=>?_
    refine aK hF rfl rfl rfl c2 (bB Tryz.isAgg50 Tryz.sizeOf50 hF rfl rfl (LSlot.len _) (hM.cells (i:=0) rfl (LCell.c_old _))) rfl rfl fun a hF=>?_
    refine aK hF rfl rfl rfl c2 (aD (off':=14) Tryz.underlying151 rfl in50 rfl hF rfl rfl rfl) rfl rfl fun a hF=>?_
    refine aK hF rfl rfl rfl c2 (bB Tryz.isAgg50 Tryz.sizeOf50 hF rfl rfl (LSlot.len _) (hM.cells (i:=0) rfl (LCell.c_new _))) rfl rfl fun a hF=>?_
    refine aK hF rfl rfl rfl c2 (hZ Tryz.eqGuardType50 (gS _ _ _ _ (by decide)) hF rfl rfl rfl) rfl rfl fun a hF=>?_
    refine aA hF (aQ hF rfl rfl c2 rfl) rfl rfl rfl fun a hF=>?_
    refine aI (aB ?_)
    have hP:=Option.some.inj hP
    subst hP
    exact ⟨(decide (c8.old = c8.new)),rfl,hF.to ⟨rfl,rfl,rfl,rfl,rfl,rfl,rfl,rfl,trivial⟩,hM⟩
   rintro g0 a w hP ⟨hF,hM⟩
   replace hP:Sh.jS d0 c8 g0 = _:=hP
   unfold Sh.jS at hP
   refine aB ?_
   refine aR hF (c:=.tmp 66) rfl (fun d7=>?_) (fun d7=>?_)
   ·have hP:=Fx.cT d7 hP
    refine aH ?_
    refine aC ?_
    refine aA hF (aG hF rfl rfl) rfl rfl rfl fun a hF=>?_
    refine aI (aB ?_)
    refine c_ret ?_
    have hP:=Option.some.inj hP
    subst hP
    have hP:=g7 _ rfl
    subst hP
    have hP:=cL i8
    subst hP
    refine aY Tryz.results173 hF rfl ?_
    exact ⟨rfl,selM hM [] 2 rfl⟩
   have hP:=Fx.cF d7 hP
   refine aT (aB ?_)
   refine aC ?_
   refine aA hF (aD (off':=0) Tryz.underlying151 rfl in3 rfl hF rfl rfl rfl) rfl rfl rfl fun a hF=>?_
   refine aA hF (aJ Tryz.isAgg3 hF rfl rfl (hM.cell (i:=0) rfl (LCell.g_slot _))) rfl rfl rfl fun a hF=>?_
   refine aA hF (aG hF rfl rfl) rfl rfl rfl fun a hF=>?_
   refine aI (bI (aB ?_))
   refine aC ?_
   refine aA hF (cA hF rfl rfl rfl) rfl rfl rfl fun a hF=>?_
   refine aA hF (aF hF rfl rfl) rfl rfl rfl fun a hF=>?_
   refine aI (aB ?_)
   have hP:=Option.some.inj hP
   subst hP
   exact ⟨(c8.slot,(IntKind.i64.wrap (d0 + 1))),rfl,hF.to ⟨rfl,rfl,rfl,rfl,rfl,rfl,trivial⟩,selM hM [1] 2 rfl⟩
  have hP:=Fx.cF d6 hP
  refine bW (bD (bD (cG ?_)))
  refine aB ?_
  have hP:=Option.some.inj hP
  subst hP
  have hP:=g7 _ rfl
  subst hP
  exact ⟨(),rfl,hF.to ⟨rfl,rfl,trivial⟩,hM⟩
 rintro ⟨⟩ a w hP ⟨hF,hM⟩
 replace hP:Sh.dK x0 = _:=hP
 unfold Sh.dK at hP
 refine aB ?_
 refine aH ?_
 refine aC ?_
 refine aA hF (aD (off':=5) Tryz.underlying60 rfl in58 rfl hF rfl rfl rfl) rfl rfl rfl fun a hF=>?_
 refine aA hF (aJ Tryz.isAgg58 hF rfl rfl (hM.cell (i:=0) rfl (RMark.g_pieces _))) rfl rfl rfl fun a hF=>?_
 obtain ⟨j9,i6,hP⟩:=bind_some hP
 refine aN hF rfl rfl rfl (aO (xs:=[.tmp 71]) Tryz.call227 hF rfl rfl (jW i6 hM (Bf:=Bf) (fun w hM=>hsub _ (dropM hM 1)) f7 q8) fun v w hR=>?_)
 obtain ⟨rfl,hM⟩:=hR
 replace hM:MemL _ (pt c0 (RMark.enc (RMark.mk x0.at_ x0.next x0.done s1 s3 s5 s9)) 60 :: Lr):=hM
 intro a hF
 refine aA hF (aG hF rfl rfl) rfl rfl rfl fun a hF=>?_
 refine aI (aB ?_)
 refine c_ret ?_
 have hP:=Option.some.inj hP
 subst hP
 refine aY Tryz.results173 hF rfl ?_
 exact ⟨rfl,selM hM [] 1 rfl⟩
set_option maxHeartbeats 4000000 in
theorem fK {x0:LVal} {out:Bool} {w0:World} {Lr:List Res} (hP:Sh.eB x0 = some out) (hM:MemL w0 (Lr)):Calls Tryz.prog 174 #[.agg (LVal.enc x0).toArray] w0 (Ret fun v w'=>v = .bool out ∧ MemL w' (Lr)):=by
 unfold Sh.eB at hP
 refine aM (vs:=[.agg (LVal.enc x0).toArray]) Tryz.func174 rfl Tryz.ntmps174 rfl fun a hF=>?_
 refine aH ?_
 refine aC ?_
 refine aN hF rfl rfl rfl (dD hF rfl rfl rfl fun c0 w c2 c1=>?_)
 have hM:=hM.plus c1
 replace hM:MemL _ (pt c0 (LVal.enc x0) 46 :: Lr):=hM
 intro a hF
 refine aA hF (aG hF rfl rfl) rfl rfl rfl fun a hF=>?_
 refine aI (aB ?_)
 refine aH ?_
 refine aV ?_
 refine aH ?_
 refine aC ?_
 refine aA hF (aD (off':=0) Tryz.underlying46 rfl in3 rfl hF rfl rfl rfl) rfl rfl rfl fun a hF=>?_
 refine aA hF (aJ Tryz.isAgg3 hF rfl rfl (hM.cell (i:=0) rfl (LVal.g_kind _))) rfl rfl rfl fun a hF=>?_
 refine aA hF (cE hF rfl rfl rfl) rfl rfl rfl fun a hF=>?_
 refine aA hF (aG hF rfl rfl) rfl rfl rfl fun a hF=>?_
 refine aI (aB ?_)
 refine aR hF (c:=.tmp 3) rfl (fun hb65=>?_) (fun hb65=>?_)
 ·have hP:=Fx.cT hb65 hP
  refine aH ?_
  refine aS hF hM hP (fun F x a w=>match x with | v76=>Fr 34 [(2,.bool v76),(1,.pointer (some ⟨c0,0,none⟩))] a ∧ MemL w (pt c0 (LVal.enc x0) 46 :: Lr)) (fun c5 hP c3 hF hM=>?_) ?_
  ·refine aC ?_
   refine aA hF (aD (off':=1) Tryz.underlying46 rfl in3 rfl hF rfl rfl rfl) rfl rfl rfl fun a hF=>?_
   refine aA hF (aJ Tryz.isAgg3 hF rfl rfl (hM.cell (i:=0) rfl (LVal.g_table _))) rfl rfl rfl fun a hF=>?_
   obtain ⟨y78,hy78,hP⟩:=bind_some hP
   refine aN hF rfl rfl rfl (aO (xs:=[.tmp 8,.const (.int .i64 (0)),.const (.int .i64 (7))]) Tryz.call124 hF rfl rfl (cK hy78 hM ) fun v w hR=>?_)
   obtain ⟨rfl,hM⟩:=hR
   replace hM:MemL _ (pt c0 (LVal.enc x0) 46 :: Lr):=hM
   intro a hF
   refine aA hF (aF hF rfl rfl) rfl rfl rfl fun a hF=>?_
   refine aZ 10 hF rfl (fun hb79=>?_) (fun hb79=>?_)
   ·have hP:=Fx.cT hb79 hP
    refine aK hF rfl rfl rfl hb79 (aD (off':=2) Tryz.underlying46 rfl in3 rfl hF rfl rfl rfl) rfl rfl fun a hF=>?_
    refine aK hF rfl rfl rfl hb79 (aJ Tryz.isAgg3 hF rfl rfl (hM.cell (i:=0) rfl (LVal.g_row _))) rfl rfl fun a hF=>?_
    obtain ⟨y81,hy81,hP⟩:=bind_some hP
    refine dX hF rfl rfl rfl hb79 rfl rfl (aO (xs:=[.tmp 12,.const (.int .i64 (0)),.const (.int .i64 (63))]) Tryz.call124 hF rfl rfl (cK hy81 hM ) fun v w hR=>?_)
    obtain ⟨rfl,hM⟩:=hR
    replace hM:MemL _ (pt c0 (LVal.enc x0) 46 :: Lr):=hM
    intro a hF
    refine aA hF (aP hF rfl rfl hb79 rfl) rfl rfl rfl fun a hF=>?_
    refine aA hF (aG hF rfl rfl) rfl rfl rfl fun a hF=>?_
    refine aI (aB ?_)
    have hP:=Option.some.inj hP
    subst hP
    exact ⟨y81,rfl,hF.to ⟨rfl,rfl,trivial⟩,hM⟩
   have hP:=Fx.cF hb79 hP
   refine aE hF rfl rfl rfl hb79 rfl rfl fun a hF=>?_
   refine aE hF rfl rfl rfl hb79 rfl rfl fun a hF=>?_
   refine aE hF rfl rfl rfl hb79 rfl rfl fun a hF=>?_
   refine aA hF (aQ hF rfl rfl hb79 rfl) rfl rfl rfl fun a hF=>?_
   refine aA hF (aG hF rfl rfl) rfl rfl rfl fun a hF=>?_
   refine aI (aB ?_)
   have hP:=Option.some.inj hP
   subst hP
   exact ⟨false,rfl,hF.to ⟨rfl,rfl,trivial⟩,hM⟩
  rintro v76 a w hP ⟨hF,hM⟩
  replace hP:Sh.fV v76 = _:=hP
  unfold Sh.fV at hP
  refine aB ?_
  refine c_ret ?_
  have hP:=Option.some.inj hP
  subst hP
  refine aY Tryz.results174 hF rfl ?_
  exact ⟨rfl,selM hM [] 1 rfl⟩
 have hP:=Fx.cF hb65 hP
 refine aH ?_
 refine aC ?_
 refine aA hF (aD (off':=0) Tryz.underlying46 rfl in3 rfl hF rfl rfl rfl) rfl rfl rfl fun a hF=>?_
 refine aA hF (aJ Tryz.isAgg3 hF rfl rfl (hM.cell (i:=0) rfl (LVal.g_kind _))) rfl rfl rfl fun a hF=>?_
 refine aA hF (cE hF rfl rfl rfl) rfl rfl rfl fun a hF=>?_
 refine aA hF (aG hF rfl rfl) rfl rfl rfl fun a hF=>?_
 refine aI (aB ?_)
 refine aR hF (c:=.tmp 15) rfl (fun hb82=>?_) (fun hb82=>?_)
 ·have hP:=Fx.cT hb82 hP
  refine aH ?_
  refine aC ?_
  refine aA hF (bB Tryz.isAgg46 Tryz.sizeOf46 hF rfl rfl (LVal.len _) (hM.cells (i:=0) rfl (bV (LVal.len _)))) rfl rfl rfl fun a hF=>?_
  refine aA hF (cU z46 Tryz.underlying46 pl46 hF (parts:=[]) rfl rfl dI) rfl rfl rfl fun a hF=>?_
  refine aA hF (hZ Tryz.eqGuardType46 (fY _ _ _ _ (by decide)) hF rfl rfl rfl) rfl rfl rfl fun a hF=>?_
  refine aA hF (aG hF rfl rfl) rfl rfl rfl fun a hF=>?_
  refine aI (aB ?_)
  refine c_ret ?_
  have hP:=Option.some.inj hP
  subst hP
  refine aY Tryz.results174 hF rfl ?_
  exact ⟨rfl,selM hM [] 1 rfl⟩
 have hP:=Fx.cF hb82 hP
 refine aT (bI (aB ?_))
 refine aH ?_
 refine aS hF hM hP (fun F x a w=>match x with | v89=>Fr 34 [(2,.bool v89)] a ∧ MemL w (Lr)) (fun c6 hP c4 hF hM=>?_) ?_
 ·refine aC ?_
  refine aA hF (aD (off':=0) Tryz.underlying46 rfl in3 rfl hF rfl rfl rfl) rfl rfl rfl fun a hF=>?_
  refine aA hF (aJ Tryz.isAgg3 hF rfl rfl (hM.cell (i:=0) rfl (LVal.g_kind _))) rfl rfl rfl fun a hF=>?_
  obtain ⟨y91,hy91,hP⟩:=bind_some hP
  refine aN hF rfl rfl rfl (aO (xs:=[.tmp 23,.const (.int .i64 (1)),.const (.int .i64 (4))]) Tryz.call124 hF rfl rfl (cK hy91 hM ) fun v w hR=>?_)
  obtain ⟨rfl,hM⟩:=hR
  replace hM:MemL _ (pt c0 (LVal.enc x0) 46 :: Lr):=hM
  intro a hF
  refine aA hF (aF hF rfl rfl) rfl rfl rfl fun a hF=>?_
  refine aZ 25 hF rfl (fun hb92=>?_) (fun hb92=>?_)
  ·have hP:=Fx.cT hb92 hP
   refine aK hF rfl rfl rfl hb92 (bB Tryz.isAgg46 Tryz.sizeOf46 hF rfl rfl (LVal.len _) (hM.cells (i:=0) rfl (bV (LVal.len _)))) rfl rfl fun a hF=>?_
   refine aK hF rfl rfl rfl hb92 (aD (off':=0) Tryz.underlying46 rfl in3 rfl hF rfl rfl rfl) rfl rfl fun a hF=>?_
   refine aK hF rfl rfl rfl hb92 (aJ Tryz.isAgg3 hF rfl rfl (hM.cell (i:=0) rfl (LVal.g_kind _))) rfl rfl fun a hF=>?_
   refine aK hF rfl rfl rfl hb92 (aD (off':=3) Tryz.underlying46 rfl in3 rfl hF rfl rfl rfl) rfl rfl fun a hF=>?_
   refine aK hF rfl rfl rfl hb92 (aJ Tryz.isAgg3 hF rfl rfl (hM.cell (i:=0) rfl (LVal.g_x _))) rfl rfl fun a hF=>?_
   refine aK hF rfl rfl rfl hb92 (cU z46 Tryz.underlying46 pl46 hF (parts:=[(0,.tmp 28),(3,.tmp 30)]) rfl rfl (cN rfl rfl (by rw [LVal.len]; decide) (LVal.s_kind _ _) (cN rfl rfl (by rw [LVal.len]; decide) (LVal.s_x _ _) dI))) rfl rfl fun a hF=>?_
   refine aK hF rfl rfl rfl hb92 (hZ Tryz.eqGuardType46 (fY _ _ _ _ (by decide)) hF rfl rfl rfl) rfl rfl fun a hF=>?_
   refine aA hF (aP hF rfl rfl hb92 rfl) rfl rfl rfl fun a hF=>?_
   refine aA hF (aG hF rfl rfl) rfl rfl rfl fun a hF=>?_
   refine aI (aB ?_)
   have hP:=Option.some.inj hP
   subst hP
   exact ⟨(decide (x0 = (LVal.mk x0.kind 0 0 x0.x))),rfl,hF.to ⟨rfl,trivial⟩,selM hM [] 1 rfl⟩
  have hP:=Fx.cF hb92 hP
  refine aE hF rfl rfl rfl hb92 rfl rfl fun a hF=>?_
  refine aE hF rfl rfl rfl hb92 rfl rfl fun a hF=>?_
  refine aE hF rfl rfl rfl hb92 rfl rfl fun a hF=>?_
  refine aE hF rfl rfl rfl hb92 rfl rfl fun a hF=>?_
  refine aE hF rfl rfl rfl hb92 rfl rfl fun a hF=>?_
  refine aE hF rfl rfl rfl hb92 rfl rfl fun a hF=>?_
  refine aE hF rfl rfl rfl hb92 rfl rfl fun a hF=>?_
  refine aA hF (aQ hF rfl rfl hb92 rfl) rfl rfl rfl fun a hF=>?_
  refine aA hF (aG hF rfl rfl) rfl rfl rfl fun a hF=>?_
  refine aI (aB ?_)
  have hP:=Option.some.inj hP
  subst hP
  exact ⟨false,rfl,hF.to ⟨rfl,trivial⟩,selM hM [] 1 rfl⟩
 rintro v89 a w hP ⟨hF,hM⟩
 replace hP:Sh.fW v89 = _:=hP
 unfold Sh.fW at hP
 refine aB ?_
 refine c_ret ?_
 have hP:=Option.some.inj hP
 subst hP
 refine aY Tryz.results174 hF rfl ?_
 exact ⟨rfl,hM⟩
set_option maxHeartbeats 4000000 in
theorem iM {x0:LSlot} {out:Bool} {w0:World} {Lr:List Res} (hP:Sh.fU x0 = some out) (hM:MemL w0 (Lr)):Calls Tryz.prog 175 #[.agg (LSlot.enc x0).toArray] w0 (Ret fun v w'=>v = .bool out ∧ MemL w' (Lr)):=by
 unfold Sh.fU at hP
 refine aM (vs:=[.agg (LSlot.enc x0).toArray]) Tryz.func175 rfl Tryz.ntmps175 rfl fun a hF=>?_
 refine aH ?_
 refine aC ?_
 refine aN hF rfl rfl rfl (dD hF rfl rfl rfl fun c0 w d9 c9=>?_)
 have hM:=hM.plus c9
 replace hM:MemL _ (pt c0 (LSlot.enc x0) 50 :: Lr):=hM
 intro a hF
 refine aA hF (aG hF rfl rfl) rfl rfl rfl fun a hF=>?_
 refine aI (aB ?_)
 refine aH ?_
 refine aH ?_
 refine aC ?_
 refine aA hF (aD (off':=0) Tryz.underlying50 rfl in46 rfl hF rfl rfl rfl) rfl rfl rfl fun a hF=>?_
 refine aA hF (aD (off':=0) Tryz.underlying46 rfl in3 rfl hF rfl rfl rfl) rfl rfl rfl fun a hF=>?_
 refine aA hF (aJ Tryz.isAgg3 hF rfl rfl ((hM.cells (i:=0) rfl (LSlot.c_ptr _)).get 0 (LVal.g_kind _))) rfl rfl rfl fun a hF=>?_
 refine aA hF (cW hF rfl rfl rfl) rfl rfl rfl fun a hF=>?_
 refine aI (aB ?_)
 refine aR hF (c:=.tmp 8) rfl (fun c6=>?_) (fun c6=>?_)
 ·have hP:=Fx.cT c6 hP
  refine aH ?_
  refine aS hF hM hP (fun F x a w=>match x with | d0=>Fr 51 [(2,.bool d0),(1,.pointer (some ⟨c0,0,none⟩))] a ∧ MemL w (pt c0 (LSlot.enc x0) 50 :: Lr)) (fun g4 hP g1 hF hM=>?_) ?_
  ·refine aC ?_
   refine aA hF (aD (off':=0) Tryz.underlying50 rfl in46 rfl hF rfl rfl rfl) rfl rfl rfl fun a hF=>?_
   refine aA hF (bB Tryz.isAgg46 Tryz.sizeOf46 hF rfl rfl (LVal.len _) (hM.cells (i:=0) rfl (LSlot.c_ptr _))) rfl rfl rfl fun a hF=>?_
   obtain ⟨i0,d7,hP⟩:=bind_some hP
   refine aN hF rfl rfl rfl (aO (xs:=[.tmp 10]) Tryz.call174 hF rfl rfl (fK d7 hM ) fun v w hR=>?_)
   obtain ⟨rfl,hM⟩:=hR
   replace hM:MemL _ (pt c0 (LSlot.enc x0) 50 :: Lr):=hM
   intro a hF
   refine aA hF (aF hF rfl rfl) rfl rfl rfl fun a hF=>?_
   refine aZ 12 hF rfl (fun c3=>?_) (fun c3=>?_)
   ·have hP:=Fx.cT c3 hP
    refine aK hF rfl rfl rfl c3 (aD (off':=0) Tryz.underlying50 rfl in46 rfl hF rfl rfl rfl) rfl rfl fun a hF=>?_
    refine aK hF rfl rfl rfl c3 (aD (off':=0) Tryz.underlying46 rfl in3 rfl hF rfl rfl rfl) rfl rfl fun a hF=>?_
    refine aK hF rfl rfl rfl c3 (aJ Tryz.isAgg3 hF rfl rfl ((hM.cells (i:=0) rfl (LSlot.c_ptr _)).get 0 (LVal.g_kind _))) rfl rfl fun a hF=>?_
    refine aK hF rfl rfl rfl c3 (cW hF rfl rfl rfl) rfl rfl fun a hF=>?_
    refine aA hF (aP hF rfl rfl c3 rfl) rfl rfl rfl fun a hF=>?_
    refine aA hF (aF hF rfl rfl) rfl rfl rfl fun a hF=>?_
    refine aZ 18 hF rfl (fun c2=>?_) (fun c2=>?_)
    ·have hP:=Fx.cT c2 hP
     refine aK hF rfl rfl rfl c2 (bB Tryz.isAgg50 Tryz.sizeOf50 hF rfl rfl (LSlot.len _) (hM.cells (i:=0) rfl (bV (LSlot.len _)))) rfl rfl fun a hF=>?_
     refine aK hF rfl rfl rfl c2 (aD (off':=0) Tryz.underlying50 rfl in46 rfl hF rfl rfl rfl) rfl rfl fun a hF=>?_
     refine aK hF rfl rfl rfl c2 (bB Tryz.isAgg46 Tryz.sizeOf46 hF rfl rfl (LVal.len _) (hM.cells (i:=0) rfl (LSlot.c_ptr _))) rfl rfl fun a hF=>?_
     refine aK hF rfl rfl rfl c2 (cU z50 Tryz.underlying50 pl50 hF (parts:=[(0,.tmp 21)]) rfl rfl (iW rfl (LVal.len _) (by rw [LVal.len,LSlot.len]; decide) (LSlot.p_ptr _ _) dI)) rfl rfl fun a hF=>?_
     refine aK hF rfl rfl rfl c2 (hZ Tryz.eqGuardType50 (gS _ _ _ _ (by decide)) hF rfl rfl rfl) rfl rfl fun a hF=>?_
     refine aA hF (aP hF rfl rfl c2 rfl) rfl rfl rfl fun a hF=>?_
     refine aA hF (aG hF rfl rfl) rfl rfl rfl fun a hF=>?_
     refine aI (aB ?_)
     have hP:=Option.some.inj hP
     subst hP
     exact ⟨(decide (x0 = (LSlot.mk x0.ptr (⟨List.replicate 8 0,rfl⟩ : Vec UInt8 8) 0))),rfl,hF.to ⟨rfl,rfl,trivial⟩,hM⟩
    have hP:=Fx.cF c2 hP
    refine aE hF rfl rfl rfl c2 rfl rfl fun a hF=>?_
    refine aE hF rfl rfl rfl c2 rfl rfl fun a hF=>?_
    refine aE hF rfl rfl rfl c2 rfl rfl fun a hF=>?_
    refine aE hF rfl rfl rfl c2 rfl rfl fun a hF=>?_
    refine aE hF rfl rfl rfl c2 rfl rfl fun a hF=>?_
    refine aA hF (aQ hF rfl rfl c2 rfl) rfl rfl rfl fun a hF=>?_
    refine aA hF (aG hF rfl rfl) rfl rfl rfl fun a hF=>?_
    refine aI (aB ?_)
    have hP:=Option.some.inj hP
    subst hP
    exact ⟨false,rfl,hF.to ⟨rfl,rfl,trivial⟩,hM⟩
   have hP:=Fx.cF c3 hP
   refine aE hF rfl rfl rfl c3 rfl rfl fun a hF=>?_
   refine aE hF rfl rfl rfl c3 rfl rfl fun a hF=>?_
   refine aE hF rfl rfl rfl c3 rfl rfl fun a hF=>?_
   refine aE hF rfl rfl rfl c3 rfl rfl fun a hF=>?_
   refine aA hF (aQ hF rfl rfl c3 rfl) rfl rfl rfl fun a hF=>?_
   refine aA hF (aF hF rfl rfl) rfl rfl rfl fun a hF=>?_
   refine aE hF rfl rfl rfl rfl rfl rfl fun a hF=>?_
   refine aE hF rfl rfl rfl rfl rfl rfl fun a hF=>?_
   refine aE hF rfl rfl rfl rfl rfl rfl fun a hF=>?_
   refine aE hF rfl rfl rfl rfl rfl rfl fun a hF=>?_
   refine aE hF rfl rfl rfl rfl rfl rfl fun a hF=>?_
   refine aA hF (aQ hF rfl rfl rfl rfl) rfl rfl rfl fun a hF=>?_
   refine aA hF (aG hF rfl rfl) rfl rfl rfl fun a hF=>?_
   refine aI (aB ?_)
   have hP:=Option.some.inj hP
   subst hP
   exact ⟨false,rfl,hF.to ⟨rfl,rfl,trivial⟩,hM⟩
  rintro d0 a w hP ⟨hF,hM⟩
  replace hP:Sh.gQ d0 = _:=hP
  unfold Sh.gQ at hP
  refine aB ?_
  refine c_ret ?_
  have hP:=Option.some.inj hP
  subst hP
  refine aY Tryz.results175 hF rfl ?_
  exact ⟨rfl,selM hM [] 1 rfl⟩
 have hP:=Fx.cF c6 hP
 refine aT (aB ?_)
 refine aH ?_
 refine aS hF hM hP (fun F x a w=>match x with | _=>Fr 51 [(1,.pointer (some ⟨c0,0,none⟩)),(2,.bool false)] a ∧ MemL w (pt c0 (LSlot.enc x0) 50 :: Lr)) (fun g5 hP d5 hF hM=>?_) ?_
 ·refine aH ?_
  refine aC ?_
  refine aA hF (aD (off':=4) Tryz.underlying50 rfl in48 rfl hF rfl rfl rfl) rfl rfl rfl fun a hF=>?_
  refine aA hF (bB Tryz.isAgg48 Tryz.sizeOf48 hF rfl rfl (bA _) (hM.cells (i:=0) rfl (LSlot.c_bytes _))) rfl rfl rfl fun a hF=>?_
  refine aA hF (aF hF rfl rfl) rfl rfl rfl fun a hF=>?_
  refine aI (aB ?_)
  refine aV ?_
  refine bN hF hM hP (fun F x a w=>match x with | c5=>Fr 51 [(27,.int .i64 c5),(1,.pointer (some ⟨c0,0,none⟩)),(2,.bool false),(26,.agg (encs x0.bytes.l).toArray)] a ∧ MemL w (pt c0 (LSlot.enc x0) 50 :: Lr)) (fun hF hM=>⟨hF.to ⟨rfl,rfl,rfl,rfl,trivial⟩,hM⟩) ?_
  rintro c5 a w g8 hP d3 ⟨hF,hM⟩
  replace hP:Sh.cH x0 c5 = _:=hP
  unfold Sh.cH at hP
  refine aH ?_
  refine aC ?_
  refine aA hF (cH hF rfl rfl rfl) rfl rfl rfl fun a hF=>?_
  refine aI (aB ?_)
  refine aH ?_
  refine aR hF (c:=.tmp 28) rfl (fun c7=>?_) (fun c7=>?_)
  ·have hP:=Fx.cT c7 hP
   refine aT (aB ?_)
   refine aH ?_
   refine aV ?_
   refine aH ?_
   refine aC ?_
   refine aA hF (aF hF rfl rfl) rfl rfl rfl fun a hF=>?_
   obtain ⟨g9,d4,hP⟩:=bind_some hP
   refine aA hF (pJ Tryz.underlying48 Tryz.sizeOf5 Tryz.isAgg5 hF rfl rfl rfl (eL d4) (qX (aW d4).2 rfl)) rfl rfl rfl fun a hF=>?_
   refine aA hF (aG hF rfl rfl) rfl rfl rfl fun a hF=>?_
   refine aA hF (aG hF rfl rfl) rfl rfl rfl fun a hF=>?_
   refine aI (aB ?_)
   refine aH ?_
   refine aS hF hM hP (fun F x a w=>match x with | d1=>Fr 51 [(40,.bool d1),(1,.pointer (some ⟨c0,0,none⟩)),(2,.bool false),(26,.agg (encs x0.bytes.l).toArray),(27,.int .i64 c5)] a ∧ MemL w (pt c0 (LSlot.enc x0) 50 :: Lr)) (fun g6 hP g2 hF hM=>?_) ?_
   ·refine aC ?_
    refine aA hF (aF hF rfl rfl) rfl rfl rfl fun a hF=>?_
    refine aA hF (cW hF rfl rfl rfl) rfl rfl rfl fun a hF=>?_
    refine aA hF (aF hF rfl rfl) rfl rfl rfl fun a hF=>?_
    refine aZ 33 hF rfl (fun c1=>?_) (fun c1=>?_)
    ·have hP:=Fx.cT c1 hP
     refine aK hF rfl rfl rfl c1 (aD (off':=12) Tryz.underlying50 rfl in3 rfl hF rfl rfl rfl) rfl rfl fun a hF=>?_
     refine aK hF rfl rfl rfl c1 (aJ Tryz.isAgg3 hF rfl rfl (hM.cell (i:=0) rfl (LSlot.g_mask _))) rfl rfl fun a hF=>?_
     refine aK hF rfl rfl rfl c1 (aF hF rfl rfl) rfl rfl fun a hF=>?_
     obtain ⟨d6,hP⟩:=gA hP
     refine aK hF rfl rfl rfl c1 (nU hF rfl rfl rfl (of_decide_eq_true d6)) rfl rfl fun a hF=>?_
     refine aK hF rfl rfl rfl c1 (pH hF rfl rfl rfl) rfl rfl fun a hF=>?_
     refine aK hF rfl rfl rfl c1 (cE hF rfl rfl rfl) rfl rfl fun a hF=>?_
     refine aA hF (aP hF rfl rfl c1 rfl) rfl rfl rfl fun a hF=>?_
     refine aI (aB ?_)
     have hP:=Option.some.inj hP
     subst hP
     exact ⟨(decide ((band .i64 (shr .i64 x0.mask (c5).toNat) 1) = 0)),rfl,hF.to ⟨rfl,rfl,rfl,rfl,rfl,trivial⟩,hM⟩
    have hP:=Fx.cF c1 hP
    refine aE hF rfl rfl rfl c1 rfl rfl fun a hF=>?_
    refine aE hF rfl rfl rfl c1 rfl rfl fun a hF=>?_
    refine aE hF rfl rfl rfl c1 rfl rfl fun a hF=>?_
    refine aE hF rfl rfl rfl c1 rfl rfl fun a hF=>?_
    refine aE hF rfl rfl rfl c1 rfl rfl fun a hF=>?_
    refine aE hF rfl rfl rfl c1 rfl rfl fun a hF=>?_
    refine aA hF (aQ hF rfl rfl c1 rfl) rfl rfl rfl fun a hF=>?_
    refine aI (aB ?_)
    have hP:=Option.some.inj hP
    subst hP
    exact ⟨false,rfl,hF.to ⟨rfl,rfl,rfl,rfl,rfl,trivial⟩,hM⟩
   rintro d1 a w hP ⟨hF,hM⟩
   replace hP:Sh.dW c5 d1 = _:=hP
   unfold Sh.dW at hP
   refine aB ?_
   refine aR hF (c:=.tmp 40) rfl (fun c8=>?_) (fun c8=>?_)
   ·have hP:=Fx.cT c8 hP
    refine aH ?_
    refine aC ?_
    refine aA hF (aG hF rfl rfl) rfl rfl rfl fun a hF=>?_
    refine aI (aB ?_)
    refine c_ret ?_
    have hP:=Option.some.inj hP
    subst hP
    have hP:=d3 _ rfl
    subst hP
    have hP:=cL d5
    subst hP
    refine aY Tryz.results175 hF rfl ?_
    exact ⟨rfl,selM hM [] 1 rfl⟩
   have hP:=Fx.cF c8 hP
   refine aT (bI (aB ?_))
   refine aC ?_
   refine aA hF (cA hF rfl rfl rfl) rfl rfl rfl fun a hF=>?_
   refine aA hF (aF hF rfl rfl) rfl rfl rfl fun a hF=>?_
   refine aI (aB ?_)
   have hP:=Option.some.inj hP
   subst hP
   exact ⟨(IntKind.i64.wrap (c5 + 1)),rfl,hF.to ⟨rfl,rfl,rfl,rfl,trivial⟩,hM⟩
  have hP:=Fx.cF c7 hP
  refine bW (bD (bD (cG ?_)))
  refine aB ?_
  have hP:=Option.some.inj hP
  subst hP
  have hP:=d3 _ rfl
  subst hP
  exact ⟨(),rfl,hF.to ⟨rfl,rfl,trivial⟩,hM⟩
 rintro ⟨⟩ a w hP ⟨hF,hM⟩
 replace hP:Sh.fE x0 = _:=hP
 unfold Sh.fE at hP
 refine aB ?_
 refine aH ?_
 refine aS hF hM hP (fun F x a w=>match x with | d2=>Fr 51 [(2,.bool d2)] a ∧ MemL w (Lr)) (fun g7 hP g3 hF hM=>?_) ?_
 ·refine aC ?_
  refine aA hF (aD (off':=0) Tryz.underlying50 rfl in46 rfl hF rfl rfl rfl) rfl rfl rfl fun a hF=>?_
  refine aA hF (bB Tryz.isAgg46 Tryz.sizeOf46 hF rfl rfl (LVal.len _) (hM.cells (i:=0) rfl (LSlot.c_ptr _))) rfl rfl rfl fun a hF=>?_
  refine aA hF (cU z46 Tryz.underlying46 pl46 hF (parts:=[]) rfl rfl dI) rfl rfl rfl fun a hF=>?_
  refine aA hF (hZ Tryz.eqGuardType46 (fY _ _ _ _ (by decide)) hF rfl rfl rfl) rfl rfl rfl fun a hF=>?_
  refine aA hF (aF hF rfl rfl) rfl rfl rfl fun a hF=>?_
  refine aZ 46 hF rfl (fun c4=>?_) (fun c4=>?_)
  ·have hP:=Fx.cT c4 hP
   refine aK hF rfl rfl rfl c4 (aD (off':=12) Tryz.underlying50 rfl in3 rfl hF rfl rfl rfl) rfl rfl fun a hF=>?_
   refine aK hF rfl rfl rfl c4 (aJ Tryz.isAgg3 hF rfl rfl (hM.cell (i:=0) rfl (LSlot.g_mask _))) rfl rfl fun a hF=>?_
   obtain ⟨g0,d8,hP⟩:=bind_some hP
   refine dX hF rfl rfl rfl c4 rfl rfl (aO (xs:=[.tmp 48,.const (.int .i64 (0)),.const (.int .i64 (255))]) Tryz.call124 hF rfl rfl (cK d8 hM ) fun v w hR=>?_)
   obtain ⟨rfl,hM⟩:=hR
   replace hM:MemL _ (pt c0 (LSlot.enc x0) 50 :: Lr):=hM
   intro a hF
   refine aA hF (aP hF rfl rfl c4 rfl) rfl rfl rfl fun a hF=>?_
   refine aA hF (aG hF rfl rfl) rfl rfl rfl fun a hF=>?_
   refine aI (aB ?_)
   have hP:=Option.some.inj hP
   subst hP
   exact ⟨g0,rfl,hF.to ⟨rfl,trivial⟩,selM hM [] 1 rfl⟩
  have hP:=Fx.cF c4 hP
  refine aE hF rfl rfl rfl c4 rfl rfl fun a hF=>?_
  refine aE hF rfl rfl rfl c4 rfl rfl fun a hF=>?_
  refine aE hF rfl rfl rfl c4 rfl rfl fun a hF=>?_
  refine aA hF (aQ hF rfl rfl c4 rfl) rfl rfl rfl fun a hF=>?_
  refine aA hF (aG hF rfl rfl) rfl rfl rfl fun a hF=>?_
  refine aI (aB ?_)
  have hP:=Option.some.inj hP
  subst hP
  exact ⟨false,rfl,hF.to ⟨rfl,trivial⟩,selM hM [] 1 rfl⟩
 rintro d2 a w hP ⟨hF,hM⟩
 replace hP:Sh.gR d2 = _:=hP
 unfold Sh.gR at hP
 refine aB ?_
 refine c_ret ?_
 have hP:=Option.some.inj hP
 subst hP
 refine aY Tryz.results175 hF rfl ?_
 exact ⟨rfl,hM⟩
set_option maxHeartbeats 4000000 in
theorem lD {x0:QMark} {s1:SV} {s3:SV} {s5:SV} {hs6:List RPiece} {s9:SV} {out:Bool} {w0:World} {Bf:World → Prop} {Lr:List Res} (hP:Sh.hA x0 = some out) (hM:MemL w0 (Lr)) (hsub:∀ w,MemL w Lr → Bf w) (f2:LIn Bf s1 x0.regs) (f4:LIn Bf s3 x0.slots) (f7:LIn Bf s5 hs6) (q8:Each (QPieceIn Bf) hs6 x0.pieces) (f10:LIn Bf s9 x0.sent):Calls Tryz.prog 99 #[.agg (RMark.enc (RMark.mk x0.at_ x0.next x0.done s1 s3 s5 s9)).toArray] w0 (Ret fun v w'=>v = .bool out ∧ MemL w' (Lr)):=by
 unfold Sh.hA at hP
 refine aM (vs:=[.agg (RMark.enc (RMark.mk x0.at_ x0.next x0.done s1 s3 s5 s9)).toArray]) Tryz.func99 rfl Tryz.ntmps99 rfl fun a hF=>?_
 refine aH ?_
 refine aC ?_
 refine aN hF rfl rfl rfl (dD hF rfl rfl rfl fun c0 w i6 g2=>?_)
 have hM:=hM.plus g2
 replace hM:MemL _ (pt c0 (RMark.enc (RMark.mk x0.at_ x0.next x0.done s1 s3 s5 s9)) 60 :: Lr):=hM
 intro a hF
 refine aA hF (aG hF rfl rfl) rfl rfl rfl fun a hF=>?_
 refine aI (aB ?_)
 refine aH ?_
 refine aH ?_
 refine aC ?_
 refine aA hF (bB Tryz.isAgg60 Tryz.sizeOf60 hF rfl rfl (RMark.len _) (hM.cells (i:=0) rfl (bV (RMark.len _)))) rfl rfl rfl fun a hF=>?_
 obtain ⟨j9,i3,hP⟩:=bind_some hP
 refine aN hF rfl rfl rfl (aO (xs:=[.tmp 7]) Tryz.call173 hF rfl rfl (jI i3 hM (Bf:=Bf) (fun w hM=>hsub _ (dropM hM 1)) f2 f4 f7 q8 f10) fun v w hR=>?_)
 obtain ⟨rfl,hM⟩:=hR
 replace hM:MemL _ (pt c0 (RMark.enc (RMark.mk x0.at_ x0.next x0.done s1 s3 s5 s9)) 60 :: Lr):=hM
 intro a hF
 refine aA hF (dJ hF rfl rfl) rfl rfl rfl fun a hF=>?_
 refine aI (aB ?_)
 refine aR hF (c:=.tmp 9) rfl (fun d1=>?_) (fun d1=>?_)
 ·have hP:=Fx.cT d1 hP
  refine aH ?_
  refine aC ?_
  refine aA hF (aG hF rfl rfl) rfl rfl rfl fun a hF=>?_
  refine aI (aB ?_)
  refine c_ret ?_
  have hP:=Option.some.inj hP
  subst hP
  refine aY Tryz.results99 hF rfl ?_
  exact ⟨rfl,selM hM [] 1 rfl⟩
 have hP:=Fx.cF d1 hP
 refine aT (aB ?_)
 refine aH ?_
 refine aS hF hM hP (fun F x a w=>match x with | _=>Fr 46 [(1,.pointer (some ⟨c0,0,none⟩)),(2,.bool false)] a ∧ MemL w (pt c0 (RMark.enc (RMark.mk x0.at_ x0.next x0.done s1 s3 s5 s9)) 60 :: Lr)) (fun j3 hP i1 hF hM=>?_) ?_
 ·refine aH ?_
  refine aC ?_
  refine aA hF (aD (off':=3) Tryz.underlying60 rfl in56 rfl hF rfl rfl rfl) rfl rfl rfl fun a hF=>?_
  refine aA hF (aJ Tryz.isAgg56 hF rfl rfl (hM.cell (i:=0) rfl (RMark.g_regs _))) rfl rfl rfl fun a hF=>?_
  refine aA hF (bG (f2 _ (hsub _ (dropM hM 1))) Tryz.underlying56 hF rfl rfl) rfl rfl rfl fun a hF=>?_
  refine aA hF (aF hF rfl rfl) rfl rfl rfl fun a hF=>?_
  refine aI (aB ?_)
  refine aV ?_
  refine bN hF hM hP (fun F x a w=>match x with | c5=>Fr 46 [(13,.int .i64 c5),(1,.pointer (some ⟨c0,0,none⟩)),(11,(s1).v),(12,.int .i64 (x0.regs.length:Int)),(2,.bool false)] a ∧ MemL w (pt c0 (RMark.enc (RMark.mk x0.at_ x0.next x0.done s1 s3 s5 s9)) 60 :: Lr)) (fun hF hM=>⟨hF.to ⟨rfl,rfl,rfl,rfl,rfl,trivial⟩,hM⟩) ?_
  rintro c5 a w j7 hP d8 ⟨hF,hM⟩
  replace hP:Sh.cF x0 c5 = _:=hP
  unfold Sh.cF at hP
  refine aH ?_
  refine aC ?_
  refine aA hF (cH hF rfl rfl rfl) rfl rfl rfl fun a hF=>?_
  refine aI (aB ?_)
  refine aH ?_
  refine aR hF (c:=.tmp 14) rfl (fun c7=>?_) (fun c7=>?_)
  ·have hP:=Fx.cT c7 hP
   refine aT (aB ?_)
   refine aH ?_
   refine aV ?_
   refine aH ?_
   refine aC ?_
   obtain ⟨d4,d6,hP⟩:=bind_some hP
   have g0:=aW d6
   refine aA hF (bC (sz:=9) (f2 _ (hsub _ (dropM hM 1))) Tryz.underlying56 in128 rfl hF rfl rfl rfl (bK d6)) rfl rfl rfl fun a hF=>?_
   refine aA hF (bB Tryz.isAgg128 Tryz.sizeOf128 hF rfl rfl (LTurn.len _) (((f2 _ (hsub _ (dropM hM 1))).elemS g0.2))) rfl rfl rfl fun a hF=>?_
   refine aN hF rfl rfl rfl (cB z128 (zs:=LTurn.zero.enc) rfl rfl fun c3 w i7 g3=>?_)
   have hM:=hM.plus g3
   replace hM:MemL _ (pt c3 (LTurn.enc LTurn.zero) 128 :: pt c0 (RMark.enc (RMark.mk x0.at_ x0.next x0.done s1 s3 s5 s9)) 60 :: Lr):=hM
   intro a hF
   refine bO rfl rfl (bL (vs:=_) Tryz.sizeOf128 (hM.obj (i:=0) rfl) hF rfl rfl rfl rfl (LTurn.len _) (LTurn.one _) (by first | (rw [LTurn.len,LTurn.len]; decide) | (rw [LTurn.len]; decide)) (bU ((LTurn.len _).trans (LTurn.len _).symm)) fun w g5=>?_)
   have hM:=hM.chg g5 (i:=0) rfl
   replace hM:MemL _ (pt c3 (LTurn.enc d4) 128 :: pt c0 (RMark.enc (RMark.mk x0.at_ x0.next x0.done s1 s3 s5 s9)) 60 :: Lr):=hM
   refine aI (aB ?_)
   refine aH ?_
   refine aS hF hM hP (fun F x a w=>match x with | d2=>Fr 46 [(26,.bool d2),(1,.pointer (some ⟨c0,0,none⟩)),(11,(s1).v),(12,.int .i64 (x0.regs.length:Int)),(13,.int .i64 c5),(2,.bool false)] a ∧ MemL w (pt c0 (RMark.enc (RMark.mk x0.at_ x0.next x0.done s1 s3 s5 s9)) 60 :: Lr)) (fun j4 hP i9 hF hM=>?_) ?_
   ·refine aC ?_
    refine aA hF (aD (off':=1) Tryz.underlying128 rfl in46 rfl hF rfl rfl rfl) rfl rfl rfl fun a hF=>?_
    refine aA hF (bB Tryz.isAgg46 Tryz.sizeOf46 hF rfl rfl (LVal.len _) (hM.cells (i:=0) rfl (LTurn.c_old _))) rfl rfl rfl fun a hF=>?_
    obtain ⟨j1,g7,hP⟩:=bind_some hP
    refine aN hF rfl rfl rfl (aO (xs:=[.tmp 18]) Tryz.call174 hF rfl rfl (fK g7 hM ) fun v w hR=>?_)
    obtain ⟨rfl,hM⟩:=hR
    replace hM:MemL _ (pt c3 (LTurn.enc d4) 128 :: pt c0 (RMark.enc (RMark.mk x0.at_ x0.next x0.done s1 s3 s5 s9)) 60 :: Lr):=hM
    intro a hF
    refine aA hF (dJ hF rfl rfl) rfl rfl rfl fun a hF=>?_
    refine aA hF (aF hF rfl rfl) rfl rfl rfl fun a hF=>?_
    refine aZ 21 hF rfl (fun c1=>?_) (fun c1=>?_)
    ·have hP:=Fx.cT c1 hP
     refine aE hF rfl rfl rfl c1 rfl rfl fun a hF=>?_
     refine aE hF rfl rfl rfl c1 rfl rfl fun a hF=>?_
     refine aE hF rfl rfl rfl c1 rfl rfl fun a hF=>?_
     refine aE hF rfl rfl rfl c1 rfl rfl fun a hF=>?_
     refine aA hF (aP hF rfl rfl c1 rfl) rfl rfl rfl fun a hF=>?_
     refine aI (aB ?_)
     have hP:=Option.some.inj hP
     subst hP
     exact ⟨true,rfl,hF.to ⟨rfl,rfl,rfl,rfl,rfl,rfl,trivial⟩,selM hM [1] 2 rfl⟩
    have hP:=Fx.cF c1 hP
    refine aK hF rfl rfl rfl c1 (aD (off':=5) Tryz.underlying128 rfl in46 rfl hF rfl rfl rfl) rfl rfl fun a hF=>?_
    refine aK hF rfl rfl rfl c1 (bB Tryz.isAgg46 Tryz.sizeOf46 hF rfl rfl (LVal.len _) (hM.cells (i:=0) rfl (LTurn.c_new _))) rfl rfl fun a hF=>?_
    obtain ⟨i4,g8,hP⟩:=bind_some hP
    refine dX hF rfl rfl rfl c1 rfl rfl (aO (xs:=[.tmp 23]) Tryz.call174 hF rfl rfl (fK g8 hM ) fun v w hR=>?_)
    obtain ⟨rfl,hM⟩:=hR
    replace hM:MemL _ (pt c3 (LTurn.enc d4) 128 :: pt c0 (RMark.enc (RMark.mk x0.at_ x0.next x0.done s1 s3 s5 s9)) 60 :: Lr):=hM
    intro a hF
    refine aK hF rfl rfl rfl c1 (dJ hF rfl rfl) rfl rfl fun a hF=>?_
    refine aA hF (aQ hF rfl rfl c1 rfl) rfl rfl rfl fun a hF=>?_
    refine aI (aB ?_)
    have hP:=Option.some.inj hP
    subst hP
    exact ⟨(!i4),rfl,hF.to ⟨rfl,rfl,rfl,rfl,rfl,rfl,trivial⟩,selM hM [1] 2 rfl⟩
   rintro d2 a w hP ⟨hF,hM⟩
   replace hP:Sh.jJ c5 d2 = _:=hP
   unfold Sh.jJ at hP
   refine aB ?_
   refine aR hF (c:=.tmp 26) rfl (fun c8=>?_) (fun c8=>?_)
   ·have hP:=Fx.cT c8 hP
    refine aH ?_
    refine aC ?_
    refine aA hF (aG hF rfl rfl) rfl rfl rfl fun a hF=>?_
    refine aI (aB ?_)
    refine c_ret ?_
    have hP:=Option.some.inj hP
    subst hP
    have hP:=d8 _ rfl
    subst hP
    have hP:=cL i1
    subst hP
    refine aY Tryz.results99 hF rfl ?_
    exact ⟨rfl,selM hM [] 1 rfl⟩
   have hP:=Fx.cF c8 hP
   refine aT (bI (aB ?_))
   refine aC ?_
   refine aA hF (cA hF rfl rfl rfl) rfl rfl rfl fun a hF=>?_
   refine aA hF (aF hF rfl rfl) rfl rfl rfl fun a hF=>?_
   refine aI (aB ?_)
   have hP:=Option.some.inj hP
   subst hP
   exact ⟨(IntKind.i64.wrap (c5 + 1)),rfl,hF.to ⟨rfl,rfl,rfl,rfl,rfl,trivial⟩,hM⟩
  have hP:=Fx.cF c7 hP
  refine bW (bD (bD (cG ?_)))
  refine aB ?_
  have hP:=Option.some.inj hP
  subst hP
  have hP:=d8 _ rfl
  subst hP
  exact ⟨(),rfl,hF.to ⟨rfl,rfl,trivial⟩,hM⟩
 rintro ⟨⟩ a w hP ⟨hF,hM⟩
 replace hP:Sh.dV x0 = _:=hP
 unfold Sh.dV at hP
 refine aB ?_
 refine aH ?_
 refine aS hF hM hP (fun F x a w=>match x with | _=>Fr 46 [(2,.bool false)] a ∧ MemL w (Lr)) (fun j5 hP i2 hF hM=>?_) ?_
 ·refine aH ?_
  refine aC ?_
  refine aA hF (aD (off':=4) Tryz.underlying60 rfl in57 rfl hF rfl rfl rfl) rfl rfl rfl fun a hF=>?_
  refine aA hF (aJ Tryz.isAgg57 hF rfl rfl (hM.cell (i:=0) rfl (RMark.g_slots _))) rfl rfl rfl fun a hF=>?_
  refine aA hF (bG (f4 _ (hsub _ (dropM hM 1))) Tryz.underlying57 hF rfl rfl) rfl rfl rfl fun a hF=>?_
  refine aA hF (aF hF rfl rfl) rfl rfl rfl fun a hF=>?_
  refine aI (aB ?_)
  refine aV ?_
  refine bN hF hM hP (fun F x a w=>match x with | c6=>Fr 46 [(31,.int .i64 c6),(2,.bool false),(29,(s3).v),(30,.int .i64 (x0.slots.length:Int))] a ∧ MemL w (Lr)) (fun hF hM=>⟨hF.to ⟨rfl,rfl,rfl,rfl,trivial⟩,selM hM [] 1 rfl⟩) ?_
  rintro c6 a w j8 hP d9 ⟨hF,hM⟩
  replace hP:Sh.cG x0 c6 = _:=hP
  unfold Sh.cG at hP
  refine aH ?_
  refine aC ?_
  refine aA hF (cH hF rfl rfl rfl) rfl rfl rfl fun a hF=>?_
  refine aI (aB ?_)
  refine aH ?_
  refine aR hF (c:=.tmp 32) rfl (fun c9=>?_) (fun c9=>?_)
  ·have hP:=Fx.cT c9 hP
   refine aT (aB ?_)
   refine aH ?_
   refine aV ?_
   refine aH ?_
   refine aC ?_
   obtain ⟨d5,d7,hP⟩:=bind_some hP
   have g1:=aW d7
   refine aA hF (bC (sz:=27) (f4 _ (hsub _ (dropM hM 0))) Tryz.underlying57 in151 rfl hF rfl rfl rfl (bK d7)) rfl rfl rfl fun a hF=>?_
   refine aA hF (bB Tryz.isAgg151 Tryz.sizeOf151 hF rfl rfl (LCell.len _) (((f4 _ (hsub _ (dropM hM 0))).elemS g1.2))) rfl rfl rfl fun a hF=>?_
   refine aN hF rfl rfl rfl (cB z151 (zs:=LCell.zero.enc) rfl rfl fun c4 w i8 g4=>?_)
   have hM:=hM.plus g4
   replace hM:MemL _ (pt c4 (LCell.enc LCell.zero) 151 :: Lr):=hM
   intro a hF
   refine bO rfl rfl (bL (vs:=_) Tryz.sizeOf151 (hM.obj (i:=0) rfl) hF rfl rfl rfl rfl (LCell.len _) (LCell.one _) (by first | (rw [LCell.len,LCell.len]; decide) | (rw [LCell.len]; decide)) (bU ((LCell.len _).trans (LCell.len _).symm)) fun w g6=>?_)
   have hM:=hM.chg g6 (i:=0) rfl
   replace hM:MemL _ (pt c4 (LCell.enc d5) 151 :: Lr):=hM
   refine aI (aB ?_)
   refine aH ?_
   refine aS hF hM hP (fun F x a w=>match x with | d3=>Fr 46 [(44,.bool d3),(2,.bool false),(29,(s3).v),(30,.int .i64 (x0.slots.length:Int)),(31,.int .i64 c6)] a ∧ MemL w (Lr)) (fun j6 hP j0 hF hM=>?_) ?_
   ·refine aC ?_
    refine aA hF (aD (off':=1) Tryz.underlying151 rfl in50 rfl hF rfl rfl rfl) rfl rfl rfl fun a hF=>?_
    refine aA hF (bB Tryz.isAgg50 Tryz.sizeOf50 hF rfl rfl (LSlot.len _) (hM.cells (i:=0) rfl (LCell.c_old _))) rfl rfl rfl fun a hF=>?_
    obtain ⟨j2,g9,hP⟩:=bind_some hP
    refine aN hF rfl rfl rfl (aO (xs:=[.tmp 36]) Tryz.call175 hF rfl rfl (iM g9 hM ) fun v w hR=>?_)
    obtain ⟨rfl,hM⟩:=hR
    replace hM:MemL _ (pt c4 (LCell.enc d5) 151 :: Lr):=hM
    intro a hF
    refine aA hF (dJ hF rfl rfl) rfl rfl rfl fun a hF=>?_
    refine aA hF (aF hF rfl rfl) rfl rfl rfl fun a hF=>?_
    refine aZ 39 hF rfl (fun c2=>?_) (fun c2=>?_)
    ·have hP:=Fx.cT c2 hP
     refine aE hF rfl rfl rfl c2 rfl rfl fun a hF=>?_
     refine aE hF rfl rfl rfl c2 rfl rfl fun a hF=>?_
     refine aE hF rfl rfl rfl c2 rfl rfl fun a hF=>?_
     refine aE hF rfl rfl rfl c2 rfl rfl fun a hF=>?_
     refine aA hF (aP hF rfl rfl c2 rfl) rfl rfl rfl fun a hF=>?_
     refine aI (aB ?_)
     have hP:=Option.some.inj hP
     subst hP
     exact ⟨true,rfl,hF.to ⟨rfl,rfl,rfl,rfl,rfl,trivial⟩,selM hM [] 1 rfl⟩
    have hP:=Fx.cF c2 hP
    refine aK hF rfl rfl rfl c2 (aD (off':=14) Tryz.underlying151 rfl in50 rfl hF rfl rfl rfl) rfl rfl fun a hF=>?_
    refine aK hF rfl rfl rfl c2 (bB Tryz.isAgg50 Tryz.sizeOf50 hF rfl rfl (LSlot.len _) (hM.cells (i:=0) rfl (LCell.c_new _))) rfl rfl fun a hF=>?_
    obtain ⟨i5,i0,hP⟩:=bind_some hP
    refine dX hF rfl rfl rfl c2 rfl rfl (aO (xs:=[.tmp 41]) Tryz.call175 hF rfl rfl (iM i0 hM ) fun v w hR=>?_)
    obtain ⟨rfl,hM⟩:=hR
    replace hM:MemL _ (pt c4 (LCell.enc d5) 151 :: Lr):=hM
    intro a hF
    refine aK hF rfl rfl rfl c2 (dJ hF rfl rfl) rfl rfl fun a hF=>?_
    refine aA hF (aQ hF rfl rfl c2 rfl) rfl rfl rfl fun a hF=>?_
    refine aI (aB ?_)
    have hP:=Option.some.inj hP
    subst hP
    exact ⟨(!i5),rfl,hF.to ⟨rfl,rfl,rfl,rfl,rfl,trivial⟩,selM hM [] 1 rfl⟩
   rintro d3 a w hP ⟨hF,hM⟩
   replace hP:Sh.jK c6 d3 = _:=hP
   unfold Sh.jK at hP
   refine aB ?_
   refine aR hF (c:=.tmp 44) rfl (fun d0=>?_) (fun d0=>?_)
   ·have hP:=Fx.cT d0 hP
    refine aH ?_
    refine aC ?_
    refine aA hF (aG hF rfl rfl) rfl rfl rfl fun a hF=>?_
    refine aI (aB ?_)
    refine c_ret ?_
    have hP:=Option.some.inj hP
    subst hP
    have hP:=d9 _ rfl
    subst hP
    have hP:=cL i2
    subst hP
    refine aY Tryz.results99 hF rfl ?_
    exact ⟨rfl,hM⟩
   have hP:=Fx.cF d0 hP
   refine aT (bI (aB ?_))
   refine aC ?_
   refine aA hF (cA hF rfl rfl rfl) rfl rfl rfl fun a hF=>?_
   refine aA hF (aF hF rfl rfl) rfl rfl rfl fun a hF=>?_
   refine aI (aB ?_)
   have hP:=Option.some.inj hP
   subst hP
   exact ⟨(IntKind.i64.wrap (c6 + 1)),rfl,hF.to ⟨rfl,rfl,rfl,rfl,trivial⟩,hM⟩
  have hP:=Fx.cF c9 hP
  refine bW (bD (bD (cG ?_)))
  refine aB ?_
  have hP:=Option.some.inj hP
  subst hP
  have hP:=d9 _ rfl
  subst hP
  exact ⟨(),rfl,hF.to ⟨rfl,trivial⟩,hM⟩
 rintro ⟨⟩ a w hP ⟨hF,hM⟩
 replace hP:Sh.lO = _:=hP
 unfold Sh.lO at hP
 refine aB ?_
 refine aH ?_
 refine aC ?_
 refine aA hF (aG hF rfl rfl) rfl rfl rfl fun a hF=>?_
 refine aI (aB ?_)
 refine c_ret ?_
 have hP:=Option.some.inj hP
 subst hP
 refine aY Tryz.results99 hF rfl ?_
 exact ⟨rfl,hM⟩
end Go.Proofs
end
