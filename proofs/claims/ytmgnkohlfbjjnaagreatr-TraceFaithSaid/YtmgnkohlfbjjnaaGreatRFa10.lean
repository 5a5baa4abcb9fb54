/- Ground for the claim TraceFaith. -/
import Derived.Test.YtmgnkohlfbjjnaaGreatRProg
import Derived.KernelRfl
import Derived.Test.YtmgnkohlfbjjnaaGreatRFa9
set_option linter.unusedVariables false
set_option linter.unusedSimpArgs false
set_option maxHeartbeats 4000000
open Sum
section
namespace Go.Proofs
open Go.Fw
set_option maxRecDepth 20000
theorem mixed:Tryz.prog.follows .mixedOrders=true:=by kernel_rfl
theorem iC(d:Nat)(x y:ak)(w:World)(hd:3≤d):(Op.equalIn d 46 (.agg x.enc.toArray) (.agg y.enc.toArray)).run Tryz.prog w = .ok (decide (x=y)) w:=by
 obtain⟨d,rfl⟩ : ∃ d',d=d' + 1:=⟨d-1,adr⟩
 rw[run_equalIn_struct w d 46 _ _ (by simp only[Program.fieldsOf,Tryz.underlying46]) Tryz.stoodInHeld46]
 simp only[Program.fieldsOf,Tryz.underlying46]
 have key:(x=y)↔x.kind=y.kind∧x.table=y.table∧x.row=y.row∧x.x=y.x:=by cases x;cases y;simp
 rw[dQ (by decide) Tryz.isAgg3 (ak.g_kind x) (ak.g_kind y) ((kh.int (k:=.i64) Tryz.underlying3) d _ _ w adr)]
 rw[dQ (by decide) Tryz.isAgg3 (ak.g_table x) (ak.g_table y) ((kh.int (k:=.i64) Tryz.underlying3) d _ _ w adr)]
 rw[dQ (by decide) Tryz.isAgg3 (ak.g_row x) (ak.g_row y) ((kh.int (k:=.i64) Tryz.underlying3) d _ _ w adr)]
 rw[dQ (by decide) Tryz.isAgg3 (ak.g_x x) (ak.g_x y) ((kh.int (k:=.i64) Tryz.underlying3) d _ _ w adr)]
 rw[iB]
 simp only[aa6,key]
 repeat' split
 all_goals simp_all
theorem JE:∀ (d:Nat) (x y:Vec UInt8 8) (w:World),2≤d→(Op.equalIn d 48 (.agg (encs x.l).toArray) (.agg (encs y.l).toArray)).run Tryz.prog w = .ok (decide (x=y)) w :=
 kh.vecOne Tryz.underlying48 Tryz.sizeOf5 rfl Tryz.isAgg5 (fun _=>rfl) (kh.u8 Tryz.underlying5)
theorem jC(d:Nat)(x y:bn)(w:World)(hd:6≤d):(Op.equalIn d 50 (.agg x.enc.toArray) (.agg y.enc.toArray)).run Tryz.prog w = .ok (decide (x=y)) w:=by
 obtain⟨d,rfl⟩ : ∃ d',d=d' + 1:=⟨d-1,adr⟩
 rw[run_equalIn_struct w d 50 _ _ (by simp only[Program.fieldsOf,Tryz.underlying50]) Tryz.stoodInHeld50]
 simp only[Program.fieldsOf,Tryz.underlying50]
 have key:(x=y)↔x.ptr=y.ptr∧x.bytes=y.bytes∧x.mask=y.mask:=by cases x;cases y;simp
 rw[jK (by decide) Tryz.isAgg46 Tryz.sizeOf46 (bn.c_ptr x) (bn.c_ptr y) (iC d _ _ w adr)]
 rw[jK (by decide) Tryz.isAgg48 Tryz.sizeOf48 (bn.c_bytes x) (bn.c_bytes y) (JE d _ _ w adr)]
 rw[dQ (by decide) Tryz.isAgg3 (bn.g_mask x) (bn.g_mask y) ((kh.int (k:=.i64) Tryz.underlying3) d _ _ w adr)]
 rw[iB]
 simp only[aa6,key]
 repeat' split
 all_goals simp_all
theorem Iz:∀ (d:Nat) (x y:Vec ak 11) (w:World),9≤d→(Op.equalIn d 47 (.agg (encs x.l).toArray) (.agg (encs y.l).toArray)).run Tryz.prog w = .ok (decide (x=y)) w :=
 kh.vecAgg Tryz.underlying47 Tryz.sizeOf46 Tryz.isAgg46 fun d x y w h=>iC d x y w adr
theorem IA:∀ (d:Nat) (x y:Vec bn 32) (w:World),9≤d→(Op.equalIn d 51 (.agg (encs x.l).toArray) (.agg (encs y.l).toArray)).run Tryz.prog w = .ok (decide (x=y)) w :=
 kh.vecAgg Tryz.underlying51 Tryz.sizeOf50 Tryz.isAgg50 fun d x y w h=>jC d x y w adr
theorem z46(w:World):(zeroValue 46).run Tryz.prog w = .ok (.agg ak.zero.enc.toArray) w:=(Tryz.zeroValue46 w).trans ads
theorem z50(w:World):(zeroValue 50).run Tryz.prog w = .ok (.agg bn.zero.enc.toArray) w:=(Tryz.zeroValue50 w).trans ads
theorem Np(w:World):(zeroValue 128).run Tryz.prog w = .ok (.agg dU.zero.enc.toArray) w:=(Tryz.zeroValue128 w).trans ads
theorem Nq(w:World):(zeroValue 151).run Tryz.prog w = .ok (.agg eo.zero.enc.toArray) w:=(Tryz.zeroValue151 w).trans ads
theorem z156(w:World):(zeroValue 156).run Tryz.prog w = .ok (.agg bq.zero.enc.toArray) w:=(Tryz.zeroValue156 w).trans ads
theorem z60(w:World):(zeroValue 60).run Tryz.prog w = .ok (.agg bS.zero.enc.toArray) w:=(Tryz.zeroValue60 w).trans ads
theorem z30(w:World):(zeroValue 30).run Tryz.prog w = .ok (.agg br.zero.enc.toArray) w:=(Tryz.zeroValue30 w).trans ads
theorem z36(w:World):(zeroValue 36).run Tryz.prog w = .ok (.agg bg.zero.enc.toArray) w:=(Tryz.zeroValue36 w).trans ads
theorem Rw(w:World):(zeroValue 205).run Tryz.prog w = .ok (.agg gG.zero.enc.toArray) w:=(Tryz.zeroValue205 w).trans ads
theorem Ru(w:World):(zeroValue 101).run Tryz.prog w = .ok (.agg b9.zero.enc.toArray) w:=(Tryz.zeroValue101 w).trans ads
theorem z27(w:World):(zeroValue 27).run Tryz.prog w = .ok (.agg bh.zero.enc.toArray) w:=(Tryz.zeroValue27 w).trans ads
theorem z54(w:World):(zeroValue 54).run Tryz.prog w = .ok (.agg ay.zero.enc.toArray) w:=by
 rw[Tryz.zeroValue54]
 have:Tryz.zeroCells54=ay.zero.enc.toArray:=by kernel_rfl
 rw[this]
theorem Ft(w:World):(zeroValue 121).run Tryz.prog w = .ok (.agg ez.zero.enc.toArray) w:=(Tryz.zeroValue121 w).trans ads
theorem z203(w:World):(zeroValue 203).run Tryz.prog w = .ok (.agg af.zero.enc.toArray) w:=by
 rw[Tryz.zeroValue203]
 have:Tryz.zeroCells203=af.zero.enc.toArray:=by kernel_rfl
 rw[this]
theorem Rx(w:World):(zeroValue 259).run Tryz.prog w = .ok (.agg ik.zero.enc.toArray) w:=(Tryz.zeroValue259 w).trans ads
theorem Ah(w:World):(zeroValue 278).run Tryz.prog w = .ok (.agg dm.zero.enc.toArray) w:=(Tryz.zeroValue278 w).trans ads
theorem Fv(w:World):(zeroValue 280).run Tryz.prog w = .ok (.agg gq.zero.enc.toArray) w:=(Tryz.zeroValue280 w).trans ads
theorem HY(w:World):(zeroValue 316).run Tryz.prog w = .ok (.agg gp.zero.enc.toArray) w:=(Tryz.zeroValue316 w).trans ads
theorem HZ(w:World):(zeroValue 318).run Tryz.prog w = .ok (.agg gj.zero.enc.toArray) w:=(Tryz.zeroValue318 w).trans ads
theorem in2:Tryz.prog.info? 2=some Tryz.t2:=by kernel_rfl
theorem kP:Tryz.prog.info? 3=some Tryz.t3:=by kernel_rfl
theorem FZ:Tryz.prog.info? 4=some Tryz.t4:=by kernel_rfl
theorem sw:Tryz.prog.info? 5=some Tryz.t5:=by kernel_rfl
theorem uh:Tryz.prog.info? 23=some Tryz.t23:=by kernel_rfl
theorem in24:Tryz.prog.info? 24=some Tryz.t24:=by kernel_rfl
theorem LN:Tryz.prog.info? 25=some Tryz.t25:=by kernel_rfl
theorem HB:Tryz.prog.info? 28=some Tryz.t28:=by kernel_rfl
theorem Qp:Tryz.prog.info? 30=some Tryz.t30:=by kernel_rfl
theorem Qq:Tryz.prog.info? 33=some Tryz.t33:=by kernel_rfl
theorem Qr:Tryz.prog.info? 34=some Tryz.t34:=by kernel_rfl
theorem B0:Tryz.prog.info? 46=some Tryz.t46:=by kernel_rfl
theorem LS:Tryz.prog.info? 47=some Tryz.t47:=by kernel_rfl
theorem Qs:Tryz.prog.info? 48=some Tryz.t48:=by kernel_rfl
theorem Dt:Tryz.prog.info? 50=some Tryz.t50:=by kernel_rfl
theorem LU:Tryz.prog.info? 51=some Tryz.t51:=by kernel_rfl
theorem Du:Tryz.prog.info? 52=some Tryz.t52:=by kernel_rfl
theorem Qu:Tryz.prog.info? 56=some Tryz.t56:=by kernel_rfl
theorem Qv:Tryz.prog.info? 57=some Tryz.t57:=by kernel_rfl
theorem Qw:Tryz.prog.info? 58=some Tryz.t58:=by kernel_rfl
theorem AP:Tryz.prog.info? 60=some Tryz.t60:=by kernel_rfl
theorem Dp:Tryz.prog.info? 101=some Tryz.t101:=by kernel_rfl
theorem zp:Tryz.prog.info? 128=some Tryz.t128:=by kernel_rfl
theorem zq:Tryz.prog.info? 151=some Tryz.t151:=by kernel_rfl
theorem qO:Tryz.prog.info? 156=some Tryz.t156:=by kernel_rfl
theorem LL:Tryz.prog.info? 199=some Tryz.t199:=by kernel_rfl
theorem LM:Tryz.prog.info? 201=some Tryz.t201:=by kernel_rfl
theorem Dq:Tryz.prog.info? 205=some Tryz.t205:=by kernel_rfl
theorem FX:Tryz.prog.info? 233=some Tryz.t233:=by kernel_rfl
theorem LO:Tryz.prog.info? 259=some Tryz.t259:=by kernel_rfl
theorem LQ:Tryz.prog.info? 278=some Tryz.t278:=by kernel_rfl
theorem LR:Tryz.prog.info? 334=some Tryz.t334:=by kernel_rfl
theorem FY:Tryz.prog.info? 335=some Tryz.t335:=by kernel_rfl
theorem AY:∀ w,(xj Tryz.prog 46).run Tryz.prog w = .ok #[(0,1),(1,1),(2,1),(3,1)] w:=fun w=>by kernel_rfl
theorem MB:∀ w,(xj Tryz.prog 50).run Tryz.prog w = .ok #[(0,4),(4,8),(12,1)] w:=fun w=>by kernel_rfl
theorem Md:∀ w,(xj Tryz.prog 128).run Tryz.prog w = .ok #[(0,1),(1,4),(5,4)] w:=fun w=>by kernel_rfl
theorem Me:∀ w,(xj Tryz.prog 151).run Tryz.prog w = .ok #[(0,1),(1,13),(14,13)] w:=fun w=>by kernel_rfl
theorem F4:∀ w,(xj Tryz.prog 156).run Tryz.prog w = .ok #[(0,1),(1,1),(2,1),(3,1)] w:=fun w=>by kernel_rfl
theorem HF:∀ w,(xj Tryz.prog 60).run Tryz.prog w = .ok #[(0,1),(1,1),(2,1),(3,1),(4,1),(5,1),(6,1)] w:=fun w=>by kernel_rfl
theorem DJ:∀ w,(xj Tryz.prog 30).run Tryz.prog w = .ok #[(0,1),(1,1)] w:=fun w=>by kernel_rfl
theorem AW:∀ w,(xj Tryz.prog 36).run Tryz.prog w = .ok #[(0,2),(2,1),(3,1)] w:=fun w=>by kernel_rfl
theorem wK:∀ w,(xj Tryz.prog 54).run Tryz.prog w = .ok #[(0,44),(44,416),(460,1),(461,1),(462,1),(463,1),(464,1),(465,1)] w:=fun w=>by kernel_rfl
theorem DG:∀ w,(xj Tryz.prog 121).run Tryz.prog w = .ok #[(0,1),(1,1),(2,1),(3,1)] w:=fun w=>by kernel_rfl
theorem DI:∀ w,(xj Tryz.prog 203).run Tryz.prog w = .ok #[(0,420),(420,1),(421,1),(422,1),(423,44),(467,1),(468,1),(469,1),(470,1)] w:=fun w=>by kernel_rfl
theorem xt:∀ w,(xj Tryz.prog 278).run Tryz.prog w = .ok #[(0,1),(1,1),(2,1),(3,1)] w:=fun w=>by kernel_rfl
theorem F5:∀ w,(xj Tryz.prog 280).run Tryz.prog w = .ok #[(0,1),(1,4)] w:=fun w=>by kernel_rfl
theorem F6:∀ w,(xj Tryz.prog 316).run Tryz.prog w = .ok #[(0,1),(1,1)] w:=fun w=>by kernel_rfl
theorem F7:∀ w,(xj Tryz.prog 318).run Tryz.prog w = .ok #[(0,1),(1,1)] w:=fun w=>by kernel_rfl
abbrev qp:=@Tryz.call124
abbrev zK:=@Tryz.call134
abbrev rM:=@Tryz.call142
abbrev po:=@Tryz.call145
abbrev om:=@Tryz.call236
abbrev ou:=@Tryz.call237
abbrev uv:=@Tryz.call242
abbrev z_:=@Tryz.call254
abbrev r6:=@Tryz.call286
abbrev xu:=@Tryz.call297
abbrev B9:=@Tryz.call66
abbrev B_:=@Tryz.call67
abbrev Cb:=@Tryz.call73
abbrev Cd:=@Tryz.call74
abbrev HG:=@Tryz.eqGuardType46
abbrev HI:=@Tryz.eqGuardType50
abbrev q9:=@Tryz.isAgg283
abbrev vh:=@Tryz.isAgg3
abbrev DL:=@Tryz.isAgg34
abbrev DN:=@Tryz.isAgg47
abbrev DQ:=@Tryz.isAgg51
abbrev Bq:=@Tryz.ntmps171
abbrev xw:=@Tryz.results133
abbrev kO:=@Tryz.results147
abbrev uw:=@Tryz.results166
abbrev Br:=@Tryz.results171
abbrev Aa:=@Tryz.results192
abbrev Bt:=@Tryz.results204
abbrev Bv:=@Tryz.results207
abbrev xx:=@Tryz.results208
abbrev Ab:=@Tryz.results209
abbrev Bz:=@Tryz.results211
abbrev BD:=@Tryz.results212
abbrev BF:=@Tryz.results226
abbrev Ac:=@Tryz.results238
abbrev xI:=@Tryz.results239
abbrev wQ:=@Tryz.results249
abbrev Fe:=@Tryz.results25
abbrev Ad:=@Tryz.results252
abbrev BG:=@Tryz.results296
abbrev Ce:=@Tryz.results39
abbrev Ff:=@Tryz.results51
abbrev Cf:=@Tryz.results66
abbrev vi:=@Tryz.sizeOf23
abbrev ni:=@Tryz.sizeOf283
abbrev Jf:=@Tryz.sizeOf3
abbrev Fg:=@Tryz.sizeOf34
abbrev iw:=@Tryz.sizeOf46
abbrev DR:=@Tryz.sizeOf47
abbrev NQ:=@Tryz.sizeOf5
abbrev DT:=@Tryz.sizeOf51
abbrev DU:=@Tryz.sizeOf54
abbrev DV:=@Tryz.underlying121
abbrev DX:=@Tryz.underlying203
abbrev ji:=@Tryz.underlying23
abbrev HJ:=@Tryz.underlying24
abbrev HK:=@Tryz.underlying25
abbrev AZ:=@Tryz.underlying28
abbrev rj:=@Tryz.underlying3
abbrev DY:=@Tryz.underlying30
abbrev j_:=@Tryz.underlying301
abbrev rh:=@Tryz.underlying33
abbrev A1:=@Tryz.underlying36
abbrev A2:=@Tryz.underlying46
abbrev CJ:=@Tryz.underlying5
abbrev o9:=@Tryz.underlying52
abbrev ri:=@Tryz.underlying54
abbrev DZ:=@Tryz.underlying56
abbrev D1:=@Tryz.underlying57
abbrev wR:=@Tryz.underlying58
abbrev HL:=@Tryz.underlying60
abbrev Ge:=@Tryz.underlying9
abbrev D2:=@Tryz.zeroValue115
abbrev MC:=@Tryz.zeroValue3
abbrev D3:=@Tryz.zeroValue300
section
open Go.Fw Go.Fx
abbrev Aq:ay:=ay.mk (⟨List.replicate 11 ak.zero,rfl⟩ : Vec ak 11) (⟨List.replicate 32 bn.zero,rfl⟩ : Vec bn 32) SV.nil SV.nil SV.nil 0 0 false
abbrev EG:bg:=bg.mk (br.mk SV.nil SV.nil) SV.nil 0
abbrev kg(x:du)(a b c:SV):bg:=bg.mk (br.mk a b) c x.end_
abbrev Jc(x:cu)(a b:SV):bq:=bq.mk x.table x.from_ a b
abbrev Gj:bS:=bS.mk 0 0 false SV.nil SV.nil SV.nil SV.nil
abbrev il(x:bj)(a b c:SV):ay:=ay.mk x.bk x.bp a b c x.at_ x.steps x.done
abbrev qk(x:dD)(a b c d:SV):bS:=bS.mk x.at_ x.next x.done a b c d
theorem oI{α:Type}{a b:α}(h:some a=some b):a=b:=adp h
end
theorem E.{u}{α:Sort u}{a:α}:a=a:=rfl
end Go.Proofs
end
section
namespace Go.Proofs
open Go.Fw
set_option maxRecDepth 20000
theorem Nr(w:World):(zeroValue 358).run Tryz.prog w = .ok (.agg fg.zero.enc.toArray) w:=(Tryz.zeroValue358 w).trans ads
theorem F8:∀ w,(xj Tryz.prog 358).run Tryz.prog w = .ok #[(0,1),(1,1)] w:=fun w=>by kernel_rfl
theorem Ns(w:World):(zeroValue 360).run Tryz.prog w = .ok (.agg fM.zero.enc.toArray) w:=(Tryz.zeroValue360 w).trans ads
theorem F9:∀ w,(xj Tryz.prog 360).run Tryz.prog w = .ok #[(0,1)] w:=fun w=>by kernel_rfl
theorem H3(w:World):(zeroValue 363).run Tryz.prog w = .ok (.agg dc.zero.enc.toArray) w:=(Tryz.zeroValue363 w).trans ads
theorem DK:∀ w,(xj Tryz.prog 363).run Tryz.prog w = .ok #[(0,1),(1,4)] w:=fun w=>by kernel_rfl
end Go.Proofs
end
section
namespace Go.Fw
theorem Fr.t{n:Nat}{F U:List (Nat×Value)}{a:Act}{dd:List Deferred}(h:Fr n F a dd)(hG:allIn F U:=by repeat (first|exact trivial|refine⟨rfl,?_⟩)):Fr n U a dd:=h.to hG
end Go.Fw
namespace Go.Proofs
open Go Go.Fw Go.Fx
abbrev Am(n:Nat)(dd:List Deferred)(F:List (Nat×Value))(L:List dw)(X:Act→World→Prop):Prop:=∀ a w,Fr n F a dd→au w L→X a w
structure St(m k:Nat)(B A:Prop):Prop where
 h:B→A
structure MK(X:Act→World→Prop)(n:Nat)(dd:List Deferred)(F:List (Nat×Value))(L:List dw):Prop where
 h:Am n dd F L X
structure ML(r:Option Nat)(P:Program)(ops:Array Oper)(Q:Exit→Act→World→Prop)(l:List Oper)(n:Nat)(dd:List Deferred)(F:List (Nat×Value))(L:List dw):Prop where
 h:Am n dd F L (w9 r P ops Q l)
structure MW(r:Option Nat)(P:Program)(c:Code)(Q:Exit→Act→World→Prop)(n:Nat)(dd:List Deferred)(F:List (Nat×Value))(L:List dw):Prop where
 h:Am n dd F L (Wp r P c Q)
structure MX(e:Exit)(Q:Exit→Act→World→Prop)(n:Nat)(dd:List Deferred)(F:List (Nat×Value))(L:List dw):Prop where
 h:Am n dd F L (Q e)
section
variable {r r':Option Nat}{P P':Program}{ops:Array Oper}{Q Q':Exit→Act→World→Prop}{o:Oper}{rest:List Oper}{q k n d:Nat}{F:List (Nat×Value)}{a:Act}{dd:List Deferred}{w:World}{v:Value}{B:Prop}{L L':List dw}{K:Act→World→Prop}
theorem Z7{X:Act→World→Prop}(hq:Nat.ble k q=true):St q k (Am n dd F L X) (MK X n dd F L):=⟨fun h=>⟨h⟩⟩
theorem ZL{l:List Oper}(hq:Nat.ble k q=true):St q k (Am n dd F L (w9 r P ops Q l)) (ML r P ops Q l n dd F L):=⟨fun h=>⟨h⟩⟩
theorem ZM{c:Code}(hq:Nat.ble k q=true):St q k (Am n dd F L (Wp r P c Q)) (MW r P c Q n dd F L):=⟨fun h=>⟨h⟩⟩
theorem ZN{e:Exit}(hq:Nat.ble k q=true):St q k (Am n dd F L (Q e)) (MX e Q n dd F L):=⟨fun h=>⟨h⟩⟩
theorem aVn{l:List Oper}(h:St q k B (ML r P ops Q l n dd F L)):St q k B (MK (w9 r P ops Q l) n dd F L):=⟨fun b=>⟨(h.h b).h⟩⟩
theorem TA{c:Code}(h:St q k B (MW r P c Q n dd F L)):St q k B (MK (Wp r P c Q) n dd F L):=⟨fun b=>⟨(h.h b).h⟩⟩
theorem aVo{e:Exit}(h:St q k B (MX e (Exit.then K Q) n dd F L)):St q k B (MK (Exit.then K Q e) n dd F L):=⟨fun b=>⟨(h.h b).h⟩⟩
theorem aVm{e:Exit}{i:Nat}(h:St q k B (MX e (Exit.inBlock i Q) n dd F L)):St q k B (MK (Exit.inBlock i Q e) n dd F L):=⟨fun b=>⟨(h.h b).h⟩⟩
theorem aVp{c:Code}(h:St q (k+1) B (MW r P c Q n dd F L)):St q (k+1) B (MK (Wp r P c Q) n dd F L):=TA h
theorem Z8(h:St q k B (MX .normal Q n dd F L)):St q (k+1) B (ML r P ops Q [] n dd F L):=⟨fun b=>⟨fun a w G H=>aJ ((h.h b).h a w G H)⟩⟩
theorem aUx(h:St q k B (MX .normal Q n dd F L)):St q (k+1) B (MW r P .skip Q n dd F L):=⟨fun b=>⟨fun a w G H=>bM ((h.h b).h a w G H)⟩⟩
theorem Z9(h:St q k B (MX .ret Q n dd F L)):St q (k+1) B (MW r P .ret Q n dd F L):=⟨fun b=>⟨fun a w G H=>p_ ((h.h b).h a w G H)⟩⟩
theorem ZO{i:Nat}(h:St q k B (MX (.exit i) Q n dd F L)):St q (k+1) B (MW r P (.exit i) Q n dd F L):=⟨fun b=>⟨fun a w G H=>dC ((h.h b).h a w G H)⟩⟩
theorem ZS(h:St q k B (MK K n dd F L)):St q (k+1) B (MX .normal (Exit.then K Q) n dd F L):=⟨fun b=>⟨fun a w G H=>aB ((h.h b).h a w G H)⟩⟩
theorem Yn{i:Nat}(h:St q k B (MX .normal Q n dd F L)):St q (k+1) B (MX .normal (Exit.inBlock i Q) n dd F L):=⟨fun b=>⟨fun a w G H=>cG ((h.h b).h a w G H)⟩⟩
theorem Y4{i:Nat}(h:St q k B (MX (.exit i) Q n dd F L)):St q (k+1) B (MX (.exit i) (Exit.then K Q) n dd F L):=⟨fun b=>⟨fun a w G H=>cA ((h.h b).h a w G H)⟩⟩
theorem ZT{i:Nat}(h:St q k B (MX .normal Q n dd F L)):St q (k+1) B (MX (.exit i) (Exit.inBlock i Q) n dd F L):=⟨fun b=>⟨fun a w G H=>eC ((h.h b).h a w G H)⟩⟩
theorem Y3{i j:Nat}(hij:Nat.beq j i=false)(h:St q k B (MX (.exit j) Q n dd F L)):St q (k+1) B (MX (.exit j) (Exit.inBlock i Q) n dd F L):=⟨fun b=>⟨fun a w G H=>Tv hij ((h.h b).h a w G H)⟩⟩
theorem Y1(h:St q k B (MX .ret Q n dd F L)):St q (k+1) B (MX .ret (Exit.then K Q) n dd F L):=⟨fun b=>⟨fun a w G H=>Zm ((h.h b).h a w G H)⟩⟩
theorem Yo{i:Nat}(h:St q k B (MX .ret Q n dd F L)):St q (k+1) B (MX .ret (Exit.inBlock i Q) n dd F L):=⟨fun b=>⟨fun a w G H=>S7 ((h.h b).h a w G H)⟩⟩
theorem Z_{x y:Code}(h:St q k B (MW r P x (Exit.then (Wp r P y Q) Q) n dd F L)):St q (k+1) B (MW r P (.seq x y) Q n dd F L):=⟨fun b=>⟨fun a w G H=>aH ((h.h b).h a w G H)⟩⟩
theorem Yp{i:Nat}{l:List Oper}(h:St q k B (ML r P l.toArray Q l n dd F L)):St q (k+1) B (MW r P (.region i l.toArray false) Q n dd F L):=⟨fun b=>⟨fun a w G H=>aD ((h.h b).h a w G H)⟩⟩
theorem Zj{id:Nat}{c:Code}(h:St q k B (MW r P c (Exit.inBlock id Q) n dd F L)):St q (k+1) B (MW r P (.block id c) Q n dd F L):=⟨fun b=>⟨fun a w G H=>bO ((h.h b).h a w G H)⟩⟩
theorem Zl{c:Operand}{x y:Code}{u:Bool}(hc:Fw.ev F c=some (.bool u))(hb:u=true)(h:St q k B (MW r P x Q n dd F L)):St q (k+1) B (MW r P (.cond c x y) Q n dd F L):=⟨fun b=>⟨fun a w G H=>zZ G hc hb ((h.h b).h a w G H)⟩⟩
theorem Zk{c:Operand}{x y:Code}{u:Bool}(hc:Fw.ev F c=some (.bool u))(hb:u=false)(h:St q k B (MW r P y Q n dd F L)):St q (k+1) B (MW r P (.cond c x y) Q n dd F L):=⟨fun b=>⟨fun a w G H=>zY G hc hb ((h.h b).h a w G H)⟩⟩
theorem ZV(hg:o.guard=none)(hr:∀ a w,Fr n F a dd→au w L→(execOp a.eval o).run P w = .ok (.value v) w)(hd:o.dst=some d)(hn:Nat.blt d n=true)(next:St q k B (ML r P ops Q rest n dd ((d,v)::F) L)) :
  St q (k+1) B (ML r P ops Q (o::rest) n dd F L):=⟨fun b=>⟨fun a w G H=>aA G (hr a w G H) hg hd hn fun a' zm=>(next.h b).h a' w zm H⟩⟩
theorem ZP{g t:Nat}{want c:Bool}(hg:o.guard=some (g,want))(ht:(ops[g]?).bind (·.dst)=some t)(hc:Fw.look F t=some (.bool c))(hw:c=want)
  (hr:∀ a w,Fr n F a dd→au w L→(execOp a.eval o).run P w = .ok (.value v) w) (hd:o.dst=some d) (hn:Nat.blt d n=true) (next:St q k B (ML r P ops Q rest n dd ((d,v)::F) L)) :
  St q (k+1) B (ML r P ops Q (o::rest) n dd F L):=⟨fun b=>⟨fun a w G H=>aP G hg ht hc hw (hr a w G H) hd hn fun a' zm=>(next.h b).h a' w zm H⟩⟩
theorem ZR{g t:Nat}{want c:Bool}(hg:o.guard=some (g,want))(ht:(ops[g]?).bind (·.dst)=some t)(hc:Fw.look F t=some (.bool c))(hw:c = !want)
  (hd:o.dst=some d) (hn:Nat.blt d n=true) (next:St q k B (ML r P ops Q rest n dd ((d,undef)::F) L)) :
  St q (k+1) B (ML r P ops Q (o::rest) n dd F L):=⟨fun b=>⟨fun a w G H=>aF G hg ht hc hw hd hn fun a' zm=>(next.h b).h a' w zm H⟩⟩
theorem Y2{g t:Nat}{want:Bool}(hg:o.guard=some (g,want))(ht:(ops[g]?).bind (·.dst)=some t)(hc:Fw.look F t=some undef)
  (hd:o.dst=some d) (hn:Nat.blt d n=true) (next:St q k B (ML r P ops Q rest n dd ((d,undef)::F) L)) :
  St q (k+1) B (ML r P ops Q (o::rest) n dd F L):=⟨fun b=>⟨fun a w G H=>gQ G hg ht hc hd hn fun a' zm=>(next.h b).h a' w zm H⟩⟩
theorem Z6{e:TypeId}{x:Operand}{zs:List Value}{C:Nat→Prop}(hg:o.guard=none)(ho:o.op = .box e x)(hx:Fw.ev F x=some v)(vg:v.cells=zs.toArray)(hd:o.dst=some d)(hn:Nat.blt d n=true)
  (next:∀ b,St q k (C b) (ML r P ops Q rest n dd ((d,.pointer (some ⟨b,0,none⟩))::F) (pt b zs e::L))):St q (k+1) (∀ b,C b) (ML r P ops Q (o::rest) n dd F L) :=
 ⟨fun h=>⟨fun a w G H=>aN G hg hd hn (gN G hx vg ho fun b w' hz hA a' zm=>((next b).h (h b)).h a' w' zm (H.plus hA))⟩⟩
class Zr(P:Program)(e:TypeId)(zs:outParam (List Value)):Prop where
 h:∀ w,∃ z:Value,(zeroValue e).run P w = .ok z w∧z.cells=zs.toArray
theorem Zi{e:TypeId}{zs:List Value}{C:Nat→Prop}(hg:o.guard=none)(ho:o.op = .alloc e)(hz:Zr P e zs)(hd:o.dst=some d)(hn:Nat.blt d n=true)
  (next:∀ b,St q k (C b) (ML r P ops Q rest n dd ((d,.pointer (some ⟨b,0,none⟩))::F) (pt b zs e::L))):St q (k+1) (∀ b,C b) (ML r P ops Q (o::rest) n dd F L) :=
 ⟨fun h=>⟨fun a w G H=>aN G hg hd hn (by
  obtain⟨z,h1,h2⟩:=hz.h w
  have h:=h w.heap.size
  have h3:=iy.alloc w (.cells zs.toArray e (0,0))
  unfold Yd
  simp only[execOp,ho,Instr.alloc,newVar,newRow,Sem.run_bind,h1,Result.andThen_ok,run_newObj,Sem.run_pure,h2]
  exact fun a' zm=>((next _).h h).h a' _ zm (H.plus h3))⟩⟩
class FA(P:Program)(t i:Nat)(fo:outParam Nat):Prop where
 h:∃ fs ft ti,P.underlying t=some (.struct fs)∧(fs[i]?).map (fun f=>(f.offset,f.type))=some (fo,ft)∧P.info? ft=some ti∧Nat.beq ti.size 0=false
def Kq(b:BinOp)(k:IntKind)(i j:Int):Option Value:=match b with
 | .eql=>some (.bool (decide (i=j)))
 | .neq=>some (.bool (!decide (i=j)))
 | .lss=>some (.bool (decide (i<j)))
 | .leq=>some (.bool (decide (i≤j)))
 | .gtr=>some (.bool (decide (j<i)))
 | .geq=>some (.bool (decide (j≤i)))
 | .add=>some (.int k (k.wrap (i+j)))
 | .sub=>some (.int k (k.wrap (i-j)))
 | .mul=>some (.int k (k.wrap (i*j)))
 | _=>none
theorem Z5{b:BinOp}{t yt:TypeId}{x y:Operand}{k:IntKind}{i j:Int}(G:Fr n F a dd)(ho:o.op = .binOp b t x y yt)(hx:Fw.ev F x=some (.int k i))(hy:Fw.ev F y=some (.int k j))(hv:Kq b k i j=some v) :
  (execOp a.eval o).run P w = .ok (.value v) w:=by
 cases b<;>simp only[Kq,adq,reduceCtorEq]at hv<;>subst hv<;>first
  | exact eF G ho hx hy
  | exact fW G ho hx hy
  | exact eL G ho hx hy
  | exact Jx G ho hx hy
  | exact jQ G ho hx hy
  | exact WG G ho hx hy
  | exact dG G ho hx hy
  | exact jI G ho hx hy
  | exact VY G ho hx hy
theorem ZQ{c x y:Operand}{b b':Bool}(G:Fr n F a dd)(ho:o.op = .pick c x y)(hc:Fw.ev F c=some (.bool b))(hb:b=b')(hx:Fw.ev F (match b' with|true=>x|false=>y)=some v):(execOp a.eval o).run P w = .ok (.value v) w:=by
 cases b'
 ·exact bW G ho hc hb hx
 ·exact bR G ho hc hb hx
theorem aVl{t:TypeId}{x:Operand}{i b off off' fo:Nat}(G:Fr n F a dd)(ho:o.op = .fieldAddr t x i)(hx:Fw.ev F x=some (.pointer (some ⟨b,off,none⟩)))[hf:FA P t i fo]
  (hoff:off+fo=off'):(execOp a.eval o).run P w = .ok (.value (.pointer (some ⟨b,off',none⟩))) w:=by
 obtain⟨fs,ft,ti,h1,h2,h3,h4⟩:=hf
 exact aC h1 h2 h3 h4 G ho hx hoff
end
class xd(t:TypeId):Prop where
 h:∀ w,(isAgg t).run Tryz.prog w = .ok false w
class vb(t:TypeId)(n:outParam Nat):Prop where
 h:∀ w,(isAgg t).run Tryz.prog w = .ok true w
 s:∀ w,(sizeOf t).run Tryz.prog w = .ok n w
class Sz(t:TypeId)(n:outParam Nat):Prop where
 s:∀ w,(sizeOf t).run Tryz.prog w = .ok n w
class US(t:TypeId)(e:outParam TypeId):Prop where
 h:Tryz.prog.underlying t=some (.slice e)
class UA(t:TypeId)(n:outParam Nat)(e:outParam TypeId):Prop where
 h:Tryz.prog.underlying t=some (.array n e)
class UI(t:TypeId)(k:outParam IntKind):Prop where
 h:Tryz.prog.underlying t=some (.int k)
class Is(e:TypeId)(n:outParam Nat):Prop where
 h:∃ ti,Tryz.prog.info? e=some ti∧ti.size=n
class Gg(cs:List Value)(off:Nat)(v:outParam Value):Prop where
 h:cs[off]? = some v
class En(vs:List Value)(n:outParam Nat):Prop where
 len:vs.length=n
 one:∀ u∈vs,u.oneCell' = true
class Cc(cs:List Value)(off n:Nat)(vs:outParam (List Value)):Prop where
 h:Fw.cut cs off n=vs
 len:vs.length=n
class Ci(cs:List Value)(off sz:Nat)(X:outParam Type)(e:outParam (d_ X))(l:outParam (List X)):Prop where
 h:∀ (i:Nat) (y:X),l[i]? = some y→Fw.cut cs (off+i*sz) sz=e.enc y
class Ef(X:Type)[d_ X](f:outParam (X→List Value)):Prop where
 h:∀ x:X,d_.enc x=f x
class Se(cs:List Value)(off:Nat)(v:Value)(cs':outParam (List Value)):Prop where
 h:cs.set off v=cs'
 lt:off<cs.length
class Ar(L:List dw)(b:Nat)(cs:outParam (List Value))(T:outParam TypeId):Prop where
 h:∃ i:Nat,L[i]? = some (pt b cs T)
class Ch(L:List dw)(b:Nat)(cs':List Value)(L':outParam (List dw)):Prop where
 h:∃ (i:Nat) (cs:List Value) (T:TypeId),L[i]? = some (pt b cs T)∧L.set i (pt b cs' T)=L'
class Tl(L D:List dw):Prop where
 h:∀ w,au w L→au w D
inductive u_:List dw→Nat→List dw→Prop
 | zero {L:List dw}:u_ L 0 L
 | succ {y:dw} {L D:List dw} {n:Nat} (h:u_ L n D):u_ (y::L) (n+1) D
inductive ry(L:List dw):List Nat→Nat→List dw→Prop
 | nil {n:Nat} {D:List dw} (h:u_ L n D):ry L [] n D
 | cons {i n:Nat} {is:List Nat} {r:dw} {T:List dw} (h:L[i]? = some r) (t:ry L is n T):ry L (i::is) n (r::T)
inductive vZ:List dw→List dw→Prop
 | refl {L:List dw}:vZ L L
 | keep {r:dw} {L T:List dw} (h:vZ L T):vZ (r::L) (r::T)
 | drop {r:dw} {L T:List dw} (h:vZ L T):vZ (r::L) T
theorem u_.eq{L D:List dw}{n:Nat}(h:u_ L n D):L.drop n=D:=by
 induction h with
 | zero=>rfl
 | succ h ih=>exact ih
theorem ry.eq{L T:List dw}{is:List Nat}{n:Nat}(h:ry L is n T):A4 L is n=T:=by
 induction h with
 | nil h=>unfold A4;rw[h.eq];rfl
 | cons h t ih=>unfold A4 at *; rw[Ap,h];simpa using ih
theorem vZ.sub{L T:List dw}(h:vZ L T):T.Sublist L:=by
 induction h with
 | refl=>exact List.Sublist.refl _
 | keep h ih=>exact ih.cons_cons _
 | drop h ih=>exact ih.cons _
instance (priority:=2000) aam{b:Nat}{cs:List Value}{T:TypeId}{L:List dw}:Ar (pt b cs T::L) b cs T:=⟨0,rfl⟩
instance aan{b:Nat}{cs:List Value}{T:TypeId}{L:List dw}{y:dw}[i:Ar L b cs T]:Ar (y::L) b cs T:=⟨by obtain⟨k,hk⟩:=i.h;exact⟨k+1,hk⟩⟩
instance (priority:=2000) ch0{b:Nat}{cs cs':List Value}{T:TypeId}{L:List dw}:Ch (pt b cs T::L) b cs' (pt b cs' T::L):=⟨0,cs,T,rfl,rfl⟩
instance ch1{b:Nat}{cs':List Value}{L L':List dw}{y:dw}[i:Ch L b cs' L']:Ch (y::L) b cs' (y::L'):=⟨by obtain⟨k,cs,T,h1,h2⟩:=i.h;exact⟨k+1,cs,T,h1,by rw[aa7,h2]⟩⟩
instance (priority:=2000) tl0{L:List dw}:Tl L L:=⟨fun _ h=>h⟩
instance tl1{L D:List dw}{y:dw}[i:Tl L D]:Tl (y::L) D:=⟨fun w h=>i.h w h.tail⟩
instance:Ef UInt8 (fun x=>[.int .u8 (x.toNat:Int)]):=⟨fun _=>rfl⟩
instance:Ef Int (fun x=>[.int .i64 x]):=⟨fun _=>rfl⟩
instance:Ef SV (fun x=>[x.v]):=⟨fun _=>rfl⟩
instance {v:Value}{vs:List Value}:Gg (v::vs) (no_index 0) v:=⟨rfl⟩
instance {v u:Value}:Se [u] (no_index 0) v [v]:=⟨rfl,aa8⟩
instance {cs:List Value}{n:Nat}[h:En cs n]:Cc cs (no_index 0) n cs:=⟨cD h.len,h.len⟩
section
variable {o:Oper}{a:Act}{w:World}{v:Value}{n:Nat}{F:List (Nat×Value)}{dd:List Deferred}{L L':List dw}{b off:Nat}{cs cs' vs:List Value}{T t:TypeId}{x y:Operand}
theorem f_{Ls:List dw}(H:au w L)(is:List Nat)(k:Nat)(s:ry L is k Ls:=by repeat (first|(apply ry.cons;exact rfl)|apply ry.nil|apply u_.succ|exact u_.zero))(hn:(od is&&uj k is)=true:=by exact rfl):au w Ls:=s.eq ▸ bU H is k hn
theorem mc(H:au w L)[i:Ar L b cs T][j:Gg cs off v]:w.cell? ⟨b,off,none⟩=some v:=by
 obtain⟨k,hk⟩:=i.h
 exact H.cell (i:=k) hk j.h
theorem ld1[ht:xd t](G:Fr n F a dd)(ho:o.op = .load t x)(hx:Fw.ev F x=some (.pointer (some ⟨b,off,none⟩)))(H:au w L)[i:Ar L b cs T][j:Gg cs off v]:(execOp a.eval o).run Tryz.prog w = .ok (.value v) w :=
 aG ht.h G ho hx (mc H)
theorem ldn{sz:Nat}[ht:vb t sz](G:Fr n F a dd)(ho:o.op = .load t x)(hx:Fw.ev F x=some (.pointer (some ⟨b,off,none⟩)))(H:au w L)[i:Ar L b cs T][j:Cc cs off sz vs]:(execOp a.eval o).run Tryz.prog w = .ok (.value (.agg vs.toArray)) w:=by
 obtain⟨k,hk⟩:=i.h
 exact cC ht.h ht.s G ho hx j.len (H.cells (i:=k) hk j.h)
theorem ldi{X:Type}{e:d_ X}{sz L9:Nat}{l:List X}{u:X}{i:Int}(G:Fr n F a dd)(ho:o.op = .load t x)(ht:vb t sz)(hx:Fw.ev F x=some (.pointer (some ⟨b,L9+i.toNat*sz,none⟩)))(H:au w L)[f:Ar L b cs T][j:Ci cs L9 sz X e l]
  (hg:Fx.get l i=some u) (hs:e.sz=sz) {f':X→List Value} (q : @Ef X e f'):(execOp a.eval o).run Tryz.prog w = .ok (.value (.agg (f' u).toArray)) w:=by
 rw[←q.h]
 obtain⟨k,hk⟩:=f.h
 exact cC ht.h ht.s G ho hx ((e.len u).trans hs) (H.cells (i:=k) hk (j.h _ _ (aL hg).2))
theorem els{X:Type}[d_ X]{lo sz:Nat}{s:SV}{l:List X}{u:X}{i:Int}(G:Fr n F a dd)(ho:o.op = .load t x)(ht:vb t sz)(hx:Fw.ev F x=some (.pointer (some ⟨s.blk,s.off+i.toNat*sz,none⟩)))(hS:cH lo w s l)
  (hg:l[i.toNat]? = some u) (hs:d_.sz X=sz) {f':X→List Value} (q:Ef X f'):(execOp a.eval o).run Tryz.prog w = .ok (.value (.agg (f' u).toArray)) w:=by
 rw[←q.h]
 subst hs
 exact cC ht.h ht.s G ho hx (d_.len u) (hS.elemS hg)
theorem TX{X:Type}[d_ X]{lo sz j:Nat}{s:SV}{l:List X}{u:X}{i:Int}[ht:xd t](G:Fr n F a dd)(ho:o.op = .load t x)(hx:Fw.ev F x=some (.pointer (some ⟨s.blk,s.off+i.toNat*sz+j,none⟩)))(hS:cH lo w s l)
  (hg:l[i.toNat]? = some u) (hs:d_.sz X=sz) {f':X→List Value} (q:Ef X f') (hv:(f' u)[j]? = some v):(execOp a.eval o).run Tryz.prog w = .ok (.value v) w:=by
 rw[←q.h]at hv
 subst hs
 exact aG ht.h G ho hx ((hS.elemS hg).get j hv)
theorem el0{X:Type}[d_ X]{lo sz:Nat}{s:SV}{l:List X}{u:X}{i:Int}[ht:xd t](G:Fr n F a dd)(ho:o.op = .load t x)(hx:Fw.ev F x=some (.pointer (some ⟨s.blk,s.off+i.toNat*sz,none⟩)))(hS:cH lo w s l)
  (hg:l[i.toNat]? = some u) (hs:d_.sz X=sz) {f':X→List Value} (q:Ef X f') (hv:(f' u)[0]? = some v):(execOp a.eval o).run Tryz.prog w = .ok (.value v) w:=TX (j:=0) G ho hx hS hg hs q hv
theorem li{X:Type}[d_ X]{B:World→Prop}{s:SV}{l:List X}{Lr:List dw}(f:cn B s l)(hs:∀ w,au w Lr→B w)(H:au w L)[t:Tl L Lr]:cH 0 w s l:=f w (hs w (t.h w H))
theorem rws{X:Type}{e':d_ X}{lo e i:Nat}{s:SV}{l:List X}(h:au w L)(hi:L[i]? = some (@ai X e' lo s e l)) : @cH X e' lo w s l:=h.rowS hi
theorem sl{X:Type}[d_ X]{lo:Nat}{s:SV}{l:List X}(h:cH lo w s l:=by first
  | exact li (by assumption) (by assumption) H
  | exact rws (i:=0) H rfl
  | exact rws (i:=1) H rfl
  | exact rws (i:=2) H rfl
  | exact rws (i:=3) H rfl
  | exact rws (i:=4) H rfl
  | exact rws (i:=5) H rfl
  | exact rws (i:=6) H rfl
  | exact rws (i:=7) H rfl):cH lo w s l:=h
theorem ix{X:Type}[d_ X]{e lo sz:Nat}{k:IntKind}{i:Int}{s:SV}{l:List X}(G:Fr n F a dd)(ho:o.op = .indexAddr t x y)[ht:US t e][hi:Is e sz](hx:Fw.ev F x=some s.v)(hy:Fw.ev F y=some (.int k i))(hs:cH lo w s l)(h:0≤i∧i<(l.length:Int)) :
  (execOp a.eval o).run Tryz.prog w = .ok (.value (.pointer (some ⟨s.blk,s.off+i.toNat*sz,none⟩))) w:=by
 obtain⟨ti,h1,h2⟩:=hi.h
 exact bG hs ht.h h1 h2 G ho hx hy h
theorem ixA{e len sz:Nat}{k:IntKind}{i:Int}(G:Fr n F a dd)(ho:o.op = .indexAddr t x y)[ht:UA t len e][hi:Is e sz](hx:Fw.ev F x=some (.pointer (some ⟨b,off,none⟩)))(hy:Fw.ev F y=some (.int k i))(h:0≤i∧i<(len:Int)) :
  (execOp a.eval o).run Tryz.prog w = .ok (.value (.pointer (some ⟨b,off+i.toNat*sz,none⟩))) w:=by
 obtain⟨ti,h1,h2⟩:=hi.h
 exact eW ht.h h1 h2 G ho hx hy h
theorem ctz{X:Type}[d_ X]{e lo sz:Nat}{k k':IntKind}{i j:Int}{s:SV}{l m:List X}{p q:Operand}(G:Fr n F a dd)(ho:o.op = .slice t x (some p) (some q) none)[ht:US t e][hi:Is e sz](hx:Fw.ev F x=some s.v)(hp:Fw.ev F p=some (.int k i))(hq:Fw.ev F q=some (.int k' j))
  (hs:cH lo w s l) (hc:Fx.nj l i j=some m):(execOp a.eval o).run Tryz.prog w = .ok (.value (s.cut i.toNat j.toNat sz).v) w:=by
 obtain⟨ti,h1,h2⟩:=hi.h
 exact fC hs hc ht.h h1 h2 G ho hx (.inr ⟨_,_,rfl,hp⟩) (.inr ⟨_,_,rfl,hq⟩)
theorem cv{d:TypeId}{k k':IntKind}{i:Int}(G:Fr n F a dd)(ho:o.op = .convert t d x)[hs:UI t k][hd:UI d k'](hx:Fw.ev F x=some (.int k i)):(execOp a.eval o).run Tryz.prog w = .ok (.value (.int k' (k'.wrap i))) w:=GG hs.h hd.h G ho hx
theorem lnL{X:Type}[d_ X]{e lo:TypeId}{s:SV}{l:List X}(G:Fr n F a dd)(ho:o.op = .call { callee:=.builtin .len,args:=#[x],argTypes:=#[t] })[ht:US t e](hx:Fw.ev F x=some s.v)(hs:cH lo w s l) :
  (execOp a.eval o).run Tryz.prog w = .ok (.value (.int .i64 (l.length:Nat))) w:=cQ hs ht.h G ho hx
theorem lnD{X Y:Type}[d_ X]{e lo:TypeId}{s:SV}{l:List X}{m:List Y}{R:X→Y→Prop}(G:Fr n F a dd)(ho:o.op = .call { callee:=.builtin .len,args:=#[x],argTypes:=#[t] })[ht:US t e](hx:Fw.ev F x=some s.v)(hs:cH lo w s l)(q:bw R l m) :
  (execOp a.eval o).run Tryz.prog w = .ok (.value (.int .i64 (m.length:Int))) w:=dR hs q.len ht.h G ho hx
theorem st1{J:Value→World→Prop}[hs:Sz t 1](G:Fr n F a dd)(ho:o.op = .store t x y)(hx:Fw.ev F x=some (.pointer (some ⟨b,off,none⟩)))(hy:Fw.ev F y=some v)(h1:v.oneCell' = true)(H:au w L)[f:Ar L b cs T][s:Se cs off v cs'][c:Ch L b cs' L']
  (next:∀ w',au w' L' → J undef w'):Yd Tryz.prog o a.eval w J:=by
 obtain⟨i,KI,T2,h2,rfl⟩:=c.h
 obtain⟨j,h3⟩:=f.h
 have e:(Obj.cells KI.toArray T2 (0,0))=(Obj.cells cs.toArray T (0,0)):=adp ((H.obj h2).symm.trans (H.obj h3))
 injection e with e1 e2
 subst e2
 have e3:KI=cs:=by simpa using e1
 subst e3
 exact bN hs.s (H.obj h2) G ho hx hy h1 s.lt s.h fun w' hU=>next w' (H.chg hU h2)
theorem U3{J:Value→World→Prop}{sz m:Nat}[hs:Sz t sz](G:Fr n F a dd)(ho:o.op = .store t x y)(hx:Fw.ev F x=some (.pointer (some ⟨b,0,none⟩)))(hy:Fw.ev F y=some v)(hv:v.cells=vs.toArray)(H:au w L)[g:En vs sz][f:Ar L b cs T][g':En cs m](hm:m=sz)[c:Ch L b vs L']
  (next:∀ w',au w' L' → J undef w'):Yd Tryz.prog o a.eval w J:=by
 obtain⟨i,KI,T2,h2,rfl⟩:=c.h
 obtain⟨j,h3⟩:=f.h
 have e:(Obj.cells KI.toArray T2 (0,0))=(Obj.cells cs.toArray T (0,0)):=adp ((H.obj h2).symm.trans (H.obj h3))
 injection e with e1 e2
 subst e2
 have e3:KI=cs:=by simpa using e1
 subst e3 hm
 refine aU hs.s (H.obj h2) G ho hx hy hv g.len g.one (by rw[g.len,g'.len];omega) (bF (g'.len.trans g.len.symm)) fun w' hU=>next w' (H.chg hU h2)
end
section
variable {r r':Option Nat}{ops:Array Oper}{Q Q':Exit→Act→World→Prop}{o:Oper}{rest:List Oper}{q k n d:Nat}{F:List (Nat×Value)}{a:Act}{dd:List Deferred}{w:World}{v:Value}{B:Prop}{L L':List dw}{b off:Nat}{cs cs' vs:List Value}{T t:TypeId}{x y:Operand}
theorem aUy(hg:o.guard=none)(ho:o.op = .store t x y)(hx:Fw.ev F x=some (.pointer (some ⟨b,off,none⟩)))(hy:Fw.ev F y=some v)(h1:v.oneCell' = true)(hs:Sz t 1)(f:Ar L b cs T)(s:Se cs off v cs')(c:Ch L b cs' L')(hd:o.dst=none)
  (next:St q k B (ML r Tryz.prog ops Q rest n dd F L')):St q (k+1) B (ML r Tryz.prog ops Q (o::rest) n dd F L) :=
 ⟨fun h=>⟨fun a w G H=>bC hg hd (st1 G ho hx hy h1 H fun w' hM'=>(next.h h).h a w' G hM')⟩⟩
theorem aUz{sz m:Nat}(hg:o.guard=none)(ho:o.op = .store t x y)(hx:Fw.ev F x=some (.pointer (some ⟨b,0,none⟩)))(hy:Fw.ev F y=some v)(hv:v.cells=vs.toArray)(hs:Sz t sz)(g:En vs sz)(f:Ar L b cs T)(g':En cs m)(hm:m=sz)(c:Ch L b vs L')(hd:o.dst=none)
  (next:St q k B (ML r Tryz.prog ops Q rest n dd F L')):St q (k+1) B (ML r Tryz.prog ops Q (o::rest) n dd F L) :=
 ⟨fun h=>⟨fun a w G H=>bC hg hd (U3 G ho hx hy hv H hm fun w' hM'=>(next.h h).h a w' G hM')⟩⟩
end
instance:xd 3:=⟨Tryz.isAgg3⟩
instance:xd 23:=⟨Tryz.isAgg23⟩
instance:xd 52:=⟨Tryz.isAgg52⟩
instance:xd 28:=⟨Tryz.isAgg28⟩
instance:xd 4:=⟨Tryz.isAgg4⟩
instance:xd 33:=⟨Tryz.isAgg33⟩
instance:xd 58:=⟨Tryz.isAgg58⟩
instance:xd 5:=⟨Tryz.isAgg5⟩
instance:xd 56:=⟨Tryz.isAgg56⟩
instance:xd 57:=⟨Tryz.isAgg57⟩
instance:xd 34:=⟨Tryz.isAgg34⟩
instance:xd 24:=⟨Tryz.isAgg24⟩
instance:xd 233:=⟨Tryz.isAgg233⟩
instance:xd 25:=⟨Tryz.isAgg25⟩
instance:xd 2:=⟨Tryz.isAgg2⟩
instance:xd 115:=⟨Tryz.isAgg115⟩
instance:xd 199:=⟨Tryz.isAgg199⟩
instance:vb 46 4:=⟨Tryz.isAgg46,Tryz.sizeOf46⟩
instance:vb 54 466:=⟨Tryz.isAgg54,Tryz.sizeOf54⟩
instance:vb 60 7:=⟨Tryz.isAgg60,Tryz.sizeOf60⟩
instance:vb 50 13:=⟨Tryz.isAgg50,Tryz.sizeOf50⟩
instance:vb 36 4:=⟨Tryz.isAgg36,Tryz.sizeOf36⟩
instance:vb 101 8:=⟨Tryz.isAgg101,Tryz.sizeOf101⟩
instance:vb 30 2:=⟨Tryz.isAgg30,Tryz.sizeOf30⟩
instance:vb 156 4:=⟨Tryz.isAgg156,Tryz.sizeOf156⟩
instance:vb 128 9:=⟨Tryz.isAgg128,Tryz.sizeOf128⟩
instance:vb 151 27:=⟨Tryz.isAgg151,Tryz.sizeOf151⟩
instance:vb 27 5:=⟨Tryz.isAgg27,Tryz.sizeOf27⟩
instance:vb 259 11:=⟨Tryz.isAgg259,Tryz.sizeOf259⟩
instance:vb 47 44:=⟨Tryz.isAgg47,Tryz.sizeOf47⟩
instance:vb 51 416:=⟨Tryz.isAgg51,Tryz.sizeOf51⟩
instance:vb 283 6:=⟨Tryz.isAgg283,Tryz.sizeOf283⟩
instance:vb 205 2:=⟨Tryz.isAgg205,Tryz.sizeOf205⟩
instance:vb 48 8:=⟨Tryz.isAgg48,Tryz.sizeOf48⟩
instance:vb 316 2:=⟨Tryz.isAgg316,Tryz.sizeOf316⟩
instance:vb 318 2:=⟨Tryz.isAgg318,Tryz.sizeOf318⟩
instance:vb 278 4:=⟨Tryz.isAgg278,Tryz.sizeOf278⟩
instance:vb 203 471:=⟨Tryz.isAgg203,Tryz.sizeOf203⟩
instance:Sz 54 466:=⟨Tryz.sizeOf54⟩
instance:Sz 46 4:=⟨Tryz.sizeOf46⟩
instance:Sz 3 1:=⟨Tryz.sizeOf3⟩
instance:Sz 34 1:=⟨Tryz.sizeOf34⟩
instance:Sz 60 7:=⟨Tryz.sizeOf60⟩
instance:Sz 36 4:=⟨Tryz.sizeOf36⟩
instance:Sz 23 1:=⟨Tryz.sizeOf23⟩
instance:Sz 52 1:=⟨Tryz.sizeOf52⟩
instance:Sz 156 4:=⟨Tryz.sizeOf156⟩
instance:Sz 4 1:=⟨Tryz.sizeOf4⟩
instance:Sz 28 1:=⟨Tryz.sizeOf28⟩
instance:Sz 128 9:=⟨Tryz.sizeOf128⟩
instance:Sz 151 27:=⟨Tryz.sizeOf151⟩
instance:Sz 58 1:=⟨Tryz.sizeOf58⟩
instance:Sz 50 13:=⟨Tryz.sizeOf50⟩
instance:Sz 259 11:=⟨Tryz.sizeOf259⟩
instance:Sz 283 6:=⟨Tryz.sizeOf283⟩
instance:Sz 56 1:=⟨Tryz.sizeOf56⟩
instance:Sz 57 1:=⟨Tryz.sizeOf57⟩
instance:Sz 101 8:=⟨Tryz.sizeOf101⟩
instance:Sz 278 4:=⟨Tryz.sizeOf278⟩
instance:Sz 121 4:=⟨Tryz.sizeOf121⟩
instance:Sz 115 1:=⟨Tryz.sizeOf115⟩
instance:Sz 30 2:=⟨Tryz.sizeOf30⟩
instance:Sz 33 1:=⟨Tryz.sizeOf33⟩
instance:Sz 316 2:=⟨Tryz.sizeOf316⟩
instance:Sz 318 2:=⟨Tryz.sizeOf318⟩
instance:Sz 205 2:=⟨Tryz.sizeOf205⟩
instance:Sz 27 5:=⟨Tryz.sizeOf27⟩
instance:Sz 5 1:=⟨Tryz.sizeOf5⟩
instance:Sz 280 5:=⟨Tryz.sizeOf280⟩
instance:Sz 203 471:=⟨Tryz.sizeOf203⟩
instance:Sz 24 1:=⟨Tryz.sizeOf24⟩
instance:US 52 3:=⟨Tryz.underlying52⟩
instance:US 23 5:=⟨Tryz.underlying23⟩
instance:UA 47 11 46:=⟨Tryz.underlying47⟩
instance:US 58 156:=⟨Tryz.underlying58⟩
instance:US 28 23:=⟨Tryz.underlying28⟩
instance:US 33 60:=⟨Tryz.underlying33⟩
instance:US 56 128:=⟨Tryz.underlying56⟩
instance:US 57 151:=⟨Tryz.underlying57⟩
instance:UI 3 .i64:=⟨Tryz.underlying3⟩
instance:UI 298 .u64:=⟨Tryz.underlying298⟩
instance:US 25 101:=⟨Tryz.underlying25⟩
instance:UA 51 32 50:=⟨Tryz.underlying51⟩
instance:UI 307 .u32:=⟨Tryz.underlying307⟩
instance:US 24 205:=⟨Tryz.underlying24⟩
instance:UI 233 .u64:=⟨Tryz.underlying233⟩
instance:UI 21 .i32:=⟨Tryz.underlying21⟩
instance:UI 2 .i64:=⟨Tryz.underlying2⟩
instance:UA 283 6 3:=⟨Tryz.underlying283⟩
instance:UI 308 .u16:=⟨Tryz.underlying308⟩
instance:US 139 46:=⟨Tryz.underlying139⟩
instance:US 149 50:=⟨Tryz.underlying149⟩
instance:US 236 259:=⟨Tryz.underlying236⟩
instance:UI 305 .i8:=⟨Tryz.underlying305⟩
instance:UI 306 .i16:=⟨Tryz.underlying306⟩
instance:UA 48 8 5:=⟨Tryz.underlying48⟩
instance:UI 228 .u64:=⟨Tryz.underlying228⟩
instance:Is 3 1:=⟨_,kP,rfl⟩
instance:Is 46 4:=⟨_,B0,rfl⟩
instance:Is 5 1:=⟨_,sw,rfl⟩
instance:Is 156 4:=⟨_,qO,rfl⟩
instance:Is 23 1:=⟨_,uh,rfl⟩
instance:Is 50 13:=⟨_,Dt,rfl⟩
instance:Is 128 9:=⟨_,zp,rfl⟩
instance:Is 151 27:=⟨_,zq,rfl⟩
instance:Is 60 7:=⟨_,AP,rfl⟩
instance:Is 101 8:=⟨_,Dp,rfl⟩
instance:Is 205 2:=⟨_,Dq,rfl⟩
instance:Is 259 11:=⟨_,LO,rfl⟩
instance (x:ay):En (ay.enc x) 466:=⟨ay.len x,ay.one x⟩
instance:Ef ay ay.enc:=⟨fun _=>rfl⟩
instance (x:ak):En (ak.enc x) 4:=⟨ak.len x,ak.one x⟩
instance:Ef ak ak.enc:=⟨fun _=>rfl⟩
instance (x:bS):En (bS.enc x) 7:=⟨bS.len x,bS.one x⟩
instance:Ef bS bS.enc:=⟨fun _=>rfl⟩
instance (x:bg):En (bg.enc x) 4:=⟨bg.len x,bg.one x⟩
instance:Ef bg bg.enc:=⟨fun _=>rfl⟩
instance (x:bn):En (bn.enc x) 13:=⟨bn.len x,bn.one x⟩
instance:Ef bn bn.enc:=⟨fun _=>rfl⟩
instance (x:bq):En (bq.enc x) 4:=⟨bq.len x,bq.one x⟩
instance:Ef bq bq.enc:=⟨fun _=>rfl⟩
instance (x:b9):En (b9.enc x) 8:=⟨b9.len x,b9.one x⟩
instance:Ef b9 b9.enc:=⟨fun _=>rfl⟩
instance (x:ik):En (ik.enc x) 11:=⟨ik.len x,ik.one x⟩
instance:Ef ik ik.enc:=⟨fun _=>rfl⟩
instance (x:br):En (br.enc x) 2:=⟨br.len x,br.one x⟩
instance:Ef br br.enc:=⟨fun _=>rfl⟩
instance (x:dU):En (dU.enc x) 9:=⟨dU.len x,dU.one x⟩
instance:Ef dU dU.enc:=⟨fun _=>rfl⟩
instance (x:eo):En (eo.enc x) 27:=⟨eo.len x,eo.one x⟩
instance:Ef eo eo.enc:=⟨fun _=>rfl⟩
instance (x:bh):En (bh.enc x) 5:=⟨bh.len x,bh.one x⟩
instance:Ef bh bh.enc:=⟨fun _=>rfl⟩
instance (x:dm):En (dm.enc x) 4:=⟨dm.len x,dm.one x⟩
instance:Ef dm dm.enc:=⟨fun _=>rfl⟩
instance (x:ez):En (ez.enc x) 4:=⟨ez.len x,ez.one x⟩
instance:Ef ez ez.enc:=⟨fun _=>rfl⟩
instance (x:gG):En (gG.enc x) 2:=⟨gG.len x,gG.one x⟩
instance:Ef gG gG.enc:=⟨fun _=>rfl⟩
instance (x:gp):En (gp.enc x) 2:=⟨gp.len x,gp.one x⟩
instance:Ef gp gp.enc:=⟨fun _=>rfl⟩
instance (x:gj):En (gj.enc x) 2:=⟨gj.len x,gj.one x⟩
instance:Ef gj gj.enc:=⟨fun _=>rfl⟩
instance (x:af):En (af.enc x) 471:=⟨af.len x,af.one x⟩
instance:Ef af af.enc:=⟨fun _=>rfl⟩
instance (x:gq):En (gq.enc x) 5:=⟨gq.len x,gq.one x⟩
instance:Ef gq gq.enc:=⟨fun _=>rfl⟩
instance:Zr Tryz.prog 54 ay.zero.enc:=⟨fun w=>⟨_,z54 w,rfl⟩⟩
instance:Zr Tryz.prog 46 ak.zero.enc:=⟨fun w=>⟨_,z46 w,rfl⟩⟩
instance:Zr Tryz.prog 60 bS.zero.enc:=⟨fun w=>⟨_,z60 w,rfl⟩⟩
instance:Zr Tryz.prog 36 bg.zero.enc:=⟨fun w=>⟨_,z36 w,rfl⟩⟩
instance:Zr Tryz.prog 156 bq.zero.enc:=⟨fun w=>⟨_,z156 w,rfl⟩⟩
instance:Zr Tryz.prog 128 dU.zero.enc:=⟨fun w=>⟨_,Np w,rfl⟩⟩
instance:Zr Tryz.prog 151 eo.zero.enc:=⟨fun w=>⟨_,Nq w,rfl⟩⟩
instance:Zr Tryz.prog 259 ik.zero.enc:=⟨fun w=>⟨_,Rx w,rfl⟩⟩
instance:Zr Tryz.prog 101 b9.zero.enc:=⟨fun w=>⟨_,Ru w,rfl⟩⟩
instance:Zr Tryz.prog 278 dm.zero.enc:=⟨fun w=>⟨_,Ah w,rfl⟩⟩
instance:Zr Tryz.prog 205 gG.zero.enc:=⟨fun w=>⟨_,Rw w,rfl⟩⟩
instance:Zr Tryz.prog 27 bh.zero.enc:=⟨fun w=>⟨_,z27 w,rfl⟩⟩
instance:Zr Tryz.prog 30 br.zero.enc:=⟨fun w=>⟨_,z30 w,rfl⟩⟩
instance:Zr Tryz.prog 50 bn.zero.enc:=⟨fun w=>⟨_,z50 w,rfl⟩⟩
instance:Zr Tryz.prog 316 gp.zero.enc:=⟨fun w=>⟨_,HY w,rfl⟩⟩
instance:Zr Tryz.prog 318 gj.zero.enc:=⟨fun w=>⟨_,HZ w,rfl⟩⟩
instance:Zr Tryz.prog 280 gq.zero.enc:=⟨fun w=>⟨_,Fv w,rfl⟩⟩
instance:Zr Tryz.prog 203 af.zero.enc:=⟨fun w=>⟨_,z203 w,rfl⟩⟩
instance:Zr Tryz.prog 121 ez.zero.enc:=⟨fun w=>⟨_,Ft w,rfl⟩⟩
instance (x:b9):Gg (b9.enc x) (no_index (0:Nat)) (.int .i64 x.op):=⟨b9.g_op x⟩
instance (x:bg):Gg (bg.enc x) (no_index (2:Nat)) (x.cj.v):=⟨bg.g_marks x⟩
instance (x:bS):Gg (bS.enc x) (no_index (5:Nat)) (x.dE.v):=⟨bS.g_pieces x⟩
instance (x:ay):Gg (ay.enc x) (no_index (461:Nat)) (x.ah.v):=⟨ay.g_tables x⟩
instance (x:ak):Gg (ak.enc x) (no_index (0:Nat)) (.int .i64 x.kind):=⟨ak.g_kind x⟩
instance (x:ay):Gg (ay.enc x) (no_index (460:Nat)) (x.b_.v):=⟨ay.g_ctx x⟩
instance (x:ay):Gg (ay.enc x) (no_index (462:Nat)) (x.bf.v):=⟨ay.g_sent x⟩
instance (x:b9):Gg (b9.enc x) (no_index (3:Nat)) (.int .i64 x.size):=⟨b9.g_size x⟩
instance (x:ak):Gg (ak.enc x) (no_index (3:Nat)) (.int .i64 x.x):=⟨ak.g_x x⟩
instance (x:b9):Gg (b9.enc x) (no_index (6:Nat)) (.int .i64 x.off):=⟨b9.g_off x⟩
instance (x:bS):Gg (bS.enc x) (no_index (3:Nat)) (x.bk.v):=⟨bS.g_regs x⟩
instance (x:bS):Gg (bS.enc x) (no_index (4:Nat)) (x.slots.v):=⟨bS.g_slots x⟩
instance (x:b9):Gg (b9.enc x) (no_index (7:Nat)) (.int .i64 x.k_):=⟨b9.g_imm x⟩
instance (x:bS):Gg (bS.enc x) (no_index (6:Nat)) (x.bf.v):=⟨bS.g_sent x⟩
instance (x:b9):Gg (b9.enc x) (no_index (4:Nat)) (.int .i64 x.dst):=⟨b9.g_dst x⟩
instance (x:ay):Gg (ay.enc x) (no_index (464:Nat)) (.int .i64 x.steps):=⟨ay.g_steps x⟩
instance (x:ay):Gg (ay.enc x) (no_index (465:Nat)) (.bool x.done):=⟨ay.g_done x⟩
instance (x:b9):Gg (b9.enc x) (no_index (1:Nat)) (.bool x.narrow):=⟨b9.g_narrow x⟩
instance (x:bq):Gg (bq.enc x) (no_index (2:Nat)) (x.old.v):=⟨bq.g_old x⟩
instance (x:br):Gg (br.enc x) (no_index (0:Nat)) (x.b_.v):=⟨br.g_ctx x⟩
instance (x:ay):Gg (ay.enc x) (no_index (463:Nat)) (.int .i64 x.at_):=⟨ay.g_at_ x⟩
instance (x:br):Gg (br.enc x) (no_index (1:Nat)) (x.ah.v):=⟨br.g_tables x⟩
instance (x:bq):Gg (bq.enc x) (no_index (3:Nat)) (x.new.v):=⟨bq.g_new x⟩
instance (x:bq):Gg (bq.enc x) (no_index (1:Nat)) (.int .i64 x.from_):=⟨bq.g_from_ x⟩
instance (x:b9):Gg (b9.enc x) (no_index (5:Nat)) (.int .i64 x.src):=⟨b9.g_src x⟩
instance (x:bq):Gg (bq.enc x) (no_index (0:Nat)) (.int .i64 x.table):=⟨bq.g_table x⟩
instance (x:bg):Gg (bg.enc x) (no_index (3:Nat)) (.int .i64 x.end_):=⟨bg.g_end_ x⟩
instance (x:bS):Gg (bS.enc x) (no_index (0:Nat)) (.int .i64 x.at_):=⟨bS.g_at_ x⟩
instance (x:bS):Gg (bS.enc x) (no_index (1:Nat)) (.int .i64 x.next):=⟨bS.g_next x⟩
instance (x:bh):Gg (bh.enc x) (no_index (3:Nat)) (x.ah.v):=⟨bh.g_tables x⟩
instance (x:bh):Gg (bh.enc x) (no_index (4:Nat)) (x.code.v):=⟨bh.g_code x⟩
instance (x:gy):Gg (gy.enc x) (no_index (0:Nat)) (x.b.v):=⟨gy.g_b x⟩
instance (x:b9):Gg (b9.enc x) (no_index (2:Nat)) (.bool x.reg):=⟨b9.g_reg x⟩
instance (x:dU):Gg (dU.enc x) (no_index (0:Nat)) (.int .i64 x.reg):=⟨dU.g_reg x⟩
instance (x:eo):Gg (eo.enc x) (no_index (0:Nat)) (.int .i64 x.slot):=⟨eo.g_slot x⟩
instance (x:bS):Gg (bS.enc x) (no_index (2:Nat)) (.bool x.done):=⟨bS.g_done x⟩
instance (x:bh):Gg (bh.enc x) (no_index (0:Nat)) (.int .i64 x.lo):=⟨bh.g_lo x⟩
instance (x:bh):Gg (bh.enc x) (no_index (1:Nat)) (.int .i64 x.hi):=⟨bh.g_hi x⟩
instance (x:bh):Gg (bh.enc x) (no_index (2:Nat)) (x.data.v):=⟨bh.g_data x⟩
instance (x:gp):Gg (gp.enc x) (no_index (0:Nat)) (.int .u64 x.a):=⟨gp.g_a x⟩
instance (x:gp):Gg (gp.enc x) (no_index (1:Nat)) (.int .u64 x.b):=⟨gp.g_b x⟩
instance (x:ak):Gg (ak.enc x) (no_index (1:Nat)) (.int .i64 x.table):=⟨ak.g_table x⟩
instance (x:af):Gg (af.enc x) (no_index (467:Nat)) (x.bf.v):=⟨af.g_sent x⟩
instance (x:bn):Gg (bn.enc x) (no_index (12:Nat)) (.int .i64 x.mask):=⟨bn.g_mask x⟩
instance (x:ik):Gg (ik.enc x) (no_index (1:Nat)) (.int .i64 x.op):=⟨ik.g_op x⟩
instance (x:ik):Gg (ik.enc x) (no_index (0:Nat)) (.int .i64 x.code):=⟨ik.g_code x⟩
instance (x:ik):Gg (ik.enc x) (no_index (7:Nat)) (.int .i64 x.off):=⟨ik.g_off x⟩
instance (x:af):Gg (af.enc x) (no_index (468:Nat)) (.int .i64 x.at_):=⟨af.g_at_ x⟩
instance (x:af):Gg (af.enc x) (no_index (470:Nat)) (.bool x.done):=⟨af.g_done x⟩
instance (x:ak):Gg (ak.enc x) (no_index (2:Nat)) (.int .i64 x.row):=⟨ak.g_row x⟩
instance (x:ik):Gg (ik.enc x) (no_index (6:Nat)) (.int .i64 x.src):=⟨ik.g_src x⟩
instance (x:gj):Gg (gj.enc x) (no_index (0:Nat)) (.int .i64 x.a):=⟨gj.g_a x⟩
instance (x:gj):Gg (gj.enc x) (no_index (1:Nat)) (.int .i64 x.b):=⟨gj.g_b x⟩
instance (x:af):Gg (af.enc x) (no_index (469:Nat)) (.int .i64 x.steps):=⟨af.g_steps x⟩
instance (x:af):Gg (af.enc x) (no_index (420:Nat)) (x.code.v):=⟨af.g_code x⟩
instance (x:gG):Gg (gG.enc x) (no_index (0:Nat)) (.int .i64 x.rows):=⟨gG.g_rows x⟩
instance (x:gG):Gg (gG.enc x) (no_index (1:Nat)) (.int .i64 x.wide):=⟨gG.g_wide x⟩
instance (x:ik):Gg (ik.enc x) (no_index (3:Nat)) (.bool x.narrow):=⟨ik.g_narrow x⟩
instance (x:ik):Gg (ik.enc x) (no_index (5:Nat)) (.int .i64 x.dst):=⟨ik.g_dst x⟩
instance (x:ik):Gg (ik.enc x) (no_index (8:Nat)) (.int .i64 x.k_):=⟨ik.g_imm x⟩
instance (x:ik):Gg (ik.enc x) (no_index (9:Nat)) (.int .i64 x.second):=⟨ik.g_second x⟩
instance (x:af):Gg (af.enc x) (no_index (422:Nat)) (.map x.cg):=⟨af.g_begin_ x⟩
instance (x:af):Gg (af.enc x) (no_index (421:Nat)) (x.dq.v):=⟨af.g_units x⟩
instance (x:ik):Gg (ik.enc x) (no_index (10:Nat)) (.bool x.writes):=⟨ik.g_writes x⟩
instance (x:ik):Gg (ik.enc x) (no_index (4:Nat)) (.bool x.reg):=⟨ik.g_reg x⟩
instance (x:ik):Gg (ik.enc x) (no_index (2:Nat)) (.int .i64 x.size):=⟨ik.g_size x⟩
instance (x:fg):Gg (fg.enc x) (no_index (0:Nat)) (.int .i64 x.least):=⟨fg.g_least x⟩
instance (x:fg):Gg (fg.enc x) (no_index (1:Nat)) (.int .i64 x.most):=⟨fg.g_most x⟩
instance (x:fM):Gg (fM.enc x) (no_index (0:Nat)) (.int .i64 x.from_):=⟨fM.g_from_ x⟩
instance (x:dc):Gg (dc.enc x) (no_index (0:Nat)) (.int .i64 x.many):=⟨dc.g_many x⟩
instance (x:gq):Gg (gq.enc x) (no_index (0:Nat)) (x.args.v):=⟨gq.g_args x⟩
instance (x:bg):Gg (bg.enc x) (no_index (1:Nat)) (x.iz.ah.v):=⟨cL (bg.c_in_ x) (br.g_tables _)⟩
instance (x:af):Gg (af.enc x) (no_index (416:Nat)) (x.ae.b_.v):=⟨cL (af.c_memory x) (bu.g_ctx _)⟩
instance (x:bg):Gg (bg.enc x) (no_index (0:Nat)) (x.iz.b_.v):=⟨cL (bg.c_in_ x) (br.g_ctx _)⟩
instance (x:af):Gg (af.enc x) (no_index (419:Nat)) (x.ae.sizes.v):=⟨cL (af.c_memory x) (bu.g_sizes _)⟩
instance (x:af):Gg (af.enc x) (no_index (417:Nat)) (x.ae.ah.v):=⟨cL (af.c_memory x) (bu.g_tables _)⟩
instance (x:bn):Gg (bn.enc x) (no_index (0:Nat)) (.int .i64 x.ptr.kind):=⟨cL (bn.c_ptr x) (ak.g_kind _)⟩
instance (x:af):Gg (af.enc x) (no_index (418:Nat)) (x.ae.data.v):=⟨cL (af.c_memory x) (bu.g_data _)⟩
instance (x:bg):Cc (bg.enc x) (no_index (0:Nat)) (no_index (2:Nat)) (br.enc x.iz):=⟨bg.c_in_ x,br.len _⟩
instance (x:af):Cc (af.enc x) (no_index (0:Nat)) (no_index (420:Nat)) (bu.enc x.ae):=⟨af.c_memory x,bu.len _⟩
instance (x:bn):Cc (bn.enc x) (no_index (0:Nat)) (no_index (4:Nat)) (ak.enc x.ptr):=⟨bn.c_ptr x,ak.len _⟩
instance (x:dU):Cc (dU.enc x) (no_index (1:Nat)) (no_index (4:Nat)) (ak.enc x.old):=⟨dU.c_old x,ak.len _⟩
instance (x:dU):Cc (dU.enc x) (no_index (5:Nat)) (no_index (4:Nat)) (ak.enc x.new):=⟨dU.c_new x,ak.len _⟩
instance (x:eo):Cc (eo.enc x) (no_index (1:Nat)) (no_index (13:Nat)) (bn.enc x.old):=⟨eo.c_old x,bn.len _⟩
instance (x:eo):Cc (eo.enc x) (no_index (14:Nat)) (no_index (13:Nat)) (bn.enc x.new):=⟨eo.c_new x,bn.len _⟩
instance (x:dc):Cc (dc.enc x) (no_index (1:Nat)) (no_index (4:Nat)) (dm.enc x.span):=⟨dc.c_span x,dm.len _⟩
instance (x:af):Ci (af.enc x) (no_index (423:Nat)) (no_index (4:Nat)) ak inferInstance (x.bk.l):=⟨fun i y h=>af.ci_regs x i y h⟩
instance (x:ay):Ci (ay.enc x) (no_index (0:Nat)) (no_index (4:Nat)) ak inferInstance (x.bk.l):=⟨fun i y h=>ay.ci_regs x i y h⟩
instance (x:ay):Ci (ay.enc x) (no_index (44:Nat)) (no_index (13:Nat)) bn inferInstance (x.bp.l):=⟨fun i y h=>ay.ci_stack x i y h⟩
instance (x:ay)(y:SV):Se (ay.enc x) (no_index (462:Nat)) (y.v) (ay.enc { x with bf:=y }):=⟨ay.gC x y,by rw[ay.len];decide⟩
instance (x:bS)(y:SV):Se (bS.enc x) (no_index (5:Nat)) (y.v) (bS.enc { x with dE:=y }):=⟨bS.kr x y,by rw[bS.len];decide⟩
instance (x:ak)(y:Int):Se (ak.enc x) (no_index (3:Nat)) (.int .i64 y) (ak.enc { x with x:=y }):=⟨ak.s_x x y,by rw[ak.len];decide⟩
instance (x:gy)(y:SV):Se (gy.enc x) (no_index (0:Nat)) (y.v) (gy.enc { x with b:=y }):=⟨gy.vq x y,by rw[gy.len];decide⟩
instance (x:bq)(y:SV):Se (bq.enc x) (no_index (2:Nat)) (y.v) (bq.enc { x with old:=y }):=⟨bq.mr x y,by rw[bq.len];decide⟩
instance (x:bq)(y:SV):Se (bq.enc x) (no_index (3:Nat)) (y.v) (bq.enc { x with new:=y }):=⟨bq.mg x y,by rw[bq.len];decide⟩
instance (x:bS)(y:SV):Se (bS.enc x) (no_index (3:Nat)) (y.v) (bS.enc { x with bk:=y }):=⟨bS.oq x y,by rw[bS.len];decide⟩
instance (x:bS)(y:SV):Se (bS.enc x) (no_index (4:Nat)) (y.v) (bS.enc { x with slots:=y }):=⟨bS.lq x y,by rw[bS.len];decide⟩
instance (x:ay)(y:SV):Se (ay.enc x) (no_index (460:Nat)) (y.v) (ay.enc { x with b_:=y }):=⟨ay.gI x y,by rw[ay.len];decide⟩
instance (x:ay)(y:SV):Se (ay.enc x) (no_index (461:Nat)) (y.v) (ay.enc { x with ah:=y }):=⟨ay.ep x y,by rw[ay.len];decide⟩
instance (x:ay)(y:Bool):Se (ay.enc x) (no_index (465:Nat)) (.bool y) (ay.enc { x with done:=y }):=⟨ay.s_done x y,by rw[ay.len];decide⟩
instance (x:ay)(y:Int):Se (ay.enc x) (no_index (464:Nat)) (.int .i64 y) (ay.enc { x with steps:=y }):=⟨ay.s_steps x y,by rw[ay.len];decide⟩
instance (x:bg)(y:Int):Se (bg.enc x) (no_index (3:Nat)) (.int .i64 y) (bg.enc { x with end_:=y }):=⟨bg.s_end_ x y,by rw[bg.len];decide⟩
instance (x:ik)(y:Int):Se (ik.enc x) (no_index (0:Nat)) (.int .i64 y) (ik.enc { x with code:=y }):=⟨ik.oo x y,by rw[ik.len];decide⟩
instance (x:bS)(y:SV):Se (bS.enc x) (no_index (6:Nat)) (y.v) (bS.enc { x with bf:=y }):=⟨bS.gC x y,by rw[bS.len];decide⟩
instance (x:ay)(y:Int):Se (ay.enc x) (no_index (463:Nat)) (.int .i64 y) (ay.enc { x with at_:=y }):=⟨ay.s_at_ x y,by rw[ay.len];decide⟩
instance (x:bg)(y:SV):Se (bg.enc x) (no_index (2:Nat)) (y.v) (bg.enc { x with cj:=y }):=⟨bg.qt x y,by rw[bg.len];decide⟩
instance (x:ik)(y:Bool):Se (ik.enc x) (no_index (4:Nat)) (.bool y) (ik.enc { x with reg:=y }):=⟨ik.s_reg x y,by rw[ik.len];decide⟩
instance (x:ik)(y:Int):Se (ik.enc x) (no_index (6:Nat)) (.int .i64 y) (ik.enc { x with src:=y }):=⟨ik.s_src x y,by rw[ik.len];decide⟩
instance (x:ik)(y:Int):Se (ik.enc x) (no_index (8:Nat)) (.int .i64 y) (ik.enc { x with k_:=y }):=⟨ik.s_imm x y,by rw[ik.len];decide⟩
instance (x:ik)(y:Bool):Se (ik.enc x) (no_index (3:Nat)) (.bool y) (ik.enc { x with narrow:=y }):=⟨ik.s_narrow x y,by rw[ik.len];decide⟩
instance (x:af)(y:SV):Se (af.enc x) (no_index (467:Nat)) (y.v) (af.enc { x with bf:=y }):=⟨af.gC x y,by rw[af.len];decide⟩
instance (x:af)(y:Int):Se (af.enc x) (no_index (469:Nat)) (.int .i64 y) (af.enc { x with steps:=y }):=⟨af.s_steps x y,by rw[af.len];decide⟩
instance (x:af)(y:Bool):Se (af.enc x) (no_index (470:Nat)) (.bool y) (af.enc { x with done:=y }):=⟨af.s_done x y,by rw[af.len];decide⟩
instance (x:af)(y:Int):Se (af.enc x) (no_index (468:Nat)) (.int .i64 y) (af.enc { x with at_:=y }):=⟨af.s_at_ x y,by rw[af.len];decide⟩
instance:FA Tryz.prog 101 0 0:=⟨_,_,_,Tryz.underlying101,rfl,kP,rfl⟩
instance:FA Tryz.prog 101 3 3:=⟨_,_,_,Tryz.underlying101,rfl,kP,rfl⟩
instance:FA Tryz.prog 101 4 4:=⟨_,_,_,Tryz.underlying101,rfl,kP,rfl⟩
instance:FA Tryz.prog 101 5 5:=⟨_,_,_,Tryz.underlying101,rfl,kP,rfl⟩
instance:FA Tryz.prog 101 6 6:=⟨_,_,_,Tryz.underlying101,rfl,kP,rfl⟩
instance:FA Tryz.prog 101 7 7:=⟨_,_,_,Tryz.underlying101,rfl,kP,rfl⟩
instance:FA Tryz.prog 46 0 0:=⟨_,_,_,Tryz.underlying46,rfl,kP,rfl⟩
instance:FA Tryz.prog 46 1 1:=⟨_,_,_,Tryz.underlying46,rfl,kP,rfl⟩
instance:FA Tryz.prog 46 2 2:=⟨_,_,_,Tryz.underlying46,rfl,kP,rfl⟩
instance:FA Tryz.prog 46 3 3:=⟨_,_,_,Tryz.underlying46,rfl,kP,rfl⟩
instance:FA Tryz.prog 60 5 5:=⟨_,_,_,Tryz.underlying60,rfl,Qw,rfl⟩
instance:FA Tryz.prog 36 1 2:=⟨_,_,_,Tryz.underlying36,rfl,Qq,rfl⟩
instance:FA Tryz.prog 54 3 461:=⟨_,_,_,Tryz.underlying54,rfl,HB,rfl⟩
instance:FA Tryz.prog 203 4 423:=⟨_,_,_,Tryz.underlying203,rfl,LS,rfl⟩
instance:FA Tryz.prog 156 2 2:=⟨_,_,_,Tryz.underlying156,rfl,uh,rfl⟩
instance:FA Tryz.prog 156 3 3:=⟨_,_,_,Tryz.underlying156,rfl,uh,rfl⟩
instance:FA Tryz.prog 54 4 462:=⟨_,_,_,Tryz.underlying54,rfl,Du,rfl⟩
instance:FA Tryz.prog 54 5 463:=⟨_,_,_,Tryz.underlying54,rfl,kP,rfl⟩
instance:FA Tryz.prog 54 6 464:=⟨_,_,_,Tryz.underlying54,rfl,kP,rfl⟩
instance:FA Tryz.prog 54 2 460:=⟨_,_,_,Tryz.underlying54,rfl,uh,rfl⟩
instance:FA Tryz.prog 203 0 0:=⟨_,_,_,Tryz.underlying203,rfl,LM,rfl⟩
instance:FA Tryz.prog 156 0 0:=⟨_,_,_,Tryz.underlying156,rfl,kP,rfl⟩
instance:FA Tryz.prog 156 1 1:=⟨_,_,_,Tryz.underlying156,rfl,kP,rfl⟩
instance:FA Tryz.prog 60 3 3:=⟨_,_,_,Tryz.underlying60,rfl,Qu,rfl⟩
instance:FA Tryz.prog 60 4 4:=⟨_,_,_,Tryz.underlying60,rfl,Qv,rfl⟩
instance:FA Tryz.prog 259 0 0:=⟨_,_,_,Tryz.underlying259,rfl,kP,rfl⟩
instance:FA Tryz.prog 259 1 1:=⟨_,_,_,Tryz.underlying259,rfl,kP,rfl⟩
instance:FA Tryz.prog 259 2 2:=⟨_,_,_,Tryz.underlying259,rfl,kP,rfl⟩
instance:FA Tryz.prog 259 5 5:=⟨_,_,_,Tryz.underlying259,rfl,kP,rfl⟩
instance:FA Tryz.prog 259 6 6:=⟨_,_,_,Tryz.underlying259,rfl,kP,rfl⟩
instance:FA Tryz.prog 259 7 7:=⟨_,_,_,Tryz.underlying259,rfl,kP,rfl⟩
instance:FA Tryz.prog 259 8 8:=⟨_,_,_,Tryz.underlying259,rfl,kP,rfl⟩
instance:FA Tryz.prog 259 9 9:=⟨_,_,_,Tryz.underlying259,rfl,kP,rfl⟩
instance:FA Tryz.prog 54 0 0:=⟨_,_,_,Tryz.underlying54,rfl,LS,rfl⟩
instance:FA Tryz.prog 60 6 6:=⟨_,_,_,Tryz.underlying60,rfl,Du,rfl⟩
instance:FA Tryz.prog 101 1 1:=⟨_,_,_,Tryz.underlying101,rfl,FZ,rfl⟩
instance:FA Tryz.prog 101 2 2:=⟨_,_,_,Tryz.underlying101,rfl,FZ,rfl⟩
instance:FA Tryz.prog 36 0 0:=⟨_,_,_,Tryz.underlying36,rfl,Qp,rfl⟩
instance:FA Tryz.prog 60 0 0:=⟨_,_,_,Tryz.underlying60,rfl,kP,rfl⟩
instance:FA Tryz.prog 60 1 1:=⟨_,_,_,Tryz.underlying60,rfl,kP,rfl⟩
instance:FA Tryz.prog 54 7 465:=⟨_,_,_,Tryz.underlying54,rfl,FZ,rfl⟩
instance:FA Tryz.prog 54 1 44:=⟨_,_,_,Tryz.underlying54,rfl,LU,rfl⟩
instance:FA Tryz.prog 30 0 0:=⟨_,_,_,Tryz.underlying30,rfl,uh,rfl⟩
instance:FA Tryz.prog 30 1 1:=⟨_,_,_,Tryz.underlying30,rfl,HB,rfl⟩
instance:FA Tryz.prog 36 2 3:=⟨_,_,_,Tryz.underlying36,rfl,Qr,rfl⟩
instance:FA Tryz.prog 167 0 0:=⟨_,_,_,Tryz.underlying167,rfl,uh,rfl⟩
instance:FA Tryz.prog 128 1 1:=⟨_,_,_,Tryz.underlying128,rfl,B0,rfl⟩
instance:FA Tryz.prog 128 2 5:=⟨_,_,_,Tryz.underlying128,rfl,B0,rfl⟩
instance:FA Tryz.prog 151 1 1:=⟨_,_,_,Tryz.underlying151,rfl,Dt,rfl⟩
instance:FA Tryz.prog 151 2 14:=⟨_,_,_,Tryz.underlying151,rfl,Dt,rfl⟩
instance:FA Tryz.prog 27 0 0:=⟨_,_,_,Tryz.underlying27,rfl,kP,rfl⟩
instance:FA Tryz.prog 27 1 1:=⟨_,_,_,Tryz.underlying27,rfl,kP,rfl⟩
instance:FA Tryz.prog 316 0 0:=⟨_,_,_,Tryz.underlying316,rfl,FX,rfl⟩
instance:FA Tryz.prog 316 1 1:=⟨_,_,_,Tryz.underlying316,rfl,FX,rfl⟩
instance:FA Tryz.prog 128 0 0:=⟨_,_,_,Tryz.underlying128,rfl,kP,rfl⟩
instance:FA Tryz.prog 151 0 0:=⟨_,_,_,Tryz.underlying151,rfl,kP,rfl⟩
instance:FA Tryz.prog 50 0 0:=⟨_,_,_,Tryz.underlying50,rfl,B0,rfl⟩
instance:FA Tryz.prog 201 1 416:=⟨_,_,_,Tryz.underlying201,rfl,uh,rfl⟩
instance:FA Tryz.prog 201 3 418:=⟨_,_,_,Tryz.underlying201,rfl,uh,rfl⟩
instance:FA Tryz.prog 203 6 468:=⟨_,_,_,Tryz.underlying203,rfl,kP,rfl⟩
instance:FA Tryz.prog 203 7 469:=⟨_,_,_,Tryz.underlying203,rfl,kP,rfl⟩
instance:FA Tryz.prog 205 0 0:=⟨_,_,_,Tryz.underlying205,rfl,kP,rfl⟩
instance:FA Tryz.prog 205 1 1:=⟨_,_,_,Tryz.underlying205,rfl,kP,rfl⟩
instance:FA Tryz.prog 203 2 421:=⟨_,_,_,Tryz.underlying203,rfl,Du,rfl⟩
instance:FA Tryz.prog 203 5 467:=⟨_,_,_,Tryz.underlying203,rfl,Du,rfl⟩
instance:FA Tryz.prog 27 3 3:=⟨_,_,_,Tryz.underlying27,rfl,in24,rfl⟩
instance:FA Tryz.prog 27 4 4:=⟨_,_,_,Tryz.underlying27,rfl,LN,rfl⟩
instance:FA Tryz.prog 259 3 3:=⟨_,_,_,Tryz.underlying259,rfl,FZ,rfl⟩
instance:FA Tryz.prog 259 4 4:=⟨_,_,_,Tryz.underlying259,rfl,FZ,rfl⟩
instance:FA Tryz.prog 259 10 10:=⟨_,_,_,Tryz.underlying259,rfl,FZ,rfl⟩
instance:FA Tryz.prog 50 2 12:=⟨_,_,_,Tryz.underlying50,rfl,kP,rfl⟩
instance:FA Tryz.prog 60 2 2:=⟨_,_,_,Tryz.underlying60,rfl,FZ,rfl⟩
instance:FA Tryz.prog 201 0 0:=⟨_,_,_,Tryz.underlying201,rfl,LU,rfl⟩
instance:FA Tryz.prog 27 2 2:=⟨_,_,_,Tryz.underlying27,rfl,uh,rfl⟩
instance:FA Tryz.prog 318 0 0:=⟨_,_,_,Tryz.underlying318,rfl,in2,rfl⟩
instance:FA Tryz.prog 318 1 1:=⟨_,_,_,Tryz.underlying318,rfl,in2,rfl⟩
instance:FA Tryz.prog 201 2 417:=⟨_,_,_,Tryz.underlying201,rfl,HB,rfl⟩
instance:FA Tryz.prog 203 8 470:=⟨_,_,_,Tryz.underlying203,rfl,FZ,rfl⟩
instance:FA Tryz.prog 201 4 419:=⟨_,_,_,Tryz.underlying201,rfl,in24,rfl⟩
instance:FA Tryz.prog 50 1 4:=⟨_,_,_,Tryz.underlying50,rfl,Qs,rfl⟩
instance:FA Tryz.prog 203 1 420:=⟨_,_,_,Tryz.underlying203,rfl,LN,rfl⟩
instance:FA Tryz.prog 358 0 0:=⟨_,_,_,Tryz.underlying358,rfl,kP,rfl⟩
instance:FA Tryz.prog 358 1 1:=⟨_,_,_,Tryz.underlying358,rfl,kP,rfl⟩
instance:FA Tryz.prog 203 3 422:=⟨_,_,_,Tryz.underlying203,rfl,LL,rfl⟩
instance:FA Tryz.prog 360 0 0:=⟨_,_,_,Tryz.underlying360,rfl,kP,rfl⟩
instance:FA Tryz.prog 363 0 0:=⟨_,_,_,Tryz.underlying363,rfl,kP,rfl⟩
instance:FA Tryz.prog 363 1 1:=⟨_,_,_,Tryz.underlying363,rfl,LQ,rfl⟩
instance:FA Tryz.prog 280 0 0:=⟨_,_,_,Tryz.underlying280,rfl,Du,rfl⟩
theorem rv{o:Oper}{a:Act}{w:World}{v:Value}(h:(execOp a.eval o).run Tryz.prog w = .ok (.value v) w:=by first
  | exact aE G rfl rfl
  | exact aI G rfl rfl
  | exact ld1 G rfl rfl H
  | exact aVl G rfl rfl rfl
  | exact Z5 G rfl rfl rfl rfl
  | exact ZQ G rfl rfl (by first|assumption|exact rfl) rfl
  | exact hY G rfl rfl
  | exact iO G rfl rfl rfl
  | exact aZ G rfl rfl
  | exact ldn G rfl rfl H
  | exact lnD G rfl rfl sl (by assumption)
  | exact lnL G rfl rfl sl
  | exact ix G rfl rfl rfl sl (by first|assumption|exact bA (by assumption))
  | exact ixA G rfl rfl rfl (bT (by assumption))
  | exact ldi G rfl inferInstance rfl H (by assumption) (by exact rfl) (by exact inferInstance)
  | exact els G rfl inferInstance rfl sl (by first|assumption|exact(aL (by assumption)).2) (by exact rfl) (by exact inferInstance)
  | exact TX G rfl rfl sl (by first|assumption|exact(aL (by assumption)).2) (by exact rfl) (by exact inferInstance) (by first|exact Gg.h|exact rfl)
  | exact el0 G rfl rfl sl (by first|assumption|exact(aL (by assumption)).2) (by exact rfl) (by exact inferInstance) (by first|exact Gg.h|exact rfl)
  | exact cv G rfl rfl
  | exact VX G rfl rfl rfl
  | exact ctz G rfl rfl rfl rfl sl (by assumption)
  | exact jH G rfl rfl rfl):(execOp a.eval o).run Tryz.prog w = .ok (.value v) w:=h
theorem av{q k:Nat}{B A:Prop}(h:St q k B A:=by
  repeat' (first
   | (apply ZV;exact rfl;(intro a w G H;exact rv);exact rfl;exact rfl)
   | (apply ZR;exact rfl;exact rfl;exact rfl;(first|assumption|exact rfl|exact CM (by assumption)|exact Gz (by assumption));exact rfl;exact rfl)
   | (apply ZP;exact rfl;exact rfl;exact rfl;(first|assumption|exact rfl|exact CM (by assumption)|exact Gz (by assumption));(intro a w G H;exact rv);exact rfl;exact rfl)
   | (apply Y2;exact rfl;exact rfl;exact rfl;exact rfl;exact rfl)
   | apply Z_
   | apply Yp
   | apply Z8
   | apply ZS
   | apply aVp
   | apply aUx
   | apply Zj
   | apply Z9
   | apply ZO
   | apply Y4
   | apply ZT
   | (apply Y3;exact rfl)
   | apply Yn
   | apply Y1
   | apply Yo
   | (apply Zl;exact rfl;(first|assumption|exact rfl|exact Gz (by assumption)))
   | (apply Zk;exact rfl;(first|assumption|exact rfl|exact CM (by assumption)))
   | (apply Z6;exact rfl;exact rfl;exact rfl;exact rfl;exact rfl;exact rfl;intro b)
   | (apply Zi;exact rfl;exact rfl;exact inferInstance;exact rfl;exact rfl;intro b)
   | (apply aUz;exact rfl;exact rfl;exact rfl;exact rfl;exact rfl;exact inferInstance;exact inferInstance;exact inferInstance;exact inferInstance;exact rfl;exact inferInstance;exact rfl)
   | (apply aUy;exact rfl;exact rfl;exact rfl;exact rfl;exact rfl;exact inferInstance;exact inferInstance;exact inferInstance;exact inferInstance;exact rfl))
  first|exact Z7 rfl|exact ZL rfl|exact ZM rfl|exact ZN rfl|done):St q k B A:=h
theorem bv{q k:Nat}{B A:Prop}(h:St q k B A:=by
  first|with_reducible apply aVn|with_reducible apply TA|with_reducible apply aVo|with_reducible apply aVm
  exact av):St q k B A:=h
theorem go{X:Act→World→Prop}{B:Prop}{n:Nat}{dd:List Deferred}{F:List (Nat×Value)}{L:List dw}{a:Act}{w:World}(k:Nat)(K:B)(G:Fr n F a dd:=by assumption)(H:au w L:=by assumption)(h:St 0 k B (MK X n dd F L):=by exact bv):X a w:=(h.h K).h a w G H
theorem gg{X:Act→World→Prop}{B:Prop}{n:Nat}{dd:List Deferred}{F:List (Nat×Value)}{L:List dw}{a:Act}{w:World}(K:B)(G:Fr n F a dd:=by assumption)(H:au w L:=by assumption)(h:St 998 999 B (MK X n dd F L):=by exact bv):X a w:=(h.h K).h a w G H
section
variable {r:Option Nat}{P:Program}{ops:Array Oper}{Q:Exit→Act→World→Prop}{o:Oper}{n d i:Nat}{F:List (Nat×Value)}{a:Act}{dd:List Deferred}{v:Value}{B:Prop}{ks T:List Nat}{Ls:List dw}{C:World→Prop}
structure WD(r:Option Nat)(P:Program)(ops:Array Oper)(Q:Exit→Act→World→Prop)(T:List Nat)(Ls:List dw)(C:World→Prop)(n:Nat)(dd:List Deferred)(F:List (Nat×Value)):Prop where
 h:∀ a,Fr n F a dd→DW r P ops Q T (au · Ls) C a
structure SD(ks:List Nat)(B A:Prop):Prop where
 h:B→A
theorem Z1:SD [] (∀ a,Fr n F a dd→DW r P ops Q T (au · Ls) C a) (WD r P ops Q T Ls C n dd F):=⟨fun h=>⟨h⟩⟩
theorem Z4(hc:chk ops=true)(ho:ops[i]? = some o)(hg:o.guard=none)(hok:Dy ops T i=true)(hr:∀ a w,Fr n F a dd→au w Ls→(execOp a.eval o).run P w = .ok (.value v) w)(hd:o.dst=some d)(hn:Nat.blt d n=true)
  (next:SD ks B (WD r P ops Q (i::T) Ls C n dd ((d,v)::F))):SD (i::ks) B (WD r P ops Q T Ls C n dd F):=⟨fun b=>⟨fun a G=>aK G hc i ho hok hg hd hn (fun w H=>hr a w G H) (next.h b).h⟩⟩
theorem ZK{g t:Nat}{want c:Bool}(hc:chk ops=true)(ho:ops[i]? = some o)(hg:o.guard=some (g,want))(ht:(ops[g]?).bind (·.dst)=some t)(hb:Fw.look F t=some (.bool c))(hw:c=want)(hok:Dy ops T i=true)(hr:∀ a w,Fr n F a dd→au w Ls→(execOp a.eval o).run P w = .ok (.value v) w)(hd:o.dst=some d)(hn:Nat.blt d n=true)
  (next:SD ks B (WD r P ops Q (i::T) Ls C n dd ((d,v)::F))):SD (i::ks) B (WD r P ops Q T Ls C n dd F):=⟨fun b=>⟨fun a G=>cS G hc i ho hok hg ht hb hw hd hn (fun w H=>hr a w G H) (next.h b).h⟩⟩
theorem ZJ{g t:Nat}{want c:Bool}(hc:chk ops=true)(ho:ops[i]? = some o)(hg:o.guard=some (g,want))(ht:(ops[g]?).bind (·.dst)=some t)(hb:Fw.look F t=some (.bool c))(hw:c = !want)(hok:Dy ops T i=true)(hd:o.dst=some d)(hn:Nat.blt d n=true)
  (next:SD ks B (WD r P ops Q (i::T) Ls C n dd ((d,undef)::F))):SD (i::ks) B (WD r P ops Q T Ls C n dd F):=⟨fun b=>⟨fun a G=>cR G hc i ho hok hg ht hb hw hd hn (next.h b).h⟩⟩
theorem Zh{g t:Nat}{want:Bool}(hc:chk ops=true)(ho:ops[i]? = some o)(hg:o.guard=some (g,want))(ht:(ops[g]?).bind (·.dst)=some t)(hb:Fw.look F t=some undef)(hok:Dy ops T i=true)(hd:o.dst=some d)(hn:Nat.blt d n=true)
  (next:SD ks B (WD r P ops Q (i::T) Ls C n dd ((d,undef)::F))):SD (i::ks) B (WD r P ops Q T Ls C n dd F):=⟨fun b=>⟨fun a G=>dI G hc i ho hok hg ht hb hd hn (next.h b).h⟩⟩
theorem Z3{L L':List dw}{b sz m:Nat}{cs vs:List Value}{U t:TypeId}{x y:Operand}(hc:chk ops=true)(ho:ops[i]? = some o)(hg:o.guard=none)(hop:o.op = .store t x y)(hx:Fw.ev F x=some (.pointer (some ⟨b,0,none⟩)))(hy:Fw.ev F y=some v)(hv:v.cells=vs.toArray)
  (hs:Sz t sz) (g:En vs sz) (f:Ar L b cs U) (g':En cs m) (hm:m=sz) (c:Ch L b vs L') (hd:o.dst=none) (hns:mf o=true) (hl:Nat.blt i ops.size=true) (hT:jw i T=false) (hb:blk ops T [i]=true) (hy':sync ops T i=true)
  (next:SD ks B (WD r Tryz.prog ops Q (i::T) L' (au · L') n dd F)):SD (i::ks) B (WD r Tryz.prog ops Q T Ls (au · L) n dd F) :=
 ⟨fun k=>⟨fun a G=>bJ hc i hb hl hT (eS i ho hns hg hd fun w _ H=>U3 G hop hx hy hv H hm fun w' hM'=>⟨L',L',hM',hM',.inr hy',(next.h k).h a G⟩)⟩⟩
theorem Z2{L L':List dw}{b off:Nat}{cs cs':List Value}{U t:TypeId}{x y:Operand}(hc:chk ops=true)(ho:ops[i]? = some o)(hg:o.guard=none)(hop:o.op = .store t x y)(hx:Fw.ev F x=some (.pointer (some ⟨b,off,none⟩)))(hy:Fw.ev F y=some v)(h1:v.oneCell' = true)
  (hs:Sz t 1) (f:Ar L b cs U) (s:Se cs off v cs') (c:Ch L b cs' L') (hd:o.dst=none) (hns:mf o=true) (hl:Nat.blt i ops.size=true) (hT:jw i T=false) (hb:blk ops T [i]=true) (hy':sync ops T i=true)
  (next:SD ks B (WD r Tryz.prog ops Q (i::T) L' (au · L') n dd F)):SD (i::ks) B (WD r Tryz.prog ops Q T Ls (au · L) n dd F) :=
 ⟨fun k=>⟨fun a G=>bJ hc i hb hl hT (eS i ho hns hg hd fun w _ H=>st1 G hop hx hy h1 H fun w' hM'=>⟨L',L',hM',hM',.inr hy',(next.h k).h a G⟩)⟩⟩
theorem ZZ{L:List dw}{e:TypeId}{x:Operand}{zs:List Value}{C':Nat→Prop}(hc:chk ops=true)(ho:ops[i]? = some o)(hg:o.guard=none)(hop:o.op = .box e x)(hx:Fw.ev F x=some v)(vg:v.cells=zs.toArray)(hd:o.dst=some d)(hn:Nat.blt d n=true)(hns:mf o=true)(hl:Nat.blt i ops.size=true)(hT:jw i T=false)(hb:blk ops T [i]=true)
  (next:∀ b,SD ks (C' b) (WD r P ops Q (i::T) (pt b zs e::Ls) (au · (pt b zs e::L)) n dd ((d,.pointer (some ⟨b,0,none⟩))::F))):SD (i::ks) (∀ b,C' b) (WD r P ops Q T Ls (au · L) n dd F) :=
 ⟨fun k=>⟨fun a G=>bJ hc i hb hl hT (bZ G i ho hns hg hd hn fun w eX H=>gN G hx vg hop fun b w' hz hA=>⟨_,_,eX.plus hA,H.plus hA,.inl fun _ h=>h.tail,fun a' zm=>((next b).h (k b)).h a' zm⟩)⟩⟩
theorem Zg{L:List dw}{e:TypeId}{zs:List Value}{C':Nat→Prop}(hc:chk ops=true)(ho:ops[i]? = some o)(hg:o.guard=none)(hop:o.op = .alloc e)(hz:Zr P e zs)(hd:o.dst=some d)(hn:Nat.blt d n=true)(hns:mf o=true)(hl:Nat.blt i ops.size=true)(hT:jw i T=false)(hb:blk ops T [i]=true)
  (next:∀ b,SD ks (C' b) (WD r P ops Q (i::T) (pt b zs e::Ls) (au · (pt b zs e::L)) n dd ((d,.pointer (some ⟨b,0,none⟩))::F))):SD (i::ks) (∀ b,C' b) (WD r P ops Q T Ls (au · L) n dd F) :=
 ⟨fun k=>⟨fun a G=>bJ hc i hb hl hT (bZ G i ho hns hg hd hn fun w eX H=>by
  obtain⟨z,h1,h2⟩:=hz.h w
  have h3:=iy.alloc w (.cells zs.toArray e (0,0))
  unfold Yd
  simp only[execOp,hop,Instr.alloc,newVar,newRow,Sem.run_bind,h1,Result.andThen_ok,run_newObj,Sem.run_pure,h2]
  exact⟨_,_,eX.plus h3,H.plus h3,.inl fun _ h=>h.tail,fun a' zm=>((next _).h (k _)).h a' zm⟩)⟩⟩
theorem ad{A:Prop}(h:SD ks B A:=by
  repeat' (first
   | (apply Z4;assumption;exact rfl;exact rfl;kernel_rfl;(intro a w G H;exact rv);exact rfl;exact rfl)
   | (apply ZJ;assumption;exact rfl;exact rfl;exact rfl;exact rfl;(first|assumption|exact rfl|exact CM (by assumption)|exact Gz (by assumption));kernel_rfl;exact rfl;exact rfl)
   | (apply ZK;assumption;exact rfl;exact rfl;exact rfl;exact rfl;(first|assumption|exact rfl|exact CM (by assumption)|exact Gz (by assumption));kernel_rfl;(intro a w G H;exact rv);exact rfl;exact rfl)
   | (apply Zh;assumption;exact rfl;exact rfl;exact rfl;exact rfl;kernel_rfl;exact rfl;exact rfl)
   | (apply Z3;assumption;exact rfl;exact rfl;exact rfl;exact rfl;exact rfl;exact rfl;exact inferInstance;exact inferInstance;exact inferInstance;exact inferInstance;exact rfl;exact inferInstance;exact rfl;exact rfl;exact rfl;exact rfl;kernel_rfl;kernel_rfl)
   | (apply Z2;assumption;exact rfl;exact rfl;exact rfl;exact rfl;exact rfl;exact rfl;exact inferInstance;exact inferInstance;exact inferInstance;exact inferInstance;exact rfl;exact rfl;exact rfl;exact rfl;kernel_rfl;kernel_rfl)
   | (apply ZZ;assumption;exact rfl;exact rfl;exact rfl;exact rfl;exact rfl;exact rfl;exact rfl;exact rfl;exact rfl;exact rfl;kernel_rfl;intro b)
   | (apply Zg;assumption;exact rfl;exact rfl;exact rfl;exact inferInstance;exact rfl;exact rfl;exact rfl;exact rfl;exact rfl;kernel_rfl;intro b))
  first|exact Z1|done):SD ks B A:=h
theorem fc(ks:List Nat)(K:B)(G:Fr n F a dd:=by assumption)(h:SD ks B (WD r Tryz.prog ops Q T Ls C n dd F):=by exact ad):DW r Tryz.prog ops Q T (au · Ls) C a:=(h.h K).h a G
theorem dT{rr:Option Nat}{i:Nat}{l:List Oper}{w:World}{L:List dw}{Q:Exit→Act→World→Prop}(H:au w L)(is:List Nat)(k:Nat)(h:Fw.chk l.toArray=true→DW rr Tryz.prog l.toArray Q [] (au · Ls) (au · L) a)
  (s:ry L is k Ls:=by repeat (first|(apply ry.cons;exact rfl)|apply ry.nil|apply u_.succ|exact u_.zero)) (hc:Fw.chk l.toArray=true:=by kernel_rfl) (hn:(od is&&uj k is)=true:=by exact rfl):Wp rr Tryz.prog (.region i l.toArray true) Q a w:=by
 have e:=s.eq
 subst e
 exact cM mixed hc H is k hn h
theorem dx{L:List dw}(e:Nat)
  (hy:∀ w,au w Ls→au w L→Yd P o a.eval w (fun v w'=>∃ o_ L',au w' o_∧au w' L' ∧ ((∀ x,au x o_→au x Ls)∨sync ops T e=true) ∧ ∀ a',Fr n ((d,v)::F) a' dd→DW r P ops Q (e::T) (au · o_) (au · L') a'))
  (G:Fr n F a dd:=by assumption) (hc:chk ops=true:=by assumption) (ho:ops[e]? = some o:=by exact rfl) (hns:mf o=true:=by exact rfl) (hg:o.guard=none:=by exact rfl) (hd:o.dst=some d:=by exact rfl) (hn:Nat.blt d n=true:=by exact rfl) (hl:Nat.blt e ops.size=true:=by exact rfl) (hT:jw e T=false:=by exact rfl) (hb:blk ops T [e]=true:=by kernel_rfl) :
  DW r P ops Q T (au · Ls) (au · L) a:=bJ hc e hb hl hT (bZ G e ho hns hg hd hn hy)
theorem ko{L:List dw}(e:Nat)
  (hy:∀ w,au w Ls→au w L→Yd P o a.eval w (fun _ w'=>∃ o_ L',au w' o_∧au w' L' ∧ ((∀ x,au x o_→au x Ls)∨sync ops T e=true)∧DW r P ops Q (e::T) (au · o_) (au · L') a))
  (hc:chk ops=true:=by assumption) (ho:ops[e]? = some o:=by exact rfl) (hns:mf o=true:=by exact rfl) (hg:o.guard=none:=by exact rfl) (hd:o.dst=none:=by exact rfl) (hl:Nat.blt e ops.size=true:=by exact rfl) (hT:jw e T=false:=by exact rfl) (hb:blk ops T [e]=true:=by kernel_rfl) :
  DW r P ops Q T (au · Ls) (au · L) a:=bJ hc e hb hl hT (eS e ho hns hg hd hy)
theorem dr{w:World}{o_ L':List dw}{X:List dw→List dw→Prop}{e:Nat}(eX:au w o_)(H:au w L')(K:X o_ L')(h:(∀ x,au x o_→au x Ls)∨sync ops T e=true:=by first|exact .inl fun _ h=>h|exact .inl fun x h=>Tl.h x h|exact .inl fun _ h=>dZ h 1|exact .inl fun _ h=>dZ h 2|exact .inl fun _ h=>dZ h 3|exact .inr ads):∃ o_ L',au w o_∧au w L' ∧ ((∀ x,au x o_→au x Ls)∨sync ops T e=true)∧X o_ L':=⟨_,_,eX,H,h,K⟩
theorem ds{w:World}{o_ L':List dw}{X:List dw→List dw→Prop}{e:Nat}(is:List Nat)(k:Nat)(K:X o_ L')(H:au w L':=by assumption)(s:ry L' is k o_:=by repeat (first|(apply ry.cons;exact rfl)|apply ry.nil|apply u_.succ|exact u_.zero))(hn:(od is&&uj k is)=true:=by exact rfl)(h:(∀ x,au x o_→au x Ls)∨sync ops T e=true:=by first|exact .inl fun _ h=>h|exact .inl fun x h=>Tl.h x h|exact .inl fun _ h=>dZ h 1|exact .inl fun _ h=>dZ h 2|exact .inl fun _ h=>dZ h 3|exact .inr ads) :
  ∃ o_ L',au w o_∧au w L' ∧ ((∀ x,au x o_→au x Ls)∨sync ops T e=true)∧X o_ L':=⟨_,_,f_ H is k s hn,H,h,K⟩
theorem dh{w:World}{L':List dw}{X:List dw→List dw→Prop}{e:Nat}(K:X L' L')(H:au w L':=by assumption)(h:(∀ x,au x L' → au x Ls)∨sync ops T e=true:=by first|exact .inl fun _ h=>h|exact .inl fun x h=>Tl.h x h|exact .inl fun _ h=>dZ h 1|exact .inl fun _ h=>dZ h 2|exact .inl fun _ h=>dZ h 3|exact .inr ads) :
  ∃ o_ L',au w o_∧au w L' ∧ ((∀ x,au x o_→au x Ls)∨sync ops T e=true)∧X o_ L':=⟨_,_,H,H,h,K⟩
theorem cl{P:Program}{w:World}{f:FuncId}{xs:List Operand}{ts:Array TypeId}{vs:List Value}{R:Value→World→Prop}{rest:List Oper}{Q:Exit→Act→World→Prop}(hcall:∀ args w,(callFunc f args).run P w = .ok (.enter f args) w)(hc:Calls P f vs.toArray w (gf R))
  (next:∀ v w',R v w' → ∀ a',Fr n ((d,v)::F) a' dd→w9 r P ops Q rest a' w')
  (G:Fr n F a dd:=by assumption) (hg:o.guard=none:=by exact rfl) (hd:o.dst=some d:=by exact rfl) (hn:Nat.blt d n=true:=by exact rfl) (ho:o.op = .call { callee:=.value (.func f),args:=xs.toArray,argTypes:=ts }:=by exact rfl) (hx:evs F xs=some vs:=by exact rfl):w9 r P ops Q (o::rest) a w :=
 aN G hg hd hn (aS hcall G ho hx hc fun v w' h=>next v w' h)
theorem dl{P:Program}{w:World}{J:Value→World→Prop}{f:FuncId}{xs:List Operand}{ts:Array TypeId}{vs:List Value}{R:Value→World→Prop}(hcall:∀ args w,(callFunc f args).run P w = .ok (.enter f args) w)(hc:Calls P f vs.toArray w (gf R))(next:∀ v w',R v w' → J v w')(G:Fr n F a dd:=by assumption)
  (ho:o.op = .call { callee:=.value (.func f),args:=xs.toArray,argTypes:=ts }:=by exact rfl) (hx:evs F xs=some vs:=by exact rfl):Yd P o a.eval w J:=aS hcall G ho hx hc next
theorem tb{B:World→Prop}{L Lr:List dw}(h:∀ w,au w Lr→B w)[t:Tl L Lr]:∀ w,au w L→B w:=fun w H=>h w (t.h w H)
theorem de{L:List dw}{Cs:World→Prop}(h:∀ w,au w L→Q .normal a w)(hc:chk ops=true:=by assumption)(hall:vl ops T=true:=by kernel_rfl):DW r P ops Q T Cs (au · L) a:=dH hc hall h
theorem cc{γ:Type}{c:Operand}{x y:Code}{r:Option Nat}{P:Program}{Q:Exit→Act→World→Prop}{w:World}{b:Bool}{A A' R:Option γ}(I:(bif b then A else A')=R)(h1:b=true→A=R→Wp r P x Q a w)(h2:b=false→A' = R→Wp r P y Q a w)
  (G:Fr n F a dd:=by assumption) (hc:Fw.ev F c=some (.bool b):=by exact rfl):Wp r P (.cond c x y) Q a w:=bQ G hc (fun h=>h1 h (Fx.cT h I)) fun h=>h2 h (Fx.cF h I)
theorem gs{γ:Type}{b:Bool}{A A' R:Option γ}{X:Prop}(I:(bif b then A else A')=R)(h1:b=true→A=R→X)(h2:b=false→A' = R→X):X:=by
 cases b
 ·exact h2 rfl I
 ·exact h1 rfl I
theorem b2{α β γ:Type}{t:Option α}{u:α→Option β}{k:α→β→Option γ}{r:γ}(h:(t.bind fun x=>(u x).bind fun y=>k x y)=some r):∃ x,t=some x ∧ ∃ y,u x=some y∧k x y=some r:=by
 obtain⟨x,h1,h⟩:=adu h
 obtain⟨y,h2,h⟩:=adu h
 exact⟨x,h1,y,h2,h⟩
theorem jr{τ γ:Type}{v:τ}{u:τ⊕γ}{Y:τ→Prop}(I:some (inl v)=some u)(h:Y v):∃ x,u=inl x∧Y x:=⟨v,(adp I).symm,h⟩
end
section
variable {τ γ:Type}{rr:Option Nat}{P:Program}{Q:Exit→Act→World→Prop}{n:Nat}{F U:List (Nat×Value)}{a:Act}{dd:List Deferred}{w:World}{L:List dw}{c:Code}
inductive Kp(F:List (Nat×Value)):List Nat→List (Nat×Value)→Prop
 | nil:Kp F [] []
 | cons {k:Nat} {v:Value} {ks:List Nat} {U:List (Nat×Value)} (h:Fw.look F k=some v) (t:Kp F ks U):Kp F (k::ks) ((k,v)::U)
theorem jn{t:Option (τ⊕γ)}{k:τ→Option γ}{R:γ}(G:Fr n F a dd)(H:au w L)(I:seq t k=some R)(ks:List Nat)(new:τ→List (Nat×Value)→List (Nat×Value))
  (h1:∀ o,t=some o→fin k o=some R→Fr n F a dd→au w L→Wp rr P c (Exit.then (fun a w=>∃ x,o = .inl x∧Fr n (new x U) a dd∧au w L) Q) a w)
  (h2:∀ x a w,k x=some R→Fr n (new x U) a dd→au w L→Q .normal a w)
  (hG:Kp F ks U:=by repeat (first|exact Kp.nil|(apply Kp.cons;exact rfl))):Wp rr P c Q a w :=
 aM G H I (fun _ x a w=>Fr n (new x U) a dd∧au w L) h1 fun x a w h h3=>h2 x a w h h3.1 h3.2
theorem jm(L':List dw){t:Option (τ⊕γ)}{k:τ→Option γ}{R:γ}(G:Fr n F a dd)(H:au w L)(I:seq t k=some R)(ks:List Nat)(new:τ→List (Nat×Value)→List (Nat×Value))
  (h1:∀ o,t=some o→fin k o=some R→Fr n F a dd→au w L→Wp rr P c (Exit.then (fun a w=>∃ x,o = .inl x∧Fr n (new x U) a dd∧au w L') Q) a w)
  (h2:∀ x a w,k x=some R→Fr n (new x U) a dd→au w L' → Q .normal a w)
  (hG:Kp F ks U:=by repeat (first|exact Kp.nil|(apply Kp.cons;exact rfl))):Wp rr P c Q a w :=
 aM G H I (fun _ x a w=>Fr n (new x U) a dd∧au w L') h1 fun x a w h h3=>h2 x a w h h3.1 h3.2
theorem ln{body:τ→Option (τ⊕γ)}{s0:τ}{R:γ}(G:Fr n F a dd)(H:au w L)(I:loop body s0=some R)(ks:List Nat)(new:τ→List (Nat×Value)→List (Nat×Value))
  (h1:∀ s a w o',body s=some o' → (∀ g,o' = .inr g→g=R)→Fr n (new s U) a dd→au w L→Wp rr P c (Exit.then (fun a w=>∃ s',o' = .inl s' ∧ Fr n (new s' U) a dd∧au w L) Q) a w)
  (hG:Kp F ks U:=by repeat (first|exact Kp.nil|(apply Kp.cons;exact rfl))) (h0:Fr n (new s0 U) a dd:=by exact Go.Fw.Fr.t (by assumption)):Wp rr P (.loop c) Q a w :=
 aY G H I (fun _ x a w=>Fr n (new x U) a dd∧au w L) (fun _ H=>⟨h0,H⟩) fun s a w o' h h' h3=>h1 s a w o' h h' h3.1 h3.2
end
theorem rs1{t ty b off n:Nat}{cs:List Value}{T:TypeId}{u:Value}{rs:List ResultVar}{vs:List Value}{F:List (Nat×Value)}{a:Act}{dd:List Deferred}{w:World}{L:List dw}(G:Fr n F a dd)(H:au w L)(hv:Fw.look F t=some (.pointer (some ⟨b,off,none⟩)))(ht:xd ty)(i:Ar L b cs T)(j:Gg cs off u)
  (h:lj Tryz.prog w a.tmps rs vs):lj Tryz.prog w a.tmps (.cell t ty::rs) (u::vs):=gW G hv ht.h (mc H) h
theorem rsn{t ty b off n sz:Nat}{cs us:List Value}{T:TypeId}{rs:List ResultVar}{vs:List Value}{F:List (Nat×Value)}{a:Act}{dd:List Deferred}{w:World}{L:List dw}(G:Fr n F a dd)(H:au w L)(hv:Fw.look F t=some (.pointer (some ⟨b,off,none⟩)))(ht:vb ty sz)(i:Ar L b cs T)(j:Cc cs off sz us)
  (h:lj Tryz.prog w a.tmps rs vs):lj Tryz.prog w a.tmps (.cell t ty::rs) (.agg us.toArray::vs):=by
 obtain⟨k,hk⟩:=i.h
 exact cY G hv ht.h ht.s j.len (H.cells (i:=k) hk j.h) h
theorem er{fn:Func}{rs:List ResultVar}{vs:List Value}{v:Value}{n:Nat}{F:List (Nat×Value)}{a:Act}{w:World}{L:List dw}{R:Value→World→Prop}(hr:fn.results=rs.toArray)(G:Fr n F a)(H:au w L)(h:R v w)
  (hv:lj Tryz.prog w a.tmps rs vs:=by repeat (first|exact dF|(apply dS G;exact rfl)|(apply rsn G H;exact rfl;exact inferInstance;exact inferInstance;exact inferInstance)|(apply rs1 G H;exact rfl;exact inferInstance;exact inferInstance;exact inferInstance)))
  (he:(if vs.length=1 then vs.headD undef else .tuple vs.toArray)=v:=by exact rfl):bP Tryz.prog fn (gf R) .ret a w:=fF hr G hv he h
theorem ce{P:Program}{w:World}{f:FuncId}{fn:Func}{c:Code}{vs:List Value}{m:Nat}{R:Value→World→Prop}(hf:P.funcs[f]? = some fn)(hm:fn.ntmps=m)(h:∀ a,Fr m (idx 0 vs) a→Wp none P c (bP P fn (gf R)) a w)
  (hb:fn.body=some c:=by exact rfl) (hn:Nat.ble vs.length m=true:=by exact rfl):Calls P f vs.toArray w (gf R):=aV hf hb hm hn h
theorem iJ{w:World}{L:List dw}:au w L↔(∀ r∈L,r.holds w)∧L.Pairwise fun r s=>∀ k,r.fp k → ¬ s.fp k:=by
 constructor
 ·intro h
  refine⟨fun r hr=>?_,aa0.2 fun i j hi hj hij k h1 h2=>h.apart i j _ _ (aa9 hi) (aa9 hj) adr k h1 h2⟩
  obtain⟨i,hi⟩:=aa_.1 hr
  exact h.hold i r hi
 ·rintro⟨h1,h2⟩
  refine⟨fun i r hi=>h1 r (abb hi),fun i j r s hi hj hij k hr hs=>?_⟩
  obtain⟨hi',ei⟩:=aaz.1 hi
  obtain⟨hj',ej⟩:=aaz.1 hj
  rcases Nat.lt_or_gt_of_ne hij with h|h
  ·exact aa0.1 h2 i j hi' hj' h k (ei ▸ hr) (ej ▸ hs)
  ·exact aa0.1 h2 j i hj' hi' h k (ej ▸ hs) (ei ▸ hr)
theorem sb{w:World}{L T:List dw}(h:au w L)(s:vZ L T:=by repeat (first|exact vZ.refl|apply vZ.keep|apply vZ.drop)):au w T:=by
 obtain⟨h1,h2⟩:=iJ.1 h
 exact iJ.2 ⟨fun r hr=>h1 r (s.sub.subset hr),h2.sublist s.sub⟩
theorem lf{A:Prop}(h:A:=by
  repeat' (first
   | exact jr I ⟨G.t,H⟩
   | exact jr I ⟨G.t,sb H⟩
   | (have I:=adp I;subst I;refine aT rfl G rfl ?_;first|exact⟨rfl,H⟩|exact⟨rfl,sb H⟩)
   | (refine gg ?_;first|intro(a:Act) w G H|intro b a w G H|intro b b' a w G H|intro b b' b'' a w G H)
   | refine cc I (fun hb I=>?_) (fun hb I=>?_)
   | refine gs I (fun hb I=>?_) (fun hb I=>?_)
   | obtain⟨x,hx,I⟩:=adu I
   | obtain⟨hx,I⟩:=bE I)):A:=h
end Go.Proofs
end
section
namespace Go.Proofs
open Go.Fw Go.Fx
set_option maxRecDepth 10000
theorem eB{x0:List UInt8}{s:SV}{Bf:World→Prop}{Lr:List dw}{out:List UInt8}{w0:World}(I:Sh.cU x0=some out)(H:au w0 Lr)(S:∀ w,au w Lr→Bf w)(f:cn Bf s x0):Calls Tryz.prog 73 #[(s).v] w0 (gf fun v w'=>∃ (s:SV),v=(s).v∧au w' (ai 0 s 5 out::Lr)):=by
 unfold Sh.cU at I
 refine ce Tryz.func73 Tryz.ntmps73 fun a G=>?_
 refine go 9 fun a w G H=>?_
 refine aA G (lB ji G E E E) E E E fun a G=>?_
 refine aJ (aB ?_)
 refine bQ G (c:=.tmp 4) E (fun hb=>?_) (fun hb=>?_)
 ·have hn:=(f _ (S _ H)).isNil hb
  subst hn
  have ho:=(cX I).2
  subst ho
  refine go 7 fun a w G H=>?_
  refine aT Tryz.results73 G E ?_
  exact⟨SV.nil,E,H.rowNil (X:=UInt8) 0 5⟩
 refine go 4 fun a w G H=>?_
 refine aN G E E E (gY (X:=UInt8) 0 (aaF _) ji sw E fun s1 w hA=>?_)
 have H:=H.plus hA
 intro a G
 refine go 1 fun a w G H=>?_
 refine aN G E E E (cB (X:=UInt8) I ji sw E E E E G E E E (H.own (X:=UInt8) (i:=0) E) (f _ (S _ (dZ H 1))) fun s2 w hU=>?_)
 have H:=H.chg hU (i:=0) rfl
 intro a G
 refine go 4 fun a w G H=>?_
 refine aT Tryz.results73 G E ?_
 exact⟨s2,E,H⟩
theorem dV{x0:List Int}{s:SV}{Bf:World→Prop}{Lr:List dw}{out:List Int}{w0:World}(I:Sh.bH x0=some out)(H:au w0 Lr)(S:∀ w,au w Lr→Bf w)(f:cn Bf s x0):Calls Tryz.prog 134 #[(s).v] w0 (gf fun v w'=>∃ (s:SV),v=(s).v∧au w' (ai 0 s 3 out::Lr)):=by
 unfold Sh.bH at I
 refine ce Tryz.func134 Tryz.ntmps134 fun a G=>?_
 refine go 9 fun a w G H=>?_
 refine aA G (lB o9 G E E E) E E E fun a G=>?_
 refine aJ (aB ?_)
 refine bQ G (c:=.tmp 4) E (fun hb=>?_) (fun hb=>?_)
 ·have hn:=(f _ (S _ H)).isNil hb
  subst hn
  have ho:=(cX I).2
  subst ho
  refine go 7 fun a w G H=>?_
  refine aT Tryz.results134 G E ?_
  exact⟨SV.nil,E,H.rowNil (X:=Int) 0 3⟩
 refine go 4 fun a w G H=>?_
 refine aN G E E E (gY (X:=Int) 0 (aaF _) o9 kP E fun s1 w hA=>?_)
 have H:=H.plus hA
 intro a G
 refine go 1 fun a w G H=>?_
 refine aN G E E E (cB (X:=Int) I o9 kP E E E E G E E E (H.own (X:=Int) (i:=0) E) (f _ (S _ (dZ H 1))) fun s2 w hU=>?_)
 have H:=H.chg hU (i:=0) rfl
 intro a G
 refine go 4 fun a w G H=>?_
 refine aT Tryz.results134 G E ?_
 exact⟨s2,E,H⟩
theorem fX{x0:List b9}{s:SV}{Bf:World→Prop}{Lr:List dw}{out:List b9}{w0:World}(I:Sh.fR x0=some out)(H:au w0 Lr)(S:∀ w,au w Lr→Bf w)(f:cn Bf s x0):Calls Tryz.prog 140 #[(s).v] w0 (gf fun v w'=>∃ (s:SV),v=(s).v∧au w' (ai 0 s 101 out::Lr)):=by
 unfold Sh.fR at I
 refine ce Tryz.func140 Tryz.ntmps140 fun a G=>?_
 refine go 9 fun a w G H=>?_
 refine aA G (lB HK G E E E) E E E fun a G=>?_
 refine aJ (aB ?_)
 refine bQ G (c:=.tmp 4) E (fun hb=>?_) (fun hb=>?_)
 ·have hn:=(f _ (S _ H)).isNil hb
  subst hn
  have ho:=(cX I).2
  subst ho
  refine go 7 fun a w G H=>?_
  refine aT Tryz.results140 G E ?_
  exact⟨SV.nil,E,H.rowNil (X:=b9) 0 101⟩
 refine go 4 fun a w G H=>?_
 refine aN G E E E (gY (X:=b9) 0 (aaF _) HK Dp E fun s1 w hA=>?_)
 have H:=H.plus hA
 intro a G
 refine go 1 fun a w G H=>?_
 refine aN G E E E (cB (X:=b9) I HK Dp E E E E G E E E (H.own (X:=b9) (i:=0) E) (f _ (S _ (dZ H 1))) fun s2 w hU=>?_)
 have H:=H.chg hU (i:=0) rfl
 intro a G
 refine go 4 fun a w G H=>?_
 refine aT Tryz.results140 G E ?_
 exact⟨s2,E,H⟩
theorem cU{x0:List UInt8}{s:SV}{Bf:World→Prop}{Lr:List dw}{out:List UInt8}{w0:World}(I:Sh.aM x0=some out)(H:au w0 Lr)(S:∀ w,au w Lr→Bf w)(f:cn Bf s x0):Calls Tryz.prog 142 #[(s).v] w0 (gf fun v w'=>∃ (s:SV),v=(s).v∧au w' (ai 0 s 5 out::Lr)):=by
 unfold Sh.aM at I
 refine ce Tryz.func142 Tryz.ntmps142 fun a G=>?_
 refine go 9 fun a w G H=>?_
 refine aA G (lB ji G E E E) E E E fun a G=>?_
 refine aJ (aB ?_)
 refine bQ G (c:=.tmp 4) E (fun hb=>?_) (fun hb=>?_)
 ·have hn:=(f _ (S _ H)).isNil hb
  subst hn
  have ho:=(cX I).2
  subst ho
  refine go 7 fun a w G H=>?_
  refine aT Tryz.results142 G E ?_
  exact⟨SV.nil,E,H.rowNil (X:=UInt8) 0 5⟩
 refine go 4 fun a w G H=>?_
 refine aN G E E E (gY (X:=UInt8) 0 (aaF _) ji sw E fun s1 w hA=>?_)
 have H:=H.plus hA
 intro a G
 refine go 1 fun a w G H=>?_
 refine aN G E E E (cB (X:=UInt8) I ji sw E E E E G E E E (H.own (X:=UInt8) (i:=0) E) (f _ (S _ (dZ H 1))) fun s2 w hU=>?_)
 have H:=H.chg hU (i:=0) rfl
 intro a G
 refine go 4 fun a w G H=>?_
 refine aT Tryz.results142 G E ?_
 exact⟨s2,E,H⟩
theorem iZ{x0:List gG}{s:SV}{Bf:World→Prop}{Lr:List dw}{out:List gG}{w0:World}(I:Sh.eE x0=some out)(H:au w0 Lr)(S:∀ w,au w Lr→Bf w)(f:cn Bf s x0):Calls Tryz.prog 144 #[(s).v] w0 (gf fun v w'=>∃ (s:SV),v=(s).v∧au w' (ai 0 s 205 out::Lr)):=by
 unfold Sh.eE at I
 refine ce Tryz.func144 Tryz.ntmps144 fun a G=>?_
 refine go 9 fun a w G H=>?_
 refine aA G (lB HJ G E E E) E E E fun a G=>?_
 refine aJ (aB ?_)
 refine bQ G (c:=.tmp 4) E (fun hb=>?_) (fun hb=>?_)
 ·have hn:=(f _ (S _ H)).isNil hb
  subst hn
  have ho:=(cX I).2
  subst ho
  refine go 7 fun a w G H=>?_
  refine aT Tryz.results144 G E ?_
  exact⟨SV.nil,E,H.rowNil (X:=gG) 0 205⟩
 refine go 4 fun a w G H=>?_
 refine aN G E E E (gY (X:=gG) 0 (aaF _) HJ Dq E fun s1 w hA=>?_)
 have H:=H.plus hA
 intro a G
 refine go 1 fun a w G H=>?_
 refine aN G E E E (cB (X:=gG) I HJ Dq E E E E G E E E (H.own (X:=gG) (i:=0) E) (f _ (S _ (dZ H 1))) fun s2 w hU=>?_)
 have H:=H.chg hU (i:=0) rfl
 intro a G
 refine go 4 fun a w G H=>?_
 refine aT Tryz.results144 G E ?_
 exact⟨s2,E,H⟩
theorem lK{x0:List (List UInt8)}{hs:List SV}{s:SV}{Bf:World→Prop}{Lr:List dw}{out:List (List UInt8)}{w0:World}(I:Sh.fH x0=some out)(H:au w0 Lr)(S:∀ w,au w Lr→Bf w)(f:cn Bf s hs)(q:bw (cn (X:=UInt8) Bf) hs x0):Calls Tryz.prog 148 #[(s).v] w0 (gf fun v w'=>∃ (s:SV) (hs:List SV),v=(s).v∧bw (cn (X:=UInt8) Bf) hs out∧au w' (ai 0 s 23 hs::Lr)):=by
 unfold Sh.fH at I
 refine ce Tryz.func148 Tryz.ntmps148 fun a G=>?_
 refine go 9 fun a w G H=>?_
 refine aA G (lB AZ G E E E) E E E fun a G=>?_
 refine aJ (aB ?_)
 refine bQ G (c:=.tmp 4) E (fun hb=>?_) (fun hb=>?_)
 ·have hn:=(f _ (S _ H)).isNil hb
  have hx:x0 = []:=abd (by rw[←q.len,hn];rfl)
  subst hx
  have ho:=(cX I).2
  subst ho
  refine go 7 fun a w G H=>?_
  refine aT Tryz.results148 G E ?_
  exact⟨SV.nil,[],E,bw.nil,H.rowNil (X:=SV) 0 23⟩
 refine go 4 fun a w G H=>?_
 refine aN G E E E (gY (X:=SV) 0 (aaF _) AZ uh E fun s1 w hA=>?_)
 have H:=H.plus hA
 intro a G
 refine go 1 fun a w G H=>?_
 refine aN G E E E (fS (X:=SV) (xs:=[]) (ys:=[]) I E q.len AZ uh E E E E G E E E (H.own (X:=SV) (i:=0) E) (f _ (S _ (dZ H 1))) fun s2 w hU=>?_)
 have H:=H.chg hU (i:=0) rfl
 intro a G
 refine go 4 fun a w G H=>?_
 refine aT Tryz.results148 G E ?_
 have ho:=(cX I).2
 subst ho
 exact⟨s2,hs,E,q,H⟩
theorem jN{x0:List dU}{s:SV}{Bf:World→Prop}{Lr:List dw}{out:List dU}{w0:World}(I:Sh.cW x0=some out)(H:au w0 Lr)(S:∀ w,au w Lr→Bf w)(f:cn Bf s x0):Calls Tryz.prog 195 #[(s).v] w0 (gf fun v w'=>∃ (s:SV),v=(s).v∧au w' (ai 0 s 128 out::Lr)):=by
 unfold Sh.cW at I
 refine ce Tryz.func195 Tryz.ntmps195 fun a G=>?_
 refine go 9 fun a w G H=>?_
 refine aA G (lB DZ G E E E) E E E fun a G=>?_
 refine aJ (aB ?_)
 refine bQ G (c:=.tmp 4) E (fun hb=>?_) (fun hb=>?_)
 ·have hn:=(f _ (S _ H)).isNil hb
  subst hn
  have ho:=(cX I).2
  subst ho
  refine go 7 fun a w G H=>?_
  refine aT Tryz.results195 G E ?_
  exact⟨SV.nil,E,H.rowNil (X:=dU) 0 128⟩
 refine go 4 fun a w G H=>?_
 refine aN G E E E (gY (X:=dU) 0 (aaF _) DZ zp E fun s1 w hA=>?_)
 have H:=H.plus hA
 intro a G
 refine go 1 fun a w G H=>?_
 refine aN G E E E (cB (X:=dU) I DZ zp E E E E G E E E (H.own (X:=dU) (i:=0) E) (f _ (S _ (dZ H 1))) fun s2 w hU=>?_)
 have H:=H.chg hU (i:=0) rfl
 intro a G
 refine go 4 fun a w G H=>?_
 refine aT Tryz.results195 G E ?_
 exact⟨s2,E,H⟩
theorem jM{x0:List eo}{s:SV}{Bf:World→Prop}{Lr:List dw}{out:List eo}{w0:World}(I:Sh.cV x0=some out)(H:au w0 Lr)(S:∀ w,au w Lr→Bf w)(f:cn Bf s x0):Calls Tryz.prog 196 #[(s).v] w0 (gf fun v w'=>∃ (s:SV),v=(s).v∧au w' (ai 0 s 151 out::Lr)):=by
 unfold Sh.cV at I
 refine ce Tryz.func196 Tryz.ntmps196 fun a G=>?_
 refine go 9 fun a w G H=>?_
 refine aA G (lB D1 G E E E) E E E fun a G=>?_
 refine aJ (aB ?_)
 refine bQ G (c:=.tmp 4) E (fun hb=>?_) (fun hb=>?_)
 ·have hn:=(f _ (S _ H)).isNil hb
  subst hn
  have ho:=(cX I).2
  subst ho
  refine go 7 fun a w G H=>?_
  refine aT Tryz.results196 G E ?_
  exact⟨SV.nil,E,H.rowNil (X:=eo) 0 151⟩
 refine go 4 fun a w G H=>?_
 refine aN G E E E (gY (X:=eo) 0 (aaF _) D1 zq E fun s1 w hA=>?_)
 have H:=H.plus hA
 intro a G
 refine go 1 fun a w G H=>?_
 refine aN G E E E (cB (X:=eo) I D1 zq E E E E G E E E (H.own (X:=eo) (i:=0) E) (f _ (S _ (dZ H 1))) fun s2 w hU=>?_)
 have H:=H.chg hU (i:=0) rfl
 intro a G
 refine go 4 fun a w G H=>?_
 refine aT Tryz.results196 G E ?_
 exact⟨s2,E,H⟩
theorem iY{x0:List cu}{hs:List bq}{s:SV}{Bf:World→Prop}{Lr:List dw}{out:List cu}{w0:World}(I:Sh.cM x0=some out)(H:au w0 Lr)(S:∀ w,au w Lr→Bf w)(f:cn Bf s hs)(q:bw (eO Bf) hs x0):Calls Tryz.prog 197 #[(s).v] w0 (gf fun v w'=>∃ (s:SV) (hs:List bq),v=(s).v∧bw (eO Bf) hs out∧au w' (ai 0 s 156 hs::Lr)):=by
 unfold Sh.cM at I
 refine ce Tryz.func197 Tryz.ntmps197 fun a G=>?_
 refine go 9 fun a w G H=>?_
 refine aA G (lB wR G E E E) E E E fun a G=>?_
 refine aJ (aB ?_)
 refine bQ G (c:=.tmp 4) E (fun hb=>?_) (fun hb=>?_)
 ·have hn:=(f _ (S _ H)).isNil hb
  have hx:x0 = []:=abd (by rw[←q.len,hn];rfl)
  subst hx
  have ho:=(cX I).2
  subst ho
  refine go 7 fun a w G H=>?_
  refine aT Tryz.results197 G E ?_
  exact⟨SV.nil,[],E,bw.nil,H.rowNil (X:=bq) 0 156⟩
 refine go 4 fun a w G H=>?_
 refine aN G E E E (gY (X:=bq) 0 (aaF _) wR qO E fun s1 w hA=>?_)
 have H:=H.plus hA
 intro a G
 refine go 1 fun a w G H=>?_
 refine aN G E E E (fS (X:=bq) (xs:=[]) (ys:=[]) I E q.len wR qO E E E E G E E E (H.own (X:=bq) (i:=0) E) (f _ (S _ (dZ H 1))) fun s2 w hU=>?_)
 have H:=H.chg hU (i:=0) rfl
 intro a G
 refine go 4 fun a w G H=>?_
 refine aT Tryz.results197 G E ?_
 have ho:=(cX I).2
 subst ho
 exact⟨s2,hs,E,q,H⟩
end Go.Proofs
end
section
namespace Go.Proofs
open Go.Fw Go.Fx
set_option maxRecDepth 10000
theorem cW{x0 x1 x2:Int}{out:Bool}{w0:World}{Lr:List dw}(I:Sh.bK x0 x1 x2=some out)(H:au w0 (Lr)):Calls Tryz.prog 124 #[.int .i64 x0,.int .i64 x1,.int .i64 x2] w0 (gf fun v w'=>v = .bool out∧au w' (Lr)):=by
 unfold Sh.bK at I
 refine ce Tryz.func124 Tryz.ntmps124 fun a G=>?_
 refine go 6 fun a w G H=>?_
 refine jn G H I [] (fun v7 u=>(6,.bool v7)::u) (fun c1 I c0 G H=>?_) fun v7 a w I G H=>?_
 ·exact lf
 replace I:Sh.vT v7=_:=I
 unfold Sh.vT at I
 exact lf
theorem jY{x0 x1:List UInt8}{s1 s3:SV}{out:List Int}{w0:World}{Bf:World→Prop}{Lr:List dw}(I:Sh.cN x0 x1=some out)(H:au w0 (Lr))(S:∀ w,au w Lr→Bf w)(f2:cn Bf s1 x0)(f4:cn Bf s3 x1):Calls Tryz.prog 158 #[(s1).v,(s3).v] w0 (gf fun v w'=>∃ (c7:SV),v=(c7).v∧au w' (ai 0 c7 3 out::Lr)):=by
 unfold Sh.cN at I
 refine ce Tryz.func158 Tryz.ntmps158 fun a G=>?_
 refine go 11 fun a w G H=>?_
 refine aM G H I (fun F x a w=>match x with|c8=>∃ (c2:SV),Fr 27 [(5,(c2).v),(4,(SV.nil).v)] a∧au w (ai 0 c2 3 c8::Lr)) (fun g3 I g1 G H=>?_) ?_
 ·refine go 8 fun a w G H=>?_
  have H:=H.rowNil (X:=Int) 0 3
  refine aY G H I (fun F x a w=>match x with|(c4,c1)=>∃ (c0:SV),Fr 27 [(5,(c0).v),(9,.int .i64 c1),(0,(s1).v),(1,(s3).v),(4,(SV.nil).v),(8,.int .i64 (x0.length:Int))] a∧au w (ai 0 c0 3 c4::Lr)) (fun G H=>⟨SV.nil,G.to ⟨E,E,E,E,E,E,trivial⟩,H⟩) ?_
  rintro⟨c4,c1⟩ a w g5 I d0 ⟨c0,G,H⟩
  replace I:Sh.aU x0 x1 c4 c1=_:=I
  unfold Sh.aU at I
  refine go 6 fun a w G H=>?_
  refine cc I (fun d1 I=>?_) fun d1 I=>?_
  ·refine go 3 fun a w G H=>?_
   refine aM G H I (fun F x a w=>match x with|c9=>∃ (c3:SV),Fr 27 [(5,(c3).v),(0,(s1).v),(1,(s3).v),(4,(SV.nil).v),(8,.int .i64 (x0.length:Int)),(9,.int .i64 c1)] a∧au w (ai 0 c3 3 c9::Lr)) (fun g4 I g2 G H=>?_) ?_
   ·refine go 8 fun a w G H=>?_
    refine dT H [0] 1 fun K=>?_
    obtain⟨g6,d3,I⟩:=adu I
    have d9:=aL d3
    obtain⟨g7,d4,I⟩:=adu I
    have g0:=aL d4
    refine fc [0,1,2,3,4,5,6,7,8] fun a G=>?_
    refine de fun w H=>?_
    refine aB ?_
    refine cc I (fun d2 I=>?_) fun d2 I=>?_
    ·refine go 3 fun a w G H=>?_
     refine aN G E E E (bL (X:=Int) (y:=c1) o9 kP E E E E G E E E fun d6 w d7 c5=>?_)
     have H:=H.plus c5
     try dsimp only[List.set]at H
     intro a G
     obtain⟨g8,d5,I⟩:=adu I
     refine aN G E E E (cB (X:=Int) d5 o9 kP E E E E G E E E (H.own (X:=Int) (i:=1) E) (H.ptS (X:=Int) (i:=0) (n:=1) (c:=1) E E E (aah _)) fun d8 w c6=>?_)
     have H:=H.chg c6 (i:=1) rfl
     try dsimp only[List.set]at H
     intro a G
     refine go 4 fun a w G H=>?_
     exact jr I ⟨d8,G.t,bU H [1] 2 E⟩
    refine go 3 fun a w G H=>?_
    exact jr I ⟨c0,G.t,H⟩
   rintro c9 a w I ⟨c3,G,H⟩
   unfold Sh.cT at I
   refine go 6 fun a w G H=>?_
   exact jr I ⟨c3,G.t,H⟩
  refine go 5 fun a w G H=>?_
  obtain rfl:=oI I
  have I:=d0 _ rfl
  subst I
  exact⟨c4,E,c0,G.to ⟨E,E,trivial⟩,H⟩
 rintro c8 a w I ⟨c2,G,H⟩
 unfold Sh.zZ at I
 refine go 8 fun a w G H=>?_
 obtain rfl:=oI I
 refine aT Tryz.results158 G E ?_
 exact⟨c2,E,H⟩
theorem mT{x0 x1:List ak}{s1 s3:SV}{out:List Int}{w0:World}{Bf:World→Prop}{Lr:List dw}(I:Sh.gQ x0 x1=some out)(H:au w0 (Lr))(S:∀ w,au w Lr→Bf w)(f2:cn Bf s1 x0)(f4:cn Bf s3 x1):Calls Tryz.prog 84 #[(s1).v,(s3).v] w0 (gf fun v w'=>∃ (c7:SV),v=(c7).v∧au w' (ai 0 c7 3 out::Lr)):=by
 unfold Sh.gQ at I
 refine ce Tryz.func84 Tryz.ntmps84 fun a G=>?_
 refine go 11 fun a w G H=>?_
 refine aM G H I (fun F x a w=>match x with|c8=>∃ (c2:SV),Fr 27 [(5,(c2).v),(4,(SV.nil).v)] a∧au w (ai 0 c2 3 c8::Lr)) (fun g3 I g1 G H=>?_) ?_
 ·refine go 8 fun a w G H=>?_
  have H:=H.rowNil (X:=Int) 0 3
  refine aY G H I (fun F x a w=>match x with|(c4,c1)=>∃ (c0:SV),Fr 27 [(5,(c0).v),(9,.int .i64 c1),(0,(s1).v),(1,(s3).v),(4,(SV.nil).v),(8,.int .i64 (x0.length:Int))] a∧au w (ai 0 c0 3 c4::Lr)) (fun G H=>⟨SV.nil,G.to ⟨E,E,E,E,E,E,trivial⟩,H⟩) ?_
  rintro⟨c4,c1⟩ a w g5 I d0 ⟨c0,G,H⟩
  replace I:Sh.cX x0 x1 c4 c1=_:=I
  unfold Sh.cX at I
  refine go 6 fun a w G H=>?_
  refine cc I (fun d1 I=>?_) fun d1 I=>?_
  ·refine go 3 fun a w G H=>?_
   refine aM G H I (fun F x a w=>match x with|c9=>∃ (c3:SV),Fr 27 [(5,(c3).v),(0,(s1).v),(1,(s3).v),(4,(SV.nil).v),(8,.int .i64 (x0.length:Int)),(9,.int .i64 c1)] a∧au w (ai 0 c3 3 c9::Lr)) (fun g4 I g2 G H=>?_) ?_
   ·refine go 8 fun a w G H=>?_
    refine dT H [0] 1 fun K=>?_
    obtain⟨g6,d3,I⟩:=adu I
    have d9:=aL d3
    obtain⟨g7,d4,I⟩:=adu I
    have g0:=aL d4
    refine fc [0,1,2,3,4,5,6,7] fun a G=>?_
    refine aK G K 8 E ads E E E (fun w H=>(lZ HG (iC _ _ _ _ (by decide)) G E E E)) fun a G=>?_
    refine de fun w H=>?_
    refine aB ?_
    refine cc I (fun d2 I=>?_) fun d2 I=>?_
    ·refine go 3 fun a w G H=>?_
     refine aN G E E E (bL (X:=Int) (y:=c1) o9 kP E E E E G E E E fun d6 w d7 c5=>?_)
     have H:=H.plus c5
     try dsimp only[List.set]at H
     intro a G
     obtain⟨g8,d5,I⟩:=adu I
     refine aN G E E E (cB (X:=Int) d5 o9 kP E E E E G E E E (H.own (X:=Int) (i:=1) E) (H.ptS (X:=Int) (i:=0) (n:=1) (c:=1) E E E (aah _)) fun d8 w c6=>?_)
     have H:=H.chg c6 (i:=1) rfl
     try dsimp only[List.set]at H
     intro a G
     refine go 4 fun a w G H=>?_
     exact jr I ⟨d8,G.t,bU H [1] 2 E⟩
    refine go 3 fun a w G H=>?_
    exact jr I ⟨c0,G.t,H⟩
   rintro c9 a w I ⟨c3,G,H⟩
   unfold Sh.hJ at I
   refine go 6 fun a w G H=>?_
   exact jr I ⟨c3,G.t,H⟩
  refine go 5 fun a w G H=>?_
  obtain rfl:=oI I
  have I:=d0 _ rfl
  subst I
  exact⟨c4,E,c0,G.to ⟨E,E,trivial⟩,H⟩
 rintro c8 a w I ⟨c2,G,H⟩
 unfold Sh.uA at I
 refine go 8 fun a w G H=>?_
 obtain rfl:=oI I
 refine aT Tryz.results84 G E ?_
 exact⟨c2,E,H⟩
theorem mX{x0 x1:List bn}{s1 s3:SV}{out:List Int}{w0:World}{Bf:World→Prop}{Lr:List dw}(I:Sh.hH x0 x1=some out)(H:au w0 (Lr))(S:∀ w,au w Lr→Bf w)(f2:cn Bf s1 x0)(f4:cn Bf s3 x1):Calls Tryz.prog 85 #[(s1).v,(s3).v] w0 (gf fun v w'=>∃ (c7:SV),v=(c7).v∧au w' (ai 0 c7 3 out::Lr)):=by
 unfold Sh.hH at I
 refine ce Tryz.func85 Tryz.ntmps85 fun a G=>?_
 refine go 11 fun a w G H=>?_
 refine aM G H I (fun F x a w=>match x with|c8=>∃ (c2:SV),Fr 27 [(5,(c2).v),(4,(SV.nil).v)] a∧au w (ai 0 c2 3 c8::Lr)) (fun g3 I g1 G H=>?_) ?_
 ·refine go 8 fun a w G H=>?_
  have H:=H.rowNil (X:=Int) 0 3
  refine aY G H I (fun F x a w=>match x with|(c4,c1)=>∃ (c0:SV),Fr 27 [(5,(c0).v),(9,.int .i64 c1),(0,(s1).v),(1,(s3).v),(4,(SV.nil).v),(8,.int .i64 (x0.length:Int))] a∧au w (ai 0 c0 3 c4::Lr)) (fun G H=>⟨SV.nil,G.to ⟨E,E,E,E,E,E,trivial⟩,H⟩) ?_
  rintro⟨c4,c1⟩ a w g5 I d0 ⟨c0,G,H⟩
  replace I:Sh.dO x0 x1 c4 c1=_:=I
  unfold Sh.dO at I
  refine go 6 fun a w G H=>?_
  refine cc I (fun d1 I=>?_) fun d1 I=>?_
  ·refine go 3 fun a w G H=>?_
   refine aM G H I (fun F x a w=>match x with|c9=>∃ (c3:SV),Fr 27 [(5,(c3).v),(0,(s1).v),(1,(s3).v),(4,(SV.nil).v),(8,.int .i64 (x0.length:Int)),(9,.int .i64 c1)] a∧au w (ai 0 c3 3 c9::Lr)) (fun g4 I g2 G H=>?_) ?_
   ·refine go 8 fun a w G H=>?_
    refine dT H [0] 1 fun K=>?_
    obtain⟨g6,d3,I⟩:=adu I
    have d9:=aL d3
    obtain⟨g7,d4,I⟩:=adu I
    have g0:=aL d4
    refine fc [0,1,2,3,4,5,6,7] fun a G=>?_
    refine aK G K 8 E ads E E E (fun w H=>(lZ HI (jC _ _ _ _ (by decide)) G E E E)) fun a G=>?_
    refine de fun w H=>?_
    refine aB ?_
    refine cc I (fun d2 I=>?_) fun d2 I=>?_
    ·refine go 3 fun a w G H=>?_
     refine aN G E E E (bL (X:=Int) (y:=c1) o9 kP E E E E G E E E fun d6 w d7 c5=>?_)
     have H:=H.plus c5
     try dsimp only[List.set]at H
     intro a G
     obtain⟨g8,d5,I⟩:=adu I
     refine aN G E E E (cB (X:=Int) d5 o9 kP E E E E G E E E (H.own (X:=Int) (i:=1) E) (H.ptS (X:=Int) (i:=0) (n:=1) (c:=1) E E E (aah _)) fun d8 w c6=>?_)
     have H:=H.chg c6 (i:=1) rfl
     try dsimp only[List.set]at H
     intro a G
     refine go 4 fun a w G H=>?_
     exact jr I ⟨d8,G.t,bU H [1] 2 E⟩
    refine go 3 fun a w G H=>?_
    exact jr I ⟨c0,G.t,H⟩
   rintro c9 a w I ⟨c3,G,H⟩
   unfold Sh.iG at I
   refine go 6 fun a w G H=>?_
   exact jr I ⟨c3,G.t,H⟩
  refine go 5 fun a w G H=>?_
  obtain rfl:=oI I
  have I:=d0 _ rfl
  subst I
  exact⟨c4,E,c0,G.to ⟨E,E,trivial⟩,H⟩
 rintro c8 a w I ⟨c2,G,H⟩
 unfold Sh.vP at I
 refine go 8 fun a w G H=>?_
 obtain rfl:=oI I
 refine aT Tryz.results85 G E ?_
 exact⟨c2,E,H⟩
theorem qD{x0:List cu}{s1:SV}{EA:List bq}{out:Bool}{w0:World}{Bf:World→Prop}{Lr:List dw}(I:Sh.eB x0=some out)(H:au w0 (Lr))(S:∀ w,au w Lr→Bf w)(f3:cn Bf s1 EA)(q4:bw (eO Bf) EA x0):Calls Tryz.prog 227 #[(s1).v] w0 (gf fun v w'=>v = .bool out∧au w' (Lr)):=by
 unfold Sh.eB at I
 refine ce Tryz.func227 Tryz.ntmps227 fun a G=>?_
 refine go 12 fun a w G H=>?_
 refine jn G H I [2] (fun _ u=>u) (fun i6 I d2 G H=>?_) fun _ a w I G H=>?_
 ·refine go 8 fun a w G H=>?_
  refine aY G H I (fun F x a w=>match x with|(c0,c5,c6)=>Fr 68 [(10,.int .i64 c0),(3,.int .i64 c5),(4,.int .i64 c6),(2,.bool false),(8,(s1).v),(9,.int .i64 (x0.length:Int))] a∧au w (Lr)) (fun G H=>⟨G.to ⟨E,E,E,E,E,E,trivial⟩,H⟩) ?_
  rintro⟨c0,c5,c6⟩ a w i9 I c4 ⟨G,H⟩
  replace I:Sh.aK x0 c0 c5 c6=_:=I
  unfold Sh.aK at I
  refine go 6 fun a w G H=>?_
  refine cc I (fun d7 I=>?_) fun d7 I=>?_
  ·refine go 6 fun a w G H=>?_
   obtain⟨c1,d1,I⟩:=adu I
   have d5:=aL d1
   obtain⟨i0,g9,d6⟩:=bw.getr q4 d5.2
   have g8:=bw.bd q4 (bA d1)
   obtain⟨d3,d4,rfl,g5,g6⟩:=d6
   refine go 7 fun c2 a w G H=>?_
   refine aM G H I (fun F x a w=>match x with|(c3,c7)=>Fr 68 [(3,.int .i64 c3),(4,.int .i64 c7),(10,.int .i64 c0),(2,.bool false),(6,.pointer (some ⟨c2,0,none⟩)),(8,(s1).v),(9,.int .i64 (x0.length:Int))] a∧au w (pt c2 (bq.enc (Jc c1 d3 d4)) 156::Lr)) (fun i7 I g7 G H=>?_) ?_
   ·refine go 6 fun a w G H=>?_
    obtain⟨i3,g2,I⟩:=adu I
    refine cl qp (cW g2 H ) ?_
    rintro v w ⟨rfl,H⟩ a G
    refine go 4 fun a w G H=>?_
    refine cc I (fun d8 I=>?_) fun d8 I=>?_
    ·refine go 6 fun a w G H=>?_
     obtain rfl:=oI I
     have I:=bB g7
     subst I
     have I:=c4 _ rfl
     subst I
     have I:=bB d2
     subst I
     refine aT Tryz.results227 G E ?_
     exact⟨E,bU H [] 1 E⟩
    exact lf
   rintro⟨c3,c7⟩ a w I ⟨G,H⟩
   replace I:Sh.cI c0 c1 c3 c7=_:=I
   unfold Sh.cI at I
   refine go 11 fun a w G H=>?_
   refine jm (pt c2 (bq.enc (Jc c1 d3 d4)) 156::Lr) G H I [10,2,3,4,6,7,8,9] (fun c8 u=>(61,.bool c8)::u) (fun i8 I i1 G H=>?_) fun c8 a w I G H=>?_
   ·refine go 4 fun a w G H=>?_
    refine gs I (fun d9 I=>?_) fun d9 I=>?_
    ·exact lf
    refine go 7 fun a w G H=>?_
    refine gs I (fun g0 I=>?_) fun g0 I=>?_
    ·exact lf
    refine go 4 fun a w G H=>?_
    refine gs I (fun c9 I=>?_) fun c9 I=>?_
    ·exact lf
    refine go 5 fun a w G H=>?_
    obtain⟨i4,g3,I⟩:=adu I
    refine dA G E E E c9 E E (aS (xs:=[.tmp 45,.tmp 46,.tmp 48]) qp G E E (cW g3 H ) fun v w hR=>?_)
    obtain⟨rfl,H⟩:=hR
    intro a G
    refine go 3 fun a w G H=>?_
    refine gs I (fun d0 I=>?_) fun d0 I=>?_
    ·exact lf
    refine go 4 fun a w G H=>?_
    obtain⟨i5,g4,I⟩:=adu I
    refine dA G E E E d0 E E (aS (xs:=[.tmp 54,.tmp 56]) Tryz.call158 G E E (jY g4 H (Bf:=Bf) (fun w H=>S _ (dZ H 1)) g5 g6) fun v w hR=>?_)
    obtain⟨i2,rfl,H⟩:=hR
    intro a G
    exact lf
   replace I:Sh.aX c0 c1 c3 c8=_:=I
   unfold Sh.aX at I
   refine aB ?_
   refine cc I (fun g1 I=>?_) fun g1 I=>?_
   ·refine go 6 fun a w G H=>?_
    obtain rfl:=oI I
    have I:=c4 _ rfl
    subst I
    have I:=bB d2
    subst I
    refine aT Tryz.results227 G E ?_
    exact⟨E,bU H [] 1 E⟩
   exact lf
  refine go 5 fun a w G H=>?_
  obtain rfl:=oI I
  have I:=c4 _ rfl
  subst I
  exact⟨(),E,G.to ⟨E,trivial⟩,H⟩
 replace I:Sh.nJ=_:=I
 unfold Sh.nJ at I
 exact lf
theorem lJ{x0:dD}{s1 s3 s5:SV}{FW:List bq}{s9:SV}{out:Bool}{w0:World}{Bf:World→Prop}{Lr:List dw}(I:Sh.cP x0=some out)(H:au w0 (Lr))(S:∀ w,au w Lr→Bf w)(f2:cn Bf s1 x0.bk)(f4:cn Bf s3 x0.slots)(f7:cn Bf s5 FW)(q8:bw (eO Bf) FW x0.dE)(f10:cn Bf s9 x0.bf):Calls Tryz.prog 173 #[.agg (bS.enc (qk x0 s1 s3 s5 s9)).toArray] w0 (gf fun v w'=>v = .bool out∧au w' (Lr)):=by
 unfold Sh.cP at I
 refine ce Tryz.func173 Tryz.ntmps173 fun a G=>?_
 refine go 8 fun c0 a w G H=>?_
 refine jn G H I [1,2] (fun c3 u=>(23,.bool c3)::u) (fun i9 I i1 G H=>?_) fun c3 a w I G H=>?_
 ·refine go 3 fun a w G H=>?_
  obtain⟨i4,d8,I⟩:=adu I
  refine cl qp (cW d8 H ) ?_
  rintro v w ⟨rfl,H⟩ a G
  refine go 2 fun a w G H=>?_
  refine gs I (fun c8 I=>?_) fun c8 I=>?_
  ·exact lf
  refine go 2 fun a w G H=>?_
  obtain⟨i5,d9,I⟩:=adu I
  refine dA G E E E c8 E E (aS (xs:=[.tmp 14,.const (.int .i64 (0)),.const (.int .i64 (4095))]) qp G E E (cW d9 H ) fun v w hR=>?_)
  obtain⟨rfl,H⟩:=hR
  intro a G
  exact lf
 replace I:Sh.cY x0 c3=_:=I
 unfold Sh.cY at I
 refine aB ?_
 refine cc I (fun d3 I=>?_) fun d3 I=>?_
 ·exact lf
 refine go 8 fun a w G H=>?_
 refine jn G H I [1,2] (fun _ u=>u) (fun j0 I g3 G H=>?_) fun _ a w I G H=>?_
 ·refine go 9 fun a w G H=>?_
  refine aY G H I (fun F x a w=>match x with|(c1,c4)=>Fr 73 [(27,.int .i64 c1),(3,.int .i64 c4),(1,.pointer (some ⟨c0,0,none⟩)),(2,.bool false),(25,(s1).v),(26,.int .i64 (x0.bk.length:Int))] a∧au w (pt c0 (bS.enc (qk x0 s1 s3 s5 s9)) 60::Lr)) (fun G H=>⟨G.to ⟨E,E,E,E,E,E,trivial⟩,H⟩) ?_
  rintro⟨c1,c4⟩ a w j4 I d1 ⟨G,H⟩
  replace I:Sh.bM x0 c1 c4=_:=I
  unfold Sh.bM at I
  refine go 6 fun a w G H=>?_
  refine cc I (fun d4 I=>?_) fun d4 I=>?_
  ·obtain⟨g5,g9,I⟩:=adu I
   refine go 14 fun g7 a w G H=>?_
   refine jn G H I [1,2,25,26,27,3,5] (fun c5 u=>(43,.bool c5)::u) (fun j1 I i2 G H=>?_) fun c5 a w I G H=>?_
   ·refine go 5 fun a w G H=>?_
    obtain⟨i6,g0,I⟩:=adu I
    refine cl qp (cW g0 H ) ?_
    rintro v w ⟨rfl,H⟩ a G
    refine go 2 fun a w G H=>?_
    refine gs I (fun c9 I=>?_) fun c9 I=>?_
    ·exact lf
    refine go 4 fun a w G H=>?_
    refine aP G E E E c9 (kD HG (iC _ _ _ _ (by decide)) G E E E) E E fun a G=>?_
    exact lf
   replace I:Sh.rV c1 g5 c5=_:=I
   unfold Sh.rV at I
   refine aB ?_
   refine cc I (fun d5 I=>?_) fun d5 I=>?_
   ·refine go 6 fun a w G H=>?_
    obtain rfl:=oI I
    have I:=d1 _ rfl
    subst I
    have I:=bB g3
    subst I
    refine aT Tryz.results173 G E ?_
    exact⟨E,bU H [] 2 E⟩
   exact lf
  refine go 5 fun a w G H=>?_
  obtain rfl:=oI I
  have I:=d1 _ rfl
  subst I
  exact⟨(),E,G.to ⟨E,E,trivial⟩,H⟩
 replace I:Sh.cZ x0=_:=I
 unfold Sh.cZ at I
 refine go 7 fun a w G H=>?_
 refine jn G H I [1,2] (fun _ u=>u) (fun j2 I g4 G H=>?_) fun _ a w I G H=>?_
 ·refine go 9 fun a w G H=>?_
  refine aY G H I (fun F x a w=>match x with|(c6,c2)=>Fr 73 [(3,.int .i64 c6),(50,.int .i64 c2),(1,.pointer (some ⟨c0,0,none⟩)),(2,.bool false),(48,(s3).v),(49,.int .i64 (x0.slots.length:Int))] a∧au w (pt c0 (bS.enc (qk x0 s1 s3 s5 s9)) 60::Lr)) (fun G H=>⟨G.to ⟨E,E,E,E,E,E,trivial⟩,H⟩) ?_
  rintro⟨c6,c2⟩ a w j5 I d2 ⟨G,H⟩
  replace I:Sh.bN x0 c6 c2=_:=I
  unfold Sh.bN at I
  refine go 6 fun a w G H=>?_
  refine cc I (fun d6 I=>?_) fun d6 I=>?_
  ·obtain⟨g6,i0,I⟩:=adu I
   refine go 14 fun g8 a w G H=>?_
   refine jn G H I [1,2,3,48,49,50,7] (fun c7 u=>(66,.bool c7)::u) (fun j3 I i3 G H=>?_) fun c7 a w I G H=>?_
   ·refine go 5 fun a w G H=>?_
    obtain⟨i7,g1,I⟩:=adu I
    refine cl qp (cW g1 H ) ?_
    rintro v w ⟨rfl,H⟩ a G
    refine go 2 fun a w G H=>?_
    refine gs I (fun d0 I=>?_) fun d0 I=>?_
    ·exact lf
    refine go 4 fun a w G H=>?_
    refine aP G E E E d0 (kD HI (jC _ _ _ _ (by decide)) G E E E) E E fun a G=>?_
    exact lf
   replace I:Sh.rW c2 g6 c7=_:=I
   unfold Sh.rW at I
   refine aB ?_
   refine cc I (fun d7 I=>?_) fun d7 I=>?_
   ·refine go 6 fun a w G H=>?_
    obtain rfl:=oI I
    have I:=d2 _ rfl
    subst I
    have I:=bB g4
    subst I
    refine aT Tryz.results173 G E ?_
    exact⟨E,bU H [] 2 E⟩
   exact lf
  refine go 5 fun a w G H=>?_
  obtain rfl:=oI I
  have I:=d2 _ rfl
  subst I
  exact⟨(),E,G.to ⟨E,E,trivial⟩,H⟩
 replace I:Sh.dA x0=_:=I
 unfold Sh.dA at I
 refine go 5 fun a w G H=>?_
 obtain⟨i8,g2,I⟩:=adu I
 refine cl Tryz.call227 (qD g2 H (Bf:=Bf) (tb S) f7 q8) ?_
 rintro v w ⟨rfl,H⟩ a G
 exact lf
theorem iH{x0:bj}{s1 s3:SV}{da:List SV}{s7:SV}{out:Bool}{w0:World}{Bf:World→Prop}{Lr:List dw}(I:Sh.hN x0=some out)(H:au w0 (Lr))(S:∀ w,au w Lr→Bf w)(f2:cn Bf s1 x0.b_)(f5:cn Bf s3 da)(q6:bw (cn (X:=UInt8) Bf) da x0.ah)(f8:cn Bf s7 x0.bf):Calls Tryz.prog 82 #[.agg (ay.enc (il x0 s1 s3 s7)).toArray] w0 (gf fun v w'=>v = .bool out∧au w' (Lr)):=by
 unfold Sh.hN at I
 refine ce Tryz.func82 Tryz.ntmps82 fun a G=>?_
 refine go 7 fun c0 a w G H=>?_
 refine jm (Lr) G H I [] (fun d2 u=>(2,.bool d2)::u) (fun j1 I i7 G H=>?_) fun d2 a w I G H=>?_
 ·refine go 3 fun a w G H=>?_
  obtain⟨i9,g0,I⟩:=adu I
  refine cl qp (cW g0 H ) ?_
  rintro v w ⟨rfl,H⟩ a G
  refine go 1 fun a w G H=>?_
  refine gs I (fun d3 I=>?_) fun d3 I=>?_
  ·refine go 2 fun a w G H=>?_
   obtain⟨j0,g1,I⟩:=adu I
   refine dA G E E E d3 E E (aS (xs:=[.tmp 8,.const (.int .i64 (0)),.const (.int .i64 (4294967296))]) qp G E E (cW g1 H ) fun v w hR=>?_)
   obtain⟨rfl,H⟩:=hR
   intro a G
   refine go 2 fun a w G H=>?_
   refine gs I (fun c5 I=>?_) fun c5 I=>?_
   ·refine go 4 fun a w G H=>?_
    refine aP G E E E c5 (aW z30 DY DJ G (parts:=[(0,.tmp 13),(1,.tmp 15)]) E E (aO E E (by rw[br.len];decide) (br.gI _ _) (aO E E (by rw[br.len];decide) (br.ep _ _) bD))) E E fun a G=>?_
    obtain⟨i1,I,g3⟩:=cJ I
    refine dA G E E E c5 E E (aS (xs:=[.tmp 16]) Tryz.call98 G E E (R:=fun v w=>∃ x,i1 = .inl x∧match x with|c6=>v = .bool c6∧au w (pt c0 (ay.enc (il x0 s1 s3 s7)) 54::Lr)) ?_ fun v w hR=>?_)
    ·refine aV Tryz.func98 E Tryz.ntmps98 E fun a G=>?_
     refine go 12 fun c1 a w G H=>?_
     refine jm (pt c0 (ay.enc (il x0 s1 s3 s7)) 54::Lr) G H I [] (fun c2 u=>(2,.bool c2)::u) (fun j2 I i8 G H=>?_) fun c2 a w I G H=>?_
     ·refine go 4 fun a w G H=>?_
      obtain⟨i2,I,g4⟩:=cJ I
      refine aN G E E E (dP (xs:=[.tmp 6]) Tryz.call171 G E E E (R:=fun v w=>∃ x,i2 = .inl x∧match x with|c7=>v = .bool c7∧au w (pt c1 (br.enc (br.mk s1 s3)) 30::pt c0 (ay.enc (il x0 s1 s3 s7)) 54::Lr)) ?_ fun v w hR=>?_)
      ·refine aV Tryz.func171 E Bq E fun a G=>?_
       refine go 14 fun a w G H=>?_
       obtain rfl:=oI I
       refine aT Br G E ?_
       exact⟨(decide (65535<(x0.b_.length:Int))),E,E,H⟩
      obtain⟨c7,rfl,rfl,H⟩:=hR
      replace I:Sh.hA x0 c7=_:=g4
      unfold Sh.hA at I
      intro a G
      refine go 2 fun a w G H=>?_
      refine gs I (fun d7 I=>?_) fun d7 I=>?_
      ·refine go 6 fun a w G H=>?_
       refine gs I (fun d0 I=>?_) fun d0 I=>?_
       ·refine go 3 fun a w G H=>?_
        obtain⟨i3,I,g5⟩:=cJ I
        refine dA G E E E d0 E E (aS (xs:=[.tmp 17,.tmp 18]) Tryz.call172 G E E (R:=fun v w=>∃ x,i3 = .inl x∧match x with|c8=>v = .bool c8∧au w (pt c1 (br.enc (br.mk s1 s3)) 30::pt c0 (ay.enc (il x0 s1 s3 s7)) 54::Lr)) ?_ fun v w hR=>?_)
        ·refine aV Tryz.func172 E Tryz.ntmps172 E fun a G=>?_
         refine go 9 fun a w G H=>?_
         obtain⟨i4,I,g6⟩:=cJ I
         refine aN G E E E (aS (xs:=[.tmp 5,.tmp 6]) Tryz.call226 G E E (R:=fun v w=>∃ x,i4 = .inl x∧match x with|c3=>v = .int .i64 c3∧au w (pt c1 (br.enc (br.mk s1 s3)) 30::pt c0 (ay.enc (il x0 s1 s3 s7)) 54::Lr)) ?_ fun v w hR=>?_)
         ·refine aV Tryz.func226 E Tryz.ntmps226 E fun a G=>?_
          refine go 6 fun a w G H=>?_
          refine jm (pt c1 (br.enc (br.mk s1 s3)) 30::pt c0 (ay.enc (il x0 s1 s3 s7)) 54::Lr) G H I [4] (fun _ u=>u) (fun j3 I g8 G H=>?_) fun _ a w I G H=>?_
          ·refine go 8 fun a w G H=>?_
           refine aY G H I (fun F x a w=>match x with|c4=>Fr 19 [(8,.int .i64 c4),(0,(s3).v),(1,.func (.func 171) [].toArray [].toArray),(4,.int .i64 0),(7,.int .i64 (x0.ah.length:Int))] a∧au w (pt c1 (br.enc (br.mk s1 s3)) 30::pt c0 (ay.enc (il x0 s1 s3 s7)) 54::Lr)) (fun G H=>⟨G.to ⟨E,E,E,E,E,trivial⟩,H⟩) ?_
           rintro c4 a w j4 I d6 ⟨G,H⟩
           unfold Sh.hD at I
           refine go 6 fun a w G H=>?_
           refine cc I (fun d8 I=>?_) fun d8 I=>?_
           ·obtain⟨g2,d1,I⟩:=adu I
            have d4:=aL d1
            obtain⟨i6,i0,d5⟩:=bw.getr q6 d4.2
            have g9:=bw.bd q6 (bA d1)
            refine go 17 fun a w G H=>?_
            obtain⟨i5,I,g7⟩:=cJ I
            refine aN G E E E (dP (xs:=[.tmp 15]) Tryz.call171 G E E E (R:=fun v w=>∃ x,i5 = .inl x∧match x with|c9=>v = .bool c9∧au w (pt c1 (br.enc (br.mk s1 s3)) 30::pt c0 (ay.enc (il x0 s1 s3 s7)) 54::Lr)) ?_ fun v w hR=>?_)
            ·refine aV Tryz.func171 E Bq E fun a G=>?_
             refine go 8 fun a w G H=>?_
             refine aA G (cQ (d5 _ (S _ (dZ H 2))) ji G E E) E E E fun a G=>?_
             refine go 5 fun a w G H=>?_
             obtain rfl:=oI I
             refine aT Br G E ?_
             exact⟨(decide (65535<(g2.length:Int))),E,E,H⟩
            obtain⟨c9,rfl,rfl,H⟩:=hR
            replace I:Sh.oV c4 c9=_:=g7
            unfold Sh.oV at I
            intro a G
            refine aJ (aB ?_)
            refine cc I (fun d9 I=>?_) fun d9 I=>?_
            ·refine go 7 fun a w G H=>?_
             obtain rfl:=oI I
             have I:=d6 _ rfl
             subst I
             have I:=bB g8
             subst I
             refine aT BF G E ?_
             exact⟨c4,E,E,H⟩
            exact lf
           refine go 5 fun a w G H=>?_
           obtain rfl:=oI I
           have I:=d6 _ rfl
           subst I
           exact⟨(),E,G.to ⟨E,trivial⟩,H⟩
          replace I:Sh.uY=_:=I
          unfold Sh.uY at I
          refine go 7 fun a w G H=>?_
          obtain rfl:=oI I
          refine aT BF G E ?_
          exact⟨(-1),E,E,H⟩
         obtain⟨c3,rfl,rfl,H⟩:=hR
         replace I:Sh.oU c3=_:=g6
         unfold Sh.oU at I
         intro a G
         refine go 5 fun a w G H=>?_
         obtain rfl:=oI I
         refine aT Tryz.results172 G E ?_
         exact⟨(decide (0≤c3)),E,E,H⟩
        obtain⟨c8,rfl,rfl,H⟩:=hR
        replace I:Sh.oT c8=_:=g5
        unfold Sh.oT at I
        intro a G
        exact lf
       exact lf
      exact lf
     replace I:Sh.hC c2=_:=I
     unfold Sh.hC at I
     refine go 2 fun a w G H=>?_
     obtain rfl:=oI I
     refine aT Tryz.results98 G E ?_
     exact⟨c2,E,E,H⟩
    obtain⟨c6,rfl,rfl,H⟩:=hR
    replace I:Sh.gZ c6=_:=g3
    unfold Sh.gZ at I
    intro a G
    exact lf
   exact lf
  exact lf
 replace I:Sh.hB d2=_:=I
 unfold Sh.hB at I
 exact lf
theorem vQ{x0 x1:bj}{s1 s3:SV}{da:List SV}{s7 s9 e8:SV}{wv:List SV}{qH:SV}{out:Bool}{w0:World}{Bf:World→Prop}{Lr:List dw}(I:Sh.wB x0 x1=some out)(H:au w0 (Lr))(S:∀ w,au w Lr→Bf w)(f2:cn Bf s1 x0.b_)(f5:cn Bf s3 da)(q6:bw (cn (X:=UInt8) Bf) da x0.ah)(f8:cn Bf s7 x0.bf)(f10:cn Bf s9 x1.b_)(f13:cn Bf e8 wv)(CH:bw (cn (X:=UInt8) Bf) wv x1.ah)(f16:cn Bf qH x1.bf):Calls Tryz.prog 83 #[.agg (ay.enc (il x0 s1 s3 s7)).toArray,.agg (ay.enc (il x1 s9 e8 qH)).toArray] w0 (gf fun v w'=>v = .bool out∧au w' (Lr)):=by
 unfold Sh.wB at I
 refine ce Tryz.func83 Tryz.ntmps83 fun a G=>?_
 refine go 9 fun c1 c2 a w G H=>?_
 refine jn G H I [2,3,4] (fun c7 u=>(34,.bool c7)::u) (fun j3 I i5 G H=>?_) fun c7 a w I G H=>?_
 ·exact lf
 replace I:Sh.vK x0 x1 c7=_:=I
 unfold Sh.vK at I
 refine aB ?_
 refine cc I (fun g7 I=>?_) fun g7 I=>?_
 ·exact lf
 refine go 3 fun a w G H=>?_
 refine jn G H I [2,3,4] (fun _ u=>u) (fun j4 I g5 G H=>?_) fun _ a w I G H=>?_
 ·refine go 9 fun a w G H=>?_
  refine ln G H I [2,3,37,4] (fun g3 u=>(38,.int .i64 g3)::u) fun g3 a w j7 I c8 G H=>?_
  unfold Sh.mA at I
  refine go 6 fun a w G H=>?_
  refine cc I (fun g8 I=>?_) fun g8 I=>?_
  ·refine go 11 fun a w G H=>?_
   refine dT H [0,1] 2 fun K=>?_
   obtain⟨j9,d0,I⟩:=adu I
   have d4:=aL d0
   obtain⟨j1,i2,g0⟩:=bw.getr q6 d4.2
   have i0:=bw.bd q6 (bA d0)
   refine fc [0,1,2,3,4] fun a G=>?_
   refine aK G K 5 E ads E E E (fun w H=>(cQ (g0 _ (S _ (dZ H 2))) ji G E E)) fun a G=>?_
   obtain⟨k0,d1,I⟩:=adu I
   have d5:=aL d1
   obtain⟨j2,i3,g1⟩:=bw.getr CH d5.2
   have i1:=bw.bd CH (bA d1)
   refine fc [6,7,8,9,10] fun a G=>?_
   refine aK G K 11 E ads E E E (fun w H=>(cQ (g1 _ (S _ (dZ H 2))) ji G E E)) fun a G=>?_
   refine fc [12] fun a G=>?_
   refine de fun w H=>?_
   refine aB ?_
   refine cc I (fun d6 I=>?_) fun d6 I=>?_
   ·refine go 6 fun a w G H=>?_
    obtain rfl:=oI I
    have I:=c8 _ rfl
    subst I
    have I:=bB g5
    subst I
    refine aT Tryz.results83 G E ?_
    exact⟨E,bU H [] 2 E⟩
   exact lf
  refine go 5 fun a w G H=>?_
  obtain rfl:=oI I
  have I:=c8 _ rfl
  subst I
  exact⟨(),E,G.to ⟨E,E,E,trivial⟩,H⟩
 replace I:Sh.vL x0 x1=_:=I
 unfold Sh.vL at I
 refine go 14 fun a w G H=>?_
 refine jm (Lr) G H I [] (fun c4 u=>(4,.bool c4)::u) (fun j5 I i6 G H=>?_) fun c4 a w I G H=>?_
 ·refine dT H [0,1] 2 fun K=>?_
  refine fc [0] fun a G=>?_
  refine dx 1 fun w eX H=>?_
  obtain⟨j0,g2,I⟩:=adu I
  refine dl qp (cW g2 H ) ?_
  rintro v w ⟨rfl,H⟩
  refine ds [0,1] 2 fun a G=>?_
  refine fc [2] fun a G=>?_
  refine gs I (fun c3 I=>?_) fun c3 I=>?_
  ·refine fc [3,4,5,6,7,8,9] fun a G=>?_
   obtain⟨i7,c0,I⟩:=adu I
   refine cS G K 10 E ads E E E c3 E E (fun w H=>(fC (f16 _ (S _ (dZ H 2))) c0 o9 kP E G E E (.inl ⟨E,E⟩) (.inr ⟨_,_,E,E⟩))) fun a G=>?_
   refine bJ K 11 ads E E ?_
   refine kF G 11 E E E E E c3 E E fun w eX H=>?_
   obtain⟨g9,I,g4⟩:=cJ I
   refine(aS (xs:=[.tmp 66,.tmp 72]) Tryz.call133 G E E (R:=fun v w=>∃ x,g9 = .inl x∧match x with|c5=>v = .bool c5∧au w (pt c2 (ay.enc (il x1 s9 e8 qH)) 54::pt c1 (ay.enc (il x0 s1 s3 s7)) 54::Lr)) ?_ fun v w hR=>?_)
   ·refine aV Tryz.func133 E Tryz.ntmps133 E fun a G=>?_
    refine go 11 fun a w G H=>?_
    refine aA G (cQ ((cn.nj f16 c0 E) _ (S _ (dZ H 2))) o9 G E E) E E E fun a G=>?_
    refine go 3 fun a w G H=>?_
    refine cc I (fun d7 I=>?_) fun d7 I=>?_
    ·refine go 6 fun a w G H=>?_
     obtain rfl:=oI I
     refine aT xw G E ?_
     exact⟨false,E,E,H⟩
    refine go 3 fun a w G H=>?_
    refine jm (pt c2 (ay.enc (il x1 s9 e8 qH)) 54::pt c1 (ay.enc (il x0 s1 s3 s7)) 54::Lr) G H I [4] (fun _ u=>u) (fun j6 I g6 G H=>?_) fun _ a w I G H=>?_
    ·refine go 8 fun a w G H=>?_
     refine aY G H I (fun F x a w=>match x with|d2=>Fr 26 [(13,.int .i64 d2),(0,(s7).v),(1,((qH.cut (0:Int).toNat ((x0.bf.length:Int):Int).toNat 1)).v),(12,.int .i64 (x0.bf.length:Int)),(4,.bool false)] a∧au w (pt c2 (ay.enc (il x1 s9 e8 qH)) 54::pt c1 (ay.enc (il x0 s1 s3 s7)) 54::Lr)) (fun G H=>⟨G.to ⟨E,E,E,E,E,trivial⟩,H⟩) ?_
     rintro d2 a w j8 I c9 ⟨G,H⟩
     unfold Sh.mB at I
     refine go 6 fun a w G H=>?_
     refine cc I (fun d8 I=>?_) fun d8 I=>?_
     ·refine go 11 fun a w G H=>?_
      refine dT H [0,1] 2 fun K=>?_
      obtain⟨i8,i4,I⟩:=adu I
      refine fc [0,1,2,3,4,5] fun a G=>?_
      obtain⟨i9,c6,I⟩:=adu I
      have d3:=aL c6
      refine aK G K 6 E ads E E E (fun w H=>(bG (sz:=1) ((cn.nj f16 c0 E) _ (S _ (dZ H 2))) o9 kP E G E E E (bA c6))) fun a G=>?_
      refine aK G K 7 E ads E E E (fun w H=>(aG vh G E E (((((cn.nj f16 c0 E) _ (S _ (dZ H 2))).elemS d3.2)).get 0 E))) fun a G=>?_
      refine fc [8] fun a G=>?_
      refine de fun w H=>?_
      refine aB ?_
      refine cc I (fun d9 I=>?_) fun d9 I=>?_
      ·refine go 6 fun a w G H=>?_
       obtain rfl:=oI I
       have I:=c9 _ rfl
       subst I
       have I:=bB g6
       subst I
       refine aT xw G E ?_
       exact⟨false,E,E,H⟩
      exact lf
     refine go 5 fun a w G H=>?_
     obtain rfl:=oI I
     have I:=c9 _ rfl
     subst I
     exact⟨(),E,G.to ⟨E,trivial⟩,H⟩
    replace I:Sh.GF=_:=I
    unfold Sh.GF at I
    refine go 7 fun a w G H=>?_
    obtain rfl:=oI I
    refine aT xw G E ?_
    exact⟨true,E,E,H⟩
   obtain⟨c5,rfl,rfl,H⟩:=hR
   replace I:Sh.aBr c5=_:=g4
   unfold Sh.aBr at I
   try dsimp only[List.set]at H
   refine ds [0,1] 2 fun a G=>?_
   refine fc [12,13] fun a G=>?_
   refine de fun w H=>?_
   exact lf
  refine fc [3,4,5,6,7,8,9,10,11,12,13] fun a G=>?_
  refine de fun w H=>?_
  exact lf
 replace I:Sh.Jv c4=_:=I
 unfold Sh.Jv at I
 exact lf
theorem vR{x0:bj}{x1:Int}{s1 s3:SV}{da:List SV}{s7:SV}{out:(List UInt8×Bool)}{w0:World}{Bf:World→Prop}{Lr:List dw}(I:Sh.rT x0 x1=some out)(H:au w0 (Lr))(S:∀ w,au w Lr→Bf w)(f2:cn Bf s1 x0.b_)(f5:cn Bf s3 da)(q6:bw (cn (X:=UInt8) Bf) da x0.ah)(f8:cn Bf s7 x0.bf):Calls Tryz.prog 192 #[.agg (ay.enc (il x0 s1 s3 s7)).toArray,.int .i64 x1] w0 (gf fun v w'=>∃ (qH:SV),v = .tuple #[(qH).v,.bool out.2]∧cn Bf qH out.1∧au w' (Lr)):=by
 unfold Sh.rT at I
 refine ce Tryz.func192 Tryz.ntmps192 fun a G=>?_
 refine go 16 fun c0 a w G H=>?_
 refine cc I (fun OH I=>?_) fun OH I=>?_
 ·refine go 9 fun a w G H=>?_
  obtain rfl:=oI I
  refine er Aa G H ?_
  exact⟨s1,E,f2,bU H [] 1 E⟩
 refine go 10 fun a w G H=>?_
 refine cc I (fun OI I=>?_) fun OI I=>?_
 ·obtain⟨U4,Lu,I⟩:=adu I
  have KL:=aL Lu
  obtain⟨Rq,Uh,La⟩:=bw.getr q6 KL.2
  have Uc:=bw.bd q6 (bA Lu)
  refine go 12 fun a w G H=>?_
  obtain rfl:=oI I
  refine er Aa G H ?_
  exact⟨Rq,E,La,bU H [] 1 E⟩
 refine go 10 fun a w G H=>?_
 obtain rfl:=oI I
 refine er Aa G H ?_
 exact⟨SV.nil,E,cn.nil,bU H [] 1 E⟩
theorem qC{x0:bj}{x1:dD}{s1 s3:SV}{da:List SV}{s7 s9 e8 fe:SV}{rf:List bq}{dy:SV}{out:Bool}{w0:World}{Bf:World→Prop}{Lr:List dw}(I:Sh.xB x0 x1=some out)(H:au w0 (Lr))(S:∀ w,au w Lr→Bf w)(f2:cn Bf s1 x0.b_)(f5:cn Bf s3 da)(q6:bw (cn (X:=UInt8) Bf) da x0.ah)(f8:cn Bf s7 x0.bf)(f10:cn Bf s9 x1.bk)(f12:cn Bf e8 x1.slots)(f15:cn Bf fe rf)(B8:bw (eO Bf) rf x1.dE)(f18:cn Bf dy x1.bf):Calls Tryz.prog 126 #[.agg (ay.enc (il x0 s1 s3 s7)).toArray,.agg (bS.enc (qk x1 s9 e8 fe dy)).toArray] w0 (gf fun v w'=>v = .bool out∧au w' (Lr)):=by
 unfold Sh.xB at I
 refine ce Tryz.func126 Tryz.ntmps126 fun a G=>?_
 refine go 8 fun c1 c2 a w G H=>?_
 refine jn G H I [2,3,4] (fun _ u=>u) (fun j8 I g5 G H=>?_) fun _ a w I G H=>?_
 ·refine go 9 fun a w G H=>?_
  refine ln G H I [15,16,2,3,4] (fun g0 u=>(17,.int .i64 g0)::u) fun g0 a w k2 I c9 G H=>?_
  unfold Sh.uC at I
  refine go 6 fun a w G H=>?_
  refine cc I (fun g8 I=>?_) fun g8 I=>?_
  ·obtain⟨k5,j2,I⟩:=adu I
   refine go 13 fun i4 a w G H=>?_
   refine dT H [0,1,2] 3 fun K=>?_
   obtain⟨k6,j3,I⟩:=adu I
   refine fc [0,1,2,3,4,5,6] fun a G=>?_
   refine aK G K 7 E ads E E E (fun w H=>(lZ HG (iC _ _ _ _ (by decide)) G E E E)) fun a G=>?_
   refine de fun w H=>?_
   refine aB ?_
   refine cc I (fun g9 I=>?_) fun g9 I=>?_
   ·refine go 6 fun a w G H=>?_
    obtain rfl:=oI I
    have I:=c9 _ rfl
    subst I
    have I:=bB g5
    subst I
    refine aT Tryz.results126 G E ?_
    exact⟨E,bU H [] 3 E⟩
   exact lf
  refine go 5 fun a w G H=>?_
  obtain rfl:=oI I
  have I:=c9 _ rfl
  subst I
  exact⟨(),E,G.to ⟨E,E,E,trivial⟩,H⟩
 replace I:Sh.yY x0 x1=_:=I
 unfold Sh.yY at I
 refine go 2 fun a w G H=>?_
 refine jn G H I [2,3,4] (fun _ u=>u) (fun j9 I g6 G H=>?_) fun _ a w I G H=>?_
 ·refine go 9 fun a w G H=>?_
  refine ln G H I [2,3,31,32,4] (fun g1 u=>(33,.int .i64 g1)::u) fun g1 a w k3 I d0 G H=>?_
  unfold Sh.uD at I
  refine go 6 fun a w G H=>?_
  refine cc I (fun i0 I=>?_) fun i0 I=>?_
  ·obtain⟨k7,j4,I⟩:=adu I
   refine go 13 fun i5 a w G H=>?_
   refine dT H [0,1,2] 3 fun K=>?_
   obtain⟨k8,j5,I⟩:=adu I
   refine fc [0,1,2,3,4,5,6] fun a G=>?_
   refine aK G K 7 E ads E E E (fun w H=>(lZ HI (jC _ _ _ _ (by decide)) G E E E)) fun a G=>?_
   refine de fun w H=>?_
   refine aB ?_
   refine cc I (fun i1 I=>?_) fun i1 I=>?_
   ·refine go 6 fun a w G H=>?_
    obtain rfl:=oI I
    have I:=d0 _ rfl
    subst I
    have I:=bB g6
    subst I
    refine aT Tryz.results126 G E ?_
    exact⟨E,bU H [] 3 E⟩
   exact lf
  refine go 5 fun a w G H=>?_
  obtain rfl:=oI I
  have I:=d0 _ rfl
  subst I
  exact⟨(),E,G.to ⟨E,E,E,trivial⟩,H⟩
 replace I:Sh.yZ x0 x1=_:=I
 unfold Sh.yZ at I
 refine go 2 fun a w G H=>?_
 refine jn G H I [2,3,4] (fun _ u=>u) (fun k0 I g7 G H=>?_) fun _ a w I G H=>?_
 ·refine go 9 fun a w G H=>?_
  refine ln G H I [2,3,4,47,48] (fun c3 u=>(49,.int .i64 c3)::u) fun c3 a w k4 I d1 G H=>?_
  unfold Sh.uE at I
  refine go 6 fun a w G H=>?_
  refine cc I (fun d5 I=>?_) fun d5 I=>?_
  ·refine go 6 fun a w G H=>?_
   obtain⟨c0,c8,I⟩:=adu I
   have d3:=aL c8
   obtain⟨i9,i8,d4⟩:=bw.getr B8 d3.2
   have i7:=bw.bd B8 (bA c8)
   obtain⟨i2,i3,rfl,g2,j0⟩:=d4
   refine go 11 fun c6 a w G H=>?_
   obtain⟨j7,d9,I⟩:=adu I
   refine cl Tryz.call192 (vR d9 H (Bf:=Bf) (tb S) f2 f5 q6 f8) ?_
   rintro v w ⟨j6,rfl,g3,H⟩ a G
   refine go 19 fun a w G H=>?_
   refine jm (pt c2 (bS.enc (qk x1 s9 e8 fe dy)) 60::pt c1 (ay.enc (il x0 s1 s3 s7)) 54::Lr) G H I [2,3,4,47,48,49] (fun c4 u=>(84,.bool c4)::u) (fun k1 I j1 G H=>?_) fun c4 a w I G H=>?_
   ·refine dT H [0,1,2] 3 fun K=>?_
    refine fc [0,1,2] fun a G=>?_
    refine gs I (fun d6 I=>?_) fun d6 I=>?_
    ·refine fc [3,4,5,6,7,8,9,10,11,12,13,14,15,16,17,18] fun a G=>?_
     refine de fun w H=>?_
     exact lf
    refine fc [3,4,5,6,7,8] fun a G=>?_
    refine gs I (fun c7 I=>?_) fun c7 I=>?_
    ·refine fc [9,10,11,12,13,14,15,16,17,18] fun a G=>?_
     refine de fun w H=>?_
     exact lf
    obtain⟨d2,d8,I⟩:=adu I
    refine fc [9,10,11,12,13,14,15] fun a G=>?_
    refine bJ K 16 ads E E ?_
    refine kF G 16 E E E E E c7 E E fun w eX H=>?_
    obtain⟨i6,I,g4⟩:=cJ I
    refine(aS (xs:=[.tmp 79,.tmp 81]) Tryz.call168 G E E (R:=fun v w=>∃ x,i6 = .inl x∧match x with|c5=>v = .bool c5∧au w (pt c6 (bq.enc (Jc c0 i2 i3)) 156::pt c2 (bS.enc (qk x1 s9 e8 fe dy)) 60::pt c1 (ay.enc (il x0 s1 s3 s7)) 54::Lr)) ?_ fun v w hR=>?_)
    ·refine aV Tryz.func168 E Tryz.ntmps168 E fun a G=>?_
     refine go 8 fun a w G H=>?_
     refine aA G (gB ((cn.nj g3 d8 E) _ (S _ (dZ H 3))) ji CJ Ge G E E) E E E fun a G=>?_
     refine go 1 fun a w G H=>?_
     refine aA G (gB (g2 _ (S _ (dZ H 3))) ji CJ Ge G E E) E E E fun a G=>?_
     refine aA G (sK (i:=d2) (j:=c0.old) G E E E) E E E fun a G=>?_
     refine go 4 fun a w G H=>?_
     obtain rfl:=oI I
     refine aT Tryz.results168 G E ?_
     exact⟨(decide (d2=c0.old)),E,E,H⟩
    obtain⟨c5,rfl,rfl,H⟩:=hR
    replace I:Sh.yX c5=_:=g4
    unfold Sh.yX at I
    try dsimp only[List.set]at H
    refine ds [0,1,2] 3 fun a G=>?_
    refine fc [17,18] fun a G=>?_
    refine de fun w H=>?_
    exact lf
   replace I:Sh.uB c3 c4=_:=I
   unfold Sh.uB at I
   refine aB ?_
   refine cc I (fun d7 I=>?_) fun d7 I=>?_
   ·refine go 6 fun a w G H=>?_
    obtain rfl:=oI I
    have I:=d1 _ rfl
    subst I
    have I:=bB g7
    subst I
    refine aT Tryz.results126 G E ?_
    exact⟨E,bU H [] 2 E⟩
   exact lf
  refine go 5 fun a w G H=>?_
  obtain rfl:=oI I
  have I:=d1 _ rfl
  subst I
  exact⟨(),E,G.to ⟨E,E,E,trivial⟩,H⟩
 replace I:Sh.zA x0 x1=_:=I
 unfold Sh.zA at I
 exact lf
end Go.Proofs
end
section
namespace Go.Proofs
open Go.Fw Go.Fx
set_option maxRecDepth 10000
theorem eI{x0 x1:List UInt8}{s1 s3:SV}{out:Bool}{w0:World}{Bf:World→Prop}{Lr:List dw}(I:Sh.aW x0 x1=some out)(H:au w0 (Lr))(S:∀ w,au w Lr→Bf w)(f2:cn Bf s1 x0)(f4:cn Bf s3 x1):Calls Tryz.prog 43 #[(s1).v,(s3).v] w0 (gf fun v w'=>v = .bool out∧au w' (Lr)):=by
 unfold Sh.aW at I
 refine ce Tryz.func43 Tryz.ntmps43 fun a G=>?_
 refine go 8 fun a w G H=>?_
 refine aA G (gB (f2 _ (S _ (dZ H 0))) ji CJ Ge G E E) E E E fun a G=>?_
 refine go 1 fun a w G H=>?_
 refine aA G (gB (f4 _ (S _ (dZ H 0))) ji CJ Ge G E E) E E E fun a G=>?_
 refine aA G (sK (i:=x0) (j:=x1) G E E E) E E E fun a G=>?_
 exact lf
theorem mL{x0 x1:List Int}{s1 s3:SV}{out:Bool}{w0:World}{Bf:World→Prop}{Lr:List dw}(I:Sh.hP x0 x1=some out)(H:au w0 (Lr))(S:∀ w,au w Lr→Bf w)(f2:cn Bf s1 x0)(f4:cn Bf s3 x1):Calls Tryz.prog 89 #[(s1).v,(s3).v] w0 (gf fun v w'=>v = .bool out∧au w' (Lr)):=by
 unfold Sh.hP at I
 refine ce Tryz.func89 Tryz.ntmps89 fun a G=>?_
 refine go 15 fun a w G H=>?_
 refine cc I (fun c3 I=>?_) fun c3 I=>?_
 ·exact lf
 refine go 3 fun a w G H=>?_
 refine jn G H I [4] (fun _ u=>u) (fun d0 I c2 G H=>?_) fun _ a w I G H=>?_
 ·refine go 6 fun a w G H=>?_
  refine ln G H I [0,1,4] (fun c1 u=>(5,.int .i64 c1)::u) fun c1 a w d1 I c0 G H=>?_
  unfold Sh.eT at I
  refine go 9 fun a w G H=>?_
  refine cc I (fun c4 I=>?_) fun c4 I=>?_
  ·refine go 5 fun a w G H=>?_
   refine dT H [] 0 fun K=>?_
   obtain⟨d2,c6,I⟩:=adu I
   have c8:=aL c6
   obtain⟨d3,c7,I⟩:=adu I
   have c9:=aL c7
   refine fc [0,1,2,3,4,5,6,7,8] fun a G=>?_
   refine de fun w H=>?_
   refine aB ?_
   refine cc I (fun c5 I=>?_) fun c5 I=>?_
   ·refine go 6 fun a w G H=>?_
    obtain rfl:=oI I
    have I:=c0 _ rfl
    subst I
    have I:=bB c2
    subst I
    refine aT Tryz.results89 G E ?_
    exact⟨E,H⟩
   exact lf
  refine go 5 fun a w G H=>?_
  obtain rfl:=oI I
  have I:=c0 _ rfl
  subst I
  exact⟨(),E,G.to ⟨E,trivial⟩,H⟩
 replace I:Sh.qK=_:=I
 unfold Sh.qK at I
 exact lf
theorem mM{x0 x1:List (List UInt8)}{s1:SV}{EA:List SV}{s5:SV}{FW:List SV}{out:Bool}{w0:World}{Bf:World→Prop}{Lr:List dw}(I:Sh.hQ x0 x1=some out)(H:au w0 (Lr))(S:∀ w,au w Lr→Bf w)(f3:cn Bf s1 EA)(q4:bw (cn (X:=UInt8) Bf) EA x0)(f7:cn Bf s5 FW)(q8:bw (cn (X:=UInt8) Bf) FW x1):Calls Tryz.prog 64 #[(s1).v,(s5).v] w0 (gf fun v w'=>v = .bool out∧au w' (Lr)):=by
 unfold Sh.hQ at I
 refine ce Tryz.func64 Tryz.ntmps64 fun a G=>?_
 refine go 15 fun a w G H=>?_
 refine cc I (fun c9 I=>?_) fun c9 I=>?_
 ·exact lf
 refine go 3 fun a w G H=>?_
 refine jn G H I [4] (fun _ u=>u) (fun d9 I c8 G H=>?_) fun _ a w I G H=>?_
 ·refine go 6 fun a w G H=>?_
  refine ln G H I [0,1,4] (fun c7 u=>(5,.int .i64 c7)::u) fun c7 a w g0 I c0 G H=>?_
  unfold Sh.eU at I
  refine go 9 fun a w G H=>?_
  refine cc I (fun d0 I=>?_) fun d0 I=>?_
  ·refine go 5 fun a w G H=>?_
   refine dT H [] 0 fun K=>?_
   obtain⟨g1,c1,I⟩:=adu I
   have c3:=aL c1
   obtain⟨d7,d5,c5⟩:=bw.getr q4 c3.2
   have d3:=bw.bd q4 (bA c1)
   obtain⟨g2,c2,I⟩:=adu I
   have c4:=aL c2
   obtain⟨d8,d6,c6⟩:=bw.getr q8 c4.2
   have d4:=bw.bd q8 (bA c2)
   refine fc [0,1,2,3,4,5,6,7] fun a G=>?_
   refine dx 8 fun w eX H=>?_
   obtain⟨g3,d2,I⟩:=adu I
   refine dl Tryz.call43 (eI d2 H (Bf:=Bf) (tb S) c5 c6) ?_
   rintro v w ⟨rfl,H⟩
   refine ds [] 0 fun a G=>?_
   refine fc [9] fun a G=>?_
   refine de fun w H=>?_
   refine aB ?_
   refine cc I (fun d1 I=>?_) fun d1 I=>?_
   ·refine go 6 fun a w G H=>?_
    obtain rfl:=oI I
    have I:=c0 _ rfl
    subst I
    have I:=bB c8
    subst I
    refine aT Tryz.results64 G E ?_
    exact⟨E,H⟩
   exact lf
  refine go 5 fun a w G H=>?_
  obtain rfl:=oI I
  have I:=c0 _ rfl
  subst I
  exact⟨(),E,G.to ⟨E,trivial⟩,H⟩
 replace I:Sh.qL=_:=I
 unfold Sh.qL at I
 exact lf
theorem eJ{x0 x1:bj}{s1 s3:SV}{da:List SV}{s7 s9 e8:SV}{wv:List SV}{qH:SV}{out:Bool}{w0:World}{Bf:World→Prop}{Lr:List dw}(I:Sh.bF x0 x1=some out)(H:au w0 (Lr))(S:∀ w,au w Lr→Bf w)(f2:cn Bf s1 x0.b_)(f5:cn Bf s3 da)(q6:bw (cn (X:=UInt8) Bf) da x0.ah)(f8:cn Bf s7 x0.bf)(f10:cn Bf s9 x1.b_)(f13:cn Bf e8 wv)(CH:bw (cn (X:=UInt8) Bf) wv x1.ah)(f16:cn Bf qH x1.bf):Calls Tryz.prog 34 #[.agg (ay.enc (il x0 s1 s3 s7)).toArray,.agg (ay.enc (il x1 s9 e8 qH)).toArray] w0 (gf fun v w'=>v = .bool out∧au w' (Lr)):=by
 unfold Sh.bF at I
 refine ce Tryz.func34 Tryz.ntmps34 fun a G=>?_
 refine go 8 fun c0 c1 a w G H=>?_
 refine jm (Lr) G H I [] (fun v83 u=>(4,.bool v83)::u) (fun c3 I c2 G H=>?_) fun v83 a w I G H=>?_
 ·refine go 2 fun a w G H=>?_
  refine aA G (cC DN DR G E E (aQ _) (H.cells (i:=1) E (ay.c_regs _))) E E E fun a G=>?_
  refine go 1 fun a w G H=>?_
  refine aA G (cC DN DR G E E (aQ _) (H.cells (i:=0) E (ay.c_regs _))) E E E fun a G=>?_
  refine aA G (kD Tryz.eqGuardType47 (Iz _ _ _ _ (by decide)) G E E E) E E E fun a G=>?_
  refine go 1 fun a w G H=>?_
  refine gs I (fun EV I=>?_) fun EV I=>?_
  ·refine go 1 fun a w G H=>?_
   refine aP G E E E EV (cC DQ DT G E E (aQ _) (H.cells (i:=1) E (ay.c_stack _))) E E fun a G=>?_
   refine go 1 fun a w G H=>?_
   refine aP G E E E EV (cC DQ DT G E E (aQ _) (H.cells (i:=0) E (ay.c_stack _))) E E fun a G=>?_
   refine aP G E E E EV (kD Tryz.eqGuardType51 (IA _ _ _ _ (by decide)) G E E E) E E fun a G=>?_
   refine go 2 fun a w G H=>?_
   refine gs I (fun EW I=>?_) fun EW I=>?_
   ·refine go 4 fun a w G H=>?_
    obtain⟨Gh,Dn,I⟩:=adu I
    refine dA G E E E EW E E (aS (xs:=[.tmp 19,.tmp 21]) Tryz.call43 G E E (eI Dn H (Bf:=Bf) (fun w H=>S _ (dZ H 2)) f2 f10) fun v w hR=>?_)
    obtain⟨rfl,H⟩:=hR
    intro a G
    refine go 2 fun a w G H=>?_
    refine gs I (fun EX I=>?_) fun EX I=>?_
    ·refine go 4 fun a w G H=>?_
     obtain⟨Vn,Qj,I⟩:=adu I
     refine dA G E E E EX E E (aS (xs:=[.tmp 26,.tmp 28]) Tryz.call64 G E E (mM Qj H (Bf:=Bf) (fun w H=>S _ (dZ H 2)) f5 q6 f13 CH) fun v w hR=>?_)
     obtain⟨rfl,H⟩:=hR
     intro a G
     refine go 2 fun a w G H=>?_
     refine gs I (fun KZ I=>?_) fun KZ I=>?_
     ·refine go 4 fun a w G H=>?_
      obtain⟨Vo,Qk,I⟩:=adu I
      refine dA G E E E KZ E E (aS (xs:=[.tmp 33,.tmp 35]) Tryz.call89 G E E (mL Qk H (Bf:=Bf) (fun w H=>S _ (dZ H 2)) f8 f16) fun v w hR=>?_)
      obtain⟨rfl,H⟩:=hR
      intro a G
      refine go 2 fun a w G H=>?_
      refine gs I (fun O8 I=>?_) fun O8 I=>?_
      ·refine go 7 fun a w G H=>?_
       refine gs I (fun Hf I=>?_) fun Hf I=>?_
       ·refine go 7 fun a w G H=>?_
        refine gs I (fun K0 I=>?_) fun K0 I=>?_
        ·refine go 4 fun a w G H=>?_
         refine aP G E E E K0 (Si Tryz.underlying4 G E E E) E E fun a G=>?_
         exact lf
        exact lf
       exact lf
      exact lf
     exact lf
    exact lf
   exact lf
  exact lf
 replace I:Sh.pD v83=_:=I
 unfold Sh.pD at I
 exact lf
end Go.Proofs
end
section
namespace Go.Proofs
open Go.Fw Go.Fx
set_option maxRecDepth 10000
theorem dX{x0 out:Int}{w0:World}{Lr:List dw}(I:Sh.eN x0=some out)(H:au w0 (Lr)):Calls Tryz.prog 286 #[.int .u64 x0] w0 (gf fun v w'=>v = .int .u64 out∧au w' (Lr)):=by
 unfold Sh.eN at I
 refine ce Tryz.func286 Tryz.ntmps286 fun a G=>?_
 exact lf
theorem uK{x0 x1 out:Int}{w0:World}{Lr:List dw}(I:Sh.aFl x0 x1=some out)(H:au w0 (Lr)):Calls Tryz.prog 316 #[.int .u64 x0,.int .u64 x1] w0 (gf fun v w'=>v = .int .u64 out∧au w' (Lr)):=by
 unfold Sh.aFl at I
 refine ce Tryz.func316 Tryz.ntmps316 fun a G=>?_
 exact lf
theorem uT{x0 x1 out:Int}{w0:World}{Lr:List dw}(I:Sh.JE x0 x1=some out)(H:au w0 (Lr)):Calls Tryz.prog 317 #[.int .u64 x0,.int .u64 x1] w0 (gf fun v w'=>v = .int .u64 out∧au w' (Lr)):=by
 unfold Sh.JE at I
 refine ce Tryz.func317 Tryz.ntmps317 fun a G=>?_
 exact lf
theorem uQ{x0 x1 out:Int}{w0:World}{Lr:List dw}(I:Sh.aFr x0 x1=some out)(H:au w0 (Lr)):Calls Tryz.prog 318 #[.int .u64 x0,.int .u64 x1] w0 (gf fun v w'=>v = .int .u64 out∧au w' (Lr)):=by
 unfold Sh.aFr at I
 refine ce Tryz.func318 Tryz.ntmps318 fun a G=>?_
 exact lf
theorem uM{x0 x1 out:Int}{w0:World}{Lr:List dw}(I:Sh.aFn x0 x1=some out)(H:au w0 (Lr)):Calls Tryz.prog 319 #[.int .u64 x0,.int .u64 x1] w0 (gf fun v w'=>v = .int .u64 out∧au w' (Lr)):=by
 unfold Sh.aFn at I
 refine ce Tryz.func319 Tryz.ntmps319 fun a G=>?_
 refine go 9 fun a w G H=>?_
 obtain⟨qN,I⟩:=bE I
 refine aA G (sM G E E E (abe qN)) E E E fun a G=>?_
 exact lf
theorem uO{x0 x1 out:Int}{w0:World}{Lr:List dw}(I:Sh.Ix x0 x1=some out)(H:au w0 (Lr)):Calls Tryz.prog 320 #[.int .u64 x0,.int .u64 x1] w0 (gf fun v w'=>v = .int .u64 out∧au w' (Lr)):=by
 unfold Sh.Ix at I
 refine ce Tryz.func320 Tryz.ntmps320 fun a G=>?_
 refine go 9 fun a w G H=>?_
 obtain⟨qN,I⟩:=bE I
 refine aA G (mQ G E E E (abe qN)) E E E fun a G=>?_
 exact lf
theorem tB{x0 x1 out:Int}{w0:World}{Lr:List dw}(I:Sh.Ih x0 x1=some out)(H:au w0 (Lr)):Calls Tryz.prog 321 #[.int .u64 x0,.int .u64 x1] w0 (gf fun v w'=>v = .int .u64 out∧au w' (Lr)):=by
 unfold Sh.Ih at I
 refine ce Tryz.func321 Tryz.ntmps321 fun a G=>?_
 refine go 11 fun a w G H=>?_
 obtain⟨qN,I⟩:=bE I
 refine aA G (sM G E E E (abe qN)) E E E fun a G=>?_
 exact lf
theorem tC{x0 x1 out:Int}{w0:World}{Lr:List dw}(I:Sh.aDn x0 x1=some out)(H:au w0 (Lr)):Calls Tryz.prog 322 #[.int .u64 x0,.int .u64 x1] w0 (gf fun v w'=>v = .int .u64 out∧au w' (Lr)):=by
 unfold Sh.aDn at I
 refine ce Tryz.func322 Tryz.ntmps322 fun a G=>?_
 refine go 11 fun a w G H=>?_
 obtain⟨qN,I⟩:=bE I
 refine aA G (mQ G E E E (abe qN)) E E E fun a G=>?_
 exact lf
theorem vU{x0 x1 out:Int}{w0:World}{Lr:List dw}(I:Sh.II x0 x1=some out)(H:au w0 (Lr)):Calls Tryz.prog 323 #[.int .u64 x0,.int .u64 x1] w0 (gf fun v w'=>v = .int .u64 out∧au w' (Lr)):=by
 unfold Sh.II at I
 refine ce Tryz.func323 Tryz.ntmps323 fun a G=>?_
 refine go 9 fun a w G H=>?_
 refine aA G (zS G E E E) E E E fun a G=>?_
 exact lf
theorem uL{x0 x1 out:Int}{w0:World}{Lr:List dw}(I:Sh.Iu x0 x1=some out)(H:au w0 (Lr)):Calls Tryz.prog 324 #[.int .u64 x0,.int .u64 x1] w0 (gf fun v w'=>v = .int .u64 out∧au w' (Lr)):=by
 unfold Sh.Iu at I
 refine ce Tryz.func324 Tryz.ntmps324 fun a G=>?_
 exact lf
theorem uU{x0 x1 out:Int}{w0:World}{Lr:List dw}(I:Sh.IA x0 x1=some out)(H:au w0 (Lr)):Calls Tryz.prog 325 #[.int .u64 x0,.int .u64 x1] w0 (gf fun v w'=>v = .int .u64 out∧au w' (Lr)):=by
 unfold Sh.IA at I
 refine ce Tryz.func325 Tryz.ntmps325 fun a G=>?_
 refine go 9 fun a w G H=>?_
 refine aA G (EK G E E E) E E E fun a G=>?_
 exact lf
theorem uN{x0 x1 out:Int}{w0:World}{Lr:List dw}(I:Sh.Iw x0 x1=some out)(H:au w0 (Lr)):Calls Tryz.prog 326 #[.int .u64 x0,.int .u64 x1] w0 (gf fun v w'=>v = .int .u64 out∧au w' (Lr)):=by
 unfold Sh.Iw at I
 refine ce Tryz.func326 Tryz.ntmps326 fun a G=>?_
 refine go 10 fun a w G H=>?_
 obtain⟨qN,I⟩:=bE I
 refine aA G (nV G E E E (abe qN)) E E E fun a G=>?_
 exact lf
theorem uS{x0 x1 out:Int}{w0:World}{Lr:List dw}(I:Sh.Iz x0 x1=some out)(H:au w0 (Lr)):Calls Tryz.prog 327 #[.int .u64 x0,.int .u64 x1] w0 (gf fun v w'=>v = .int .u64 out∧au w' (Lr)):=by
 unfold Sh.Iz at I
 refine ce Tryz.func327 Tryz.ntmps327 fun a G=>?_
 refine go 10 fun a w G H=>?_
 obtain⟨qN,I⟩:=bE I
 refine aA G (iV G E E E (abe qN)) E E E fun a G=>?_
 exact lf
theorem tA{x0 x1 out:Int}{w0:World}{Lr:List dw}(I:Sh.EK x0 x1=some out)(H:au w0 (Lr)):Calls Tryz.prog 328 #[.int .u64 x0,.int .u64 x1] w0 (gf fun v w'=>v = .int .u64 out∧au w' (Lr)):=by
 unfold Sh.EK at I
 refine ce Tryz.func328 Tryz.ntmps328 fun a G=>?_
 refine go 11 fun a w G H=>?_
 obtain⟨qN,I⟩:=bE I
 refine aA G (iV G E E E (abe qN)) E E E fun a G=>?_
 exact lf
theorem uR{x0 x1 out:Int}{w0:World}{Lr:List dw}(I:Sh.Iy x0 x1=some out)(H:au w0 (Lr)):Calls Tryz.prog 329 #[.int .u64 x0,.int .u64 x1] w0 (gf fun v w'=>v = .int .u64 out∧au w' (Lr)):=by
 unfold Sh.Iy at I
 refine ce Tryz.func329 Tryz.ntmps329 fun a G=>?_
 refine go 8 fun a w G H=>?_
 refine aA G (Tn G E E) E E E fun a G=>?_
 exact lf
theorem uP{x0 x1 out:Int}{w0:World}{Lr:List dw}(I:Sh.aFq x0 x1=some out)(H:au w0 (Lr)):Calls Tryz.prog 330 #[.int .u64 x0,.int .u64 x1] w0 (gf fun v w'=>v = .int .u64 out∧au w' (Lr)):=by
 unfold Sh.aFq at I
 refine ce Tryz.func330 Tryz.ntmps330 fun a G=>?_
 exact lf
theorem rN{x0 x1 out:Int}{w0:World}{Lr:List dw}(I:Sh.aBz x0 x1=some out)(H:au w0 (Lr)):Calls Tryz.prog 331 #[.int .u64 x0,.int .u64 x1] w0 (gf fun v w'=>v = .int .u64 out∧au w' (Lr)):=by
 unfold Sh.aBz at I
 refine ce Tryz.func331 Tryz.ntmps331 fun a G=>?_
 refine go 8 fun a w G H=>?_
 obtain⟨y7,LA,I⟩:=adu I
 refine cl r6 (dX LA H ) ?_
 rintro v w ⟨rfl,H⟩ a G
 refine go 1 fun a w G H=>?_
 obtain⟨y9,LC,I⟩:=adu I
 refine cl r6 (dX LC H ) ?_
 rintro v w ⟨rfl,H⟩ a G
 obtain⟨Db,I⟩:=bE I
 refine aA G (sM G E E E (abe Db)) E E E fun a G=>?_
 exact lf
theorem rP{x0 x1 out:Int}{w0:World}{Lr:List dw}(I:Sh.H6 x0 x1=some out)(H:au w0 (Lr)):Calls Tryz.prog 332 #[.int .u64 x0,.int .u64 x1] w0 (gf fun v w'=>v = .int .u64 out∧au w' (Lr)):=by
 unfold Sh.H6 at I
 refine ce Tryz.func332 Tryz.ntmps332 fun a G=>?_
 refine go 8 fun a w G H=>?_
 obtain⟨y7,LA,I⟩:=adu I
 refine cl r6 (dX LA H ) ?_
 rintro v w ⟨rfl,H⟩ a G
 refine go 1 fun a w G H=>?_
 obtain⟨y9,LC,I⟩:=adu I
 refine cl r6 (dX LC H ) ?_
 rintro v w ⟨rfl,H⟩ a G
 obtain⟨Db,I⟩:=bE I
 refine aA G (mQ G E E E (abe Db)) E E E fun a G=>?_
 exact lf
theorem rH{x0 x1 out:Int}{w0:World}{Lr:List dw}(I:Sh.zQ x0 x1=some out)(H:au w0 (Lr)):Calls Tryz.prog 333 #[.int .u64 x0,.int .u64 x1] w0 (gf fun v w'=>v = .int .u64 out∧au w' (Lr)):=by
 unfold Sh.zQ at I
 refine ce Tryz.func333 Tryz.ntmps333 fun a G=>?_
 refine go 11 fun a w G H=>?_
 obtain⟨qN,I⟩:=bE I
 refine aA G (sM G E E E (abe qN)) E E E fun a G=>?_
 exact lf
theorem rI{x0 x1 out:Int}{w0:World}{Lr:List dw}(I:Sh.zR x0 x1=some out)(H:au w0 (Lr)):Calls Tryz.prog 334 #[.int .u64 x0,.int .u64 x1] w0 (gf fun v w'=>v = .int .u64 out∧au w' (Lr)):=by
 unfold Sh.zR at I
 refine ce Tryz.func334 Tryz.ntmps334 fun a G=>?_
 refine go 11 fun a w G H=>?_
 obtain⟨qN,I⟩:=bE I
 refine aA G (mQ G E E E (abe qN)) E E E fun a G=>?_
 exact lf
theorem rO{x0 x1 out:Int}{w0:World}{Lr:List dw}(I:Sh.aB0 x0 x1=some out)(H:au w0 (Lr)):Calls Tryz.prog 335 #[.int .u64 x0,.int .u64 x1] w0 (gf fun v w'=>v = .int .u64 out∧au w' (Lr)):=by
 unfold Sh.aB0 at I
 refine ce Tryz.func335 Tryz.ntmps335 fun a G=>?_
 refine go 10 fun a w G H=>?_
 obtain⟨qN,I⟩:=bE I
 refine aA G (nV G E E E (abe qN)) E E E fun a G=>?_
 exact lf
theorem rQ{x0 x1 out:Int}{w0:World}{Lr:List dw}(I:Sh.H7 x0 x1=some out)(H:au w0 (Lr)):Calls Tryz.prog 336 #[.int .u64 x0,.int .u64 x1] w0 (gf fun v w'=>v = .int .u64 out∧au w' (Lr)):=by
 unfold Sh.H7 at I
 refine ce Tryz.func336 Tryz.ntmps336 fun a G=>?_
 refine go 8 fun a w G H=>?_
 obtain⟨y5,hy5,I⟩:=adu I
 refine cl r6 (dX hy5 H ) ?_
 rintro v w ⟨rfl,H⟩ a G
 refine go 2 fun a w G H=>?_
 obtain⟨hc6,I⟩:=bE I
 refine aA G (iV G E E E (abe hc6)) E E E fun a G=>?_
 exact lf
theorem rG{x0 x1 out:Int}{w0:World}{Lr:List dw}(I:Sh.zP x0 x1=some out)(H:au w0 (Lr)):Calls Tryz.prog 337 #[.int .u64 x0,.int .u64 x1] w0 (gf fun v w'=>v = .int .u64 out∧au w' (Lr)):=by
 unfold Sh.zP at I
 refine ce Tryz.func337 Tryz.ntmps337 fun a G=>?_
 refine go 11 fun a w G H=>?_
 obtain⟨qN,I⟩:=bE I
 refine aA G (iV G E E E (abe qN)) E E E fun a G=>?_
 exact lf
theorem lT{x0 out:Int}{w0:World}{Lr:List dw}(I:Sh.oB x0=some out)(H:au w0 (Lr)):Calls Tryz.prog 291 #[.int .u16 x0] w0 (gf fun v w'=>v = .int .u16 out∧au w' (Lr)):=by
 unfold Sh.oB at I
 refine ce Tryz.func291 Tryz.ntmps291 fun a G=>?_
 refine go 8 fun a w G H=>?_
 refine aA G (iV G E E E (by decide)) E E E fun a G=>?_
 refine go 1 fun a w G H=>?_
 refine aA G (nV G E E E (by decide)) E E E fun a G=>?_
 refine aA G (zS G E E E) E E E fun a G=>?_
 exact lf
theorem lU{x0 out:Int}{w0:World}{Lr:List dw}(I:Sh.oC x0=some out)(H:au w0 (Lr)):Calls Tryz.prog 292 #[.int .u32 x0] w0 (gf fun v w'=>v = .int .u32 out∧au w' (Lr)):=by
 unfold Sh.oC at I
 refine ce Tryz.func292 Tryz.ntmps292 fun a G=>?_
 refine go 8 fun a w G H=>?_
 refine aA G (iV G E E E (by decide)) E E E fun a G=>?_
 refine go 3 fun a w G H=>?_
 refine aA G (nV G E E E (by decide)) E E E fun a G=>?_
 refine aA G (zS G E E E) E E E fun a G=>?_
 refine go 6 fun a w G H=>?_
 refine aA G (iV G E E E (by decide)) E E E fun a G=>?_
 refine go 1 fun a w G H=>?_
 refine aA G (nV G E E E (by decide)) E E E fun a G=>?_
 refine aA G (zS G E E E) E E E fun a G=>?_
 exact lf
theorem lV{x0 out:Int}{w0:World}{Lr:List dw}(I:Sh.oD x0=some out)(H:au w0 (Lr)):Calls Tryz.prog 293 #[.int .u64 x0] w0 (gf fun v w'=>v = .int .u64 out∧au w' (Lr)):=by
 unfold Sh.oD at I
 refine ce Tryz.func293 Tryz.ntmps293 fun a G=>?_
 refine go 8 fun a w G H=>?_
 refine aA G (iV G E E E (by decide)) E E E fun a G=>?_
 refine go 3 fun a w G H=>?_
 refine aA G (nV G E E E (by decide)) E E E fun a G=>?_
 refine aA G (zS G E E E) E E E fun a G=>?_
 refine go 6 fun a w G H=>?_
 refine aA G (iV G E E E (by decide)) E E E fun a G=>?_
 refine go 3 fun a w G H=>?_
 refine aA G (nV G E E E (by decide)) E E E fun a G=>?_
 refine aA G (zS G E E E) E E E fun a G=>?_
 refine go 6 fun a w G H=>?_
 refine aA G (iV G E E E (by decide)) E E E fun a G=>?_
 refine go 1 fun a w G H=>?_
 refine aA G (nV G E E E (by decide)) E E E fun a G=>?_
 refine aA G (zS G E E E) E E E fun a G=>?_
 exact lf
theorem vV{x0:Int}{out:Bool}{w0:World}{Lr:List dw}(I:Sh.wD x0=some out)(H:au w0 (Lr)):Calls Tryz.prog 287 #[.int .i64 x0] w0 (gf fun v w'=>v = .bool out∧au w' (Lr)):=by
 unfold Sh.wD at I
 refine ce Tryz.func287 Tryz.ntmps287 fun a G=>?_
 refine go 6 fun a w G H=>?_
 refine jn G H I [] (fun v7 u=>(2,.bool v7)::u) (fun c1 I c0 G H=>?_) fun v7 a w I G H=>?_
 ·exact lf
 replace I:Sh.vU v7=_:=I
 unfold Sh.vU at I
 exact lf
theorem xF{x0:Int}{x1:Bool}{x2 out:Int}{w0:World}{Lr:List dw}(I:Sh.GM x0 x1 x2=some out)(H:au w0 (Lr)):Calls Tryz.prog 240 #[.int .i64 x0,.bool x1,.int .i64 x2] w0 (gf fun v w'=>v = .int .i64 out∧au w' (Lr)):=by
 unfold Sh.GM at I
 refine ce Tryz.func240 Tryz.ntmps240 fun a G=>?_
 refine go 11 fun a w G H=>?_
 refine jn G H I [1,6] (fun v39 u=>(7,.int .i64 v39)::u) (fun c2 I c0 G H=>?_) fun v39 a w I G H=>?_
 ·refine go 8 fun a w G H=>?_
  refine cc I (fun OP I=>?_) fun OP I=>?_
  ·exact lf
  refine go 7 fun a w G H=>?_
  refine cc I (fun EU I=>?_) fun EU I=>?_
  ·exact lf
  refine aH ?_
  refine jn G H I [1,2,6,7] (fun v44 u=>(20,.bool v44)::u) (fun c3 I c1 G H=>?_) fun v44 a w I G H=>?_
  ·exact lf
  replace I:Sh.Jy x2 v44=_:=I
  unfold Sh.Jy at I
  exact lf
 replace I:Sh.Jx x1 v39=_:=I
 unfold Sh.Jx at I
 exact lf
theorem zV{x0:Int}{x1:Bool}{x2 out:Int}{w0:World}{Lr:List dw}(I:Sh.GV x0 x1 x2=some out)(H:au w0 (Lr)):Calls Tryz.prog 241 #[.int .i64 x0,.bool x1,.int .i64 x2] w0 (gf fun v w'=>v = .int .i64 out∧au w' (Lr)):=by
 unfold Sh.GV at I
 refine ce Tryz.func241 Tryz.ntmps241 fun a G=>?_
 refine go 15 fun a w G H=>?_
 refine jn G H I [0,1,2,6,7] (fun v75 u=>(10,.bool v75)::u) (fun c3 I c0 G H=>?_) fun v75 a w I G H=>?_
 ·exact lf
 replace I:Sh.JJ x0 x1 x2 v75=_:=I
 unfold Sh.JJ at I
 refine aB ?_
 refine cc I (fun OZ I=>?_) fun OZ I=>?_
 ·refine go 4 fun a w G H=>?_
  obtain⟨Vk,Qf,I⟩:=adu I
  refine cl Tryz.call291 (lT Qf H ) ?_
  rintro v w ⟨rfl,H⟩ a G
  exact lf
 refine go 7 fun a w G H=>?_
 refine cc I (fun O1 I=>?_) fun O1 I=>?_
 ·exact lf
 refine aH ?_
 refine jn G H I [0,1,2,6,7] (fun v83 u=>(26,.bool v83)::u) (fun c4 I c1 G H=>?_) fun v83 a w I G H=>?_
 ·exact lf
 replace I:Sh.aGu x0 x1 x2 v83=_:=I
 unfold Sh.aGu at I
 refine aB ?_
 refine cc I (fun EW I=>?_) fun EW I=>?_
 ·refine go 4 fun a w G H=>?_
  obtain⟨Gh,Dn,I⟩:=adu I
  refine cl Tryz.call292 (lU Dn H ) ?_
  rintro v w ⟨rfl,H⟩ a G
  exact lf
 refine go 7 fun a w G H=>?_
 refine cc I (fun EX I=>?_) fun EX I=>?_
 ·exact lf
 refine aH ?_
 refine jn G H I [0,2,6,7] (fun v91 u=>(42,.bool v91)::u) (fun c5 I c2 G H=>?_) fun v91 a w I G H=>?_
 ·exact lf
 replace I:Sh.aGv x0 x2 v91=_:=I
 unfold Sh.aGv at I
 refine aB ?_
 refine cc I (fun O7 I=>?_) fun O7 I=>?_
 ·refine go 3 fun a w G H=>?_
  obtain⟨Vq,Qm,I⟩:=adu I
  refine cl Tryz.call293 (lV Qm H ) ?_
  rintro v w ⟨rfl,H⟩ a G
  exact lf
 exact lf
theorem hZ{x0:gp}{x1 x2 out:Bool}{w0:World}{Lr:List dw}(I:Sh.kG x0 x1 x2=some out)(H:au w0 (Lr)):Calls Tryz.prog 298 #[.agg (gp.enc x0).toArray,.bool x1,.bool x2] w0 (gf fun v w'=>v = .bool out∧au w' (Lr)):=by
 unfold Sh.kG at I
 refine ce Tryz.func298 Tryz.ntmps298 fun a G=>?_
 refine go 9 fun c0 a w G H=>?_
 refine jn G H I [1,3,6] (fun v21 u=>(7,.bool v21)::u) (fun c2 I c1 G H=>?_) fun v21 a w I G H=>?_
 ·exact lf
 replace I:Sh.mX x0 x1 v21=_:=I
 unfold Sh.mX at I
 exact lf
theorem iN{x0:gj}{x1 x2 out:Bool}{w0:World}{Lr:List dw}(I:Sh.kW x0 x1 x2=some out)(H:au w0 (Lr)):Calls Tryz.prog 299 #[.agg (gj.enc x0).toArray,.bool x1,.bool x2] w0 (gf fun v w'=>v = .bool out∧au w' (Lr)):=by
 unfold Sh.kW at I
 refine ce Tryz.func299 Tryz.ntmps299 fun a G=>?_
 refine go 9 fun c0 a w G H=>?_
 refine jn G H I [1,3,6] (fun v21 u=>(7,.bool v21)::u) (fun c2 I c1 G H=>?_) fun v21 a w I G H=>?_
 ·exact lf
 replace I:Sh.nL x0 x1 v21=_:=I
 unfold Sh.nL at I
 exact lf
theorem VB{x0:List UInt8}{x1:Bool}{s1:SV}{out:Int}{w0:World}{Bf:World→Prop}{Lr:List dw}(I:Sh.aGs x0 x1=some out)(H:au w0 (Lr))(S:∀ w,au w Lr→Bf w)(f2:cn Bf s1 x0):Calls Tryz.prog 295 #[(s1).v,.bool x1] w0 (gf fun v w'=>v = .int .i64 out∧au w' (Lr)):=by
 unfold Sh.aGs at I
 refine ce Tryz.func295 Tryz.ntmps295 fun a G=>?_
 refine go 7 fun a w G H=>?_
 refine jn G H I [0,1,4] (fun v93 u=>(16,.bool v93)::u) (fun d2 I c9 G H=>?_) fun v93 a w I G H=>?_
 ·exact lf
 replace I:Sh.GN x0 x1 v93=_:=I
 unfold Sh.GN at I
 refine aB ?_
 refine cc I (fun Hf I=>?_) fun Hf I=>?_
 ·exact lf
 refine go 8 fun a w G H=>?_
 refine jn G H I [0,1,4] (fun c1 u=>(5,.int .u64 c1)::u) (fun d3 I d0 G H=>?_) fun c1 a w I G H=>?_
 ·refine go 8 fun a w G H=>?_
  refine aY G H I (fun F x a w=>match x with|(c2,c0)=>Fr 45 [(19,.int .i64 c2),(5,.int .u64 c0),(0,(s1).v),(1,.bool x1),(17,(s1).v),(18,.int .i64 (x0.length:Int)),(4,.int .i64 0)] a∧au w (Lr)) (fun G H=>⟨G.to ⟨E,E,E,E,E,E,E,trivial⟩,H⟩) ?_
  rintro⟨c2,c0⟩ a w d4 I c3 ⟨G,H⟩
  replace I:Sh.xW x0 c2 c0=_:=I
  unfold Sh.xW at I
  refine go 6 fun a w G H=>?_
  refine cc I (fun c4 I=>?_) fun c4 I=>?_
  ·obtain⟨d5,d1,I⟩:=adu I
   refine go 16 fun a w G H=>?_
   refine aA G (tQ CJ Tryz.underlying233 E G E E) E E E fun a G=>?_
   refine go 2 fun a w G H=>?_
   obtain⟨c6,I⟩:=bE I
   refine aA G (nV G E E E (abe c6)) E E E fun a G=>?_
   refine aA G (zS G E E E) E E E fun a G=>?_
   exact lf
  refine go 5 fun a w G H=>?_
  obtain rfl:=oI I
  have I:=c3 _ rfl
  subst I
  exact⟨c0,E,G.to ⟨E,E,E,E,trivial⟩,H⟩
 replace I:Sh.GQ x0 x1 c1=_:=I
 unfold Sh.GQ at I
 refine go 16 fun a w G H=>?_
 refine cc I (fun c5 I=>?_) fun c5 I=>?_
 ·refine go 4 fun a w G H=>?_
  obtain⟨c7,I⟩:=bE I
  refine aA G (nV G E E E (abe c7)) E E E fun a G=>?_
  refine go 2 fun a w G H=>?_
  obtain⟨c8,I⟩:=bE I
  refine aA G (iV G E E E (abe c8)) E E E fun a G=>?_
  exact lf
 exact lf
theorem sZ{x0 x1:Int}{out:List UInt8}{w0:World}{Lr:List dw}(I:Sh.aDk x0 x1=some out)(H:au w0 (Lr)):Calls Tryz.prog 247 #[.int .i64 x0,.int .i64 x1] w0 (gf fun v w'=>∃ (c8:SV),v=(c8).v∧au w' (ai 0 c8 5 out::Lr)):=by
 unfold Sh.aDk at I
 refine ce Tryz.func247 Tryz.ntmps247 fun a G=>?_
 refine go 7 fun a w G H=>?_
 refine jn G H I [0,1,4] (fun c6 u=>(12,.bool c6)::u) (fun g0 I d8 G H=>?_) fun c6 a w I G H=>?_
 ·exact lf
 replace I:Sh.xX x0 x1 c6=_:=I
 unfold Sh.xX at I
 refine aB ?_
 refine cc I (fun d3 I=>?_) fun d3 I=>?_
 ·refine go 6 fun a w G H=>?_
  have H:=H.rowNil (X:=UInt8) 0 5
  obtain rfl:=oI I
  refine aT Tryz.results247 G E ?_
  exact⟨SV.nil,E,H⟩
 refine go 5 fun a w G H=>?_
 obtain⟨d0,d6,I⟩:=adu I
 refine aN G E E E (N6 d6 ji sw E E E G E E E fun c5 w c4=>?_)
 have H:=H.plus c4
 try dsimp only[List.set]at H
 intro a G
 refine go 4 fun a w G H=>?_
 refine aM G H I (fun F x a w=>match x with|c9=>∃ (c1:SV),Fr 30 [(5,(c1).v),(4,(SV.nil).v)] a∧au w (ai 0 c1 5 c9::Lr)) (fun g1 I d9 G H=>?_) ?_
 ·refine go 8 fun a w G H=>?_
  refine aY G H I (fun F x a w=>match x with|(c2,c3)=>∃ (c0:SV),Fr 30 [(17,.int .i64 c2),(5,(c0).v),(1,.int .i64 x1),(16,.int .i64 (d0.length:Int)),(4,(SV.nil).v)] a∧au w (ai 0 c0 5 c3::Lr)) (fun G H=>⟨c5,G.to ⟨E,E,E,E,E,trivial⟩,H⟩) ?_
  rintro⟨c2,c3⟩ a w g2 I d1 ⟨c0,G,H⟩
  replace I:Sh.xY x1 d0 c2 c3=_:=I
  unfold Sh.xY at I
  refine go 6 fun a w G H=>?_
  refine cc I (fun d4 I=>?_) fun d4 I=>?_
  ·refine go 16 fun a w G H=>?_
   obtain⟨d5,I⟩:=bE I
   refine aA G (iV G E E E (abe d5)) E E E fun a G=>?_
   refine aA G (fL rj CJ G E E) E E E fun a G=>?_
   obtain⟨g3,d7,I⟩:=adu I
   have c7:=aL d7
   refine go 1 fun a w G H=>?_
   refine bC E E (dB (d:=0) (q:=(Fw.byteOf (shr .i64 x1 ((IntKind.i64.wrap (8*c2))).toNat))) NQ (H.own (X:=UInt8) (i:=0) E) c7.2 G E E E E E (by decide) E fun w d2=>?_)
   have H:=H.chg d2 (i:=0) rfl
   try dsimp only[List.set]at H
   refine go 8 fun a w G H=>?_
   exact jr I ⟨c0,G.t,H⟩
  refine go 5 fun a w G H=>?_
  obtain rfl:=oI I
  have I:=d1 _ rfl
  subst I
  exact⟨c3,E,c0,G.to ⟨E,E,trivial⟩,H⟩
 rintro c9 a w I ⟨c1,G,H⟩
 unfold Sh.aIv at I
 refine go 8 fun a w G H=>?_
 obtain rfl:=oI I
 refine aT Tryz.results247 G E ?_
 exact⟨c1,E,H⟩
end Go.Proofs
end
section
namespace Go.Proofs
open Go.Fw Go.Fx
set_option maxRecDepth 10000
theorem dJ{x0:Int}{out:ak}{w0:World}{Lr:List dw}(I:Sh.dJ x0=some out)(H:au w0 (Lr)):Calls Tryz.prog 145 #[.int .i64 x0] w0 (gf fun v w'=>v = .agg (ak.enc out).toArray∧au w' (Lr)):=by
 unfold Sh.dJ at I
 refine ce Tryz.func145 Tryz.ntmps145 fun a G=>?_
 refine go 8 fun c0 a w G H=>?_
 refine aA G (aW z46 A2 AY G (parts:=[(0,.const (.int .i64 (1))),(3,.tmp 3)]) E E (aO E E (by rw[ak.len];decide) (ak.s_kind _ _) (aO E E (by rw[ak.len];decide) (ak.s_x _ _) bD))) E E E fun a G=>?_
 refine go 4 fun a w G H=>?_
 obtain rfl:=oI I
 refine er Tryz.results145 G H ?_
 exact⟨E,bU H [] 1 E⟩
theorem cZ{x0:ak}{out:Bool}{w0:World}{Lr:List dw}(I:Sh.cF x0=some out)(H:au w0 (Lr)):Calls Tryz.prog 237 #[.agg (ak.enc x0).toArray] w0 (gf fun v w'=>v = .bool out∧au w' (Lr)):=by
 unfold Sh.cF at I
 refine ce Tryz.func237 Tryz.ntmps237 fun a G=>?_
 exact lf
theorem eP{x0:ak}{out:Bool}{w0:World}{Lr:List dw}(I:Sh.hF x0=some out)(H:au w0 (Lr)):Calls Tryz.prog 242 #[.agg (ak.enc x0).toArray] w0 (gf fun v w'=>v = .bool out∧au w' (Lr)):=by
 unfold Sh.hF at I
 refine ce Tryz.func242 Tryz.ntmps242 fun a G=>?_
 exact lf
theorem pE{x0 x1:ak}{out:Bool}{w0:World}{Lr:List dw}(I:Sh.wL x0 x1=some out)(H:au w0 (Lr)):Calls Tryz.prog 250 #[.agg (ak.enc x0).toArray,.agg (ak.enc x1).toArray] w0 (gf fun v w'=>v = .bool out∧au w' (Lr)):=by
 unfold Sh.wL at I
 refine ce Tryz.func250 Tryz.ntmps250 fun a G=>?_
 refine go 8 fun c0 c1 a w G H=>?_
 refine jm (Lr) G H I [] (fun v12 u=>(4,.bool v12)::u) (fun c3 I c2 G H=>?_) fun v12 a w I G H=>?_
 ·exact lf
 replace I:Sh.JA v12=_:=I
 unfold Sh.JA at I
 exact lf
theorem lS{x0:ak}{x1:Int}{out:(ak×Int)}{w0:World}{Lr:List dw}(I:Sh.tC x0 x1=some out)(H:au w0 (Lr)):Calls Tryz.prog 290 #[.agg (ak.enc x0).toArray,.int .i64 x1] w0 (gf fun v w'=>v = .tuple #[.agg (ak.enc out.1).toArray,.int .i64 out.2]∧au w' (Lr)):=by
 unfold Sh.tC at I
 refine ce Tryz.func290 Tryz.ntmps290 fun a G=>?_
 refine go 9 fun c0 c1 a w G H=>?_
 refine jn G H I [1,2,4,5] (fun v45 u=>(25,.bool v45)::u) (fun c3 I c2 G H=>?_) fun v45 a w I G H=>?_
 ·exact lf
 replace I:Sh.yD x0 x1 v45=_:=I
 unfold Sh.yD at I
 refine aB ?_
 refine cc I (fun OQ I=>?_) fun OQ I=>?_
 ·refine go 8 fun a w G H=>?_
  obtain rfl:=oI I
  refine er Tryz.results290 G H ?_
  exact⟨E,bU H [] 2 E⟩
 refine go 20 fun a w G H=>?_
 obtain rfl:=oI I
 refine er Tryz.results290 G H ?_
 exact⟨E,bU H [] 2 E⟩
theorem Vx{x0:Int}{x1 x2:ak}{out:(ak×Int)}{w0:World}{Lr:List dw}(I:Sh.aGf x0 x1 x2=some out)(H:au w0 (Lr)):Calls Tryz.prog 239 #[.int .i64 x0,.agg (ak.enc x1).toArray,.agg (ak.enc x2).toArray] w0 (gf fun v w'=>v = .tuple #[.agg (ak.enc out.1).toArray,.int .i64 out.2]∧au w' (Lr)):=by
 unfold Sh.aGf at I
 refine ce Tryz.func239 Tryz.ntmps239 fun a G=>?_
 refine go 11 fun i8 i9 j0 a w G H=>?_
 refine jn G H I [0,4,5,6,7] (fun c0 u=>(8,.bool c0)::u) (fun j5 I j1 G H=>?_) fun c0 a w I G H=>?_
 ·refine go 4 fun a w G H=>?_
  refine gs I (fun c4 I=>?_) fun c4 I=>?_
  ·refine go 1 fun a w G H=>?_
   obtain⟨j9,g7,I⟩:=adu I
   have d6:=eP g7 H 
   refine dA G E E E c4 E E (aS (xs:=[.tmp 12]) uv G E E d6 fun v w hR=>?_)
   obtain⟨rfl,H⟩:=hR
   intro a G
   refine go 2 fun a w G H=>?_
   refine gs I (fun c5 I=>?_) fun c5 I=>?_
   ·refine go 1 fun a w G H=>?_
    obtain⟨k0,g8,I⟩:=adu I
    have d7:=cZ g8 H 
    refine dA G E E E c5 E E (aS (xs:=[.tmp 16]) ou G E E d7 fun v w hR=>?_)
    obtain⟨rfl,H⟩:=hR
    intro a G
    exact lf
   exact lf
  exact lf
 replace I:Sh.JG x0 x1 x2 c0=_:=I
 unfold Sh.JG at I
 refine aB ?_
 refine cc I (fun d1 I=>?_) fun d1 I=>?_
 ·refine go 5 fun a w G H=>?_
  obtain⟨k1,g9,I⟩:=adu I
  have d8:=lS g9 H 
  refine cl Tryz.call290 d8 ?_
  rintro v w ⟨rfl,H⟩ a G
  refine go 7 fun a w G H=>?_
  obtain rfl:=oI I
  refine er xI G H ?_
  exact⟨E,bU H [] 3 E⟩
 refine aH ?_
 refine jn G H I [0,4,5,6,7] (fun c1 u=>(25,.bool c1)::u) (fun j6 I j2 G H=>?_) fun c1 a w I G H=>?_
 ·refine go 4 fun a w G H=>?_
  refine gs I (fun c6 I=>?_) fun c6 I=>?_
  ·refine go 1 fun a w G H=>?_
   obtain⟨k2,i0,I⟩:=adu I
   have d9:=cZ i0 H 
   refine dA G E E E c6 E E (aS (xs:=[.tmp 29]) ou G E E d9 fun v w hR=>?_)
   obtain⟨rfl,H⟩:=hR
   intro a G
   refine go 2 fun a w G H=>?_
   refine gs I (fun c7 I=>?_) fun c7 I=>?_
   ·refine go 1 fun a w G H=>?_
    obtain⟨k3,i1,I⟩:=adu I
    have g0:=eP i1 H 
    refine dA G E E E c7 E E (aS (xs:=[.tmp 33]) uv G E E g0 fun v w hR=>?_)
    obtain⟨rfl,H⟩:=hR
    intro a G
    exact lf
   exact lf
  exact lf
 replace I:Sh.JH x0 x1 x2 c1=_:=I
 unfold Sh.JH at I
 refine aB ?_
 refine cc I (fun d2 I=>?_) fun d2 I=>?_
 ·refine go 5 fun a w G H=>?_
  obtain⟨k4,i2,I⟩:=adu I
  have g1:=lS i2 H 
  refine cl Tryz.call290 g1 ?_
  rintro v w ⟨rfl,H⟩ a G
  refine go 7 fun a w G H=>?_
  obtain rfl:=oI I
  refine er xI G H ?_
  exact⟨E,bU H [] 3 E⟩
 refine aH ?_
 refine jn G H I [0,4,5,6,7] (fun c2 u=>(42,.bool c2)::u) (fun j7 I j3 G H=>?_) fun c2 a w I G H=>?_
 ·refine go 4 fun a w G H=>?_
  refine gs I (fun c8 I=>?_) fun c8 I=>?_
  ·refine go 1 fun a w G H=>?_
   obtain⟨k5,i3,I⟩:=adu I
   have g2:=eP i3 H 
   refine dA G E E E c8 E E (aS (xs:=[.tmp 46]) uv G E E g2 fun v w hR=>?_)
   obtain⟨rfl,H⟩:=hR
   intro a G
   refine go 2 fun a w G H=>?_
   refine gs I (fun c9 I=>?_) fun c9 I=>?_
   ·refine go 1 fun a w G H=>?_
    obtain⟨k6,i4,I⟩:=adu I
    have g3:=cZ i4 H 
    refine dA G E E E c9 E E (aS (xs:=[.tmp 50]) ou G E E g3 fun v w hR=>?_)
    obtain⟨rfl,H⟩:=hR
    intro a G
    exact lf
   exact lf
  exact lf
 replace I:Sh.IC x0 x1 x2 c2=_:=I
 unfold Sh.IC at I
 refine aB ?_
 refine cc I (fun d3 I=>?_) fun d3 I=>?_
 ·refine go 8 fun a w G H=>?_
  refine cc I (fun d4 I=>?_) fun d4 I=>?_
  ·refine go 8 fun a w G H=>?_
   obtain rfl:=oI I
   refine er xI G H ?_
   exact⟨E,bU H [] 3 E⟩
  refine go 7 fun a w G H=>?_
  refine aA G (Tn G E E) E E E fun a G=>?_
  obtain⟨k7,i5,I⟩:=adu I
  have g4:=lS i5 H 
  refine cl Tryz.call290 g4 ?_
  rintro v w ⟨rfl,H⟩ a G
  refine go 7 fun a w G H=>?_
  obtain rfl:=oI I
  refine er xI G H ?_
  exact⟨E,bU H [] 3 E⟩
 refine aH ?_
 refine jn G H I [4,5,6,7] (fun c3 u=>(64,.bool c3)::u) (fun j8 I j4 G H=>?_) fun c3 a w I G H=>?_
 ·refine go 4 fun a w G H=>?_
  refine gs I (fun d0 I=>?_) fun d0 I=>?_
  ·refine go 2 fun a w G H=>?_
   obtain⟨k8,i6,I⟩:=adu I
   have g5:=pE i6 H 
   refine dA G E E E d0 E E (aS (xs:=[.tmp 68,.tmp 69]) Tryz.call250 G E E g5 fun v w hR=>?_)
   obtain⟨rfl,H⟩:=hR
   intro a G
   exact lf
  exact lf
 replace I:Sh.IE x1 x2 c3=_:=I
 unfold Sh.IE at I
 refine aB ?_
 refine cc I (fun d5 I=>?_) fun d5 I=>?_
 ·refine go 7 fun a w G H=>?_
  obtain⟨k9,i7,I⟩:=adu I
  have g6:=dJ i7 H 
  refine cl po g6 ?_
  rintro v w ⟨rfl,H⟩ a G
  refine go 5 fun a w G H=>?_
  obtain rfl:=oI I
  refine er xI G H ?_
  exact⟨E,bU H [] 3 E⟩
 refine go 11 fun a w G H=>?_
 obtain rfl:=oI I
 refine er xI G H ?_
 exact⟨E,bU H [] 3 E⟩
theorem cE{x0:aj}{x1:b9}{s1 s3:SV}{da:List SV}{s7 s9 e8 fe:SV}{fU:Nat}{dy:SV}{b0:Nat}{out:ak}{w0:World}{Bf:World→Prop}{Lr:List dw}(I:Sh.fD x0 x1=some out)(H:au w0 (pt b0 (af.enc (gx x0 s1 s3 s7 s9 e8 fe fU dy)) 203::ai 0 s1 5 x0.ae.b_::ai 0 s3 23 da::(a_ da x0.ae.ah)::ai 0 dy 3 x0.bf::Lr))(S:∀ w,au w Lr→Bf w)(q6:bw (cn (X:=UInt8) (a_ da x0.ae.ah).holds') da x0.ae.ah)(f8:cn Bf s7 x0.ae.data)(f10:cn Bf s9 x0.ae.sizes)(f12:cn Bf e8 x0.code)(f14:cn Bf fe x0.dq)(f16:jk Bf fU x0.cg):Calls Tryz.prog 236 #[.pointer (some ⟨b0,0,none⟩),.agg (b9.enc x1).toArray] w0 (gf fun v w'=>v = .agg (ak.enc out).toArray∧au w' (pt b0 (af.enc (gx x0 s1 s3 s7 s9 e8 fe fU dy)) 203::ai 0 s1 5 x0.ae.b_::ai 0 s3 23 da::(a_ da x0.ae.ah)::ai 0 dy 3 x0.bf::Lr)):=by
 unfold Sh.fD at I
 refine ce Tryz.func236 Tryz.ntmps236 fun a G=>?_
 refine go 13 fun c0 c1 a w G H=>?_
 refine cc I (fun OO I=>?_) fun OO I=>?_
 ·refine aH ?_
  refine dT H [0,1,2,3,4,5,6] 7 fun K=>?_
  obtain⟨U8,aau,I⟩:=adu I
  refine fc [0,1,2,3,4,5,6,7] fun a G=>?_
  refine de fun w H=>?_
  refine go 2 fun a w G H=>?_
  obtain rfl:=oI I
  refine er Tryz.results236 G H ?_
  exact⟨E,bU H [2,3,4,5,6] 7 E⟩
 refine go 6 fun a w G H=>?_
 obtain⟨Vi,Qd,I⟩:=adu I
 have Ph:=dJ Qd H 
 refine cl po Ph ?_
 rintro v w ⟨rfl,H⟩ a G
 refine go 4 fun a w G H=>?_
 obtain rfl:=oI I
 refine er Tryz.results236 G H ?_
 exact⟨E,bU H [2,3,4,5,6] 7 E⟩
theorem iT{x0:aj}{x1:b9}{s1 s3:SV}{da:List SV}{s7 s9 e8 fe:SV}{fU:Nat}{dy:SV}{b0:Nat}{out:(Int×Int×aj)}{w0:World}{Bf:World→Prop}{Lr:List dw}(I:Sh.fK x0 x1=some out)(H:au w0 (pt b0 (af.enc (gx x0 s1 s3 s7 s9 e8 fe fU dy)) 203::ai 0 s1 5 x0.ae.b_::ai 0 s3 23 da::(a_ da x0.ae.ah)::ai 0 dy 3 x0.bf::Lr))(S:∀ w,au w Lr→Bf w)(q6:bw (cn (X:=UInt8) (a_ da x0.ae.ah).holds') da x0.ae.ah)(f8:cn Bf s7 x0.ae.data)(f10:cn Bf s9 x0.ae.sizes)(f12:cn Bf e8 x0.code)(f14:cn Bf fe x0.dq)(f16:jk Bf fU x0.cg):Calls Tryz.prog 206 #[.pointer (some ⟨b0,0,none⟩),.agg (b9.enc x1).toArray] w0 (gf fun v w'=>v = .tuple #[.int .i64 out.1,.int .i64 out.2.1]∧au w' (pt b0 (af.enc (af.mk (bu.mk x0.ae.bp s1 s3 s7 s9) e8 fe (some fU) out.2.2.bk dy x0.at_ x0.steps x0.done)) 203::ai 0 s1 5 x0.ae.b_::ai 0 s3 23 da::(a_ da x0.ae.ah)::ai 0 dy 3 x0.bf::Lr)):=by
 unfold Sh.fK at I
 refine ce Tryz.func206 Tryz.ntmps206 fun a G=>?_
 refine go 8 fun c0 a w G H=>?_
 refine dT H [0,1,2,3,4,5] 6 fun K=>?_
 refine fc [0,1,2,3,4,6,7] fun a G=>?_
 refine dx 5 fun w eX H=>?_
 obtain⟨Fq,HA,I⟩:=adu I
 have Hh:=dJ HA H 
 refine dl po Hh ?_
 rintro v w ⟨rfl,H⟩
 refine ds [0,1,2,3,4,5] 6 fun a G=>?_
 obtain⟨x47,Ly,I⟩:=adu I
 refine fc [8] fun a G=>?_
 refine ko 9 fun w eX H=>?_
 refine(aU (vs:=_) iw (H.obj (i:=1) E) G E E E E (ak.len _) (ak.one _) (by have:=(bT Ly);rw[ak.len,af.len];omega) (af.pi_regs _ _ _ (by have:=(bT Ly);omega)) fun w OE=>?_)
 have H:=H.chg OE (i:=1) rfl
 try dsimp only[List.set]at H
 refine dh ?_
 refine de fun w H=>?_
 refine go 2 fun a w G H=>?_
 refine aM G H I (fun F x a w=>match x with|v55=>Fr 25 [(4,.int .i64 0),(5,.int .i64 0)] a∧au w (pt b0 (af.enc (af.mk (bu.mk x0.ae.bp s1 s3 s7 s9) e8 fe (some fU) v55 dy x0.at_ x0.steps x0.done)) 203::ai 0 s1 5 x0.ae.b_::ai 0 s3 23 da::(a_ da x0.ae.ah)::ai 0 dy 3 x0.bf::Lr)) (fun c2 I c1 G H=>?_) ?_
 ·refine go 7 fun a w G H=>?_
  refine cc I (fun OX I=>?_) fun OX I=>?_
  ·refine dT H [0,1,2,3,4,5] 6 fun K=>?_
   obtain⟨NT,E5,I⟩:=adu I
   refine fc [0,1,2,3,4,5,6] fun a G=>?_
   refine ko 7 fun w eX H=>?_
   refine(bN Jf (H.obj (i:=1) E) G E E E E (by have:=(bT E5);rw[af.len];omega) (fT (af.ci_regs _ _ _ (aL E5).2) (ak.s_kind _ _) (af.pi_regs _ _ _ (by have:=(bT E5);omega)) (by have:=(bT E5);rw[af.len];omega) (by decide)) fun w OG=>?_)
   have H:=H.chg OG (i:=1) rfl
   try dsimp only[List.set]at H
   refine dh ?_
   refine de fun w H=>?_
   exact lf
  exact lf
 rintro v55 a w I ⟨G,H⟩
 unfold Sh.vY at I
 refine go 8 fun a w G H=>?_
 obtain rfl:=oI I
 refine er Tryz.results206 G H ?_
 exact⟨E,H⟩
theorem kK{x0:aj}{x1:b9}{s1 s3:SV}{da:List SV}{s7 s9 e8 fe:SV}{fU:Nat}{dy:SV}{b0:Nat}{out:(Int×Int)}{w0:World}{Bf:World→Prop}{Lr:List dw}(I:Sh.jN x0 x1=some out)(H:au w0 (pt b0 (af.enc (gx x0 s1 s3 s7 s9 e8 fe fU dy)) 203::ai 0 s1 5 x0.ae.b_::ai 0 s3 23 da::(a_ da x0.ae.ah)::ai 0 dy 3 x0.bf::Lr))(S:∀ w,au w Lr→Bf w)(q6:bw (cn (X:=UInt8) (a_ da x0.ae.ah).holds') da x0.ae.ah)(f8:cn Bf s7 x0.ae.data)(f10:cn Bf s9 x0.ae.sizes)(f12:cn Bf e8 x0.code)(f14:cn Bf fe x0.dq)(f16:jk Bf fU x0.cg):Calls Tryz.prog 210 #[.pointer (some ⟨b0,0,none⟩),.agg (b9.enc x1).toArray] w0 (gf fun v w'=>v = .tuple #[.int .i64 out.1,.int .i64 out.2]∧au w' (pt b0 (af.enc (gx x0 s1 s3 s7 s9 e8 fe fU dy)) 203::ai 0 s1 5 x0.ae.b_::ai 0 s3 23 da::(a_ da x0.ae.ah)::ai 0 dy 3 x0.bf::Lr)):=by
 unfold Sh.jN at I
 refine ce Tryz.func210 Tryz.ntmps210 fun a G=>?_
 refine go 14 fun c0 a w G H=>?_
 refine cc I (fun OJ I=>?_) fun OJ I=>?_
 ·refine go 9 fun a w G H=>?_
  obtain rfl:=oI I
  refine er Tryz.results210 G H ?_
  exact⟨E,bU H [1,2,3,4,5] 6 E⟩
 refine go 11 fun a w G H=>?_
 obtain rfl:=oI I
 refine er Tryz.results210 G H ?_
 exact⟨E,bU H [1,2,3,4,5] 6 E⟩
theorem jU{x0:aj}{x1:b9}{s1 s3:SV}{da:List SV}{s7 s9 e8 fe:SV}{fU:Nat}{dy:SV}{b0:Nat}{out:(Int×Int×aj)}{w0:World}{Bf:World→Prop}{Lr:List dw}(I:Sh.hS x0 x1=some out)(H:au w0 (pt b0 (af.enc (gx x0 s1 s3 s7 s9 e8 fe fU dy)) 203::ai 0 s1 5 x0.ae.b_::ai 0 s3 23 da::(a_ da x0.ae.ah)::ai 0 dy 3 x0.bf::Lr))(S:∀ w,au w Lr→Bf w)(q6:bw (cn (X:=UInt8) (a_ da x0.ae.ah).holds') da x0.ae.ah)(f8:cn Bf s7 x0.ae.data)(f10:cn Bf s9 x0.ae.sizes)(f12:cn Bf e8 x0.code)(f14:cn Bf fe x0.dq)(f16:jk Bf fU x0.cg):Calls Tryz.prog 213 #[.pointer (some ⟨b0,0,none⟩),.agg (b9.enc x1).toArray] w0 (gf fun v w'=>v = .tuple #[.int .i64 out.1,.int .i64 out.2.1]∧au w' (pt b0 (af.enc (af.mk (bu.mk x0.ae.bp s1 s3 s7 s9) e8 fe (some fU) x0.bk dy x0.at_ x0.steps out.2.2.done)) 203::ai 0 s1 5 x0.ae.b_::ai 0 s3 23 da::(a_ da x0.ae.ah)::ai 0 dy 3 x0.bf::Lr)):=by
 unfold Sh.hS at I
 refine ce Tryz.func213 Tryz.ntmps213 fun a G=>?_
 obtain⟨U7,aat,I⟩:=adu I
 refine go 15 fun c0 a w G H=>?_
 obtain⟨Vf,Qa,I⟩:=adu I
 have Pg:=cZ Qa H 
 refine cl ou Pg ?_
 rintro v w ⟨rfl,H⟩ a G
 refine go 3 fun a w G H=>?_
 refine cc I (fun He I=>?_) fun He I=>?_
 ·refine go 7 fun a w G H=>?_
  obtain rfl:=oI I
  refine er Tryz.results213 G H ?_
  exact⟨E,bU H [1,2,3,4,5] 6 E⟩
 refine go 17 fun a w G H=>?_
 obtain rfl:=oI I
 refine er Tryz.results213 G H ?_
 exact⟨E,bU H [1,2,3,4,5] 6 E⟩
theorem kM{x0:aj}{x1:b9}{s1 s3:SV}{da:List SV}{s7 s9 e8 fe:SV}{fU:Nat}{dy:SV}{b0:Nat}{out:(Int×Int×aj)}{w0:World}{Bf:World→Prop}{Lr:List dw}(I:Sh.jP x0 x1=some out)(H:au w0 (pt b0 (af.enc (gx x0 s1 s3 s7 s9 e8 fe fU dy)) 203::ai 0 s1 5 x0.ae.b_::ai 0 s3 23 da::(a_ da x0.ae.ah)::ai 0 dy 3 x0.bf::Lr))(S:∀ w,au w Lr→Bf w)(q6:bw (cn (X:=UInt8) (a_ da x0.ae.ah).holds') da x0.ae.ah)(f8:cn Bf s7 x0.ae.data)(f10:cn Bf s9 x0.ae.sizes)(f12:cn Bf e8 x0.code)(f14:cn Bf fe x0.dq)(f16:jk Bf fU x0.cg):Calls Tryz.prog 205 #[.pointer (some ⟨b0,0,none⟩),.agg (b9.enc x1).toArray] w0 (gf fun v w'=>v = .tuple #[.int .i64 out.1,.int .i64 out.2.1]∧au w' (pt b0 (af.enc (af.mk (bu.mk x0.ae.bp s1 s3 s7 s9) e8 fe (some fU) out.2.2.bk dy x0.at_ x0.steps x0.done)) 203::ai 0 s1 5 x0.ae.b_::ai 0 s3 23 da::(a_ da x0.ae.ah)::ai 0 dy 3 x0.bf::Lr)):=by
 unfold Sh.jP at I
 refine ce Tryz.func205 Tryz.ntmps205 fun a G=>?_
 refine go 8 fun c0 a w G H=>?_
 refine dT H [0,1,2,3,4,5] 6 fun K=>?_
 obtain⟨Vb,aaw,I⟩:=adu I
 refine fc [0,1,2,3,4,5,6,7,8] fun c1 a G=>?_
 refine de fun w H=>?_
 refine go 2 fun a w G H=>?_
 refine aM G H I (fun F x a w=>match x with|c4=>Fr 61 [(0,.pointer (some ⟨b0,0,none⟩)),(3,.pointer (some ⟨c0,0,none⟩)),(4,.int .i64 0),(5,.int .i64 0),(6,.pointer (some ⟨c1,0,none⟩))] a∧au w (pt c1 (ak.enc c4) 46::pt c0 (b9.enc x1) 101::pt b0 (af.enc (gx x0 s1 s3 s7 s9 e8 fe fU dy)) 203::ai 0 s1 5 x0.ae.b_::ai 0 s3 23 da::(a_ da x0.ae.ah)::ai 0 dy 3 x0.bf::Lr)) (fun g4 I g2 G H=>?_) ?_
 ·refine go 7 fun a w G H=>?_
  refine cc I (fun c9 I=>?_) fun c9 I=>?_
  ·refine dT H [0,1,2,3,4,5,6] 7 fun K=>?_
   obtain⟨g6,g3,I⟩:=adu I
   refine fc [0,1,2,3,4,5,6,7] fun a G=>?_
   refine de fun w H=>?_
   exact lf
  exact lf
 rintro c4 a w I ⟨G,H⟩
 unfold Sh.Js at I
 refine go 2 fun a w G H=>?_
 refine aM G H I (fun F x a w=>match x with|c5=>Fr 61 [(4,.int .i64 0),(5,.int .i64 0)] a∧au w (pt b0 (af.enc (af.mk (bu.mk x0.ae.bp s1 s3 s7 s9) e8 fe (some fU) c5 dy x0.at_ x0.steps x0.done)) 203::ai 0 s1 5 x0.ae.b_::ai 0 s3 23 da::(a_ da x0.ae.ah)::ai 0 dy 3 x0.bf::Lr)) (fun g5 I c6 G H=>?_) ?_
 ·refine go 4 fun a w G H=>?_
  obtain⟨g9,d7,I⟩:=adu I
  have d2:=cZ d7 H 
  refine cl ou d2 ?_
  rintro v w ⟨rfl,H⟩ a G
  refine go 4 fun a w G H=>?_
  refine cc I (fun d0 I=>?_) fun d0 I=>?_
  ·refine go 7 fun a w G H=>?_
   obtain rfl:=oI I
   have I:=bB c6
   subst I
   refine er Tryz.results205 G H ?_
   exact⟨E,bU H [2,3,4,5,6] 7 E⟩
  refine go 8 fun a w G H=>?_
  refine cc I (fun d1 I=>?_) fun d1 I=>?_
  ·refine dT H [0,1,2,3,4,5,6] 7 fun K=>?_
   refine fc [0,1,2,3,4,5,6,7,8,11,12] fun a G=>?_
   refine dx 9 fun w eX H=>?_
   obtain⟨i0,d8,I⟩:=adu I
   have d3:=xF d8 H 
   refine dl Tryz.call240 d3 ?_
   rintro v w ⟨rfl,H⟩
   refine ds [0,1,2,3,4,5,6] 7 fun a G=>?_
   refine dx 10 fun w eX H=>?_
   obtain⟨i1,d9,I⟩:=adu I
   have d4:=dJ d9 H 
   refine dl po d4 ?_
   rintro v w ⟨rfl,H⟩
   refine ds [0,1,2,3,4,5,6] 7 fun a G=>?_
   obtain⟨g7,c2,I⟩:=adu I
   refine fc [13] fun a G=>?_
   refine ko 14 fun w eX H=>?_
   refine(aU (vs:=_) iw (H.obj (i:=2) E) G E E E E (ak.len _) (ak.one _) (by have:=(bT c2);rw[ak.len,af.len];omega) (af.pi_regs _ _ _ (by have:=(bT c2);omega)) fun w c7=>?_)
   have H:=H.chg c7 (i:=2) rfl
   try dsimp only[List.set]at H
   refine dh ?_
   refine de fun w H=>?_
   exact lf
  refine dT H [0,1,2,3,4,5,6] 7 fun K=>?_
  refine fc [0,1,2,3,4,5,6,7,8,9,12,13] fun a G=>?_
  refine dx 10 fun w eX H=>?_
  obtain⟨i2,g0,I⟩:=adu I
  have d5:=zV g0 H 
  refine dl Tryz.call241 d5 ?_
  rintro v w ⟨rfl,H⟩
  refine ds [0,1,2,3,4,5,6] 7 fun a G=>?_
  refine dx 11 fun w eX H=>?_
  obtain⟨i3,g1,I⟩:=adu I
  have d6:=dJ g1 H 
  refine dl po d6 ?_
  rintro v w ⟨rfl,H⟩
  refine ds [0,1,2,3,4,5,6] 7 fun a G=>?_
  obtain⟨g8,c3,I⟩:=adu I
  refine fc [14] fun a G=>?_
  refine ko 15 fun w eX H=>?_
  refine(aU (vs:=_) iw (H.obj (i:=2) E) G E E E E (ak.len _) (ak.one _) (by have:=(bT c3);rw[ak.len,af.len];omega) (af.pi_regs _ _ _ (by have:=(bT c3);omega)) fun w c8=>?_)
  have H:=H.chg c8 (i:=2) rfl
  try dsimp only[List.set]at H
  refine dh ?_
  refine de fun w H=>?_
  exact lf
 rintro c5 a w I ⟨G,H⟩
 unfold Sh.aAq at I
 refine go 8 fun a w G H=>?_
 obtain rfl:=oI I
 refine er Tryz.results205 G H ?_
 exact⟨E,H⟩
theorem oS{x0:aj}{x1:ak}{s1 s3:SV}{da:List SV}{s7 s9 e8 fe:SV}{fU:Nat}{dy:SV}{b0:Nat}{out:Int}{w0:World}{Bf:World→Prop}{Lr:List dw}(I:Sh.pF x0 x1=some out)(H:au w0 (pt b0 (af.enc (gx x0 s1 s3 s7 s9 e8 fe fU dy)) 203::ai 0 s1 5 x0.ae.b_::ai 0 s3 23 da::(a_ da x0.ae.ah)::ai 0 dy 3 x0.bf::Lr))(S:∀ w,au w Lr→Bf w)(q6:bw (cn (X:=UInt8) (a_ da x0.ae.ah).holds') da x0.ae.ah)(f8:cn Bf s7 x0.ae.data)(f10:cn Bf s9 x0.ae.sizes)(f12:cn Bf e8 x0.code)(f14:cn Bf fe x0.dq)(f16:jk Bf fU x0.cg):Calls Tryz.prog 294 #[.pointer (some ⟨b0,0,none⟩),.agg (ak.enc x1).toArray] w0 (gf fun v w'=>v = .int .i64 out∧au w' (pt b0 (af.enc (gx x0 s1 s3 s7 s9 e8 fe fU dy)) 203::ai 0 s1 5 x0.ae.b_::ai 0 s3 23 da::(a_ da x0.ae.ah)::ai 0 dy 3 x0.bf::Lr)):=by
 unfold Sh.pF at I
 refine ce Tryz.func294 Tryz.ntmps294 fun a G=>?_
 refine go 20 fun c0 a w G H=>?_
 refine cc I (fun OL I=>?_) fun OL I=>?_
 ·exact lf
 refine go 6 fun a w G H=>?_
 refine cc I (fun OM I=>?_) fun OM I=>?_
 ·exact lf
 refine go 6 fun a w G H=>?_
 refine cc I (fun Ha I=>?_) fun Ha I=>?_
 ·exact lf
 refine go 4 fun a w G H=>?_
 refine dT H [0,1,2,3,4,5] 6 fun K=>?_
 obtain⟨U6,aas,I⟩:=adu I
 refine fc [0,1,2,3,4,5,6,7,8,9] fun a G=>?_
 refine de fun w H=>?_
 exact lf
theorem fK{x0:aj}{x1:ak}{x2 x3:Int}{s1 s3:SV}{da:List SV}{s7 s9 e8 fe:SV}{fU:Nat}{dy:SV}{b0:Nat}{out:Bool}{w0:World}{Bf:World→Prop}{Lr:List dw}(I:Sh.eH x0 x1 x2 x3=some out)(H:au w0 (pt b0 (af.enc (gx x0 s1 s3 s7 s9 e8 fe fU dy)) 203::ai 0 s1 5 x0.ae.b_::ai 0 s3 23 da::(a_ da x0.ae.ah)::ai 0 dy 3 x0.bf::Lr))(S:∀ w,au w Lr→Bf w)(q6:bw (cn (X:=UInt8) (a_ da x0.ae.ah).holds') da x0.ae.ah)(f8:cn Bf s7 x0.ae.data)(f10:cn Bf s9 x0.ae.sizes)(f12:cn Bf e8 x0.code)(f14:cn Bf fe x0.dq)(f16:jk Bf fU x0.cg):Calls Tryz.prog 243 #[.pointer (some ⟨b0,0,none⟩),.agg (ak.enc x1).toArray,.int .i64 x2,.int .i64 x3] w0 (gf fun v w'=>v = .bool out∧au w' (pt b0 (af.enc (gx x0 s1 s3 s7 s9 e8 fe fU dy)) 203::ai 0 s1 5 x0.ae.b_::ai 0 s3 23 da::(a_ da x0.ae.ah)::ai 0 dy 3 x0.bf::Lr)):=by
 unfold Sh.eH at I
 refine ce Tryz.func243 Tryz.ntmps243 fun a G=>?_
 refine go 7 fun c0 a w G H=>?_
 refine jm (pt b0 (af.enc (gx x0 s1 s3 s7 s9 e8 fe fU dy)) 203::ai 0 s1 5 x0.ae.b_::ai 0 s3 23 da::(a_ da x0.ae.ah)::ai 0 dy 3 x0.bf::Lr) G H I [] (fun v40 u=>(8,.bool v40)::u) (fun c2 I c1 G H=>?_) fun v40 a w I G H=>?_
 ·refine go 4 fun a w G H=>?_
  refine gs I (fun EU I=>?_) fun EU I=>?_
  ·refine go 5 fun a w G H=>?_
   obtain⟨Ji,Hz,I⟩:=adu I
   have Hg:=oS Hz (f_ H [1,2,3,4,5,0] 6) (Bf:=Bf) (tb S) q6 f8 f10 f12 f14 f16
   refine dA G E E E EU E E (aS (xs:=[.tmp 15,.tmp 16]) Tryz.call294 G E E Hg fun v w hR=>?_)
   obtain⟨rfl,H⟩:=hR
   intro a G
   exact lf
  exact lf
 replace I:Sh.rC v40=_:=I
 unfold Sh.rC at I
 exact lf
theorem gA{x0:aj}{x1:ak}{x2 x3:Int}{s1 s3:SV}{da:List SV}{s7 s9 e8 fe:SV}{fU:Nat}{dy:SV}{b0:Nat}{out:Int}{w0:World}{Bf:World→Prop}{Lr:List dw}(I:Sh.eJ x0 x1 x2 x3=some out)(H:au w0 (pt b0 (af.enc (gx x0 s1 s3 s7 s9 e8 fe fU dy)) 203::ai 0 s1 5 x0.ae.b_::ai 0 s3 23 da::(a_ da x0.ae.ah)::ai 0 dy 3 x0.bf::Lr))(S:∀ w,au w Lr→Bf w)(q6:bw (cn (X:=UInt8) (a_ da x0.ae.ah).holds') da x0.ae.ah)(f8:cn Bf s7 x0.ae.data)(f10:cn Bf s9 x0.ae.sizes)(f12:cn Bf e8 x0.code)(f14:cn Bf fe x0.dq)(f16:jk Bf fU x0.cg):Calls Tryz.prog 244 #[.pointer (some ⟨b0,0,none⟩),.agg (ak.enc x1).toArray,.int .i64 x2,.int .i64 x3] w0 (gf fun v w'=>v = .int .i64 out∧au w' (pt b0 (af.enc (gx x0 s1 s3 s7 s9 e8 fe fU dy)) 203::ai 0 s1 5 x0.ae.b_::ai 0 s3 23 da::(a_ da x0.ae.ah)::ai 0 dy 3 x0.bf::Lr)):=by
 unfold Sh.eJ at I
 refine ce Tryz.func244 Tryz.ntmps244 fun a G=>?_
 refine go 8 fun d3 a w G H=>?_
 refine jm (pt b0 (af.enc (gx x0 s1 s3 s7 s9 e8 fe fU dy)) 203::ai 0 s1 5 x0.ae.b_::ai 0 s3 23 da::(a_ da x0.ae.ah)::ai 0 dy 3 x0.bf::Lr) G H I [0,2,3,8] (fun c2 u=>(18,.bool c2)::u) (fun d5 I d4 G H=>?_) fun c2 a w I G H=>?_
 ·exact lf
 replace I:Sh.kF x0 x2 x3 c2=_:=I
 unfold Sh.kF at I
 refine aB ?_
 refine cc I (fun c9 I=>?_) fun c9 I=>?_
 ·exact lf
 refine go 8 fun a w G H=>?_
 refine jm (pt b0 (af.enc (gx x0 s1 s3 s7 s9 e8 fe fU dy)) 203::ai 0 s1 5 x0.ae.b_::ai 0 s3 23 da::(a_ da x0.ae.ah)::ai 0 dy 3 x0.bf::Lr) G H I [8] (fun c3 u=>(9,.int .i64 c3)::u) (fun d6 I c7 G H=>?_) fun c3 a w I G H=>?_
 ·refine go 7 fun a w G H=>?_
  refine aY G H I (fun F x a w=>match x with|(c0,c1)=>Fr 49 [(10,.int .i64 c0),(9,.int .i64 c1),(0,.pointer (some ⟨b0,0,none⟩)),(2,.int .i64 x2),(3,.int .i64 x3),(8,.int .i64 0)] a∧au w (pt b0 (af.enc (gx x0 s1 s3 s7 s9 e8 fe fU dy)) 203::ai 0 s1 5 x0.ae.b_::ai 0 s3 23 da::(a_ da x0.ae.ah)::ai 0 dy 3 x0.bf::Lr)) (fun G H=>⟨G.to ⟨E,E,E,E,E,E,trivial⟩,H⟩) ?_
  rintro⟨c0,c1⟩ a w d8 I c5 ⟨G,H⟩
  replace I:Sh.gP x0 x2 x3 c0 c1=_:=I
  unfold Sh.gP at I
  refine go 10 fun a w G H=>?_
  refine cc I (fun d0 I=>?_) fun d0 I=>?_
  ·refine go 3 fun a w G H=>?_
   refine jm (pt b0 (af.enc (gx x0 s1 s3 s7 s9 e8 fe fU dy)) 203::ai 0 s1 5 x0.ae.b_::ai 0 s3 23 da::(a_ da x0.ae.ah)::ai 0 dy 3 x0.bf::Lr) G H I [0,10,2,3,8] (fun c4 u=>(9,.int .i64 c4)::u) (fun d7 I c8 G H=>?_) fun c4 a w I G H=>?_
   ·refine go 5 fun a w G H=>?_
    refine aA G (sM G E E E (by decide)) E E E fun a G=>?_
    obtain⟨d9,c6,I⟩:=adu I
    refine go 13 fun a w G H=>?_
    refine aA G (aG vh G E E (((H.cells (i:=0) E (af.ci_memory_stack _ _ _ (aL c6).2)).sub 0 4 (bn.c_ptr _)).get 0 (ak.g_kind _))) E E E fun a G=>?_
    refine go 3 fun a w G H=>?_
    refine cc I (fun d1 I=>?_) fun d1 I=>?_
    ·refine go 6 fun a w G H=>?_
     obtain rfl:=oI I
     have I:=bB c8
     subst I
     have I:=c5 _ rfl
     subst I
     have I:=bB c7
     subst I
     refine aT Tryz.results244 G E ?_
     exact⟨E,H⟩
    refine go 7 fun a w G H=>?_
    refine aA G (aG vh G E E ((H.cells (i:=0) E (af.ci_memory_stack _ _ _ (aL c6).2)).get 12 (bn.g_mask _))) E E E fun a G=>?_
    refine go 1 fun a w G H=>?_
    refine aA G (mQ G E E E (by decide)) E E E fun a G=>?_
    obtain⟨d2,I⟩:=bE I
    refine aA G (iV G E E E (abe d2)) E E E fun a G=>?_
    exact lf
   replace I:Sh.oX c0 c4=_:=I
   unfold Sh.oX at I
   exact lf
  refine go 5 fun a w G H=>?_
  obtain rfl:=oI I
  have I:=c5 _ rfl
  subst I
  exact⟨c1,E,G.to ⟨E,E,trivial⟩,H⟩
 replace I:Sh.oW c3=_:=I
 unfold Sh.oW at I
 exact lf
theorem oR{x0:aj}{x1:b9}{x2:Int}{s1 s3:SV}{da:List SV}{s7 s9 e8 fe:SV}{fU:Nat}{dy:SV}{b0:Nat}{out:Int}{w0:World}{Bf:World→Prop}{Lr:List dw}(I:Sh.kY x0 x1 x2=some out)(H:au w0 (pt b0 (af.enc (gx x0 s1 s3 s7 s9 e8 fe fU dy)) 203::ai 0 s1 5 x0.ae.b_::ai 0 s3 23 da::(a_ da x0.ae.ah)::ai 0 dy 3 x0.bf::Lr))(S:∀ w,au w Lr→Bf w)(q6:bw (cn (X:=UInt8) (a_ da x0.ae.ah).holds') da x0.ae.ah)(f8:cn Bf s7 x0.ae.data)(f10:cn Bf s9 x0.ae.sizes)(f12:cn Bf e8 x0.code)(f14:cn Bf fe x0.dq)(f16:jk Bf fU x0.cg):Calls Tryz.prog 248 #[.pointer (some ⟨b0,0,none⟩),.agg (b9.enc x1).toArray,.int .i64 x2] w0 (gf fun v w'=>v = .int .i64 out∧au w' (pt b0 (af.enc (gx x0 s1 s3 s7 s9 e8 fe fU dy)) 203::ai 0 s1 5 x0.ae.b_::ai 0 s3 23 da::(a_ da x0.ae.ah)::ai 0 dy 3 x0.bf::Lr)):=by
 unfold Sh.kY at I
 refine ce Tryz.func248 Tryz.ntmps248 fun a G=>?_
 refine go 7 fun c0 a w G H=>?_
 refine dT H [0,1,2,3,4,5] 6 fun K=>?_
 obtain⟨CL,P6,I⟩:=adu I
 refine fc [0,1,2,3,4,5,6] fun a G=>?_
 refine aK G K 7 E ads E E E (fun w H=>(aG vh G E E ((H.cells (i:=1) E (af.ci_regs _ _ _ (aL P6).2)).get 3 (ak.g_x _)))) fun a G=>?_
 refine fc [8] fun a G=>?_
 refine de fun w H=>?_
 refine go 6 fun a w G H=>?_
 refine aA G (X4 G E E E) E E E fun a G=>?_
 refine go 9 fun a w G H=>?_
 refine cc I (fun OT I=>?_) fun OT I=>?_
 ·exact lf
 refine go 6 fun a w G H=>?_
 refine cc I (fun OU I=>?_) fun OU I=>?_
 ·refine go 4 fun a w G H=>?_
  refine aA G (zS G E E E) E E E fun a G=>?_
  exact lf
 refine go 6 fun a w G H=>?_
 refine cc I (fun OV I=>?_) fun OV I=>?_
 ·exact lf
 refine go 6 fun a w G H=>?_
 refine cc I (fun OW I=>?_) fun OW I=>?_
 ·refine go 4 fun a w G H=>?_
  refine aA G (EK G E E E) E E E fun a G=>?_
  exact lf
 obtain⟨Rn,P7,I⟩:=adu I
 refine go 10 fun a w G H=>?_
 refine aA G (aG vh G E E ((H.cells (i:=1) E (af.ci_regs _ _ _ (aL P7).2)).get 3 (ak.g_x _))) E E E fun a G=>?_
 refine go 4 fun a w G H=>?_
 refine jm (pt c0 (b9.enc x1) 101::pt b0 (af.enc (gx x0 s1 s3 s7 s9 e8 fe fU dy)) 203::ai 0 s1 5 x0.ae.b_::ai 0 s3 23 da::(a_ da x0.ae.ah)::ai 0 dy 3 x0.bf::Lr) G H I [2,4,6,7] (fun v57 u=>(8,.int .i64 v57)::u) (fun c3 I c1 G H=>?_) fun v57 a w I G H=>?_
 ·exact lf
 replace I:Sh.qZ x1 x2 CL v57=_:=I
 unfold Sh.qZ at I
 refine go 3 fun a w G H=>?_
 refine jm (pt b0 (af.enc (gx x0 s1 s3 s7 s9 e8 fe fU dy)) 203::ai 0 s1 5 x0.ae.b_::ai 0 s3 23 da::(a_ da x0.ae.ah)::ai 0 dy 3 x0.bf::Lr) G H I [2,6,7] (fun v66 u=>(59,.bool v66)::u) (fun c4 I c2 G H=>?_) fun v66 a w I G H=>?_
 ·exact lf
 replace I:Sh.rA x2 CL v66=_:=I
 unfold Sh.rA at I
 exact lf
end Go.Proofs
end
section
namespace Go.Proofs
open Go.Fw Go.Fx
set_option maxRecDepth 10000
theorem R2{x0:aj}{x1:ak}{x2 x3:Int}{m:List UInt8}(hk:(decide (x1.kind=3))=true)(h:Sh.pG x0 x1 x2 x3=some m):Fx.nj x0.ae.b_ x2 (IntKind.i64.wrap (x2+x3))=some m:=by
 unfold Sh.pG at h
 obtain⟨y,hy,h⟩:=adu h
 cases h;exact hy
theorem H_{x0:aj}{x1:ak}{x2 x3:Int}{m:List UInt8}(hk:(decide (x1.kind=3))=false)(hk':(decide (x1.kind=4))=true)(h:Sh.qG x0 x1 x2 x3=some m):Fx.nj x0.ae.data x2 (IntKind.i64.wrap (x2+x3))=some m:=by
 unfold Sh.qG at h
 obtain⟨y,hy,h⟩:=adu h
 cases h;exact hy
theorem R7{x0:aj}{x1:ak}{x2 x3:Int}{y:List UInt8×Int×List UInt8}(hk:(decide (x1.kind=3))=false)(hk':(decide (x1.kind=4))=false)(h:Sh.pH x0 x1 x2 x3=some y):Fx.get x0.ae.ah x1.table=some y.1∧Fx.nj y.1 y.2.1 (IntKind.i64.wrap (y.2.1+x3))=some y.2.2:=by
 unfold Sh.pH at h
 obtain⟨a,ha,h⟩:=adu h
 obtain⟨b,hb,h⟩:=adu h
 obtain⟨c,hc,h⟩:=adu h
 cases h;exact⟨hb,hc⟩
theorem pK{x0:aj}{x1:ak}{x2 x3:Int}{s1 s3:SV}{da:List SV}{s7 s9 e8 fe:SV}{fU:Nat}{dy:SV}{b0:Nat}{out:List UInt8}{w0:World}{Bf:World→Prop}{Lr:List dw}(I:Sh.pG x0 x1 x2 x3=some out)(H:au w0 (pt b0 (af.enc (gx x0 s1 s3 s7 s9 e8 fe fU dy)) 203::ai 0 s1 5 x0.ae.b_::ai 0 s3 23 da::(a_ da x0.ae.ah)::ai 0 dy 3 x0.bf::Lr))(S:∀ w,au w Lr→Bf w)(q6:bw (cn (X:=UInt8) (a_ da x0.ae.ah).holds') da x0.ae.ah)(f8:cn Bf s7 x0.ae.data)(f10:cn Bf s9 x0.ae.sizes)(f12:cn Bf e8 x0.code)(f14:cn Bf fe x0.dq)(f16:jk Bf fU x0.cg)(hk0:(decide (x1.kind=3))=true):Calls Tryz.prog 297 #[.pointer (some ⟨b0,0,none⟩),.agg (ak.enc x1).toArray,.int .i64 x2,.int .i64 x3] w0 (gf fun v w'=>v=((s1.cut (x2:Int).toNat (IntKind.i64.wrap (x2+x3):Int).toNat 1)).v∧au w' (pt b0 (af.enc (gx x0 s1 s3 s7 s9 e8 fe fU dy)) 203::ai 0 s1 5 x0.ae.b_::ai 0 s3 23 da::(a_ da x0.ae.ah)::ai 0 dy 3 x0.bf::Lr)):=by
 unfold Sh.pG at I
 refine ce Tryz.func297 Tryz.ntmps297 fun a G=>?_
 refine go 2 fun a w G H=>?_
 refine aN G E E E (gN G E E E fun c1 w c2 c0=>?_)
 have H:=H.plus c0
 try dsimp only[List.set]at H
 intro a G
 exact lf
theorem oE{x0:aj}{x1:ak}{x2 x3:Int}{s1 s3:SV}{da:List SV}{s7 s9 e8 fe:SV}{fU:Nat}{dy:SV}{b0:Nat}{out:List UInt8}{w0:World}{Bf:World→Prop}{Lr:List dw}(I:Sh.qG x0 x1 x2 x3=some out)(H:au w0 (pt b0 (af.enc (gx x0 s1 s3 s7 s9 e8 fe fU dy)) 203::ai 0 s1 5 x0.ae.b_::ai 0 s3 23 da::(a_ da x0.ae.ah)::ai 0 dy 3 x0.bf::Lr))(S:∀ w,au w Lr→Bf w)(q6:bw (cn (X:=UInt8) (a_ da x0.ae.ah).holds') da x0.ae.ah)(f8:cn Bf s7 x0.ae.data)(f10:cn Bf s9 x0.ae.sizes)(f12:cn Bf e8 x0.code)(f14:cn Bf fe x0.dq)(f16:jk Bf fU x0.cg)(hk0:(decide (x1.kind=3))=false)(hk1:(decide (x1.kind=4))=true):Calls Tryz.prog 297 #[.pointer (some ⟨b0,0,none⟩),.agg (ak.enc x1).toArray,.int .i64 x2,.int .i64 x3] w0 (gf fun v w'=>v=((s7.cut (x2:Int).toNat (IntKind.i64.wrap (x2+x3):Int).toNat 1)).v∧au w' (pt b0 (af.enc (gx x0 s1 s3 s7 s9 e8 fe fU dy)) 203::ai 0 s1 5 x0.ae.b_::ai 0 s3 23 da::(a_ da x0.ae.ah)::ai 0 dy 3 x0.bf::Lr)):=by
 unfold Sh.qG at I
 refine ce Tryz.func297 Tryz.ntmps297 fun a G=>?_
 refine go 2 fun a w G H=>?_
 refine aN G E E E (gN G E E E fun c1 w c2 c0=>?_)
 have H:=H.plus c0
 try dsimp only[List.set]at H
 intro a G
 exact lf
theorem pL{x0:aj}{x1:ak}{x2 x3:Int}{s1 s3:SV}{da:List SV}{s7 s9 e8 fe:SV}{fU:Nat}{dy:SV}{b0:Nat}{out:(List UInt8×Int×List UInt8)}{w0:World}{Bf:World→Prop}{Lr:List dw}(I:Sh.pH x0 x1 x2 x3=some out)(H:au w0 (pt b0 (af.enc (gx x0 s1 s3 s7 s9 e8 fe fU dy)) 203::ai 0 s1 5 x0.ae.b_::ai 0 s3 23 da::(a_ da x0.ae.ah)::ai 0 dy 3 x0.bf::Lr))(S:∀ w,au w Lr→Bf w)(q6:bw (cn (X:=UInt8) (a_ da x0.ae.ah).holds') da x0.ae.ah)(f8:cn Bf s7 x0.ae.data)(f10:cn Bf s9 x0.ae.sizes)(f12:cn Bf e8 x0.code)(f14:cn Bf fe x0.dq)(f16:jk Bf fU x0.cg)(hk0:(decide (x1.kind=3))=false)(hk1:(decide (x1.kind=4))=false):Calls Tryz.prog 297 #[.pointer (some ⟨b0,0,none⟩),.agg (ak.enc x1).toArray,.int .i64 x2,.int .i64 x3] w0 (gf fun v w'=>∃ y:SV,da[(x1.table:Int).toNat]? = some y∧v=(y.cut (out.2.1:Int).toNat (IntKind.i64.wrap (out.2.1+x3):Int).toNat 1).v∧au w' (pt b0 (af.enc (gx x0 s1 s3 s7 s9 e8 fe fU dy)) 203::ai 0 s1 5 x0.ae.b_::ai 0 s3 23 da::(a_ da x0.ae.ah)::ai 0 dy 3 x0.bf::Lr)):=by
 unfold Sh.pH at I
 refine ce Tryz.func297 Tryz.ntmps297 fun a G=>?_
 refine go 32 fun c0 a w G H=>?_
 refine dT H [0,1,2,3,4,5] 6 fun K=>?_
 obtain⟨x20,aar,I⟩:=adu I
 refine fc [0,1,2,3,4,5,6,7,8,9,10,11,12,13,14] fun a G=>?_
 refine de fun w H=>?_
 refine go 2 fun a w G H=>?_
 refine dT H [0,1,2,3,4,5] 6 fun K=>?_
 obtain⟨Rm,Lx,I⟩:=adu I
 have KN:=aL Lx
 obtain⟨Ud,Rt,FT⟩:=YX q6 Lx
 refine fc [0,1,2,3,4,5,6,7,8,9,10,11] fun a G=>?_
 obtain⟨U5,P4,I⟩:=adu I
 refine aK G K 12 E ads E E E (fun w H=>(fC (JI (H.hold 4 _ E) FT KN.2) P4 ji sw E G E E (.inr ⟨_,_,E,E⟩) (.inr ⟨_,_,E,E⟩))) fun a G=>?_
 refine fc [13] fun a G=>?_
 refine de fun w H=>?_
 refine go 2 fun a w G H=>?_
 obtain rfl:=oI I
 refine aT Tryz.results297 G E ?_
 exact⟨Rt,FT,E,bU H [1,2,3,4,5] 6 E⟩
theorem lA{x0:aj}{x1:ak}{x2 x3:Int}{s1 s3:SV}{da:List SV}{s7 s9 e8 fe:SV}{fU:Nat}{dy:SV}{b0:Nat}{out:List UInt8}{w0:World}{Bf:World→Prop}{Lr:List dw}(I:Sh.kN x0 x1 x2 x3=some out)(H:au w0 (pt b0 (af.enc (gx x0 s1 s3 s7 s9 e8 fe fU dy)) 203::ai 0 s1 5 x0.ae.b_::ai 0 s3 23 da::(a_ da x0.ae.ah)::ai 0 dy 3 x0.bf::Lr))(S:∀ w,au w Lr→Bf w)(q6:bw (cn (X:=UInt8) (a_ da x0.ae.ah).holds') da x0.ae.ah)(f8:cn Bf s7 x0.ae.data)(f10:cn Bf s9 x0.ae.sizes)(f12:cn Bf e8 x0.code)(f14:cn Bf fe x0.dq)(f16:jk Bf fU x0.cg):Calls Tryz.prog 296 #[.pointer (some ⟨b0,0,none⟩),.agg (ak.enc x1).toArray,.int .i64 x2,.int .i64 x3] w0 (gf fun v w'=>∃ (d2:SV),v=(d2).v∧au w' (ai 0 d2 5 out::pt b0 (af.enc (gx x0 s1 s3 s7 s9 e8 fe fU dy)) 203::ai 0 s1 5 x0.ae.b_::ai 0 s3 23 da::(a_ da x0.ae.ah)::ai 0 dy 3 x0.bf::Lr)):=by
 unfold Sh.kN at I
 refine ce Tryz.func296 Tryz.ntmps296 fun a G=>?_
 refine go 14 fun i7 a w G H=>?_
 refine cc I (fun d7 I=>?_) fun d7 I=>?_
 ·refine go 6 fun a w G H=>?_
  refine gs I (fun c0 I=>?_) fun c0 I=>?_
  ·obtain⟨j1,c8,I⟩:=adu I
   have g6:Fx.nj x0.ae.b_ x2 (IntKind.i64.wrap (x2+x3))=some j1:=R2 c0 c8
   have d9:=pK c8 (f_ H [1,2,3,4,5,0] 6) (Bf:=Bf) (tb S) q6 f8 f10 f12 f14 f16 c0
   refine cl xu d9 ?_
   rintro v w ⟨rfl,H⟩ a G
   obtain⟨k0,i4,I⟩:=adu I
   have g0:=cU i4 H (fun _ h=>h) (fun w H=>(Ie (H.rowS (X:=UInt8) (i:=1) rfl) g6 rfl))
   refine cl rM g0 ?_
   rintro v w ⟨i8,rfl,H⟩ a G
   refine go 4 fun a w G H=>?_
   obtain rfl:=oI I
   refine aT BG G E ?_
   exact⟨i8,E,bU H [0,1,2,3,4,5] 7 E⟩
  refine gs I (fun c1 I=>?_) fun c1 I=>?_
  ·obtain⟨j2,c9,I⟩:=adu I
   have g7:Fx.nj x0.ae.data x2 (IntKind.i64.wrap (x2+x3))=some j2:=H_ c0 c1 c9
   have g1:=oE c9 (f_ H [1,2,3,4,5,0] 6) (Bf:=Bf) (tb S) q6 f8 f10 f12 f14 f16 c0 c1
   refine cl xu g1 ?_
   rintro v w ⟨rfl,H⟩ a G
   obtain⟨k1,i5,I⟩:=adu I
   have g2:=cU i5 H (Bf:=Bf) (tb S) (cn.nj f8 g7 rfl)
   refine cl rM g2 ?_
   rintro v w ⟨i9,rfl,H⟩ a G
   refine go 4 fun a w G H=>?_
   obtain rfl:=oI I
   refine aT BG G E ?_
   exact⟨i9,E,bU H [0,1,2,3,4,5] 7 E⟩
  obtain⟨k2,d0,I⟩:=adu I
  obtain⟨g8,g9⟩:=R7 c0 c1 d0
  have g3:=pL d0 (f_ H [1,2,3,4,5,0] 6) (Bf:=Bf) (tb S) q6 f8 f10 f12 f14 f16 c0 c1
  refine cl xu g3 ?_
  rintro v w ⟨j7,g5,rfl,H⟩ a G
  obtain⟨k3,i6,I⟩:=adu I
  have g4:=cU i6 H (fun _ h=>h) (fun w H=>(Ie (JI (H.hold 3 _ rfl) g5 (aL g8).2) g9 rfl))
  refine cl rM g4 ?_
  rintro v w ⟨j0,rfl,H⟩ a G
  refine go 4 fun a w G H=>?_
  obtain rfl:=oI I
  refine aT BG G E ?_
  exact⟨j0,E,bU H [0,1,2,3,4,5] 7 E⟩
 refine go 5 fun a w G H=>?_
 obtain⟨d4,i0,I⟩:=adu I
 refine aN G E E E (N6 i0 ji sw E E E G E E E fun c6 w c5=>?_)
 have H:=H.plus c5
 try dsimp only[List.set]at H
 intro a G
 refine go 4 fun a w G H=>?_
 refine aM G H I (fun F x a w=>match x with|d3=>∃ (c3:SV),Fr 47 [(9,(c3).v),(8,(SV.nil).v)] a∧au w (ai 0 c3 5 d3::pt b0 (af.enc (gx x0 s1 s3 s7 s9 e8 fe fU dy)) 203::ai 0 s1 5 x0.ae.b_::ai 0 s3 23 da::(a_ da x0.ae.ah)::ai 0 dy 3 x0.bf::Lr)) (fun j5 I j4 G H=>?_) ?_
 ·refine go 8 fun a w G H=>?_
  refine aY G H I (fun F x a w=>match x with|(c7,c4)=>∃ (c2:SV),Fr 47 [(24,.int .i64 c7),(9,(c2).v),(0,.pointer (some ⟨b0,0,none⟩)),(2,.int .i64 x2),(23,.int .i64 (d4.length:Int)),(8,(SV.nil).v)] a∧au w (ai 0 c2 5 c4::pt b0 (af.enc (gx x0 s1 s3 s7 s9 e8 fe fU dy)) 203::ai 0 s1 5 x0.ae.b_::ai 0 s3 23 da::(a_ da x0.ae.ah)::ai 0 dy 3 x0.bf::Lr)) (fun G H=>⟨c6,G.to ⟨E,E,E,E,E,E,trivial⟩,f_ H [0,2,3,4,5,6] 7⟩) ?_
  rintro⟨c7,c4⟩ a w j6 I d5 ⟨c2,G,H⟩
  replace I:Sh.kL x0 x2 d4 c7 c4=_:=I
  unfold Sh.kL at I
  refine go 6 fun a w G H=>?_
  refine cc I (fun d8 I=>?_) fun d8 I=>?_
  ·refine go 17 fun a w G H=>?_
   refine aA G (sM G E E E (by decide)) E E E fun a G=>?_
   refine go 3 fun a w G H=>?_
   refine aA G (mQ G E E E (by decide)) E E E fun a G=>?_
   obtain⟨j8,i1,j3,i2,I⟩:=b2 I
   refine go 5 fun a w G H=>?_
   refine aA G (aG Tryz.isAgg5 G E E (((H.cells (i:=1) E (af.ci_memory_stack _ _ _ (aL i1).2)).sub 4 8 (bn.c_bytes _)).get _ (qM (aL i2).2 E))) E E E fun a G=>?_
   obtain⟨j9,i3,I⟩:=adu I
   have d1:=aL i3
   refine go 1 fun a w G H=>?_
   refine bC E E (dB (d:=0) (q:=j3) NQ (H.own (X:=UInt8) (i:=0) E) d1.2 G E E E E E (by decide) E fun w d6=>?_)
   have H:=H.chg d6 (i:=0) rfl
   try dsimp only[List.set]at H
   refine go 8 fun a w G H=>?_
   exact jr I ⟨c2,G.t,H⟩
  refine go 5 fun a w G H=>?_
  obtain rfl:=oI I
  have I:=d5 _ rfl
  subst I
  exact⟨c4,E,c2,G.to ⟨E,E,trivial⟩,H⟩
 rintro d3 a w I ⟨c3,G,H⟩
 unfold Sh.FH at I
 refine go 8 fun a w G H=>?_
 obtain rfl:=oI I
 refine aT BG G E ?_
 exact⟨c3,E,H⟩
theorem fQ{x0:aj}{x1:ak}{x2:Int}{x3:List UInt8}{s1 s3:SV}{da:List SV}{s7 s9 e8 fe:SV}{fU:Nat}{dy:SV}{b0:Nat}{Cm:SV}{out:aj}{w0:World}{Bf:World→Prop}{Lr:List dw}(I:Sh.eY x0 x1 x2 x3=some out)(H:au w0 (pt b0 (af.enc (gx x0 s1 s3 s7 s9 e8 fe fU dy)) 203::ai 0 s1 5 x0.ae.b_::ai 0 s3 23 da::(a_ da x0.ae.ah)::ai 0 dy 3 x0.bf::Lr))(S:∀ w,au w Lr→Bf w)(q6:bw (cn (X:=UInt8) (a_ da x0.ae.ah).holds') da x0.ae.ah)(f8:cn Bf s7 x0.ae.data)(f10:cn Bf s9 x0.ae.sizes)(f12:cn Bf e8 x0.code)(f14:cn Bf fe x0.dq)(f16:jk Bf fU x0.cg)(f20:cn Bf Cm x3):Calls Tryz.prog 246 #[.pointer (some ⟨b0,0,none⟩),.agg (ak.enc x1).toArray,.int .i64 x2,(Cm).v] w0 (gf fun v w'=>∃ (d1:SV) (d2:SV) (c4:List SV),v = .tuple #[]∧bw (cn (X:=UInt8) (a_ c4 out.ae.ah).holds') c4 out.ae.ah∧au w' (pt b0 (af.enc (af.mk (bu.mk out.ae.bp d1 d2 s7 s9) e8 fe (some fU) x0.bk dy x0.at_ x0.steps x0.done)) 203::ai 0 d1 5 out.ae.b_::ai 0 d2 23 c4::(a_ c4 out.ae.ah)::ai 0 dy 3 x0.bf::Lr)):=by
 unfold Sh.eY at I
 refine ce Tryz.func246 Tryz.ntmps246 fun a G=>?_
 refine go 13 fun i5 a w G H=>?_
 refine cc I (fun g0 I=>?_) fun g0 I=>?_
 ·refine go 7 fun a w G H=>?_
  refine gs I (fun c0 I=>?_) fun c0 I=>?_
  ·obtain⟨i7,c8,I⟩:=adu I
   have j3:Fx.nj x0.ae.b_ x2 (IntKind.i64.wrap (x2+(x3.length:Int)))=some i7:=R2 c0 c8
   have g3:=pK c8 (f_ H [1,2,3,4,5,0] 6) (Bf:=Bf) (tb S) q6 f8 f10 f12 f14 f16 c0
   refine cl xu g3 ?_
   rintro v w ⟨rfl,H⟩ a G
   refine go 1 fun a w G H=>?_
   obtain⟨j9,i0,I⟩:=adu I
   refine aN G E E E (Ze i0 ji sw E G E E E (H.own (X:=UInt8) (i:=1) E) (f20 _ (S _ (dZ H 6))) fun w d5=>?_)
   have H:=H.chg d5 (i:=1) rfl
   try dsimp only[List.set]at H
   intro a G
   refine go 3 fun a w G H=>?_
   obtain rfl:=oI I
   refine vH Tryz.results246 G ?_
   exact⟨s1,s3,da,E,q6,bU H [0,1,2,3,4] 6 E⟩
  refine gs I (fun c2 I=>?_) fun c2 I=>?_
  ·obtain⟨i8,c9,I⟩:=adu I
   have j4:Fx.nj x0.ae.data x2 (IntKind.i64.wrap (x2+(x3.length:Int)))=some i8:=H_ c0 c2 c9
   have g4:=oE c9 (f_ H [1,2,3,4,5,0] 6) (Bf:=Bf) (tb S) q6 f8 f10 f12 f14 f16 c0 c2
   refine cl xu g4 ?_
   rintro v w ⟨rfl,H⟩ a G
   refine go 1 fun a w G H=>?_
   obtain⟨g5,I⟩:=bE I
   cases g5
  obtain⟨k5,d0,I⟩:=adu I
  obtain⟨g9,j5⟩:=R7 c0 c2 d0
  have g6:=pL d0 (f_ H [1,2,3,4,5,0] 6) (Bf:=Bf) (tb S) q6 f8 f10 f12 f14 f16 c0 c2
  refine cl xu g6 ?_
  rintro v w ⟨j8,g8,rfl,H⟩ a G
  refine go 1 fun a w G H=>?_
  obtain⟨i9,i1,I⟩:=adu I
  refine aN G E E E (Zf i1 (aL g9).2 ji sw E G E E E (H.hold 3 _ E) g8 (f20 _ (S _ (dZ H 6))) fun w d6=>?_)
  have H:=H.chg d6 (i:=3) rfl
  have i6:=XB (k:=(x1.table:Int).toNat) (r:=i9) q6
  try dsimp only[List.set]at H
  intro a G
  refine go 3 fun a w G H=>?_
  obtain rfl:=oI I
  refine vH Tryz.results246 G ?_
  exact⟨s1,s3,da,E,i6,bU H [0,1,2,3,4] 6 E⟩
 refine go 10 fun a w G H=>?_
 refine aY G H I (fun F x a w=>match x with|(c7,c3)=>Fr 68 [(24,.int .i64 c3),(0,.pointer (some ⟨b0,0,none⟩)),(2,.int .i64 x2),(22,(Cm).v),(23,.int .i64 (x3.length:Int))] a∧au w (pt b0 (af.enc (af.mk (bu.mk c7 s1 s3 s7 s9) e8 fe (some fU) x0.bk dy x0.at_ x0.steps x0.done)) 203::ai 0 s1 5 x0.ae.b_::ai 0 s3 23 da::(a_ da x0.ae.ah)::ai 0 dy 3 x0.bf::Lr)) (fun G H=>⟨G.to ⟨E,E,E,E,E,trivial⟩,f_ H [1,2,3,4,5] 6⟩) ?_
 rintro⟨c7,c3⟩ a w j7 I d4 ⟨G,H⟩
 replace I:Sh.iU x0 x2 x3 c7 c3=_:=I
 unfold Sh.iU at I
 refine go 6 fun a w G H=>?_
 refine cc I (fun g1 I=>?_) fun g1 I=>?_
 ·obtain⟨j0,i2,I⟩:=adu I
  have j1:=aL i2
  refine go 19 fun a w G H=>?_
  refine aA G (sM G E E E (by decide)) E E E fun a G=>?_
  obtain⟨k0,c1,I⟩:=adu I
  refine go 7 fun a w G H=>?_
  refine aM G H I (fun F x a w=>match x with|d3=>Fr 68 ([(0,.pointer (some ⟨b0,0,none⟩)),(2,.int .i64 x2),(22,(Cm).v),(23,.int .i64 (x3.length:Int)),(24,.int .i64 c3),(8,.int .i64 c3),(9,.int .u8 (j0.toNat:Int))]++q7 F [10]) a∧au w (pt b0 (af.enc (af.mk (bu.mk d3 s1 s3 s7 s9) e8 fe (some fU) x0.bk dy x0.at_ x0.steps x0.done)) 203::ai 0 s1 5 x0.ae.b_::ai 0 s3 23 da::(a_ da x0.ae.ah)::ai 0 dy 3 x0.bf::Lr)) (fun j6 I j2 G H=>?_) ?_
  ·refine go 6 fun a w G H=>?_
   refine aA G (aG vh G E E (((H.cells (i:=0) E (af.ci_memory_stack _ _ _ (aL c1).2)).sub 0 4 (bn.c_ptr _)).get 0 (ak.g_kind _))) E E E fun a G=>?_
   refine go 3 fun a w G H=>?_
   refine cc I (fun g2 I=>?_) fun g2 I=>?_
   ·refine go 2 fun a w G H=>?_
    refine aA G (aW z50 Tryz.underlying50 MB G (parts:=[]) E E bD) E E E fun a G=>?_
    refine go 1 fun a w G H=>?_
    refine bC E E (aU (vs:=_) Tryz.sizeOf50 (H.obj (i:=0) E) G E E E E (bn.len _) (bn.one _) (by have:=(bT c1);rw[bn.len,af.len];omega) (af.pi_memory_stack _ _ _ (by have:=(bT c1);omega)) fun w d7=>?_)
    have H:=H.chg d7 (i:=0) rfl
    try dsimp only[List.set]at H
    refine aJ (aB ?_)
    obtain rfl:=oI I
    exact⟨(c7.set ((IntKind.i64.wrap (Int.tdiv (IntKind.i64.wrap (x2+c3)) 8)):Int).toNat bn.zero),E,G.again ⟨E,E,E,E,E,E,E,trivial⟩ ⟨E,trivial⟩,H⟩
   refine bM (aB ?_)
   obtain rfl:=oI I
   exact⟨c7,E,G.again ⟨E,E,E,E,E,E,E,trivial⟩ ⟨E,trivial⟩,H⟩
  rintro d3 a w I ⟨G,H⟩
  unfold Sh.tB at I
  refine go 7 fun a w G H=>?_
  refine aA G (mQ G E E E (by decide)) E E E fun a G=>?_
  obtain⟨k1,c5,k2,c6,I⟩:=b2 I
  refine go 4 fun a w G H=>?_
  refine bC E E (bN NQ (H.obj (i:=0) E) G E E E E (by have:=(bT c5);have:=(bT c6);rw[af.len];omega) (Xf (af.ci_memory_stack _ _ _ (aL c5).2) (Gu (bn.pi_bytes _ _ _ (by have:=(bT c6);omega)) (by have:=(bT c6);rw[bn.len];omega)) (af.pi_memory_stack _ _ _ (by have:=(bT c5);omega)) (by have:=(bT c5);rw[af.len];omega) (by have:=(bT c6);omega)) fun w d8=>?_)
  have H:=H.chg d8 (i:=0) rfl
  try dsimp only[List.set]at H
  refine aJ (aB ?_)
  refine dT H [0,1,2,3,4] 5 fun K=>?_
  refine fc [0,1,2] fun a G=>?_
  obtain⟨k3,i3,I⟩:=adu I
  refine aK G K 3 E ads E E E (fun w H=>(aG vh G E E ((H.cells (i:=0) E (af.ci_memory_stack _ _ _ (aL i3).2)).get 12 (bn.g_mask _)))) fun a G=>?_
  refine fc [4,5,6] fun a G=>?_
  refine aK G K 7 E ads E E E (fun w H=>(mQ G E E E (by decide))) fun a G=>?_
  obtain⟨g7,I⟩:=bE I
  refine aK G K 8 E ads E E E (fun w H=>(nV G E E E (abe g7))) fun a G=>?_
  refine aK G K 9 E ads E E E (fun w H=>(zS G E E E)) fun a G=>?_
  refine fc [10,11] fun a G=>?_
  refine ko 12 fun w eX H=>?_
  obtain⟨k4,i4,I⟩:=adu I
  refine(bN Jf (H.obj (i:=0) E) G E E E E (by have:=(bT c1);rw[af.len];omega) (fT (af.ci_memory_stack _ _ _ (aL i4).2) (bn.s_mask _ _) (af.pi_memory_stack _ _ _ (by have:=(bT c1);omega)) (by have:=(bT c1);rw[af.len];omega) (by decide)) fun w d9=>?_)
  have H:=H.chg d9 (i:=0) rfl
  try dsimp only[List.set]at H
  refine dh ?_
  refine de fun w H=>?_
  exact lf
 refine go 4 fun a w G H=>?_
 obtain rfl:=oI I
 have I:=d4 _ rfl
 subst I
 refine eT Tryz.results246 G ?_
 exact⟨s1,s3,da,E,q6,H⟩
theorem lN{x0:aj}{x1:ak}{x2 x3:Int}{x4:Bool}{s1 s3:SV}{da:List SV}{s7 s9 e8 fe:SV}{fU:Nat}{dy:SV}{b0:Nat}{out:Int}{w0:World}{Bf:World→Prop}{Lr:List dw}(I:Sh.pE x0 x1 x2 x3 x4=some out)(H:au w0 (pt b0 (af.enc (gx x0 s1 s3 s7 s9 e8 fe fU dy)) 203::ai 0 s1 5 x0.ae.b_::ai 0 s3 23 da::(a_ da x0.ae.ah)::ai 0 dy 3 x0.bf::Lr))(S:∀ w,au w Lr→Bf w)(q6:bw (cn (X:=UInt8) (a_ da x0.ae.ah).holds') da x0.ae.ah)(f8:cn Bf s7 x0.ae.data)(f10:cn Bf s9 x0.ae.sizes)(f12:cn Bf e8 x0.code)(f14:cn Bf fe x0.dq)(f16:jk Bf fU x0.cg):Calls Tryz.prog 245 #[.pointer (some ⟨b0,0,none⟩),.agg (ak.enc x1).toArray,.int .i64 x2,.int .i64 x3,.bool x4] w0 (gf fun v w'=>v = .int .i64 out∧au w' (pt b0 (af.enc (gx x0 s1 s3 s7 s9 e8 fe fU dy)) 203::ai 0 s1 5 x0.ae.b_::ai 0 s3 23 da::(a_ da x0.ae.ah)::ai 0 dy 3 x0.bf::Lr)):=by
 unfold Sh.pE at I
 refine ce Tryz.func245 Tryz.ntmps245 fun a G=>?_
 refine go 12 fun c0 a w G H=>?_
 obtain⟨Vd,P9,I⟩:=adu I
 have O_:=lA P9 (f_ H [1,2,3,4,5,0] 6) (Bf:=Bf) (tb S) q6 f8 f10 f12 f14 f16
 refine cl Tryz.call296 O_ ?_
 rintro v w ⟨QQ,rfl,H⟩ a G
 refine go 1 fun a w G H=>?_
 obtain⟨Ve,P_,I⟩:=adu I
 have Pe:=VB P_ H (fun _ h=>h) (fun w H=>(H.rowS (X:=UInt8) (i:=0) rfl))
 refine cl Tryz.call295 Pe ?_
 rintro v w ⟨rfl,H⟩ a G
 exact lf
theorem kL{x0:aj}{x1:b9}{s1 s3:SV}{da:List SV}{s7 s9 e8 fe:SV}{fU:Nat}{dy:SV}{b0:Nat}{out:(Int×Int×aj)}{w0:World}{Bf:World→Prop}{Lr:List dw}(I:Sh.jO x0 x1=some out)(H:au w0 (pt b0 (af.enc (gx x0 s1 s3 s7 s9 e8 fe fU dy)) 203::ai 0 s1 5 x0.ae.b_::ai 0 s3 23 da::(a_ da x0.ae.ah)::ai 0 dy 3 x0.bf::Lr))(S:∀ w,au w Lr→Bf w)(q6:bw (cn (X:=UInt8) (a_ da x0.ae.ah).holds') da x0.ae.ah)(f8:cn Bf s7 x0.ae.data)(f10:cn Bf s9 x0.ae.sizes)(f12:cn Bf e8 x0.code)(f14:cn Bf fe x0.dq)(f16:jk Bf fU x0.cg):Calls Tryz.prog 207 #[.pointer (some ⟨b0,0,none⟩),.agg (b9.enc x1).toArray] w0 (gf fun v w'=>v = .tuple #[.int .i64 out.1,.int .i64 out.2.1]∧au w' (pt b0 (af.enc (af.mk (bu.mk x0.ae.bp s1 s3 s7 s9) e8 fe (some fU) out.2.2.bk dy x0.at_ x0.steps x0.done)) 203::ai 0 s1 5 x0.ae.b_::ai 0 s3 23 da::(a_ da x0.ae.ah)::ai 0 dy 3 x0.bf::Lr)):=by
 unfold Sh.jO at I
 refine ce Tryz.func207 Tryz.ntmps207 fun a G=>?_
 refine go 8 fun c1 a w G H=>?_
 refine dT H [0,1,2,3,4,5] 6 fun K=>?_
 obtain⟨c8,i4,I⟩:=adu I
 refine fc [0,1,2,3,4,5,6,7,8] fun c2 a G=>?_
 refine de fun w H=>?_
 refine go 5 fun a w G H=>?_
 obtain⟨j1,g5,I⟩:=adu I
 have d7:=eP g5 H 
 refine cl uv d7 ?_
 rintro v w ⟨rfl,H⟩ a G
 refine go 3 fun a w G H=>?_
 refine cc I (fun d1 I=>?_) fun d1 I=>?_
 ·refine go 7 fun a w G H=>?_
  obtain rfl:=oI I
  refine er Bv G H ?_
  exact⟨E,bU H [2,3,4,5,6] 7 E⟩
 refine go 14 fun a w G H=>?_
 refine dT H [0,1,2,3,4,5,6] 7 fun K=>?_
 refine fc [0,1,2,3,4,5,6] fun a G=>?_
 refine dx 7 fun w eX H=>?_
 obtain⟨j2,g6,I⟩:=adu I
 have d8:=fK g6 (f_ H [2,3,4,5,6,0,1] 7) (Bf:=Bf) (tb S) q6 f8 f10 f12 f14 f16
 refine dl Tryz.call243 d8 ?_
 rintro v w ⟨rfl,H⟩
 refine ds [5,6,0,1,2,3,4] 7 fun a G=>?_
 refine fc [8] fun a G=>?_
 refine de fun w H=>?_
 refine aB ?_
 refine cc I (fun d2 I=>?_) fun d2 I=>?_
 ·refine go 7 fun a w G H=>?_
  obtain rfl:=oI I
  refine er Bv G H ?_
  exact⟨E,bU H [0,1,2,3,4] 7 E⟩
 refine go 4 fun a w G H=>?_
 refine jm (pt b0 (af.enc (gx x0 s1 s3 s7 s9 e8 fe fU dy)) 203::pt c2 (ak.enc c8) 46::pt c1 (b9.enc x1) 101::ai 0 s1 5 x0.ae.b_::ai 0 s3 23 da::(a_ da x0.ae.ah)::ai 0 dy 3 x0.bf::Lr) G H I [0,3,4,5,6,7] (fun c3 u=>(62,.bool c3)::u) (fun i5 I i2 G H=>?_) fun c3 a w I G H=>?_
 ·refine go 5 fun a w G H=>?_
  refine gs I (fun d3 I=>?_) fun d3 I=>?_
  ·refine go 5 fun a w G H=>?_
   refine gs I (fun d4 I=>?_) fun d4 I=>?_
   ·refine go 5 fun a w G H=>?_
    refine gs I (fun c4 I=>?_) fun c4 I=>?_
    ·refine go 1 fun a w G H=>?_
     refine aP G E E E c4 (mQ G E E E (by decide)) E E fun a G=>?_
     refine go 3 fun a w G H=>?_
     refine gs I (fun c0 I=>?_) fun c0 I=>?_
     ·refine go 2 fun a w G H=>?_
      refine aP G E E E c0 (sM G E E E (by decide)) E E fun a G=>?_
      obtain⟨i7,g3,I⟩:=adu I
      refine go 5 fun a w G H=>?_
      refine aP G E E E c0 (cC Tryz.isAgg46 iw G E E (ak.len _) ((H.cells (i:=0) E (af.ci_memory_stack _ _ _ (aL g3).2)).sub 0 4 (bn.c_ptr _))) E E fun a G=>?_
      obtain⟨j3,g7,I⟩:=adu I
      have d9:=eP g7 H 
      refine dA G E E E c0 E E (aS (xs:=[.tmp 60]) uv G E E d9 fun v w hR=>?_)
      obtain⟨rfl,H⟩:=hR
      intro a G
      refine go 3 fun a w G H=>?_
      exact jr I ⟨G.t,bU H [0,5,6,1,2,3,4] 7 E⟩
     refine go 13 fun a w G H=>?_
     exact jr I ⟨G.t,bU H [0,5,6,1,2,3,4] 7 E⟩
    refine go 18 fun a w G H=>?_
    exact jr I ⟨G.t,bU H [0,5,6,1,2,3,4] 7 E⟩
   refine go 23 fun a w G H=>?_
   exact jr I ⟨G.t,bU H [0,5,6,1,2,3,4] 7 E⟩
  refine go 28 fun a w G H=>?_
  exact jr I ⟨G.t,bU H [0,5,6,1,2,3,4] 7 E⟩
 replace I:Sh.nF x0 x1 c8 c3=_:=I
 unfold Sh.nF at I
 refine aB ?_
 refine cc I (fun d5 I=>?_) fun d5 I=>?_
 ·refine aH ?_
  refine dT H [0,1,2,3,4,5,6] 7 fun K=>?_
  refine fc [0,1,2,3,4] fun a G=>?_
  refine aK G K 5 E ads E E E (fun w H=>(sM G E E E (by decide))) fun a G=>?_
  obtain⟨i8,g4,I⟩:=adu I
  refine fc [6,7,8,9,10] fun a G=>?_
  refine aK G K 11 E ads E E E (fun w H=>(cC Tryz.isAgg46 iw G E E (ak.len _) ((H.cells (i:=0) E (af.ci_memory_stack _ _ _ (aL g4).2)).sub 0 4 (bn.c_ptr _)))) fun a G=>?_
  obtain⟨i9,c5,I⟩:=adu I
  refine fc [12,13,14] fun a G=>?_
  refine ko 15 fun w eX H=>?_
  refine(aU (vs:=_) iw (H.obj (i:=0) E) G E E E E (ak.len _) (ak.one _) (by have:=(bT c5);rw[ak.len,af.len];omega) (af.pi_regs _ _ _ (by have:=(bT c5);omega)) fun w c9=>?_)
  have H:=H.chg c9 (i:=0) rfl
  try dsimp only[List.set]at H
  refine dh ?_
  refine de fun w H=>?_
  refine go 8 fun a w G H=>?_
  obtain rfl:=oI I
  refine er Bv G H ?_
  exact⟨E,bU H [0,3,4,5,6] 7 E⟩
 refine go 3 fun a w G H=>?_
 refine dT H [0,1,2,3,4,5,6] 7 fun K=>?_
 refine fc [0,1,2,3,4,5,6] fun a G=>?_
 refine dx 7 fun w eX H=>?_
 obtain⟨i1,g8,I⟩:=adu I
 have g0:=gA g8 (f_ H [0,3,4,5,6,1,2] 7) (Bf:=Bf) (tb S) q6 f8 f10 f12 f14 f16
 refine dl Tryz.call244 g0 ?_
 rintro v w ⟨rfl,H⟩
 refine ds [0,5,6,1,2,3,4] 7 fun a G=>?_
 refine fc [8] fun a G=>?_
 refine de fun w H=>?_
 refine go 2 fun a w G H=>?_
 refine aM G H I (fun F x a w=>match x with|c7=>Fr 107 [(4,.int .i64 0),(5,.int .i64 0),(8,.int .i64 i1)] a∧au w (pt b0 (af.enc (af.mk (bu.mk x0.ae.bp s1 s3 s7 s9) e8 fe (some fU) c7 dy x0.at_ x0.steps x0.done)) 203::ai 0 s1 5 x0.ae.b_::ai 0 s3 23 da::(a_ da x0.ae.ah)::ai 0 dy 3 x0.bf::Lr)) (fun i6 I i3 G H=>?_) ?_
 ·refine go 6 fun a w G H=>?_
  refine cc I (fun d6 I=>?_) fun d6 I=>?_
  ·refine dT H [0,1,2,3,4,5,6] 7 fun K=>?_
   refine fc [0,1,2,3,4,5,6,7,8,9,10,11,12,15,16] fun a G=>?_
   refine dx 13 fun w eX H=>?_
   obtain⟨j4,g9,I⟩:=adu I
   have g1:=lN g9 H (Bf:=Bf) (tb S) q6 f8 f10 f12 f14 f16
   refine dl Tryz.call245 g1 ?_
   rintro v w ⟨rfl,H⟩
   refine ds [0,1,2,3,4,5,6] 7 fun a G=>?_
   refine dx 14 fun w eX H=>?_
   obtain⟨j5,i0,I⟩:=adu I
   have g2:=dJ i0 H 
   refine dl po g2 ?_
   rintro v w ⟨rfl,H⟩
   refine ds [0,1,2,3,4,5,6] 7 fun a G=>?_
   obtain⟨j0,c6,I⟩:=adu I
   refine fc [17] fun a G=>?_
   refine ko 18 fun w eX H=>?_
   refine(aU (vs:=_) iw (H.obj (i:=0) E) G E E E E (ak.len _) (ak.one _) (by have:=(bT c6);rw[ak.len,af.len];omega) (af.pi_regs _ _ _ (by have:=(bT c6);omega)) fun w d0=>?_)
   have H:=H.chg d0 (i:=0) rfl
   try dsimp only[List.set]at H
   refine dh ?_
   refine de fun w H=>?_
   exact lf
  exact lf
 rintro c7 a w I ⟨G,H⟩
 unfold Sh.H5 at I
 refine go 9 fun a w G H=>?_
 obtain rfl:=oI I
 refine er Bv G H ?_
 exact⟨E,H⟩
theorem jV{x0:aj}{x1:b9}{s1 s3:SV}{da:List SV}{s7 s9 e8 fe:SV}{fU:Nat}{dy:SV}{b0:Nat}{out:(Int×Int×aj)}{w0:World}{Bf:World→Prop}{Lr:List dw}(I:Sh.hT x0 x1=some out)(H:au w0 (pt b0 (af.enc (gx x0 s1 s3 s7 s9 e8 fe fU dy)) 203::ai 0 s1 5 x0.ae.b_::ai 0 s3 23 da::(a_ da x0.ae.ah)::ai 0 dy 3 x0.bf::Lr))(S:∀ w,au w Lr→Bf w)(q6:bw (cn (X:=UInt8) (a_ da x0.ae.ah).holds') da x0.ae.ah)(f8:cn Bf s7 x0.ae.data)(f10:cn Bf s9 x0.ae.sizes)(f12:cn Bf e8 x0.code)(f14:cn Bf fe x0.dq)(f16:jk Bf fU x0.cg):Calls Tryz.prog 208 #[.pointer (some ⟨b0,0,none⟩),.agg (b9.enc x1).toArray] w0 (gf fun v w'=>∃ (g5:SV) (g6:SV) (d4:List SV),v = .tuple #[.int .i64 out.1,.int .i64 out.2.1]∧bw (cn (X:=UInt8) (a_ d4 out.2.2.ae.ah).holds') d4 out.2.2.ae.ah∧au w' (pt b0 (af.enc (af.mk (bu.mk out.2.2.ae.bp g5 g6 s7 s9) e8 fe (some fU) x0.bk dy x0.at_ x0.steps x0.done)) 203::ai 0 g5 5 out.2.2.ae.b_::ai 0 g6 23 d4::(a_ d4 out.2.2.ae.ah)::ai 0 dy 3 x0.bf::Lr)):=by
 unfold Sh.hT at I
 refine ce Tryz.func208 Tryz.ntmps208 fun a G=>?_
 refine go 8 fun c8 a w G H=>?_
 refine aM G H I (fun F x a w=>match x with|(d2,d1)=>∃ (d5:Nat) (d3:Nat),Fr 84 [(6,.pointer (some ⟨d5,0,none⟩)),(7,.pointer (some ⟨d3,0,none⟩)),(0,.pointer (some ⟨b0,0,none⟩)),(3,.pointer (some ⟨c8,0,none⟩)),(4,.int .i64 0),(5,.int .i64 0)] a∧au w (pt d5 (ak.enc d2) 46::pt d3 (ak.enc d1) 46::pt b0 (af.enc (gx x0 s1 s3 s7 s9 e8 fe fU dy)) 203::pt c8 (b9.enc x1) 101::ai 0 s1 5 x0.ae.b_::ai 0 s3 23 da::(a_ da x0.ae.ah)::ai 0 dy 3 x0.bf::Lr)) (fun k2 I j8 G H=>?_) ?_
 ·refine dT H [0,1,2,3,4,5] 6 fun K=>?_
  obtain⟨k5,k1,I⟩:=adu I
  refine fc [0,1,2,3,4,5,6,7,8] fun a G=>?_
  refine wE K 9 10 11 ads E E ?_ ?_ ?_
  ·refine bZ G 9 E E E E E fun w eX H=>?_
   obtain⟨d8,c7,I⟩:=adu I
   have c6:=cE c7 (f_ H [1,2,3,4,5,0] 6) (Bf:=Bf) (tb S) q6 f8 f10 f12 f14 f16
   refine dl om c6 ?_
   rintro v w ⟨rfl,H⟩
   refine ds [5,0,1,2,3,4] 6 fun a G=>?_
   refine fN K 10 11 ads E E ?_ ?_
   ·refine bZ G 10 E E E E E fun w eX H=>?_
    refine(bI z46 (zs:=ak.zero.enc) E E fun c0 w c9 c2=>?_)
    have H:=H.plus c2
    try dsimp only[List.set]at H
    refine ds [0,6,1,2,3,4,5] 7 fun a G=>?_
    refine dx 11 fun w eX H=>?_
    refine(bI z46 (zs:=ak.zero.enc) E E fun c1 w d0 c3=>?_)
    have H:=H.plus c3
    try dsimp only[List.set]at H
    refine ds [0,1,7,2,3,4,5,6] 8 fun a G=>?_
    refine ko 12 fun w eX H=>?_
    refine(aU (vs:=_) iw (H.obj (i:=1) E) G E E E E (ak.len _) (ak.one _) (by first|(rw[ak.len,ak.len];decide)|(rw[ak.len];decide)) (bF ((ak.len _).trans (ak.len _).symm)) fun w c4=>?_)
    have H:=H.chg c4 (i:=1) rfl
    try dsimp only[List.set]at H
    refine dh ?_
    refine ko 13 fun w eX H=>?_
    refine(aU (vs:=_) iw (H.obj (i:=0) E) G E E E E (ak.len _) (ak.one _) (by first|(rw[ak.len,ak.len];decide)|(rw[ak.len];decide)) (bF ((ak.len _).trans (ak.len _).symm)) fun w c5=>?_)
    have H:=H.chg c5 (i:=0) rfl
    try dsimp only[List.set]at H
    refine dh ?_
    refine de fun w H=>?_
    refine aB ?_
    exact jr I ⟨c0,c1,G.t,bU H [1,0,2,7,3,4,5,6] 8 E⟩
   refine bZ G 11 E E E E E fun w eX H=>?_
   refine(bI z46 (zs:=ak.zero.enc) E E fun c1 w d0 c3=>?_)
   have H:=H.plus c3
   try dsimp only[List.set]at H
   refine ds [0,6,1,2,3,4,5] 7 fun a G=>?_
   refine dx 10 fun w eX H=>?_
   refine(bI z46 (zs:=ak.zero.enc) E E fun c0 w c9 c2=>?_)
   have H:=H.plus c2
   try dsimp only[List.set]at H
   refine ds [0,1,7,2,3,4,5,6] 8 fun a G=>?_
   refine ko 12 fun w eX H=>?_
   refine(aU (vs:=_) iw (H.obj (i:=0) E) G E E E E (ak.len _) (ak.one _) (by first|(rw[ak.len,ak.len];decide)|(rw[ak.len];decide)) (bF ((ak.len _).trans (ak.len _).symm)) fun w c4=>?_)
   have H:=H.chg c4 (i:=0) rfl
   try dsimp only[List.set]at H
   refine dh ?_
   refine ko 13 fun w eX H=>?_
   refine(aU (vs:=_) iw (H.obj (i:=1) E) G E E E E (ak.len _) (ak.one _) (by first|(rw[ak.len,ak.len];decide)|(rw[ak.len];decide)) (bF ((ak.len _).trans (ak.len _).symm)) fun w c5=>?_)
   have H:=H.chg c5 (i:=1) rfl
   try dsimp only[List.set]at H
   refine dh ?_
   refine de fun w H=>?_
   refine aB ?_
   exact jr I ⟨c0,c1,G.t,bU H [0,1,2,7,3,4,5,6] 8 E⟩
  ·refine bZ G 10 E E E E E fun w eX H=>?_
   refine(bI z46 (zs:=ak.zero.enc) E E fun c0 w c9 c2=>?_)
   have H:=H.plus c2
   try dsimp only[List.set]at H
   refine ds [0,1,2,3,4,5,6] 7 fun a G=>?_
   refine fN K 9 11 ads E E ?_ ?_
   ·refine bZ G 9 E E E E E fun w eX H=>?_
    obtain⟨d8,c7,I⟩:=adu I
    have c6:=cE c7 (f_ H [2,3,4,5,6,0,1] 7) (Bf:=Bf) (tb S) q6 f8 f10 f12 f14 f16
    refine dl om c6 ?_
    rintro v w ⟨rfl,H⟩
    refine ds [5,6,0,1,2,3,4] 7 fun a G=>?_
    refine dx 11 fun w eX H=>?_
    refine(bI z46 (zs:=ak.zero.enc) E E fun c1 w d0 c3=>?_)
    have H:=H.plus c3
    try dsimp only[List.set]at H
    refine ds [0,6,7,1,2,3,4,5] 8 fun a G=>?_
    refine ko 12 fun w eX H=>?_
    refine(aU (vs:=_) iw (H.obj (i:=6) E) G E E E E (ak.len _) (ak.one _) (by first|(rw[ak.len,ak.len];decide)|(rw[ak.len];decide)) (bF ((ak.len _).trans (ak.len _).symm)) fun w c4=>?_)
    have H:=H.chg c4 (i:=6) rfl
    try dsimp only[List.set]at H
    refine dh ?_
    refine ko 13 fun w eX H=>?_
    refine(aU (vs:=_) iw (H.obj (i:=0) E) G E E E E (ak.len _) (ak.one _) (by first|(rw[ak.len,ak.len];decide)|(rw[ak.len];decide)) (bF ((ak.len _).trans (ak.len _).symm)) fun w c5=>?_)
    have H:=H.chg c5 (i:=0) rfl
    try dsimp only[List.set]at H
    refine dh ?_
    refine de fun w H=>?_
    refine aB ?_
    exact jr I ⟨c0,c1,G.t,bU H [6,0,1,7,2,3,4,5] 8 E⟩
   refine bZ G 11 E E E E E fun w eX H=>?_
   refine(bI z46 (zs:=ak.zero.enc) E E fun c1 w d0 c3=>?_)
   have H:=H.plus c3
   try dsimp only[List.set]at H
   refine ds [0,1,2,3,4,5,6,7] 8 fun a G=>?_
   refine dx 9 fun w eX H=>?_
   obtain⟨d8,c7,I⟩:=adu I
   have c6:=cE c7 (f_ H [3,4,5,6,7,0,1,2] 8) (Bf:=Bf) (tb S) q6 f8 f10 f12 f14 f16
   refine dl om c6 ?_
   rintro v w ⟨rfl,H⟩
   refine ds [5,6,7,0,1,2,3,4] 8 fun a G=>?_
   refine ko 12 fun w eX H=>?_
   refine(aU (vs:=_) iw (H.obj (i:=6) E) G E E E E (ak.len _) (ak.one _) (by first|(rw[ak.len,ak.len];decide)|(rw[ak.len];decide)) (bF ((ak.len _).trans (ak.len _).symm)) fun w c4=>?_)
   have H:=H.chg c4 (i:=6) rfl
   try dsimp only[List.set]at H
   refine dh ?_
   refine ko 13 fun w eX H=>?_
   refine(aU (vs:=_) iw (H.obj (i:=5) E) G E E E E (ak.len _) (ak.one _) (by first|(rw[ak.len,ak.len];decide)|(rw[ak.len];decide)) (bF ((ak.len _).trans (ak.len _).symm)) fun w c5=>?_)
   have H:=H.chg c5 (i:=5) rfl
   try dsimp only[List.set]at H
   refine dh ?_
   refine de fun w H=>?_
   refine aB ?_
   exact jr I ⟨c0,c1,G.t,bU H [6,5,0,7,1,2,3,4] 8 E⟩
  refine bZ G 11 E E E E E fun w eX H=>?_
  refine(bI z46 (zs:=ak.zero.enc) E E fun c1 w d0 c3=>?_)
  have H:=H.plus c3
  try dsimp only[List.set]at H
  refine ds [0,1,2,3,4,5,6] 7 fun a G=>?_
  refine fN K 9 10 ads E E ?_ ?_
  ·refine bZ G 9 E E E E E fun w eX H=>?_
   obtain⟨d8,c7,I⟩:=adu I
   have c6:=cE c7 (f_ H [2,3,4,5,6,0,1] 7) (Bf:=Bf) (tb S) q6 f8 f10 f12 f14 f16
   refine dl om c6 ?_
   rintro v w ⟨rfl,H⟩
   refine ds [5,6,0,1,2,3,4] 7 fun a G=>?_
   refine dx 10 fun w eX H=>?_
   refine(bI z46 (zs:=ak.zero.enc) E E fun c0 w c9 c2=>?_)
   have H:=H.plus c2
   try dsimp only[List.set]at H
   refine ds [0,6,7,1,2,3,4,5] 8 fun a G=>?_
   refine ko 12 fun w eX H=>?_
   refine(aU (vs:=_) iw (H.obj (i:=0) E) G E E E E (ak.len _) (ak.one _) (by first|(rw[ak.len,ak.len];decide)|(rw[ak.len];decide)) (bF ((ak.len _).trans (ak.len _).symm)) fun w c4=>?_)
   have H:=H.chg c4 (i:=0) rfl
   try dsimp only[List.set]at H
   refine dh ?_
   refine ko 13 fun w eX H=>?_
   refine(aU (vs:=_) iw (H.obj (i:=6) E) G E E E E (ak.len _) (ak.one _) (by first|(rw[ak.len,ak.len];decide)|(rw[ak.len];decide)) (bF ((ak.len _).trans (ak.len _).symm)) fun w c5=>?_)
   have H:=H.chg c5 (i:=6) rfl
   try dsimp only[List.set]at H
   refine dh ?_
   refine de fun w H=>?_
   refine aB ?_
   exact jr I ⟨c0,c1,G.t,bU H [0,6,1,7,2,3,4,5] 8 E⟩
  refine bZ G 10 E E E E E fun w eX H=>?_
  refine(bI z46 (zs:=ak.zero.enc) E E fun c0 w c9 c2=>?_)
  have H:=H.plus c2
  try dsimp only[List.set]at H
  refine ds [0,1,2,3,4,5,6,7] 8 fun a G=>?_
  refine dx 9 fun w eX H=>?_
  obtain⟨d8,c7,I⟩:=adu I
  have c6:=cE c7 (f_ H [3,4,5,6,7,0,1,2] 8) (Bf:=Bf) (tb S) q6 f8 f10 f12 f14 f16
  refine dl om c6 ?_
  rintro v w ⟨rfl,H⟩
  refine ds [5,6,7,0,1,2,3,4] 8 fun a G=>?_
  refine fc [12,13] fun a G=>?_
  refine de fun w H=>?_
  refine aB ?_
  exact jr I ⟨c0,c1,G.t,bU H [5,6,0,7,1,2,3,4] 8 E⟩
 rintro⟨d2,d1⟩ a w I ⟨d5,d3,G,H⟩
 replace I:Sh.rB x0 x1 d2 d1=_:=I
 unfold Sh.rB at I
 refine go 14 fun a w G H=>?_
 refine jm (pt d5 (ak.enc d2) 46::pt d3 (ak.enc d1) 46::pt b0 (af.enc (gx x0 s1 s3 s7 s9 e8 fe fU dy)) 203::pt c8 (b9.enc x1) 101::ai 0 s1 5 x0.ae.b_::ai 0 s3 23 da::(a_ da x0.ae.ah)::ai 0 dy 3 x0.bf::Lr) G H I [0,3,4,5,6,7,8] (fun g1 u=>(24,.bool g1)::u) (fun k3 I j9 G H=>?_) fun g1 a w I G H=>?_
 ·refine go 2 fun a w G H=>?_
  obtain⟨k7,i9,I⟩:=adu I
  have i4:=eP i9 H 
  refine cl uv i4 ?_
  rintro v w ⟨rfl,H⟩ a G
  exact lf
 replace I:Sh.lO x0 x1 d2 d1 g1=_:=I
 unfold Sh.lO at I
 refine aB ?_
 refine cc I (fun g8 I=>?_) fun g8 I=>?_
 ·refine go 7 fun a w G H=>?_
  obtain rfl:=oI I
  refine er xx G H ?_
  exact⟨s1,s3,da,E,q6,bU H [2,4,5,6,7] 8 E⟩
 refine go 8 fun a w G H=>?_
 refine cc I (fun g9 I=>?_) fun g9 I=>?_
 ·refine go 7 fun a w G H=>?_
  obtain rfl:=oI I
  refine er xx G H ?_
  exact⟨s1,s3,da,E,q6,bU H [2,4,5,6,7] 8 E⟩
 refine aH ?_
 refine dT H [0,1,2,3,4,5,6,7] 8 fun K=>?_
 refine fc [0,1,2,3,4,5,6] fun a G=>?_
 refine dx 7 fun w eX H=>?_
 obtain⟨k8,j0,I⟩:=adu I
 have i5:=fK j0 (f_ H [2,4,5,6,7,0,1,3] 8) (Bf:=Bf) (tb S) q6 f8 f10 f12 f14 f16
 refine dl Tryz.call243 i5 ?_
 rintro v w ⟨rfl,H⟩
 refine ds [5,6,0,7,1,2,3,4] 8 fun a G=>?_
 refine fc [8,9] fun a G=>?_
 refine de fun w H=>?_
 refine aB ?_
 refine cc I (fun i0 I=>?_) fun i0 I=>?_
 ·refine go 7 fun a w G H=>?_
  obtain rfl:=oI I
  refine er xx G H ?_
  exact⟨s1,s3,da,E,q6,bU H [0,1,2,3,4] 8 E⟩
 refine go 3 fun a w G H=>?_
 obtain⟨k9,j1,I⟩:=adu I
 have i6:=cZ j1 H 
 refine cl ou i6 ?_
 rintro v w ⟨rfl,H⟩ a G
 refine go 3 fun a w G H=>?_
 refine cc I (fun i1 I=>?_) fun i1 I=>?_
 ·refine aH ?_
  refine dT H [0,1,2,3,4,5,6,7] 8 fun K=>?_
  refine fc [0,1,2,3,4,5,6,7,8] fun a G=>?_
  refine dx 9 fun w eX H=>?_
  obtain⟨j6,j2,I⟩:=adu I
  have i7:=sZ j2 H 
  refine dl Tryz.call247 i7 ?_
  rintro v w ⟨j5,rfl,H⟩
  refine ds [0,1,2,3,4,5,6,7,8] 9 fun a G=>?_
  refine dx 10 fun w eX H=>?_
  obtain⟨g3,j3,I⟩:=adu I
  have i8:=fQ j3 (bU H [1,2,3,4,5,0,6,7,8] 9 rfl) (fun _ h=>h) q6 (fun w H=>(f8 _ (S _ (dZ H 4)))) (fun w H=>(f10 _ (S _ (dZ H 4)))) (fun w H=>(f12 _ (S _ (dZ H 4)))) (fun w H=>(f14 _ (S _ (dZ H 4)))) (fun w H=>f16 _ (S _ (dZ H 4))) (fun w H=>(H.rowS (X:=UInt8) (i:=0) rfl))
  refine dl Tryz.call246 i8 ?_
  rintro v w ⟨d9,g0,d6,rfl,j4,H⟩
  replace H:au _ (pt b0 (af.enc (af.mk (bu.mk g3.ae.bp d9 g0 s7 s9) e8 fe (some fU) x0.bk dy x0.at_ x0.steps x0.done)) 203::ai 0 d9 5 g3.ae.b_::ai 0 g0 23 d6::(a_ d6 g3.ae.ah)::ai 0 dy 3 x0.bf::ai 0 j5 5 j6::pt d5 (ak.enc d2) 46::pt d3 (ak.enc d1) 46::pt c8 (b9.enc x1) 101::Lr):=H
  refine dh fun a G=>?_
  refine de fun w H=>?_
  refine go 8 fun a w G H=>?_
  obtain rfl:=oI I
  refine er xx G H ?_
  exact⟨d9,g0,d6,E,j4,bU H [0,1,2,3,4] 9 E⟩
 refine aH ?_
 refine jm (pt b0 (af.enc (gx x0 s1 s3 s7 s9 e8 fe fU dy)) 203::pt d3 (ak.enc d1) 46::ai 0 s1 5 x0.ae.b_::ai 0 s3 23 da::(a_ da x0.ae.ah)::ai 0 dy 3 x0.bf::Lr) G H I [0,4,5,7,8] (fun g2 u=>(61,.bool g2)::u) (fun k4 I k0 G H=>?_) fun g2 a w I G H=>?_
 ·refine go 5 fun a w G H=>?_
  refine gs I (fun i2 I=>?_) fun i2 I=>?_
  ·refine go 12 fun a w G H=>?_
   exact jr I ⟨G.t,bU H [0,6,1,2,3,4] 8 E⟩
  refine go 5 fun a w G H=>?_
  refine gs I (fun g4 I=>?_) fun g4 I=>?_
  ·refine go 7 fun a w G H=>?_
   exact jr I ⟨G.t,bU H [0,6,1,2,3,4] 8 E⟩
  refine go 1 fun a w G H=>?_
  refine aP G E E E g4 (mQ G E E E (by decide)) E E fun a G=>?_
  refine go 5 fun a w G H=>?_
  exact jr I ⟨G.t,bU H [0,6,1,2,3,4] 8 E⟩
 replace I:Sh.lP x0 x1 d2 d1 g2=_:=I
 unfold Sh.lP at I
 refine aB ?_
 refine cc I (fun i3 I=>?_) fun i3 I=>?_
 ·refine go 7 fun a w G H=>?_
  obtain rfl:=oI I
  refine er xx G H ?_
  exact⟨s1,s3,da,E,q6,bU H [0,2,3,4,5] 6 E⟩
 refine go 4 fun a w G H=>?_
 refine dT H [0,1,2,3,4,5] 6 fun K=>?_
 refine fc [0,1] fun a G=>?_
 refine aK G K 2 E ads E E E (fun w H=>(sM G E E E (by decide))) fun a G=>?_
 refine fc [3] fun a G=>?_
 refine aK G K 4 E ads E E E (fun w H=>(aW z50 Tryz.underlying50 MB G (parts:=[(0,.tmp 78)]) E E (fB E (ak.len _) (by rw[ak.len,bn.len];decide) (bn.p_ptr _ _) bD))) fun a G=>?_
 obtain⟨k6,d7,I⟩:=adu I
 have j7:=aL d7
 refine fc [5,6,7,8] fun a G=>?_
 refine ko 9 fun w eX H=>?_
 refine(aU (vs:=_) Tryz.sizeOf50 (H.obj (i:=0) E) G E E E E (bn.len _) (bn.one _) (by have:=(bT d7);rw[bn.len,af.len];omega) (af.pi_memory_stack _ _ _ (by have:=(bT d7);omega)) fun w g7=>?_)
 have H:=H.chg g7 (i:=0) rfl
 try dsimp only[List.set]at H
 refine dh ?_
 refine de fun w H=>?_
 refine go 8 fun a w G H=>?_
 obtain rfl:=oI I
 refine er xx G H ?_
 exact⟨s1,s3,da,E,q6,bU H [0,2,3,4,5] 6 E⟩
theorem kI{x0:aj}{x1:b9}{s1 s3:SV}{da:List SV}{s7 s9 e8 fe:SV}{fU:Nat}{dy:SV}{b0:Nat}{out:(Int×Int×aj)}{w0:World}{Bf:World→Prop}{Lr:List dw}(I:Sh.jL x0 x1=some out)(H:au w0 (pt b0 (af.enc (gx x0 s1 s3 s7 s9 e8 fe fU dy)) 203::ai 0 s1 5 x0.ae.b_::ai 0 s3 23 da::(a_ da x0.ae.ah)::ai 0 dy 3 x0.bf::Lr))(S:∀ w,au w Lr→Bf w)(q6:bw (cn (X:=UInt8) (a_ da x0.ae.ah).holds') da x0.ae.ah)(f8:cn Bf s7 x0.ae.data)(f10:cn Bf s9 x0.ae.sizes)(f12:cn Bf e8 x0.code)(f14:cn Bf fe x0.dq)(f16:jk Bf fU x0.cg):Calls Tryz.prog 209 #[.pointer (some ⟨b0,0,none⟩),.agg (b9.enc x1).toArray] w0 (gf fun v w'=>∃ (d3:SV) (d4:SV) (c2:List SV),v = .tuple #[.int .i64 out.1,.int .i64 out.2.1]∧bw (cn (X:=UInt8) (a_ c2 out.2.2.ae.ah).holds') c2 out.2.2.ae.ah∧au w' (pt b0 (af.enc (af.mk (bu.mk out.2.2.ae.bp d3 d4 s7 s9) e8 fe (some fU) out.2.2.bk dy x0.at_ x0.steps x0.done)) 203::ai 0 d3 5 out.2.2.ae.b_::ai 0 d4 23 c2::(a_ c2 out.2.2.ae.ah)::ai 0 dy 3 x0.bf::Lr)):=by
 unfold Sh.jL at I
 refine ce Tryz.func209 Tryz.ntmps209 fun a G=>?_
 refine go 8 fun c3 a w G H=>?_
 refine dT H [0,1,2,3,4,5] 6 fun K=>?_
 obtain⟨c8,k2,I⟩:=adu I
 refine fc [0,1,2,3,4,5,6,7,8] fun c4 a G=>?_
 refine de fun w H=>?_
 refine go 14 fun a w G H=>?_
 refine jm (pt c4 (ak.enc c8) 46::pt c3 (b9.enc x1) 101::pt b0 (af.enc (gx x0 s1 s3 s7 s9 e8 fe fU dy)) 203::ai 0 s1 5 x0.ae.b_::ai 0 s3 23 da::(a_ da x0.ae.ah)::ai 0 dy 3 x0.bf::Lr) G H I [0,3,4,5,6,7] (fun c7 u=>(22,.bool c7)::u) (fun k5 I k0 G H=>?_) fun c7 a w I G H=>?_
 ·refine dT H [0,1,2,3,4,5,6] 7 fun K=>?_
  refine fc [0] fun a G=>?_
  refine dx 1 fun w eX H=>?_
  obtain⟨l1,i6,I⟩:=adu I
  have g5:=eP i6 H 
  refine dl uv g5 ?_
  rintro v w ⟨rfl,H⟩
  refine ds [0,1,2,3,4,5,6] 7 fun a G=>?_
  refine fc [2,3] fun a G=>?_
  refine gs I (fun c9 I=>?_) fun c9 I=>?_
  ·refine fc [4,5,6,7,8,9,10,11,12,13,14,15,16,17,18,19,20,21,22,23,24,25,26,27,28] fun a G=>?_
   refine de fun w H=>?_
   exact lf
  obtain⟨k7,k3,I⟩:=adu I
  refine fc [4,5,6,7,8,9,10] fun a G=>?_
  refine bJ K 11 ads E E ?_
  refine kF G 11 E E E E E c9 E E fun w eX H=>?_
  obtain⟨l2,i7,I⟩:=adu I
  have g6:=cZ i7 H 
  refine dl ou g6 ?_
  rintro v w ⟨rfl,H⟩
  refine ds [0,1,2,3,4,5,6] 7 fun a G=>?_
  refine fc [12,13,14] fun a G=>?_
  refine gs I (fun d8 I=>?_) fun d8 I=>?_
  ·refine fc [15,16,17,18,19,20,21,22,23,24,25,26,27,28] fun a G=>?_
   refine de fun w H=>?_
   exact lf
  refine fc [15,16,17,18] fun a G=>?_
  refine gs I (fun d0 I=>?_) fun d0 I=>?_
  ·obtain⟨k8,k4,I⟩:=adu I
   refine fc [19,20,21,22,23] fun a G=>?_
   refine bJ K 24 ads E E ?_
   refine kF G 24 E E E E E d0 E E fun w eX H=>?_
   obtain⟨l3,i8,I⟩:=adu I
   have g7:=cZ i8 H 
   refine dl ou g7 ?_
   rintro v w ⟨rfl,H⟩
   refine ds [0,1,2,3,4,5,6] 7 fun a G=>?_
   refine fc [25,26,27,28] fun a G=>?_
   refine de fun w H=>?_
   exact lf
  refine fc [19,20,21,22,23,24,25,26,27,28] fun a G=>?_
  refine de fun w H=>?_
  exact lf
 replace I:Sh.nC x0 x1 c8 c7=_:=I
 unfold Sh.nC at I
 refine aB ?_
 refine cc I (fun d9 I=>?_) fun d9 I=>?_
 ·refine go 7 fun a w G H=>?_
  obtain rfl:=oI I
  refine er Ab G H ?_
  exact⟨s1,s3,da,E,q6,bU H [2,3,4,5,6] 7 E⟩
 refine go 8 fun a w G H=>?_
 refine cc I (fun g0 I=>?_) fun g0 I=>?_
 ·refine go 7 fun a w G H=>?_
  obtain rfl:=oI I
  refine er Ab G H ?_
  exact⟨s1,s3,da,E,q6,bU H [2,3,4,5,6] 7 E⟩
 refine aH ?_
 refine dT H [0,1,2,3,4,5,6] 7 fun K=>?_
 refine fc [0,1,2,3,4,5,6] fun a G=>?_
 refine dx 7 fun w eX H=>?_
 obtain⟨l4,i9,I⟩:=adu I
 have g8:=fK i9 (f_ H [2,3,4,5,6,0,1] 7) (Bf:=Bf) (tb S) q6 f8 f10 f12 f14 f16
 refine dl Tryz.call243 g8 ?_
 rintro v w ⟨rfl,H⟩
 refine ds [5,6,0,1,2,3,4] 7 fun a G=>?_
 refine fc [8,9] fun a G=>?_
 refine de fun w H=>?_
 refine aB ?_
 refine cc I (fun g1 I=>?_) fun g1 I=>?_
 ·refine go 7 fun a w G H=>?_
  obtain rfl:=oI I
  refine er Ab G H ?_
  exact⟨s1,s3,da,E,q6,bU H [0,1,2,3,4] 7 E⟩
 refine go 5 fun a w G H=>?_
 refine dT H [0,1,2,3,4,5,6] 7 fun K=>?_
 refine fc [0,1,2,3,4,5,6] fun a G=>?_
 refine dx 7 fun w eX H=>?_
 obtain⟨l5,j0,I⟩:=adu I
 have g9:=gA j0 H (Bf:=Bf) (tb S) q6 f8 f10 f12 f14 f16
 refine dl Tryz.call244 g9 ?_
 rintro v w ⟨rfl,H⟩
 refine ds [0,1,2,3,4,5,6] 7 fun a G=>?_
 refine fc [8] fun a G=>?_
 refine de fun w H=>?_
 refine go 7 fun a w G H=>?_
 refine cc I (fun g2 I=>?_) fun g2 I=>?_
 ·refine go 8 fun a w G H=>?_
  obtain rfl:=oI I
  refine er Ab G H ?_
  exact⟨s1,s3,da,E,q6,bU H [0,1,2,3,4] 7 E⟩
 refine go 3 fun a w G H=>?_
 refine dT H [0,1,2,3,4,5,6] 7 fun K=>?_
 refine fc [0,1,2,3,4,5,6] fun a G=>?_
 refine dx 7 fun w eX H=>?_
 obtain⟨l6,j1,I⟩:=adu I
 have i0:=lN j1 H (Bf:=Bf) (tb S) q6 f8 f10 f12 f14 f16
 refine dl Tryz.call245 i0 ?_
 rintro v w ⟨rfl,H⟩
 refine ds [0,1,2,3,4,5,6] 7 fun a G=>?_
 refine fc [8] fun a G=>?_
 refine de fun w H=>?_
 refine go 2 fun a w G H=>?_
 refine dT H [0,1,2,3,4,5,6] 7 fun K=>?_
 refine fc [0,1,2,3,4,5,6,7,8,9] fun a G=>?_
 refine dx 10 fun w eX H=>?_
 obtain⟨l7,j2,I⟩:=adu I
 have i1:=oR j2 H (Bf:=Bf) (tb S) q6 f8 f10 f12 f14 f16
 refine dl Tryz.call248 i1 ?_
 rintro v w ⟨rfl,H⟩
 refine ds [0,1,2,3,4,5,6] 7 fun a G=>?_
 refine dx 11 fun w eX H=>?_
 obtain⟨j9,j3,I⟩:=adu I
 have i2:=sZ j3 H 
 refine dl Tryz.call247 i2 ?_
 rintro v w ⟨j8,rfl,H⟩
 refine ds [0,1,2,3,4,5,6,7] 8 fun a G=>?_
 refine dx 12 fun w eX H=>?_
 obtain⟨c1,j4,I⟩:=adu I
 have i3:=fQ j4 (bU H [1,2,3,4,5,0,6,7] 8 rfl) (fun _ h=>h) q6 (fun w H=>(f8 _ (S _ (dZ H 3)))) (fun w H=>(f10 _ (S _ (dZ H 3)))) (fun w H=>(f12 _ (S _ (dZ H 3)))) (fun w H=>(f14 _ (S _ (dZ H 3)))) (fun w H=>f16 _ (S _ (dZ H 3))) (fun w H=>(H.rowS (X:=UInt8) (i:=0) rfl))
 refine dl Tryz.call246 i3 ?_
 rintro v w ⟨c5,c6,c0,rfl,j7,H⟩
 replace H:au _ (pt b0 (af.enc (af.mk (bu.mk c1.ae.bp c5 c6 s7 s9) e8 fe (some fU) x0.bk dy x0.at_ x0.steps x0.done)) 203::ai 0 c5 5 c1.ae.b_::ai 0 c6 23 c0::(a_ c0 c1.ae.ah)::ai 0 dy 3 x0.bf::ai 0 j8 5 j9::pt c4 (ak.enc c8) 46::pt c3 (b9.enc x1) 101::Lr):=H
 refine dh fun a G=>?_
 refine de fun w H=>?_
 refine go 2 fun a w G H=>?_
 refine aM G H I (fun F x a w=>match x with|d5=>Fr 118 [(4,.int .i64 0),(5,.int .i64 0)] a∧au w (pt b0 (af.enc (af.mk (bu.mk c1.ae.bp c5 c6 s7 s9) e8 fe (some fU) d5 dy x0.at_ x0.steps x0.done)) 203::ai 0 c5 5 c1.ae.b_::ai 0 c6 23 c0::(a_ c0 c1.ae.ah)::ai 0 dy 3 x0.bf::Lr)) (fun k6 I k1 G H=>?_) ?_
 ·refine go 7 fun a w G H=>?_
  refine cc I (fun g3 I=>?_) fun g3 I=>?_
  ·refine dT H [0,1,2,3,4,5,6,7] 8 fun K=>?_
   refine fc [0,1,3,4] fun a G=>?_
   refine dx 2 fun w eX H=>?_
   obtain⟨l8,j5,I⟩:=adu I
   have i4:=dJ j5 H 
   refine dl po i4 ?_
   rintro v w ⟨rfl,H⟩
   refine ds [0,1,2,3,4,5,6,7] 8 fun a G=>?_
   obtain⟨k9,d1,I⟩:=adu I
   refine fc [5] fun a G=>?_
   refine ko 6 fun w eX H=>?_
   refine(aU (vs:=_) iw (H.obj (i:=0) E) G E E E E (ak.len _) (ak.one _) (by have:=(bT d1);rw[ak.len,af.len];omega) (af.pi_regs _ _ _ (by have:=(bT d1);omega)) fun w d6=>?_)
   have H:=H.chg d6 (i:=0) rfl
   try dsimp only[List.set]at H
   refine dh ?_
   refine de fun w H=>?_
   exact lf
  refine go 8 fun a w G H=>?_
  refine cc I (fun g4 I=>?_) fun g4 I=>?_
  ·refine dT H [0,1,2,3,4,5,6,7] 8 fun K=>?_
   refine fc [0,1,2,3,5,6] fun a G=>?_
   refine dx 4 fun w eX H=>?_
   obtain⟨l9,j6,I⟩:=adu I
   have i5:=dJ j6 H 
   refine dl po i5 ?_
   rintro v w ⟨rfl,H⟩
   refine ds [0,1,2,3,4,5,6,7] 8 fun a G=>?_
   obtain⟨l0,d2,I⟩:=adu I
   refine fc [7] fun a G=>?_
   refine ko 8 fun w eX H=>?_
   refine(aU (vs:=_) iw (H.obj (i:=0) E) G E E E E (ak.len _) (ak.one _) (by have:=(bT d2);rw[ak.len,af.len];omega) (af.pi_regs _ _ _ (by have:=(bT d2);omega)) fun w d7=>?_)
   have H:=H.chg d7 (i:=0) rfl
   try dsimp only[List.set]at H
   refine dh ?_
   refine de fun w H=>?_
   exact lf
  exact lf
 rintro d5 a w I ⟨G,H⟩
 unfold Sh.Jr at I
 refine go 8 fun a w G H=>?_
 obtain rfl:=oI I
 refine er Ab G H ?_
 exact⟨c5,c6,c0,E,j7,H⟩
end Go.Proofs
end
section
namespace Go.Proofs
open Go.Fw Go.Fx
set_option maxRecDepth 10000
theorem JM{c:Int}{f:Nat}(h:Fx.jy w8 c=some f):∀ args w,(callFunc f args).run Tryz.prog w = .ok (.enter f args) w:=by
 rw[w8]at h
 rw[bX]at h
 by_cases h1:c=1
 ·rw[aaJ h1]at h;cases h;exact Tryz.call316
 rw[aaK h1]at h;clear h1
 rw[bX]at h
 by_cases h1:c=2
 ·rw[aaJ h1]at h;cases h;exact Tryz.call317
 rw[aaK h1]at h;clear h1
 rw[bX]at h
 by_cases h1:c=3
 ·rw[aaJ h1]at h;cases h;exact Tryz.call318
 rw[aaK h1]at h;clear h1
 rw[bX]at h
 by_cases h1:c=4
 ·rw[aaJ h1]at h;cases h;exact Tryz.call319
 rw[aaK h1]at h;clear h1
 rw[bX]at h
 by_cases h1:c=5
 ·rw[aaJ h1]at h;cases h;exact Tryz.call320
 rw[aaK h1]at h;clear h1
 rw[bX]at h
 by_cases h1:c=6
 ·rw[aaJ h1]at h;cases h;exact Tryz.call321
 rw[aaK h1]at h;clear h1
 rw[bX]at h
 by_cases h1:c=7
 ·rw[aaJ h1]at h;cases h;exact Tryz.call322
 rw[aaK h1]at h;clear h1
 rw[bX]at h
 by_cases h1:c=8
 ·rw[aaJ h1]at h;cases h;exact Tryz.call323
 rw[aaK h1]at h;clear h1
 rw[bX]at h
 by_cases h1:c=9
 ·rw[aaJ h1]at h;cases h;exact Tryz.call324
 rw[aaK h1]at h;clear h1
 rw[bX]at h
 by_cases h1:c=10
 ·rw[aaJ h1]at h;cases h;exact Tryz.call325
 rw[aaK h1]at h;clear h1
 rw[bX]at h
 by_cases h1:c=11
 ·rw[aaJ h1]at h;cases h;exact Tryz.call326
 rw[aaK h1]at h;clear h1
 rw[bX]at h
 by_cases h1:c=12
 ·rw[aaJ h1]at h;cases h;exact Tryz.call327
 rw[aaK h1]at h;clear h1
 rw[bX]at h
 by_cases h1:c=13
 ·rw[aaJ h1]at h;cases h;exact Tryz.call328
 rw[aaK h1]at h;clear h1
 rw[bX]at h
 by_cases h1:c=14
 ·rw[aaJ h1]at h;cases h;exact Tryz.call329
 rw[aaK h1]at h;clear h1
 rw[bX]at h
 by_cases h1:c=15
 ·rw[aaJ h1]at h;cases h;exact Tryz.call330
 rw[aaK h1]at h;clear h1
 cases h
theorem zJ{c a b out:Int}{f:Nat}{w0:World}{Lr:List dw}(h:Fx.jy w8 c=some f)(I:Sh.EL c a b=some out)(H:au w0 (Lr)):Calls Tryz.prog f #[.int .u64 a,.int .u64 b] w0 (gf fun v w'=>v = .int .u64 out∧au w' (Lr)):=by
 rw[w8]at h
 unfold Sh.EL at I
 rw[bX]at h
 by_cases h1:c=1
 ·rw[aaJ h1]at h;cases h;exact uK (Fx.cT (abf h1) I) H
 rw[aaK h1]at h;replace I:=Fx.cF (abg h1) I;clear h1
 rw[bX]at h
 by_cases h1:c=2
 ·rw[aaJ h1]at h;cases h;exact uT (Fx.cT (abf h1) I) H
 rw[aaK h1]at h;replace I:=Fx.cF (abg h1) I;clear h1
 rw[bX]at h
 by_cases h1:c=3
 ·rw[aaJ h1]at h;cases h;exact uQ (Fx.cT (abf h1) I) H
 rw[aaK h1]at h;replace I:=Fx.cF (abg h1) I;clear h1
 rw[bX]at h
 by_cases h1:c=4
 ·rw[aaJ h1]at h;cases h;exact uM (Fx.cT (abf h1) I) H
 rw[aaK h1]at h;replace I:=Fx.cF (abg h1) I;clear h1
 rw[bX]at h
 by_cases h1:c=5
 ·rw[aaJ h1]at h;cases h;exact uO (Fx.cT (abf h1) I) H
 rw[aaK h1]at h;replace I:=Fx.cF (abg h1) I;clear h1
 rw[bX]at h
 by_cases h1:c=6
 ·rw[aaJ h1]at h;cases h;exact tB (Fx.cT (abf h1) I) H
 rw[aaK h1]at h;replace I:=Fx.cF (abg h1) I;clear h1
 rw[bX]at h
 by_cases h1:c=7
 ·rw[aaJ h1]at h;cases h;exact tC (Fx.cT (abf h1) I) H
 rw[aaK h1]at h;replace I:=Fx.cF (abg h1) I;clear h1
 rw[bX]at h
 by_cases h1:c=8
 ·rw[aaJ h1]at h;cases h;exact vU (Fx.cT (abf h1) I) H
 rw[aaK h1]at h;replace I:=Fx.cF (abg h1) I;clear h1
 rw[bX]at h
 by_cases h1:c=9
 ·rw[aaJ h1]at h;cases h;exact uL (Fx.cT (abf h1) I) H
 rw[aaK h1]at h;replace I:=Fx.cF (abg h1) I;clear h1
 rw[bX]at h
 by_cases h1:c=10
 ·rw[aaJ h1]at h;cases h;exact uU (Fx.cT (abf h1) I) H
 rw[aaK h1]at h;replace I:=Fx.cF (abg h1) I;clear h1
 rw[bX]at h
 by_cases h1:c=11
 ·rw[aaJ h1]at h;cases h;exact uN (Fx.cT (abf h1) I) H
 rw[aaK h1]at h;replace I:=Fx.cF (abg h1) I;clear h1
 rw[bX]at h
 by_cases h1:c=12
 ·rw[aaJ h1]at h;cases h;exact uS (Fx.cT (abf h1) I) H
 rw[aaK h1]at h;replace I:=Fx.cF (abg h1) I;clear h1
 rw[bX]at h
 by_cases h1:c=13
 ·rw[aaJ h1]at h;cases h;exact tA (Fx.cT (abf h1) I) H
 rw[aaK h1]at h;replace I:=Fx.cF (abg h1) I;clear h1
 rw[bX]at h
 by_cases h1:c=14
 ·rw[aaJ h1]at h;cases h;exact uR (Fx.cT (abf h1) I) H
 rw[aaK h1]at h;replace I:=Fx.cF (abg h1) I;clear h1
 rw[bX]at h
 by_cases h1:c=15
 ·rw[aaJ h1]at h;cases h;exact uP (Fx.cT (abf h1) I) H
 rw[aaK h1]at h;replace I:=Fx.cF (abg h1) I;clear h1
 cases h
theorem Wn{w0:World}{Lr:List dw}(H:au w0 (Lr)):Calls Tryz.prog 288 #[] w0 (gf fun v w'=>∃ b:Nat,v = .map (some b)∧au w' (.obj b (ql w8)::Lr)):=by
 refine ce Tryz.func288 Tryz.ntmps288 fun a G=>?_
 refine go 7 fun a w G H=>?_
 refine aN G E E E (RU E fun b w hz hA=>?_)
 have H:=H.plus hA
 intro a G
 refine bC E E (eD (m:=[(1,316)]) E j_ rj G E E E E (H.hold 0 _ E) fun w h=>?_)
 have H:=H.chg h (i:=0) rfl
 refine bC E E (eD (m:=[(1,316),(2,317)]) E j_ rj G E E E E (H.hold 0 _ E) fun w h=>?_)
 have H:=H.chg h (i:=0) rfl
 refine bC E E (eD (m:=[(1,316),(2,317),(3,318)]) E j_ rj G E E E E (H.hold 0 _ E) fun w h=>?_)
 have H:=H.chg h (i:=0) rfl
 refine bC E E (eD (m:=[(1,316),(2,317),(3,318),(4,319)]) E j_ rj G E E E E (H.hold 0 _ E) fun w h=>?_)
 have H:=H.chg h (i:=0) rfl
 refine bC E E (eD (m:=[(1,316),(2,317),(3,318),(4,319),(5,320)]) E j_ rj G E E E E (H.hold 0 _ E) fun w h=>?_)
 have H:=H.chg h (i:=0) rfl
 refine bC E E (eD (m:=[(1,316),(2,317),(3,318),(4,319),(5,320),(6,321)]) E j_ rj G E E E E (H.hold 0 _ E) fun w h=>?_)
 have H:=H.chg h (i:=0) rfl
 refine bC E E (eD (m:=[(1,316),(2,317),(3,318),(4,319),(5,320),(6,321),(7,322)]) E j_ rj G E E E E (H.hold 0 _ E) fun w h=>?_)
 have H:=H.chg h (i:=0) rfl
 refine bC E E (eD (m:=[(1,316),(2,317),(3,318),(4,319),(5,320),(6,321),(7,322),(8,323)]) E j_ rj G E E E E (H.hold 0 _ E) fun w h=>?_)
 have H:=H.chg h (i:=0) rfl
 refine bC E E (eD (m:=[(1,316),(2,317),(3,318),(4,319),(5,320),(6,321),(7,322),(8,323),(9,324)]) E j_ rj G E E E E (H.hold 0 _ E) fun w h=>?_)
 have H:=H.chg h (i:=0) rfl
 refine bC E E (eD (m:=[(1,316),(2,317),(3,318),(4,319),(5,320),(6,321),(7,322),(8,323),(9,324),(10,325)]) E j_ rj G E E E E (H.hold 0 _ E) fun w h=>?_)
 have H:=H.chg h (i:=0) rfl
 refine bC E E (eD (m:=[(1,316),(2,317),(3,318),(4,319),(5,320),(6,321),(7,322),(8,323),(9,324),(10,325),(11,326)]) E j_ rj G E E E E (H.hold 0 _ E) fun w h=>?_)
 have H:=H.chg h (i:=0) rfl
 refine bC E E (eD (m:=[(1,316),(2,317),(3,318),(4,319),(5,320),(6,321),(7,322),(8,323),(9,324),(10,325),(11,326),(12,327)]) E j_ rj G E E E E (H.hold 0 _ E) fun w h=>?_)
 have H:=H.chg h (i:=0) rfl
 refine bC E E (eD (m:=[(1,316),(2,317),(3,318),(4,319),(5,320),(6,321),(7,322),(8,323),(9,324),(10,325),(11,326),(12,327),(13,328)]) E j_ rj G E E E E (H.hold 0 _ E) fun w h=>?_)
 have H:=H.chg h (i:=0) rfl
 refine bC E E (eD (m:=[(1,316),(2,317),(3,318),(4,319),(5,320),(6,321),(7,322),(8,323),(9,324),(10,325),(11,326),(12,327),(13,328),(14,329)]) E j_ rj G E E E E (H.hold 0 _ E) fun w h=>?_)
 have H:=H.chg h (i:=0) rfl
 refine bC E E (eD (m:=[(1,316),(2,317),(3,318),(4,319),(5,320),(6,321),(7,322),(8,323),(9,324),(10,325),(11,326),(12,327),(13,328),(14,329),(15,330)]) E j_ rj G E E E E (H.hold 0 _ E) fun w h=>?_)
 have H:=H.chg h (i:=0) rfl
 refine go 5 fun a w G H=>?_
 refine aT Tryz.results288 G E ?_
 exact⟨b,E,H⟩
theorem V2{c:Int}{f:Nat}(h:Fx.jy nu c=some f):∀ args w,(callFunc f args).run Tryz.prog w = .ok (.enter f args) w:=by
 rw[nu]at h
 rw[bX]at h
 by_cases h1:c=4
 ·rw[aaJ h1]at h;cases h;exact Tryz.call331
 rw[aaK h1]at h;clear h1
 rw[bX]at h
 by_cases h1:c=5
 ·rw[aaJ h1]at h;cases h;exact Tryz.call332
 rw[aaK h1]at h;clear h1
 rw[bX]at h
 by_cases h1:c=6
 ·rw[aaJ h1]at h;cases h;exact Tryz.call333
 rw[aaK h1]at h;clear h1
 rw[bX]at h
 by_cases h1:c=7
 ·rw[aaJ h1]at h;cases h;exact Tryz.call334
 rw[aaK h1]at h;clear h1
 rw[bX]at h
 by_cases h1:c=11
 ·rw[aaJ h1]at h;cases h;exact Tryz.call335
 rw[aaK h1]at h;clear h1
 rw[bX]at h
 by_cases h1:c=12
 ·rw[aaJ h1]at h;cases h;exact Tryz.call336
 rw[aaK h1]at h;clear h1
 rw[bX]at h
 by_cases h1:c=13
 ·rw[aaJ h1]at h;cases h;exact Tryz.call337
 rw[aaK h1]at h;clear h1
 cases h
theorem VE{c a b out:Int}{f:Nat}{w0:World}{Lr:List dw}(h:Fx.jy nu c=some f)(I:Sh.GX c a b=some out)(H:au w0 (Lr)):Calls Tryz.prog f #[.int .u64 a,.int .u64 b] w0 (gf fun v w'=>v = .int .u64 out∧au w' (Lr)):=by
 rw[nu]at h
 unfold Sh.GX at I
 rw[bX]at h
 by_cases h1:c=4
 ·rw[aaJ h1]at h;cases h;exact rN (Fx.cT (abf h1) I) H
 rw[aaK h1]at h;replace I:=Fx.cF (abg h1) I;clear h1
 rw[bX]at h
 by_cases h1:c=5
 ·rw[aaJ h1]at h;cases h;exact rP (Fx.cT (abf h1) I) H
 rw[aaK h1]at h;replace I:=Fx.cF (abg h1) I;clear h1
 rw[bX]at h
 by_cases h1:c=6
 ·rw[aaJ h1]at h;cases h;exact rH (Fx.cT (abf h1) I) H
 rw[aaK h1]at h;replace I:=Fx.cF (abg h1) I;clear h1
 rw[bX]at h
 by_cases h1:c=7
 ·rw[aaJ h1]at h;cases h;exact rI (Fx.cT (abf h1) I) H
 rw[aaK h1]at h;replace I:=Fx.cF (abg h1) I;clear h1
 rw[bX]at h
 by_cases h1:c=11
 ·rw[aaJ h1]at h;cases h;exact rO (Fx.cT (abf h1) I) H
 rw[aaK h1]at h;replace I:=Fx.cF (abg h1) I;clear h1
 rw[bX]at h
 by_cases h1:c=12
 ·rw[aaJ h1]at h;cases h;exact rQ (Fx.cT (abf h1) I) H
 rw[aaK h1]at h;replace I:=Fx.cF (abg h1) I;clear h1
 rw[bX]at h
 by_cases h1:c=13
 ·rw[aaJ h1]at h;cases h;exact rG (Fx.cT (abf h1) I) H
 rw[aaK h1]at h;replace I:=Fx.cF (abg h1) I;clear h1
 cases h
theorem VN{w0:World}{Lr:List dw}(H:au w0 (Lr)):Calls Tryz.prog 289 #[] w0 (gf fun v w'=>∃ b:Nat,v = .map (some b)∧au w' (.obj b (ql nu)::Lr)):=by
 refine ce Tryz.func289 Tryz.ntmps289 fun a G=>?_
 refine go 7 fun a w G H=>?_
 refine aN G E E E (RU E fun b w hz hA=>?_)
 have H:=H.plus hA
 intro a G
 refine bC E E (eD (m:=[(4,331)]) E j_ rj G E E E E (H.hold 0 _ E) fun w h=>?_)
 have H:=H.chg h (i:=0) rfl
 refine bC E E (eD (m:=[(4,331),(5,332)]) E j_ rj G E E E E (H.hold 0 _ E) fun w h=>?_)
 have H:=H.chg h (i:=0) rfl
 refine bC E E (eD (m:=[(4,331),(5,332),(6,333)]) E j_ rj G E E E E (H.hold 0 _ E) fun w h=>?_)
 have H:=H.chg h (i:=0) rfl
 refine bC E E (eD (m:=[(4,331),(5,332),(6,333),(7,334)]) E j_ rj G E E E E (H.hold 0 _ E) fun w h=>?_)
 have H:=H.chg h (i:=0) rfl
 refine bC E E (eD (m:=[(4,331),(5,332),(6,333),(7,334),(11,335)]) E j_ rj G E E E E (H.hold 0 _ E) fun w h=>?_)
 have H:=H.chg h (i:=0) rfl
 refine bC E E (eD (m:=[(4,331),(5,332),(6,333),(7,334),(11,335),(12,336)]) E j_ rj G E E E E (H.hold 0 _ E) fun w h=>?_)
 have H:=H.chg h (i:=0) rfl
 refine bC E E (eD (m:=[(4,331),(5,332),(6,333),(7,334),(11,335),(12,336),(13,337)]) E j_ rj G E E E E (H.hold 0 _ E) fun w h=>?_)
 have H:=H.chg h (i:=0) rfl
 refine go 5 fun a w G H=>?_
 refine aT Tryz.results289 G E ?_
 exact⟨b,E,H⟩
theorem VA{x0:Int}{x1:Bool}{x2 x3:Int}{out:(Int×Int)}{w0:World}{Lr:List dw}(I:Sh.GY x0 x1 x2 x3=some out)(H:au w0 (Lr)):Calls Tryz.prog 238 #[.int .i64 x0,.bool x1,.int .i64 x2,.int .i64 x3] w0 (gf fun v w'=>v = .tuple #[.int .i64 out.1,.int .i64 out.2]∧au w' (Lr)):=by
 unfold Sh.GY at I
 refine ce Tryz.func238 Tryz.ntmps238 fun a G=>?_
 refine go 8 fun a w G H=>?_
 refine jn G H I [0,1,2,3,8,9] (fun v84 u=>(20,.bool v84)::u) (fun i0 I g5 G H=>?_) fun v84 a w I G H=>?_
 ·exact lf
 replace I:Sh.aDr x0 x1 x2 x3 v84=_:=I
 unfold Sh.aDr at I
 refine aB ?_
 refine cc I (fun O4 I=>?_) fun O4 I=>?_
 ·refine go 7 fun a w G H=>?_
  obtain rfl:=oI I
  refine er Ac G H ?_
  exact⟨E,H⟩
 refine go 13 fun a w G H=>?_
 refine aM G H I (fun F x a w=>match x with|(c2,c3)=>Fr 60 [(10,.int .u64 c2),(11,.int .u64 c3),(0,.int .i64 x0),(1,.bool x1),(8,.int .i64 0),(9,.int .i64 0)] a∧au w (Lr)) (fun i1 I g6 G H=>?_) ?_
 ·refine go 5 fun a w G H=>?_
  refine cc I (fun c7 I=>?_) fun c7 I=>?_
  ·refine go 2 fun a w G H=>?_
   obtain⟨i3,d5,I⟩:=adu I
   have d0:=dX d5 H 
   refine cl r6 d0 ?_
   rintro v w ⟨rfl,H⟩ a G
   refine go 1 fun a w G H=>?_
   obtain⟨i4,d6,I⟩:=adu I
   have d1:=dX d6 H 
   refine cl r6 d1 ?_
   rintro v w ⟨rfl,H⟩ a G
   exact lf
  exact lf
 rintro⟨c2,c3⟩ a w I ⟨G,H⟩
 replace I:Sh.aDs x0 x1 c2 c3=_:=I
 unfold Sh.aDs at I
 refine go 3 fun a w G H=>?_
 refine jm (Lr) G H I [0,1,10,11,8,9] (fun c4 u=>(35,.bool c4)::u) (fun i2 I g7 G H=>?_) fun c4 a w I G H=>?_
 ·refine go 4 fun a w G H=>?_
  refine gs I (fun c5 I=>?_) fun c5 I=>?_
  ·refine go 1 fun a w G H=>?_
   obtain⟨i5,d7,I⟩:=adu I
   have d2:=vV d7 H 
   refine dA G E E E c5 E E (aS (xs:=[.tmp 33]) Tryz.call287 G E E d2 fun v w hR=>?_)
   obtain⟨rfl,H⟩:=hR
   intro a G
   exact lf
  exact lf
 replace I:Sh.aDt x0 x1 c2 c3 c4=_:=I
 unfold Sh.aDt at I
 refine aB ?_
 refine cc I (fun c8 I=>?_) fun c8 I=>?_
 ·refine go 7 fun a w G H=>?_
  obtain rfl:=oI I
  refine er Ac G H ?_
  exact⟨E,H⟩
 refine go 4 fun a w G H=>?_
 refine cl Tryz.call288 (Wn H) ?_
 rintro v w ⟨g3,rfl,H⟩ a G
 refine go 1 fun a w G H=>?_
 obtain⟨g8,c0,I⟩:=adu I
 refine aA G (Wu c0 j_ rj D3 G E E E (H.hold 0 _ E)) E E E fun a G=>?_
 refine go 10 fun a w G H=>?_
 refine cc I (fun c9 I=>?_) fun c9 I=>?_
 ·refine go 5 fun a w G H=>?_
  obtain⟨i6,d8,I⟩:=adu I
  refine aN G E E E (dP (xs:=[.tmp 42,.tmp 43]) (JM c0) G E E E (zJ c0 d8 H) fun v w hR=>?_)
  obtain⟨rfl,H⟩:=hR
  intro a G
  refine go 6 fun a w G H=>?_
  obtain rfl:=oI I
  refine er Ac G H ?_
  exact⟨E,bU H [] 1 E⟩
 refine go 5 fun a w G H=>?_
 refine cl Tryz.call289 (VN H) ?_
 rintro v w ⟨g4,rfl,H⟩ a G
 refine go 1 fun a w G H=>?_
 refine gs I (fun c6 I=>?_) fun c6 I=>?_
 ·obtain⟨g9,c1,I⟩:=adu I
  refine aA G (Wv c1 j_ rj D3 G E E E (H.hold 0 _ E)) E E E fun a G=>?_
  refine go 23 fun a w G H=>?_
  obtain⟨i7,d9,I⟩:=adu I
  refine aN G E E E (dP (xs:=[.tmp 55,.tmp 56]) (V2 c1) G E E E (VE c1 d9 H) fun v w hR=>?_)
  obtain⟨rfl,H⟩:=hR
  intro a G
  obtain⟨i8,g0,I⟩:=adu I
  have d3:=dX g0 H 
  refine cl r6 d3 ?_
  rintro v w ⟨rfl,H⟩ a G
  refine go 6 fun a w G H=>?_
  obtain rfl:=oI I
  refine er Ac G H ?_
  exact⟨E,bU H [] 2 E⟩
 refine aA G (JQ c6 j_ rj D3 G E E E (H.hold 0 _ E)) E E E fun a G=>?_
 refine go 20 fun a w G H=>?_
 obtain⟨i9,g1,I⟩:=adu I
 refine aN G E E E (dP (xs:=[.tmp 55,.tmp 56]) (JM c0) G E E E (zJ c0 g1 H) fun v w hR=>?_)
 obtain⟨rfl,H⟩:=hR
 intro a G
 obtain⟨j0,g2,I⟩:=adu I
 have d4:=dX g2 H 
 refine cl r6 d4 ?_
 rintro v w ⟨rfl,H⟩ a G
 refine go 6 fun a w G H=>?_
 obtain rfl:=oI I
 refine er Ac G H ?_
 exact⟨E,bU H [] 2 E⟩
theorem qI{x0:Int}{x1:Bool}{x2 x3:Int}{out:Bool}{w0:World}{Lr:List dw}(I:Sh.xC x0 x1 x2 x3=some out)(H:au w0 (Lr)):Calls Tryz.prog 249 #[.int .i64 x0,.bool x1,.int .i64 x2,.int .i64 x3] w0 (gf fun v w'=>v = .bool out∧au w' (Lr)):=by
 unfold Sh.xC at I
 refine ce Tryz.func249 Tryz.ntmps249 fun a G=>?_
 refine go 11 fun a w G H=>?_
 refine aA G (aW HY Tryz.underlying316 F6 G (parts:=[(0,.tmp 13),(1,.tmp 15)]) E E (aO E E (by rw[gp.len];decide) (gp.s_a _ _) (aO E E (by rw[gp.len];decide) (gp.vq _ _) bD))) E E E fun a G=>?_
 refine go 8 fun c6 a w G H=>?_
 refine aA G (aW HZ Tryz.underlying318 F7 G (parts:=[(0,.tmp 17),(1,.tmp 18)]) E E (aO E E (by rw[gj.len];decide) (gj.s_a _ _) (aO E E (by rw[gj.len];decide) (gj.vq _ _) bD))) E E E fun a G=>?_
 refine go 5 fun c1 a w G H=>?_
 refine aM G H I (fun F x a w=>match x with|(c0,c2)=>Fr 86 [(0,.int .i64 x0),(10,.pointer (some ⟨c1,0,none⟩)),(8,.bool false),(9,.pointer (some ⟨c6,0,none⟩))] a∧au w (pt c1 (gj.enc c0) 318::pt c6 (gp.enc c2) 316::Lr)) (fun i7 I i6 G H=>?_) ?_
 ·refine go 5 fun a w G H=>?_
  refine cc I (fun i1 I=>?_) fun i1 I=>?_
  ·refine go 8 fun a w G H=>?_
   refine aA G (aW HY Tryz.underlying316 F6 G (parts:=[(0,.tmp 23),(1,.tmp 26)]) E E (aO E E (by rw[gp.len];decide) (gp.s_a _ _) (aO E E (by rw[gp.len];decide) (gp.vq _ _) bD))) E E E fun a G=>?_
   refine go 10 fun a w G H=>?_
   refine aA G (aW HZ Tryz.underlying318 F7 G (parts:=[(0,.tmp 30),(1,.tmp 33)]) E E (aO E E (by rw[gj.len];decide) (gj.s_a _ _) (aO E E (by rw[gj.len];decide) (gj.vq _ _) bD))) E E E fun a G=>?_
   exact lf
  exact lf
 rintro⟨c0,c2⟩ a w I ⟨G,H⟩
 replace I:Sh.zG x0 c0 c2=_:=I
 unfold Sh.zG at I
 refine go 14 fun a w G H=>?_
 refine jm (pt c1 (gj.enc c0) 318::Lr) G H I [10,8] (fun c8 u=>(11,.bool c8)::u) (fun i8 I c7 G H=>?_) fun c8 a w I G H=>?_
 ·refine go 4 fun a w G H=>?_
  refine jm (pt c1 (gj.enc c0) 318::Lr) G H I [10,8] (fun c9 u=>(11,.bool c9)::u) (fun i9 I c5 G H=>?_) fun c9 a w I G H=>?_
  ·refine go 4 fun a w G H=>?_
   refine jm (pt c1 (gj.enc c0) 318::pt c6 (gp.enc c2) 316::Lr) G H I [10,8,9] (fun d0 u=>(11,.bool d0)::u) (fun j0 I c4 G H=>?_) fun d0 a w I G H=>?_
   ·refine go 4 fun a w G H=>?_
    refine jm (pt c1 (gj.enc c0) 318::pt c6 (gp.enc c2) 316::Lr) G H I [10,8,9] (fun d1 u=>(11,.bool d1)::u) (fun j1 I c3 G H=>?_) fun d1 a w I G H=>?_
    ·refine go 17 fun a w G H=>?_
     refine cc I (fun d2 I=>?_) fun d2 I=>?_
     ·refine go 17 fun a w G H=>?_
      obtain rfl:=oI I
      have I:=bB c3
      subst I
      have I:=bB c4
      subst I
      have I:=bB c5
      subst I
      have I:=bB c7
      subst I
      refine aT wQ G E ?_
      exact⟨E,bU H [] 2 E⟩
     refine go 9 fun a w G H=>?_
     refine cc I (fun d3 I=>?_) fun d3 I=>?_
     ·refine go 19 fun a w G H=>?_
      obtain rfl:=oI I
      have I:=bB c3
      subst I
      have I:=bB c4
      subst I
      have I:=bB c5
      subst I
      have I:=bB c7
      subst I
      refine aT wQ G E ?_
      exact⟨E,bU H [] 2 E⟩
     refine go 9 fun a w G H=>?_
     refine cc I (fun d4 I=>?_) fun d4 I=>?_
     ·refine go 22 fun a w G H=>?_
      obtain rfl:=oI I
      have I:=bB c3
      subst I
      have I:=bB c4
      subst I
      have I:=bB c5
      subst I
      have I:=bB c7
      subst I
      refine aT wQ G E ?_
      exact⟨E,bU H [] 2 E⟩
     refine go 9 fun a w G H=>?_
     refine cc I (fun d5 I=>?_) fun d5 I=>?_
     ·exact lf
     refine go 9 fun a w G H=>?_
     refine cc I (fun d6 I=>?_) fun d6 I=>?_
     ·exact lf
     refine go 9 fun a w G H=>?_
     refine cc I (fun d7 I=>?_) fun d7 I=>?_
     ·refine go 21 fun a w G H=>?_
      obtain rfl:=oI I
      have I:=bB c3
      subst I
      exact⟨true,E,G.to ⟨E,E,E,E,trivial⟩,H⟩
     refine go 9 fun a w G H=>?_
     refine cc I (fun d8 I=>?_) fun d8 I=>?_
     ·refine go 18 fun a w G H=>?_
      obtain rfl:=oI I
      have I:=bB c3
      subst I
      exact⟨false,E,G.to ⟨E,E,E,E,trivial⟩,H⟩
     refine go 9 fun a w G H=>?_
     refine cc I (fun d9 I=>?_) fun d9 I=>?_
     ·refine go 26 fun a w G H=>?_
      obtain rfl:=oI I
      have I:=bB c3
      subst I
      have I:=bB c4
      subst I
      exact⟨true,E,G.to ⟨E,E,E,trivial⟩,bU H [0] 2 E⟩
     refine go 9 fun a w G H=>?_
     refine cc I (fun g0 I=>?_) fun g0 I=>?_
     ·refine go 23 fun a w G H=>?_
      obtain rfl:=oI I
      have I:=bB c3
      subst I
      have I:=bB c4
      subst I
      exact⟨false,E,G.to ⟨E,E,E,trivial⟩,bU H [0] 2 E⟩
     refine go 9 fun a w G H=>?_
     refine cc I (fun g1 I=>?_) fun g1 I=>?_
     ·refine go 31 fun a w G H=>?_
      obtain rfl:=oI I
      have I:=bB c3
      subst I
      have I:=bB c4
      subst I
      have I:=bB c5
      subst I
      exact⟨true,E,G.to ⟨E,E,E,trivial⟩,bU H [0] 2 E⟩
     refine go 8 fun a w G H=>?_
     refine cc I (fun g2 I=>?_) fun g2 I=>?_
     ·refine go 27 fun a w G H=>?_
      obtain rfl:=oI I
      have I:=bB c3
      subst I
      have I:=bB c4
      subst I
      have I:=bB c5
      subst I
      exact⟨false,E,G.to ⟨E,E,E,trivial⟩,bU H [0] 2 E⟩
     refine go 37 fun a w G H=>?_
     obtain rfl:=oI I
     have I:=bB c3
     subst I
     have I:=bB c4
     subst I
     have I:=bB c5
     subst I
     have I:=bB c7
     subst I
     refine aT wQ G E ?_
     exact⟨E,bU H [] 2 E⟩
    replace I:Sh.JD c2 d1=_:=I
    unfold Sh.JD at I
    refine go 6 fun a w G H=>?_
    obtain⟨i2,g7,I⟩:=adu I
    have g3:=hZ g7 H 
    refine cl Tryz.call298 g3 ?_
    rintro v w ⟨rfl,H⟩ a G
    refine go 4 fun a w G H=>?_
    obtain rfl:=oI I
    have I:=bB c4
    subst I
    have I:=bB c5
    subst I
    have I:=bB c7
    subst I
    refine aT wQ G E ?_
    exact⟨E,bU H [] 2 E⟩
   replace I:Sh.aFj c2 d0=_:=I
   unfold Sh.aFj at I
   refine go 6 fun a w G H=>?_
   obtain⟨i3,g8,I⟩:=adu I
   have g4:=hZ g8 H 
   refine cl Tryz.call298 g4 ?_
   rintro v w ⟨rfl,H⟩ a G
   refine go 4 fun a w G H=>?_
   obtain rfl:=oI I
   have I:=bB c5
   subst I
   have I:=bB c7
   subst I
   refine aT wQ G E ?_
   exact⟨E,bU H [] 2 E⟩
  replace I:Sh.JC c0 c9=_:=I
  unfold Sh.JC at I
  refine go 6 fun a w G H=>?_
  obtain⟨i4,g9,I⟩:=adu I
  have g5:=iN g9 H 
  refine cl Tryz.call299 g5 ?_
  rintro v w ⟨rfl,H⟩ a G
  refine go 4 fun a w G H=>?_
  obtain rfl:=oI I
  have I:=bB c7
  subst I
  refine aT wQ G E ?_
  exact⟨E,bU H [] 1 E⟩
 replace I:Sh.aFh c0 c8=_:=I
 unfold Sh.aFh at I
 refine go 6 fun a w G H=>?_
 obtain⟨i5,i0,I⟩:=adu I
 have g6:=iN i0 H 
 refine cl Tryz.call299 g6 ?_
 rintro v w ⟨rfl,H⟩ a G
 exact lf
end Go.Proofs
end
