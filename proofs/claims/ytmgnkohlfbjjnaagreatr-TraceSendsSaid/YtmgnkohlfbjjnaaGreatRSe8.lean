/- Ground for the claim TraceSends. -/
import Derived.Test.YtmgnkohlfbjjnaaGreatRProg
import Derived.KernelRfl
import Derived.Test.YtmgnkohlfbjjnaaGreatRSe7
set_option linter.unusedVariables false
set_option linter.unusedSimpArgs false
set_option maxHeartbeats 4000000
open Sum
section
namespace Go.Proofs
open Go.Fw
set_option maxRecDepth 20000
theorem mixed:Tryz.prog.follows .mixedOrders=true:=by kernel_rfl
theorem iD(d:Nat)(x y:aj)(w:World)(hd:3≤d):(Op.equalIn d 46 (.agg x.enc.toArray) (.agg y.enc.toArray)).run Tryz.prog w = .ok (decide (x=y)) w:=by
 obtain⟨d,rfl⟩ : ∃ d',d=d' + 1:=⟨d-1,ac_⟩
 rw[run_equalIn_struct w d 46 _ _ (by simp only[Program.fieldsOf,Tryz.underlying46]) Tryz.stoodInHeld46]
 simp only[Program.fieldsOf,Tryz.underlying46]
 have key:(x=y)↔x.kind=y.kind∧x.table=y.table∧x.row=y.row∧x.x=y.x:=by cases x;cases y;simp
 rw[dS (by decide) Tryz.isAgg3 (aj.g_kind x) (aj.g_kind y) ((kj.int (k:=.i64) Tryz.underlying3) d _ _ w ac_)]
 rw[dS (by decide) Tryz.isAgg3 (aj.g_table x) (aj.g_table y) ((kj.int (k:=.i64) Tryz.underlying3) d _ _ w ac_)]
 rw[dS (by decide) Tryz.isAgg3 (aj.g_row x) (aj.g_row y) ((kj.int (k:=.i64) Tryz.underlying3) d _ _ w ac_)]
 rw[dS (by decide) Tryz.isAgg3 (aj.g_x x) (aj.g_x y) ((kj.int (k:=.i64) Tryz.underlying3) d _ _ w ac_)]
 rw[iC]
 simp only[aad,key]
 repeat' split
 all_goals simp_all
theorem G7:∀ (d:Nat) (x y:Vec UInt8 8) (w:World),2≤d→(Op.equalIn d 48 (.agg (encs x.l).toArray) (.agg (encs y.l).toArray)).run Tryz.prog w = .ok (decide (x=y)) w :=
 kj.vecOne Tryz.underlying48 Tryz.sizeOf5 rfl Tryz.isAgg5 (fun _=>rfl) (kj.u8 Tryz.underlying5)
theorem jE(d:Nat)(x y:bn)(w:World)(hd:6≤d):(Op.equalIn d 50 (.agg x.enc.toArray) (.agg y.enc.toArray)).run Tryz.prog w = .ok (decide (x=y)) w:=by
 obtain⟨d,rfl⟩ : ∃ d',d=d' + 1:=⟨d-1,ac_⟩
 rw[run_equalIn_struct w d 50 _ _ (by simp only[Program.fieldsOf,Tryz.underlying50]) Tryz.stoodInHeld50]
 simp only[Program.fieldsOf,Tryz.underlying50]
 have key:(x=y)↔x.ptr=y.ptr∧x.bytes=y.bytes∧x.mask=y.mask:=by cases x;cases y;simp
 rw[jL (by decide) Tryz.isAgg46 Tryz.sizeOf46 (bn.c_ptr x) (bn.c_ptr y) (iD d _ _ w ac_)]
 rw[jL (by decide) Tryz.isAgg48 Tryz.sizeOf48 (bn.c_bytes x) (bn.c_bytes y) (G7 d _ _ w ac_)]
 rw[dS (by decide) Tryz.isAgg3 (bn.g_mask x) (bn.g_mask y) ((kj.int (k:=.i64) Tryz.underlying3) d _ _ w ac_)]
 rw[iC]
 simp only[aad,key]
 repeat' split
 all_goals simp_all
theorem z46(w:World):(zeroValue 46).run Tryz.prog w = .ok (.agg aj.zero.enc.toArray) w:=(Tryz.zeroValue46 w).trans ada
theorem z50(w:World):(zeroValue 50).run Tryz.prog w = .ok (.agg bn.zero.enc.toArray) w:=(Tryz.zeroValue50 w).trans ada
theorem JU(w:World):(zeroValue 128).run Tryz.prog w = .ok (.agg dM.zero.enc.toArray) w:=(Tryz.zeroValue128 w).trans ada
theorem JV(w:World):(zeroValue 151).run Tryz.prog w = .ok (.agg d_.zero.enc.toArray) w:=(Tryz.zeroValue151 w).trans ada
theorem z156(w:World):(zeroValue 156).run Tryz.prog w = .ok (.agg bk.zero.enc.toArray) w:=(Tryz.zeroValue156 w).trans ada
theorem z60(w:World):(zeroValue 60).run Tryz.prog w = .ok (.agg bw.zero.enc.toArray) w:=(Tryz.zeroValue60 w).trans ada
theorem z30(w:World):(zeroValue 30).run Tryz.prog w = .ok (.agg bu.zero.enc.toArray) w:=(Tryz.zeroValue30 w).trans ada
theorem z36(w:World):(zeroValue 36).run Tryz.prog w = .ok (.agg bp.zero.enc.toArray) w:=(Tryz.zeroValue36 w).trans ada
theorem OE(w:World):(zeroValue 205).run Tryz.prog w = .ok (.agg gP.zero.enc.toArray) w:=(Tryz.zeroValue205 w).trans ada
theorem BS(w:World):(zeroValue 101).run Tryz.prog w = .ok (.agg bg.zero.enc.toArray) w:=(Tryz.zeroValue101 w).trans ada
theorem z27(w:World):(zeroValue 27).run Tryz.prog w = .ok (.agg bj.zero.enc.toArray) w:=(Tryz.zeroValue27 w).trans ada
theorem z54(w:World):(zeroValue 54).run Tryz.prog w = .ok (.agg bf.zero.enc.toArray) w:=by
 rw[Tryz.zeroValue54]
 have:Tryz.zeroCells54=bf.zero.enc.toArray:=by kernel_rfl
 rw[this]
theorem OD(w:World):(zeroValue 121).run Tryz.prog w = .ok (.agg fj.zero.enc.toArray) w:=(Tryz.zeroValue121 w).trans ada
theorem z203(w:World):(zeroValue 203).run Tryz.prog w = .ok (.agg af.zero.enc.toArray) w:=by
 rw[Tryz.zeroValue203]
 have:Tryz.zeroCells203=af.zero.enc.toArray:=by kernel_rfl
 rw[this]
theorem nK(w:World):(zeroValue 259).run Tryz.prog w = .ok (.agg ay.zero.enc.toArray) w:=(Tryz.zeroValue259 w).trans ada
theorem yh(w:World):(zeroValue 278).run Tryz.prog w = .ok (.agg cj.zero.enc.toArray) w:=(Tryz.zeroValue278 w).trans ada
theorem Da(w:World):(zeroValue 280).run Tryz.prog w = .ok (.agg gd.zero.enc.toArray) w:=(Tryz.zeroValue280 w).trans ada
theorem Ft(w:World):(zeroValue 316).run Tryz.prog w = .ok (.agg f_.zero.enc.toArray) w:=(Tryz.zeroValue316 w).trans ada
theorem Fv(w:World):(zeroValue 318).run Tryz.prog w = .ok (.agg fR.zero.enc.toArray) w:=(Tryz.zeroValue318 w).trans ada
theorem in2:Tryz.prog.info? 2=some Tryz.t2:=by kernel_rfl
theorem jO:Tryz.prog.info? 3=some Tryz.t3:=by kernel_rfl
theorem DI:Tryz.prog.info? 4=some Tryz.t4:=by kernel_rfl
theorem r7:Tryz.prog.info? 5=some Tryz.t5:=by kernel_rfl
theorem ry:Tryz.prog.info? 23=some Tryz.t23:=by kernel_rfl
theorem in24:Tryz.prog.info? 24=some Tryz.t24:=by kernel_rfl
theorem IX:Tryz.prog.info? 25=some Tryz.t25:=by kernel_rfl
theorem E1:Tryz.prog.info? 28=some Tryz.t28:=by kernel_rfl
theorem NH:Tryz.prog.info? 30=some Tryz.t30:=by kernel_rfl
theorem NI:Tryz.prog.info? 33=some Tryz.t33:=by kernel_rfl
theorem NJ:Tryz.prog.info? 34=some Tryz.t34:=by kernel_rfl
theorem Aa:Tryz.prog.info? 46=some Tryz.t46:=by kernel_rfl
theorem I4:Tryz.prog.info? 47=some Tryz.t47:=by kernel_rfl
theorem NK:Tryz.prog.info? 48=some Tryz.t48:=by kernel_rfl
theorem A8:Tryz.prog.info? 50=some Tryz.t50:=by kernel_rfl
theorem I5:Tryz.prog.info? 51=some Tryz.t51:=by kernel_rfl
theorem A_:Tryz.prog.info? 52=some Tryz.t52:=by kernel_rfl
theorem NL:Tryz.prog.info? 56=some Tryz.t56:=by kernel_rfl
theorem NM:Tryz.prog.info? 57=some Tryz.t57:=by kernel_rfl
theorem NN:Tryz.prog.info? 58=some Tryz.t58:=by kernel_rfl
theorem E2:Tryz.prog.info? 60=some Tryz.t60:=by kernel_rfl
theorem r6:Tryz.prog.info? 101=some Tryz.t101:=by kernel_rfl
theorem A5:Tryz.prog.info? 128=some Tryz.t128:=by kernel_rfl
theorem A6:Tryz.prog.info? 151=some Tryz.t151:=by kernel_rfl
theorem vw:Tryz.prog.info? 156=some Tryz.t156:=by kernel_rfl
theorem IV:Tryz.prog.info? 199=some Tryz.t199:=by kernel_rfl
theorem IW:Tryz.prog.info? 201=some Tryz.t201:=by kernel_rfl
theorem A7:Tryz.prog.info? 205=some Tryz.t205:=by kernel_rfl
theorem DF:Tryz.prog.info? 233=some Tryz.t233:=by kernel_rfl
theorem gI:Tryz.prog.info? 259=some Tryz.t259:=by kernel_rfl
theorem IY:Tryz.prog.info? 278=some Tryz.t278:=by kernel_rfl
theorem IZ:Tryz.prog.info? 334=some Tryz.t334:=by kernel_rfl
theorem DG:Tryz.prog.info? 335=some Tryz.t335:=by kernel_rfl
theorem Bo:∀ w,(vh Tryz.prog 46).run Tryz.prog w = .ok #[(0,1),(1,1),(2,1),(3,1)] w:=fun w=>by kernel_rfl
theorem Ji:∀ w,(vh Tryz.prog 50).run Tryz.prog w = .ok #[(0,4),(4,8),(12,1)] w:=fun w=>by kernel_rfl
theorem Jf:∀ w,(vh Tryz.prog 128).run Tryz.prog w = .ok #[(0,1),(1,4),(5,4)] w:=fun w=>by kernel_rfl
theorem Jg:∀ w,(vh Tryz.prog 151).run Tryz.prog w = .ok #[(0,1),(1,13),(14,13)] w:=fun w=>by kernel_rfl
theorem DL:∀ w,(vh Tryz.prog 156).run Tryz.prog w = .ok #[(0,1),(1,1),(2,1),(3,1)] w:=fun w=>by kernel_rfl
theorem E5:∀ w,(vh Tryz.prog 60).run Tryz.prog w = .ok #[(0,1),(1,1),(2,1),(3,1),(4,1),(5,1),(6,1)] w:=fun w=>by kernel_rfl
theorem Bl:∀ w,(vh Tryz.prog 30).run Tryz.prog w = .ok #[(0,1),(1,1)] w:=fun w=>by kernel_rfl
theorem Bm:∀ w,(vh Tryz.prog 36).run Tryz.prog w = .ok #[(0,2),(2,1),(3,1)] w:=fun w=>by kernel_rfl
theorem zo:∀ w,(vh Tryz.prog 101).run Tryz.prog w = .ok #[(0,1),(1,1),(2,1),(3,1),(4,1),(5,1),(6,1),(7,1)] w:=fun w=>by kernel_rfl
theorem NZ:∀ w,(vh Tryz.prog 54).run Tryz.prog w = .ok #[(0,44),(44,416),(460,1),(461,1),(462,1),(463,1),(464,1),(465,1)] w:=fun w=>by kernel_rfl
theorem Bj:∀ w,(vh Tryz.prog 203).run Tryz.prog w = .ok #[(0,420),(420,1),(421,1),(422,1),(423,44),(467,1),(468,1),(469,1),(470,1)] w:=fun w=>by kernel_rfl
theorem j_:∀ w,(vh Tryz.prog 259).run Tryz.prog w = .ok #[(0,1),(1,1),(2,1),(3,1),(4,1),(5,1),(6,1),(7,1),(8,1),(9,1),(10,1)] w:=fun w=>by kernel_rfl
theorem vx:∀ w,(vh Tryz.prog 278).run Tryz.prog w = .ok #[(0,1),(1,1),(2,1),(3,1)] w:=fun w=>by kernel_rfl
theorem DN:∀ w,(vh Tryz.prog 280).run Tryz.prog w = .ok #[(0,1),(1,4)] w:=fun w=>by kernel_rfl
theorem DQ:∀ w,(vh Tryz.prog 316).run Tryz.prog w = .ok #[(0,1),(1,1)] w:=fun w=>by kernel_rfl
theorem DR:∀ w,(vh Tryz.prog 318).run Tryz.prog w = .ok #[(0,1),(1,1)] w:=fun w=>by kernel_rfl
abbrev sd:=@Tryz.call142
abbrev oy:=@Tryz.call145
abbrev nN:=@Tryz.call230
abbrev pI:=@Tryz.call231
abbrev nt:=@Tryz.call236
abbrev nW:=@Tryz.call237
abbrev si:=@Tryz.call242
abbrev x9:=@Tryz.call254
abbrev qt:=@Tryz.call286
abbrev vy:=@Tryz.call297
abbrev qe:=@Tryz.isAgg283
abbrev r_:=@Tryz.isAgg3
abbrev ko:=@Tryz.results147
abbrev zp:=@Tryz.results204
abbrev zq:=@Tryz.results207
abbrev vz:=@Tryz.results208
abbrev ya:=@Tryz.results209
abbrev zr:=@Tryz.results211
abbrev zt:=@Tryz.results212
abbrev yb:=@Tryz.results238
abbrev vG:=@Tryz.results239
abbrev va:=@Tryz.results249
abbrev C2:=@Tryz.results25
abbrev yc:=@Tryz.results252
abbrev zu:=@Tryz.results296
abbrev Br:=@Tryz.results54
abbrev Ac:=@Tryz.results66
abbrev vp:=@Tryz.sizeOf23
abbrev mf:=@Tryz.sizeOf283
abbrev E8:=@Tryz.sizeOf3
abbrev iw:=@Tryz.sizeOf46
abbrev KG:=@Tryz.sizeOf5
abbrev yd:=@Tryz.underlying101
abbrev Bt:=@Tryz.underlying203
abbrev kg:=@Tryz.underlying23
abbrev gQ:=@Tryz.underlying236
abbrev E9:=@Tryz.underlying24
abbrev wz:=@Tryz.underlying25
abbrev kh:=@Tryz.underlying259
abbrev Ad:=@Tryz.underlying28
abbrev qh:=@Tryz.underlying3
abbrev Bv:=@Tryz.underlying30
abbrev jv:=@Tryz.underlying301
abbrev Bz:=@Tryz.underlying36
abbrev BD:=@Tryz.underlying46
abbrev KH:=@Tryz.underlying5
abbrev kz:=@Tryz.underlying52
abbrev C4:=@Tryz.underlying54
abbrev Ae:=@Tryz.underlying58
abbrev E_:=@Tryz.underlying60
abbrev BF:=@Tryz.zeroValue300
section
open Go.Fw Go.Fx
abbrev Ss:bf:=bf.mk (⟨List.replicate 11 aj.zero,rfl⟩ : Vec aj 11) (⟨List.replicate 32 bn.zero,rfl⟩ : Vec bn 32) SV.nil SV.nil SV.nil 0 0 false
abbrev FB:bp:=bp.mk (bu.mk SV.nil SV.nil) SV.nil 0
abbrev Gt(x:gy)(a b c:SV):bp:=bp.mk (bu.mk a b) c x.end_
abbrev mPc(x:b9)(a b:SV):bk:=bk.mk x.table x.from_ a b
abbrev Gy:bw:=bw.mk 0 0 false SV.nil SV.nil SV.nil SV.nil
abbrev ox(x:br)(a b c:SV):bf:=bf.mk x.a8 x.bh a b c x.at_ x.steps x.done
abbrev yN(x:dw)(a b c d:SV):bw:=bw.mk x.at_ x.next x.done a b c d
theorem oI{α:Type}{a b:α}(h:some a=some b):a=b:=ac8 h
end
theorem E.{u}{α:Sort u}{a:α}:a=a:=rfl
end Go.Proofs
end
section
namespace Go.Proofs
open Go.Fw
set_option maxRecDepth 20000
theorem JW(w:World):(zeroValue 358).run Tryz.prog w = .ok (.agg eo.zero.enc.toArray) w:=(Tryz.zeroValue358 w).trans ada
theorem DT:∀ w,(vh Tryz.prog 358).run Tryz.prog w = .ok #[(0,1),(1,1)] w:=fun w=>by kernel_rfl
theorem JX(w:World):(zeroValue 360).run Tryz.prog w = .ok (.agg ez.zero.enc.toArray) w:=(Tryz.zeroValue360 w).trans ada
theorem DU:∀ w,(vh Tryz.prog 360).run Tryz.prog w = .ok #[(0,1)] w:=fun w=>by kernel_rfl
theorem Fz(w:World):(zeroValue 363).run Tryz.prog w = .ok (.agg bX.zero.enc.toArray) w:=(Tryz.zeroValue363 w).trans ada
theorem Bn:∀ w,(vh Tryz.prog 363).run Tryz.prog w = .ok #[(0,1),(1,4)] w:=fun w=>by kernel_rfl
end Go.Proofs
end
section
namespace Go.Fw
theorem Fr.t{n:Nat}{F U:List (Nat×Value)}{a:Act}{dd:List Deferred}(h:Fr n F a dd)(hG:allIn F U:=by repeat (first|exact trivial|refine⟨rfl,?_⟩)):Fr n U a dd:=h.to hG
end Go.Fw
namespace Go.Proofs
open Go Go.Fw Go.Fx
abbrev Am(n:Nat)(dd:List Deferred)(F:List (Nat×Value))(L:List di)(X:Act→World→Prop):Prop:=∀ a w,Fr n F a dd→au w L→X a w
structure St(m k:Nat)(B A:Prop):Prop where
 h:B→A
structure MK(X:Act→World→Prop)(n:Nat)(dd:List Deferred)(F:List (Nat×Value))(L:List di):Prop where
 h:Am n dd F L X
structure ML(r:Option Nat)(P:Program)(ops:Array Oper)(Q:Exit→Act→World→Prop)(l:List Oper)(n:Nat)(dd:List Deferred)(F:List (Nat×Value))(L:List di):Prop where
 h:Am n dd F L (vi r P ops Q l)
structure MW(r:Option Nat)(P:Program)(c:Code)(Q:Exit→Act→World→Prop)(n:Nat)(dd:List Deferred)(F:List (Nat×Value))(L:List di):Prop where
 h:Am n dd F L (Wp r P c Q)
structure MX(e:Exit)(Q:Exit→Act→World→Prop)(n:Nat)(dd:List Deferred)(F:List (Nat×Value))(L:List di):Prop where
 h:Am n dd F L (Q e)
section
variable {r r':Option Nat}{P P':Program}{ops:Array Oper}{Q Q':Exit→Act→World→Prop}{o:Oper}{rest:List Oper}{q k n d:Nat}{F:List (Nat×Value)}{a:Act}{dd:List Deferred}{w:World}{v:Value}{B:Prop}{L L':List di}{K:Act→World→Prop}
theorem XC{X:Act→World→Prop}(hq:Nat.ble k q=true):St q k (Am n dd F L X) (MK X n dd F L):=⟨fun h=>⟨h⟩⟩
theorem Xq{l:List Oper}(hq:Nat.ble k q=true):St q k (Am n dd F L (vi r P ops Q l)) (ML r P ops Q l n dd F L):=⟨fun h=>⟨h⟩⟩
theorem Xr{c:Code}(hq:Nat.ble k q=true):St q k (Am n dd F L (Wp r P c Q)) (MW r P c Q n dd F L):=⟨fun h=>⟨h⟩⟩
theorem Xt{e:Exit}(hq:Nat.ble k q=true):St q k (Am n dd F L (Q e)) (MX e Q n dd F L):=⟨fun h=>⟨h⟩⟩
theorem X0{l:List Oper}(h:St q k B (ML r P ops Q l n dd F L)):St q k B (MK (vi r P ops Q l) n dd F L):=⟨fun b=>⟨(h.h b).h⟩⟩
theorem Qx{c:Code}(h:St q k B (MW r P c Q n dd F L)):St q k B (MK (Wp r P c Q) n dd F L):=⟨fun b=>⟨(h.h b).h⟩⟩
theorem X2{e:Exit}(h:St q k B (MX e (Exit.then K Q) n dd F L)):St q k B (MK (Exit.then K Q e) n dd F L):=⟨fun b=>⟨(h.h b).h⟩⟩
theorem XZ{e:Exit}{i:Nat}(h:St q k B (MX e (Exit.inBlock i Q) n dd F L)):St q k B (MK (Exit.inBlock i Q e) n dd F L):=⟨fun b=>⟨(h.h b).h⟩⟩
theorem XW{c:Code}(h:St q (k+1) B (MW r P c Q n dd F L)):St q (k+1) B (MK (Wp r P c Q) n dd F L):=Qx h
theorem XD(h:St q k B (MX .normal Q n dd F L)):St q (k+1) B (ML r P ops Q [] n dd F L):=⟨fun b=>⟨fun a w G H=>aJ ((h.h b).h a w G H)⟩⟩
theorem XG(h:St q k B (MX .normal Q n dd F L)):St q (k+1) B (MW r P .skip Q n dd F L):=⟨fun b=>⟨fun a w G H=>bL ((h.h b).h a w G H)⟩⟩
theorem XE(h:St q k B (MX .ret Q n dd F L)):St q (k+1) B (MW r P .ret Q n dd F L):=⟨fun b=>⟨fun a w G H=>qo ((h.h b).h a w G H)⟩⟩
theorem Xu{i:Nat}(h:St q k B (MX (.exit i) Q n dd F L)):St q (k+1) B (MW r P (.exit i) Q n dd F L):=⟨fun b=>⟨fun a w G H=>dB ((h.h b).h a w G H)⟩⟩
theorem Xy(h:St q k B (MK K n dd F L)):St q (k+1) B (MX .normal (Exit.then K Q) n dd F L):=⟨fun b=>⟨fun a w G H=>aB ((h.h b).h a w G H)⟩⟩
theorem Vt{i:Nat}(h:St q k B (MX .normal Q n dd F L)):St q (k+1) B (MX .normal (Exit.inBlock i Q) n dd F L):=⟨fun b=>⟨fun a w G H=>cC ((h.h b).h a w G H)⟩⟩
theorem WH{i:Nat}(h:St q k B (MX (.exit i) Q n dd F L)):St q (k+1) B (MX (.exit i) (Exit.then K Q) n dd F L):=⟨fun b=>⟨fun a w G H=>bV ((h.h b).h a w G H)⟩⟩
theorem Xz{i:Nat}(h:St q k B (MX .normal Q n dd F L)):St q (k+1) B (MX (.exit i) (Exit.inBlock i Q) n dd F L):=⟨fun b=>⟨fun a w G H=>dV ((h.h b).h a w G H)⟩⟩
theorem WG{i j:Nat}(hij:Nat.beq j i=false)(h:St q k B (MX (.exit j) Q n dd F L)):St q (k+1) B (MX (.exit j) (Exit.inBlock i Q) n dd F L):=⟨fun b=>⟨fun a w G H=>Qn hij ((h.h b).h a w G H)⟩⟩
theorem W2(h:St q k B (MX .ret Q n dd F L)):St q (k+1) B (MX .ret (Exit.then K Q) n dd F L):=⟨fun b=>⟨fun a w G H=>W4 ((h.h b).h a w G H)⟩⟩
theorem Vu{i:Nat}(h:St q k B (MX .ret Q n dd F L)):St q (k+1) B (MX .ret (Exit.inBlock i Q) n dd F L):=⟨fun b=>⟨fun a w G H=>P6 ((h.h b).h a w G H)⟩⟩
theorem XF{x y:Code}(h:St q k B (MW r P x (Exit.then (Wp r P y Q) Q) n dd F L)):St q (k+1) B (MW r P (.seq x y) Q n dd F L):=⟨fun b=>⟨fun a w G H=>aH ((h.h b).h a w G H)⟩⟩
theorem Vv{i:Nat}{l:List Oper}(h:St q k B (ML r P l.toArray Q l n dd F L)):St q (k+1) B (MW r P (.region i l.toArray false) Q n dd F L):=⟨fun b=>⟨fun a w G H=>aD ((h.h b).h a w G H)⟩⟩
theorem WZ{id:Nat}{c:Code}(h:St q k B (MW r P c (Exit.inBlock id Q) n dd F L)):St q (k+1) B (MW r P (.block id c) Q n dd F L):=⟨fun b=>⟨fun a w G H=>bJ ((h.h b).h a w G H)⟩⟩
theorem W1{c:Operand}{x y:Code}{u:Bool}(hc:Fw.ev F c=some (.bool u))(hb:u=true)(h:St q k B (MW r P x Q n dd F L)):St q (k+1) B (MW r P (.cond c x y) Q n dd F L):=⟨fun b=>⟨fun a w G H=>OM G hc hb ((h.h b).h a w G H)⟩⟩
theorem W0{c:Operand}{x y:Code}{u:Bool}(hc:Fw.ev F c=some (.bool u))(hb:u=false)(h:St q k B (MW r P y Q n dd F L)):St q (k+1) B (MW r P (.cond c x y) Q n dd F L):=⟨fun b=>⟨fun a w G H=>zZ G hc hb ((h.h b).h a w G H)⟩⟩
theorem XX(hg:o.guard=none)(hr:∀ a w,Fr n F a dd→au w L→(execOp a.eval o).run P w = .ok (.value v) w)(hd:o.dst=some d)(hn:Nat.blt d n=true)(next:St q k B (ML r P ops Q rest n dd ((d,v)::F) L)) :
  St q (k+1) B (ML r P ops Q (o::rest) n dd F L):=⟨fun b=>⟨fun a w G H=>aA G (hr a w G H) hg hd hn fun a' yz=>(next.h b).h a' w yz H⟩⟩
theorem Xv{g t:Nat}{want c:Bool}(hg:o.guard=some (g,want))(ht:(ops[g]?).bind (·.dst)=some t)(hc:Fw.look F t=some (.bool c))(hw:c=want)
  (hr:∀ a w,Fr n F a dd→au w L→(execOp a.eval o).run P w = .ok (.value v) w) (hd:o.dst=some d) (hn:Nat.blt d n=true) (next:St q k B (ML r P ops Q rest n dd ((d,v)::F) L)) :
  St q (k+1) B (ML r P ops Q (o::rest) n dd F L):=⟨fun b=>⟨fun a w G H=>aO G hg ht hc hw (hr a w G H) hd hn fun a' yz=>(next.h b).h a' w yz H⟩⟩
theorem Xx{g t:Nat}{want c:Bool}(hg:o.guard=some (g,want))(ht:(ops[g]?).bind (·.dst)=some t)(hc:Fw.look F t=some (.bool c))(hw:c = !want)
  (hd:o.dst=some d) (hn:Nat.blt d n=true) (next:St q k B (ML r P ops Q rest n dd ((d,undef)::F) L)) :
  St q (k+1) B (ML r P ops Q (o::rest) n dd F L):=⟨fun b=>⟨fun a w G H=>aF G hg ht hc hw hd hn fun a' yz=>(next.h b).h a' w yz H⟩⟩
theorem W3{g t:Nat}{want:Bool}(hg:o.guard=some (g,want))(ht:(ops[g]?).bind (·.dst)=some t)(hc:Fw.look F t=some undef)
  (hd:o.dst=some d) (hn:Nat.blt d n=true) (next:St q k B (ML r P ops Q rest n dd ((d,undef)::F) L)) :
  St q (k+1) B (ML r P ops Q (o::rest) n dd F L):=⟨fun b=>⟨fun a w G H=>gR G hg ht hc hd hn fun a' yz=>(next.h b).h a' w yz H⟩⟩
theorem XB{e:TypeId}{x:Operand}{zs:List Value}{C:Nat→Prop}(hg:o.guard=none)(ho:o.op = .box e x)(hx:Fw.ev F x=some v)(tg:v.cells=zs.toArray)(hd:o.dst=some d)(hn:Nat.blt d n=true)
  (next:∀ b,St q k (C b) (ML r P ops Q rest n dd ((d,.pointer (some ⟨b,0,none⟩))::F) (pt b zs e::L))):St q (k+1) (∀ b,C b) (ML r P ops Q (o::rest) n dd F L) :=
 ⟨fun h=>⟨fun a w G H=>aN G hg hd hn (gE G hx tg ho fun b w' hz hA a' yz=>((next b).h (h b)).h a' w' yz (H.plus hA))⟩⟩
class Zr(P:Program)(e:TypeId)(zs:outParam (List Value)):Prop where
 h:∀ w,∃ z:Value,(zeroValue e).run P w = .ok z w∧z.cells=zs.toArray
theorem WY{e:TypeId}{zs:List Value}{C:Nat→Prop}(hg:o.guard=none)(ho:o.op = .alloc e)(hz:Zr P e zs)(hd:o.dst=some d)(hn:Nat.blt d n=true)
  (next:∀ b,St q k (C b) (ML r P ops Q rest n dd ((d,.pointer (some ⟨b,0,none⟩))::F) (pt b zs e::L))):St q (k+1) (∀ b,C b) (ML r P ops Q (o::rest) n dd F L) :=
 ⟨fun h=>⟨fun a w G H=>aN G hg hd hn (by
  obtain⟨z,h1,h2⟩:=hz.h w
  have h:=h w.heap.size
  have h3:=iz.alloc w (.cells zs.toArray e (0,0))
  unfold Yd
  simp only[execOp,ho,Instr.alloc,newVar,newRow,Sem.run_bind,h1,Result.andThen_ok,run_newObj,Sem.run_pure,h2]
  exact fun a' yz=>((next _).h h).h a' _ yz (H.plus h3))⟩⟩
class FA(P:Program)(t i:Nat)(fo:outParam Nat):Prop where
 h:∃ fs ft ti,P.underlying t=some (.struct fs)∧(fs[i]?).map (fun f=>(f.offset,f.type))=some (fo,ft)∧P.info? ft=some ti∧Nat.beq ti.size 0=false
def HK(b:BinOp)(k:IntKind)(i j:Int):Option Value:=match b with
 | .eql=>some (.bool (decide (i=j)))
 | .neq=>some (.bool (!decide (i=j)))
 | .lss=>some (.bool (decide (i<j)))
 | .leq=>some (.bool (decide (i≤j)))
 | .gtr=>some (.bool (decide (j<i)))
 | .geq=>some (.bool (decide (j≤i)))
 | .add=>some (.int k (k.wrap (i+j)))
 | .sub=>some (.int k (k.wrap (i-j)))
 | .mul=>some (.int k (k.wrap (i*j)))
 | _=>none
theorem XA{b:BinOp}{t yt:TypeId}{x y:Operand}{k:IntKind}{i j:Int}(G:Fr n F a dd)(ho:o.op = .binOp b t x y yt)(hx:Fw.ev F x=some (.int k i))(hy:Fw.ev F y=some (.int k j))(hv:HK b k i j=some v) :
  (execOp a.eval o).run P w = .ok (.value v) w:=by
 cases b<;>simp only[HK,ac9,reduceCtorEq]at hv<;>subst hv<;>first
  | exact dR G ho hx hy
  | exact fW G ho hx hy
  | exact eD G ho hx hy
  | exact G3 G ho hx hy
  | exact iV G ho hx hy
  | exact Ha G ho hx hy
  | exact dF G ho hx hy
  | exact iX G ho hx hy
  | exact Ek G ho hx hy
theorem Xw{c x y:Operand}{b b':Bool}(G:Fr n F a dd)(ho:o.op = .pick c x y)(hc:Fw.ev F c=some (.bool b))(hb:b=b')(hx:Fw.ev F (match b' with|true=>x|false=>y)=some v):(execOp a.eval o).run P w = .ok (.value v) w:=by
 cases b'
 ·exact bU G ho hc hb hx
 ·exact bR G ho hc hb hx
theorem XY{t:TypeId}{x:Operand}{i b off off' fo:Nat}(G:Fr n F a dd)(ho:o.op = .fieldAddr t x i)(hx:Fw.ev F x=some (.pointer (some ⟨b,off,none⟩)))[hf:FA P t i fo]
  (hoff:off+fo=off'):(execOp a.eval o).run P w = .ok (.value (.pointer (some ⟨b,off',none⟩))) w:=by
 obtain⟨fs,ft,ti,h1,h2,h3,h4⟩:=hf
 exact aC h1 h2 h3 h4 G ho hx hoff
end
class vk(t:TypeId):Prop where
 h:∀ w,(isAgg t).run Tryz.prog w = .ok false w
class sA(t:TypeId)(n:outParam Nat):Prop where
 h:∀ w,(isAgg t).run Tryz.prog w = .ok true w
 s:∀ w,(sizeOf t).run Tryz.prog w = .ok n w
class Sz(t:TypeId)(n:outParam Nat):Prop where
 s:∀ w,(sizeOf t).run Tryz.prog w = .ok n w
class US(t:TypeId)(e:outParam TypeId):Prop where
 h:Tryz.prog.underlying t=some (.slice e)
class UA(t:TypeId)(n:outParam Nat)(e:outParam TypeId):Prop where
 h:Tryz.prog.underlying t=some (.array n e)
class UI(t:TypeId)(k:outParam IntKind):Prop where
 h:Tryz.prog.underlying t=some (.int k)
class Is(e:TypeId)(n:outParam Nat):Prop where
 h:∃ ti,Tryz.prog.info? e=some ti∧ti.size=n
class Gg(cs:List Value)(off:Nat)(v:outParam Value):Prop where
 h:cs[off]? = some v
class En(vs:List Value)(n:outParam Nat):Prop where
 len:vs.length=n
 one:∀ u∈vs,u.oneCell' = true
class Cc(cs:List Value)(off n:Nat)(vs:outParam (List Value)):Prop where
 h:Fw.cut cs off n=vs
 len:vs.length=n
class Ci(cs:List Value)(off sz:Nat)(X:outParam Type)(e:outParam (du X))(l:outParam (List X)):Prop where
 h:∀ (i:Nat) (y:X),l[i]? = some y→Fw.cut cs (off+i*sz) sz=e.enc y
class Ef(X:Type)[du X](f:outParam (X→List Value)):Prop where
 h:∀ x:X,du.enc x=f x
class Se(cs:List Value)(off:Nat)(v:Value)(cs':outParam (List Value)):Prop where
 h:cs.set off v=cs'
 lt:off<cs.length
class yp(L:List di)(b:Nat)(cs:outParam (List Value))(T:outParam TypeId):Prop where
 h:∃ i:Nat,L[i]? = some (pt b cs T)
class Ch(L:List di)(b:Nat)(cs':List Value)(L':outParam (List di)):Prop where
 h:∃ (i:Nat) (cs:List Value) (T:TypeId),L[i]? = some (pt b cs T)∧L.set i (pt b cs' T)=L'
class Tl(L D:List di):Prop where
 h:∀ w,au w L→au w D
inductive sw:List di→Nat→List di→Prop
 | zero {L:List di}:sw L 0 L
 | succ {y:di} {L D:List di} {n:Nat} (h:sw L n D):sw (y::L) (n+1) D
inductive qm(L:List di):List Nat→Nat→List di→Prop
 | nil {n:Nat} {D:List di} (h:sw L n D):qm L [] n D
 | cons {i n:Nat} {is:List Nat} {r:di} {T:List di} (h:L[i]? = some r) (t:qm L is n T):qm L (i::is) n (r::T)
inductive uo:List di→List di→Prop
 | refl {L:List di}:uo L L
 | keep {r:di} {L T:List di} (h:uo L T):uo (r::L) (r::T)
 | drop {r:di} {L T:List di} (h:uo L T):uo (r::L) T
theorem sw.eq{L D:List di}{n:Nat}(h:sw L n D):L.drop n=D:=by
 induction h with
 | zero=>rfl
 | succ h ih=>exact ih
theorem qm.eq{L T:List di}{is:List Nat}{n:Nat}(h:qm L is n T):yS L is n=T:=by
 induction h with
 | nil h=>unfold yS;rw[h.eq];rfl
 | cons h t ih=>unfold yS at *; rw[yn,h];simpa using ih
theorem uo.sub{L T:List di}(h:uo L T):T.Sublist L:=by
 induction h with
 | refl=>exact List.Sublist.refl _
 | keep h ih=>exact ih.cons_cons _
 | drop h ih=>exact ih.cons _
instance (priority:=2000) Yw{b:Nat}{cs:List Value}{T:TypeId}{L:List di}:yp (pt b cs T::L) b cs T:=⟨0,rfl⟩
instance Yx{b:Nat}{cs:List Value}{T:TypeId}{L:List di}{y:di}[i:yp L b cs T]:yp (y::L) b cs T:=⟨by obtain⟨k,hk⟩:=i.h;exact⟨k+1,hk⟩⟩
instance (priority:=2000) ZT{b:Nat}{cs cs':List Value}{T:TypeId}{L:List di}:Ch (pt b cs T::L) b cs' (pt b cs' T::L):=⟨0,cs,T,rfl,rfl⟩
instance ZU{b:Nat}{cs':List Value}{L L':List di}{y:di}[i:Ch L b cs' L']:Ch (y::L) b cs' (y::L'):=⟨by obtain⟨k,cs,T,h1,h2⟩:=i.h;exact⟨k+1,cs,T,h1,by rw[ace,h2]⟩⟩
instance (priority:=2000) tl0{L:List di}:Tl L L:=⟨fun _ h=>h⟩
instance tl1{L D:List di}{y:di}[i:Tl L D]:Tl (y::L) D:=⟨fun w h=>i.h w h.tail⟩
instance:Ef UInt8 (fun x=>[.int .u8 (x.toNat:Int)]):=⟨fun _=>rfl⟩
instance:Ef Int (fun x=>[.int .i64 x]):=⟨fun _=>rfl⟩
instance:Ef SV (fun x=>[x.v]):=⟨fun _=>rfl⟩
instance {v:Value}{vs:List Value}:Gg (v::vs) (no_index 0) v:=⟨rfl⟩
instance {v u:Value}:Se [u] (no_index 0) v [v]:=⟨rfl,Nat.zero_lt_one⟩
instance {cs:List Value}{n:Nat}[h:En cs n]:Cc cs (no_index 0) n cs:=⟨cG h.len,h.len⟩
section
variable {o:Oper}{a:Act}{w:World}{v:Value}{n:Nat}{F:List (Nat×Value)}{dd:List Deferred}{L L':List di}{b off:Nat}{cs cs' vs:List Value}{T t:TypeId}{x y:Operand}
theorem fU{Ls:List di}(H:au w L)(is:List Nat)(k:Nat)(s:qm L is k Ls:=by repeat (first|(apply qm.cons;exact rfl)|apply qm.nil|apply sw.succ|exact sw.zero))(hn:(ni is&&rU k is)=true:=by exact rfl):au w Ls:=s.eq ▸ bS H is k hn
theorem mc(H:au w L)[i:yp L b cs T][j:Gg cs off v]:w.cell? ⟨b,off,none⟩=some v:=by
 obtain⟨k,hk⟩:=i.h
 exact H.cell (i:=k) hk j.h
theorem ld1[ht:vk t](G:Fr n F a dd)(ho:o.op = .load t x)(hx:Fw.ev F x=some (.pointer (some ⟨b,off,none⟩)))(H:au w L)[i:yp L b cs T][j:Gg cs off v]:(execOp a.eval o).run Tryz.prog w = .ok (.value v) w :=
 aG ht.h G ho hx (mc H)
theorem Zl{sz:Nat}[ht:sA t sz](G:Fr n F a dd)(ho:o.op = .load t x)(hx:Fw.ev F x=some (.pointer (some ⟨b,off,none⟩)))(H:au w L)[i:yp L b cs T][j:Cc cs off sz vs]:(execOp a.eval o).run Tryz.prog w = .ok (.value (.agg vs.toArray)) w:=by
 obtain⟨k,hk⟩:=i.h
 exact cD ht.h ht.s G ho hx j.len (H.cells (i:=k) hk j.h)
theorem Zk{X:Type}{e:du X}{sz Jc:Nat}{l:List X}{u:X}{i:Int}(G:Fr n F a dd)(ho:o.op = .load t x)(ht:sA t sz)(hx:Fw.ev F x=some (.pointer (some ⟨b,Jc+i.toNat*sz,none⟩)))(H:au w L)[f:yp L b cs T][j:Ci cs Jc sz X e l]
  (hg:Fx.get l i=some u) (hs:e.sz=sz) {f':X→List Value} (q : @Ef X e f'):(execOp a.eval o).run Tryz.prog w = .ok (.value (.agg (f' u).toArray)) w:=by
 rw[←q.h]
 obtain⟨k,hk⟩:=f.h
 exact cD ht.h ht.s G ho hx ((e.len u).trans hs) (H.cells (i:=k) hk (j.h _ _ (aL hg).2))
theorem els{X:Type}[du X]{lo sz:Nat}{s:SV}{l:List X}{u:X}{i:Int}(G:Fr n F a dd)(ho:o.op = .load t x)(ht:sA t sz)(hx:Fw.ev F x=some (.pointer (some ⟨s.blk,s.off+i.toNat*sz,none⟩)))(hS:cg lo w s l)
  (hg:l[i.toNat]? = some u) (hs:du.sz X=sz) {f':X→List Value} (q:Ef X f'):(execOp a.eval o).run Tryz.prog w = .ok (.value (.agg (f' u).toArray)) w:=by
 rw[←q.h]
 subst hs
 exact cD ht.h ht.s G ho hx (du.len u) (hS.elemS hg)
theorem QB{X:Type}[du X]{lo sz j:Nat}{s:SV}{l:List X}{u:X}{i:Int}[ht:vk t](G:Fr n F a dd)(ho:o.op = .load t x)(hx:Fw.ev F x=some (.pointer (some ⟨s.blk,s.off+i.toNat*sz+j,none⟩)))(hS:cg lo w s l)
  (hg:l[i.toNat]? = some u) (hs:du.sz X=sz) {f':X→List Value} (q:Ef X f') (hv:(f' u)[j]? = some v):(execOp a.eval o).run Tryz.prog w = .ok (.value v) w:=by
 rw[←q.h]at hv
 subst hs
 exact aG ht.h G ho hx ((hS.elemS hg).get j hv)
theorem Yv{X:Type}[du X]{lo sz:Nat}{s:SV}{l:List X}{u:X}{i:Int}[ht:vk t](G:Fr n F a dd)(ho:o.op = .load t x)(hx:Fw.ev F x=some (.pointer (some ⟨s.blk,s.off+i.toNat*sz,none⟩)))(hS:cg lo w s l)
  (hg:l[i.toNat]? = some u) (hs:du.sz X=sz) {f':X→List Value} (q:Ef X f') (hv:(f' u)[0]? = some v):(execOp a.eval o).run Tryz.prog w = .ok (.value v) w:=QB (j:=0) G ho hx hS hg hs q hv
theorem li{X:Type}[du X]{B:World→Prop}{s:SV}{l:List X}{Lr:List di}(f:dj B s l)(hs:∀ w,au w Lr→B w)(H:au w L)[t:Tl L Lr]:cg 0 w s l:=f w (hs w (t.h w H))
theorem rws{X:Type}{e':du X}{lo e i:Nat}{s:SV}{l:List X}(h:au w L)(hi:L[i]? = some (@ak X e' lo s e l)) : @cg X e' lo w s l:=h.rowS hi
theorem sl{X:Type}[du X]{lo:Nat}{s:SV}{l:List X}(h:cg lo w s l:=by first
  | exact li (by assumption) (by assumption) H
  | exact rws (i:=0) H rfl
  | exact rws (i:=1) H rfl
  | exact rws (i:=2) H rfl
  | exact rws (i:=3) H rfl
  | exact rws (i:=4) H rfl
  | exact rws (i:=5) H rfl
  | exact rws (i:=6) H rfl
  | exact rws (i:=7) H rfl):cg lo w s l:=h
theorem ix{X:Type}[du X]{e lo sz:Nat}{k:IntKind}{i:Int}{s:SV}{l:List X}(G:Fr n F a dd)(ho:o.op = .indexAddr t x y)[ht:US t e][hi:Is e sz](hx:Fw.ev F x=some s.v)(hy:Fw.ev F y=some (.int k i))(hs:cg lo w s l)(h:0≤i∧i<(l.length:Int)) :
  (execOp a.eval o).run Tryz.prog w = .ok (.value (.pointer (some ⟨s.blk,s.off+i.toNat*sz,none⟩))) w:=by
 obtain⟨ti,h1,h2⟩:=hi.h
 exact bC hs ht.h h1 h2 G ho hx hy h
theorem Zg{e len sz:Nat}{k:IntKind}{i:Int}(G:Fr n F a dd)(ho:o.op = .indexAddr t x y)[ht:UA t len e][hi:Is e sz](hx:Fw.ev F x=some (.pointer (some ⟨b,off,none⟩)))(hy:Fw.ev F y=some (.int k i))(h:0≤i∧i<(len:Int)) :
  (execOp a.eval o).run Tryz.prog w = .ok (.value (.pointer (some ⟨b,off+i.toNat*sz,none⟩))) w:=by
 obtain⟨ti,h1,h2⟩:=hi.h
 exact eX ht.h h1 h2 G ho hx hy h
theorem ctz{X:Type}[du X]{e lo sz:Nat}{k k':IntKind}{i j:Int}{s:SV}{l m:List X}{p q:Operand}(G:Fr n F a dd)(ho:o.op = .slice t x (some p) (some q) none)[ht:US t e][hi:Is e sz](hx:Fw.ev F x=some s.v)(hp:Fw.ev F p=some (.int k i))(hq:Fw.ev F q=some (.int k' j))
  (hs:cg lo w s l) (hc:Fx.ny l i j=some m):(execOp a.eval o).run Tryz.prog w = .ok (.value (s.cut i.toNat j.toNat sz).v) w:=by
 obtain⟨ti,h1,h2⟩:=hi.h
 exact eY hs hc ht.h h1 h2 G ho hx (.inr ⟨_,_,rfl,hp⟩) (.inr ⟨_,_,rfl,hq⟩)
theorem cv{d:TypeId}{k k':IntKind}{i:Int}(G:Fr n F a dd)(ho:o.op = .convert t d x)[hs:UI t k][hd:UI d k'](hx:Fw.ev F x=some (.int k i)):(execOp a.eval o).run Tryz.prog w = .ok (.value (.int k' (k'.wrap i))) w:=D9 hs.h hd.h G ho hx
theorem Zn{X:Type}[du X]{e lo:TypeId}{s:SV}{l:List X}(G:Fr n F a dd)(ho:o.op = .call { callee:=.builtin .len,args:=#[x],argTypes:=#[t] })[ht:US t e](hx:Fw.ev F x=some s.v)(hs:cg lo w s l) :
  (execOp a.eval o).run Tryz.prog w = .ok (.value (.int .i64 (l.length:Nat))) w:=cK hs ht.h G ho hx
theorem Zm{X Y:Type}[du X]{e lo:TypeId}{s:SV}{l:List X}{m:List Y}{R:X→Y→Prop}(G:Fr n F a dd)(ho:o.op = .call { callee:=.builtin .len,args:=#[x],argTypes:=#[t] })[ht:US t e](hx:Fw.ev F x=some s.v)(hs:cg lo w s l)(q:cn R l m) :
  (execOp a.eval o).run Tryz.prog w = .ok (.value (.int .i64 (m.length:Int))) w:=eI hs q.len ht.h G ho hx
theorem st1{J:Value→World→Prop}[hs:Sz t 1](G:Fr n F a dd)(ho:o.op = .store t x y)(hx:Fw.ev F x=some (.pointer (some ⟨b,off,none⟩)))(hy:Fw.ev F y=some v)(h1:v.oneCell' = true)(H:au w L)[f:yp L b cs T][s:Se cs off v cs'][c:Ch L b cs' L']
  (next:∀ w',au w' L' → J undef w'):Yd Tryz.prog o a.eval w J:=by
 obtain⟨i,HU,T2,h2,rfl⟩:=c.h
 obtain⟨j,h3⟩:=f.h
 have e:(Obj.cells HU.toArray T2 (0,0))=(Obj.cells cs.toArray T (0,0)):=ac8 ((H.obj h2).symm.trans (H.obj h3))
 injection e with e1 e2
 subst e2
 have e3:HU=cs:=by simpa using e1
 subst e3
 exact bQ hs.s (H.obj h2) G ho hx hy h1 s.lt s.h fun w' hU=>next w' (H.chg hU h2)
theorem RP{J:Value→World→Prop}{sz m:Nat}[hs:Sz t sz](G:Fr n F a dd)(ho:o.op = .store t x y)(hx:Fw.ev F x=some (.pointer (some ⟨b,0,none⟩)))(hy:Fw.ev F y=some v)(hv:v.cells=vs.toArray)(H:au w L)[g:En vs sz][f:yp L b cs T][g':En cs m](hm:m=sz)[c:Ch L b vs L']
  (next:∀ w',au w' L' → J undef w'):Yd Tryz.prog o a.eval w J:=by
 obtain⟨i,HU,T2,h2,rfl⟩:=c.h
 obtain⟨j,h3⟩:=f.h
 have e:(Obj.cells HU.toArray T2 (0,0))=(Obj.cells cs.toArray T (0,0)):=ac8 ((H.obj h2).symm.trans (H.obj h3))
 injection e with e1 e2
 subst e2
 have e3:HU=cs:=by simpa using e1
 subst e3 hm
 refine aU hs.s (H.obj h2) G ho hx hy hv g.len g.one (by rw[g.len,g'.len];omega) (bF (g'.len.trans g.len.symm)) fun w' hU=>next w' (H.chg hU h2)
end
section
variable {r r':Option Nat}{ops:Array Oper}{Q Q':Exit→Act→World→Prop}{o:Oper}{rest:List Oper}{q k n d:Nat}{F:List (Nat×Value)}{a:Act}{dd:List Deferred}{w:World}{v:Value}{B:Prop}{L L':List di}{b off:Nat}{cs cs' vs:List Value}{T t:TypeId}{x y:Operand}
theorem XH(hg:o.guard=none)(ho:o.op = .store t x y)(hx:Fw.ev F x=some (.pointer (some ⟨b,off,none⟩)))(hy:Fw.ev F y=some v)(h1:v.oneCell' = true)(hs:Sz t 1)(f:yp L b cs T)(s:Se cs off v cs')(c:Ch L b cs' L')(hd:o.dst=none)
  (next:St q k B (ML r Tryz.prog ops Q rest n dd F L')):St q (k+1) B (ML r Tryz.prog ops Q (o::rest) n dd F L) :=
 ⟨fun h=>⟨fun a w G H=>bE hg hd (st1 G ho hx hy h1 H fun w' hM'=>(next.h h).h a w' G hM')⟩⟩
theorem XI{sz m:Nat}(hg:o.guard=none)(ho:o.op = .store t x y)(hx:Fw.ev F x=some (.pointer (some ⟨b,0,none⟩)))(hy:Fw.ev F y=some v)(hv:v.cells=vs.toArray)(hs:Sz t sz)(g:En vs sz)(f:yp L b cs T)(g':En cs m)(hm:m=sz)(c:Ch L b vs L')(hd:o.dst=none)
  (next:St q k B (ML r Tryz.prog ops Q rest n dd F L')):St q (k+1) B (ML r Tryz.prog ops Q (o::rest) n dd F L) :=
 ⟨fun h=>⟨fun a w G H=>bE hg hd (RP G ho hx hy hv H hm fun w' hM'=>(next.h h).h a w' G hM')⟩⟩
end
instance:vk 3:=⟨Tryz.isAgg3⟩
instance:vk 23:=⟨Tryz.isAgg23⟩
instance:vk 52:=⟨Tryz.isAgg52⟩
instance:vk 28:=⟨Tryz.isAgg28⟩
instance:vk 4:=⟨Tryz.isAgg4⟩
instance:vk 33:=⟨Tryz.isAgg33⟩
instance:vk 58:=⟨Tryz.isAgg58⟩
instance:vk 5:=⟨Tryz.isAgg5⟩
instance:vk 56:=⟨Tryz.isAgg56⟩
instance:vk 57:=⟨Tryz.isAgg57⟩
instance:vk 34:=⟨Tryz.isAgg34⟩
instance:vk 25:=⟨Tryz.isAgg25⟩
instance:vk 24:=⟨Tryz.isAgg24⟩
instance:vk 233:=⟨Tryz.isAgg233⟩
instance:vk 2:=⟨Tryz.isAgg2⟩
instance:vk 115:=⟨Tryz.isAgg115⟩
instance:vk 199:=⟨Tryz.isAgg199⟩
instance:sA 46 4:=⟨Tryz.isAgg46,Tryz.sizeOf46⟩
instance:sA 54 466:=⟨Tryz.isAgg54,Tryz.sizeOf54⟩
instance:sA 60 7:=⟨Tryz.isAgg60,Tryz.sizeOf60⟩
instance:sA 36 4:=⟨Tryz.isAgg36,Tryz.sizeOf36⟩
instance:sA 50 13:=⟨Tryz.isAgg50,Tryz.sizeOf50⟩
instance:sA 101 8:=⟨Tryz.isAgg101,Tryz.sizeOf101⟩
instance:sA 30 2:=⟨Tryz.isAgg30,Tryz.sizeOf30⟩
instance:sA 156 4:=⟨Tryz.isAgg156,Tryz.sizeOf156⟩
instance:sA 128 9:=⟨Tryz.isAgg128,Tryz.sizeOf128⟩
instance:sA 151 27:=⟨Tryz.isAgg151,Tryz.sizeOf151⟩
instance:sA 27 5:=⟨Tryz.isAgg27,Tryz.sizeOf27⟩
instance:sA 259 11:=⟨Tryz.isAgg259,Tryz.sizeOf259⟩
instance:sA 47 44:=⟨Tryz.isAgg47,Tryz.sizeOf47⟩
instance:sA 51 416:=⟨Tryz.isAgg51,Tryz.sizeOf51⟩
instance:sA 205 2:=⟨Tryz.isAgg205,Tryz.sizeOf205⟩
instance:sA 283 6:=⟨Tryz.isAgg283,Tryz.sizeOf283⟩
instance:sA 48 8:=⟨Tryz.isAgg48,Tryz.sizeOf48⟩
instance:sA 316 2:=⟨Tryz.isAgg316,Tryz.sizeOf316⟩
instance:sA 318 2:=⟨Tryz.isAgg318,Tryz.sizeOf318⟩
instance:sA 278 4:=⟨Tryz.isAgg278,Tryz.sizeOf278⟩
instance:sA 203 471:=⟨Tryz.isAgg203,Tryz.sizeOf203⟩
instance:Sz 54 466:=⟨Tryz.sizeOf54⟩
instance:Sz 46 4:=⟨Tryz.sizeOf46⟩
instance:Sz 3 1:=⟨Tryz.sizeOf3⟩
instance:Sz 34 1:=⟨Tryz.sizeOf34⟩
instance:Sz 60 7:=⟨Tryz.sizeOf60⟩
instance:Sz 36 4:=⟨Tryz.sizeOf36⟩
instance:Sz 23 1:=⟨Tryz.sizeOf23⟩
instance:Sz 52 1:=⟨Tryz.sizeOf52⟩
instance:Sz 156 4:=⟨Tryz.sizeOf156⟩
instance:Sz 4 1:=⟨Tryz.sizeOf4⟩
instance:Sz 28 1:=⟨Tryz.sizeOf28⟩
instance:Sz 128 9:=⟨Tryz.sizeOf128⟩
instance:Sz 151 27:=⟨Tryz.sizeOf151⟩
instance:Sz 58 1:=⟨Tryz.sizeOf58⟩
instance:Sz 50 13:=⟨Tryz.sizeOf50⟩
instance:Sz 259 11:=⟨Tryz.sizeOf259⟩
instance:Sz 283 6:=⟨Tryz.sizeOf283⟩
instance:Sz 56 1:=⟨Tryz.sizeOf56⟩
instance:Sz 57 1:=⟨Tryz.sizeOf57⟩
instance:Sz 101 8:=⟨Tryz.sizeOf101⟩
instance:Sz 278 4:=⟨Tryz.sizeOf278⟩
instance:Sz 121 4:=⟨Tryz.sizeOf121⟩
instance:Sz 205 2:=⟨Tryz.sizeOf205⟩
instance:Sz 115 1:=⟨Tryz.sizeOf115⟩
instance:Sz 30 2:=⟨Tryz.sizeOf30⟩
instance:Sz 33 1:=⟨Tryz.sizeOf33⟩
instance:Sz 316 2:=⟨Tryz.sizeOf316⟩
instance:Sz 318 2:=⟨Tryz.sizeOf318⟩
instance:Sz 25 1:=⟨Tryz.sizeOf25⟩
instance:Sz 27 5:=⟨Tryz.sizeOf27⟩
instance:Sz 5 1:=⟨Tryz.sizeOf5⟩
instance:Sz 280 5:=⟨Tryz.sizeOf280⟩
instance:Sz 203 471:=⟨Tryz.sizeOf203⟩
instance:Sz 24 1:=⟨Tryz.sizeOf24⟩
instance:US 52 3:=⟨Tryz.underlying52⟩
instance:US 23 5:=⟨Tryz.underlying23⟩
instance:UA 47 11 46:=⟨Tryz.underlying47⟩
instance:US 58 156:=⟨Tryz.underlying58⟩
instance:US 28 23:=⟨Tryz.underlying28⟩
instance:US 33 60:=⟨Tryz.underlying33⟩
instance:US 56 128:=⟨Tryz.underlying56⟩
instance:US 57 151:=⟨Tryz.underlying57⟩
instance:UI 3 .i64:=⟨Tryz.underlying3⟩
instance:US 25 101:=⟨Tryz.underlying25⟩
instance:UI 298 .u64:=⟨Tryz.underlying298⟩
instance:UA 51 32 50:=⟨Tryz.underlying51⟩
instance:US 24 205:=⟨Tryz.underlying24⟩
instance:UI 307 .u32:=⟨Tryz.underlying307⟩
instance:UI 233 .u64:=⟨Tryz.underlying233⟩
instance:UI 21 .i32:=⟨Tryz.underlying21⟩
instance:UI 2 .i64:=⟨Tryz.underlying2⟩
instance:UA 283 6 3:=⟨Tryz.underlying283⟩
instance:UI 308 .u16:=⟨Tryz.underlying308⟩
instance:US 139 46:=⟨Tryz.underlying139⟩
instance:US 149 50:=⟨Tryz.underlying149⟩
instance:US 236 259:=⟨Tryz.underlying236⟩
instance:UI 305 .i8:=⟨Tryz.underlying305⟩
instance:UI 306 .i16:=⟨Tryz.underlying306⟩
instance:UA 48 8 5:=⟨Tryz.underlying48⟩
instance:UI 228 .u64:=⟨Tryz.underlying228⟩
instance:Is 3 1:=⟨_,jO,rfl⟩
instance:Is 46 4:=⟨_,Aa,rfl⟩
instance:Is 5 1:=⟨_,r7,rfl⟩
instance:Is 156 4:=⟨_,vw,rfl⟩
instance:Is 23 1:=⟨_,ry,rfl⟩
instance:Is 50 13:=⟨_,A8,rfl⟩
instance:Is 60 7:=⟨_,E2,rfl⟩
instance:Is 128 9:=⟨_,A5,rfl⟩
instance:Is 151 27:=⟨_,A6,rfl⟩
instance:Is 101 8:=⟨_,r6,rfl⟩
instance:Is 205 2:=⟨_,A7,rfl⟩
instance:Is 259 11:=⟨_,gI,rfl⟩
instance (x:bf):En (bf.enc x) 466:=⟨bf.len x,bf.one x⟩
instance:Ef bf bf.enc:=⟨fun _=>rfl⟩
instance (x:aj):En (aj.enc x) 4:=⟨aj.len x,aj.one x⟩
instance:Ef aj aj.enc:=⟨fun _=>rfl⟩
instance (x:bw):En (bw.enc x) 7:=⟨bw.len x,bw.one x⟩
instance:Ef bw bw.enc:=⟨fun _=>rfl⟩
instance (x:bp):En (bp.enc x) 4:=⟨bp.len x,bp.one x⟩
instance:Ef bp bp.enc:=⟨fun _=>rfl⟩
instance (x:bn):En (bn.enc x) 13:=⟨bn.len x,bn.one x⟩
instance:Ef bn bn.enc:=⟨fun _=>rfl⟩
instance (x:bk):En (bk.enc x) 4:=⟨bk.len x,bk.one x⟩
instance:Ef bk bk.enc:=⟨fun _=>rfl⟩
instance (x:bg):En (bg.enc x) 8:=⟨bg.len x,bg.one x⟩
instance:Ef bg bg.enc:=⟨fun _=>rfl⟩
instance (x:ay):En (ay.enc x) 11:=⟨ay.len x,ay.one x⟩
instance:Ef ay ay.enc:=⟨fun _=>rfl⟩
instance (x:bu):En (bu.enc x) 2:=⟨bu.len x,bu.one x⟩
instance:Ef bu bu.enc:=⟨fun _=>rfl⟩
instance (x:dM):En (dM.enc x) 9:=⟨dM.len x,dM.one x⟩
instance:Ef dM dM.enc:=⟨fun _=>rfl⟩
instance (x:d_):En (d_.enc x) 27:=⟨d_.len x,d_.one x⟩
instance:Ef d_ d_.enc:=⟨fun _=>rfl⟩
instance (x:bj):En (bj.enc x) 5:=⟨bj.len x,bj.one x⟩
instance:Ef bj bj.enc:=⟨fun _=>rfl⟩
instance (x:cj):En (cj.enc x) 4:=⟨cj.len x,cj.one x⟩
instance:Ef cj cj.enc:=⟨fun _=>rfl⟩
instance (x:fj):En (fj.enc x) 4:=⟨fj.len x,fj.one x⟩
instance:Ef fj fj.enc:=⟨fun _=>rfl⟩
instance (x:gP):En (gP.enc x) 2:=⟨gP.len x,gP.one x⟩
instance:Ef gP gP.enc:=⟨fun _=>rfl⟩
instance (x:f_):En (f_.enc x) 2:=⟨f_.len x,f_.one x⟩
instance:Ef f_ f_.enc:=⟨fun _=>rfl⟩
instance (x:fR):En (fR.enc x) 2:=⟨fR.len x,fR.one x⟩
instance:Ef fR fR.enc:=⟨fun _=>rfl⟩
instance (x:af):En (af.enc x) 471:=⟨af.len x,af.one x⟩
instance:Ef af af.enc:=⟨fun _=>rfl⟩
instance (x:gd):En (gd.enc x) 5:=⟨gd.len x,gd.one x⟩
instance:Ef gd gd.enc:=⟨fun _=>rfl⟩
instance:Zr Tryz.prog 54 bf.zero.enc:=⟨fun w=>⟨_,z54 w,rfl⟩⟩
instance:Zr Tryz.prog 46 aj.zero.enc:=⟨fun w=>⟨_,z46 w,rfl⟩⟩
instance:Zr Tryz.prog 60 bw.zero.enc:=⟨fun w=>⟨_,z60 w,rfl⟩⟩
instance:Zr Tryz.prog 36 bp.zero.enc:=⟨fun w=>⟨_,z36 w,rfl⟩⟩
instance:Zr Tryz.prog 156 bk.zero.enc:=⟨fun w=>⟨_,z156 w,rfl⟩⟩
instance:Zr Tryz.prog 128 dM.zero.enc:=⟨fun w=>⟨_,JU w,rfl⟩⟩
instance:Zr Tryz.prog 151 d_.zero.enc:=⟨fun w=>⟨_,JV w,rfl⟩⟩
instance:Zr Tryz.prog 259 ay.zero.enc:=⟨fun w=>⟨_,nK w,rfl⟩⟩
instance:Zr Tryz.prog 101 bg.zero.enc:=⟨fun w=>⟨_,BS w,rfl⟩⟩
instance:Zr Tryz.prog 278 cj.zero.enc:=⟨fun w=>⟨_,yh w,rfl⟩⟩
instance:Zr Tryz.prog 205 gP.zero.enc:=⟨fun w=>⟨_,OE w,rfl⟩⟩
instance:Zr Tryz.prog 27 bj.zero.enc:=⟨fun w=>⟨_,z27 w,rfl⟩⟩
instance:Zr Tryz.prog 30 bu.zero.enc:=⟨fun w=>⟨_,z30 w,rfl⟩⟩
instance:Zr Tryz.prog 50 bn.zero.enc:=⟨fun w=>⟨_,z50 w,rfl⟩⟩
instance:Zr Tryz.prog 316 f_.zero.enc:=⟨fun w=>⟨_,Ft w,rfl⟩⟩
instance:Zr Tryz.prog 318 fR.zero.enc:=⟨fun w=>⟨_,Fv w,rfl⟩⟩
instance:Zr Tryz.prog 280 gd.zero.enc:=⟨fun w=>⟨_,Da w,rfl⟩⟩
instance:Zr Tryz.prog 203 af.zero.enc:=⟨fun w=>⟨_,z203 w,rfl⟩⟩
instance:Zr Tryz.prog 121 fj.zero.enc:=⟨fun w=>⟨_,OD w,rfl⟩⟩
instance (x:bg):Gg (bg.enc x) (no_index (0:Nat)) (.int .i64 x.op):=⟨bg.g_op x⟩
instance (x:bp):Gg (bp.enc x) (no_index (2:Nat)) (x.dW.v):=⟨bp.g_marks x⟩
instance (x:bw):Gg (bw.enc x) (no_index (5:Nat)) (x.dy.v):=⟨bw.g_pieces x⟩
instance (x:bf):Gg (bf.enc x) (no_index (461:Nat)) (x.ah.v):=⟨bf.g_tables x⟩
instance (x:aj):Gg (aj.enc x) (no_index (0:Nat)) (.int .i64 x.kind):=⟨aj.g_kind x⟩
instance (x:bf):Gg (bf.enc x) (no_index (460:Nat)) (x.cq.v):=⟨bf.g_ctx x⟩
instance (x:bf):Gg (bf.enc x) (no_index (462:Nat)) (x.a7.v):=⟨bf.g_sent x⟩
instance (x:bg):Gg (bg.enc x) (no_index (3:Nat)) (.int .i64 x.size):=⟨bg.g_size x⟩
instance (x:aj):Gg (aj.enc x) (no_index (3:Nat)) (.int .i64 x.x):=⟨aj.g_x x⟩
instance (x:bg):Gg (bg.enc x) (no_index (6:Nat)) (.int .i64 x.off):=⟨bg.g_off x⟩
instance (x:bw):Gg (bw.enc x) (no_index (3:Nat)) (x.a8.v):=⟨bw.g_regs x⟩
instance (x:bw):Gg (bw.enc x) (no_index (4:Nat)) (x.slots.v):=⟨bw.g_slots x⟩
instance (x:bg):Gg (bg.enc x) (no_index (7:Nat)) (.int .i64 x.jN):=⟨bg.g_imm x⟩
instance (x:bw):Gg (bw.enc x) (no_index (6:Nat)) (x.a7.v):=⟨bw.g_sent x⟩
instance (x:bg):Gg (bg.enc x) (no_index (4:Nat)) (.int .i64 x.dst):=⟨bg.g_dst x⟩
instance (x:bf):Gg (bf.enc x) (no_index (464:Nat)) (.int .i64 x.steps):=⟨bf.g_steps x⟩
instance (x:bf):Gg (bf.enc x) (no_index (465:Nat)) (.bool x.done):=⟨bf.g_done x⟩
instance (x:bj):Gg (bj.enc x) (no_index (4:Nat)) (x.code.v):=⟨bj.g_code x⟩
instance (x:bg):Gg (bg.enc x) (no_index (1:Nat)) (.bool x.narrow):=⟨bg.g_narrow x⟩
instance (x:bk):Gg (bk.enc x) (no_index (2:Nat)) (x.old.v):=⟨bk.g_old x⟩
instance (x:bu):Gg (bu.enc x) (no_index (0:Nat)) (x.cq.v):=⟨bu.g_ctx x⟩
instance (x:bf):Gg (bf.enc x) (no_index (463:Nat)) (.int .i64 x.at_):=⟨bf.g_at_ x⟩
instance (x:bu):Gg (bu.enc x) (no_index (1:Nat)) (x.ah.v):=⟨bu.g_tables x⟩
instance (x:bk):Gg (bk.enc x) (no_index (3:Nat)) (x.new.v):=⟨bk.g_new x⟩
instance (x:bk):Gg (bk.enc x) (no_index (1:Nat)) (.int .i64 x.from_):=⟨bk.g_from_ x⟩
instance (x:bp):Gg (bp.enc x) (no_index (3:Nat)) (.int .i64 x.end_):=⟨bp.g_end_ x⟩
instance (x:bg):Gg (bg.enc x) (no_index (5:Nat)) (.int .i64 x.src):=⟨bg.g_src x⟩
instance (x:bk):Gg (bk.enc x) (no_index (0:Nat)) (.int .i64 x.table):=⟨bk.g_table x⟩
instance (x:bw):Gg (bw.enc x) (no_index (0:Nat)) (.int .i64 x.at_):=⟨bw.g_at_ x⟩
instance (x:bj):Gg (bj.enc x) (no_index (3:Nat)) (x.ah.v):=⟨bj.g_tables x⟩
instance (x:bw):Gg (bw.enc x) (no_index (1:Nat)) (.int .i64 x.next):=⟨bw.g_next x⟩
instance (x:bj):Gg (bj.enc x) (no_index (2:Nat)) (x.data.v):=⟨bj.g_data x⟩
instance (x:gp):Gg (gp.enc x) (no_index (0:Nat)) (x.b.v):=⟨gp.g_b x⟩
instance (x:bg):Gg (bg.enc x) (no_index (2:Nat)) (.bool x.reg):=⟨bg.g_reg x⟩
instance (x:dM):Gg (dM.enc x) (no_index (0:Nat)) (.int .i64 x.reg):=⟨dM.g_reg x⟩
instance (x:d_):Gg (d_.enc x) (no_index (0:Nat)) (.int .i64 x.slot):=⟨d_.g_slot x⟩
instance (x:bj):Gg (bj.enc x) (no_index (0:Nat)) (.int .i64 x.lo):=⟨bj.g_lo x⟩
instance (x:bj):Gg (bj.enc x) (no_index (1:Nat)) (.int .i64 x.hi):=⟨bj.g_hi x⟩
instance (x:bw):Gg (bw.enc x) (no_index (2:Nat)) (.bool x.done):=⟨bw.g_done x⟩
instance (x:f_):Gg (f_.enc x) (no_index (0:Nat)) (.int .u64 x.a):=⟨f_.g_a x⟩
instance (x:f_):Gg (f_.enc x) (no_index (1:Nat)) (.int .u64 x.b):=⟨f_.g_b x⟩
instance (x:aj):Gg (aj.enc x) (no_index (1:Nat)) (.int .i64 x.table):=⟨aj.g_table x⟩
instance (x:af):Gg (af.enc x) (no_index (467:Nat)) (x.a7.v):=⟨af.g_sent x⟩
instance (x:gP):Gg (gP.enc x) (no_index (0:Nat)) (.int .i64 x.rows):=⟨gP.g_rows x⟩
instance (x:gP):Gg (gP.enc x) (no_index (1:Nat)) (.int .i64 x.wide):=⟨gP.g_wide x⟩
instance (x:bn):Gg (bn.enc x) (no_index (12:Nat)) (.int .i64 x.mask):=⟨bn.g_mask x⟩
instance (x:ay):Gg (ay.enc x) (no_index (1:Nat)) (.int .i64 x.op):=⟨ay.g_op x⟩
instance (x:ay):Gg (ay.enc x) (no_index (0:Nat)) (.int .i64 x.code):=⟨ay.g_code x⟩
instance (x:ay):Gg (ay.enc x) (no_index (7:Nat)) (.int .i64 x.off):=⟨ay.g_off x⟩
instance (x:af):Gg (af.enc x) (no_index (468:Nat)) (.int .i64 x.at_):=⟨af.g_at_ x⟩
instance (x:af):Gg (af.enc x) (no_index (470:Nat)) (.bool x.done):=⟨af.g_done x⟩
instance (x:aj):Gg (aj.enc x) (no_index (2:Nat)) (.int .i64 x.row):=⟨aj.g_row x⟩
instance (x:ay):Gg (ay.enc x) (no_index (6:Nat)) (.int .i64 x.src):=⟨ay.g_src x⟩
instance (x:fR):Gg (fR.enc x) (no_index (0:Nat)) (.int .i64 x.a):=⟨fR.g_a x⟩
instance (x:fR):Gg (fR.enc x) (no_index (1:Nat)) (.int .i64 x.b):=⟨fR.g_b x⟩
instance (x:af):Gg (af.enc x) (no_index (469:Nat)) (.int .i64 x.steps):=⟨af.g_steps x⟩
instance (x:af):Gg (af.enc x) (no_index (420:Nat)) (x.code.v):=⟨af.g_code x⟩
instance (x:ay):Gg (ay.enc x) (no_index (3:Nat)) (.bool x.narrow):=⟨ay.g_narrow x⟩
instance (x:ay):Gg (ay.enc x) (no_index (5:Nat)) (.int .i64 x.dst):=⟨ay.g_dst x⟩
instance (x:ay):Gg (ay.enc x) (no_index (8:Nat)) (.int .i64 x.jN):=⟨ay.g_imm x⟩
instance (x:ay):Gg (ay.enc x) (no_index (9:Nat)) (.int .i64 x.second):=⟨ay.g_second x⟩
instance (x:af):Gg (af.enc x) (no_index (422:Nat)) (.map x.da):=⟨af.g_begin_ x⟩
instance (x:af):Gg (af.enc x) (no_index (421:Nat)) (x.dq.v):=⟨af.g_units x⟩
instance (x:ay):Gg (ay.enc x) (no_index (10:Nat)) (.bool x.writes):=⟨ay.g_writes x⟩
instance (x:ay):Gg (ay.enc x) (no_index (4:Nat)) (.bool x.reg):=⟨ay.g_reg x⟩
instance (x:ay):Gg (ay.enc x) (no_index (2:Nat)) (.int .i64 x.size):=⟨ay.g_size x⟩
instance (x:eo):Gg (eo.enc x) (no_index (0:Nat)) (.int .i64 x.least):=⟨eo.g_least x⟩
instance (x:eo):Gg (eo.enc x) (no_index (1:Nat)) (.int .i64 x.most):=⟨eo.g_most x⟩
instance (x:ez):Gg (ez.enc x) (no_index (0:Nat)) (.int .i64 x.from_):=⟨ez.g_from_ x⟩
instance (x:bX):Gg (bX.enc x) (no_index (0:Nat)) (.int .i64 x.many):=⟨bX.g_many x⟩
instance (x:gd):Gg (gd.enc x) (no_index (0:Nat)) (x.args.v):=⟨gd.g_args x⟩
instance (x:bp):Gg (bp.enc x) (no_index (1:Nat)) (x.qb.ah.v):=⟨cL (bp.c_in_ x) (bu.g_tables _)⟩
instance (x:af):Gg (af.enc x) (no_index (416:Nat)) (x.ae.cq.v):=⟨cL (af.c_memory x) (bq.g_ctx _)⟩
instance (x:bp):Gg (bp.enc x) (no_index (0:Nat)) (x.qb.cq.v):=⟨cL (bp.c_in_ x) (bu.g_ctx _)⟩
instance (x:af):Gg (af.enc x) (no_index (419:Nat)) (x.ae.sizes.v):=⟨cL (af.c_memory x) (bq.g_sizes _)⟩
instance (x:af):Gg (af.enc x) (no_index (417:Nat)) (x.ae.ah.v):=⟨cL (af.c_memory x) (bq.g_tables _)⟩
instance (x:bn):Gg (bn.enc x) (no_index (0:Nat)) (.int .i64 x.ptr.kind):=⟨cL (bn.c_ptr x) (aj.g_kind _)⟩
instance (x:af):Gg (af.enc x) (no_index (418:Nat)) (x.ae.data.v):=⟨cL (af.c_memory x) (bq.g_data _)⟩
instance (x:bp):Cc (bp.enc x) (no_index (0:Nat)) (no_index (2:Nat)) (bu.enc x.qb):=⟨bp.c_in_ x,bu.len _⟩
instance (x:af):Cc (af.enc x) (no_index (0:Nat)) (no_index (420:Nat)) (bq.enc x.ae):=⟨af.c_memory x,bq.len _⟩
instance (x:bn):Cc (bn.enc x) (no_index (0:Nat)) (no_index (4:Nat)) (aj.enc x.ptr):=⟨bn.c_ptr x,aj.len _⟩
instance (x:dM):Cc (dM.enc x) (no_index (1:Nat)) (no_index (4:Nat)) (aj.enc x.old):=⟨dM.c_old x,aj.len _⟩
instance (x:dM):Cc (dM.enc x) (no_index (5:Nat)) (no_index (4:Nat)) (aj.enc x.new):=⟨dM.c_new x,aj.len _⟩
instance (x:d_):Cc (d_.enc x) (no_index (1:Nat)) (no_index (13:Nat)) (bn.enc x.old):=⟨d_.c_old x,bn.len _⟩
instance (x:d_):Cc (d_.enc x) (no_index (14:Nat)) (no_index (13:Nat)) (bn.enc x.new):=⟨d_.c_new x,bn.len _⟩
instance (x:bX):Cc (bX.enc x) (no_index (1:Nat)) (no_index (4:Nat)) (cj.enc x.span):=⟨bX.c_span x,cj.len _⟩
instance (x:af):Ci (af.enc x) (no_index (423:Nat)) (no_index (4:Nat)) aj inferInstance (x.a8.l):=⟨fun i y h=>af.ci_regs x i y h⟩
instance (x:bf):Ci (bf.enc x) (no_index (0:Nat)) (no_index (4:Nat)) aj inferInstance (x.a8.l):=⟨fun i y h=>bf.ci_regs x i y h⟩
instance (x:bf):Ci (bf.enc x) (no_index (44:Nat)) (no_index (13:Nat)) bn inferInstance (x.bh.l):=⟨fun i y h=>bf.ci_stack x i y h⟩
instance (x:bf)(y:SV):Se (bf.enc x) (no_index (462:Nat)) (y.v) (bf.enc { x with a7:=y }):=⟨bf.gx x y,by rw[bf.len];decide⟩
instance (x:bw)(y:SV):Se (bw.enc x) (no_index (5:Nat)) (y.v) (bw.enc { x with dy:=y }):=⟨bw.jM x y,by rw[bw.len];decide⟩
instance (x:aj)(y:Int):Se (aj.enc x) (no_index (3:Nat)) (.int .i64 y) (aj.enc { x with x:=y }):=⟨aj.s_x x y,by rw[aj.len];decide⟩
instance (x:gp)(y:SV):Se (gp.enc x) (no_index (0:Nat)) (y.v) (gp.enc { x with b:=y }):=⟨gp.tW x y,by rw[gp.len];decide⟩
instance (x:bk)(y:SV):Se (bk.enc x) (no_index (2:Nat)) (y.v) (bk.enc { x with old:=y }):=⟨bk.mr x y,by rw[bk.len];decide⟩
instance (x:bk)(y:SV):Se (bk.enc x) (no_index (3:Nat)) (y.v) (bk.enc { x with new:=y }):=⟨bk.mg x y,by rw[bk.len];decide⟩
instance (x:bw)(y:SV):Se (bw.enc x) (no_index (3:Nat)) (y.v) (bw.enc { x with a8:=y }):=⟨bw.nu x y,by rw[bw.len];decide⟩
instance (x:bw)(y:SV):Se (bw.enc x) (no_index (4:Nat)) (y.v) (bw.enc { x with slots:=y }):=⟨bw.kA x y,by rw[bw.len];decide⟩
instance (x:bf)(y:SV):Se (bf.enc x) (no_index (460:Nat)) (y.v) (bf.enc { x with cq:=y }):=⟨bf.ig x y,by rw[bf.len];decide⟩
instance (x:bf)(y:SV):Se (bf.enc x) (no_index (461:Nat)) (y.v) (bf.enc { x with ah:=y }):=⟨bf.eh x y,by rw[bf.len];decide⟩
instance (x:bf)(y:Bool):Se (bf.enc x) (no_index (465:Nat)) (.bool y) (bf.enc { x with done:=y }):=⟨bf.s_done x y,by rw[bf.len];decide⟩
instance (x:bf)(y:Int):Se (bf.enc x) (no_index (464:Nat)) (.int .i64 y) (bf.enc { x with steps:=y }):=⟨bf.s_steps x y,by rw[bf.len];decide⟩
instance (x:bp)(y:Int):Se (bp.enc x) (no_index (3:Nat)) (.int .i64 y) (bp.enc { x with end_:=y }):=⟨bp.s_end_ x y,by rw[bp.len];decide⟩
instance (x:ay)(y:Int):Se (ay.enc x) (no_index (0:Nat)) (.int .i64 y) (ay.enc { x with code:=y }):=⟨ay.gu x y,by rw[ay.len];decide⟩
instance (x:bw)(y:SV):Se (bw.enc x) (no_index (6:Nat)) (y.v) (bw.enc { x with a7:=y }):=⟨bw.gx x y,by rw[bw.len];decide⟩
instance (x:bf)(y:Int):Se (bf.enc x) (no_index (463:Nat)) (.int .i64 y) (bf.enc { x with at_:=y }):=⟨bf.s_at_ x y,by rw[bf.len];decide⟩
instance (x:bp)(y:SV):Se (bp.enc x) (no_index (2:Nat)) (y.v) (bp.enc { x with dW:=y }):=⟨bp.pX x y,by rw[bp.len];decide⟩
instance (x:ay)(y:Bool):Se (ay.enc x) (no_index (4:Nat)) (.bool y) (ay.enc { x with reg:=y }):=⟨ay.s_reg x y,by rw[ay.len];decide⟩
instance (x:ay)(y:Int):Se (ay.enc x) (no_index (6:Nat)) (.int .i64 y) (ay.enc { x with src:=y }):=⟨ay.s_src x y,by rw[ay.len];decide⟩
instance (x:ay)(y:Int):Se (ay.enc x) (no_index (8:Nat)) (.int .i64 y) (ay.enc { x with jN:=y }):=⟨ay.s_imm x y,by rw[ay.len];decide⟩
instance (x:ay)(y:Bool):Se (ay.enc x) (no_index (3:Nat)) (.bool y) (ay.enc { x with narrow:=y }):=⟨ay.s_narrow x y,by rw[ay.len];decide⟩
instance (x:af)(y:SV):Se (af.enc x) (no_index (467:Nat)) (y.v) (af.enc { x with a7:=y }):=⟨af.gx x y,by rw[af.len];decide⟩
instance (x:af)(y:Int):Se (af.enc x) (no_index (469:Nat)) (.int .i64 y) (af.enc { x with steps:=y }):=⟨af.s_steps x y,by rw[af.len];decide⟩
instance (x:bj)(y:SV):Se (bj.enc x) (no_index (4:Nat)) (y.v) (bj.enc { x with code:=y }):=⟨bj.gu x y,by rw[bj.len];decide⟩
instance (x:af)(y:Bool):Se (af.enc x) (no_index (470:Nat)) (.bool y) (af.enc { x with done:=y }):=⟨af.s_done x y,by rw[af.len];decide⟩
instance (x:af)(y:Int):Se (af.enc x) (no_index (468:Nat)) (.int .i64 y) (af.enc { x with at_:=y }):=⟨af.s_at_ x y,by rw[af.len];decide⟩
instance:FA Tryz.prog 101 0 0:=⟨_,_,_,Tryz.underlying101,rfl,jO,rfl⟩
instance:FA Tryz.prog 101 3 3:=⟨_,_,_,Tryz.underlying101,rfl,jO,rfl⟩
instance:FA Tryz.prog 101 4 4:=⟨_,_,_,Tryz.underlying101,rfl,jO,rfl⟩
instance:FA Tryz.prog 101 5 5:=⟨_,_,_,Tryz.underlying101,rfl,jO,rfl⟩
instance:FA Tryz.prog 101 6 6:=⟨_,_,_,Tryz.underlying101,rfl,jO,rfl⟩
instance:FA Tryz.prog 101 7 7:=⟨_,_,_,Tryz.underlying101,rfl,jO,rfl⟩
instance:FA Tryz.prog 46 0 0:=⟨_,_,_,Tryz.underlying46,rfl,jO,rfl⟩
instance:FA Tryz.prog 46 1 1:=⟨_,_,_,Tryz.underlying46,rfl,jO,rfl⟩
instance:FA Tryz.prog 46 2 2:=⟨_,_,_,Tryz.underlying46,rfl,jO,rfl⟩
instance:FA Tryz.prog 46 3 3:=⟨_,_,_,Tryz.underlying46,rfl,jO,rfl⟩
instance:FA Tryz.prog 36 1 2:=⟨_,_,_,Tryz.underlying36,rfl,NI,rfl⟩
instance:FA Tryz.prog 60 5 5:=⟨_,_,_,Tryz.underlying60,rfl,NN,rfl⟩
instance:FA Tryz.prog 54 3 461:=⟨_,_,_,Tryz.underlying54,rfl,E1,rfl⟩
instance:FA Tryz.prog 203 4 423:=⟨_,_,_,Tryz.underlying203,rfl,I4,rfl⟩
instance:FA Tryz.prog 156 2 2:=⟨_,_,_,Tryz.underlying156,rfl,ry,rfl⟩
instance:FA Tryz.prog 156 3 3:=⟨_,_,_,Tryz.underlying156,rfl,ry,rfl⟩
instance:FA Tryz.prog 54 4 462:=⟨_,_,_,Tryz.underlying54,rfl,A_,rfl⟩
instance:FA Tryz.prog 54 5 463:=⟨_,_,_,Tryz.underlying54,rfl,jO,rfl⟩
instance:FA Tryz.prog 54 6 464:=⟨_,_,_,Tryz.underlying54,rfl,jO,rfl⟩
instance:FA Tryz.prog 54 2 460:=⟨_,_,_,Tryz.underlying54,rfl,ry,rfl⟩
instance:FA Tryz.prog 203 0 0:=⟨_,_,_,Tryz.underlying203,rfl,IW,rfl⟩
instance:FA Tryz.prog 156 0 0:=⟨_,_,_,Tryz.underlying156,rfl,jO,rfl⟩
instance:FA Tryz.prog 156 1 1:=⟨_,_,_,Tryz.underlying156,rfl,jO,rfl⟩
instance:FA Tryz.prog 60 3 3:=⟨_,_,_,Tryz.underlying60,rfl,NL,rfl⟩
instance:FA Tryz.prog 60 4 4:=⟨_,_,_,Tryz.underlying60,rfl,NM,rfl⟩
instance:FA Tryz.prog 259 0 0:=⟨_,_,_,Tryz.underlying259,rfl,jO,rfl⟩
instance:FA Tryz.prog 259 1 1:=⟨_,_,_,Tryz.underlying259,rfl,jO,rfl⟩
instance:FA Tryz.prog 259 2 2:=⟨_,_,_,Tryz.underlying259,rfl,jO,rfl⟩
instance:FA Tryz.prog 259 5 5:=⟨_,_,_,Tryz.underlying259,rfl,jO,rfl⟩
instance:FA Tryz.prog 259 6 6:=⟨_,_,_,Tryz.underlying259,rfl,jO,rfl⟩
instance:FA Tryz.prog 259 7 7:=⟨_,_,_,Tryz.underlying259,rfl,jO,rfl⟩
instance:FA Tryz.prog 259 8 8:=⟨_,_,_,Tryz.underlying259,rfl,jO,rfl⟩
instance:FA Tryz.prog 259 9 9:=⟨_,_,_,Tryz.underlying259,rfl,jO,rfl⟩
instance:FA Tryz.prog 60 6 6:=⟨_,_,_,Tryz.underlying60,rfl,A_,rfl⟩
instance:FA Tryz.prog 54 0 0:=⟨_,_,_,Tryz.underlying54,rfl,I4,rfl⟩
instance:FA Tryz.prog 101 1 1:=⟨_,_,_,Tryz.underlying101,rfl,DI,rfl⟩
instance:FA Tryz.prog 101 2 2:=⟨_,_,_,Tryz.underlying101,rfl,DI,rfl⟩
instance:FA Tryz.prog 36 0 0:=⟨_,_,_,Tryz.underlying36,rfl,NH,rfl⟩
instance:FA Tryz.prog 60 0 0:=⟨_,_,_,Tryz.underlying60,rfl,jO,rfl⟩
instance:FA Tryz.prog 60 1 1:=⟨_,_,_,Tryz.underlying60,rfl,jO,rfl⟩
instance:FA Tryz.prog 54 7 465:=⟨_,_,_,Tryz.underlying54,rfl,DI,rfl⟩
instance:FA Tryz.prog 54 1 44:=⟨_,_,_,Tryz.underlying54,rfl,I5,rfl⟩
instance:FA Tryz.prog 30 0 0:=⟨_,_,_,Tryz.underlying30,rfl,ry,rfl⟩
instance:FA Tryz.prog 30 1 1:=⟨_,_,_,Tryz.underlying30,rfl,E1,rfl⟩
instance:FA Tryz.prog 27 4 4:=⟨_,_,_,Tryz.underlying27,rfl,IX,rfl⟩
instance:FA Tryz.prog 36 2 3:=⟨_,_,_,Tryz.underlying36,rfl,NJ,rfl⟩
instance:FA Tryz.prog 27 0 0:=⟨_,_,_,Tryz.underlying27,rfl,jO,rfl⟩
instance:FA Tryz.prog 27 1 1:=⟨_,_,_,Tryz.underlying27,rfl,jO,rfl⟩
instance:FA Tryz.prog 167 0 0:=⟨_,_,_,Tryz.underlying167,rfl,ry,rfl⟩
instance:FA Tryz.prog 205 0 0:=⟨_,_,_,Tryz.underlying205,rfl,jO,rfl⟩
instance:FA Tryz.prog 205 1 1:=⟨_,_,_,Tryz.underlying205,rfl,jO,rfl⟩
instance:FA Tryz.prog 128 1 1:=⟨_,_,_,Tryz.underlying128,rfl,Aa,rfl⟩
instance:FA Tryz.prog 128 2 5:=⟨_,_,_,Tryz.underlying128,rfl,Aa,rfl⟩
instance:FA Tryz.prog 151 1 1:=⟨_,_,_,Tryz.underlying151,rfl,A8,rfl⟩
instance:FA Tryz.prog 151 2 14:=⟨_,_,_,Tryz.underlying151,rfl,A8,rfl⟩
instance:FA Tryz.prog 316 0 0:=⟨_,_,_,Tryz.underlying316,rfl,DF,rfl⟩
instance:FA Tryz.prog 316 1 1:=⟨_,_,_,Tryz.underlying316,rfl,DF,rfl⟩
instance:FA Tryz.prog 128 0 0:=⟨_,_,_,Tryz.underlying128,rfl,jO,rfl⟩
instance:FA Tryz.prog 151 0 0:=⟨_,_,_,Tryz.underlying151,rfl,jO,rfl⟩
instance:FA Tryz.prog 50 0 0:=⟨_,_,_,Tryz.underlying50,rfl,Aa,rfl⟩
instance:FA Tryz.prog 201 1 416:=⟨_,_,_,Tryz.underlying201,rfl,ry,rfl⟩
instance:FA Tryz.prog 201 3 418:=⟨_,_,_,Tryz.underlying201,rfl,ry,rfl⟩
instance:FA Tryz.prog 203 6 468:=⟨_,_,_,Tryz.underlying203,rfl,jO,rfl⟩
instance:FA Tryz.prog 203 7 469:=⟨_,_,_,Tryz.underlying203,rfl,jO,rfl⟩
instance:FA Tryz.prog 27 3 3:=⟨_,_,_,Tryz.underlying27,rfl,in24,rfl⟩
instance:FA Tryz.prog 203 2 421:=⟨_,_,_,Tryz.underlying203,rfl,A_,rfl⟩
instance:FA Tryz.prog 203 5 467:=⟨_,_,_,Tryz.underlying203,rfl,A_,rfl⟩
instance:FA Tryz.prog 27 2 2:=⟨_,_,_,Tryz.underlying27,rfl,ry,rfl⟩
instance:FA Tryz.prog 259 3 3:=⟨_,_,_,Tryz.underlying259,rfl,DI,rfl⟩
instance:FA Tryz.prog 259 4 4:=⟨_,_,_,Tryz.underlying259,rfl,DI,rfl⟩
instance:FA Tryz.prog 259 10 10:=⟨_,_,_,Tryz.underlying259,rfl,DI,rfl⟩
instance:FA Tryz.prog 50 2 12:=⟨_,_,_,Tryz.underlying50,rfl,jO,rfl⟩
instance:FA Tryz.prog 60 2 2:=⟨_,_,_,Tryz.underlying60,rfl,DI,rfl⟩
instance:FA Tryz.prog 201 0 0:=⟨_,_,_,Tryz.underlying201,rfl,I5,rfl⟩
instance:FA Tryz.prog 318 0 0:=⟨_,_,_,Tryz.underlying318,rfl,in2,rfl⟩
instance:FA Tryz.prog 318 1 1:=⟨_,_,_,Tryz.underlying318,rfl,in2,rfl⟩
instance:FA Tryz.prog 201 2 417:=⟨_,_,_,Tryz.underlying201,rfl,E1,rfl⟩
instance:FA Tryz.prog 203 8 470:=⟨_,_,_,Tryz.underlying203,rfl,DI,rfl⟩
instance:FA Tryz.prog 201 4 419:=⟨_,_,_,Tryz.underlying201,rfl,in24,rfl⟩
instance:FA Tryz.prog 50 1 4:=⟨_,_,_,Tryz.underlying50,rfl,NK,rfl⟩
instance:FA Tryz.prog 203 1 420:=⟨_,_,_,Tryz.underlying203,rfl,IX,rfl⟩
instance:FA Tryz.prog 358 0 0:=⟨_,_,_,Tryz.underlying358,rfl,jO,rfl⟩
instance:FA Tryz.prog 358 1 1:=⟨_,_,_,Tryz.underlying358,rfl,jO,rfl⟩
instance:FA Tryz.prog 203 3 422:=⟨_,_,_,Tryz.underlying203,rfl,IV,rfl⟩
instance:FA Tryz.prog 360 0 0:=⟨_,_,_,Tryz.underlying360,rfl,jO,rfl⟩
instance:FA Tryz.prog 363 0 0:=⟨_,_,_,Tryz.underlying363,rfl,jO,rfl⟩
instance:FA Tryz.prog 363 1 1:=⟨_,_,_,Tryz.underlying363,rfl,IY,rfl⟩
instance:FA Tryz.prog 280 0 0:=⟨_,_,_,Tryz.underlying280,rfl,A_,rfl⟩
theorem rv{o:Oper}{a:Act}{w:World}{v:Value}(h:(execOp a.eval o).run Tryz.prog w = .ok (.value v) w:=by first
  | exact aE G rfl rfl
  | exact aI G rfl rfl
  | exact ld1 G rfl rfl H
  | exact XY G rfl rfl rfl
  | exact XA G rfl rfl rfl rfl
  | exact Xw G rfl rfl (by first|assumption|exact rfl) rfl
  | exact hZ G rfl rfl
  | exact iO G rfl rfl rfl
  | exact bB G rfl rfl
  | exact Zl G rfl rfl H
  | exact Zm G rfl rfl sl (by assumption)
  | exact Zn G rfl rfl sl
  | exact ix G rfl rfl rfl sl (by first|assumption|exact aZ (by assumption))
  | exact Zg G rfl rfl rfl (bW (by assumption))
  | exact Zk G rfl inferInstance rfl H (by assumption) (by exact rfl) (by exact inferInstance)
  | exact els G rfl inferInstance rfl sl (by first|assumption|exact(aL (by assumption)).2) (by exact rfl) (by exact inferInstance)
  | exact QB G rfl rfl sl (by first|assumption|exact(aL (by assumption)).2) (by exact rfl) (by exact inferInstance) (by first|exact Gg.h|exact rfl)
  | exact Yv G rfl rfl sl (by first|assumption|exact(aL (by assumption)).2) (by exact rfl) (by exact inferInstance) (by first|exact Gg.h|exact rfl)
  | exact cv G rfl rfl
  | exact J4 G rfl rfl rfl
  | exact ctz G rfl rfl rfl rfl sl (by assumption)
  | exact jJ G rfl rfl rfl):(execOp a.eval o).run Tryz.prog w = .ok (.value v) w:=h
theorem av{q k:Nat}{B A:Prop}(h:St q k B A:=by
  repeat' (first
   | (apply XX;exact rfl;(intro a w G H;exact rv);exact rfl;exact rfl)
   | (apply Xx;exact rfl;exact rfl;exact rfl;(first|assumption|exact rfl|exact G1 (by assumption)|exact G0 (by assumption));exact rfl;exact rfl)
   | (apply Xv;exact rfl;exact rfl;exact rfl;(first|assumption|exact rfl|exact G1 (by assumption)|exact G0 (by assumption));(intro a w G H;exact rv);exact rfl;exact rfl)
   | (apply W3;exact rfl;exact rfl;exact rfl;exact rfl;exact rfl)
   | apply XF
   | apply Vv
   | apply XD
   | apply Xy
   | apply XW
   | apply XG
   | apply WZ
   | apply XE
   | apply Xu
   | apply WH
   | apply Xz
   | (apply WG;exact rfl)
   | apply Vt
   | apply W2
   | apply Vu
   | (apply W1;exact rfl;(first|assumption|exact rfl|exact G0 (by assumption)))
   | (apply W0;exact rfl;(first|assumption|exact rfl|exact G1 (by assumption)))
   | (apply XB;exact rfl;exact rfl;exact rfl;exact rfl;exact rfl;exact rfl;intro b)
   | (apply WY;exact rfl;exact rfl;exact inferInstance;exact rfl;exact rfl;intro b)
   | (apply XI;exact rfl;exact rfl;exact rfl;exact rfl;exact rfl;exact inferInstance;exact inferInstance;exact inferInstance;exact inferInstance;exact rfl;exact inferInstance;exact rfl)
   | (apply XH;exact rfl;exact rfl;exact rfl;exact rfl;exact rfl;exact inferInstance;exact inferInstance;exact inferInstance;exact inferInstance;exact rfl))
  first|exact XC rfl|exact Xq rfl|exact Xr rfl|exact Xt rfl|done):St q k B A:=h
theorem bv{q k:Nat}{B A:Prop}(h:St q k B A:=by
  first|with_reducible apply X0|with_reducible apply Qx|with_reducible apply X2|with_reducible apply XZ
  exact av):St q k B A:=h
theorem go{X:Act→World→Prop}{B:Prop}{n:Nat}{dd:List Deferred}{F:List (Nat×Value)}{L:List di}{a:Act}{w:World}(k:Nat)(K:B)(G:Fr n F a dd:=by assumption)(H:au w L:=by assumption)(h:St 0 k B (MK X n dd F L):=by exact bv):X a w:=(h.h K).h a w G H
theorem gg{X:Act→World→Prop}{B:Prop}{n:Nat}{dd:List Deferred}{F:List (Nat×Value)}{L:List di}{a:Act}{w:World}(K:B)(G:Fr n F a dd:=by assumption)(H:au w L:=by assumption)(h:St 998 999 B (MK X n dd F L):=by exact bv):X a w:=(h.h K).h a w G H
section
variable {r:Option Nat}{P:Program}{ops:Array Oper}{Q:Exit→Act→World→Prop}{o:Oper}{n d i:Nat}{F:List (Nat×Value)}{a:Act}{dd:List Deferred}{v:Value}{B:Prop}{ks T:List Nat}{Ls:List di}{C:World→Prop}
structure WD(r:Option Nat)(P:Program)(ops:Array Oper)(Q:Exit→Act→World→Prop)(T:List Nat)(Ls:List di)(C:World→Prop)(n:Nat)(dd:List Deferred)(F:List (Nat×Value)):Prop where
 h:∀ a,Fr n F a dd→DW r P ops Q T (au · Ls) C a
structure SD(ks:List Nat)(B A:Prop):Prop where
 h:B→A
theorem XS:SD [] (∀ a,Fr n F a dd→DW r P ops Q T (au · Ls) C a) (WD r P ops Q T Ls C n dd F):=⟨fun h=>⟨h⟩⟩
theorem XV(hc:chk ops=true)(ho:ops[i]? = some o)(hg:o.guard=none)(hok:Be ops T i=true)(hr:∀ a w,Fr n F a dd→au w Ls→(execOp a.eval o).run P w = .ok (.value v) w)(hd:o.dst=some d)(hn:Nat.blt d n=true)
  (next:SD ks B (WD r P ops Q (i::T) Ls C n dd ((d,v)::F))):SD (i::ks) B (WD r P ops Q T Ls C n dd F):=⟨fun b=>⟨fun a G=>aK G hc i ho hok hg hd hn (fun w H=>hr a w G H) (next.h b).h⟩⟩
theorem Xp{g t:Nat}{want c:Bool}(hc:chk ops=true)(ho:ops[i]? = some o)(hg:o.guard=some (g,want))(ht:(ops[g]?).bind (·.dst)=some t)(hb:Fw.look F t=some (.bool c))(hw:c=want)(hok:Be ops T i=true)(hr:∀ a w,Fr n F a dd→au w Ls→(execOp a.eval o).run P w = .ok (.value v) w)(hd:o.dst=some d)(hn:Nat.blt d n=true)
  (next:SD ks B (WD r P ops Q (i::T) Ls C n dd ((d,v)::F))):SD (i::ks) B (WD r P ops Q T Ls C n dd F):=⟨fun b=>⟨fun a G=>cU G hc i ho hok hg ht hb hw hd hn (fun w H=>hr a w G H) (next.h b).h⟩⟩
theorem Xo{g t:Nat}{want c:Bool}(hc:chk ops=true)(ho:ops[i]? = some o)(hg:o.guard=some (g,want))(ht:(ops[g]?).bind (·.dst)=some t)(hb:Fw.look F t=some (.bool c))(hw:c = !want)(hok:Be ops T i=true)(hd:o.dst=some d)(hn:Nat.blt d n=true)
  (next:SD ks B (WD r P ops Q (i::T) Ls C n dd ((d,undef)::F))):SD (i::ks) B (WD r P ops Q T Ls C n dd F):=⟨fun b=>⟨fun a G=>cS G hc i ho hok hg ht hb hw hd hn (next.h b).h⟩⟩
theorem WX{g t:Nat}{want:Bool}(hc:chk ops=true)(ho:ops[i]? = some o)(hg:o.guard=some (g,want))(ht:(ops[g]?).bind (·.dst)=some t)(hb:Fw.look F t=some undef)(hok:Be ops T i=true)(hd:o.dst=some d)(hn:Nat.blt d n=true)
  (next:SD ks B (WD r P ops Q (i::T) Ls C n dd ((d,undef)::F))):SD (i::ks) B (WD r P ops Q T Ls C n dd F):=⟨fun b=>⟨fun a G=>dK G hc i ho hok hg ht hb hd hn (next.h b).h⟩⟩
theorem XU{L L':List di}{b sz m:Nat}{cs vs:List Value}{U t:TypeId}{x y:Operand}(hc:chk ops=true)(ho:ops[i]? = some o)(hg:o.guard=none)(hop:o.op = .store t x y)(hx:Fw.ev F x=some (.pointer (some ⟨b,0,none⟩)))(hy:Fw.ev F y=some v)(hv:v.cells=vs.toArray)
  (hs:Sz t sz) (g:En vs sz) (f:yp L b cs U) (g':En cs m) (hm:m=sz) (c:Ch L b vs L') (hd:o.dst=none) (hns:lu o=true) (hl:Nat.blt i ops.size=true) (hT:ji i T=false) (hb:blk ops T [i]=true) (hy':sync ops T i=true)
  (next:SD ks B (WD r Tryz.prog ops Q (i::T) L' (au · L') n dd F)):SD (i::ks) B (WD r Tryz.prog ops Q T Ls (au · L) n dd F) :=
 ⟨fun k=>⟨fun a G=>bN hc i hb hl hT (eT i ho hns hg hd fun w _ H=>RP G hop hx hy hv H hm fun w' hM'=>⟨L',L',hM',hM',.inr hy',(next.h k).h a G⟩)⟩⟩
theorem XT{L L':List di}{b off:Nat}{cs cs':List Value}{U t:TypeId}{x y:Operand}(hc:chk ops=true)(ho:ops[i]? = some o)(hg:o.guard=none)(hop:o.op = .store t x y)(hx:Fw.ev F x=some (.pointer (some ⟨b,off,none⟩)))(hy:Fw.ev F y=some v)(h1:v.oneCell' = true)
  (hs:Sz t 1) (f:yp L b cs U) (s:Se cs off v cs') (c:Ch L b cs' L') (hd:o.dst=none) (hns:lu o=true) (hl:Nat.blt i ops.size=true) (hT:ji i T=false) (hb:blk ops T [i]=true) (hy':sync ops T i=true)
  (next:SD ks B (WD r Tryz.prog ops Q (i::T) L' (au · L') n dd F)):SD (i::ks) B (WD r Tryz.prog ops Q T Ls (au · L) n dd F) :=
 ⟨fun k=>⟨fun a G=>bN hc i hb hl hT (eT i ho hns hg hd fun w _ H=>st1 G hop hx hy h1 H fun w' hM'=>⟨L',L',hM',hM',.inr hy',(next.h k).h a G⟩)⟩⟩
theorem XR{L:List di}{e:TypeId}{x:Operand}{zs:List Value}{C':Nat→Prop}(hc:chk ops=true)(ho:ops[i]? = some o)(hg:o.guard=none)(hop:o.op = .box e x)(hx:Fw.ev F x=some v)(tg:v.cells=zs.toArray)(hd:o.dst=some d)(hn:Nat.blt d n=true)(hns:lu o=true)(hl:Nat.blt i ops.size=true)(hT:ji i T=false)(hb:blk ops T [i]=true)
  (next:∀ b,SD ks (C' b) (WD r P ops Q (i::T) (pt b zs e::Ls) (au · (pt b zs e::L)) n dd ((d,.pointer (some ⟨b,0,none⟩))::F))):SD (i::ks) (∀ b,C' b) (WD r P ops Q T Ls (au · L) n dd F) :=
 ⟨fun k=>⟨fun a G=>bN hc i hb hl hT (cA G i ho hns hg hd hn fun w ep H=>gE G hx tg hop fun b w' hz hA=>⟨_,_,ep.plus hA,H.plus hA,.inl fun _ h=>h.tail,fun a' yz=>((next b).h (k b)).h a' yz⟩)⟩⟩
theorem WW{L:List di}{e:TypeId}{zs:List Value}{C':Nat→Prop}(hc:chk ops=true)(ho:ops[i]? = some o)(hg:o.guard=none)(hop:o.op = .alloc e)(hz:Zr P e zs)(hd:o.dst=some d)(hn:Nat.blt d n=true)(hns:lu o=true)(hl:Nat.blt i ops.size=true)(hT:ji i T=false)(hb:blk ops T [i]=true)
  (next:∀ b,SD ks (C' b) (WD r P ops Q (i::T) (pt b zs e::Ls) (au · (pt b zs e::L)) n dd ((d,.pointer (some ⟨b,0,none⟩))::F))):SD (i::ks) (∀ b,C' b) (WD r P ops Q T Ls (au · L) n dd F) :=
 ⟨fun k=>⟨fun a G=>bN hc i hb hl hT (cA G i ho hns hg hd hn fun w ep H=>by
  obtain⟨z,h1,h2⟩:=hz.h w
  have h3:=iz.alloc w (.cells zs.toArray e (0,0))
  unfold Yd
  simp only[execOp,hop,Instr.alloc,newVar,newRow,Sem.run_bind,h1,Result.andThen_ok,run_newObj,Sem.run_pure,h2]
  exact⟨_,_,ep.plus h3,H.plus h3,.inl fun _ h=>h.tail,fun a' yz=>((next _).h (k _)).h a' yz⟩)⟩⟩
theorem ad{A:Prop}(h:SD ks B A:=by
  repeat' (first
   | (apply XV;assumption;exact rfl;exact rfl;kernel_rfl;(intro a w G H;exact rv);exact rfl;exact rfl)
   | (apply Xo;assumption;exact rfl;exact rfl;exact rfl;exact rfl;(first|assumption|exact rfl|exact G1 (by assumption)|exact G0 (by assumption));kernel_rfl;exact rfl;exact rfl)
   | (apply Xp;assumption;exact rfl;exact rfl;exact rfl;exact rfl;(first|assumption|exact rfl|exact G1 (by assumption)|exact G0 (by assumption));kernel_rfl;(intro a w G H;exact rv);exact rfl;exact rfl)
   | (apply WX;assumption;exact rfl;exact rfl;exact rfl;exact rfl;kernel_rfl;exact rfl;exact rfl)
   | (apply XU;assumption;exact rfl;exact rfl;exact rfl;exact rfl;exact rfl;exact rfl;exact inferInstance;exact inferInstance;exact inferInstance;exact inferInstance;exact rfl;exact inferInstance;exact rfl;exact rfl;exact rfl;exact rfl;kernel_rfl;kernel_rfl)
   | (apply XT;assumption;exact rfl;exact rfl;exact rfl;exact rfl;exact rfl;exact rfl;exact inferInstance;exact inferInstance;exact inferInstance;exact inferInstance;exact rfl;exact rfl;exact rfl;exact rfl;kernel_rfl;kernel_rfl)
   | (apply XR;assumption;exact rfl;exact rfl;exact rfl;exact rfl;exact rfl;exact rfl;exact rfl;exact rfl;exact rfl;exact rfl;kernel_rfl;intro b)
   | (apply WW;assumption;exact rfl;exact rfl;exact rfl;exact inferInstance;exact rfl;exact rfl;exact rfl;exact rfl;exact rfl;kernel_rfl;intro b))
  first|exact XS|done):SD ks B A:=h
theorem eL(ks:List Nat)(K:B)(G:Fr n F a dd:=by assumption)(h:SD ks B (WD r Tryz.prog ops Q T Ls C n dd F):=by exact ad):DW r Tryz.prog ops Q T (au · Ls) C a:=(h.h K).h a G
theorem dT{rr:Option Nat}{i:Nat}{l:List Oper}{w:World}{L:List di}{Q:Exit→Act→World→Prop}(H:au w L)(is:List Nat)(k:Nat)(h:Fw.chk l.toArray=true→DW rr Tryz.prog l.toArray Q [] (au · Ls) (au · L) a)
  (s:qm L is k Ls:=by repeat (first|(apply qm.cons;exact rfl)|apply qm.nil|apply sw.succ|exact sw.zero)) (hc:Fw.chk l.toArray=true:=by kernel_rfl) (hn:(ni is&&rU k is)=true:=by exact rfl):Wp rr Tryz.prog (.region i l.toArray true) Q a w:=by
 have e:=s.eq
 subst e
 exact cN mixed hc H is k hn h
theorem dx{L:List di}(e:Nat)
  (hy:∀ w,au w Ls→au w L→Yd P o a.eval w (fun v w'=>∃ oq L',au w' oq∧au w' L' ∧ ((∀ x,au x oq→au x Ls)∨sync ops T e=true) ∧ ∀ a',Fr n ((d,v)::F) a' dd→DW r P ops Q (e::T) (au · oq) (au · L') a'))
  (G:Fr n F a dd:=by assumption) (hc:chk ops=true:=by assumption) (ho:ops[e]? = some o:=by exact rfl) (hns:lu o=true:=by exact rfl) (hg:o.guard=none:=by exact rfl) (hd:o.dst=some d:=by exact rfl) (hn:Nat.blt d n=true:=by exact rfl) (hl:Nat.blt e ops.size=true:=by exact rfl) (hT:ji e T=false:=by exact rfl) (hb:blk ops T [e]=true:=by kernel_rfl) :
  DW r P ops Q T (au · Ls) (au · L) a:=bN hc e hb hl hT (cA G e ho hns hg hd hn hy)
theorem kn{L:List di}(e:Nat)
  (hy:∀ w,au w Ls→au w L→Yd P o a.eval w (fun _ w'=>∃ oq L',au w' oq∧au w' L' ∧ ((∀ x,au x oq→au x Ls)∨sync ops T e=true)∧DW r P ops Q (e::T) (au · oq) (au · L') a))
  (hc:chk ops=true:=by assumption) (ho:ops[e]? = some o:=by exact rfl) (hns:lu o=true:=by exact rfl) (hg:o.guard=none:=by exact rfl) (hd:o.dst=none:=by exact rfl) (hl:Nat.blt e ops.size=true:=by exact rfl) (hT:ji e T=false:=by exact rfl) (hb:blk ops T [e]=true:=by kernel_rfl) :
  DW r P ops Q T (au · Ls) (au · L) a:=bN hc e hb hl hT (eT e ho hns hg hd hy)
theorem dr{w:World}{oq L':List di}{X:List di→List di→Prop}{e:Nat}(ep:au w oq)(H:au w L')(K:X oq L')(h:(∀ x,au x oq→au x Ls)∨sync ops T e=true:=by first|exact .inl fun _ h=>h|exact .inl fun x h=>Tl.h x h|exact .inl fun _ h=>fc h 1|exact .inl fun _ h=>fc h 2|exact .inl fun _ h=>fc h 3|exact .inr ada):∃ oq L',au w oq∧au w L' ∧ ((∀ x,au x oq→au x Ls)∨sync ops T e=true)∧X oq L':=⟨_,_,ep,H,h,K⟩
theorem ds{w:World}{oq L':List di}{X:List di→List di→Prop}{e:Nat}(is:List Nat)(k:Nat)(K:X oq L')(H:au w L':=by assumption)(s:qm L' is k oq:=by repeat (first|(apply qm.cons;exact rfl)|apply qm.nil|apply sw.succ|exact sw.zero))(hn:(ni is&&rU k is)=true:=by exact rfl)(h:(∀ x,au x oq→au x Ls)∨sync ops T e=true:=by first|exact .inl fun _ h=>h|exact .inl fun x h=>Tl.h x h|exact .inl fun _ h=>fc h 1|exact .inl fun _ h=>fc h 2|exact .inl fun _ h=>fc h 3|exact .inr ada) :
  ∃ oq L',au w oq∧au w L' ∧ ((∀ x,au x oq→au x Ls)∨sync ops T e=true)∧X oq L':=⟨_,_,fU H is k s hn,H,h,K⟩
theorem dh{w:World}{L':List di}{X:List di→List di→Prop}{e:Nat}(K:X L' L')(H:au w L':=by assumption)(h:(∀ x,au x L' → au x Ls)∨sync ops T e=true:=by first|exact .inl fun _ h=>h|exact .inl fun x h=>Tl.h x h|exact .inl fun _ h=>fc h 1|exact .inl fun _ h=>fc h 2|exact .inl fun _ h=>fc h 3|exact .inr ada) :
  ∃ oq L',au w oq∧au w L' ∧ ((∀ x,au x oq→au x Ls)∨sync ops T e=true)∧X oq L':=⟨_,_,H,H,h,K⟩
theorem cl{P:Program}{w:World}{f:FuncId}{xs:List Operand}{ts:Array TypeId}{vs:List Value}{R:Value→World→Prop}{rest:List Oper}{Q:Exit→Act→World→Prop}(hcall:∀ args w,(callFunc f args).run P w = .ok (.enter f args) w)(hc:Calls P f vs.toArray w (fZ R))
  (next:∀ v w',R v w' → ∀ a',Fr n ((d,v)::F) a' dd→vi r P ops Q rest a' w')
  (G:Fr n F a dd:=by assumption) (hg:o.guard=none:=by exact rfl) (hd:o.dst=some d:=by exact rfl) (hn:Nat.blt d n=true:=by exact rfl) (ho:o.op = .call { callee:=.value (.func f),args:=xs.toArray,argTypes:=ts }:=by exact rfl) (hx:evs F xs=some vs:=by exact rfl):vi r P ops Q (o::rest) a w :=
 aN G hg hd hn (aS hcall G ho hx hc fun v w' h=>next v w' h)
theorem dl{P:Program}{w:World}{J:Value→World→Prop}{f:FuncId}{xs:List Operand}{ts:Array TypeId}{vs:List Value}{R:Value→World→Prop}(hcall:∀ args w,(callFunc f args).run P w = .ok (.enter f args) w)(hc:Calls P f vs.toArray w (fZ R))(next:∀ v w',R v w' → J v w')(G:Fr n F a dd:=by assumption)
  (ho:o.op = .call { callee:=.value (.func f),args:=xs.toArray,argTypes:=ts }:=by exact rfl) (hx:evs F xs=some vs:=by exact rfl):Yd P o a.eval w J:=aS hcall G ho hx hc next
theorem tb{B:World→Prop}{L Lr:List di}(h:∀ w,au w Lr→B w)[t:Tl L Lr]:∀ w,au w L→B w:=fun w H=>h w (t.h w H)
theorem de{L:List di}{Cs:World→Prop}(h:∀ w,au w L→Q .normal a w)(hc:chk ops=true:=by assumption)(hall:tt ops T=true:=by kernel_rfl):DW r P ops Q T Cs (au · L) a:=dJ hc hall h
theorem cc{γ:Type}{c:Operand}{x y:Code}{r:Option Nat}{P:Program}{Q:Exit→Act→World→Prop}{w:World}{b:Bool}{A A' R:Option γ}(I:(bif b then A else A')=R)(h1:b=true→A=R→Wp r P x Q a w)(h2:b=false→A' = R→Wp r P y Q a w)
  (G:Fr n F a dd:=by assumption) (hc:Fw.ev F c=some (.bool b):=by exact rfl):Wp r P (.cond c x y) Q a w:=bM G hc (fun h=>h1 h (Fx.cT h I)) fun h=>h2 h (Fx.cF h I)
theorem gs{γ:Type}{b:Bool}{A A' R:Option γ}{X:Prop}(I:(bif b then A else A')=R)(h1:b=true→A=R→X)(h2:b=false→A' = R→X):X:=by
 cases b
 ·exact h2 rfl I
 ·exact h1 rfl I
theorem b2{α β γ:Type}{t:Option α}{u:α→Option β}{k:α→β→Option γ}{r:γ}(h:(t.bind fun x=>(u x).bind fun y=>k x y)=some r):∃ x,t=some x ∧ ∃ y,u x=some y∧k x y=some r:=by
 obtain⟨x,h1,h⟩:=ade h
 obtain⟨y,h2,h⟩:=ade h
 exact⟨x,h1,y,h2,h⟩
theorem jr{τ γ:Type}{v:τ}{u:τ⊕γ}{Y:τ→Prop}(I:some (inl v)=some u)(h:Y v):∃ x,u=inl x∧Y x:=⟨v,(ac8 I).symm,h⟩
end
section
variable {τ γ:Type}{rr:Option Nat}{P:Program}{Q:Exit→Act→World→Prop}{n:Nat}{F U:List (Nat×Value)}{a:Act}{dd:List Deferred}{w:World}{L:List di}{c:Code}
inductive Kp(F:List (Nat×Value)):List Nat→List (Nat×Value)→Prop
 | nil:Kp F [] []
 | cons {k:Nat} {v:Value} {ks:List Nat} {U:List (Nat×Value)} (h:Fw.look F k=some v) (t:Kp F ks U):Kp F (k::ks) ((k,v)::U)
theorem jn{t:Option (τ⊕γ)}{k:τ→Option γ}{R:γ}(G:Fr n F a dd)(H:au w L)(I:seq t k=some R)(ks:List Nat)(new:τ→List (Nat×Value)→List (Nat×Value))
  (h1:∀ o,t=some o→fin k o=some R→Fr n F a dd→au w L→Wp rr P c (Exit.then (fun a w=>∃ x,o = .inl x∧Fr n (new x U) a dd∧au w L) Q) a w)
  (h2:∀ x a w,k x=some R→Fr n (new x U) a dd→au w L→Q .normal a w)
  (hG:Kp F ks U:=by repeat (first|exact Kp.nil|(apply Kp.cons;exact rfl))):Wp rr P c Q a w :=
 aM G H I (fun _ x a w=>Fr n (new x U) a dd∧au w L) h1 fun x a w h h3=>h2 x a w h h3.1 h3.2
theorem jm(L':List di){t:Option (τ⊕γ)}{k:τ→Option γ}{R:γ}(G:Fr n F a dd)(H:au w L)(I:seq t k=some R)(ks:List Nat)(new:τ→List (Nat×Value)→List (Nat×Value))
  (h1:∀ o,t=some o→fin k o=some R→Fr n F a dd→au w L→Wp rr P c (Exit.then (fun a w=>∃ x,o = .inl x∧Fr n (new x U) a dd∧au w L') Q) a w)
  (h2:∀ x a w,k x=some R→Fr n (new x U) a dd→au w L' → Q .normal a w)
  (hG:Kp F ks U:=by repeat (first|exact Kp.nil|(apply Kp.cons;exact rfl))):Wp rr P c Q a w :=
 aM G H I (fun _ x a w=>Fr n (new x U) a dd∧au w L') h1 fun x a w h h3=>h2 x a w h h3.1 h3.2
theorem ln{body:τ→Option (τ⊕γ)}{s0:τ}{R:γ}(G:Fr n F a dd)(H:au w L)(I:loop body s0=some R)(ks:List Nat)(new:τ→List (Nat×Value)→List (Nat×Value))
  (h1:∀ s a w o',body s=some o' → (∀ g,o' = .inr g→g=R)→Fr n (new s U) a dd→au w L→Wp rr P c (Exit.then (fun a w=>∃ s',o' = .inl s' ∧ Fr n (new s' U) a dd∧au w L) Q) a w)
  (hG:Kp F ks U:=by repeat (first|exact Kp.nil|(apply Kp.cons;exact rfl))) (h0:Fr n (new s0 U) a dd:=by exact Go.Fw.Fr.t (by assumption)):Wp rr P (.loop c) Q a w :=
 aY G H I (fun _ x a w=>Fr n (new x U) a dd∧au w L) (fun _ H=>⟨h0,H⟩) fun s a w o' h h' h3=>h1 s a w o' h h' h3.1 h3.2
end
theorem Zt{t ty b off n:Nat}{cs:List Value}{T:TypeId}{u:Value}{rs:List ResultVar}{vs:List Value}{F:List (Nat×Value)}{a:Act}{dd:List Deferred}{w:World}{L:List di}(G:Fr n F a dd)(H:au w L)(hv:Fw.look F t=some (.pointer (some ⟨b,off,none⟩)))(ht:vk ty)(i:yp L b cs T)(j:Gg cs off u)
  (h:kL Tryz.prog w a.tmps rs vs):kL Tryz.prog w a.tmps (.cell t ty::rs) (u::vs):=gX G hv ht.h (mc H) h
theorem Zu{t ty b off n sz:Nat}{cs us:List Value}{T:TypeId}{rs:List ResultVar}{vs:List Value}{F:List (Nat×Value)}{a:Act}{dd:List Deferred}{w:World}{L:List di}(G:Fr n F a dd)(H:au w L)(hv:Fw.look F t=some (.pointer (some ⟨b,off,none⟩)))(ht:sA ty sz)(i:yp L b cs T)(j:Cc cs off sz us)
  (h:kL Tryz.prog w a.tmps rs vs):kL Tryz.prog w a.tmps (.cell t ty::rs) (.agg us.toArray::vs):=by
 obtain⟨k,hk⟩:=i.h
 exact dA G hv ht.h ht.s j.len (H.cells (i:=k) hk j.h) h
theorem er{fn:Func}{rs:List ResultVar}{vs:List Value}{v:Value}{n:Nat}{F:List (Nat×Value)}{a:Act}{w:World}{L:List di}{R:Value→World→Prop}(hr:fn.results=rs.toArray)(G:Fr n F a)(H:au w L)(h:R v w)
  (hv:kL Tryz.prog w a.tmps rs vs:=by repeat (first|exact dI|(apply dU G;exact rfl)|(apply Zu G H;exact rfl;exact inferInstance;exact inferInstance;exact inferInstance)|(apply Zt G H;exact rfl;exact inferInstance;exact inferInstance;exact inferInstance)))
  (he:(if vs.length=1 then vs.headD undef else .tuple vs.toArray)=v:=by exact rfl):bP Tryz.prog fn (fZ R) .ret a w:=fE hr G hv he h
theorem ce{P:Program}{w:World}{f:FuncId}{fn:Func}{c:Code}{vs:List Value}{m:Nat}{R:Value→World→Prop}(hf:P.funcs[f]? = some fn)(hm:fn.ntmps=m)(h:∀ a,Fr m (idx 0 vs) a→Wp none P c (bP P fn (fZ R)) a w)
  (hb:fn.body=some c:=by exact rfl) (hn:Nat.ble vs.length m=true:=by exact rfl):Calls P f vs.toArray w (fZ R):=aV hf hb hm hn h
theorem iL{w:World}{L:List di}:au w L↔(∀ r∈L,r.holds w)∧L.Pairwise fun r s=>∀ k,r.fp k → ¬ s.fp k:=by
 constructor
 ·intro h
  refine⟨fun r hr=>?_,aaO.2 fun i j hi hj hij k h1 h2=>h.apart i j _ _ (aa1 hi) (aa1 hj) ac_ k h1 h2⟩
  obtain⟨i,hi⟩:=acZ.1 hr
  exact h.hold i r hi
 ·rintro⟨h1,h2⟩
  refine⟨fun i r hi=>h1 r (abj hi),fun i j r s hi hj hij k hr hs=>?_⟩
  obtain⟨hi',ei⟩:=aap.1 hi
  obtain⟨hj',ej⟩:=aap.1 hj
  rcases Nat.lt_or_gt_of_ne hij with h|h
  ·exact aaO.1 h2 i j hi' hj' h k (ei ▸ hr) (ej ▸ hs)
  ·exact aaO.1 h2 j i hj' hi' h k (ej ▸ hs) (ei ▸ hr)
theorem sb{w:World}{L T:List di}(h:au w L)(s:uo L T:=by repeat (first|exact uo.refl|apply uo.keep|apply uo.drop)):au w T:=by
 obtain⟨h1,h2⟩:=iL.1 h
 exact iL.2 ⟨fun r hr=>h1 r (s.sub.subset hr),h2.sublist s.sub⟩
theorem lf{A:Prop}(h:A:=by
  repeat' (first
   | exact jr I ⟨G.t,H⟩
   | exact jr I ⟨G.t,sb H⟩
   | (have I:=ac8 I;subst I;refine aT rfl G rfl ?_;first|exact⟨rfl,H⟩|exact⟨rfl,sb H⟩)
   | (refine gg ?_;first|intro(a:Act) w G H|intro b a w G H|intro b b' a w G H|intro b b' b'' a w G H)
   | refine cc I (fun hb I=>?_) (fun hb I=>?_)
   | refine gs I (fun hb I=>?_) (fun hb I=>?_)
   | obtain⟨x,hx,I⟩:=ade I
   | obtain⟨hx,I⟩:=bH I)):A:=h
end Go.Proofs
end
section
namespace Go.Proofs
open Go.Fw Go.Fx
set_option maxRecDepth 10000
theorem eF{x0:List UInt8}{s:SV}{Bf:World→Prop}{Lr:List di}{out:List UInt8}{w0:World}(I:Sh.cY x0=some out)(H:au w0 Lr)(S:∀ w,au w Lr→Bf w)(f:dj Bf s x0):Calls Tryz.prog 73 #[(s).v] w0 (fZ fun v w'=>∃ (s:SV),v=(s).v∧au w' (ak 0 s 5 out::Lr)):=by
 unfold Sh.cY at I
 refine ce Tryz.func73 Tryz.ntmps73 fun a G=>?_
 refine go 9 fun a w G H=>?_
 refine aA G (lA kg G E E E) E E E fun a G=>?_
 refine aJ (aB ?_)
 refine bM G (c:=.tmp 4) E (fun hb=>?_) (fun hb=>?_)
 ·have hn:=(f _ (S _ H)).isNil hb
  subst hn
  have ho:=(cZ I).2
  subst ho
  refine go 7 fun a w G H=>?_
  refine aT Tryz.results73 G E ?_
  exact⟨SV.nil,E,H.rowNil (X:=UInt8) 0 5⟩
 refine go 4 fun a w G H=>?_
 refine aN G E E E (gZ (X:=UInt8) 0 (aau _) kg r7 E fun s1 w hA=>?_)
 have H:=H.plus hA
 intro a G
 refine go 1 fun a w G H=>?_
 refine aN G E E E (cB (X:=UInt8) I kg r7 E E E E G E E E (H.own (X:=UInt8) (i:=0) E) (f _ (S _ (fc H 1))) fun s2 w hU=>?_)
 have H:=H.chg hU (i:=0) rfl
 intro a G
 refine go 4 fun a w G H=>?_
 refine aT Tryz.results73 G E ?_
 exact⟨s2,E,H⟩
theorem dX{x0:List Int}{s:SV}{Bf:World→Prop}{Lr:List di}{out:List Int}{w0:World}(I:Sh.bG x0=some out)(H:au w0 Lr)(S:∀ w,au w Lr→Bf w)(f:dj Bf s x0):Calls Tryz.prog 134 #[(s).v] w0 (fZ fun v w'=>∃ (s:SV),v=(s).v∧au w' (ak 0 s 3 out::Lr)):=by
 unfold Sh.bG at I
 refine ce Tryz.func134 Tryz.ntmps134 fun a G=>?_
 refine go 9 fun a w G H=>?_
 refine aA G (lA kz G E E E) E E E fun a G=>?_
 refine aJ (aB ?_)
 refine bM G (c:=.tmp 4) E (fun hb=>?_) (fun hb=>?_)
 ·have hn:=(f _ (S _ H)).isNil hb
  subst hn
  have ho:=(cZ I).2
  subst ho
  refine go 7 fun a w G H=>?_
  refine aT Tryz.results134 G E ?_
  exact⟨SV.nil,E,H.rowNil (X:=Int) 0 3⟩
 refine go 4 fun a w G H=>?_
 refine aN G E E E (gZ (X:=Int) 0 (aau _) kz jO E fun s1 w hA=>?_)
 have H:=H.plus hA
 intro a G
 refine go 1 fun a w G H=>?_
 refine aN G E E E (cB (X:=Int) I kz jO E E E E G E E E (H.own (X:=Int) (i:=0) E) (f _ (S _ (fc H 1))) fun s2 w hU=>?_)
 have H:=H.chg hU (i:=0) rfl
 intro a G
 refine go 4 fun a w G H=>?_
 refine aT Tryz.results134 G E ?_
 exact⟨s2,E,H⟩
theorem fX{x0:List bg}{s:SV}{Bf:World→Prop}{Lr:List di}{out:List bg}{w0:World}(I:Sh.gC x0=some out)(H:au w0 Lr)(S:∀ w,au w Lr→Bf w)(f:dj Bf s x0):Calls Tryz.prog 140 #[(s).v] w0 (fZ fun v w'=>∃ (s:SV),v=(s).v∧au w' (ak 0 s 101 out::Lr)):=by
 unfold Sh.gC at I
 refine ce Tryz.func140 Tryz.ntmps140 fun a G=>?_
 refine go 9 fun a w G H=>?_
 refine aA G (lA wz G E E E) E E E fun a G=>?_
 refine aJ (aB ?_)
 refine bM G (c:=.tmp 4) E (fun hb=>?_) (fun hb=>?_)
 ·have hn:=(f _ (S _ H)).isNil hb
  subst hn
  have ho:=(cZ I).2
  subst ho
  refine go 7 fun a w G H=>?_
  refine aT Tryz.results140 G E ?_
  exact⟨SV.nil,E,H.rowNil (X:=bg) 0 101⟩
 refine go 4 fun a w G H=>?_
 refine aN G E E E (gZ (X:=bg) 0 (aau _) wz r6 E fun s1 w hA=>?_)
 have H:=H.plus hA
 intro a G
 refine go 1 fun a w G H=>?_
 refine aN G E E E (cB (X:=bg) I wz r6 E E E E G E E E (H.own (X:=bg) (i:=0) E) (f _ (S _ (fc H 1))) fun s2 w hU=>?_)
 have H:=H.chg hU (i:=0) rfl
 intro a G
 refine go 4 fun a w G H=>?_
 refine aT Tryz.results140 G E ?_
 exact⟨s2,E,H⟩
theorem cW{x0:List UInt8}{s:SV}{Bf:World→Prop}{Lr:List di}{out:List UInt8}{w0:World}(I:Sh.aN x0=some out)(H:au w0 Lr)(S:∀ w,au w Lr→Bf w)(f:dj Bf s x0):Calls Tryz.prog 142 #[(s).v] w0 (fZ fun v w'=>∃ (s:SV),v=(s).v∧au w' (ak 0 s 5 out::Lr)):=by
 unfold Sh.aN at I
 refine ce Tryz.func142 Tryz.ntmps142 fun a G=>?_
 refine go 9 fun a w G H=>?_
 refine aA G (lA kg G E E E) E E E fun a G=>?_
 refine aJ (aB ?_)
 refine bM G (c:=.tmp 4) E (fun hb=>?_) (fun hb=>?_)
 ·have hn:=(f _ (S _ H)).isNil hb
  subst hn
  have ho:=(cZ I).2
  subst ho
  refine go 7 fun a w G H=>?_
  refine aT Tryz.results142 G E ?_
  exact⟨SV.nil,E,H.rowNil (X:=UInt8) 0 5⟩
 refine go 4 fun a w G H=>?_
 refine aN G E E E (gZ (X:=UInt8) 0 (aau _) kg r7 E fun s1 w hA=>?_)
 have H:=H.plus hA
 intro a G
 refine go 1 fun a w G H=>?_
 refine aN G E E E (cB (X:=UInt8) I kg r7 E E E E G E E E (H.own (X:=UInt8) (i:=0) E) (f _ (S _ (fc H 1))) fun s2 w hU=>?_)
 have H:=H.chg hU (i:=0) rfl
 intro a G
 refine go 4 fun a w G H=>?_
 refine aT Tryz.results142 G E ?_
 exact⟨s2,E,H⟩
theorem jB{x0:List gP}{s:SV}{Bf:World→Prop}{Lr:List di}{out:List gP}{w0:World}(I:Sh.eM x0=some out)(H:au w0 Lr)(S:∀ w,au w Lr→Bf w)(f:dj Bf s x0):Calls Tryz.prog 144 #[(s).v] w0 (fZ fun v w'=>∃ (s:SV),v=(s).v∧au w' (ak 0 s 205 out::Lr)):=by
 unfold Sh.eM at I
 refine ce Tryz.func144 Tryz.ntmps144 fun a G=>?_
 refine go 9 fun a w G H=>?_
 refine aA G (lA E9 G E E E) E E E fun a G=>?_
 refine aJ (aB ?_)
 refine bM G (c:=.tmp 4) E (fun hb=>?_) (fun hb=>?_)
 ·have hn:=(f _ (S _ H)).isNil hb
  subst hn
  have ho:=(cZ I).2
  subst ho
  refine go 7 fun a w G H=>?_
  refine aT Tryz.results144 G E ?_
  exact⟨SV.nil,E,H.rowNil (X:=gP) 0 205⟩
 refine go 4 fun a w G H=>?_
 refine aN G E E E (gZ (X:=gP) 0 (aau _) E9 A7 E fun s1 w hA=>?_)
 have H:=H.plus hA
 intro a G
 refine go 1 fun a w G H=>?_
 refine aN G E E E (cB (X:=gP) I E9 A7 E E E E G E E E (H.own (X:=gP) (i:=0) E) (f _ (S _ (fc H 1))) fun s2 w hU=>?_)
 have H:=H.chg hU (i:=0) rfl
 intro a G
 refine go 4 fun a w G H=>?_
 refine aT Tryz.results144 G E ?_
 exact⟨s2,E,H⟩
theorem lJ{x0:List (List UInt8)}{hs:List SV}{s:SV}{Bf:World→Prop}{Lr:List di}{out:List (List UInt8)}{w0:World}(I:Sh.fS x0=some out)(H:au w0 Lr)(S:∀ w,au w Lr→Bf w)(f:dj Bf s hs)(q:cn (dj (X:=UInt8) Bf) hs x0):Calls Tryz.prog 148 #[(s).v] w0 (fZ fun v w'=>∃ (s:SV) (hs:List SV),v=(s).v∧cn (dj (X:=UInt8) Bf) hs out∧au w' (ak 0 s 23 hs::Lr)):=by
 unfold Sh.fS at I
 refine ce Tryz.func148 Tryz.ntmps148 fun a G=>?_
 refine go 9 fun a w G H=>?_
 refine aA G (lA Ad G E E E) E E E fun a G=>?_
 refine aJ (aB ?_)
 refine bM G (c:=.tmp 4) E (fun hb=>?_) (fun hb=>?_)
 ·have hn:=(f _ (S _ H)).isNil hb
  have hx:x0 = []:=ab9 (by rw[←q.len,hn];rfl)
  subst hx
  have ho:=(cZ I).2
  subst ho
  refine go 7 fun a w G H=>?_
  refine aT Tryz.results148 G E ?_
  exact⟨SV.nil,[],E,cn.nil,H.rowNil (X:=SV) 0 23⟩
 refine go 4 fun a w G H=>?_
 refine aN G E E E (gZ (X:=SV) 0 (aau _) Ad ry E fun s1 w hA=>?_)
 have H:=H.plus hA
 intro a G
 refine go 1 fun a w G H=>?_
 refine aN G E E E (fS (X:=SV) (xs:=[]) (ys:=[]) I E q.len Ad ry E E E E G E E E (H.own (X:=SV) (i:=0) E) (f _ (S _ (fc H 1))) fun s2 w hU=>?_)
 have H:=H.chg hU (i:=0) rfl
 intro a G
 refine go 4 fun a w G H=>?_
 refine aT Tryz.results148 G E ?_
 have ho:=(cZ I).2
 subst ho
 exact⟨s2,hs,E,q,H⟩
end Go.Proofs
end
section
namespace Go.Proofs
open Go.Fw Go.Fx
set_option maxRecDepth 10000
theorem cY{x0 x1 x2:Int}{out:Bool}{w0:World}{Lr:List di}(I:Sh.bJ x0 x1 x2=some out)(H:au w0 (Lr)):Calls Tryz.prog 124 #[.int .i64 x0,.int .i64 x1,.int .i64 x2] w0 (fZ fun v w'=>v = .bool out∧au w' (Lr)):=by
 unfold Sh.bJ at I
 refine ce Tryz.func124 Tryz.ntmps124 fun a G=>?_
 refine go 6 fun a w G H=>?_
 refine jn G H I [] (fun v7 u=>(6,.bool v7)::u) (fun c1 I c0 G H=>?_) fun v7 a w I G H=>?_
 ·exact lf
 replace I:Sh.vY v7=_:=I
 unfold Sh.vY at I
 exact lf
theorem jY{x0 x1:List UInt8}{s1 s3:SV}{out:List Int}{w0:World}{Bf:World→Prop}{Lr:List di}(I:Sh.cQ x0 x1=some out)(H:au w0 (Lr))(S:∀ w,au w Lr→Bf w)(f2:dj Bf s1 x0)(f4:dj Bf s3 x1):Calls Tryz.prog 158 #[(s1).v,(s3).v] w0 (fZ fun v w'=>∃ (c7:SV),v=(c7).v∧au w' (ak 0 c7 3 out::Lr)):=by
 unfold Sh.cQ at I
 refine ce Tryz.func158 Tryz.ntmps158 fun a G=>?_
 refine go 11 fun a w G H=>?_
 refine aM G H I (fun F x a w=>match x with|c8=>∃ (c2:SV),Fr 27 [(5,(c2).v),(4,(SV.nil).v)] a∧au w (ak 0 c2 3 c8::Lr)) (fun g3 I g1 G H=>?_) ?_
 ·refine go 8 fun a w G H=>?_
  have H:=H.rowNil (X:=Int) 0 3
  refine aY G H I (fun F x a w=>match x with|(c4,c1)=>∃ (c0:SV),Fr 27 [(5,(c0).v),(9,.int .i64 c1),(0,(s1).v),(1,(s3).v),(4,(SV.nil).v),(8,.int .i64 (x0.length:Int))] a∧au w (ak 0 c0 3 c4::Lr)) (fun G H=>⟨SV.nil,G.to ⟨E,E,E,E,E,E,trivial⟩,H⟩) ?_
  rintro⟨c4,c1⟩ a w g5 I d0 ⟨c0,G,H⟩
  replace I:Sh.aV x0 x1 c4 c1=_:=I
  unfold Sh.aV at I
  refine go 6 fun a w G H=>?_
  refine cc I (fun d1 I=>?_) fun d1 I=>?_
  ·refine go 3 fun a w G H=>?_
   refine aM G H I (fun F x a w=>match x with|c9=>∃ (c3:SV),Fr 27 [(5,(c3).v),(0,(s1).v),(1,(s3).v),(4,(SV.nil).v),(8,.int .i64 (x0.length:Int)),(9,.int .i64 c1)] a∧au w (ak 0 c3 3 c9::Lr)) (fun g4 I g2 G H=>?_) ?_
   ·refine go 8 fun a w G H=>?_
    refine dT H [0] 1 fun K=>?_
    obtain⟨g6,d3,I⟩:=ade I
    have d9:=aL d3
    obtain⟨g7,d4,I⟩:=ade I
    have g0:=aL d4
    refine eL [0,1,2,3,4,5,6,7,8] fun a G=>?_
    refine de fun w H=>?_
    refine aB ?_
    refine cc I (fun d2 I=>?_) fun d2 I=>?_
    ·refine go 3 fun a w G H=>?_
     refine aN G E E E (bO (X:=Int) (y:=c1) kz jO E E E E G E E E fun d6 w d7 c5=>?_)
     have H:=H.plus c5
     try dsimp only[List.set]at H
     intro a G
     obtain⟨g8,d5,I⟩:=ade I
     refine aN G E E E (cB (X:=Int) d5 kz jO E E E E G E E E (H.own (X:=Int) (i:=1) E) (H.ptS (X:=Int) (i:=0) (n:=1) (c:=1) E E E (aal _)) fun d8 w c6=>?_)
     have H:=H.chg c6 (i:=1) rfl
     try dsimp only[List.set]at H
     intro a G
     refine go 4 fun a w G H=>?_
     exact jr I ⟨d8,G.t,bS H [1] 2 E⟩
    refine go 3 fun a w G H=>?_
    exact jr I ⟨c0,G.t,H⟩
   rintro c9 a w I ⟨c3,G,H⟩
   unfold Sh.cX at I
   refine go 6 fun a w G H=>?_
   exact jr I ⟨c3,G.t,H⟩
  refine go 5 fun a w G H=>?_
  obtain rfl:=oI I
  have I:=d0 _ rfl
  subst I
  exact⟨c4,E,c0,G.to ⟨E,E,trivial⟩,H⟩
 rintro c8 a w I ⟨c2,G,H⟩
 unfold Sh.aAe at I
 refine go 8 fun a w G H=>?_
 obtain rfl:=oI I
 refine aT Tryz.results158 G E ?_
 exact⟨c2,E,H⟩
theorem mS{x0 x1:List aj}{s1 s3:SV}{out:List Int}{w0:World}{Bf:World→Prop}{Lr:List di}(I:Sh.hB x0 x1=some out)(H:au w0 (Lr))(S:∀ w,au w Lr→Bf w)(f2:dj Bf s1 x0)(f4:dj Bf s3 x1):Calls Tryz.prog 84 #[(s1).v,(s3).v] w0 (fZ fun v w'=>∃ (c7:SV),v=(c7).v∧au w' (ak 0 c7 3 out::Lr)):=by
 unfold Sh.hB at I
 refine ce Tryz.func84 Tryz.ntmps84 fun a G=>?_
 refine go 11 fun a w G H=>?_
 refine aM G H I (fun F x a w=>match x with|c8=>∃ (c2:SV),Fr 27 [(5,(c2).v),(4,(SV.nil).v)] a∧au w (ak 0 c2 3 c8::Lr)) (fun g3 I g1 G H=>?_) ?_
 ·refine go 8 fun a w G H=>?_
  have H:=H.rowNil (X:=Int) 0 3
  refine aY G H I (fun F x a w=>match x with|(c4,c1)=>∃ (c0:SV),Fr 27 [(5,(c0).v),(9,.int .i64 c1),(0,(s1).v),(1,(s3).v),(4,(SV.nil).v),(8,.int .i64 (x0.length:Int))] a∧au w (ak 0 c0 3 c4::Lr)) (fun G H=>⟨SV.nil,G.to ⟨E,E,E,E,E,E,trivial⟩,H⟩) ?_
  rintro⟨c4,c1⟩ a w g5 I d0 ⟨c0,G,H⟩
  replace I:Sh.dD x0 x1 c4 c1=_:=I
  unfold Sh.dD at I
  refine go 6 fun a w G H=>?_
  refine cc I (fun d1 I=>?_) fun d1 I=>?_
  ·refine go 3 fun a w G H=>?_
   refine aM G H I (fun F x a w=>match x with|c9=>∃ (c3:SV),Fr 27 [(5,(c3).v),(0,(s1).v),(1,(s3).v),(4,(SV.nil).v),(8,.int .i64 (x0.length:Int)),(9,.int .i64 c1)] a∧au w (ak 0 c3 3 c9::Lr)) (fun g4 I g2 G H=>?_) ?_
   ·refine go 8 fun a w G H=>?_
    refine dT H [0] 1 fun K=>?_
    obtain⟨g6,d3,I⟩:=ade I
    have d9:=aL d3
    obtain⟨g7,d4,I⟩:=ade I
    have g0:=aL d4
    refine eL [0,1,2,3,4,5,6,7] fun a G=>?_
    refine aK G K 8 E ada E E E (fun w H=>(lY Tryz.eqGuardType46 (iD _ _ _ _ (by decide)) G E E E)) fun a G=>?_
    refine de fun w H=>?_
    refine aB ?_
    refine cc I (fun d2 I=>?_) fun d2 I=>?_
    ·refine go 3 fun a w G H=>?_
     refine aN G E E E (bO (X:=Int) (y:=c1) kz jO E E E E G E E E fun d6 w d7 c5=>?_)
     have H:=H.plus c5
     try dsimp only[List.set]at H
     intro a G
     obtain⟨g8,d5,I⟩:=ade I
     refine aN G E E E (cB (X:=Int) d5 kz jO E E E E G E E E (H.own (X:=Int) (i:=1) E) (H.ptS (X:=Int) (i:=0) (n:=1) (c:=1) E E E (aal _)) fun d8 w c6=>?_)
     have H:=H.chg c6 (i:=1) rfl
     try dsimp only[List.set]at H
     intro a G
     refine go 4 fun a w G H=>?_
     exact jr I ⟨d8,G.t,bS H [1] 2 E⟩
    refine go 3 fun a w G H=>?_
    exact jr I ⟨c0,G.t,H⟩
   rintro c9 a w I ⟨c3,G,H⟩
   unfold Sh.hZ at I
   refine go 6 fun a w G H=>?_
   exact jr I ⟨c3,G.t,H⟩
  refine go 5 fun a w G H=>?_
  obtain rfl:=oI I
  have I:=d0 _ rfl
  subst I
  exact⟨c4,E,c0,G.to ⟨E,E,trivial⟩,H⟩
 rintro c8 a w I ⟨c2,G,H⟩
 unfold Sh.uG at I
 refine go 8 fun a w G H=>?_
 obtain rfl:=oI I
 refine aT Tryz.results84 G E ?_
 exact⟨c2,E,H⟩
theorem mW{x0 x1:List bn}{s1 s3:SV}{out:List Int}{w0:World}{Bf:World→Prop}{Lr:List di}(I:Sh.hU x0 x1=some out)(H:au w0 (Lr))(S:∀ w,au w Lr→Bf w)(f2:dj Bf s1 x0)(f4:dj Bf s3 x1):Calls Tryz.prog 85 #[(s1).v,(s3).v] w0 (fZ fun v w'=>∃ (c7:SV),v=(c7).v∧au w' (ak 0 c7 3 out::Lr)):=by
 unfold Sh.hU at I
 refine ce Tryz.func85 Tryz.ntmps85 fun a G=>?_
 refine go 11 fun a w G H=>?_
 refine aM G H I (fun F x a w=>match x with|c8=>∃ (c2:SV),Fr 27 [(5,(c2).v),(4,(SV.nil).v)] a∧au w (ak 0 c2 3 c8::Lr)) (fun g3 I g1 G H=>?_) ?_
 ·refine go 8 fun a w G H=>?_
  have H:=H.rowNil (X:=Int) 0 3
  refine aY G H I (fun F x a w=>match x with|(c4,c1)=>∃ (c0:SV),Fr 27 [(5,(c0).v),(9,.int .i64 c1),(0,(s1).v),(1,(s3).v),(4,(SV.nil).v),(8,.int .i64 (x0.length:Int))] a∧au w (ak 0 c0 3 c4::Lr)) (fun G H=>⟨SV.nil,G.to ⟨E,E,E,E,E,E,trivial⟩,H⟩) ?_
  rintro⟨c4,c1⟩ a w g5 I d0 ⟨c0,G,H⟩
  replace I:Sh.dV x0 x1 c4 c1=_:=I
  unfold Sh.dV at I
  refine go 6 fun a w G H=>?_
  refine cc I (fun d1 I=>?_) fun d1 I=>?_
  ·refine go 3 fun a w G H=>?_
   refine aM G H I (fun F x a w=>match x with|c9=>∃ (c3:SV),Fr 27 [(5,(c3).v),(0,(s1).v),(1,(s3).v),(4,(SV.nil).v),(8,.int .i64 (x0.length:Int)),(9,.int .i64 c1)] a∧au w (ak 0 c3 3 c9::Lr)) (fun g4 I g2 G H=>?_) ?_
   ·refine go 8 fun a w G H=>?_
    refine dT H [0] 1 fun K=>?_
    obtain⟨g6,d3,I⟩:=ade I
    have d9:=aL d3
    obtain⟨g7,d4,I⟩:=ade I
    have g0:=aL d4
    refine eL [0,1,2,3,4,5,6,7] fun a G=>?_
    refine aK G K 8 E ada E E E (fun w H=>(lY Tryz.eqGuardType50 (jE _ _ _ _ (by decide)) G E E E)) fun a G=>?_
    refine de fun w H=>?_
    refine aB ?_
    refine cc I (fun d2 I=>?_) fun d2 I=>?_
    ·refine go 3 fun a w G H=>?_
     refine aN G E E E (bO (X:=Int) (y:=c1) kz jO E E E E G E E E fun d6 w d7 c5=>?_)
     have H:=H.plus c5
     try dsimp only[List.set]at H
     intro a G
     obtain⟨g8,d5,I⟩:=ade I
     refine aN G E E E (cB (X:=Int) d5 kz jO E E E E G E E E (H.own (X:=Int) (i:=1) E) (H.ptS (X:=Int) (i:=0) (n:=1) (c:=1) E E E (aal _)) fun d8 w c6=>?_)
     have H:=H.chg c6 (i:=1) rfl
     try dsimp only[List.set]at H
     intro a G
     refine go 4 fun a w G H=>?_
     exact jr I ⟨d8,G.t,bS H [1] 2 E⟩
    refine go 3 fun a w G H=>?_
    exact jr I ⟨c0,G.t,H⟩
   rintro c9 a w I ⟨c3,G,H⟩
   unfold Sh.iX at I
   refine go 6 fun a w G H=>?_
   exact jr I ⟨c3,G.t,H⟩
  refine go 5 fun a w G H=>?_
  obtain rfl:=oI I
  have I:=d0 _ rfl
  subst I
  exact⟨c4,E,c0,G.to ⟨E,E,trivial⟩,H⟩
 rintro c8 a w I ⟨c2,G,H⟩
 unfold Sh.vU at I
 refine go 8 fun a w G H=>?_
 obtain rfl:=oI I
 refine aT Tryz.results85 G E ?_
 exact⟨c2,E,H⟩
theorem iJ{x0:br}{s1 s3:SV}{cu:List SV}{s7:SV}{out:Bool}{w0:World}{Bf:World→Prop}{Lr:List di}(I:Sh.iD x0=some out)(H:au w0 (Lr))(S:∀ w,au w Lr→Bf w)(f2:dj Bf s1 x0.cq)(f5:dj Bf s3 cu)(q6:cn (dj (X:=UInt8) Bf) cu x0.ah)(f8:dj Bf s7 x0.a7):Calls Tryz.prog 82 #[.agg (bf.enc (ox x0 s1 s3 s7)).toArray] w0 (fZ fun v w'=>v = .bool out∧au w' (Lr)):=by
 unfold Sh.iD at I
 refine ce Tryz.func82 Tryz.ntmps82 fun a G=>?_
 refine go 7 fun c0 a w G H=>?_
 refine jm (Lr) G H I [] (fun d2 u=>(2,.bool d2)::u) (fun j1 I i7 G H=>?_) fun d2 a w I G H=>?_
 ·refine go 3 fun a w G H=>?_
  obtain⟨i9,g0,I⟩:=ade I
  refine cl Tryz.call124 (cY g0 H ) ?_
  rintro v w ⟨rfl,H⟩ a G
  refine go 1 fun a w G H=>?_
  refine gs I (fun d3 I=>?_) fun d3 I=>?_
  ·refine go 2 fun a w G H=>?_
   obtain⟨j0,g1,I⟩:=ade I
   refine dD G E E E d3 E E (aS (xs:=[.tmp 8,.const (.int .i64 (0)),.const (.int .i64 (4294967296))]) Tryz.call124 G E E (cY g1 H ) fun v w hR=>?_)
   obtain⟨rfl,H⟩:=hR
   intro a G
   refine go 2 fun a w G H=>?_
   refine gs I (fun c5 I=>?_) fun c5 I=>?_
   ·refine go 4 fun a w G H=>?_
    refine aO G E E E c5 (aW z30 Bv Bl G (parts:=[(0,.tmp 13),(1,.tmp 15)]) E E (aP E E (by rw[bu.len];decide) (bu.ig _ _) (aP E E (by rw[bu.len];decide) (bu.eh _ _) bD))) E E fun a G=>?_
    obtain⟨i1,I,g3⟩:=cM I
    refine dD G E E E c5 E E (aS (xs:=[.tmp 16]) Tryz.call98 G E E (R:=fun v w=>∃ x,i1 = .inl x∧match x with|c6=>v = .bool c6∧au w (pt c0 (bf.enc (ox x0 s1 s3 s7)) 54::Lr)) ?_ fun v w hR=>?_)
    ·refine aV Tryz.func98 E Tryz.ntmps98 E fun a G=>?_
     refine go 12 fun c1 a w G H=>?_
     refine jm (pt c0 (bf.enc (ox x0 s1 s3 s7)) 54::Lr) G H I [] (fun c2 u=>(2,.bool c2)::u) (fun j2 I i8 G H=>?_) fun c2 a w I G H=>?_
     ·refine go 4 fun a w G H=>?_
      obtain⟨i2,I,g4⟩:=cM I
      refine aN G E E E (dQ (xs:=[.tmp 6]) Tryz.call171 G E E E (R:=fun v w=>∃ x,i2 = .inl x∧match x with|c7=>v = .bool c7∧au w (pt c1 (bu.enc (bu.mk s1 s3)) 30::pt c0 (bf.enc (ox x0 s1 s3 s7)) 54::Lr)) ?_ fun v w hR=>?_)
      ·refine aV Tryz.func171 E Tryz.ntmps171 E fun a G=>?_
       refine go 14 fun a w G H=>?_
       obtain rfl:=oI I
       refine aT Tryz.results171 G E ?_
       exact⟨(decide (65535<(x0.cq.length:Int))),E,E,H⟩
      obtain⟨c7,rfl,rfl,H⟩:=hR
      replace I:Sh.hN x0 c7=_:=g4
      unfold Sh.hN at I
      intro a G
      refine go 2 fun a w G H=>?_
      refine gs I (fun d7 I=>?_) fun d7 I=>?_
      ·refine go 6 fun a w G H=>?_
       refine gs I (fun d0 I=>?_) fun d0 I=>?_
       ·refine go 3 fun a w G H=>?_
        obtain⟨i3,I,g5⟩:=cM I
        refine dD G E E E d0 E E (aS (xs:=[.tmp 17,.tmp 18]) Tryz.call172 G E E (R:=fun v w=>∃ x,i3 = .inl x∧match x with|c8=>v = .bool c8∧au w (pt c1 (bu.enc (bu.mk s1 s3)) 30::pt c0 (bf.enc (ox x0 s1 s3 s7)) 54::Lr)) ?_ fun v w hR=>?_)
        ·refine aV Tryz.func172 E Tryz.ntmps172 E fun a G=>?_
         refine go 9 fun a w G H=>?_
         obtain⟨i4,I,g6⟩:=cM I
         refine aN G E E E (aS (xs:=[.tmp 5,.tmp 6]) Tryz.call226 G E E (R:=fun v w=>∃ x,i4 = .inl x∧match x with|c3=>v = .int .i64 c3∧au w (pt c1 (bu.enc (bu.mk s1 s3)) 30::pt c0 (bf.enc (ox x0 s1 s3 s7)) 54::Lr)) ?_ fun v w hR=>?_)
         ·refine aV Tryz.func226 E Tryz.ntmps226 E fun a G=>?_
          refine go 6 fun a w G H=>?_
          refine jm (pt c1 (bu.enc (bu.mk s1 s3)) 30::pt c0 (bf.enc (ox x0 s1 s3 s7)) 54::Lr) G H I [4] (fun _ u=>u) (fun j3 I g8 G H=>?_) fun _ a w I G H=>?_
          ·refine go 8 fun a w G H=>?_
           refine aY G H I (fun F x a w=>match x with|c4=>Fr 19 [(8,.int .i64 c4),(0,(s3).v),(1,.func (.func 171) [].toArray [].toArray),(4,.int .i64 0),(7,.int .i64 (x0.ah.length:Int))] a∧au w (pt c1 (bu.enc (bu.mk s1 s3)) 30::pt c0 (bf.enc (ox x0 s1 s3 s7)) 54::Lr)) (fun G H=>⟨G.to ⟨E,E,E,E,E,trivial⟩,H⟩) ?_
           rintro c4 a w j4 I d6 ⟨G,H⟩
           unfold Sh.hQ at I
           refine go 6 fun a w G H=>?_
           refine cc I (fun d8 I=>?_) fun d8 I=>?_
           ·obtain⟨g2,d1,I⟩:=ade I
            have d4:=aL d1
            obtain⟨i6,i0,d5⟩:=cn.getr q6 d4.2
            have g9:=cn.bd q6 (aZ d1)
            refine go 17 fun a w G H=>?_
            obtain⟨i5,I,g7⟩:=cM I
            refine aN G E E E (dQ (xs:=[.tmp 15]) Tryz.call171 G E E E (R:=fun v w=>∃ x,i5 = .inl x∧match x with|c9=>v = .bool c9∧au w (pt c1 (bu.enc (bu.mk s1 s3)) 30::pt c0 (bf.enc (ox x0 s1 s3 s7)) 54::Lr)) ?_ fun v w hR=>?_)
            ·refine aV Tryz.func171 E Tryz.ntmps171 E fun a G=>?_
             refine go 8 fun a w G H=>?_
             refine aA G (cK (d5 _ (S _ (fc H 2))) kg G E E) E E E fun a G=>?_
             refine go 5 fun a w G H=>?_
             obtain rfl:=oI I
             refine aT Tryz.results171 G E ?_
             exact⟨(decide (65535<(g2.length:Int))),E,E,H⟩
            obtain⟨c9,rfl,rfl,H⟩:=hR
            replace I:Sh.pA c4 c9=_:=g7
            unfold Sh.pA at I
            intro a G
            refine aJ (aB ?_)
            refine cc I (fun d9 I=>?_) fun d9 I=>?_
            ·refine go 7 fun a w G H=>?_
             obtain rfl:=oI I
             have I:=d6 _ rfl
             subst I
             have I:=bA g8
             subst I
             refine aT Tryz.results226 G E ?_
             exact⟨c4,E,E,H⟩
            exact lf
           refine go 5 fun a w G H=>?_
           obtain rfl:=oI I
           have I:=d6 _ rfl
           subst I
           exact⟨(),E,G.to ⟨E,trivial⟩,H⟩
          replace I:Sh.vC=_:=I
          unfold Sh.vC at I
          refine go 7 fun a w G H=>?_
          obtain rfl:=oI I
          refine aT Tryz.results226 G E ?_
          exact⟨(-1),E,E,H⟩
         obtain⟨c3,rfl,rfl,H⟩:=hR
         replace I:Sh.oZ c3=_:=g6
         unfold Sh.oZ at I
         intro a G
         refine go 5 fun a w G H=>?_
         obtain rfl:=oI I
         refine aT Tryz.results172 G E ?_
         exact⟨(decide (0≤c3)),E,E,H⟩
        obtain⟨c8,rfl,rfl,H⟩:=hR
        replace I:Sh.oY c8=_:=g5
        unfold Sh.oY at I
        intro a G
        exact lf
       exact lf
      exact lf
     replace I:Sh.hP c2=_:=I
     unfold Sh.hP at I
     refine go 2 fun a w G H=>?_
     obtain rfl:=oI I
     refine aT Tryz.results98 G E ?_
     exact⟨c2,E,E,H⟩
    obtain⟨c6,rfl,rfl,H⟩:=hR
    replace I:Sh.hM c6=_:=g3
    unfold Sh.hM at I
    intro a G
    exact lf
   exact lf
  exact lf
 replace I:Sh.hO d2=_:=I
 unfold Sh.hO at I
 exact lf
theorem vL{x0 x1:br}{s1 s3:SV}{cu:List SV}{s7 s9 eK:SV}{AY:List SV}{yR:SV}{out:Bool}{w0:World}{Bf:World→Prop}{Lr:List di}(I:Sh.wI x0 x1=some out)(H:au w0 (Lr))(S:∀ w,au w Lr→Bf w)(f2:dj Bf s1 x0.cq)(f5:dj Bf s3 cu)(q6:cn (dj (X:=UInt8) Bf) cu x0.ah)(f8:dj Bf s7 x0.a7)(f10:dj Bf s9 x1.cq)(f13:dj Bf eK AY)(E7:cn (dj (X:=UInt8) Bf) AY x1.ah)(f16:dj Bf yR x1.a7):Calls Tryz.prog 83 #[.agg (bf.enc (ox x0 s1 s3 s7)).toArray,.agg (bf.enc (ox x1 s9 eK yR)).toArray] w0 (fZ fun v w'=>v = .bool out∧au w' (Lr)):=by
 unfold Sh.wI at I
 refine ce Tryz.func83 Tryz.ntmps83 fun a G=>?_
 refine go 9 fun c1 c2 a w G H=>?_
 refine jn G H I [2,3,4] (fun c7 u=>(34,.bool c7)::u) (fun j3 I i5 G H=>?_) fun c7 a w I G H=>?_
 ·exact lf
 replace I:Sh.vP x0 x1 c7=_:=I
 unfold Sh.vP at I
 refine aB ?_
 refine cc I (fun g7 I=>?_) fun g7 I=>?_
 ·exact lf
 refine go 3 fun a w G H=>?_
 refine jn G H I [2,3,4] (fun _ u=>u) (fun j4 I g5 G H=>?_) fun _ a w I G H=>?_
 ·refine go 9 fun a w G H=>?_
  refine ln G H I [2,3,37,4] (fun g3 u=>(38,.int .i64 g3)::u) fun g3 a w j7 I c8 G H=>?_
  unfold Sh.mE at I
  refine go 6 fun a w G H=>?_
  refine cc I (fun g8 I=>?_) fun g8 I=>?_
  ·refine go 11 fun a w G H=>?_
   refine dT H [0,1] 2 fun K=>?_
   obtain⟨j9,d0,I⟩:=ade I
   have d4:=aL d0
   obtain⟨j1,i2,g0⟩:=cn.getr q6 d4.2
   have i0:=cn.bd q6 (aZ d0)
   refine eL [0,1,2,3,4] fun a G=>?_
   refine aK G K 5 E ada E E E (fun w H=>(cK (g0 _ (S _ (fc H 2))) kg G E E)) fun a G=>?_
   obtain⟨k0,d1,I⟩:=ade I
   have d5:=aL d1
   obtain⟨j2,i3,g1⟩:=cn.getr E7 d5.2
   have i1:=cn.bd E7 (aZ d1)
   refine eL [6,7,8,9,10] fun a G=>?_
   refine aK G K 11 E ada E E E (fun w H=>(cK (g1 _ (S _ (fc H 2))) kg G E E)) fun a G=>?_
   refine eL [12] fun a G=>?_
   refine de fun w H=>?_
   refine aB ?_
   refine cc I (fun d6 I=>?_) fun d6 I=>?_
   ·refine go 6 fun a w G H=>?_
    obtain rfl:=oI I
    have I:=c8 _ rfl
    subst I
    have I:=bA g5
    subst I
    refine aT Tryz.results83 G E ?_
    exact⟨E,bS H [] 2 E⟩
   exact lf
  refine go 5 fun a w G H=>?_
  obtain rfl:=oI I
  have I:=c8 _ rfl
  subst I
  exact⟨(),E,G.to ⟨E,E,E,trivial⟩,H⟩
 replace I:Sh.vQ x0 x1=_:=I
 unfold Sh.vQ at I
 refine go 14 fun a w G H=>?_
 refine jm (Lr) G H I [] (fun c4 u=>(4,.bool c4)::u) (fun j5 I i6 G H=>?_) fun c4 a w I G H=>?_
 ·refine dT H [0,1] 2 fun K=>?_
  refine eL [0] fun a G=>?_
  refine dx 1 fun w ep H=>?_
  obtain⟨j0,g2,I⟩:=ade I
  refine dl Tryz.call124 (cY g2 H ) ?_
  rintro v w ⟨rfl,H⟩
  refine ds [0,1] 2 fun a G=>?_
  refine eL [2] fun a G=>?_
  refine gs I (fun c3 I=>?_) fun c3 I=>?_
  ·refine eL [3,4,5,6,7,8,9] fun a G=>?_
   obtain⟨i7,c0,I⟩:=ade I
   refine cU G K 10 E ada E E E c3 E E (fun w H=>(eY (f16 _ (S _ (fc H 2))) c0 kz jO E G E E (.inl ⟨E,E⟩) (.inr ⟨_,_,E,E⟩))) fun a G=>?_
   refine bN K 11 ada E E ?_
   refine lK G 11 E E E E E c3 E E fun w ep H=>?_
   obtain⟨g9,I,g4⟩:=cM I
   refine(aS (xs:=[.tmp 66,.tmp 72]) Tryz.call133 G E E (R:=fun v w=>∃ x,g9 = .inl x∧match x with|c5=>v = .bool c5∧au w (pt c2 (bf.enc (ox x1 s9 eK yR)) 54::pt c1 (bf.enc (ox x0 s1 s3 s7)) 54::Lr)) ?_ fun v w hR=>?_)
   ·refine aV Tryz.func133 E Tryz.ntmps133 E fun a G=>?_
    refine go 11 fun a w G H=>?_
    refine aA G (cK ((dj.ny f16 c0 E) _ (S _ (fc H 2))) kz G E E) E E E fun a G=>?_
    refine go 3 fun a w G H=>?_
    refine cc I (fun d7 I=>?_) fun d7 I=>?_
    ·refine go 6 fun a w G H=>?_
     obtain rfl:=oI I
     refine aT Tryz.results133 G E ?_
     exact⟨false,E,E,H⟩
    refine go 3 fun a w G H=>?_
    refine jm (pt c2 (bf.enc (ox x1 s9 eK yR)) 54::pt c1 (bf.enc (ox x0 s1 s3 s7)) 54::Lr) G H I [4] (fun _ u=>u) (fun j6 I g6 G H=>?_) fun _ a w I G H=>?_
    ·refine go 8 fun a w G H=>?_
     refine aY G H I (fun F x a w=>match x with|d2=>Fr 26 [(13,.int .i64 d2),(0,(s7).v),(1,((yR.cut (0:Int).toNat ((x0.a7.length:Int):Int).toNat 1)).v),(12,.int .i64 (x0.a7.length:Int)),(4,.bool false)] a∧au w (pt c2 (bf.enc (ox x1 s9 eK yR)) 54::pt c1 (bf.enc (ox x0 s1 s3 s7)) 54::Lr)) (fun G H=>⟨G.to ⟨E,E,E,E,E,trivial⟩,H⟩) ?_
     rintro d2 a w j8 I c9 ⟨G,H⟩
     unfold Sh.mF at I
     refine go 6 fun a w G H=>?_
     refine cc I (fun d8 I=>?_) fun d8 I=>?_
     ·refine go 11 fun a w G H=>?_
      refine dT H [0,1] 2 fun K=>?_
      obtain⟨i8,i4,I⟩:=ade I
      refine eL [0,1,2,3,4,5] fun a G=>?_
      obtain⟨i9,c6,I⟩:=ade I
      have d3:=aL c6
      refine aK G K 6 E ada E E E (fun w H=>(bC (sz:=1) ((dj.ny f16 c0 E) _ (S _ (fc H 2))) kz jO E G E E E (aZ c6))) fun a G=>?_
      refine aK G K 7 E ada E E E (fun w H=>(aG r_ G E E (((((dj.ny f16 c0 E) _ (S _ (fc H 2))).elemS d3.2)).get 0 E))) fun a G=>?_
      refine eL [8] fun a G=>?_
      refine de fun w H=>?_
      refine aB ?_
      refine cc I (fun d9 I=>?_) fun d9 I=>?_
      ·refine go 6 fun a w G H=>?_
       obtain rfl:=oI I
       have I:=c9 _ rfl
       subst I
       have I:=bA g6
       subst I
       refine aT Tryz.results133 G E ?_
       exact⟨false,E,E,H⟩
      exact lf
     refine go 5 fun a w G H=>?_
     obtain rfl:=oI I
     have I:=c9 _ rfl
     subst I
     exact⟨(),E,G.to ⟨E,trivial⟩,H⟩
    replace I:Sh.aBv=_:=I
    unfold Sh.aBv at I
    refine go 7 fun a w G H=>?_
    obtain rfl:=oI I
    refine aT Tryz.results133 G E ?_
    exact⟨true,E,E,H⟩
   obtain⟨c5,rfl,rfl,H⟩:=hR
   replace I:Sh.aBt c5=_:=g4
   unfold Sh.aBt at I
   try dsimp only[List.set]at H
   refine ds [0,1] 2 fun a G=>?_
   refine eL [12,13] fun a G=>?_
   refine de fun w H=>?_
   exact lf
  refine eL [3,4,5,6,7,8,9,10,11,12,13] fun a G=>?_
  refine de fun w H=>?_
  exact lf
 replace I:Sh.D9 c4=_:=I
 unfold Sh.D9 at I
 exact lf
theorem yP{x0:dw}{x1 x2 x3:Int}{s1 s3 s5:SV}{QX:List bk}{s9:SV}{out:Bool}{w0:World}{Bf:World→Prop}{Lr:List di}(I:Sh.aGf x0 x1 x2 x3=some out)(H:au w0 (Lr))(S:∀ w,au w Lr→Bf w)(f2:dj Bf s1 x0.a8)(f4:dj Bf s3 x0.slots)(f7:dj Bf s5 QX)(q8:cn (eH Bf) QX x0.dy)(f10:dj Bf s9 x0.a7):Calls Tryz.prog 91 #[.agg (bw.enc (yN x0 s1 s3 s5 s9)).toArray,.int .i64 x1,.int .i64 x2,.int .i64 x3] w0 (fZ fun v w'=>v = .bool out∧au w' (Lr)):=by
 unfold Sh.aGf at I
 refine ce Tryz.func91 Tryz.ntmps91 fun a G=>?_
 refine go 21 fun c0 c1 c2 a w G H=>?_
 refine cc I (fun i2 I=>?_) fun i2 I=>?_
 ·refine go 5 fun a w G H=>?_
  obtain⟨k7,I,i9⟩:=cM I
  refine aN G E E E (aS (xs:=[.tmp 13,.tmp 14]) Tryz.call160 G E E (R:=fun v w=>∃ x,k7 = .inl x∧match x with|d3=>v = .bool d3∧au w (pt c2 [.int .i64 x3] 3::pt c1 [.int .i64 x2] 3::pt c0 (bw.enc (yN x0 s1 s3 s5 s9)) 60::Lr)) ?_ fun v w hR=>?_)
  ·refine aV Tryz.func160 E Tryz.ntmps160 E fun a G=>?_
   refine go 9 fun a w G H=>?_
   obtain⟨k8,I,j0⟩:=cM I
   refine aN G E E E (aS (xs:=[.tmp 5,.tmp 6]) Tryz.call223 G E E (R:=fun v w=>∃ x,k8 = .inl x∧match x with|c6=>v = .int .i64 c6∧au w (pt c2 [.int .i64 x3] 3::pt c1 [.int .i64 x2] 3::pt c0 (bw.enc (yN x0 s1 s3 s5 s9)) 60::Lr)) ?_ fun v w hR=>?_)
   ·refine aV Tryz.func223 E Tryz.ntmps223 E fun a G=>?_
    refine go 6 fun a w G H=>?_
    refine jn G H I [4] (fun _ u=>u) (fun m4 I j4 G H=>?_) fun _ a w I G H=>?_
    ·refine go 8 fun a w G H=>?_
     refine ln G H I [0,1,4,7] (fun c7 u=>(8,.int .i64 c7)::u) fun c7 a w m6 I g1 G H=>?_
     unfold Sh.aIz at I
     refine go 6 fun a w G H=>?_
     refine cc I (fun i3 I=>?_) fun i3 I=>?_
     ·obtain⟨k0,l6,I⟩:=ade I
      refine go 17 fun a w G H=>?_
      obtain⟨k9,I,j1⟩:=cM I
      refine aN G E E E (dQ (xs:=[.tmp 15]) Tryz.call161 G E E E (R:=fun v w=>∃ x,k9 = .inl x∧match x with|d4=>v = .bool d4∧au w (pt c2 [.int .i64 x3] 3::pt c1 [.int .i64 x2] 3::pt c0 (bw.enc (yN x0 s1 s3 s5 s9)) 60::Lr)) ?_ fun v w hR=>?_)
      ·refine aV Tryz.func161 E Tryz.ntmps161 E fun a G=>?_
       refine go 16 fun k2 a w G H=>?_
       obtain rfl:=oI I
       refine aT Tryz.results161 G E ?_
       exact⟨(decide (k0.reg=x2)),E,E,bS H [1,2,3] 4 E⟩
      obtain⟨d4,rfl,rfl,H⟩:=hR
      replace I:Sh.aFf c7 d4=_:=j1
      unfold Sh.aFf at I
      intro a G
      refine aJ (aB ?_)
      refine cc I (fun i4 I=>?_) fun i4 I=>?_
      ·refine go 7 fun a w G H=>?_
       obtain rfl:=oI I
       have I:=g1 _ rfl
       subst I
       have I:=bA j4
       subst I
       refine aT Tryz.results223 G E ?_
       exact⟨c7,E,E,H⟩
      exact lf
     refine go 5 fun a w G H=>?_
     obtain rfl:=oI I
     have I:=g1 _ rfl
     subst I
     exact⟨(),E,G.to ⟨E,trivial⟩,H⟩
    replace I:Sh.FV=_:=I
    unfold Sh.FV at I
    refine go 7 fun a w G H=>?_
    obtain rfl:=oI I
    refine aT Tryz.results223 G E ?_
    exact⟨(-1),E,E,H⟩
   obtain⟨c6,rfl,rfl,H⟩:=hR
   replace I:Sh.G9 c6=_:=j0
   unfold Sh.G9 at I
   intro a G
   refine go 5 fun a w G H=>?_
   obtain rfl:=oI I
   refine aT Tryz.results160 G E ?_
   exact⟨(decide (0≤c6)),E,E,H⟩
  obtain⟨d3,rfl,rfl,H⟩:=hR
  replace I:Sh.aFd d3=_:=i9
  unfold Sh.aFd at I
  intro a G
  exact lf
 refine go 6 fun a w G H=>?_
 refine cc I (fun i5 I=>?_) fun i5 I=>?_
 ·refine go 5 fun a w G H=>?_
  obtain⟨l0,I,j2⟩:=cM I
  refine aN G E E E (aS (xs:=[.tmp 19,.tmp 20]) Tryz.call162 G E E (R:=fun v w=>∃ x,l0 = .inl x∧match x with|d5=>v = .bool d5∧au w (pt c2 [.int .i64 x3] 3::pt c1 [.int .i64 x2] 3::pt c0 (bw.enc (yN x0 s1 s3 s5 s9)) 60::Lr)) ?_ fun v w hR=>?_)
  ·refine aV Tryz.func162 E Tryz.ntmps162 E fun a G=>?_
   refine go 9 fun a w G H=>?_
   obtain⟨l1,I,j3⟩:=cM I
   refine aN G E E E (aS (xs:=[.tmp 5,.tmp 6]) Tryz.call224 G E E (R:=fun v w=>∃ x,l1 = .inl x∧match x with|c8=>v = .int .i64 c8∧au w (pt c2 [.int .i64 x3] 3::pt c1 [.int .i64 x2] 3::pt c0 (bw.enc (yN x0 s1 s3 s5 s9)) 60::Lr)) ?_ fun v w hR=>?_)
   ·refine aV Tryz.func224 E Tryz.ntmps224 E fun a G=>?_
    refine go 6 fun a w G H=>?_
    refine jn G H I [4] (fun _ u=>u) (fun m5 I j5 G H=>?_) fun _ a w I G H=>?_
    ·refine go 8 fun a w G H=>?_
     refine ln G H I [0,1,4,7] (fun c9 u=>(8,.int .i64 c9)::u) fun c9 a w m7 I g2 G H=>?_
     unfold Sh.J6 at I
     refine go 6 fun a w G H=>?_
     refine cc I (fun i6 I=>?_) fun i6 I=>?_
     ·obtain⟨k1,l7,I⟩:=ade I
      refine go 17 fun a w G H=>?_
      obtain⟨j6,I,g7⟩:=cM I
      refine aN G E E E (dQ (xs:=[.tmp 15]) Tryz.call163 G E E E (R:=fun v w=>∃ x,j6 = .inl x∧match x with|d6=>v = .bool d6∧au w (pt c2 [.int .i64 x3] 3::pt c1 [.int .i64 x2] 3::pt c0 (bw.enc (yN x0 s1 s3 s5 s9)) 60::Lr)) ?_ fun v w hR=>?_)
      ·refine aV Tryz.func163 E Tryz.ntmps163 E fun a G=>?_
       refine go 16 fun k3 a w G H=>?_
       obtain rfl:=oI I
       refine aT Tryz.results163 G E ?_
       exact⟨(decide (k1.slot=x2)),E,E,bS H [1,2,3] 4 E⟩
      obtain⟨d6,rfl,rfl,H⟩:=hR
      replace I:Sh.G3 c9 d6=_:=g7
      unfold Sh.G3 at I
      intro a G
      refine aJ (aB ?_)
      refine cc I (fun i7 I=>?_) fun i7 I=>?_
      ·refine go 7 fun a w G H=>?_
       obtain rfl:=oI I
       have I:=g2 _ rfl
       subst I
       have I:=bA j5
       subst I
       refine aT Tryz.results224 G E ?_
       exact⟨c9,E,E,H⟩
      exact lf
     refine go 5 fun a w G H=>?_
     obtain rfl:=oI I
     have I:=g2 _ rfl
     subst I
     exact⟨(),E,G.to ⟨E,trivial⟩,H⟩
    replace I:Sh.FW=_:=I
    unfold Sh.FW at I
    refine go 7 fun a w G H=>?_
    obtain rfl:=oI I
    refine aT Tryz.results224 G E ?_
    exact⟨(-1),E,E,H⟩
   obtain⟨c8,rfl,rfl,H⟩:=hR
   replace I:Sh.aFh c8=_:=j3
   unfold Sh.aFh at I
   intro a G
   refine go 5 fun a w G H=>?_
   obtain rfl:=oI I
   refine aT Tryz.results162 G E ?_
   exact⟨(decide (0≤c8)),E,E,H⟩
  obtain⟨d5,rfl,rfl,H⟩:=hR
  replace I:Sh.FU d5=_:=j2
  unfold Sh.FU at I
  intro a G
  exact lf
 refine go 6 fun a w G H=>?_
 refine cc I (fun i8 I=>?_) fun i8 I=>?_
 ·refine go 5 fun a w G H=>?_
  obtain⟨j7,I,g8⟩:=cM I
  refine aN G E E E (aS (xs:=[.tmp 25,.tmp 26]) Tryz.call164 G E E (R:=fun v w=>∃ x,j7 = .inl x∧match x with|d7=>v = .bool d7∧au w (pt c2 [.int .i64 x3] 3::pt c1 [.int .i64 x2] 3::pt c0 (bw.enc (yN x0 s1 s3 s5 s9)) 60::Lr)) ?_ fun v w hR=>?_)
  ·refine aV Tryz.func164 E Tryz.ntmps164 E fun a G=>?_
   refine go 9 fun a w G H=>?_
   obtain⟨j8,I,g9⟩:=cM I
   refine aN G E E E (aS (xs:=[.tmp 5,.tmp 6]) Tryz.call225 G E E (R:=fun v w=>∃ x,j8 = .inl x∧match x with|c3=>v = .int .i64 c3∧au w (pt c2 [.int .i64 x3] 3::pt c1 [.int .i64 x2] 3::pt c0 (bw.enc (yN x0 s1 s3 s5 s9)) 60::Lr)) ?_ fun v w hR=>?_)
   ·refine aV Tryz.func225 E Tryz.ntmps225 E fun a G=>?_
    refine go 6 fun a w G H=>?_
    refine jn G H I [4] (fun _ u=>u) (fun m1 I i1 G H=>?_) fun _ a w I G H=>?_
    ·refine go 8 fun a w G H=>?_
     refine ln G H I [0,1,4,7] (fun c4 u=>(8,.int .i64 c4)::u) fun c4 a w m3 I d8 G H=>?_
     unfold Sh.aH0 at I
     refine go 6 fun a w G H=>?_
     refine cc I (fun g3 I=>?_) fun g3 I=>?_
     ·refine go 15 fun a w G H=>?_
      obtain⟨m0,d2,I⟩:=ade I
      have d9:=aL d2
      obtain⟨l2,k6,g0⟩:=cn.getr q8 d9.2
      have k5:=cn.bd q8 (aZ d2)
      obtain⟨l8,l9,rfl,l3,l4⟩:=g0
      refine go 2 fun a w G H=>?_
      obtain⟨j9,I,i0⟩:=cM I
      refine aN G E E E (dQ (xs:=[.tmp 15]) Tryz.call165 G E E E (R:=fun v w=>∃ x,j9 = .inl x∧match x with|d0=>v = .bool d0∧au w (pt c2 [.int .i64 x3] 3::pt c1 [.int .i64 x2] 3::pt c0 (bw.enc (yN x0 s1 s3 s5 s9)) 60::Lr)) ?_ fun v w hR=>?_)
      ·refine aV Tryz.func165 E Tryz.ntmps165 E fun a G=>?_
       refine go 16 fun k4 a w G H=>?_
       refine jm (pt c2 [.int .i64 x3] 3::pt c1 [.int .i64 x2] 3::pt c0 (bw.enc (yN x0 s1 s3 s5 s9)) 60::Lr) G H I [] (fun c5 u=>(4,.bool c5)::u) (fun m2 I l5 G H=>?_) fun c5 a w I G H=>?_
       ·refine go 6 fun a w G H=>?_
        refine gs I (fun g4 I=>?_) fun g4 I=>?_
        ·refine go 6 fun a w G H=>?_
         refine gs I (fun g5 I=>?_) fun g5 I=>?_
         ·refine go 4 fun a w G H=>?_
          refine gs I (fun d1 I=>?_) fun d1 I=>?_
          ·refine go 7 fun a w G H=>?_
           refine aO G E E E d1 (Qv G E E E) E E fun a G=>?_
           exact lf
          exact lf
         exact lf
        exact lf
       replace I:Sh.aDn c5=_:=I
       unfold Sh.aDn at I
       refine go 2 fun a w G H=>?_
       obtain rfl:=oI I
       refine aT Tryz.results165 G E ?_
       exact⟨c5,E,E,H⟩
      obtain⟨d0,rfl,rfl,H⟩:=hR
      replace I:Sh.Cd c4 d0=_:=i0
      unfold Sh.Cd at I
      intro a G
      refine aJ (aB ?_)
      refine cc I (fun g6 I=>?_) fun g6 I=>?_
      ·refine go 7 fun a w G H=>?_
       obtain rfl:=oI I
       have I:=d8 _ rfl
       subst I
       have I:=bA i1
       subst I
       refine aT Tryz.results225 G E ?_
       exact⟨c4,E,E,H⟩
      exact lf
     refine go 5 fun a w G H=>?_
     obtain rfl:=oI I
     have I:=d8 _ rfl
     subst I
     exact⟨(),E,G.to ⟨E,trivial⟩,H⟩
    replace I:Sh.aDm=_:=I
    unfold Sh.aDm at I
    refine go 7 fun a w G H=>?_
    obtain rfl:=oI I
    refine aT Tryz.results225 G E ?_
    exact⟨(-1),E,E,H⟩
   obtain⟨c3,rfl,rfl,H⟩:=hR
   replace I:Sh.aDk c3=_:=g9
   unfold Sh.aDk at I
   intro a G
   refine go 5 fun a w G H=>?_
   obtain rfl:=oI I
   refine aT Tryz.results164 G E ?_
   exact⟨(decide (0≤c3)),E,E,H⟩
  obtain⟨d7,rfl,rfl,H⟩:=hR
  replace I:Sh.G4 d7=_:=g8
  unfold Sh.G4 at I
  intro a G
  exact lf
 exact lf
end Go.Proofs
end
section
namespace Go.Proofs
open Go.Fw Go.Fx
set_option maxRecDepth 10000
theorem eB{x0 out:Int}{w0:World}{Lr:List di}(I:Sh.eZ x0=some out)(H:au w0 (Lr)):Calls Tryz.prog 286 #[.int .u64 x0] w0 (fZ fun v w'=>v = .int .u64 out∧au w' (Lr)):=by
 unfold Sh.eZ at I
 refine ce Tryz.func286 Tryz.ntmps286 fun a G=>?_
 exact lf
theorem uE{x0 x1 out:Int}{w0:World}{Lr:List di}(I:Sh.F3 x0 x1=some out)(H:au w0 (Lr)):Calls Tryz.prog 316 #[.int .u64 x0,.int .u64 x1] w0 (fZ fun v w'=>v = .int .u64 out∧au w' (Lr)):=by
 unfold Sh.F3 at I
 refine ce Tryz.func316 Tryz.ntmps316 fun a G=>?_
 exact lf
theorem uN{x0 x1 out:Int}{w0:World}{Lr:List di}(I:Sh.aF4 x0 x1=some out)(H:au w0 (Lr)):Calls Tryz.prog 317 #[.int .u64 x0,.int .u64 x1] w0 (fZ fun v w'=>v = .int .u64 out∧au w' (Lr)):=by
 unfold Sh.aF4 at I
 refine ce Tryz.func317 Tryz.ntmps317 fun a G=>?_
 exact lf
theorem uK{x0 x1 out:Int}{w0:World}{Lr:List di}(I:Sh.aF1 x0 x1=some out)(H:au w0 (Lr)):Calls Tryz.prog 318 #[.int .u64 x0,.int .u64 x1] w0 (fZ fun v w'=>v = .int .u64 out∧au w' (Lr)):=by
 unfold Sh.aF1 at I
 refine ce Tryz.func318 Tryz.ntmps318 fun a G=>?_
 exact lf
theorem uG{x0 x1 out:Int}{w0:World}{Lr:List di}(I:Sh.aFx x0 x1=some out)(H:au w0 (Lr)):Calls Tryz.prog 319 #[.int .u64 x0,.int .u64 x1] w0 (fZ fun v w'=>v = .int .u64 out∧au w' (Lr)):=by
 unfold Sh.aFx at I
 refine ce Tryz.func319 Tryz.ntmps319 fun a G=>?_
 refine go 9 fun a w G H=>?_
 obtain⟨qg,I⟩:=bH I
 refine aA G (sF G E E E (aaX qg)) E E E fun a G=>?_
 exact lf
theorem uI{x0 x1 out:Int}{w0:World}{Lr:List di}(I:Sh.aFz x0 x1=some out)(H:au w0 (Lr)):Calls Tryz.prog 320 #[.int .u64 x0,.int .u64 x1] w0 (fZ fun v w'=>v = .int .u64 out∧au w' (Lr)):=by
 unfold Sh.aFz at I
 refine ce Tryz.func320 Tryz.ntmps320 fun a G=>?_
 refine go 9 fun a w G H=>?_
 obtain⟨qg,I⟩:=bH I
 refine aA G (nU G E E E (aaX qg)) E E E fun a G=>?_
 exact lf
theorem sT{x0 x1 out:Int}{w0:World}{Lr:List di}(I:Sh.aDs x0 x1=some out)(H:au w0 (Lr)):Calls Tryz.prog 321 #[.int .u64 x0,.int .u64 x1] w0 (fZ fun v w'=>v = .int .u64 out∧au w' (Lr)):=by
 unfold Sh.aDs at I
 refine ce Tryz.func321 Tryz.ntmps321 fun a G=>?_
 refine go 11 fun a w G H=>?_
 obtain⟨qg,I⟩:=bH I
 refine aA G (sF G E E E (aaX qg)) E E E fun a G=>?_
 exact lf
theorem sU{x0 x1 out:Int}{w0:World}{Lr:List di}(I:Sh.aDt x0 x1=some out)(H:au w0 (Lr)):Calls Tryz.prog 322 #[.int .u64 x0,.int .u64 x1] w0 (fZ fun v w'=>v = .int .u64 out∧au w' (Lr)):=by
 unfold Sh.aDt at I
 refine ce Tryz.func322 Tryz.ntmps322 fun a G=>?_
 refine go 11 fun a w G H=>?_
 obtain⟨qg,I⟩:=bH I
 refine aA G (nU G E E E (aaX qg)) E E E fun a G=>?_
 exact lf
theorem vP{x0 x1 out:Int}{w0:World}{Lr:List di}(I:Sh.He x0 x1=some out)(H:au w0 (Lr)):Calls Tryz.prog 323 #[.int .u64 x0,.int .u64 x1] w0 (fZ fun v w'=>v = .int .u64 out∧au w' (Lr)):=by
 unfold Sh.He at I
 refine ce Tryz.func323 Tryz.ntmps323 fun a G=>?_
 refine go 9 fun a w G H=>?_
 refine aA G (zS G E E E) E E E fun a G=>?_
 exact lf
theorem uF{x0 x1 out:Int}{w0:World}{Lr:List di}(I:Sh.aFw x0 x1=some out)(H:au w0 (Lr)):Calls Tryz.prog 324 #[.int .u64 x0,.int .u64 x1] w0 (fZ fun v w'=>v = .int .u64 out∧au w' (Lr)):=by
 unfold Sh.aFw at I
 refine ce Tryz.func324 Tryz.ntmps324 fun a G=>?_
 exact lf
theorem uO{x0 x1 out:Int}{w0:World}{Lr:List di}(I:Sh.FT x0 x1=some out)(H:au w0 (Lr)):Calls Tryz.prog 325 #[.int .u64 x0,.int .u64 x1] w0 (fZ fun v w'=>v = .int .u64 out∧au w' (Lr)):=by
 unfold Sh.FT at I
 refine ce Tryz.func325 Tryz.ntmps325 fun a G=>?_
 refine go 9 fun a w G H=>?_
 refine aA G (Cd G E E E) E E E fun a G=>?_
 exact lf
theorem uH{x0 x1 out:Int}{w0:World}{Lr:List di}(I:Sh.F4 x0 x1=some out)(H:au w0 (Lr)):Calls Tryz.prog 326 #[.int .u64 x0,.int .u64 x1] w0 (fZ fun v w'=>v = .int .u64 out∧au w' (Lr)):=by
 unfold Sh.F4 at I
 refine ce Tryz.func326 Tryz.ntmps326 fun a G=>?_
 refine go 10 fun a w G H=>?_
 obtain⟨qg,I⟩:=bH I
 refine aA G (nV G E E E (aaX qg)) E E E fun a G=>?_
 exact lf
theorem uM{x0 x1 out:Int}{w0:World}{Lr:List di}(I:Sh.aF3 x0 x1=some out)(H:au w0 (Lr)):Calls Tryz.prog 327 #[.int .u64 x0,.int .u64 x1] w0 (fZ fun v w'=>v = .int .u64 out∧au w' (Lr)):=by
 unfold Sh.aF3 at I
 refine ce Tryz.func327 Tryz.ntmps327 fun a G=>?_
 refine go 10 fun a w G H=>?_
 obtain⟨qg,I⟩:=bH I
 refine aA G (iW G E E E (aaX qg)) E E E fun a G=>?_
 exact lf
theorem sS{x0 x1 out:Int}{w0:World}{Lr:List di}(I:Sh.aDr x0 x1=some out)(H:au w0 (Lr)):Calls Tryz.prog 328 #[.int .u64 x0,.int .u64 x1] w0 (fZ fun v w'=>v = .int .u64 out∧au w' (Lr)):=by
 unfold Sh.aDr at I
 refine ce Tryz.func328 Tryz.ntmps328 fun a G=>?_
 refine go 11 fun a w G H=>?_
 obtain⟨qg,I⟩:=bH I
 refine aA G (iW G E E E (aaX qg)) E E E fun a G=>?_
 exact lf
theorem uL{x0 x1 out:Int}{w0:World}{Lr:List di}(I:Sh.aF2 x0 x1=some out)(H:au w0 (Lr)):Calls Tryz.prog 329 #[.int .u64 x0,.int .u64 x1] w0 (fZ fun v w'=>v = .int .u64 out∧au w' (Lr)):=by
 unfold Sh.aF2 at I
 refine ce Tryz.func329 Tryz.ntmps329 fun a G=>?_
 refine go 8 fun a w G H=>?_
 refine aA G (Qi G E E) E E E fun a G=>?_
 exact lf
theorem uJ{x0 x1 out:Int}{w0:World}{Lr:List di}(I:Sh.G7 x0 x1=some out)(H:au w0 (Lr)):Calls Tryz.prog 330 #[.int .u64 x0,.int .u64 x1] w0 (fZ fun v w'=>v = .int .u64 out∧au w' (Lr)):=by
 unfold Sh.G7 at I
 refine ce Tryz.func330 Tryz.ntmps330 fun a G=>?_
 exact lf
theorem rG{x0 x1 out:Int}{w0:World}{Lr:List di}(I:Sh.GY x0 x1=some out)(H:au w0 (Lr)):Calls Tryz.prog 331 #[.int .u64 x0,.int .u64 x1] w0 (fZ fun v w'=>v = .int .u64 out∧au w' (Lr)):=by
 unfold Sh.GY at I
 refine ce Tryz.func331 Tryz.ntmps331 fun a G=>?_
 refine go 8 fun a w G H=>?_
 obtain⟨y7,IJ,I⟩:=ade I
 refine cl qt (eB IJ H ) ?_
 rintro v w ⟨rfl,H⟩ a G
 refine go 1 fun a w G H=>?_
 obtain⟨y9,IK,I⟩:=ade I
 refine cl qt (eB IK H ) ?_
 rintro v w ⟨rfl,H⟩ a G
 obtain⟨AP,I⟩:=bH I
 refine aA G (sF G E E E (aaX AP)) E E E fun a G=>?_
 exact lf
theorem rI{x0 x1 out:Int}{w0:World}{Lr:List di}(I:Sh.aB3 x0 x1=some out)(H:au w0 (Lr)):Calls Tryz.prog 332 #[.int .u64 x0,.int .u64 x1] w0 (fZ fun v w'=>v = .int .u64 out∧au w' (Lr)):=by
 unfold Sh.aB3 at I
 refine ce Tryz.func332 Tryz.ntmps332 fun a G=>?_
 refine go 8 fun a w G H=>?_
 obtain⟨y7,IJ,I⟩:=ade I
 refine cl qt (eB IJ H ) ?_
 rintro v w ⟨rfl,H⟩ a G
 refine go 1 fun a w G H=>?_
 obtain⟨y9,IK,I⟩:=ade I
 refine cl qt (eB IK H ) ?_
 rintro v w ⟨rfl,H⟩ a G
 obtain⟨AP,I⟩:=bH I
 refine aA G (nU G E E E (aaX AP)) E E E fun a G=>?_
 exact lf
theorem rA{x0 x1 out:Int}{w0:World}{Lr:List di}(I:Sh.zV x0 x1=some out)(H:au w0 (Lr)):Calls Tryz.prog 333 #[.int .u64 x0,.int .u64 x1] w0 (fZ fun v w'=>v = .int .u64 out∧au w' (Lr)):=by
 unfold Sh.zV at I
 refine ce Tryz.func333 Tryz.ntmps333 fun a G=>?_
 refine go 11 fun a w G H=>?_
 obtain⟨qg,I⟩:=bH I
 refine aA G (sF G E E E (aaX qg)) E E E fun a G=>?_
 exact lf
theorem rB{x0 x1 out:Int}{w0:World}{Lr:List di}(I:Sh.zW x0 x1=some out)(H:au w0 (Lr)):Calls Tryz.prog 334 #[.int .u64 x0,.int .u64 x1] w0 (fZ fun v w'=>v = .int .u64 out∧au w' (Lr)):=by
 unfold Sh.zW at I
 refine ce Tryz.func334 Tryz.ntmps334 fun a G=>?_
 refine go 11 fun a w G H=>?_
 obtain⟨qg,I⟩:=bH I
 refine aA G (nU G E E E (aaX qg)) E E E fun a G=>?_
 exact lf
theorem rH{x0 x1 out:Int}{w0:World}{Lr:List di}(I:Sh.aB2 x0 x1=some out)(H:au w0 (Lr)):Calls Tryz.prog 335 #[.int .u64 x0,.int .u64 x1] w0 (fZ fun v w'=>v = .int .u64 out∧au w' (Lr)):=by
 unfold Sh.aB2 at I
 refine ce Tryz.func335 Tryz.ntmps335 fun a G=>?_
 refine go 10 fun a w G H=>?_
 obtain⟨qg,I⟩:=bH I
 refine aA G (nV G E E E (aaX qg)) E E E fun a G=>?_
 exact lf
theorem rJ{x0 x1 out:Int}{w0:World}{Lr:List di}(I:Sh.aB4 x0 x1=some out)(H:au w0 (Lr)):Calls Tryz.prog 336 #[.int .u64 x0,.int .u64 x1] w0 (fZ fun v w'=>v = .int .u64 out∧au w' (Lr)):=by
 unfold Sh.aB4 at I
 refine ce Tryz.func336 Tryz.ntmps336 fun a G=>?_
 refine go 8 fun a w G H=>?_
 obtain⟨y5,Za,I⟩:=ade I
 refine cl qt (eB Za H ) ?_
 rintro v w ⟨rfl,H⟩ a G
 refine go 2 fun a w G H=>?_
 obtain⟨YD,I⟩:=bH I
 refine aA G (iW G E E E (aaX YD)) E E E fun a G=>?_
 exact lf
theorem qZ{x0 x1 out:Int}{w0:World}{Lr:List di}(I:Sh.zU x0 x1=some out)(H:au w0 (Lr)):Calls Tryz.prog 337 #[.int .u64 x0,.int .u64 x1] w0 (fZ fun v w'=>v = .int .u64 out∧au w' (Lr)):=by
 unfold Sh.zU at I
 refine ce Tryz.func337 Tryz.ntmps337 fun a G=>?_
 refine go 11 fun a w G H=>?_
 obtain⟨qg,I⟩:=bH I
 refine aA G (iW G E E E (aaX qg)) E E E fun a G=>?_
 exact lf
theorem lT{x0 out:Int}{w0:World}{Lr:List di}(I:Sh.oD x0=some out)(H:au w0 (Lr)):Calls Tryz.prog 291 #[.int .u16 x0] w0 (fZ fun v w'=>v = .int .u16 out∧au w' (Lr)):=by
 unfold Sh.oD at I
 refine ce Tryz.func291 Tryz.ntmps291 fun a G=>?_
 refine go 8 fun a w G H=>?_
 refine aA G (iW G E E E (by decide)) E E E fun a G=>?_
 refine go 1 fun a w G H=>?_
 refine aA G (nV G E E E (by decide)) E E E fun a G=>?_
 refine aA G (zS G E E E) E E E fun a G=>?_
 exact lf
theorem lU{x0 out:Int}{w0:World}{Lr:List di}(I:Sh.oE x0=some out)(H:au w0 (Lr)):Calls Tryz.prog 292 #[.int .u32 x0] w0 (fZ fun v w'=>v = .int .u32 out∧au w' (Lr)):=by
 unfold Sh.oE at I
 refine ce Tryz.func292 Tryz.ntmps292 fun a G=>?_
 refine go 8 fun a w G H=>?_
 refine aA G (iW G E E E (by decide)) E E E fun a G=>?_
 refine go 3 fun a w G H=>?_
 refine aA G (nV G E E E (by decide)) E E E fun a G=>?_
 refine aA G (zS G E E E) E E E fun a G=>?_
 refine go 6 fun a w G H=>?_
 refine aA G (iW G E E E (by decide)) E E E fun a G=>?_
 refine go 1 fun a w G H=>?_
 refine aA G (nV G E E E (by decide)) E E E fun a G=>?_
 refine aA G (zS G E E E) E E E fun a G=>?_
 exact lf
theorem lV{x0 out:Int}{w0:World}{Lr:List di}(I:Sh.oF x0=some out)(H:au w0 (Lr)):Calls Tryz.prog 293 #[.int .u64 x0] w0 (fZ fun v w'=>v = .int .u64 out∧au w' (Lr)):=by
 unfold Sh.oF at I
 refine ce Tryz.func293 Tryz.ntmps293 fun a G=>?_
 refine go 8 fun a w G H=>?_
 refine aA G (iW G E E E (by decide)) E E E fun a G=>?_
 refine go 3 fun a w G H=>?_
 refine aA G (nV G E E E (by decide)) E E E fun a G=>?_
 refine aA G (zS G E E E) E E E fun a G=>?_
 refine go 6 fun a w G H=>?_
 refine aA G (iW G E E E (by decide)) E E E fun a G=>?_
 refine go 3 fun a w G H=>?_
 refine aA G (nV G E E E (by decide)) E E E fun a G=>?_
 refine aA G (zS G E E E) E E E fun a G=>?_
 refine go 6 fun a w G H=>?_
 refine aA G (iW G E E E (by decide)) E E E fun a G=>?_
 refine go 1 fun a w G H=>?_
 refine aA G (nV G E E E (by decide)) E E E fun a G=>?_
 refine aA G (zS G E E E) E E E fun a G=>?_
 exact lf
theorem vQ{x0:Int}{out:Bool}{w0:World}{Lr:List di}(I:Sh.wK x0=some out)(H:au w0 (Lr)):Calls Tryz.prog 287 #[.int .i64 x0] w0 (fZ fun v w'=>v = .bool out∧au w' (Lr)):=by
 unfold Sh.wK at I
 refine ce Tryz.func287 Tryz.ntmps287 fun a G=>?_
 refine go 6 fun a w G H=>?_
 refine jn G H I [] (fun v7 u=>(2,.bool v7)::u) (fun c1 I c0 G H=>?_) fun v7 a w I G H=>?_
 ·exact lf
 replace I:Sh.vZ v7=_:=I
 unfold Sh.vZ at I
 exact lf
theorem xE{x0:Int}{x1:Bool}{x2 out:Int}{w0:World}{Lr:List di}(I:Sh.aD1 x0 x1 x2=some out)(H:au w0 (Lr)):Calls Tryz.prog 240 #[.int .i64 x0,.bool x1,.int .i64 x2] w0 (fZ fun v w'=>v = .int .i64 out∧au w' (Lr)):=by
 unfold Sh.aD1 at I
 refine ce Tryz.func240 Tryz.ntmps240 fun a G=>?_
 refine go 11 fun a w G H=>?_
 refine jn G H I [1,6] (fun v39 u=>(7,.int .i64 v39)::u) (fun c2 I c0 G H=>?_) fun v39 a w I G H=>?_
 ·refine go 8 fun a w G H=>?_
  refine cc I (fun EE I=>?_) fun EE I=>?_
  ·exact lf
  refine go 7 fun a w G H=>?_
  refine cc I (fun CL I=>?_) fun CL I=>?_
  ·exact lf
  refine aH ?_
  refine jn G H I [1,2,6,7] (fun v44 u=>(20,.bool v44)::u) (fun c3 I c1 G H=>?_) fun v44 a w I G H=>?_
  ·exact lf
  replace I:Sh.aDp x2 v44=_:=I
  unfold Sh.aDp at I
  exact lf
 replace I:Sh.FQ x1 v39=_:=I
 unfold Sh.FQ at I
 exact lf
theorem zW{x0:Int}{x1:Bool}{x2 out:Int}{w0:World}{Lr:List di}(I:Sh.Eo x0 x1 x2=some out)(H:au w0 (Lr)):Calls Tryz.prog 241 #[.int .i64 x0,.bool x1,.int .i64 x2] w0 (fZ fun v w'=>v = .int .i64 out∧au w' (Lr)):=by
 unfold Sh.Eo at I
 refine ce Tryz.func241 Tryz.ntmps241 fun a G=>?_
 refine go 15 fun a w G H=>?_
 refine jn G H I [0,1,2,6,7] (fun v75 u=>(10,.bool v75)::u) (fun c3 I c0 G H=>?_) fun v75 a w I G H=>?_
 ·exact lf
 replace I:Sh.F7 x0 x1 x2 v75=_:=I
 unfold Sh.F7 at I
 refine aB ?_
 refine cc I (fun Md I=>?_) fun Md I=>?_
 ·refine go 4 fun a w G H=>?_
  obtain⟨Si,NA,I⟩:=ade I
  refine cl Tryz.call291 (lT NA H ) ?_
  rintro v w ⟨rfl,H⟩ a G
  exact lf
 refine go 7 fun a w G H=>?_
 refine cc I (fun Me I=>?_) fun Me I=>?_
 ·exact lf
 refine aH ?_
 refine jn G H I [0,1,2,6,7] (fun v83 u=>(26,.bool v83)::u) (fun c4 I c1 G H=>?_) fun v83 a w I G H=>?_
 ·exact lf
 replace I:Sh.aHc x0 x1 x2 v83=_:=I
 unfold Sh.aHc at I
 refine aB ?_
 refine cc I (fun MA I=>?_) fun MA I=>?_
 ·refine go 4 fun a w G H=>?_
  obtain⟨JR,E0,I⟩:=ade I
  refine cl Tryz.call292 (lU E0 H ) ?_
  rintro v w ⟨rfl,H⟩ a G
  exact lf
 refine go 7 fun a w G H=>?_
 refine cc I (fun MC I=>?_) fun MC I=>?_
 ·exact lf
 refine aH ?_
 refine jn G H I [0,2,6,7] (fun v91 u=>(42,.bool v91)::u) (fun c5 I c2 G H=>?_) fun v91 a w I G H=>?_
 ·exact lf
 replace I:Sh.aHd x0 x2 v91=_:=I
 unfold Sh.aHd at I
 refine aB ?_
 refine cc I (fun MD I=>?_) fun MD I=>?_
 ·refine go 3 fun a w G H=>?_
  obtain⟨Sr,ND,I⟩:=ade I
  refine cl Tryz.call293 (lV ND H ) ?_
  rintro v w ⟨rfl,H⟩ a G
  exact lf
 exact lf
theorem iA{x0:f_}{x1 x2 out:Bool}{w0:World}{Lr:List di}(I:Sh.kN x0 x1 x2=some out)(H:au w0 (Lr)):Calls Tryz.prog 298 #[.agg (f_.enc x0).toArray,.bool x1,.bool x2] w0 (fZ fun v w'=>v = .bool out∧au w' (Lr)):=by
 unfold Sh.kN at I
 refine ce Tryz.func298 Tryz.ntmps298 fun a G=>?_
 refine go 9 fun c0 a w G H=>?_
 refine jn G H I [1,3,6] (fun v21 u=>(7,.bool v21)::u) (fun c2 I c1 G H=>?_) fun v21 a w I G H=>?_
 ·exact lf
 replace I:Sh.nB x0 x1 v21=_:=I
 unfold Sh.nB at I
 exact lf
theorem iN{x0:fR}{x1 x2 out:Bool}{w0:World}{Lr:List di}(I:Sh.lC x0 x1 x2=some out)(H:au w0 (Lr)):Calls Tryz.prog 299 #[.agg (fR.enc x0).toArray,.bool x1,.bool x2] w0 (fZ fun v w'=>v = .bool out∧au w' (Lr)):=by
 unfold Sh.lC at I
 refine ce Tryz.func299 Tryz.ntmps299 fun a G=>?_
 refine go 9 fun c0 a w G H=>?_
 refine jn G H I [1,3,6] (fun v21 u=>(7,.bool v21)::u) (fun c2 I c1 G H=>?_) fun v21 a w I G H=>?_
 ·exact lf
 replace I:Sh.nO x0 x1 v21=_:=I
 unfold Sh.nO at I
 exact lf
theorem SJ{x0:List UInt8}{x1:Bool}{s1:SV}{out:Int}{w0:World}{Bf:World→Prop}{Lr:List di}(I:Sh.Dl x0 x1=some out)(H:au w0 (Lr))(S:∀ w,au w Lr→Bf w)(f2:dj Bf s1 x0):Calls Tryz.prog 295 #[(s1).v,.bool x1] w0 (fZ fun v w'=>v = .int .i64 out∧au w' (Lr)):=by
 unfold Sh.Dl at I
 refine ce Tryz.func295 Tryz.ntmps295 fun a G=>?_
 refine go 7 fun a w G H=>?_
 refine jn G H I [0,1,4] (fun v93 u=>(16,.bool v93)::u) (fun d2 I c9 G H=>?_) fun v93 a w I G H=>?_
 ·exact lf
 replace I:Sh.FP x0 x1 v93=_:=I
 unfold Sh.FP at I
 refine aB ?_
 refine cc I (fun ME I=>?_) fun ME I=>?_
 ·exact lf
 refine go 8 fun a w G H=>?_
 refine jn G H I [0,1,4] (fun c1 u=>(5,.int .u64 c1)::u) (fun d3 I d0 G H=>?_) fun c1 a w I G H=>?_
 ·refine go 8 fun a w G H=>?_
  refine aY G H I (fun F x a w=>match x with|(c2,c0)=>Fr 45 [(19,.int .i64 c2),(5,.int .u64 c0),(0,(s1).v),(1,.bool x1),(17,(s1).v),(18,.int .i64 (x0.length:Int)),(4,.int .i64 0)] a∧au w (Lr)) (fun G H=>⟨G.to ⟨E,E,E,E,E,E,E,trivial⟩,H⟩) ?_
  rintro⟨c2,c0⟩ a w d4 I c3 ⟨G,H⟩
  replace I:Sh.yE x0 c2 c0=_:=I
  unfold Sh.yE at I
  refine go 6 fun a w G H=>?_
  refine cc I (fun c4 I=>?_) fun c4 I=>?_
  ·obtain⟨d5,d1,I⟩:=ade I
   refine go 16 fun a w G H=>?_
   refine aA G (tK KH Tryz.underlying233 E G E E) E E E fun a G=>?_
   refine go 2 fun a w G H=>?_
   obtain⟨c6,I⟩:=bH I
   refine aA G (nV G E E E (aaX c6)) E E E fun a G=>?_
   refine aA G (zS G E E E) E E E fun a G=>?_
   exact lf
  refine go 5 fun a w G H=>?_
  obtain rfl:=oI I
  have I:=c3 _ rfl
  subst I
  exact⟨c0,E,G.to ⟨E,E,E,E,trivial⟩,H⟩
 replace I:Sh.D_ x0 x1 c1=_:=I
 unfold Sh.D_ at I
 refine go 16 fun a w G H=>?_
 refine cc I (fun c5 I=>?_) fun c5 I=>?_
 ·refine go 4 fun a w G H=>?_
  obtain⟨c7,I⟩:=bH I
  refine aA G (nV G E E E (aaX c7)) E E E fun a G=>?_
  refine go 2 fun a w G H=>?_
  obtain⟨c8,I⟩:=bH I
  refine aA G (iW G E E E (aaX c8)) E E E fun a G=>?_
  exact lf
 exact lf
theorem sR{x0 x1:Int}{out:List UInt8}{w0:World}{Lr:List di}(I:Sh.Di x0 x1=some out)(H:au w0 (Lr)):Calls Tryz.prog 247 #[.int .i64 x0,.int .i64 x1] w0 (fZ fun v w'=>∃ (c8:SV),v=(c8).v∧au w' (ak 0 c8 5 out::Lr)):=by
 unfold Sh.Di at I
 refine ce Tryz.func247 Tryz.ntmps247 fun a G=>?_
 refine go 7 fun a w G H=>?_
 refine jn G H I [0,1,4] (fun c6 u=>(12,.bool c6)::u) (fun g0 I d8 G H=>?_) fun c6 a w I G H=>?_
 ·exact lf
 replace I:Sh.yF x0 x1 c6=_:=I
 unfold Sh.yF at I
 refine aB ?_
 refine cc I (fun d3 I=>?_) fun d3 I=>?_
 ·refine go 6 fun a w G H=>?_
  have H:=H.rowNil (X:=UInt8) 0 5
  obtain rfl:=oI I
  refine aT Tryz.results247 G E ?_
  exact⟨SV.nil,E,H⟩
 refine go 5 fun a w G H=>?_
 obtain⟨d0,d6,I⟩:=ade I
 refine aN G E E E (K6 d6 kg r7 E E E G E E E fun c5 w c4=>?_)
 have H:=H.plus c4
 try dsimp only[List.set]at H
 intro a G
 refine go 4 fun a w G H=>?_
 refine aM G H I (fun F x a w=>match x with|c9=>∃ (c1:SV),Fr 30 [(5,(c1).v),(4,(SV.nil).v)] a∧au w (ak 0 c1 5 c9::Lr)) (fun g1 I d9 G H=>?_) ?_
 ·refine go 8 fun a w G H=>?_
  refine aY G H I (fun F x a w=>match x with|(c2,c3)=>∃ (c0:SV),Fr 30 [(17,.int .i64 c2),(5,(c0).v),(1,.int .i64 x1),(16,.int .i64 (d0.length:Int)),(4,(SV.nil).v)] a∧au w (ak 0 c0 5 c3::Lr)) (fun G H=>⟨c5,G.to ⟨E,E,E,E,E,trivial⟩,H⟩) ?_
  rintro⟨c2,c3⟩ a w g2 I d1 ⟨c0,G,H⟩
  replace I:Sh.yG x1 d0 c2 c3=_:=I
  unfold Sh.yG at I
  refine go 6 fun a w G H=>?_
  refine cc I (fun d4 I=>?_) fun d4 I=>?_
  ·refine go 16 fun a w G H=>?_
   obtain⟨d5,I⟩:=bH I
   refine aA G (iW G E E E (aaX d5)) E E E fun a G=>?_
   refine aA G (fK qh KH G E E) E E E fun a G=>?_
   obtain⟨g3,d7,I⟩:=ade I
   have c7:=aL d7
   refine go 1 fun a w G H=>?_
   refine bE E E (dE (d:=0) (q:=(Fw.byteOf (shr .i64 x1 ((IntKind.i64.wrap (8*c2))).toNat))) KG (H.own (X:=UInt8) (i:=0) E) c7.2 G E E E E E (by decide) E fun w d2=>?_)
   have H:=H.chg d2 (i:=0) rfl
   try dsimp only[List.set]at H
   refine go 8 fun a w G H=>?_
   exact jr I ⟨c0,G.t,H⟩
  refine go 5 fun a w G H=>?_
  obtain rfl:=oI I
  have I:=d1 _ rfl
  subst I
  exact⟨c3,E,c0,G.to ⟨E,E,trivial⟩,H⟩
 rintro c9 a w I ⟨c1,G,H⟩
 unfold Sh.aJu at I
 refine go 8 fun a w G H=>?_
 obtain rfl:=oI I
 refine aT Tryz.results247 G E ?_
 exact⟨c1,E,H⟩
end Go.Proofs
end
section
namespace Go.Proofs
open Go.Fw Go.Fx
set_option maxRecDepth 10000
theorem dL{x0:Int}{out:aj}{w0:World}{Lr:List di}(I:Sh.cZ x0=some out)(H:au w0 (Lr)):Calls Tryz.prog 145 #[.int .i64 x0] w0 (fZ fun v w'=>v = .agg (aj.enc out).toArray∧au w' (Lr)):=by
 unfold Sh.cZ at I
 refine ce Tryz.func145 Tryz.ntmps145 fun a G=>?_
 refine go 8 fun c0 a w G H=>?_
 refine aA G (aW z46 BD Bo G (parts:=[(0,.const (.int .i64 (1))),(3,.tmp 3)]) E E (aP E E (by rw[aj.len];decide) (aj.s_kind _ _) (aP E E (by rw[aj.len];decide) (aj.s_x _ _) bD))) E E E fun a G=>?_
 refine go 4 fun a w G H=>?_
 obtain rfl:=oI I
 refine er Tryz.results145 G H ?_
 exact⟨E,bS H [] 1 E⟩
theorem dC{x0:aj}{out:Bool}{w0:World}{Lr:List di}(I:Sh.cI x0=some out)(H:au w0 (Lr)):Calls Tryz.prog 237 #[.agg (aj.enc x0).toArray] w0 (fZ fun v w'=>v = .bool out∧au w' (Lr)):=by
 unfold Sh.cI at I
 refine ce Tryz.func237 Tryz.ntmps237 fun a G=>?_
 exact lf
theorem eO{x0:aj}{out:Bool}{w0:World}{Lr:List di}(I:Sh.hS x0=some out)(H:au w0 (Lr)):Calls Tryz.prog 242 #[.agg (aj.enc x0).toArray] w0 (fZ fun v w'=>v = .bool out∧au w' (Lr)):=by
 unfold Sh.hS at I
 refine ce Tryz.func242 Tryz.ntmps242 fun a G=>?_
 exact lf
theorem pD{x0 x1:aj}{out:Bool}{w0:World}{Lr:List di}(I:Sh.wS x0 x1=some out)(H:au w0 (Lr)):Calls Tryz.prog 250 #[.agg (aj.enc x0).toArray,.agg (aj.enc x1).toArray] w0 (fZ fun v w'=>v = .bool out∧au w' (Lr)):=by
 unfold Sh.wS at I
 refine ce Tryz.func250 Tryz.ntmps250 fun a G=>?_
 refine go 8 fun c0 c1 a w G H=>?_
 refine jm (Lr) G H I [] (fun v12 u=>(4,.bool v12)::u) (fun c3 I c2 G H=>?_) fun v12 a w I G H=>?_
 ·exact lf
 replace I:Sh.G5 v12=_:=I
 unfold Sh.G5 at I
 exact lf
theorem lS{x0:aj}{x1:Int}{out:(aj×Int)}{w0:World}{Lr:List di}(I:Sh.tI x0 x1=some out)(H:au w0 (Lr)):Calls Tryz.prog 290 #[.agg (aj.enc x0).toArray,.int .i64 x1] w0 (fZ fun v w'=>v = .tuple #[.agg (aj.enc out.1).toArray,.int .i64 out.2]∧au w' (Lr)):=by
 unfold Sh.tI at I
 refine ce Tryz.func290 Tryz.ntmps290 fun a G=>?_
 refine go 9 fun c0 c1 a w G H=>?_
 refine jn G H I [1,2,4,5] (fun v45 u=>(25,.bool v45)::u) (fun c3 I c2 G H=>?_) fun v45 a w I G H=>?_
 ·exact lf
 replace I:Sh.yJ x0 x1 v45=_:=I
 unfold Sh.yJ at I
 refine aB ?_
 refine cc I (fun LZ I=>?_) fun LZ I=>?_
 ·refine go 8 fun a w G H=>?_
  obtain rfl:=oI I
  refine er Tryz.results290 G H ?_
  exact⟨E,bS H [] 2 E⟩
 refine go 20 fun a w G H=>?_
 obtain rfl:=oI I
 refine er Tryz.results290 G H ?_
 exact⟨E,bS H [] 2 E⟩
theorem SC{x0:Int}{x1 x2:aj}{out:(aj×Int)}{w0:World}{Lr:List di}(I:Sh.Ek x0 x1 x2=some out)(H:au w0 (Lr)):Calls Tryz.prog 239 #[.int .i64 x0,.agg (aj.enc x1).toArray,.agg (aj.enc x2).toArray] w0 (fZ fun v w'=>v = .tuple #[.agg (aj.enc out.1).toArray,.int .i64 out.2]∧au w' (Lr)):=by
 unfold Sh.Ek at I
 refine ce Tryz.func239 Tryz.ntmps239 fun a G=>?_
 refine go 11 fun i8 i9 j0 a w G H=>?_
 refine jn G H I [0,4,5,6,7] (fun c0 u=>(8,.bool c0)::u) (fun j5 I j1 G H=>?_) fun c0 a w I G H=>?_
 ·refine go 4 fun a w G H=>?_
  refine gs I (fun c4 I=>?_) fun c4 I=>?_
  ·refine go 1 fun a w G H=>?_
   obtain⟨j9,g7,I⟩:=ade I
   have d6:=eO g7 H 
   refine dD G E E E c4 E E (aS (xs:=[.tmp 12]) si G E E d6 fun v w hR=>?_)
   obtain⟨rfl,H⟩:=hR
   intro a G
   refine go 2 fun a w G H=>?_
   refine gs I (fun c5 I=>?_) fun c5 I=>?_
   ·refine go 1 fun a w G H=>?_
    obtain⟨k0,g8,I⟩:=ade I
    have d7:=dC g8 H 
    refine dD G E E E c5 E E (aS (xs:=[.tmp 16]) nW G E E d7 fun v w hR=>?_)
    obtain⟨rfl,H⟩:=hR
    intro a G
    exact lf
   exact lf
  exact lf
 replace I:Sh.Ep x0 x1 x2 c0=_:=I
 unfold Sh.Ep at I
 refine aB ?_
 refine cc I (fun d1 I=>?_) fun d1 I=>?_
 ·refine go 5 fun a w G H=>?_
  obtain⟨k1,g9,I⟩:=ade I
  have d8:=lS g9 H 
  refine cl Tryz.call290 d8 ?_
  rintro v w ⟨rfl,H⟩ a G
  refine go 7 fun a w G H=>?_
  obtain rfl:=oI I
  refine er vG G H ?_
  exact⟨E,bS H [] 3 E⟩
 refine aH ?_
 refine jn G H I [0,4,5,6,7] (fun c1 u=>(25,.bool c1)::u) (fun j6 I j2 G H=>?_) fun c1 a w I G H=>?_
 ·refine go 4 fun a w G H=>?_
  refine gs I (fun c6 I=>?_) fun c6 I=>?_
  ·refine go 1 fun a w G H=>?_
   obtain⟨k2,i0,I⟩:=ade I
   have d9:=dC i0 H 
   refine dD G E E E c6 E E (aS (xs:=[.tmp 29]) nW G E E d9 fun v w hR=>?_)
   obtain⟨rfl,H⟩:=hR
   intro a G
   refine go 2 fun a w G H=>?_
   refine gs I (fun c7 I=>?_) fun c7 I=>?_
   ·refine go 1 fun a w G H=>?_
    obtain⟨k3,i1,I⟩:=ade I
    have g0:=eO i1 H 
    refine dD G E E E c7 E E (aS (xs:=[.tmp 33]) si G E E g0 fun v w hR=>?_)
    obtain⟨rfl,H⟩:=hR
    intro a G
    exact lf
   exact lf
  exact lf
 replace I:Sh.Es x0 x1 x2 c1=_:=I
 unfold Sh.Es at I
 refine aB ?_
 refine cc I (fun d2 I=>?_) fun d2 I=>?_
 ·refine go 5 fun a w G H=>?_
  obtain⟨k4,i2,I⟩:=ade I
  have g1:=lS i2 H 
  refine cl Tryz.call290 g1 ?_
  rintro v w ⟨rfl,H⟩ a G
  refine go 7 fun a w G H=>?_
  obtain rfl:=oI I
  refine er vG G H ?_
  exact⟨E,bS H [] 3 E⟩
 refine aH ?_
 refine jn G H I [0,4,5,6,7] (fun c2 u=>(42,.bool c2)::u) (fun j7 I j3 G H=>?_) fun c2 a w I G H=>?_
 ·refine go 4 fun a w G H=>?_
  refine gs I (fun c8 I=>?_) fun c8 I=>?_
  ·refine go 1 fun a w G H=>?_
   obtain⟨k5,i3,I⟩:=ade I
   have g2:=eO i3 H 
   refine dD G E E E c8 E E (aS (xs:=[.tmp 46]) si G E E g2 fun v w hR=>?_)
   obtain⟨rfl,H⟩:=hR
   intro a G
   refine go 2 fun a w G H=>?_
   refine gs I (fun c9 I=>?_) fun c9 I=>?_
   ·refine go 1 fun a w G H=>?_
    obtain⟨k6,i4,I⟩:=ade I
    have g3:=dC i4 H 
    refine dD G E E E c9 E E (aS (xs:=[.tmp 50]) nW G E E g3 fun v w hR=>?_)
    obtain⟨rfl,H⟩:=hR
    intro a G
    exact lf
   exact lf
  exact lf
 replace I:Sh.aHq x0 x1 x2 c2=_:=I
 unfold Sh.aHq at I
 refine aB ?_
 refine cc I (fun d3 I=>?_) fun d3 I=>?_
 ·refine go 8 fun a w G H=>?_
  refine cc I (fun d4 I=>?_) fun d4 I=>?_
  ·refine go 8 fun a w G H=>?_
   obtain rfl:=oI I
   refine er vG G H ?_
   exact⟨E,bS H [] 3 E⟩
  refine go 7 fun a w G H=>?_
  refine aA G (Qi G E E) E E E fun a G=>?_
  obtain⟨k7,i5,I⟩:=ade I
  have g4:=lS i5 H 
  refine cl Tryz.call290 g4 ?_
  rintro v w ⟨rfl,H⟩ a G
  refine go 7 fun a w G H=>?_
  obtain rfl:=oI I
  refine er vG G H ?_
  exact⟨E,bS H [] 3 E⟩
 refine aH ?_
 refine jn G H I [4,5,6,7] (fun c3 u=>(64,.bool c3)::u) (fun j8 I j4 G H=>?_) fun c3 a w I G H=>?_
 ·refine go 4 fun a w G H=>?_
  refine gs I (fun d0 I=>?_) fun d0 I=>?_
  ·refine go 2 fun a w G H=>?_
   obtain⟨k8,i6,I⟩:=ade I
   have g5:=pD i6 H 
   refine dD G E E E d0 E E (aS (xs:=[.tmp 68,.tmp 69]) Tryz.call250 G E E g5 fun v w hR=>?_)
   obtain⟨rfl,H⟩:=hR
   intro a G
   exact lf
  exact lf
 replace I:Sh.aHr x1 x2 c3=_:=I
 unfold Sh.aHr at I
 refine aB ?_
 refine cc I (fun d5 I=>?_) fun d5 I=>?_
 ·refine go 7 fun a w G H=>?_
  obtain⟨k9,i7,I⟩:=ade I
  have g6:=dL i7 H 
  refine cl oy g6 ?_
  rintro v w ⟨rfl,H⟩ a G
  refine go 5 fun a w G H=>?_
  obtain rfl:=oI I
  refine er vG G H ?_
  exact⟨E,bS H [] 3 E⟩
 refine go 11 fun a w G H=>?_
 obtain rfl:=oI I
 refine er vG G H ?_
 exact⟨E,bS H [] 3 E⟩
theorem cH{x0:ai}{x1:bg}{s1 s3:SV}{cu:List SV}{s7 s9 eK e7:SV}{eN:Nat}{dm:SV}{b0:Nat}{out:aj}{w0:World}{Bf:World→Prop}{Lr:List di}(I:Sh.fO x0 x1=some out)(H:au w0 (pt b0 (af.enc (gB x0 s1 s3 s7 s9 eK e7 eN dm)) 203::ak 0 s1 5 x0.ae.cq::ak 0 s3 23 cu::(a_ cu x0.ae.ah)::ak 0 dm 3 x0.a7::Lr))(S:∀ w,au w Lr→Bf w)(q6:cn (dj (X:=UInt8) (a_ cu x0.ae.ah).holds') cu x0.ae.ah)(f8:dj Bf s7 x0.ae.data)(f10:dj Bf s9 x0.ae.sizes)(f12:dj Bf eK x0.code)(f14:dj Bf e7 x0.dq)(f16:jl Bf eN x0.da):Calls Tryz.prog 236 #[.pointer (some ⟨b0,0,none⟩),.agg (bg.enc x1).toArray] w0 (fZ fun v w'=>v = .agg (aj.enc out).toArray∧au w' (pt b0 (af.enc (gB x0 s1 s3 s7 s9 eK e7 eN dm)) 203::ak 0 s1 5 x0.ae.cq::ak 0 s3 23 cu::(a_ cu x0.ae.ah)::ak 0 dm 3 x0.a7::Lr)):=by
 unfold Sh.fO at I
 refine ce Tryz.func236 Tryz.ntmps236 fun a G=>?_
 refine go 13 fun c0 c1 a w G H=>?_
 refine cc I (fun LX I=>?_) fun LX I=>?_
 ·refine aH ?_
  refine dT H [0,1,2,3,4,5,6] 7 fun K=>?_
  obtain⟨RV,Y7,I⟩:=ade I
  refine eL [0,1,2,3,4,5,6,7] fun a G=>?_
  refine de fun w H=>?_
  refine go 2 fun a w G H=>?_
  obtain rfl:=oI I
  refine er Tryz.results236 G H ?_
  exact⟨E,bS H [2,3,4,5,6] 7 E⟩
 refine go 6 fun a w G H=>?_
 obtain⟨JQ,EY,I⟩:=ade I
 have EI:=dL EY H 
 refine cl oy EI ?_
 rintro v w ⟨rfl,H⟩ a G
 refine go 4 fun a w G H=>?_
 obtain rfl:=oI I
 refine er Tryz.results236 G H ?_
 exact⟨E,bS H [2,3,4,5,6] 7 E⟩
theorem iT{x0:ai}{x1:bg}{s1 s3:SV}{cu:List SV}{s7 s9 eK e7:SV}{eN:Nat}{dm:SV}{b0:Nat}{out:(Int×Int×ai)}{w0:World}{Bf:World→Prop}{Lr:List di}(I:Sh.eJ x0 x1=some out)(H:au w0 (pt b0 (af.enc (gB x0 s1 s3 s7 s9 eK e7 eN dm)) 203::ak 0 s1 5 x0.ae.cq::ak 0 s3 23 cu::(a_ cu x0.ae.ah)::ak 0 dm 3 x0.a7::Lr))(S:∀ w,au w Lr→Bf w)(q6:cn (dj (X:=UInt8) (a_ cu x0.ae.ah).holds') cu x0.ae.ah)(f8:dj Bf s7 x0.ae.data)(f10:dj Bf s9 x0.ae.sizes)(f12:dj Bf eK x0.code)(f14:dj Bf e7 x0.dq)(f16:jl Bf eN x0.da):Calls Tryz.prog 206 #[.pointer (some ⟨b0,0,none⟩),.agg (bg.enc x1).toArray] w0 (fZ fun v w'=>v = .tuple #[.int .i64 out.1,.int .i64 out.2.1]∧au w' (pt b0 (af.enc (af.mk (bq.mk x0.ae.bh s1 s3 s7 s9) eK e7 (some eN) out.2.2.a8 dm x0.at_ x0.steps x0.done)) 203::ak 0 s1 5 x0.ae.cq::ak 0 s3 23 cu::(a_ cu x0.ae.ah)::ak 0 dm 3 x0.a7::Lr)):=by
 unfold Sh.eJ at I
 refine ce Tryz.func206 Tryz.ntmps206 fun a G=>?_
 refine go 8 fun c0 a w G H=>?_
 refine dT H [0,1,2,3,4,5] 6 fun K=>?_
 refine eL [0,1,2,3,4,6,7] fun a G=>?_
 refine dx 5 fun w ep H=>?_
 obtain⟨C_,EZ,I⟩:=ade I
 have EJ:=dL EZ H 
 refine dl oy EJ ?_
 rintro v w ⟨rfl,H⟩
 refine ds [0,1,2,3,4,5] 6 fun a G=>?_
 obtain⟨ZJ,II,I⟩:=ade I
 refine eL [8] fun a G=>?_
 refine kn 9 fun w ep H=>?_
 refine(aU (vs:=_) iw (H.obj (i:=1) E) G E E E E (aj.len _) (aj.one _) (by have:=(bW II);rw[aj.len,af.len];omega) (af.pi_regs _ _ _ (by have:=(bW II);omega)) fun w LO=>?_)
 have H:=H.chg LO (i:=1) rfl
 try dsimp only[List.set]at H
 refine dh ?_
 refine de fun w H=>?_
 refine go 2 fun a w G H=>?_
 refine aM G H I (fun F x a w=>match x with|v55=>Fr 25 [(4,.int .i64 0),(5,.int .i64 0)] a∧au w (pt b0 (af.enc (af.mk (bq.mk x0.ae.bh s1 s3 s7 s9) eK e7 (some eN) v55 dm x0.at_ x0.steps x0.done)) 203::ak 0 s1 5 x0.ae.cq::ak 0 s3 23 cu::(a_ cu x0.ae.ah)::ak 0 dm 3 x0.a7::Lr)) (fun c2 I c1 G H=>?_) ?_
 ·refine go 7 fun a w G H=>?_
  refine cc I (fun L_ I=>?_) fun L_ I=>?_
  ·refine dT H [0,1,2,3,4,5] 6 fun K=>?_
   obtain⟨KN,CP,I⟩:=ade I
   refine eL [0,1,2,3,4,5,6] fun a G=>?_
   refine kn 7 fun w ep H=>?_
   refine(bQ E8 (H.obj (i:=1) E) G E E E E (by have:=(bW CP);rw[af.len];omega) (fT (af.ci_regs _ _ _ (aL CP).2) (aj.s_kind _ _) (af.pi_regs _ _ _ (by have:=(bW CP);omega)) (by have:=(bW CP);rw[af.len];omega) (by decide)) fun w LP=>?_)
   have H:=H.chg LP (i:=1) rfl
   try dsimp only[List.set]at H
   refine dh ?_
   refine de fun w H=>?_
   exact lf
  exact lf
 rintro v55 a w I ⟨G,H⟩
 unfold Sh.wD at I
 refine go 8 fun a w G H=>?_
 obtain rfl:=oI I
 refine er Tryz.results206 G H ?_
 exact⟨E,H⟩
theorem kI{x0:ai}{x1:bg}{s1 s3:SV}{cu:List SV}{s7 s9 eK e7:SV}{eN:Nat}{dm:SV}{b0:Nat}{out:(Int×Int)}{w0:World}{Bf:World→Prop}{Lr:List di}(I:Sh.jU x0 x1=some out)(H:au w0 (pt b0 (af.enc (gB x0 s1 s3 s7 s9 eK e7 eN dm)) 203::ak 0 s1 5 x0.ae.cq::ak 0 s3 23 cu::(a_ cu x0.ae.ah)::ak 0 dm 3 x0.a7::Lr))(S:∀ w,au w Lr→Bf w)(q6:cn (dj (X:=UInt8) (a_ cu x0.ae.ah).holds') cu x0.ae.ah)(f8:dj Bf s7 x0.ae.data)(f10:dj Bf s9 x0.ae.sizes)(f12:dj Bf eK x0.code)(f14:dj Bf e7 x0.dq)(f16:jl Bf eN x0.da):Calls Tryz.prog 210 #[.pointer (some ⟨b0,0,none⟩),.agg (bg.enc x1).toArray] w0 (fZ fun v w'=>v = .tuple #[.int .i64 out.1,.int .i64 out.2]∧au w' (pt b0 (af.enc (gB x0 s1 s3 s7 s9 eK e7 eN dm)) 203::ak 0 s1 5 x0.ae.cq::ak 0 s3 23 cu::(a_ cu x0.ae.ah)::ak 0 dm 3 x0.a7::Lr)):=by
 unfold Sh.jU at I
 refine ce Tryz.func210 Tryz.ntmps210 fun a G=>?_
 refine go 14 fun c0 a w G H=>?_
 refine cc I (fun LQ I=>?_) fun LQ I=>?_
 ·refine go 9 fun a w G H=>?_
  obtain rfl:=oI I
  refine er Tryz.results210 G H ?_
  exact⟨E,bS H [1,2,3,4,5] 6 E⟩
 refine go 11 fun a w G H=>?_
 obtain rfl:=oI I
 refine er Tryz.results210 G H ?_
 exact⟨E,bS H [1,2,3,4,5] 6 E⟩
theorem jU{x0:ai}{x1:bg}{s1 s3:SV}{cu:List SV}{s7 s9 eK e7:SV}{eN:Nat}{dm:SV}{b0:Nat}{out:(Int×Int×ai)}{w0:World}{Bf:World→Prop}{Lr:List di}(I:Sh.eP x0 x1=some out)(H:au w0 (pt b0 (af.enc (gB x0 s1 s3 s7 s9 eK e7 eN dm)) 203::ak 0 s1 5 x0.ae.cq::ak 0 s3 23 cu::(a_ cu x0.ae.ah)::ak 0 dm 3 x0.a7::Lr))(S:∀ w,au w Lr→Bf w)(q6:cn (dj (X:=UInt8) (a_ cu x0.ae.ah).holds') cu x0.ae.ah)(f8:dj Bf s7 x0.ae.data)(f10:dj Bf s9 x0.ae.sizes)(f12:dj Bf eK x0.code)(f14:dj Bf e7 x0.dq)(f16:jl Bf eN x0.da):Calls Tryz.prog 213 #[.pointer (some ⟨b0,0,none⟩),.agg (bg.enc x1).toArray] w0 (fZ fun v w'=>v = .tuple #[.int .i64 out.1,.int .i64 out.2.1]∧au w' (pt b0 (af.enc (af.mk (bq.mk x0.ae.bh s1 s3 s7 s9) eK e7 (some eN) x0.a8 dm x0.at_ x0.steps out.2.2.done)) 203::ak 0 s1 5 x0.ae.cq::ak 0 s3 23 cu::(a_ cu x0.ae.ah)::ak 0 dm 3 x0.a7::Lr)):=by
 unfold Sh.eP at I
 refine ce Tryz.func213 Tryz.ntmps213 fun a G=>?_
 obtain⟨RU,Y6,I⟩:=ade I
 refine go 15 fun c0 a w G H=>?_
 obtain⟨Gx,EX,I⟩:=ade I
 have EH:=dC EX H 
 refine cl nW EH ?_
 rintro v w ⟨rfl,H⟩ a G
 refine go 3 fun a w G H=>?_
 refine cc I (fun LY I=>?_) fun LY I=>?_
 ·refine go 7 fun a w G H=>?_
  obtain rfl:=oI I
  refine er Tryz.results213 G H ?_
  exact⟨E,bS H [1,2,3,4,5] 6 E⟩
 refine go 17 fun a w G H=>?_
 obtain rfl:=oI I
 refine er Tryz.results213 G H ?_
 exact⟨E,bS H [1,2,3,4,5] 6 E⟩
theorem kK{x0:ai}{x1:bg}{s1 s3:SV}{cu:List SV}{s7 s9 eK e7:SV}{eN:Nat}{dm:SV}{b0:Nat}{out:(Int×Int×ai)}{w0:World}{Bf:World→Prop}{Lr:List di}(I:Sh.jW x0 x1=some out)(H:au w0 (pt b0 (af.enc (gB x0 s1 s3 s7 s9 eK e7 eN dm)) 203::ak 0 s1 5 x0.ae.cq::ak 0 s3 23 cu::(a_ cu x0.ae.ah)::ak 0 dm 3 x0.a7::Lr))(S:∀ w,au w Lr→Bf w)(q6:cn (dj (X:=UInt8) (a_ cu x0.ae.ah).holds') cu x0.ae.ah)(f8:dj Bf s7 x0.ae.data)(f10:dj Bf s9 x0.ae.sizes)(f12:dj Bf eK x0.code)(f14:dj Bf e7 x0.dq)(f16:jl Bf eN x0.da):Calls Tryz.prog 205 #[.pointer (some ⟨b0,0,none⟩),.agg (bg.enc x1).toArray] w0 (fZ fun v w'=>v = .tuple #[.int .i64 out.1,.int .i64 out.2.1]∧au w' (pt b0 (af.enc (af.mk (bq.mk x0.ae.bh s1 s3 s7 s9) eK e7 (some eN) out.2.2.a8 dm x0.at_ x0.steps x0.done)) 203::ak 0 s1 5 x0.ae.cq::ak 0 s3 23 cu::(a_ cu x0.ae.ah)::ak 0 dm 3 x0.a7::Lr)):=by
 unfold Sh.jW at I
 refine ce Tryz.func205 Tryz.ntmps205 fun a G=>?_
 refine go 8 fun c0 a w G H=>?_
 refine dT H [0,1,2,3,4,5] 6 fun K=>?_
 obtain⟨R1,Y9,I⟩:=ade I
 refine eL [0,1,2,3,4,5,6,7,8] fun c1 a G=>?_
 refine de fun w H=>?_
 refine go 2 fun a w G H=>?_
 refine aM G H I (fun F x a w=>match x with|c4=>Fr 61 [(0,.pointer (some ⟨b0,0,none⟩)),(3,.pointer (some ⟨c0,0,none⟩)),(4,.int .i64 0),(5,.int .i64 0),(6,.pointer (some ⟨c1,0,none⟩))] a∧au w (pt c1 (aj.enc c4) 46::pt c0 (bg.enc x1) 101::pt b0 (af.enc (gB x0 s1 s3 s7 s9 eK e7 eN dm)) 203::ak 0 s1 5 x0.ae.cq::ak 0 s3 23 cu::(a_ cu x0.ae.ah)::ak 0 dm 3 x0.a7::Lr)) (fun g4 I g2 G H=>?_) ?_
 ·refine go 7 fun a w G H=>?_
  refine cc I (fun c9 I=>?_) fun c9 I=>?_
  ·refine dT H [0,1,2,3,4,5,6] 7 fun K=>?_
   obtain⟨g6,g3,I⟩:=ade I
   refine eL [0,1,2,3,4,5,6,7] fun a G=>?_
   refine de fun w H=>?_
   exact lf
  exact lf
 rintro c4 a w I ⟨G,H⟩
 unfold Sh.aAr at I
 refine go 2 fun a w G H=>?_
 refine aM G H I (fun F x a w=>match x with|c5=>Fr 61 [(4,.int .i64 0),(5,.int .i64 0)] a∧au w (pt b0 (af.enc (af.mk (bq.mk x0.ae.bh s1 s3 s7 s9) eK e7 (some eN) c5 dm x0.at_ x0.steps x0.done)) 203::ak 0 s1 5 x0.ae.cq::ak 0 s3 23 cu::(a_ cu x0.ae.ah)::ak 0 dm 3 x0.a7::Lr)) (fun g5 I c6 G H=>?_) ?_
 ·refine go 4 fun a w G H=>?_
  obtain⟨g9,d7,I⟩:=ade I
  have d2:=dC d7 H 
  refine cl nW d2 ?_
  rintro v w ⟨rfl,H⟩ a G
  refine go 4 fun a w G H=>?_
  refine cc I (fun d0 I=>?_) fun d0 I=>?_
  ·refine go 7 fun a w G H=>?_
   obtain rfl:=oI I
   have I:=bA c6
   subst I
   refine er Tryz.results205 G H ?_
   exact⟨E,bS H [2,3,4,5,6] 7 E⟩
  refine go 8 fun a w G H=>?_
  refine cc I (fun d1 I=>?_) fun d1 I=>?_
  ·refine dT H [0,1,2,3,4,5,6] 7 fun K=>?_
   refine eL [0,1,2,3,4,5,6,7,8,11,12] fun a G=>?_
   refine dx 9 fun w ep H=>?_
   obtain⟨i0,d8,I⟩:=ade I
   have d3:=xE d8 H 
   refine dl Tryz.call240 d3 ?_
   rintro v w ⟨rfl,H⟩
   refine ds [0,1,2,3,4,5,6] 7 fun a G=>?_
   refine dx 10 fun w ep H=>?_
   obtain⟨i1,d9,I⟩:=ade I
   have d4:=dL d9 H 
   refine dl oy d4 ?_
   rintro v w ⟨rfl,H⟩
   refine ds [0,1,2,3,4,5,6] 7 fun a G=>?_
   obtain⟨g7,c2,I⟩:=ade I
   refine eL [13] fun a G=>?_
   refine kn 14 fun w ep H=>?_
   refine(aU (vs:=_) iw (H.obj (i:=2) E) G E E E E (aj.len _) (aj.one _) (by have:=(bW c2);rw[aj.len,af.len];omega) (af.pi_regs _ _ _ (by have:=(bW c2);omega)) fun w c7=>?_)
   have H:=H.chg c7 (i:=2) rfl
   try dsimp only[List.set]at H
   refine dh ?_
   refine de fun w H=>?_
   exact lf
  refine dT H [0,1,2,3,4,5,6] 7 fun K=>?_
  refine eL [0,1,2,3,4,5,6,7,8,9,12,13] fun a G=>?_
  refine dx 10 fun w ep H=>?_
  obtain⟨i2,g0,I⟩:=ade I
  have d5:=zW g0 H 
  refine dl Tryz.call241 d5 ?_
  rintro v w ⟨rfl,H⟩
  refine ds [0,1,2,3,4,5,6] 7 fun a G=>?_
  refine dx 11 fun w ep H=>?_
  obtain⟨i3,g1,I⟩:=ade I
  have d6:=dL g1 H 
  refine dl oy d6 ?_
  rintro v w ⟨rfl,H⟩
  refine ds [0,1,2,3,4,5,6] 7 fun a G=>?_
  obtain⟨g8,c3,I⟩:=ade I
  refine eL [14] fun a G=>?_
  refine kn 15 fun w ep H=>?_
  refine(aU (vs:=_) iw (H.obj (i:=2) E) G E E E E (aj.len _) (aj.one _) (by have:=(bW c3);rw[aj.len,af.len];omega) (af.pi_regs _ _ _ (by have:=(bW c3);omega)) fun w c8=>?_)
  have H:=H.chg c8 (i:=2) rfl
  try dsimp only[List.set]at H
  refine dh ?_
  refine de fun w H=>?_
  exact lf
 rintro c5 a w I ⟨G,H⟩
 unfold Sh.GX at I
 refine go 8 fun a w G H=>?_
 obtain rfl:=oI I
 refine er Tryz.results205 G H ?_
 exact⟨E,H⟩
theorem oR{x0:ai}{x1:aj}{s1 s3:SV}{cu:List SV}{s7 s9 eK e7:SV}{eN:Nat}{dm:SV}{b0:Nat}{out:Int}{w0:World}{Bf:World→Prop}{Lr:List di}(I:Sh.pO x0 x1=some out)(H:au w0 (pt b0 (af.enc (gB x0 s1 s3 s7 s9 eK e7 eN dm)) 203::ak 0 s1 5 x0.ae.cq::ak 0 s3 23 cu::(a_ cu x0.ae.ah)::ak 0 dm 3 x0.a7::Lr))(S:∀ w,au w Lr→Bf w)(q6:cn (dj (X:=UInt8) (a_ cu x0.ae.ah).holds') cu x0.ae.ah)(f8:dj Bf s7 x0.ae.data)(f10:dj Bf s9 x0.ae.sizes)(f12:dj Bf eK x0.code)(f14:dj Bf e7 x0.dq)(f16:jl Bf eN x0.da):Calls Tryz.prog 294 #[.pointer (some ⟨b0,0,none⟩),.agg (aj.enc x1).toArray] w0 (fZ fun v w'=>v = .int .i64 out∧au w' (pt b0 (af.enc (gB x0 s1 s3 s7 s9 eK e7 eN dm)) 203::ak 0 s1 5 x0.ae.cq::ak 0 s3 23 cu::(a_ cu x0.ae.ah)::ak 0 dm 3 x0.a7::Lr)):=by
 unfold Sh.pO at I
 refine ce Tryz.func294 Tryz.ntmps294 fun a G=>?_
 refine go 20 fun c0 a w G H=>?_
 refine cc I (fun LS I=>?_) fun LS I=>?_
 ·exact lf
 refine go 6 fun a w G H=>?_
 refine cc I (fun LU I=>?_) fun LU I=>?_
 ·exact lf
 refine go 6 fun a w G H=>?_
 refine cc I (fun ED I=>?_) fun ED I=>?_
 ·exact lf
 refine go 4 fun a w G H=>?_
 refine dT H [0,1,2,3,4,5] 6 fun K=>?_
 obtain⟨RS,Y5,I⟩:=ade I
 refine eL [0,1,2,3,4,5,6,7,8,9] fun a G=>?_
 refine de fun w H=>?_
 exact lf
theorem fJ{x0:ai}{x1:aj}{x2 x3:Int}{s1 s3:SV}{cu:List SV}{s7 s9 eK e7:SV}{eN:Nat}{dm:SV}{b0:Nat}{out:Bool}{w0:World}{Bf:World→Prop}{Lr:List di}(I:Sh.eQ x0 x1 x2 x3=some out)(H:au w0 (pt b0 (af.enc (gB x0 s1 s3 s7 s9 eK e7 eN dm)) 203::ak 0 s1 5 x0.ae.cq::ak 0 s3 23 cu::(a_ cu x0.ae.ah)::ak 0 dm 3 x0.a7::Lr))(S:∀ w,au w Lr→Bf w)(q6:cn (dj (X:=UInt8) (a_ cu x0.ae.ah).holds') cu x0.ae.ah)(f8:dj Bf s7 x0.ae.data)(f10:dj Bf s9 x0.ae.sizes)(f12:dj Bf eK x0.code)(f14:dj Bf e7 x0.dq)(f16:jl Bf eN x0.da):Calls Tryz.prog 243 #[.pointer (some ⟨b0,0,none⟩),.agg (aj.enc x1).toArray,.int .i64 x2,.int .i64 x3] w0 (fZ fun v w'=>v = .bool out∧au w' (pt b0 (af.enc (gB x0 s1 s3 s7 s9 eK e7 eN dm)) 203::ak 0 s1 5 x0.ae.cq::ak 0 s3 23 cu::(a_ cu x0.ae.ah)::ak 0 dm 3 x0.a7::Lr)):=by
 unfold Sh.eQ at I
 refine ce Tryz.func243 Tryz.ntmps243 fun a G=>?_
 refine go 7 fun c0 a w G H=>?_
 refine jm (pt b0 (af.enc (gB x0 s1 s3 s7 s9 eK e7 eN dm)) 203::ak 0 s1 5 x0.ae.cq::ak 0 s3 23 cu::(a_ cu x0.ae.ah)::ak 0 dm 3 x0.a7::Lr) G H I [] (fun v40 u=>(8,.bool v40)::u) (fun c2 I c1 G H=>?_) fun v40 a w I G H=>?_
 ·refine go 4 fun a w G H=>?_
  refine gs I (fun CL I=>?_) fun CL I=>?_
  ·refine go 5 fun a w G H=>?_
   obtain⟨R9,Ny,I⟩:=ade I
   have MJ:=oR Ny (fU H [1,2,3,4,5,0] 6) (Bf:=Bf) (tb S) q6 f8 f10 f12 f14 f16
   refine dD G E E E CL E E (aS (xs:=[.tmp 15,.tmp 16]) Tryz.call294 G E E MJ fun v w hR=>?_)
   obtain⟨rfl,H⟩:=hR
   intro a G
   exact lf
  exact lf
 replace I:Sh.rL v40=_:=I
 unfold Sh.rL at I
 exact lf
theorem gA{x0:ai}{x1:aj}{x2 x3:Int}{s1 s3:SV}{cu:List SV}{s7 s9 eK e7:SV}{eN:Nat}{dm:SV}{b0:Nat}{out:Int}{w0:World}{Bf:World→Prop}{Lr:List di}(I:Sh.eT x0 x1 x2 x3=some out)(H:au w0 (pt b0 (af.enc (gB x0 s1 s3 s7 s9 eK e7 eN dm)) 203::ak 0 s1 5 x0.ae.cq::ak 0 s3 23 cu::(a_ cu x0.ae.ah)::ak 0 dm 3 x0.a7::Lr))(S:∀ w,au w Lr→Bf w)(q6:cn (dj (X:=UInt8) (a_ cu x0.ae.ah).holds') cu x0.ae.ah)(f8:dj Bf s7 x0.ae.data)(f10:dj Bf s9 x0.ae.sizes)(f12:dj Bf eK x0.code)(f14:dj Bf e7 x0.dq)(f16:jl Bf eN x0.da):Calls Tryz.prog 244 #[.pointer (some ⟨b0,0,none⟩),.agg (aj.enc x1).toArray,.int .i64 x2,.int .i64 x3] w0 (fZ fun v w'=>v = .int .i64 out∧au w' (pt b0 (af.enc (gB x0 s1 s3 s7 s9 eK e7 eN dm)) 203::ak 0 s1 5 x0.ae.cq::ak 0 s3 23 cu::(a_ cu x0.ae.ah)::ak 0 dm 3 x0.a7::Lr)):=by
 unfold Sh.eT at I
 refine ce Tryz.func244 Tryz.ntmps244 fun a G=>?_
 refine go 8 fun d3 a w G H=>?_
 refine jm (pt b0 (af.enc (gB x0 s1 s3 s7 s9 eK e7 eN dm)) 203::ak 0 s1 5 x0.ae.cq::ak 0 s3 23 cu::(a_ cu x0.ae.ah)::ak 0 dm 3 x0.a7::Lr) G H I [0,2,3,8] (fun c2 u=>(18,.bool c2)::u) (fun d5 I d4 G H=>?_) fun c2 a w I G H=>?_
 ·exact lf
 replace I:Sh.kM x0 x2 x3 c2=_:=I
 unfold Sh.kM at I
 refine aB ?_
 refine cc I (fun c9 I=>?_) fun c9 I=>?_
 ·exact lf
 refine go 8 fun a w G H=>?_
 refine jm (pt b0 (af.enc (gB x0 s1 s3 s7 s9 eK e7 eN dm)) 203::ak 0 s1 5 x0.ae.cq::ak 0 s3 23 cu::(a_ cu x0.ae.ah)::ak 0 dm 3 x0.a7::Lr) G H I [8] (fun c3 u=>(9,.int .i64 c3)::u) (fun d6 I c7 G H=>?_) fun c3 a w I G H=>?_
 ·refine go 7 fun a w G H=>?_
  refine aY G H I (fun F x a w=>match x with|(c0,c1)=>Fr 49 [(10,.int .i64 c0),(9,.int .i64 c1),(0,.pointer (some ⟨b0,0,none⟩)),(2,.int .i64 x2),(3,.int .i64 x3),(8,.int .i64 0)] a∧au w (pt b0 (af.enc (gB x0 s1 s3 s7 s9 eK e7 eN dm)) 203::ak 0 s1 5 x0.ae.cq::ak 0 s3 23 cu::(a_ cu x0.ae.ah)::ak 0 dm 3 x0.a7::Lr)) (fun G H=>⟨G.to ⟨E,E,E,E,E,E,trivial⟩,H⟩) ?_
  rintro⟨c0,c1⟩ a w d8 I c5 ⟨G,H⟩
  replace I:Sh.hA x0 x2 x3 c0 c1=_:=I
  unfold Sh.hA at I
  refine go 10 fun a w G H=>?_
  refine cc I (fun d0 I=>?_) fun d0 I=>?_
  ·refine go 3 fun a w G H=>?_
   refine jm (pt b0 (af.enc (gB x0 s1 s3 s7 s9 eK e7 eN dm)) 203::ak 0 s1 5 x0.ae.cq::ak 0 s3 23 cu::(a_ cu x0.ae.ah)::ak 0 dm 3 x0.a7::Lr) G H I [0,10,2,3,8] (fun c4 u=>(9,.int .i64 c4)::u) (fun d7 I c8 G H=>?_) fun c4 a w I G H=>?_
   ·refine go 5 fun a w G H=>?_
    refine aA G (sF G E E E (by decide)) E E E fun a G=>?_
    obtain⟨d9,c6,I⟩:=ade I
    refine go 13 fun a w G H=>?_
    refine aA G (aG r_ G E E (((H.cells (i:=0) E (af.ci_memory_stack _ _ _ (aL c6).2)).sub 0 4 (bn.c_ptr _)).get 0 (aj.g_kind _))) E E E fun a G=>?_
    refine go 3 fun a w G H=>?_
    refine cc I (fun d1 I=>?_) fun d1 I=>?_
    ·refine go 6 fun a w G H=>?_
     obtain rfl:=oI I
     have I:=bA c8
     subst I
     have I:=c5 _ rfl
     subst I
     have I:=bA c7
     subst I
     refine aT Tryz.results244 G E ?_
     exact⟨E,H⟩
    refine go 7 fun a w G H=>?_
    refine aA G (aG r_ G E E ((H.cells (i:=0) E (af.ci_memory_stack _ _ _ (aL c6).2)).get 12 (bn.g_mask _))) E E E fun a G=>?_
    refine go 1 fun a w G H=>?_
    refine aA G (nU G E E E (by decide)) E E E fun a G=>?_
    obtain⟨d2,I⟩:=bH I
    refine aA G (iW G E E E (aaX d2)) E E E fun a G=>?_
    exact lf
   replace I:Sh.pC c0 c4=_:=I
   unfold Sh.pC at I
   exact lf
  refine go 5 fun a w G H=>?_
  obtain rfl:=oI I
  have I:=c5 _ rfl
  subst I
  exact⟨c1,E,G.to ⟨E,E,trivial⟩,H⟩
 replace I:Sh.pB c3=_:=I
 unfold Sh.pB at I
 exact lf
theorem oQ{x0:ai}{x1:bg}{x2:Int}{s1 s3:SV}{cu:List SV}{s7 s9 eK e7:SV}{eN:Nat}{dm:SV}{b0:Nat}{out:Int}{w0:World}{Bf:World→Prop}{Lr:List di}(I:Sh.lD x0 x1 x2=some out)(H:au w0 (pt b0 (af.enc (gB x0 s1 s3 s7 s9 eK e7 eN dm)) 203::ak 0 s1 5 x0.ae.cq::ak 0 s3 23 cu::(a_ cu x0.ae.ah)::ak 0 dm 3 x0.a7::Lr))(S:∀ w,au w Lr→Bf w)(q6:cn (dj (X:=UInt8) (a_ cu x0.ae.ah).holds') cu x0.ae.ah)(f8:dj Bf s7 x0.ae.data)(f10:dj Bf s9 x0.ae.sizes)(f12:dj Bf eK x0.code)(f14:dj Bf e7 x0.dq)(f16:jl Bf eN x0.da):Calls Tryz.prog 248 #[.pointer (some ⟨b0,0,none⟩),.agg (bg.enc x1).toArray,.int .i64 x2] w0 (fZ fun v w'=>v = .int .i64 out∧au w' (pt b0 (af.enc (gB x0 s1 s3 s7 s9 eK e7 eN dm)) 203::ak 0 s1 5 x0.ae.cq::ak 0 s3 23 cu::(a_ cu x0.ae.ah)::ak 0 dm 3 x0.a7::Lr)):=by
 unfold Sh.lD at I
 refine ce Tryz.func248 Tryz.ntmps248 fun a G=>?_
 refine go 7 fun c0 a w G H=>?_
 refine dT H [0,1,2,3,4,5] 6 fun K=>?_
 obtain⟨Aj,Nq,I⟩:=ade I
 refine eL [0,1,2,3,4,5,6] fun a G=>?_
 refine aK G K 7 E ada E E E (fun w H=>(aG r_ G E E ((H.cells (i:=1) E (af.ci_regs _ _ _ (aL Nq).2)).get 3 (aj.g_x _)))) fun a G=>?_
 refine eL [8] fun a G=>?_
 refine de fun w H=>?_
 refine go 6 fun a w G H=>?_
 refine aA G (Vq G E E E) E E E fun a G=>?_
 refine go 9 fun a w G H=>?_
 refine cc I (fun L0 I=>?_) fun L0 I=>?_
 ·exact lf
 refine go 6 fun a w G H=>?_
 refine cc I (fun L6 I=>?_) fun L6 I=>?_
 ·refine go 4 fun a w G H=>?_
  refine aA G (zS G E E E) E E E fun a G=>?_
  exact lf
 refine go 6 fun a w G H=>?_
 refine cc I (fun L8 I=>?_) fun L8 I=>?_
 ·exact lf
 refine go 6 fun a w G H=>?_
 refine cc I (fun L9 I=>?_) fun L9 I=>?_
 ·refine go 4 fun a w G H=>?_
  refine aA G (Cd G E E E) E E E fun a G=>?_
  exact lf
 obtain⟨OA,Nr,I⟩:=ade I
 refine go 10 fun a w G H=>?_
 refine aA G (aG r_ G E E ((H.cells (i:=1) E (af.ci_regs _ _ _ (aL Nr).2)).get 3 (aj.g_x _))) E E E fun a G=>?_
 refine go 4 fun a w G H=>?_
 refine jm (pt c0 (bg.enc x1) 101::pt b0 (af.enc (gB x0 s1 s3 s7 s9 eK e7 eN dm)) 203::ak 0 s1 5 x0.ae.cq::ak 0 s3 23 cu::(a_ cu x0.ae.ah)::ak 0 dm 3 x0.a7::Lr) G H I [2,4,6,7] (fun v57 u=>(8,.int .i64 v57)::u) (fun c3 I c1 G H=>?_) fun v57 a w I G H=>?_
 ·exact lf
 replace I:Sh.rF x1 x2 Aj v57=_:=I
 unfold Sh.rF at I
 refine go 3 fun a w G H=>?_
 refine jm (pt b0 (af.enc (gB x0 s1 s3 s7 s9 eK e7 eN dm)) 203::ak 0 s1 5 x0.ae.cq::ak 0 s3 23 cu::(a_ cu x0.ae.ah)::ak 0 dm 3 x0.a7::Lr) G H I [2,6,7] (fun v66 u=>(59,.bool v66)::u) (fun c4 I c2 G H=>?_) fun v66 a w I G H=>?_
 ·exact lf
 replace I:Sh.rG x2 Aj v66=_:=I
 unfold Sh.rG at I
 exact lf
end Go.Proofs
end
section
namespace Go.Proofs
open Go.Fw Go.Fx
set_option maxRecDepth 10000
theorem Pg{x0:ai}{x1:aj}{x2 x3:Int}{m:List UInt8}(hk:(decide (x1.kind=3))=true)(h:Sh.pP x0 x1 x2 x3=some m):Fx.ny x0.ae.cq x2 (IntKind.i64.wrap (x2+x3))=some m:=by
 unfold Sh.pP at h
 obtain⟨y,hy,h⟩:=ade h
 cases h;exact hy
theorem OY{x0:ai}{x1:aj}{x2 x3:Int}{m:List UInt8}(hk:(decide (x1.kind=3))=false)(hk':(decide (x1.kind=4))=true)(h:Sh.qP x0 x1 x2 x3=some m):Fx.ny x0.ae.data x2 (IntKind.i64.wrap (x2+x3))=some m:=by
 unfold Sh.qP at h
 obtain⟨y,hy,h⟩:=ade h
 cases h;exact hy
theorem Ph{x0:ai}{x1:aj}{x2 x3:Int}{y:List UInt8×Int×List UInt8}(hk:(decide (x1.kind=3))=false)(hk':(decide (x1.kind=4))=false)(h:Sh.pQ x0 x1 x2 x3=some y):Fx.get x0.ae.ah x1.table=some y.1∧Fx.ny y.1 y.2.1 (IntKind.i64.wrap (y.2.1+x3))=some y.2.2:=by
 unfold Sh.pQ at h
 obtain⟨a,ha,h⟩:=ade h
 obtain⟨b,hb,h⟩:=ade h
 obtain⟨c,hc,h⟩:=ade h
 cases h;exact⟨hb,hc⟩
theorem pH{x0:ai}{x1:aj}{x2 x3:Int}{s1 s3:SV}{cu:List SV}{s7 s9 eK e7:SV}{eN:Nat}{dm:SV}{b0:Nat}{out:List UInt8}{w0:World}{Bf:World→Prop}{Lr:List di}(I:Sh.pP x0 x1 x2 x3=some out)(H:au w0 (pt b0 (af.enc (gB x0 s1 s3 s7 s9 eK e7 eN dm)) 203::ak 0 s1 5 x0.ae.cq::ak 0 s3 23 cu::(a_ cu x0.ae.ah)::ak 0 dm 3 x0.a7::Lr))(S:∀ w,au w Lr→Bf w)(q6:cn (dj (X:=UInt8) (a_ cu x0.ae.ah).holds') cu x0.ae.ah)(f8:dj Bf s7 x0.ae.data)(f10:dj Bf s9 x0.ae.sizes)(f12:dj Bf eK x0.code)(f14:dj Bf e7 x0.dq)(f16:jl Bf eN x0.da)(hk0:(decide (x1.kind=3))=true):Calls Tryz.prog 297 #[.pointer (some ⟨b0,0,none⟩),.agg (aj.enc x1).toArray,.int .i64 x2,.int .i64 x3] w0 (fZ fun v w'=>v=((s1.cut (x2:Int).toNat (IntKind.i64.wrap (x2+x3):Int).toNat 1)).v∧au w' (pt b0 (af.enc (gB x0 s1 s3 s7 s9 eK e7 eN dm)) 203::ak 0 s1 5 x0.ae.cq::ak 0 s3 23 cu::(a_ cu x0.ae.ah)::ak 0 dm 3 x0.a7::Lr)):=by
 unfold Sh.pP at I
 refine ce Tryz.func297 Tryz.ntmps297 fun a G=>?_
 refine go 2 fun a w G H=>?_
 refine aN G E E E (gE G E E E fun c1 w c2 c0=>?_)
 have H:=H.plus c0
 try dsimp only[List.set]at H
 intro a G
 exact lf
theorem oE{x0:ai}{x1:aj}{x2 x3:Int}{s1 s3:SV}{cu:List SV}{s7 s9 eK e7:SV}{eN:Nat}{dm:SV}{b0:Nat}{out:List UInt8}{w0:World}{Bf:World→Prop}{Lr:List di}(I:Sh.qP x0 x1 x2 x3=some out)(H:au w0 (pt b0 (af.enc (gB x0 s1 s3 s7 s9 eK e7 eN dm)) 203::ak 0 s1 5 x0.ae.cq::ak 0 s3 23 cu::(a_ cu x0.ae.ah)::ak 0 dm 3 x0.a7::Lr))(S:∀ w,au w Lr→Bf w)(q6:cn (dj (X:=UInt8) (a_ cu x0.ae.ah).holds') cu x0.ae.ah)(f8:dj Bf s7 x0.ae.data)(f10:dj Bf s9 x0.ae.sizes)(f12:dj Bf eK x0.code)(f14:dj Bf e7 x0.dq)(f16:jl Bf eN x0.da)(hk0:(decide (x1.kind=3))=false)(YO:(decide (x1.kind=4))=true):Calls Tryz.prog 297 #[.pointer (some ⟨b0,0,none⟩),.agg (aj.enc x1).toArray,.int .i64 x2,.int .i64 x3] w0 (fZ fun v w'=>v=((s7.cut (x2:Int).toNat (IntKind.i64.wrap (x2+x3):Int).toNat 1)).v∧au w' (pt b0 (af.enc (gB x0 s1 s3 s7 s9 eK e7 eN dm)) 203::ak 0 s1 5 x0.ae.cq::ak 0 s3 23 cu::(a_ cu x0.ae.ah)::ak 0 dm 3 x0.a7::Lr)):=by
 unfold Sh.qP at I
 refine ce Tryz.func297 Tryz.ntmps297 fun a G=>?_
 refine go 2 fun a w G H=>?_
 refine aN G E E E (gE G E E E fun c1 w c2 c0=>?_)
 have H:=H.plus c0
 try dsimp only[List.set]at H
 intro a G
 exact lf
theorem pJ{x0:ai}{x1:aj}{x2 x3:Int}{s1 s3:SV}{cu:List SV}{s7 s9 eK e7:SV}{eN:Nat}{dm:SV}{b0:Nat}{out:(List UInt8×Int×List UInt8)}{w0:World}{Bf:World→Prop}{Lr:List di}(I:Sh.pQ x0 x1 x2 x3=some out)(H:au w0 (pt b0 (af.enc (gB x0 s1 s3 s7 s9 eK e7 eN dm)) 203::ak 0 s1 5 x0.ae.cq::ak 0 s3 23 cu::(a_ cu x0.ae.ah)::ak 0 dm 3 x0.a7::Lr))(S:∀ w,au w Lr→Bf w)(q6:cn (dj (X:=UInt8) (a_ cu x0.ae.ah).holds') cu x0.ae.ah)(f8:dj Bf s7 x0.ae.data)(f10:dj Bf s9 x0.ae.sizes)(f12:dj Bf eK x0.code)(f14:dj Bf e7 x0.dq)(f16:jl Bf eN x0.da)(hk0:(decide (x1.kind=3))=false)(YO:(decide (x1.kind=4))=false):Calls Tryz.prog 297 #[.pointer (some ⟨b0,0,none⟩),.agg (aj.enc x1).toArray,.int .i64 x2,.int .i64 x3] w0 (fZ fun v w'=>∃ y:SV,cu[(x1.table:Int).toNat]? = some y∧v=(y.cut (out.2.1:Int).toNat (IntKind.i64.wrap (out.2.1+x3):Int).toNat 1).v∧au w' (pt b0 (af.enc (gB x0 s1 s3 s7 s9 eK e7 eN dm)) 203::ak 0 s1 5 x0.ae.cq::ak 0 s3 23 cu::(a_ cu x0.ae.ah)::ak 0 dm 3 x0.a7::Lr)):=by
 unfold Sh.pQ at I
 refine ce Tryz.func297 Tryz.ntmps297 fun a G=>?_
 refine go 32 fun c0 a w G H=>?_
 refine dT H [0,1,2,3,4,5] 6 fun K=>?_
 obtain⟨x20,Y4,I⟩:=ade I
 refine eL [0,1,2,3,4,5,6,7,8,9,10,11,12,13,14] fun a G=>?_
 refine de fun w H=>?_
 refine go 2 fun a w G H=>?_
 refine dT H [0,1,2,3,4,5] 6 fun K=>?_
 obtain⟨Oz,IG,I⟩:=ade I
 have HW:=aL IG
 obtain⟨QG,OC,Dy⟩:=Ws q6 IG
 refine eL [0,1,2,3,4,5,6,7,8,9,10,11] fun a G=>?_
 obtain⟨RR,Nn,I⟩:=ade I
 refine aK G K 12 E ada E E E (fun w H=>(eY (F5 (H.hold 4 _ E) Dy HW.2) Nn kg r7 E G E E (.inr ⟨_,_,E,E⟩) (.inr ⟨_,_,E,E⟩))) fun a G=>?_
 refine eL [13] fun a G=>?_
 refine de fun w H=>?_
 refine go 2 fun a w G H=>?_
 obtain rfl:=oI I
 refine aT Tryz.results297 G E ?_
 exact⟨OC,Dy,E,bS H [1,2,3,4,5] 6 E⟩
theorem kX{x0:ai}{x1:aj}{x2 x3:Int}{s1 s3:SV}{cu:List SV}{s7 s9 eK e7:SV}{eN:Nat}{dm:SV}{b0:Nat}{out:List UInt8}{w0:World}{Bf:World→Prop}{Lr:List di}(I:Sh.kT x0 x1 x2 x3=some out)(H:au w0 (pt b0 (af.enc (gB x0 s1 s3 s7 s9 eK e7 eN dm)) 203::ak 0 s1 5 x0.ae.cq::ak 0 s3 23 cu::(a_ cu x0.ae.ah)::ak 0 dm 3 x0.a7::Lr))(S:∀ w,au w Lr→Bf w)(q6:cn (dj (X:=UInt8) (a_ cu x0.ae.ah).holds') cu x0.ae.ah)(f8:dj Bf s7 x0.ae.data)(f10:dj Bf s9 x0.ae.sizes)(f12:dj Bf eK x0.code)(f14:dj Bf e7 x0.dq)(f16:jl Bf eN x0.da):Calls Tryz.prog 296 #[.pointer (some ⟨b0,0,none⟩),.agg (aj.enc x1).toArray,.int .i64 x2,.int .i64 x3] w0 (fZ fun v w'=>∃ (d2:SV),v=(d2).v∧au w' (ak 0 d2 5 out::pt b0 (af.enc (gB x0 s1 s3 s7 s9 eK e7 eN dm)) 203::ak 0 s1 5 x0.ae.cq::ak 0 s3 23 cu::(a_ cu x0.ae.ah)::ak 0 dm 3 x0.a7::Lr)):=by
 unfold Sh.kT at I
 refine ce Tryz.func296 Tryz.ntmps296 fun a G=>?_
 refine go 14 fun i7 a w G H=>?_
 refine cc I (fun d7 I=>?_) fun d7 I=>?_
 ·refine go 6 fun a w G H=>?_
  refine gs I (fun c0 I=>?_) fun c0 I=>?_
  ·obtain⟨j1,c8,I⟩:=ade I
   have g6:Fx.ny x0.ae.cq x2 (IntKind.i64.wrap (x2+x3))=some j1:=Pg c0 c8
   have d9:=pH c8 (fU H [1,2,3,4,5,0] 6) (Bf:=Bf) (tb S) q6 f8 f10 f12 f14 f16 c0
   refine cl vy d9 ?_
   rintro v w ⟨rfl,H⟩ a G
   obtain⟨k0,i4,I⟩:=ade I
   have g0:=cW i4 H (fun _ h=>h) (fun w H=>(OT (H.rowS (X:=UInt8) (i:=1) rfl) g6 rfl))
   refine cl sd g0 ?_
   rintro v w ⟨i8,rfl,H⟩ a G
   refine go 4 fun a w G H=>?_
   obtain rfl:=oI I
   refine aT zu G E ?_
   exact⟨i8,E,bS H [0,1,2,3,4,5] 7 E⟩
  refine gs I (fun c1 I=>?_) fun c1 I=>?_
  ·obtain⟨j2,c9,I⟩:=ade I
   have g7:Fx.ny x0.ae.data x2 (IntKind.i64.wrap (x2+x3))=some j2:=OY c0 c1 c9
   have g1:=oE c9 (fU H [1,2,3,4,5,0] 6) (Bf:=Bf) (tb S) q6 f8 f10 f12 f14 f16 c0 c1
   refine cl vy g1 ?_
   rintro v w ⟨rfl,H⟩ a G
   obtain⟨k1,i5,I⟩:=ade I
   have g2:=cW i5 H (Bf:=Bf) (tb S) (dj.ny f8 g7 rfl)
   refine cl sd g2 ?_
   rintro v w ⟨i9,rfl,H⟩ a G
   refine go 4 fun a w G H=>?_
   obtain rfl:=oI I
   refine aT zu G E ?_
   exact⟨i9,E,bS H [0,1,2,3,4,5] 7 E⟩
  obtain⟨k2,d0,I⟩:=ade I
  obtain⟨g8,g9⟩:=Ph c0 c1 d0
  have g3:=pJ d0 (fU H [1,2,3,4,5,0] 6) (Bf:=Bf) (tb S) q6 f8 f10 f12 f14 f16 c0 c1
  refine cl vy g3 ?_
  rintro v w ⟨j7,g5,rfl,H⟩ a G
  obtain⟨k3,i6,I⟩:=ade I
  have g4:=cW i6 H (fun _ h=>h) (fun w H=>(OT (F5 (H.hold 3 _ rfl) g5 (aL g8).2) g9 rfl))
  refine cl sd g4 ?_
  rintro v w ⟨j0,rfl,H⟩ a G
  refine go 4 fun a w G H=>?_
  obtain rfl:=oI I
  refine aT zu G E ?_
  exact⟨j0,E,bS H [0,1,2,3,4,5] 7 E⟩
 refine go 5 fun a w G H=>?_
 obtain⟨d4,i0,I⟩:=ade I
 refine aN G E E E (K6 i0 kg r7 E E E G E E E fun c6 w c5=>?_)
 have H:=H.plus c5
 try dsimp only[List.set]at H
 intro a G
 refine go 4 fun a w G H=>?_
 refine aM G H I (fun F x a w=>match x with|d3=>∃ (c3:SV),Fr 47 [(9,(c3).v),(8,(SV.nil).v)] a∧au w (ak 0 c3 5 d3::pt b0 (af.enc (gB x0 s1 s3 s7 s9 eK e7 eN dm)) 203::ak 0 s1 5 x0.ae.cq::ak 0 s3 23 cu::(a_ cu x0.ae.ah)::ak 0 dm 3 x0.a7::Lr)) (fun j5 I j4 G H=>?_) ?_
 ·refine go 8 fun a w G H=>?_
  refine aY G H I (fun F x a w=>match x with|(c7,c4)=>∃ (c2:SV),Fr 47 [(24,.int .i64 c7),(9,(c2).v),(0,.pointer (some ⟨b0,0,none⟩)),(2,.int .i64 x2),(23,.int .i64 (d4.length:Int)),(8,(SV.nil).v)] a∧au w (ak 0 c2 5 c4::pt b0 (af.enc (gB x0 s1 s3 s7 s9 eK e7 eN dm)) 203::ak 0 s1 5 x0.ae.cq::ak 0 s3 23 cu::(a_ cu x0.ae.ah)::ak 0 dm 3 x0.a7::Lr)) (fun G H=>⟨c6,G.to ⟨E,E,E,E,E,E,trivial⟩,fU H [0,2,3,4,5,6] 7⟩) ?_
  rintro⟨c7,c4⟩ a w j6 I d5 ⟨c2,G,H⟩
  replace I:Sh.kR x0 x2 d4 c7 c4=_:=I
  unfold Sh.kR at I
  refine go 6 fun a w G H=>?_
  refine cc I (fun d8 I=>?_) fun d8 I=>?_
  ·refine go 17 fun a w G H=>?_
   refine aA G (sF G E E E (by decide)) E E E fun a G=>?_
   refine go 3 fun a w G H=>?_
   refine aA G (nU G E E E (by decide)) E E E fun a G=>?_
   obtain⟨j8,i1,j3,i2,I⟩:=b2 I
   refine go 5 fun a w G H=>?_
   refine aA G (aG Tryz.isAgg5 G E E (((H.cells (i:=1) E (af.ci_memory_stack _ _ _ (aL i1).2)).sub 4 8 (bn.c_bytes _)).get _ (qH (aL i2).2 E))) E E E fun a G=>?_
   obtain⟨j9,i3,I⟩:=ade I
   have d1:=aL i3
   refine go 1 fun a w G H=>?_
   refine bE E E (dE (d:=0) (q:=j3) KG (H.own (X:=UInt8) (i:=0) E) d1.2 G E E E E E (by decide) E fun w d6=>?_)
   have H:=H.chg d6 (i:=0) rfl
   try dsimp only[List.set]at H
   refine go 8 fun a w G H=>?_
   exact jr I ⟨c2,G.t,H⟩
  refine go 5 fun a w G H=>?_
  obtain rfl:=oI I
  have I:=d5 _ rfl
  subst I
  exact⟨c4,E,c2,G.to ⟨E,E,trivial⟩,H⟩
 rintro d3 a w I ⟨c3,G,H⟩
 unfold Sh.aB9 at I
 refine go 8 fun a w G H=>?_
 obtain rfl:=oI I
 refine aT zu G E ?_
 exact⟨c3,E,H⟩
theorem fQ{x0:ai}{x1:aj}{x2:Int}{x3:List UInt8}{s1 s3:SV}{cu:List SV}{s7 s9 eK e7:SV}{eN:Nat}{dm:SV}{b0:Nat}{Ag:SV}{out:ai}{w0:World}{Bf:World→Prop}{Lr:List di}(I:Sh.fK x0 x1 x2 x3=some out)(H:au w0 (pt b0 (af.enc (gB x0 s1 s3 s7 s9 eK e7 eN dm)) 203::ak 0 s1 5 x0.ae.cq::ak 0 s3 23 cu::(a_ cu x0.ae.ah)::ak 0 dm 3 x0.a7::Lr))(S:∀ w,au w Lr→Bf w)(q6:cn (dj (X:=UInt8) (a_ cu x0.ae.ah).holds') cu x0.ae.ah)(f8:dj Bf s7 x0.ae.data)(f10:dj Bf s9 x0.ae.sizes)(f12:dj Bf eK x0.code)(f14:dj Bf e7 x0.dq)(f16:jl Bf eN x0.da)(f20:dj Bf Ag x3):Calls Tryz.prog 246 #[.pointer (some ⟨b0,0,none⟩),.agg (aj.enc x1).toArray,.int .i64 x2,(Ag).v] w0 (fZ fun v w'=>∃ (d1:SV) (d2:SV) (c4:List SV),v = .tuple #[]∧cn (dj (X:=UInt8) (a_ c4 out.ae.ah).holds') c4 out.ae.ah∧au w' (pt b0 (af.enc (af.mk (bq.mk out.ae.bh d1 d2 s7 s9) eK e7 (some eN) x0.a8 dm x0.at_ x0.steps x0.done)) 203::ak 0 d1 5 out.ae.cq::ak 0 d2 23 c4::(a_ c4 out.ae.ah)::ak 0 dm 3 x0.a7::Lr)):=by
 unfold Sh.fK at I
 refine ce Tryz.func246 Tryz.ntmps246 fun a G=>?_
 refine go 13 fun i5 a w G H=>?_
 refine cc I (fun g0 I=>?_) fun g0 I=>?_
 ·refine go 7 fun a w G H=>?_
  refine gs I (fun c0 I=>?_) fun c0 I=>?_
  ·obtain⟨i7,c8,I⟩:=ade I
   have j3:Fx.ny x0.ae.cq x2 (IntKind.i64.wrap (x2+(x3.length:Int)))=some i7:=Pg c0 c8
   have g3:=pH c8 (fU H [1,2,3,4,5,0] 6) (Bf:=Bf) (tb S) q6 f8 f10 f12 f14 f16 c0
   refine cl vy g3 ?_
   rintro v w ⟨rfl,H⟩ a G
   refine go 1 fun a w G H=>?_
   obtain⟨j9,i0,I⟩:=ade I
   refine aN G E E E (WU i0 kg r7 E G E E E (H.own (X:=UInt8) (i:=1) E) (f20 _ (S _ (fc H 6))) fun w d5=>?_)
   have H:=H.chg d5 (i:=1) rfl
   try dsimp only[List.set]at H
   intro a G
   refine go 3 fun a w G H=>?_
   obtain rfl:=oI I
   refine vB Tryz.results246 G ?_
   exact⟨s1,s3,cu,E,q6,bS H [0,1,2,3,4] 6 E⟩
  refine gs I (fun c2 I=>?_) fun c2 I=>?_
  ·obtain⟨i8,c9,I⟩:=ade I
   have j4:Fx.ny x0.ae.data x2 (IntKind.i64.wrap (x2+(x3.length:Int)))=some i8:=OY c0 c2 c9
   have g4:=oE c9 (fU H [1,2,3,4,5,0] 6) (Bf:=Bf) (tb S) q6 f8 f10 f12 f14 f16 c0 c2
   refine cl vy g4 ?_
   rintro v w ⟨rfl,H⟩ a G
   refine go 1 fun a w G H=>?_
   obtain⟨g5,I⟩:=bH I
   cases g5
  obtain⟨k5,d0,I⟩:=ade I
  obtain⟨g9,j5⟩:=Ph c0 c2 d0
  have g6:=pJ d0 (fU H [1,2,3,4,5,0] 6) (Bf:=Bf) (tb S) q6 f8 f10 f12 f14 f16 c0 c2
  refine cl vy g6 ?_
  rintro v w ⟨j8,g8,rfl,H⟩ a G
  refine go 1 fun a w G H=>?_
  obtain⟨i9,i1,I⟩:=ade I
  refine aN G E E E (WV i1 (aL g9).2 kg r7 E G E E E (H.hold 3 _ E) g8 (f20 _ (S _ (fc H 6))) fun w d6=>?_)
  have H:=H.chg d6 (i:=3) rfl
  have i6:=Vk (k:=(x1.table:Int).toNat) (r:=i9) q6
  try dsimp only[List.set]at H
  intro a G
  refine go 3 fun a w G H=>?_
  obtain rfl:=oI I
  refine vB Tryz.results246 G ?_
  exact⟨s1,s3,cu,E,i6,bS H [0,1,2,3,4] 6 E⟩
 refine go 10 fun a w G H=>?_
 refine aY G H I (fun F x a w=>match x with|(c7,c3)=>Fr 68 [(24,.int .i64 c3),(0,.pointer (some ⟨b0,0,none⟩)),(2,.int .i64 x2),(22,(Ag).v),(23,.int .i64 (x3.length:Int))] a∧au w (pt b0 (af.enc (af.mk (bq.mk c7 s1 s3 s7 s9) eK e7 (some eN) x0.a8 dm x0.at_ x0.steps x0.done)) 203::ak 0 s1 5 x0.ae.cq::ak 0 s3 23 cu::(a_ cu x0.ae.ah)::ak 0 dm 3 x0.a7::Lr)) (fun G H=>⟨G.to ⟨E,E,E,E,E,trivial⟩,fU H [1,2,3,4,5] 6⟩) ?_
 rintro⟨c7,c3⟩ a w j7 I d4 ⟨G,H⟩
 replace I:Sh.jD x0 x2 x3 c7 c3=_:=I
 unfold Sh.jD at I
 refine go 6 fun a w G H=>?_
 refine cc I (fun g1 I=>?_) fun g1 I=>?_
 ·obtain⟨j0,i2,I⟩:=ade I
  have j1:=aL i2
  refine go 19 fun a w G H=>?_
  refine aA G (sF G E E E (by decide)) E E E fun a G=>?_
  obtain⟨k0,c1,I⟩:=ade I
  refine go 7 fun a w G H=>?_
  refine aM G H I (fun F x a w=>match x with|d3=>Fr 68 ([(0,.pointer (some ⟨b0,0,none⟩)),(2,.int .i64 x2),(22,(Ag).v),(23,.int .i64 (x3.length:Int)),(24,.int .i64 c3),(8,.int .i64 c3),(9,.int .u8 (j0.toNat:Int))]++qd F [10]) a∧au w (pt b0 (af.enc (af.mk (bq.mk d3 s1 s3 s7 s9) eK e7 (some eN) x0.a8 dm x0.at_ x0.steps x0.done)) 203::ak 0 s1 5 x0.ae.cq::ak 0 s3 23 cu::(a_ cu x0.ae.ah)::ak 0 dm 3 x0.a7::Lr)) (fun j6 I j2 G H=>?_) ?_
  ·refine go 6 fun a w G H=>?_
   refine aA G (aG r_ G E E (((H.cells (i:=0) E (af.ci_memory_stack _ _ _ (aL c1).2)).sub 0 4 (bn.c_ptr _)).get 0 (aj.g_kind _))) E E E fun a G=>?_
   refine go 3 fun a w G H=>?_
   refine cc I (fun g2 I=>?_) fun g2 I=>?_
   ·refine go 2 fun a w G H=>?_
    refine aA G (aW z50 Tryz.underlying50 Ji G (parts:=[]) E E bD) E E E fun a G=>?_
    refine go 1 fun a w G H=>?_
    refine bE E E (aU (vs:=_) Tryz.sizeOf50 (H.obj (i:=0) E) G E E E E (bn.len _) (bn.one _) (by have:=(bW c1);rw[bn.len,af.len];omega) (af.pi_memory_stack _ _ _ (by have:=(bW c1);omega)) fun w d7=>?_)
    have H:=H.chg d7 (i:=0) rfl
    try dsimp only[List.set]at H
    refine aJ (aB ?_)
    obtain rfl:=oI I
    exact⟨(c7.set ((IntKind.i64.wrap (Int.tdiv (IntKind.i64.wrap (x2+c3)) 8)):Int).toNat bn.zero),E,G.again ⟨E,E,E,E,E,E,E,trivial⟩ ⟨E,trivial⟩,H⟩
   refine bL (aB ?_)
   obtain rfl:=oI I
   exact⟨c7,E,G.again ⟨E,E,E,E,E,E,E,trivial⟩ ⟨E,trivial⟩,H⟩
  rintro d3 a w I ⟨G,H⟩
  unfold Sh.tH at I
  refine go 7 fun a w G H=>?_
  refine aA G (nU G E E E (by decide)) E E E fun a G=>?_
  obtain⟨k1,c5,k2,c6,I⟩:=b2 I
  refine go 4 fun a w G H=>?_
  refine bE E E (bQ KG (H.obj (i:=0) E) G E E E E (by have:=(bW c5);have:=(bW c6);rw[af.len];omega) (Uy (af.ci_memory_stack _ _ _ (aL c5).2) (D5 (bn.pi_bytes _ _ _ (by have:=(bW c6);omega)) (by have:=(bW c6);rw[bn.len];omega)) (af.pi_memory_stack _ _ _ (by have:=(bW c5);omega)) (by have:=(bW c5);rw[af.len];omega) (by have:=(bW c6);omega)) fun w d8=>?_)
  have H:=H.chg d8 (i:=0) rfl
  try dsimp only[List.set]at H
  refine aJ (aB ?_)
  refine dT H [0,1,2,3,4] 5 fun K=>?_
  refine eL [0,1,2] fun a G=>?_
  obtain⟨k3,i3,I⟩:=ade I
  refine aK G K 3 E ada E E E (fun w H=>(aG r_ G E E ((H.cells (i:=0) E (af.ci_memory_stack _ _ _ (aL i3).2)).get 12 (bn.g_mask _)))) fun a G=>?_
  refine eL [4,5,6] fun a G=>?_
  refine aK G K 7 E ada E E E (fun w H=>(nU G E E E (by decide))) fun a G=>?_
  obtain⟨g7,I⟩:=bH I
  refine aK G K 8 E ada E E E (fun w H=>(nV G E E E (aaX g7))) fun a G=>?_
  refine aK G K 9 E ada E E E (fun w H=>(zS G E E E)) fun a G=>?_
  refine eL [10,11] fun a G=>?_
  refine kn 12 fun w ep H=>?_
  obtain⟨k4,i4,I⟩:=ade I
  refine(bQ E8 (H.obj (i:=0) E) G E E E E (by have:=(bW c1);rw[af.len];omega) (fT (af.ci_memory_stack _ _ _ (aL i4).2) (bn.s_mask _ _) (af.pi_memory_stack _ _ _ (by have:=(bW c1);omega)) (by have:=(bW c1);rw[af.len];omega) (by decide)) fun w d9=>?_)
  have H:=H.chg d9 (i:=0) rfl
  try dsimp only[List.set]at H
  refine dh ?_
  refine de fun w H=>?_
  exact lf
 refine go 4 fun a w G H=>?_
 obtain rfl:=oI I
 have I:=d4 _ rfl
 subst I
 refine eU Tryz.results246 G ?_
 exact⟨s1,s3,cu,E,q6,H⟩
theorem lN{x0:ai}{x1:aj}{x2 x3:Int}{x4:Bool}{s1 s3:SV}{cu:List SV}{s7 s9 eK e7:SV}{eN:Nat}{dm:SV}{b0:Nat}{out:Int}{w0:World}{Bf:World→Prop}{Lr:List di}(I:Sh.pN x0 x1 x2 x3 x4=some out)(H:au w0 (pt b0 (af.enc (gB x0 s1 s3 s7 s9 eK e7 eN dm)) 203::ak 0 s1 5 x0.ae.cq::ak 0 s3 23 cu::(a_ cu x0.ae.ah)::ak 0 dm 3 x0.a7::Lr))(S:∀ w,au w Lr→Bf w)(q6:cn (dj (X:=UInt8) (a_ cu x0.ae.ah).holds') cu x0.ae.ah)(f8:dj Bf s7 x0.ae.data)(f10:dj Bf s9 x0.ae.sizes)(f12:dj Bf eK x0.code)(f14:dj Bf e7 x0.dq)(f16:jl Bf eN x0.da):Calls Tryz.prog 245 #[.pointer (some ⟨b0,0,none⟩),.agg (aj.enc x1).toArray,.int .i64 x2,.int .i64 x3,.bool x4] w0 (fZ fun v w'=>v = .int .i64 out∧au w' (pt b0 (af.enc (gB x0 s1 s3 s7 s9 eK e7 eN dm)) 203::ak 0 s1 5 x0.ae.cq::ak 0 s3 23 cu::(a_ cu x0.ae.ah)::ak 0 dm 3 x0.a7::Lr)):=by
 unfold Sh.pN at I
 refine ce Tryz.func245 Tryz.ntmps245 fun a G=>?_
 refine go 12 fun c0 a w G H=>?_
 obtain⟨R2,Nv,I⟩:=ade I
 have MG:=kX Nv (fU H [1,2,3,4,5,0] 6) (Bf:=Bf) (tb S) q6 f8 f10 f12 f14 f16
 refine cl Tryz.call296 MG ?_
 rintro v w ⟨RH,rfl,H⟩ a G
 refine go 1 fun a w G H=>?_
 obtain⟨R7,Nx,I⟩:=ade I
 have MI:=SJ Nx H (fun _ h=>h) (fun w H=>(H.rowS (X:=UInt8) (i:=0) rfl))
 refine cl Tryz.call295 MI ?_
 rintro v w ⟨rfl,H⟩ a G
 exact lf
theorem kJ{x0:ai}{x1:bg}{s1 s3:SV}{cu:List SV}{s7 s9 eK e7:SV}{eN:Nat}{dm:SV}{b0:Nat}{out:(Int×Int×ai)}{w0:World}{Bf:World→Prop}{Lr:List di}(I:Sh.jV x0 x1=some out)(H:au w0 (pt b0 (af.enc (gB x0 s1 s3 s7 s9 eK e7 eN dm)) 203::ak 0 s1 5 x0.ae.cq::ak 0 s3 23 cu::(a_ cu x0.ae.ah)::ak 0 dm 3 x0.a7::Lr))(S:∀ w,au w Lr→Bf w)(q6:cn (dj (X:=UInt8) (a_ cu x0.ae.ah).holds') cu x0.ae.ah)(f8:dj Bf s7 x0.ae.data)(f10:dj Bf s9 x0.ae.sizes)(f12:dj Bf eK x0.code)(f14:dj Bf e7 x0.dq)(f16:jl Bf eN x0.da):Calls Tryz.prog 207 #[.pointer (some ⟨b0,0,none⟩),.agg (bg.enc x1).toArray] w0 (fZ fun v w'=>v = .tuple #[.int .i64 out.1,.int .i64 out.2.1]∧au w' (pt b0 (af.enc (af.mk (bq.mk x0.ae.bh s1 s3 s7 s9) eK e7 (some eN) out.2.2.a8 dm x0.at_ x0.steps x0.done)) 203::ak 0 s1 5 x0.ae.cq::ak 0 s3 23 cu::(a_ cu x0.ae.ah)::ak 0 dm 3 x0.a7::Lr)):=by
 unfold Sh.jV at I
 refine ce Tryz.func207 Tryz.ntmps207 fun a G=>?_
 refine go 8 fun c1 a w G H=>?_
 refine dT H [0,1,2,3,4,5] 6 fun K=>?_
 obtain⟨c8,i4,I⟩:=ade I
 refine eL [0,1,2,3,4,5,6,7,8] fun c2 a G=>?_
 refine de fun w H=>?_
 refine go 5 fun a w G H=>?_
 obtain⟨j1,g5,I⟩:=ade I
 have d7:=eO g5 H 
 refine cl si d7 ?_
 rintro v w ⟨rfl,H⟩ a G
 refine go 3 fun a w G H=>?_
 refine cc I (fun d1 I=>?_) fun d1 I=>?_
 ·refine go 7 fun a w G H=>?_
  obtain rfl:=oI I
  refine er zq G H ?_
  exact⟨E,bS H [2,3,4,5,6] 7 E⟩
 refine go 14 fun a w G H=>?_
 refine dT H [0,1,2,3,4,5,6] 7 fun K=>?_
 refine eL [0,1,2,3,4,5,6] fun a G=>?_
 refine dx 7 fun w ep H=>?_
 obtain⟨j2,g6,I⟩:=ade I
 have d8:=fJ g6 (fU H [2,3,4,5,6,0,1] 7) (Bf:=Bf) (tb S) q6 f8 f10 f12 f14 f16
 refine dl Tryz.call243 d8 ?_
 rintro v w ⟨rfl,H⟩
 refine ds [5,6,0,1,2,3,4] 7 fun a G=>?_
 refine eL [8] fun a G=>?_
 refine de fun w H=>?_
 refine aB ?_
 refine cc I (fun d2 I=>?_) fun d2 I=>?_
 ·refine go 7 fun a w G H=>?_
  obtain rfl:=oI I
  refine er zq G H ?_
  exact⟨E,bS H [0,1,2,3,4] 7 E⟩
 refine go 4 fun a w G H=>?_
 refine jm (pt b0 (af.enc (gB x0 s1 s3 s7 s9 eK e7 eN dm)) 203::pt c2 (aj.enc c8) 46::pt c1 (bg.enc x1) 101::ak 0 s1 5 x0.ae.cq::ak 0 s3 23 cu::(a_ cu x0.ae.ah)::ak 0 dm 3 x0.a7::Lr) G H I [0,3,4,5,6,7] (fun c3 u=>(62,.bool c3)::u) (fun i5 I i2 G H=>?_) fun c3 a w I G H=>?_
 ·refine go 5 fun a w G H=>?_
  refine gs I (fun d3 I=>?_) fun d3 I=>?_
  ·refine go 5 fun a w G H=>?_
   refine gs I (fun d4 I=>?_) fun d4 I=>?_
   ·refine go 5 fun a w G H=>?_
    refine gs I (fun c4 I=>?_) fun c4 I=>?_
    ·refine go 1 fun a w G H=>?_
     refine aO G E E E c4 (nU G E E E (by decide)) E E fun a G=>?_
     refine go 3 fun a w G H=>?_
     refine gs I (fun c0 I=>?_) fun c0 I=>?_
     ·refine go 2 fun a w G H=>?_
      refine aO G E E E c0 (sF G E E E (by decide)) E E fun a G=>?_
      obtain⟨i7,g3,I⟩:=ade I
      refine go 5 fun a w G H=>?_
      refine aO G E E E c0 (cD Tryz.isAgg46 iw G E E (aj.len _) ((H.cells (i:=0) E (af.ci_memory_stack _ _ _ (aL g3).2)).sub 0 4 (bn.c_ptr _))) E E fun a G=>?_
      obtain⟨j3,g7,I⟩:=ade I
      have d9:=eO g7 H 
      refine dD G E E E c0 E E (aS (xs:=[.tmp 60]) si G E E d9 fun v w hR=>?_)
      obtain⟨rfl,H⟩:=hR
      intro a G
      refine go 3 fun a w G H=>?_
      exact jr I ⟨G.t,bS H [0,5,6,1,2,3,4] 7 E⟩
     refine go 13 fun a w G H=>?_
     exact jr I ⟨G.t,bS H [0,5,6,1,2,3,4] 7 E⟩
    refine go 18 fun a w G H=>?_
    exact jr I ⟨G.t,bS H [0,5,6,1,2,3,4] 7 E⟩
   refine go 23 fun a w G H=>?_
   exact jr I ⟨G.t,bS H [0,5,6,1,2,3,4] 7 E⟩
  refine go 28 fun a w G H=>?_
  exact jr I ⟨G.t,bS H [0,5,6,1,2,3,4] 7 E⟩
 replace I:Sh.nI x0 x1 c8 c3=_:=I
 unfold Sh.nI at I
 refine aB ?_
 refine cc I (fun d5 I=>?_) fun d5 I=>?_
 ·refine aH ?_
  refine dT H [0,1,2,3,4,5,6] 7 fun K=>?_
  refine eL [0,1,2,3,4] fun a G=>?_
  refine aK G K 5 E ada E E E (fun w H=>(sF G E E E (by decide))) fun a G=>?_
  obtain⟨i8,g4,I⟩:=ade I
  refine eL [6,7,8,9,10] fun a G=>?_
  refine aK G K 11 E ada E E E (fun w H=>(cD Tryz.isAgg46 iw G E E (aj.len _) ((H.cells (i:=0) E (af.ci_memory_stack _ _ _ (aL g4).2)).sub 0 4 (bn.c_ptr _)))) fun a G=>?_
  obtain⟨i9,c5,I⟩:=ade I
  refine eL [12,13,14] fun a G=>?_
  refine kn 15 fun w ep H=>?_
  refine(aU (vs:=_) iw (H.obj (i:=0) E) G E E E E (aj.len _) (aj.one _) (by have:=(bW c5);rw[aj.len,af.len];omega) (af.pi_regs _ _ _ (by have:=(bW c5);omega)) fun w c9=>?_)
  have H:=H.chg c9 (i:=0) rfl
  try dsimp only[List.set]at H
  refine dh ?_
  refine de fun w H=>?_
  refine go 8 fun a w G H=>?_
  obtain rfl:=oI I
  refine er zq G H ?_
  exact⟨E,bS H [0,3,4,5,6] 7 E⟩
 refine go 3 fun a w G H=>?_
 refine dT H [0,1,2,3,4,5,6] 7 fun K=>?_
 refine eL [0,1,2,3,4,5,6] fun a G=>?_
 refine dx 7 fun w ep H=>?_
 obtain⟨i1,g8,I⟩:=ade I
 have g0:=gA g8 (fU H [0,3,4,5,6,1,2] 7) (Bf:=Bf) (tb S) q6 f8 f10 f12 f14 f16
 refine dl Tryz.call244 g0 ?_
 rintro v w ⟨rfl,H⟩
 refine ds [0,5,6,1,2,3,4] 7 fun a G=>?_
 refine eL [8] fun a G=>?_
 refine de fun w H=>?_
 refine go 2 fun a w G H=>?_
 refine aM G H I (fun F x a w=>match x with|c7=>Fr 107 [(4,.int .i64 0),(5,.int .i64 0),(8,.int .i64 i1)] a∧au w (pt b0 (af.enc (af.mk (bq.mk x0.ae.bh s1 s3 s7 s9) eK e7 (some eN) c7 dm x0.at_ x0.steps x0.done)) 203::ak 0 s1 5 x0.ae.cq::ak 0 s3 23 cu::(a_ cu x0.ae.ah)::ak 0 dm 3 x0.a7::Lr)) (fun i6 I i3 G H=>?_) ?_
 ·refine go 6 fun a w G H=>?_
  refine cc I (fun d6 I=>?_) fun d6 I=>?_
  ·refine dT H [0,1,2,3,4,5,6] 7 fun K=>?_
   refine eL [0,1,2,3,4,5,6,7,8,9,10,11,12,15,16] fun a G=>?_
   refine dx 13 fun w ep H=>?_
   obtain⟨j4,g9,I⟩:=ade I
   have g1:=lN g9 H (Bf:=Bf) (tb S) q6 f8 f10 f12 f14 f16
   refine dl Tryz.call245 g1 ?_
   rintro v w ⟨rfl,H⟩
   refine ds [0,1,2,3,4,5,6] 7 fun a G=>?_
   refine dx 14 fun w ep H=>?_
   obtain⟨j5,i0,I⟩:=ade I
   have g2:=dL i0 H 
   refine dl oy g2 ?_
   rintro v w ⟨rfl,H⟩
   refine ds [0,1,2,3,4,5,6] 7 fun a G=>?_
   obtain⟨j0,c6,I⟩:=ade I
   refine eL [17] fun a G=>?_
   refine kn 18 fun w ep H=>?_
   refine(aU (vs:=_) iw (H.obj (i:=0) E) G E E E E (aj.len _) (aj.one _) (by have:=(bW c6);rw[aj.len,af.len];omega) (af.pi_regs _ _ _ (by have:=(bW c6);omega)) fun w d0=>?_)
   have H:=H.chg d0 (i:=0) rfl
   try dsimp only[List.set]at H
   refine dh ?_
   refine de fun w H=>?_
   exact lf
  exact lf
 rintro c7 a w I ⟨G,H⟩
 unfold Sh.GV at I
 refine go 9 fun a w G H=>?_
 obtain rfl:=oI I
 refine er zq G H ?_
 exact⟨E,H⟩
theorem jV{x0:ai}{x1:bg}{s1 s3:SV}{cu:List SV}{s7 s9 eK e7:SV}{eN:Nat}{dm:SV}{b0:Nat}{out:(Int×Int×ai)}{w0:World}{Bf:World→Prop}{Lr:List di}(I:Sh.iK x0 x1=some out)(H:au w0 (pt b0 (af.enc (gB x0 s1 s3 s7 s9 eK e7 eN dm)) 203::ak 0 s1 5 x0.ae.cq::ak 0 s3 23 cu::(a_ cu x0.ae.ah)::ak 0 dm 3 x0.a7::Lr))(S:∀ w,au w Lr→Bf w)(q6:cn (dj (X:=UInt8) (a_ cu x0.ae.ah).holds') cu x0.ae.ah)(f8:dj Bf s7 x0.ae.data)(f10:dj Bf s9 x0.ae.sizes)(f12:dj Bf eK x0.code)(f14:dj Bf e7 x0.dq)(f16:jl Bf eN x0.da):Calls Tryz.prog 208 #[.pointer (some ⟨b0,0,none⟩),.agg (bg.enc x1).toArray] w0 (fZ fun v w'=>∃ (g5:SV) (g6:SV) (d4:List SV),v = .tuple #[.int .i64 out.1,.int .i64 out.2.1]∧cn (dj (X:=UInt8) (a_ d4 out.2.2.ae.ah).holds') d4 out.2.2.ae.ah∧au w' (pt b0 (af.enc (af.mk (bq.mk out.2.2.ae.bh g5 g6 s7 s9) eK e7 (some eN) x0.a8 dm x0.at_ x0.steps x0.done)) 203::ak 0 g5 5 out.2.2.ae.cq::ak 0 g6 23 d4::(a_ d4 out.2.2.ae.ah)::ak 0 dm 3 x0.a7::Lr)):=by
 unfold Sh.iK at I
 refine ce Tryz.func208 Tryz.ntmps208 fun a G=>?_
 refine go 8 fun c8 a w G H=>?_
 refine aM G H I (fun F x a w=>match x with|(d2,d1)=>∃ (d5:Nat) (d3:Nat),Fr 84 [(6,.pointer (some ⟨d5,0,none⟩)),(7,.pointer (some ⟨d3,0,none⟩)),(0,.pointer (some ⟨b0,0,none⟩)),(3,.pointer (some ⟨c8,0,none⟩)),(4,.int .i64 0),(5,.int .i64 0)] a∧au w (pt d5 (aj.enc d2) 46::pt d3 (aj.enc d1) 46::pt b0 (af.enc (gB x0 s1 s3 s7 s9 eK e7 eN dm)) 203::pt c8 (bg.enc x1) 101::ak 0 s1 5 x0.ae.cq::ak 0 s3 23 cu::(a_ cu x0.ae.ah)::ak 0 dm 3 x0.a7::Lr)) (fun k2 I j8 G H=>?_) ?_
 ·refine dT H [0,1,2,3,4,5] 6 fun K=>?_
  obtain⟨k5,k1,I⟩:=ade I
  refine eL [0,1,2,3,4,5,6,7,8] fun a G=>?_
  refine vZ K 9 10 11 ada E E ?_ ?_ ?_
  ·refine cA G 9 E E E E E fun w ep H=>?_
   obtain⟨d8,c7,I⟩:=ade I
   have c6:=cH c7 (fU H [1,2,3,4,5,0] 6) (Bf:=Bf) (tb S) q6 f8 f10 f12 f14 f16
   refine dl nt c6 ?_
   rintro v w ⟨rfl,H⟩
   refine ds [5,0,1,2,3,4] 6 fun a G=>?_
   refine fM K 10 11 ada E E ?_ ?_
   ·refine cA G 10 E E E E E fun w ep H=>?_
    refine(bK z46 (zs:=aj.zero.enc) E E fun c0 w c9 c2=>?_)
    have H:=H.plus c2
    try dsimp only[List.set]at H
    refine ds [0,6,1,2,3,4,5] 7 fun a G=>?_
    refine dx 11 fun w ep H=>?_
    refine(bK z46 (zs:=aj.zero.enc) E E fun c1 w d0 c3=>?_)
    have H:=H.plus c3
    try dsimp only[List.set]at H
    refine ds [0,1,7,2,3,4,5,6] 8 fun a G=>?_
    refine kn 12 fun w ep H=>?_
    refine(aU (vs:=_) iw (H.obj (i:=1) E) G E E E E (aj.len _) (aj.one _) (by first|(rw[aj.len,aj.len];decide)|(rw[aj.len];decide)) (bF ((aj.len _).trans (aj.len _).symm)) fun w c4=>?_)
    have H:=H.chg c4 (i:=1) rfl
    try dsimp only[List.set]at H
    refine dh ?_
    refine kn 13 fun w ep H=>?_
    refine(aU (vs:=_) iw (H.obj (i:=0) E) G E E E E (aj.len _) (aj.one _) (by first|(rw[aj.len,aj.len];decide)|(rw[aj.len];decide)) (bF ((aj.len _).trans (aj.len _).symm)) fun w c5=>?_)
    have H:=H.chg c5 (i:=0) rfl
    try dsimp only[List.set]at H
    refine dh ?_
    refine de fun w H=>?_
    refine aB ?_
    exact jr I ⟨c0,c1,G.t,bS H [1,0,2,7,3,4,5,6] 8 E⟩
   refine cA G 11 E E E E E fun w ep H=>?_
   refine(bK z46 (zs:=aj.zero.enc) E E fun c1 w d0 c3=>?_)
   have H:=H.plus c3
   try dsimp only[List.set]at H
   refine ds [0,6,1,2,3,4,5] 7 fun a G=>?_
   refine dx 10 fun w ep H=>?_
   refine(bK z46 (zs:=aj.zero.enc) E E fun c0 w c9 c2=>?_)
   have H:=H.plus c2
   try dsimp only[List.set]at H
   refine ds [0,1,7,2,3,4,5,6] 8 fun a G=>?_
   refine kn 12 fun w ep H=>?_
   refine(aU (vs:=_) iw (H.obj (i:=0) E) G E E E E (aj.len _) (aj.one _) (by first|(rw[aj.len,aj.len];decide)|(rw[aj.len];decide)) (bF ((aj.len _).trans (aj.len _).symm)) fun w c4=>?_)
   have H:=H.chg c4 (i:=0) rfl
   try dsimp only[List.set]at H
   refine dh ?_
   refine kn 13 fun w ep H=>?_
   refine(aU (vs:=_) iw (H.obj (i:=1) E) G E E E E (aj.len _) (aj.one _) (by first|(rw[aj.len,aj.len];decide)|(rw[aj.len];decide)) (bF ((aj.len _).trans (aj.len _).symm)) fun w c5=>?_)
   have H:=H.chg c5 (i:=1) rfl
   try dsimp only[List.set]at H
   refine dh ?_
   refine de fun w H=>?_
   refine aB ?_
   exact jr I ⟨c0,c1,G.t,bS H [0,1,2,7,3,4,5,6] 8 E⟩
  ·refine cA G 10 E E E E E fun w ep H=>?_
   refine(bK z46 (zs:=aj.zero.enc) E E fun c0 w c9 c2=>?_)
   have H:=H.plus c2
   try dsimp only[List.set]at H
   refine ds [0,1,2,3,4,5,6] 7 fun a G=>?_
   refine fM K 9 11 ada E E ?_ ?_
   ·refine cA G 9 E E E E E fun w ep H=>?_
    obtain⟨d8,c7,I⟩:=ade I
    have c6:=cH c7 (fU H [2,3,4,5,6,0,1] 7) (Bf:=Bf) (tb S) q6 f8 f10 f12 f14 f16
    refine dl nt c6 ?_
    rintro v w ⟨rfl,H⟩
    refine ds [5,6,0,1,2,3,4] 7 fun a G=>?_
    refine dx 11 fun w ep H=>?_
    refine(bK z46 (zs:=aj.zero.enc) E E fun c1 w d0 c3=>?_)
    have H:=H.plus c3
    try dsimp only[List.set]at H
    refine ds [0,6,7,1,2,3,4,5] 8 fun a G=>?_
    refine kn 12 fun w ep H=>?_
    refine(aU (vs:=_) iw (H.obj (i:=6) E) G E E E E (aj.len _) (aj.one _) (by first|(rw[aj.len,aj.len];decide)|(rw[aj.len];decide)) (bF ((aj.len _).trans (aj.len _).symm)) fun w c4=>?_)
    have H:=H.chg c4 (i:=6) rfl
    try dsimp only[List.set]at H
    refine dh ?_
    refine kn 13 fun w ep H=>?_
    refine(aU (vs:=_) iw (H.obj (i:=0) E) G E E E E (aj.len _) (aj.one _) (by first|(rw[aj.len,aj.len];decide)|(rw[aj.len];decide)) (bF ((aj.len _).trans (aj.len _).symm)) fun w c5=>?_)
    have H:=H.chg c5 (i:=0) rfl
    try dsimp only[List.set]at H
    refine dh ?_
    refine de fun w H=>?_
    refine aB ?_
    exact jr I ⟨c0,c1,G.t,bS H [6,0,1,7,2,3,4,5] 8 E⟩
   refine cA G 11 E E E E E fun w ep H=>?_
   refine(bK z46 (zs:=aj.zero.enc) E E fun c1 w d0 c3=>?_)
   have H:=H.plus c3
   try dsimp only[List.set]at H
   refine ds [0,1,2,3,4,5,6,7] 8 fun a G=>?_
   refine dx 9 fun w ep H=>?_
   obtain⟨d8,c7,I⟩:=ade I
   have c6:=cH c7 (fU H [3,4,5,6,7,0,1,2] 8) (Bf:=Bf) (tb S) q6 f8 f10 f12 f14 f16
   refine dl nt c6 ?_
   rintro v w ⟨rfl,H⟩
   refine ds [5,6,7,0,1,2,3,4] 8 fun a G=>?_
   refine kn 12 fun w ep H=>?_
   refine(aU (vs:=_) iw (H.obj (i:=6) E) G E E E E (aj.len _) (aj.one _) (by first|(rw[aj.len,aj.len];decide)|(rw[aj.len];decide)) (bF ((aj.len _).trans (aj.len _).symm)) fun w c4=>?_)
   have H:=H.chg c4 (i:=6) rfl
   try dsimp only[List.set]at H
   refine dh ?_
   refine kn 13 fun w ep H=>?_
   refine(aU (vs:=_) iw (H.obj (i:=5) E) G E E E E (aj.len _) (aj.one _) (by first|(rw[aj.len,aj.len];decide)|(rw[aj.len];decide)) (bF ((aj.len _).trans (aj.len _).symm)) fun w c5=>?_)
   have H:=H.chg c5 (i:=5) rfl
   try dsimp only[List.set]at H
   refine dh ?_
   refine de fun w H=>?_
   refine aB ?_
   exact jr I ⟨c0,c1,G.t,bS H [6,5,0,7,1,2,3,4] 8 E⟩
  refine cA G 11 E E E E E fun w ep H=>?_
  refine(bK z46 (zs:=aj.zero.enc) E E fun c1 w d0 c3=>?_)
  have H:=H.plus c3
  try dsimp only[List.set]at H
  refine ds [0,1,2,3,4,5,6] 7 fun a G=>?_
  refine fM K 9 10 ada E E ?_ ?_
  ·refine cA G 9 E E E E E fun w ep H=>?_
   obtain⟨d8,c7,I⟩:=ade I
   have c6:=cH c7 (fU H [2,3,4,5,6,0,1] 7) (Bf:=Bf) (tb S) q6 f8 f10 f12 f14 f16
   refine dl nt c6 ?_
   rintro v w ⟨rfl,H⟩
   refine ds [5,6,0,1,2,3,4] 7 fun a G=>?_
   refine dx 10 fun w ep H=>?_
   refine(bK z46 (zs:=aj.zero.enc) E E fun c0 w c9 c2=>?_)
   have H:=H.plus c2
   try dsimp only[List.set]at H
   refine ds [0,6,7,1,2,3,4,5] 8 fun a G=>?_
   refine kn 12 fun w ep H=>?_
   refine(aU (vs:=_) iw (H.obj (i:=0) E) G E E E E (aj.len _) (aj.one _) (by first|(rw[aj.len,aj.len];decide)|(rw[aj.len];decide)) (bF ((aj.len _).trans (aj.len _).symm)) fun w c4=>?_)
   have H:=H.chg c4 (i:=0) rfl
   try dsimp only[List.set]at H
   refine dh ?_
   refine kn 13 fun w ep H=>?_
   refine(aU (vs:=_) iw (H.obj (i:=6) E) G E E E E (aj.len _) (aj.one _) (by first|(rw[aj.len,aj.len];decide)|(rw[aj.len];decide)) (bF ((aj.len _).trans (aj.len _).symm)) fun w c5=>?_)
   have H:=H.chg c5 (i:=6) rfl
   try dsimp only[List.set]at H
   refine dh ?_
   refine de fun w H=>?_
   refine aB ?_
   exact jr I ⟨c0,c1,G.t,bS H [0,6,1,7,2,3,4,5] 8 E⟩
  refine cA G 10 E E E E E fun w ep H=>?_
  refine(bK z46 (zs:=aj.zero.enc) E E fun c0 w c9 c2=>?_)
  have H:=H.plus c2
  try dsimp only[List.set]at H
  refine ds [0,1,2,3,4,5,6,7] 8 fun a G=>?_
  refine dx 9 fun w ep H=>?_
  obtain⟨d8,c7,I⟩:=ade I
  have c6:=cH c7 (fU H [3,4,5,6,7,0,1,2] 8) (Bf:=Bf) (tb S) q6 f8 f10 f12 f14 f16
  refine dl nt c6 ?_
  rintro v w ⟨rfl,H⟩
  refine ds [5,6,7,0,1,2,3,4] 8 fun a G=>?_
  refine eL [12,13] fun a G=>?_
  refine de fun w H=>?_
  refine aB ?_
  exact jr I ⟨c0,c1,G.t,bS H [5,6,0,7,1,2,3,4] 8 E⟩
 rintro⟨d2,d1⟩ a w I ⟨d5,d3,G,H⟩
 replace I:Sh.rH x0 x1 d2 d1=_:=I
 unfold Sh.rH at I
 refine go 14 fun a w G H=>?_
 refine jm (pt d5 (aj.enc d2) 46::pt d3 (aj.enc d1) 46::pt b0 (af.enc (gB x0 s1 s3 s7 s9 eK e7 eN dm)) 203::pt c8 (bg.enc x1) 101::ak 0 s1 5 x0.ae.cq::ak 0 s3 23 cu::(a_ cu x0.ae.ah)::ak 0 dm 3 x0.a7::Lr) G H I [0,3,4,5,6,7,8] (fun g1 u=>(24,.bool g1)::u) (fun k3 I j9 G H=>?_) fun g1 a w I G H=>?_
 ·refine go 2 fun a w G H=>?_
  obtain⟨k7,i9,I⟩:=ade I
  have i4:=eO i9 H 
  refine cl si i4 ?_
  rintro v w ⟨rfl,H⟩ a G
  exact lf
 replace I:Sh.lS x0 x1 d2 d1 g1=_:=I
 unfold Sh.lS at I
 refine aB ?_
 refine cc I (fun g8 I=>?_) fun g8 I=>?_
 ·refine go 7 fun a w G H=>?_
  obtain rfl:=oI I
  refine er vz G H ?_
  exact⟨s1,s3,cu,E,q6,bS H [2,4,5,6,7] 8 E⟩
 refine go 8 fun a w G H=>?_
 refine cc I (fun g9 I=>?_) fun g9 I=>?_
 ·refine go 7 fun a w G H=>?_
  obtain rfl:=oI I
  refine er vz G H ?_
  exact⟨s1,s3,cu,E,q6,bS H [2,4,5,6,7] 8 E⟩
 refine aH ?_
 refine dT H [0,1,2,3,4,5,6,7] 8 fun K=>?_
 refine eL [0,1,2,3,4,5,6] fun a G=>?_
 refine dx 7 fun w ep H=>?_
 obtain⟨k8,j0,I⟩:=ade I
 have i5:=fJ j0 (fU H [2,4,5,6,7,0,1,3] 8) (Bf:=Bf) (tb S) q6 f8 f10 f12 f14 f16
 refine dl Tryz.call243 i5 ?_
 rintro v w ⟨rfl,H⟩
 refine ds [5,6,0,7,1,2,3,4] 8 fun a G=>?_
 refine eL [8,9] fun a G=>?_
 refine de fun w H=>?_
 refine aB ?_
 refine cc I (fun i0 I=>?_) fun i0 I=>?_
 ·refine go 7 fun a w G H=>?_
  obtain rfl:=oI I
  refine er vz G H ?_
  exact⟨s1,s3,cu,E,q6,bS H [0,1,2,3,4] 8 E⟩
 refine go 3 fun a w G H=>?_
 obtain⟨k9,j1,I⟩:=ade I
 have i6:=dC j1 H 
 refine cl nW i6 ?_
 rintro v w ⟨rfl,H⟩ a G
 refine go 3 fun a w G H=>?_
 refine cc I (fun i1 I=>?_) fun i1 I=>?_
 ·refine aH ?_
  refine dT H [0,1,2,3,4,5,6,7] 8 fun K=>?_
  refine eL [0,1,2,3,4,5,6,7,8] fun a G=>?_
  refine dx 9 fun w ep H=>?_
  obtain⟨j6,j2,I⟩:=ade I
  have i7:=sR j2 H 
  refine dl Tryz.call247 i7 ?_
  rintro v w ⟨j5,rfl,H⟩
  refine ds [0,1,2,3,4,5,6,7,8] 9 fun a G=>?_
  refine dx 10 fun w ep H=>?_
  obtain⟨g3,j3,I⟩:=ade I
  have i8:=fQ j3 (bS H [1,2,3,4,5,0,6,7,8] 9 rfl) (fun _ h=>h) q6 (fun w H=>(f8 _ (S _ (fc H 4)))) (fun w H=>(f10 _ (S _ (fc H 4)))) (fun w H=>(f12 _ (S _ (fc H 4)))) (fun w H=>(f14 _ (S _ (fc H 4)))) (fun w H=>f16 _ (S _ (fc H 4))) (fun w H=>(H.rowS (X:=UInt8) (i:=0) rfl))
  refine dl Tryz.call246 i8 ?_
  rintro v w ⟨d9,g0,d6,rfl,j4,H⟩
  replace H:au _ (pt b0 (af.enc (af.mk (bq.mk g3.ae.bh d9 g0 s7 s9) eK e7 (some eN) x0.a8 dm x0.at_ x0.steps x0.done)) 203::ak 0 d9 5 g3.ae.cq::ak 0 g0 23 d6::(a_ d6 g3.ae.ah)::ak 0 dm 3 x0.a7::ak 0 j5 5 j6::pt d5 (aj.enc d2) 46::pt d3 (aj.enc d1) 46::pt c8 (bg.enc x1) 101::Lr):=H
  refine dh fun a G=>?_
  refine de fun w H=>?_
  refine go 8 fun a w G H=>?_
  obtain rfl:=oI I
  refine er vz G H ?_
  exact⟨d9,g0,d6,E,j4,bS H [0,1,2,3,4] 9 E⟩
 refine aH ?_
 refine jm (pt b0 (af.enc (gB x0 s1 s3 s7 s9 eK e7 eN dm)) 203::pt d3 (aj.enc d1) 46::ak 0 s1 5 x0.ae.cq::ak 0 s3 23 cu::(a_ cu x0.ae.ah)::ak 0 dm 3 x0.a7::Lr) G H I [0,4,5,7,8] (fun g2 u=>(61,.bool g2)::u) (fun k4 I k0 G H=>?_) fun g2 a w I G H=>?_
 ·refine go 5 fun a w G H=>?_
  refine gs I (fun i2 I=>?_) fun i2 I=>?_
  ·refine go 12 fun a w G H=>?_
   exact jr I ⟨G.t,bS H [0,6,1,2,3,4] 8 E⟩
  refine go 5 fun a w G H=>?_
  refine gs I (fun g4 I=>?_) fun g4 I=>?_
  ·refine go 7 fun a w G H=>?_
   exact jr I ⟨G.t,bS H [0,6,1,2,3,4] 8 E⟩
  refine go 1 fun a w G H=>?_
  refine aO G E E E g4 (nU G E E E (by decide)) E E fun a G=>?_
  refine go 5 fun a w G H=>?_
  exact jr I ⟨G.t,bS H [0,6,1,2,3,4] 8 E⟩
 replace I:Sh.lT x0 x1 d2 d1 g2=_:=I
 unfold Sh.lT at I
 refine aB ?_
 refine cc I (fun i3 I=>?_) fun i3 I=>?_
 ·refine go 7 fun a w G H=>?_
  obtain rfl:=oI I
  refine er vz G H ?_
  exact⟨s1,s3,cu,E,q6,bS H [0,2,3,4,5] 6 E⟩
 refine go 4 fun a w G H=>?_
 refine dT H [0,1,2,3,4,5] 6 fun K=>?_
 refine eL [0,1] fun a G=>?_
 refine aK G K 2 E ada E E E (fun w H=>(sF G E E E (by decide))) fun a G=>?_
 refine eL [3] fun a G=>?_
 refine aK G K 4 E ada E E E (fun w H=>(aW z50 Tryz.underlying50 Ji G (parts:=[(0,.tmp 78)]) E E (fC E (aj.len _) (by rw[aj.len,bn.len];decide) (bn.p_ptr _ _) bD))) fun a G=>?_
 obtain⟨k6,d7,I⟩:=ade I
 have j7:=aL d7
 refine eL [5,6,7,8] fun a G=>?_
 refine kn 9 fun w ep H=>?_
 refine(aU (vs:=_) Tryz.sizeOf50 (H.obj (i:=0) E) G E E E E (bn.len _) (bn.one _) (by have:=(bW d7);rw[bn.len,af.len];omega) (af.pi_memory_stack _ _ _ (by have:=(bW d7);omega)) fun w g7=>?_)
 have H:=H.chg g7 (i:=0) rfl
 try dsimp only[List.set]at H
 refine dh ?_
 refine de fun w H=>?_
 refine go 8 fun a w G H=>?_
 obtain rfl:=oI I
 refine er vz G H ?_
 exact⟨s1,s3,cu,E,q6,bS H [0,2,3,4,5] 6 E⟩
theorem kG{x0:ai}{x1:bg}{s1 s3:SV}{cu:List SV}{s7 s9 eK e7:SV}{eN:Nat}{dm:SV}{b0:Nat}{out:(Int×Int×ai)}{w0:World}{Bf:World→Prop}{Lr:List di}(I:Sh.jT x0 x1=some out)(H:au w0 (pt b0 (af.enc (gB x0 s1 s3 s7 s9 eK e7 eN dm)) 203::ak 0 s1 5 x0.ae.cq::ak 0 s3 23 cu::(a_ cu x0.ae.ah)::ak 0 dm 3 x0.a7::Lr))(S:∀ w,au w Lr→Bf w)(q6:cn (dj (X:=UInt8) (a_ cu x0.ae.ah).holds') cu x0.ae.ah)(f8:dj Bf s7 x0.ae.data)(f10:dj Bf s9 x0.ae.sizes)(f12:dj Bf eK x0.code)(f14:dj Bf e7 x0.dq)(f16:jl Bf eN x0.da):Calls Tryz.prog 209 #[.pointer (some ⟨b0,0,none⟩),.agg (bg.enc x1).toArray] w0 (fZ fun v w'=>∃ (d3:SV) (d4:SV) (c2:List SV),v = .tuple #[.int .i64 out.1,.int .i64 out.2.1]∧cn (dj (X:=UInt8) (a_ c2 out.2.2.ae.ah).holds') c2 out.2.2.ae.ah∧au w' (pt b0 (af.enc (af.mk (bq.mk out.2.2.ae.bh d3 d4 s7 s9) eK e7 (some eN) out.2.2.a8 dm x0.at_ x0.steps x0.done)) 203::ak 0 d3 5 out.2.2.ae.cq::ak 0 d4 23 c2::(a_ c2 out.2.2.ae.ah)::ak 0 dm 3 x0.a7::Lr)):=by
 unfold Sh.jT at I
 refine ce Tryz.func209 Tryz.ntmps209 fun a G=>?_
 refine go 8 fun c3 a w G H=>?_
 refine dT H [0,1,2,3,4,5] 6 fun K=>?_
 obtain⟨c8,k2,I⟩:=ade I
 refine eL [0,1,2,3,4,5,6,7,8] fun c4 a G=>?_
 refine de fun w H=>?_
 refine go 14 fun a w G H=>?_
 refine jm (pt c4 (aj.enc c8) 46::pt c3 (bg.enc x1) 101::pt b0 (af.enc (gB x0 s1 s3 s7 s9 eK e7 eN dm)) 203::ak 0 s1 5 x0.ae.cq::ak 0 s3 23 cu::(a_ cu x0.ae.ah)::ak 0 dm 3 x0.a7::Lr) G H I [0,3,4,5,6,7] (fun c7 u=>(22,.bool c7)::u) (fun k5 I k0 G H=>?_) fun c7 a w I G H=>?_
 ·refine dT H [0,1,2,3,4,5,6] 7 fun K=>?_
  refine eL [0] fun a G=>?_
  refine dx 1 fun w ep H=>?_
  obtain⟨l1,i6,I⟩:=ade I
  have g5:=eO i6 H 
  refine dl si g5 ?_
  rintro v w ⟨rfl,H⟩
  refine ds [0,1,2,3,4,5,6] 7 fun a G=>?_
  refine eL [2,3] fun a G=>?_
  refine gs I (fun c9 I=>?_) fun c9 I=>?_
  ·refine eL [4,5,6,7,8,9,10,11,12,13,14,15,16,17,18,19,20,21,22,23,24,25,26,27,28] fun a G=>?_
   refine de fun w H=>?_
   exact lf
  obtain⟨k7,k3,I⟩:=ade I
  refine eL [4,5,6,7,8,9,10] fun a G=>?_
  refine bN K 11 ada E E ?_
  refine lK G 11 E E E E E c9 E E fun w ep H=>?_
  obtain⟨l2,i7,I⟩:=ade I
  have g6:=dC i7 H 
  refine dl nW g6 ?_
  rintro v w ⟨rfl,H⟩
  refine ds [0,1,2,3,4,5,6] 7 fun a G=>?_
  refine eL [12,13,14] fun a G=>?_
  refine gs I (fun d8 I=>?_) fun d8 I=>?_
  ·refine eL [15,16,17,18,19,20,21,22,23,24,25,26,27,28] fun a G=>?_
   refine de fun w H=>?_
   exact lf
  refine eL [15,16,17,18] fun a G=>?_
  refine gs I (fun d0 I=>?_) fun d0 I=>?_
  ·obtain⟨k8,k4,I⟩:=ade I
   refine eL [19,20,21,22,23] fun a G=>?_
   refine bN K 24 ada E E ?_
   refine lK G 24 E E E E E d0 E E fun w ep H=>?_
   obtain⟨l3,i8,I⟩:=ade I
   have g7:=dC i8 H 
   refine dl nW g7 ?_
   rintro v w ⟨rfl,H⟩
   refine ds [0,1,2,3,4,5,6] 7 fun a G=>?_
   refine eL [25,26,27,28] fun a G=>?_
   refine de fun w H=>?_
   exact lf
  refine eL [19,20,21,22,23,24,25,26,27,28] fun a G=>?_
  refine de fun w H=>?_
  exact lf
 replace I:Sh.nF x0 x1 c8 c7=_:=I
 unfold Sh.nF at I
 refine aB ?_
 refine cc I (fun d9 I=>?_) fun d9 I=>?_
 ·refine go 7 fun a w G H=>?_
  obtain rfl:=oI I
  refine er ya G H ?_
  exact⟨s1,s3,cu,E,q6,bS H [2,3,4,5,6] 7 E⟩
 refine go 8 fun a w G H=>?_
 refine cc I (fun g0 I=>?_) fun g0 I=>?_
 ·refine go 7 fun a w G H=>?_
  obtain rfl:=oI I
  refine er ya G H ?_
  exact⟨s1,s3,cu,E,q6,bS H [2,3,4,5,6] 7 E⟩
 refine aH ?_
 refine dT H [0,1,2,3,4,5,6] 7 fun K=>?_
 refine eL [0,1,2,3,4,5,6] fun a G=>?_
 refine dx 7 fun w ep H=>?_
 obtain⟨l4,i9,I⟩:=ade I
 have g8:=fJ i9 (fU H [2,3,4,5,6,0,1] 7) (Bf:=Bf) (tb S) q6 f8 f10 f12 f14 f16
 refine dl Tryz.call243 g8 ?_
 rintro v w ⟨rfl,H⟩
 refine ds [5,6,0,1,2,3,4] 7 fun a G=>?_
 refine eL [8,9] fun a G=>?_
 refine de fun w H=>?_
 refine aB ?_
 refine cc I (fun g1 I=>?_) fun g1 I=>?_
 ·refine go 7 fun a w G H=>?_
  obtain rfl:=oI I
  refine er ya G H ?_
  exact⟨s1,s3,cu,E,q6,bS H [0,1,2,3,4] 7 E⟩
 refine go 5 fun a w G H=>?_
 refine dT H [0,1,2,3,4,5,6] 7 fun K=>?_
 refine eL [0,1,2,3,4,5,6] fun a G=>?_
 refine dx 7 fun w ep H=>?_
 obtain⟨l5,j0,I⟩:=ade I
 have g9:=gA j0 H (Bf:=Bf) (tb S) q6 f8 f10 f12 f14 f16
 refine dl Tryz.call244 g9 ?_
 rintro v w ⟨rfl,H⟩
 refine ds [0,1,2,3,4,5,6] 7 fun a G=>?_
 refine eL [8] fun a G=>?_
 refine de fun w H=>?_
 refine go 7 fun a w G H=>?_
 refine cc I (fun g2 I=>?_) fun g2 I=>?_
 ·refine go 8 fun a w G H=>?_
  obtain rfl:=oI I
  refine er ya G H ?_
  exact⟨s1,s3,cu,E,q6,bS H [0,1,2,3,4] 7 E⟩
 refine go 3 fun a w G H=>?_
 refine dT H [0,1,2,3,4,5,6] 7 fun K=>?_
 refine eL [0,1,2,3,4,5,6] fun a G=>?_
 refine dx 7 fun w ep H=>?_
 obtain⟨l6,j1,I⟩:=ade I
 have i0:=lN j1 H (Bf:=Bf) (tb S) q6 f8 f10 f12 f14 f16
 refine dl Tryz.call245 i0 ?_
 rintro v w ⟨rfl,H⟩
 refine ds [0,1,2,3,4,5,6] 7 fun a G=>?_
 refine eL [8] fun a G=>?_
 refine de fun w H=>?_
 refine go 2 fun a w G H=>?_
 refine dT H [0,1,2,3,4,5,6] 7 fun K=>?_
 refine eL [0,1,2,3,4,5,6,7,8,9] fun a G=>?_
 refine dx 10 fun w ep H=>?_
 obtain⟨l7,j2,I⟩:=ade I
 have i1:=oQ j2 H (Bf:=Bf) (tb S) q6 f8 f10 f12 f14 f16
 refine dl Tryz.call248 i1 ?_
 rintro v w ⟨rfl,H⟩
 refine ds [0,1,2,3,4,5,6] 7 fun a G=>?_
 refine dx 11 fun w ep H=>?_
 obtain⟨j9,j3,I⟩:=ade I
 have i2:=sR j3 H 
 refine dl Tryz.call247 i2 ?_
 rintro v w ⟨j8,rfl,H⟩
 refine ds [0,1,2,3,4,5,6,7] 8 fun a G=>?_
 refine dx 12 fun w ep H=>?_
 obtain⟨c1,j4,I⟩:=ade I
 have i3:=fQ j4 (bS H [1,2,3,4,5,0,6,7] 8 rfl) (fun _ h=>h) q6 (fun w H=>(f8 _ (S _ (fc H 3)))) (fun w H=>(f10 _ (S _ (fc H 3)))) (fun w H=>(f12 _ (S _ (fc H 3)))) (fun w H=>(f14 _ (S _ (fc H 3)))) (fun w H=>f16 _ (S _ (fc H 3))) (fun w H=>(H.rowS (X:=UInt8) (i:=0) rfl))
 refine dl Tryz.call246 i3 ?_
 rintro v w ⟨c5,c6,c0,rfl,j7,H⟩
 replace H:au _ (pt b0 (af.enc (af.mk (bq.mk c1.ae.bh c5 c6 s7 s9) eK e7 (some eN) x0.a8 dm x0.at_ x0.steps x0.done)) 203::ak 0 c5 5 c1.ae.cq::ak 0 c6 23 c0::(a_ c0 c1.ae.ah)::ak 0 dm 3 x0.a7::ak 0 j8 5 j9::pt c4 (aj.enc c8) 46::pt c3 (bg.enc x1) 101::Lr):=H
 refine dh fun a G=>?_
 refine de fun w H=>?_
 refine go 2 fun a w G H=>?_
 refine aM G H I (fun F x a w=>match x with|d5=>Fr 118 [(4,.int .i64 0),(5,.int .i64 0)] a∧au w (pt b0 (af.enc (af.mk (bq.mk c1.ae.bh c5 c6 s7 s9) eK e7 (some eN) d5 dm x0.at_ x0.steps x0.done)) 203::ak 0 c5 5 c1.ae.cq::ak 0 c6 23 c0::(a_ c0 c1.ae.ah)::ak 0 dm 3 x0.a7::Lr)) (fun k6 I k1 G H=>?_) ?_
 ·refine go 7 fun a w G H=>?_
  refine cc I (fun g3 I=>?_) fun g3 I=>?_
  ·refine dT H [0,1,2,3,4,5,6,7] 8 fun K=>?_
   refine eL [0,1,3,4] fun a G=>?_
   refine dx 2 fun w ep H=>?_
   obtain⟨l8,j5,I⟩:=ade I
   have i4:=dL j5 H 
   refine dl oy i4 ?_
   rintro v w ⟨rfl,H⟩
   refine ds [0,1,2,3,4,5,6,7] 8 fun a G=>?_
   obtain⟨k9,d1,I⟩:=ade I
   refine eL [5] fun a G=>?_
   refine kn 6 fun w ep H=>?_
   refine(aU (vs:=_) iw (H.obj (i:=0) E) G E E E E (aj.len _) (aj.one _) (by have:=(bW d1);rw[aj.len,af.len];omega) (af.pi_regs _ _ _ (by have:=(bW d1);omega)) fun w d6=>?_)
   have H:=H.chg d6 (i:=0) rfl
   try dsimp only[List.set]at H
   refine dh ?_
   refine de fun w H=>?_
   exact lf
  refine go 8 fun a w G H=>?_
  refine cc I (fun g4 I=>?_) fun g4 I=>?_
  ·refine dT H [0,1,2,3,4,5,6,7] 8 fun K=>?_
   refine eL [0,1,2,3,5,6] fun a G=>?_
   refine dx 4 fun w ep H=>?_
   obtain⟨l9,j6,I⟩:=ade I
   have i5:=dL j6 H 
   refine dl oy i5 ?_
   rintro v w ⟨rfl,H⟩
   refine ds [0,1,2,3,4,5,6,7] 8 fun a G=>?_
   obtain⟨l0,d2,I⟩:=ade I
   refine eL [7] fun a G=>?_
   refine kn 8 fun w ep H=>?_
   refine(aU (vs:=_) iw (H.obj (i:=0) E) G E E E E (aj.len _) (aj.one _) (by have:=(bW d2);rw[aj.len,af.len];omega) (af.pi_regs _ _ _ (by have:=(bW d2);omega)) fun w d7=>?_)
   have H:=H.chg d7 (i:=0) rfl
   try dsimp only[List.set]at H
   refine dh ?_
   refine de fun w H=>?_
   exact lf
  exact lf
 rintro d5 a w I ⟨G,H⟩
 unfold Sh.aAo at I
 refine go 8 fun a w G H=>?_
 obtain rfl:=oI I
 refine er ya G H ?_
 exact⟨c5,c6,c0,E,j7,H⟩
end Go.Proofs
end
section
namespace Go.Proofs
open Go.Fw Go.Fx
set_option maxRecDepth 10000
theorem Eo{c:Int}{f:Nat}(h:Fx.il vg c=some f):∀ args w,(callFunc f args).run Tryz.prog w = .ok (.enter f args) w:=by
 rw[vg]at h
 rw[bZ]at h
 by_cases h1:c=1
 ·rw[aay h1]at h;cases h;exact Tryz.call316
 rw[aaz h1]at h;clear h1
 rw[bZ]at h
 by_cases h1:c=2
 ·rw[aay h1]at h;cases h;exact Tryz.call317
 rw[aaz h1]at h;clear h1
 rw[bZ]at h
 by_cases h1:c=3
 ·rw[aay h1]at h;cases h;exact Tryz.call318
 rw[aaz h1]at h;clear h1
 rw[bZ]at h
 by_cases h1:c=4
 ·rw[aay h1]at h;cases h;exact Tryz.call319
 rw[aaz h1]at h;clear h1
 rw[bZ]at h
 by_cases h1:c=5
 ·rw[aay h1]at h;cases h;exact Tryz.call320
 rw[aaz h1]at h;clear h1
 rw[bZ]at h
 by_cases h1:c=6
 ·rw[aay h1]at h;cases h;exact Tryz.call321
 rw[aaz h1]at h;clear h1
 rw[bZ]at h
 by_cases h1:c=7
 ·rw[aay h1]at h;cases h;exact Tryz.call322
 rw[aaz h1]at h;clear h1
 rw[bZ]at h
 by_cases h1:c=8
 ·rw[aay h1]at h;cases h;exact Tryz.call323
 rw[aaz h1]at h;clear h1
 rw[bZ]at h
 by_cases h1:c=9
 ·rw[aay h1]at h;cases h;exact Tryz.call324
 rw[aaz h1]at h;clear h1
 rw[bZ]at h
 by_cases h1:c=10
 ·rw[aay h1]at h;cases h;exact Tryz.call325
 rw[aaz h1]at h;clear h1
 rw[bZ]at h
 by_cases h1:c=11
 ·rw[aay h1]at h;cases h;exact Tryz.call326
 rw[aaz h1]at h;clear h1
 rw[bZ]at h
 by_cases h1:c=12
 ·rw[aay h1]at h;cases h;exact Tryz.call327
 rw[aaz h1]at h;clear h1
 rw[bZ]at h
 by_cases h1:c=13
 ·rw[aay h1]at h;cases h;exact Tryz.call328
 rw[aaz h1]at h;clear h1
 rw[bZ]at h
 by_cases h1:c=14
 ·rw[aay h1]at h;cases h;exact Tryz.call329
 rw[aaz h1]at h;clear h1
 rw[bZ]at h
 by_cases h1:c=15
 ·rw[aay h1]at h;cases h;exact Tryz.call330
 rw[aaz h1]at h;clear h1
 cases h
theorem zJ{c a b out:Int}{f:Nat}{w0:World}{Lr:List di}(h:Fx.il vg c=some f)(I:Sh.Ce c a b=some out)(H:au w0 (Lr)):Calls Tryz.prog f #[.int .u64 a,.int .u64 b] w0 (fZ fun v w'=>v = .int .u64 out∧au w' (Lr)):=by
 rw[vg]at h
 unfold Sh.Ce at I
 rw[bZ]at h
 by_cases h1:c=1
 ·rw[aay h1]at h;cases h;exact uE (Fx.cT (aaV h1) I) H
 rw[aaz h1]at h;replace I:=Fx.cF (aaW h1) I;clear h1
 rw[bZ]at h
 by_cases h1:c=2
 ·rw[aay h1]at h;cases h;exact uN (Fx.cT (aaV h1) I) H
 rw[aaz h1]at h;replace I:=Fx.cF (aaW h1) I;clear h1
 rw[bZ]at h
 by_cases h1:c=3
 ·rw[aay h1]at h;cases h;exact uK (Fx.cT (aaV h1) I) H
 rw[aaz h1]at h;replace I:=Fx.cF (aaW h1) I;clear h1
 rw[bZ]at h
 by_cases h1:c=4
 ·rw[aay h1]at h;cases h;exact uG (Fx.cT (aaV h1) I) H
 rw[aaz h1]at h;replace I:=Fx.cF (aaW h1) I;clear h1
 rw[bZ]at h
 by_cases h1:c=5
 ·rw[aay h1]at h;cases h;exact uI (Fx.cT (aaV h1) I) H
 rw[aaz h1]at h;replace I:=Fx.cF (aaW h1) I;clear h1
 rw[bZ]at h
 by_cases h1:c=6
 ·rw[aay h1]at h;cases h;exact sT (Fx.cT (aaV h1) I) H
 rw[aaz h1]at h;replace I:=Fx.cF (aaW h1) I;clear h1
 rw[bZ]at h
 by_cases h1:c=7
 ·rw[aay h1]at h;cases h;exact sU (Fx.cT (aaV h1) I) H
 rw[aaz h1]at h;replace I:=Fx.cF (aaW h1) I;clear h1
 rw[bZ]at h
 by_cases h1:c=8
 ·rw[aay h1]at h;cases h;exact vP (Fx.cT (aaV h1) I) H
 rw[aaz h1]at h;replace I:=Fx.cF (aaW h1) I;clear h1
 rw[bZ]at h
 by_cases h1:c=9
 ·rw[aay h1]at h;cases h;exact uF (Fx.cT (aaV h1) I) H
 rw[aaz h1]at h;replace I:=Fx.cF (aaW h1) I;clear h1
 rw[bZ]at h
 by_cases h1:c=10
 ·rw[aay h1]at h;cases h;exact uO (Fx.cT (aaV h1) I) H
 rw[aaz h1]at h;replace I:=Fx.cF (aaW h1) I;clear h1
 rw[bZ]at h
 by_cases h1:c=11
 ·rw[aay h1]at h;cases h;exact uH (Fx.cT (aaV h1) I) H
 rw[aaz h1]at h;replace I:=Fx.cF (aaW h1) I;clear h1
 rw[bZ]at h
 by_cases h1:c=12
 ·rw[aay h1]at h;cases h;exact uM (Fx.cT (aaV h1) I) H
 rw[aaz h1]at h;replace I:=Fx.cF (aaW h1) I;clear h1
 rw[bZ]at h
 by_cases h1:c=13
 ·rw[aay h1]at h;cases h;exact sS (Fx.cT (aaV h1) I) H
 rw[aaz h1]at h;replace I:=Fx.cF (aaW h1) I;clear h1
 rw[bZ]at h
 by_cases h1:c=14
 ·rw[aay h1]at h;cases h;exact uL (Fx.cT (aaV h1) I) H
 rw[aaz h1]at h;replace I:=Fx.cF (aaW h1) I;clear h1
 rw[bZ]at h
 by_cases h1:c=15
 ·rw[aay h1]at h;cases h;exact uJ (Fx.cT (aaV h1) I) H
 rw[aaz h1]at h;replace I:=Fx.cF (aaW h1) I;clear h1
 cases h
theorem TS{w0:World}{Lr:List di}(H:au w0 (Lr)):Calls Tryz.prog 288 #[] w0 (fZ fun v w'=>∃ b:Nat,v = .map (some b)∧au w' (.obj b (pq vg)::Lr)):=by
 refine ce Tryz.func288 Tryz.ntmps288 fun a G=>?_
 refine go 7 fun a w G H=>?_
 refine aN G E E E (O7 E fun b w hz hA=>?_)
 have H:=H.plus hA
 intro a G
 refine bE E E (eG (m:=[(1,316)]) E jv qh G E E E E (H.hold 0 _ E) fun w h=>?_)
 have H:=H.chg h (i:=0) rfl
 refine bE E E (eG (m:=[(1,316),(2,317)]) E jv qh G E E E E (H.hold 0 _ E) fun w h=>?_)
 have H:=H.chg h (i:=0) rfl
 refine bE E E (eG (m:=[(1,316),(2,317),(3,318)]) E jv qh G E E E E (H.hold 0 _ E) fun w h=>?_)
 have H:=H.chg h (i:=0) rfl
 refine bE E E (eG (m:=[(1,316),(2,317),(3,318),(4,319)]) E jv qh G E E E E (H.hold 0 _ E) fun w h=>?_)
 have H:=H.chg h (i:=0) rfl
 refine bE E E (eG (m:=[(1,316),(2,317),(3,318),(4,319),(5,320)]) E jv qh G E E E E (H.hold 0 _ E) fun w h=>?_)
 have H:=H.chg h (i:=0) rfl
 refine bE E E (eG (m:=[(1,316),(2,317),(3,318),(4,319),(5,320),(6,321)]) E jv qh G E E E E (H.hold 0 _ E) fun w h=>?_)
 have H:=H.chg h (i:=0) rfl
 refine bE E E (eG (m:=[(1,316),(2,317),(3,318),(4,319),(5,320),(6,321),(7,322)]) E jv qh G E E E E (H.hold 0 _ E) fun w h=>?_)
 have H:=H.chg h (i:=0) rfl
 refine bE E E (eG (m:=[(1,316),(2,317),(3,318),(4,319),(5,320),(6,321),(7,322),(8,323)]) E jv qh G E E E E (H.hold 0 _ E) fun w h=>?_)
 have H:=H.chg h (i:=0) rfl
 refine bE E E (eG (m:=[(1,316),(2,317),(3,318),(4,319),(5,320),(6,321),(7,322),(8,323),(9,324)]) E jv qh G E E E E (H.hold 0 _ E) fun w h=>?_)
 have H:=H.chg h (i:=0) rfl
 refine bE E E (eG (m:=[(1,316),(2,317),(3,318),(4,319),(5,320),(6,321),(7,322),(8,323),(9,324),(10,325)]) E jv qh G E E E E (H.hold 0 _ E) fun w h=>?_)
 have H:=H.chg h (i:=0) rfl
 refine bE E E (eG (m:=[(1,316),(2,317),(3,318),(4,319),(5,320),(6,321),(7,322),(8,323),(9,324),(10,325),(11,326)]) E jv qh G E E E E (H.hold 0 _ E) fun w h=>?_)
 have H:=H.chg h (i:=0) rfl
 refine bE E E (eG (m:=[(1,316),(2,317),(3,318),(4,319),(5,320),(6,321),(7,322),(8,323),(9,324),(10,325),(11,326),(12,327)]) E jv qh G E E E E (H.hold 0 _ E) fun w h=>?_)
 have H:=H.chg h (i:=0) rfl
 refine bE E E (eG (m:=[(1,316),(2,317),(3,318),(4,319),(5,320),(6,321),(7,322),(8,323),(9,324),(10,325),(11,326),(12,327),(13,328)]) E jv qh G E E E E (H.hold 0 _ E) fun w h=>?_)
 have H:=H.chg h (i:=0) rfl
 refine bE E E (eG (m:=[(1,316),(2,317),(3,318),(4,319),(5,320),(6,321),(7,322),(8,323),(9,324),(10,325),(11,326),(12,327),(13,328),(14,329)]) E jv qh G E E E E (H.hold 0 _ E) fun w h=>?_)
 have H:=H.chg h (i:=0) rfl
 refine bE E E (eG (m:=[(1,316),(2,317),(3,318),(4,319),(5,320),(6,321),(7,322),(8,323),(9,324),(10,325),(11,326),(12,327),(13,328),(14,329),(15,330)]) E jv qh G E E E E (H.hold 0 _ E) fun w h=>?_)
 have H:=H.chg h (i:=0) rfl
 refine go 5 fun a w G H=>?_
 refine aT Tryz.results288 G E ?_
 exact⟨b,E,H⟩
theorem Hj{c:Int}{f:Nat}(h:Fx.il mN c=some f):∀ args w,(callFunc f args).run Tryz.prog w = .ok (.enter f args) w:=by
 rw[mN]at h
 rw[bZ]at h
 by_cases h1:c=4
 ·rw[aay h1]at h;cases h;exact Tryz.call331
 rw[aaz h1]at h;clear h1
 rw[bZ]at h
 by_cases h1:c=5
 ·rw[aay h1]at h;cases h;exact Tryz.call332
 rw[aaz h1]at h;clear h1
 rw[bZ]at h
 by_cases h1:c=6
 ·rw[aay h1]at h;cases h;exact Tryz.call333
 rw[aaz h1]at h;clear h1
 rw[bZ]at h
 by_cases h1:c=7
 ·rw[aay h1]at h;cases h;exact Tryz.call334
 rw[aaz h1]at h;clear h1
 rw[bZ]at h
 by_cases h1:c=11
 ·rw[aay h1]at h;cases h;exact Tryz.call335
 rw[aaz h1]at h;clear h1
 rw[bZ]at h
 by_cases h1:c=12
 ·rw[aay h1]at h;cases h;exact Tryz.call336
 rw[aaz h1]at h;clear h1
 rw[bZ]at h
 by_cases h1:c=13
 ·rw[aay h1]at h;cases h;exact Tryz.call337
 rw[aaz h1]at h;clear h1
 cases h
theorem SN{c a b out:Int}{f:Nat}{w0:World}{Lr:List di}(h:Fx.il mN c=some f)(I:Sh.aGr c a b=some out)(H:au w0 (Lr)):Calls Tryz.prog f #[.int .u64 a,.int .u64 b] w0 (fZ fun v w'=>v = .int .u64 out∧au w' (Lr)):=by
 rw[mN]at h
 unfold Sh.aGr at I
 rw[bZ]at h
 by_cases h1:c=4
 ·rw[aay h1]at h;cases h;exact rG (Fx.cT (aaV h1) I) H
 rw[aaz h1]at h;replace I:=Fx.cF (aaW h1) I;clear h1
 rw[bZ]at h
 by_cases h1:c=5
 ·rw[aay h1]at h;cases h;exact rI (Fx.cT (aaV h1) I) H
 rw[aaz h1]at h;replace I:=Fx.cF (aaW h1) I;clear h1
 rw[bZ]at h
 by_cases h1:c=6
 ·rw[aay h1]at h;cases h;exact rA (Fx.cT (aaV h1) I) H
 rw[aaz h1]at h;replace I:=Fx.cF (aaW h1) I;clear h1
 rw[bZ]at h
 by_cases h1:c=7
 ·rw[aay h1]at h;cases h;exact rB (Fx.cT (aaV h1) I) H
 rw[aaz h1]at h;replace I:=Fx.cF (aaW h1) I;clear h1
 rw[bZ]at h
 by_cases h1:c=11
 ·rw[aay h1]at h;cases h;exact rH (Fx.cT (aaV h1) I) H
 rw[aaz h1]at h;replace I:=Fx.cF (aaW h1) I;clear h1
 rw[bZ]at h
 by_cases h1:c=12
 ·rw[aay h1]at h;cases h;exact rJ (Fx.cT (aaV h1) I) H
 rw[aaz h1]at h;replace I:=Fx.cF (aaW h1) I;clear h1
 rw[bZ]at h
 by_cases h1:c=13
 ·rw[aay h1]at h;cases h;exact qZ (Fx.cT (aaV h1) I) H
 rw[aaz h1]at h;replace I:=Fx.cF (aaW h1) I;clear h1
 cases h
theorem G5{w0:World}{Lr:List di}(H:au w0 (Lr)):Calls Tryz.prog 289 #[] w0 (fZ fun v w'=>∃ b:Nat,v = .map (some b)∧au w' (.obj b (pq mN)::Lr)):=by
 refine ce Tryz.func289 Tryz.ntmps289 fun a G=>?_
 refine go 7 fun a w G H=>?_
 refine aN G E E E (O7 E fun b w hz hA=>?_)
 have H:=H.plus hA
 intro a G
 refine bE E E (eG (m:=[(4,331)]) E jv qh G E E E E (H.hold 0 _ E) fun w h=>?_)
 have H:=H.chg h (i:=0) rfl
 refine bE E E (eG (m:=[(4,331),(5,332)]) E jv qh G E E E E (H.hold 0 _ E) fun w h=>?_)
 have H:=H.chg h (i:=0) rfl
 refine bE E E (eG (m:=[(4,331),(5,332),(6,333)]) E jv qh G E E E E (H.hold 0 _ E) fun w h=>?_)
 have H:=H.chg h (i:=0) rfl
 refine bE E E (eG (m:=[(4,331),(5,332),(6,333),(7,334)]) E jv qh G E E E E (H.hold 0 _ E) fun w h=>?_)
 have H:=H.chg h (i:=0) rfl
 refine bE E E (eG (m:=[(4,331),(5,332),(6,333),(7,334),(11,335)]) E jv qh G E E E E (H.hold 0 _ E) fun w h=>?_)
 have H:=H.chg h (i:=0) rfl
 refine bE E E (eG (m:=[(4,331),(5,332),(6,333),(7,334),(11,335),(12,336)]) E jv qh G E E E E (H.hold 0 _ E) fun w h=>?_)
 have H:=H.chg h (i:=0) rfl
 refine bE E E (eG (m:=[(4,331),(5,332),(6,333),(7,334),(11,335),(12,336),(13,337)]) E jv qh G E E E E (H.hold 0 _ E) fun w h=>?_)
 have H:=H.chg h (i:=0) rfl
 refine go 5 fun a w G H=>?_
 refine aT Tryz.results289 G E ?_
 exact⟨b,E,H⟩
theorem SI{x0:Int}{x1:Bool}{x2 x3:Int}{out:(Int×Int)}{w0:World}{Lr:List di}(I:Sh.aG9 x0 x1 x2 x3=some out)(H:au w0 (Lr)):Calls Tryz.prog 238 #[.int .i64 x0,.bool x1,.int .i64 x2,.int .i64 x3] w0 (fZ fun v w'=>v = .tuple #[.int .i64 out.1,.int .i64 out.2]∧au w' (Lr)):=by
 unfold Sh.aG9 at I
 refine ce Tryz.func238 Tryz.ntmps238 fun a G=>?_
 refine go 8 fun a w G H=>?_
 refine jn G H I [0,1,2,3,8,9] (fun v84 u=>(20,.bool v84)::u) (fun i0 I g5 G H=>?_) fun v84 a w I G H=>?_
 ·exact lf
 replace I:Sh.Ed x0 x1 x2 x3 v84=_:=I
 unfold Sh.Ed at I
 refine aB ?_
 refine cc I (fun MB I=>?_) fun MB I=>?_
 ·refine go 7 fun a w G H=>?_
  obtain rfl:=oI I
  refine er yb G H ?_
  exact⟨E,H⟩
 refine go 13 fun a w G H=>?_
 refine aM G H I (fun F x a w=>match x with|(c2,c3)=>Fr 60 [(10,.int .u64 c2),(11,.int .u64 c3),(0,.int .i64 x0),(1,.bool x1),(8,.int .i64 0),(9,.int .i64 0)] a∧au w (Lr)) (fun i1 I g6 G H=>?_) ?_
 ·refine go 5 fun a w G H=>?_
  refine cc I (fun c7 I=>?_) fun c7 I=>?_
  ·refine go 2 fun a w G H=>?_
   obtain⟨i3,d5,I⟩:=ade I
   have d0:=eB d5 H 
   refine cl qt d0 ?_
   rintro v w ⟨rfl,H⟩ a G
   refine go 1 fun a w G H=>?_
   obtain⟨i4,d6,I⟩:=ade I
   have d1:=eB d6 H 
   refine cl qt d1 ?_
   rintro v w ⟨rfl,H⟩ a G
   exact lf
  exact lf
 rintro⟨c2,c3⟩ a w I ⟨G,H⟩
 replace I:Sh.Ee x0 x1 c2 c3=_:=I
 unfold Sh.Ee at I
 refine go 3 fun a w G H=>?_
 refine jm (Lr) G H I [0,1,10,11,8,9] (fun c4 u=>(35,.bool c4)::u) (fun i2 I g7 G H=>?_) fun c4 a w I G H=>?_
 ·refine go 4 fun a w G H=>?_
  refine gs I (fun c5 I=>?_) fun c5 I=>?_
  ·refine go 1 fun a w G H=>?_
   obtain⟨i5,d7,I⟩:=ade I
   have d2:=vQ d7 H 
   refine dD G E E E c5 E E (aS (xs:=[.tmp 33]) Tryz.call287 G E E d2 fun v w hR=>?_)
   obtain⟨rfl,H⟩:=hR
   intro a G
   exact lf
  exact lf
 replace I:Sh.FO x0 x1 c2 c3 c4=_:=I
 unfold Sh.FO at I
 refine aB ?_
 refine cc I (fun c8 I=>?_) fun c8 I=>?_
 ·refine go 7 fun a w G H=>?_
  obtain rfl:=oI I
  refine er yb G H ?_
  exact⟨E,H⟩
 refine go 4 fun a w G H=>?_
 refine cl Tryz.call288 (TS H) ?_
 rintro v w ⟨g3,rfl,H⟩ a G
 refine go 1 fun a w G H=>?_
 obtain⟨g8,c0,I⟩:=ade I
 refine aA G (TJ c0 jv qh BF G E E E (H.hold 0 _ E)) E E E fun a G=>?_
 refine go 10 fun a w G H=>?_
 refine cc I (fun c9 I=>?_) fun c9 I=>?_
 ·refine go 5 fun a w G H=>?_
  obtain⟨i6,d8,I⟩:=ade I
  refine aN G E E E (dQ (xs:=[.tmp 42,.tmp 43]) (Eo c0) G E E E (zJ c0 d8 H) fun v w hR=>?_)
  obtain⟨rfl,H⟩:=hR
  intro a G
  refine go 6 fun a w G H=>?_
  obtain rfl:=oI I
  refine er yb G H ?_
  exact⟨E,bS H [] 1 E⟩
 refine go 5 fun a w G H=>?_
 refine cl Tryz.call289 (G5 H) ?_
 rintro v w ⟨g4,rfl,H⟩ a G
 refine go 1 fun a w G H=>?_
 refine gs I (fun c6 I=>?_) fun c6 I=>?_
 ·obtain⟨g9,c1,I⟩:=ade I
  refine aA G (TK c1 jv qh BF G E E E (H.hold 0 _ E)) E E E fun a G=>?_
  refine go 23 fun a w G H=>?_
  obtain⟨i7,d9,I⟩:=ade I
  refine aN G E E E (dQ (xs:=[.tmp 55,.tmp 56]) (Hj c1) G E E E (SN c1 d9 H) fun v w hR=>?_)
  obtain⟨rfl,H⟩:=hR
  intro a G
  obtain⟨i8,g0,I⟩:=ade I
  have d3:=eB g0 H 
  refine cl qt d3 ?_
  rintro v w ⟨rfl,H⟩ a G
  refine go 6 fun a w G H=>?_
  obtain rfl:=oI I
  refine er yb G H ?_
  exact⟨E,bS H [] 2 E⟩
 refine aA G (TI c6 jv qh BF G E E E (H.hold 0 _ E)) E E E fun a G=>?_
 refine go 20 fun a w G H=>?_
 obtain⟨i9,g1,I⟩:=ade I
 refine aN G E E E (dQ (xs:=[.tmp 55,.tmp 56]) (Eo c0) G E E E (zJ c0 g1 H) fun v w hR=>?_)
 obtain⟨rfl,H⟩:=hR
 intro a G
 obtain⟨j0,g2,I⟩:=ade I
 have d4:=eB g2 H 
 refine cl qt d4 ?_
 rintro v w ⟨rfl,H⟩ a G
 refine go 6 fun a w G H=>?_
 obtain rfl:=oI I
 refine er yb G H ?_
 exact⟨E,bS H [] 2 E⟩
theorem qD{x0:Int}{x1:Bool}{x2 x3:Int}{out:Bool}{w0:World}{Lr:List di}(I:Sh.xJ x0 x1 x2 x3=some out)(H:au w0 (Lr)):Calls Tryz.prog 249 #[.int .i64 x0,.bool x1,.int .i64 x2,.int .i64 x3] w0 (fZ fun v w'=>v = .bool out∧au w' (Lr)):=by
 unfold Sh.xJ at I
 refine ce Tryz.func249 Tryz.ntmps249 fun a G=>?_
 refine go 11 fun a w G H=>?_
 refine aA G (aW Ft Tryz.underlying316 DQ G (parts:=[(0,.tmp 13),(1,.tmp 15)]) E E (aP E E (by rw[f_.len];decide) (f_.s_a _ _) (aP E E (by rw[f_.len];decide) (f_.tW _ _) bD))) E E E fun a G=>?_
 refine go 8 fun c6 a w G H=>?_
 refine aA G (aW Fv Tryz.underlying318 DR G (parts:=[(0,.tmp 17),(1,.tmp 18)]) E E (aP E E (by rw[fR.len];decide) (fR.s_a _ _) (aP E E (by rw[fR.len];decide) (fR.tW _ _) bD))) E E E fun a G=>?_
 refine go 5 fun c1 a w G H=>?_
 refine aM G H I (fun F x a w=>match x with|(c0,c2)=>Fr 86 [(0,.int .i64 x0),(10,.pointer (some ⟨c1,0,none⟩)),(8,.bool false),(9,.pointer (some ⟨c6,0,none⟩))] a∧au w (pt c1 (fR.enc c0) 318::pt c6 (f_.enc c2) 316::Lr)) (fun i7 I i6 G H=>?_) ?_
 ·refine go 5 fun a w G H=>?_
  refine cc I (fun i1 I=>?_) fun i1 I=>?_
  ·refine go 8 fun a w G H=>?_
   refine aA G (aW Ft Tryz.underlying316 DQ G (parts:=[(0,.tmp 23),(1,.tmp 26)]) E E (aP E E (by rw[f_.len];decide) (f_.s_a _ _) (aP E E (by rw[f_.len];decide) (f_.tW _ _) bD))) E E E fun a G=>?_
   refine go 10 fun a w G H=>?_
   refine aA G (aW Fv Tryz.underlying318 DR G (parts:=[(0,.tmp 30),(1,.tmp 33)]) E E (aP E E (by rw[fR.len];decide) (fR.s_a _ _) (aP E E (by rw[fR.len];decide) (fR.tW _ _) bD))) E E E fun a G=>?_
   exact lf
  exact lf
 rintro⟨c0,c2⟩ a w I ⟨G,H⟩
 replace I:Sh.zK x0 c0 c2=_:=I
 unfold Sh.zK at I
 refine go 14 fun a w G H=>?_
 refine jm (pt c1 (fR.enc c0) 318::Lr) G H I [10,8] (fun c8 u=>(11,.bool c8)::u) (fun i8 I c7 G H=>?_) fun c8 a w I G H=>?_
 ·refine go 4 fun a w G H=>?_
  refine jm (pt c1 (fR.enc c0) 318::Lr) G H I [10,8] (fun c9 u=>(11,.bool c9)::u) (fun i9 I c5 G H=>?_) fun c9 a w I G H=>?_
  ·refine go 4 fun a w G H=>?_
   refine jm (pt c1 (fR.enc c0) 318::pt c6 (f_.enc c2) 316::Lr) G H I [10,8,9] (fun d0 u=>(11,.bool d0)::u) (fun j0 I c4 G H=>?_) fun d0 a w I G H=>?_
   ·refine go 4 fun a w G H=>?_
    refine jm (pt c1 (fR.enc c0) 318::pt c6 (f_.enc c2) 316::Lr) G H I [10,8,9] (fun d1 u=>(11,.bool d1)::u) (fun j1 I c3 G H=>?_) fun d1 a w I G H=>?_
    ·refine go 17 fun a w G H=>?_
     refine cc I (fun d2 I=>?_) fun d2 I=>?_
     ·refine go 17 fun a w G H=>?_
      obtain rfl:=oI I
      have I:=bA c3
      subst I
      have I:=bA c4
      subst I
      have I:=bA c5
      subst I
      have I:=bA c7
      subst I
      refine aT va G E ?_
      exact⟨E,bS H [] 2 E⟩
     refine go 9 fun a w G H=>?_
     refine cc I (fun d3 I=>?_) fun d3 I=>?_
     ·refine go 19 fun a w G H=>?_
      obtain rfl:=oI I
      have I:=bA c3
      subst I
      have I:=bA c4
      subst I
      have I:=bA c5
      subst I
      have I:=bA c7
      subst I
      refine aT va G E ?_
      exact⟨E,bS H [] 2 E⟩
     refine go 9 fun a w G H=>?_
     refine cc I (fun d4 I=>?_) fun d4 I=>?_
     ·refine go 22 fun a w G H=>?_
      obtain rfl:=oI I
      have I:=bA c3
      subst I
      have I:=bA c4
      subst I
      have I:=bA c5
      subst I
      have I:=bA c7
      subst I
      refine aT va G E ?_
      exact⟨E,bS H [] 2 E⟩
     refine go 9 fun a w G H=>?_
     refine cc I (fun d5 I=>?_) fun d5 I=>?_
     ·exact lf
     refine go 9 fun a w G H=>?_
     refine cc I (fun d6 I=>?_) fun d6 I=>?_
     ·exact lf
     refine go 9 fun a w G H=>?_
     refine cc I (fun d7 I=>?_) fun d7 I=>?_
     ·refine go 21 fun a w G H=>?_
      obtain rfl:=oI I
      have I:=bA c3
      subst I
      exact⟨true,E,G.to ⟨E,E,E,E,trivial⟩,H⟩
     refine go 9 fun a w G H=>?_
     refine cc I (fun d8 I=>?_) fun d8 I=>?_
     ·refine go 18 fun a w G H=>?_
      obtain rfl:=oI I
      have I:=bA c3
      subst I
      exact⟨false,E,G.to ⟨E,E,E,E,trivial⟩,H⟩
     refine go 9 fun a w G H=>?_
     refine cc I (fun d9 I=>?_) fun d9 I=>?_
     ·refine go 26 fun a w G H=>?_
      obtain rfl:=oI I
      have I:=bA c3
      subst I
      have I:=bA c4
      subst I
      exact⟨true,E,G.to ⟨E,E,E,trivial⟩,bS H [0] 2 E⟩
     refine go 9 fun a w G H=>?_
     refine cc I (fun g0 I=>?_) fun g0 I=>?_
     ·refine go 23 fun a w G H=>?_
      obtain rfl:=oI I
      have I:=bA c3
      subst I
      have I:=bA c4
      subst I
      exact⟨false,E,G.to ⟨E,E,E,trivial⟩,bS H [0] 2 E⟩
     refine go 9 fun a w G H=>?_
     refine cc I (fun g1 I=>?_) fun g1 I=>?_
     ·refine go 31 fun a w G H=>?_
      obtain rfl:=oI I
      have I:=bA c3
      subst I
      have I:=bA c4
      subst I
      have I:=bA c5
      subst I
      exact⟨true,E,G.to ⟨E,E,E,trivial⟩,bS H [0] 2 E⟩
     refine go 8 fun a w G H=>?_
     refine cc I (fun g2 I=>?_) fun g2 I=>?_
     ·refine go 27 fun a w G H=>?_
      obtain rfl:=oI I
      have I:=bA c3
      subst I
      have I:=bA c4
      subst I
      have I:=bA c5
      subst I
      exact⟨false,E,G.to ⟨E,E,E,trivial⟩,bS H [0] 2 E⟩
     refine go 37 fun a w G H=>?_
     obtain rfl:=oI I
     have I:=bA c3
     subst I
     have I:=bA c4
     subst I
     have I:=bA c5
     subst I
     have I:=bA c7
     subst I
     refine aT va G E ?_
     exact⟨E,bS H [] 2 E⟩
    replace I:Sh.FZ c2 d1=_:=I
    unfold Sh.FZ at I
    refine go 6 fun a w G H=>?_
    obtain⟨i2,g7,I⟩:=ade I
    have g3:=iA g7 H 
    refine cl Tryz.call298 g3 ?_
    rintro v w ⟨rfl,H⟩ a G
    refine go 4 fun a w G H=>?_
    obtain rfl:=oI I
    have I:=bA c4
    subst I
    have I:=bA c5
    subst I
    have I:=bA c7
    subst I
    refine aT va G E ?_
    exact⟨E,bS H [] 2 E⟩
   replace I:Sh.aFt c2 d0=_:=I
   unfold Sh.aFt at I
   refine go 6 fun a w G H=>?_
   obtain⟨i3,g8,I⟩:=ade I
   have g4:=iA g8 H 
   refine cl Tryz.call298 g4 ?_
   rintro v w ⟨rfl,H⟩ a G
   refine go 4 fun a w G H=>?_
   obtain rfl:=oI I
   have I:=bA c5
   subst I
   have I:=bA c7
   subst I
   refine aT va G E ?_
   exact⟨E,bS H [] 2 E⟩
  replace I:Sh.FY c0 c9=_:=I
  unfold Sh.FY at I
  refine go 6 fun a w G H=>?_
  obtain⟨i4,g9,I⟩:=ade I
  have g5:=iN g9 H 
  refine cl Tryz.call299 g5 ?_
  rintro v w ⟨rfl,H⟩ a G
  refine go 4 fun a w G H=>?_
  obtain rfl:=oI I
  have I:=bA c7
  subst I
  refine aT va G E ?_
  exact⟨E,bS H [] 1 E⟩
 replace I:Sh.FX c0 c8=_:=I
 unfold Sh.FX at I
 refine go 6 fun a w G H=>?_
 obtain⟨i5,i0,I⟩:=ade I
 have g6:=iN i0 H 
 refine cl Tryz.call299 g6 ?_
 rintro v w ⟨rfl,H⟩ a G
 exact lf
end Go.Proofs
end
