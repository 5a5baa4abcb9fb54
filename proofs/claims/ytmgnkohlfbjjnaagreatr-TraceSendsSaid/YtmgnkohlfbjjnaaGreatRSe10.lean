/- Ground for the claim TraceSends. -/
import Derived.Conc.MuLone
import Derived.Tactics
import Derived.Tactics2
import Derived.Defers
import Derived.Laws.Pointers
import Derived.Laws.LoneSync
import Derived.RegionTactic
import Derived.RegionCalls
import Derived.ChangeAlike
import Derived.KernelRfl
import Derived.Test.YtmgnkohlfbjjnaaGreatRProg
import Derived.Test.YtmgnkohlfbjjnaaGreatRSe9
set_option linter.unusedVariables false
set_option linter.unusedSimpArgs false
set_option maxHeartbeats 4000000
open Sum
section
namespace Go.Proofs
open Go Go.MuLone
abbrev Bg:Go.Conc.Locks.MuLink:={ lock:=355,unlock:=356,ilock:=358,iunlock:=359,lockSlow:=366,unlockSlow:=369,disable:=362,enable:=364,acquire:=365,relMerge:=367,cas32:=363,add32:=368,tMutex:=332,tIMutex:=330,tPMutex:=370,tPIMutex:=373,tPI32:=375,tUP:=377,tNoCopy:=325,tU32:=307 }
theorem zn:Go.Conc.Locks.MuLib Tryz.prog Bg:=⟨Tryz.func355,Tryz.func356,Tryz.func358,Tryz.func359,Tryz.func362,Tryz.func364,Tryz.func365,Tryz.func367,Tryz.func363,Tryz.func368,Tryz.underlying330,Tryz.runUnderlying330,Tryz.sizeOf330,Tryz.isAgg330,Tryz.zeroValue330,Tryz.underlying332,Tryz.runUnderlying332,Tryz.sizeOf332,Tryz.isAgg332,Tryz.zeroValue332,Tryz.underlying370,Tryz.runUnderlying370,Tryz.sizeOf370,Tryz.isAgg370,Tryz.zeroValue370,Tryz.underlying373,Tryz.runUnderlying373,Tryz.sizeOf373,Tryz.isAgg373,Tryz.zeroValue373,Tryz.underlying375,Tryz.runUnderlying375,Tryz.sizeOf375,Tryz.isAgg375,Tryz.zeroValue375,Tryz.underlying377,Tryz.runUnderlying377,Tryz.sizeOf377,Tryz.isAgg377,Tryz.zeroValue377,Tryz.underlying325,Tryz.runUnderlying325,Tryz.sizeOf325,Tryz.isAgg325,Tryz.zeroValue325,Tryz.underlying21,Tryz.runUnderlying21,Tryz.sizeOf21,Tryz.isAgg21,Tryz.zeroValue21,by kernel_rfl⟩
theorem TF(a:Addr)(x:Value)(u:FrameMode)(w:World)(hc:w.cell? a=some x)(hz:w.frozen? a=false) :
  CallsD Tryz.prog 357 #[.pointer (some a),.bool true] u w fun e u' w'=>u' = u∧(e = .returned (.tuple #[])∧w' = w.drew.setCell a (.int .u32 1)):=by
 have hc':w.drew.cell? a=some x:=by go_simp
 have xd:w.drew.frozen? a=false:=by go_simp
 have hst:=run_call_store (P:=Tryz.prog) Tryz.func360 ada ada ada ada (k:=.u32) (y:=1) hc' xd
 go_enter_d Tryz.func357,Tryz.ntmps357
 go_wp2
 go_region_calls
 all_goals (go_end0;exact⟨rfl,rfl⟩)
set_option maxRecDepth 100000 in
set_option maxHeartbeats 1600000 in
theorem Ur(p:Value)(b:Nat)(w:World)(R:World→Prop)(h0:w.cell? ⟨b,0,none⟩=some (.int .u32 0))(h1:w.cell? ⟨b,1,none⟩=some (.int .i32 0))(f1:w.frozen? ⟨b,1,none⟩=false)
  (po:Calls Tryz.prog 339 #[p] (w.setCell ⟨b,1,none⟩ (.int .i32 1)) fun e w'=>e = .returned (.tuple #[])∧R w')
  (hR:∀ w',R w' → w'.cell? ⟨b,0,none⟩=some (.int .u32 0)∧w'.cell? ⟨b,1,none⟩=some (.int .i32 1)∧w'.frozen? ⟨b,0,none⟩=false∧w'.frozen? ⟨b,1,none⟩=false) :
  Calls Tryz.prog 352 #[.pointer (some ⟨b,0,none⟩),.func (.func 339) #[p] #[]] w fun e w'=>e = .returned (.tuple #[]) ∧
   ∃ w2,R w2∧w' = (w2.drew.setCell ⟨b,0,none⟩ (.int .u32 1)).setCell ⟨b,1,none⟩ (.int .i32 0):=by
 have hl:=run_call_load (P:=Tryz.prog) Tryz.func354 ada ada ada .u32 ada (w:=w.setCell ⟨b,1,none⟩ (.int .i32 1)) (a:=⟨b,0,none⟩) (x:=0) ((World.cell?_setCell_other _ ⟨b,1,none⟩ ⟨b,0,none⟩ _ (by simp)).trans h0)
 have EN:∀ (x:Bool) (w:World),(Op.unary .not (.bool x)).run Tryz.prog w = .ok (.bool (!x)) w:=fun _ _=>rfl
 have hmf:∀ (fn:Fn) (first cap:Array Value) (w:World),(Instr.makeFunc fn first cap).run Tryz.prog w = .ok (.func fn first cap) w:=fun _ _ _ _=>rfl
 go_enter_defers Tryz.func352,Tryz.ntmps352
 go_wp2_with (first|(go_at_call 355;refine(lock_free zn ⟨b,1,none⟩ _ (by go_simp) (by go_simp)).mono ?_;rintro e w' ⟨rfl,rfl⟩)|(go_at_call 339;refine po.mono ?_;rintro e w2 ⟨rfl,hw2⟩)|(go_at_call 351;go_in))
 obtain⟨g0,g1,z0,z1⟩:=hR w2 hw2
 first|go_wp2|skip
 refine leaves_cons (f:=357) (args:=#[.pointer (some ⟨b,0,none⟩),.bool true]) (by simp) (by simp[go_sem]) ?_
 refine(TF ⟨b,0,none⟩ (.int .u32 0) .returning _ g0 z0).mono ?_
 rintro e u' JK ⟨rfl,rfl,rfl⟩
 refine leaves_cons (f:=356) (args:=#[.pointer (some ⟨b,1,none⟩)]) (by simp[settle]) (by simp[go_sem]) ?_
 refine(unlock_deferred zn ⟨b,1,none⟩ _ _ ?_ (by simp[z1])).mono ?_
 ·refine(World.cell?_setCell_other _ ⟨b,0,none⟩ ⟨b,1,none⟩ _ (by simp)).trans ?_
  rw[World.cell?_drew]
  exact g1
 rintro e u' JK ⟨rfl,rfl,rfl⟩
 simp[Leaves,settle,results,Tryz.results352]
 exact⟨w2,hw2,rfl⟩
set_option maxRecDepth 100000 in
set_option maxHeartbeats 1600000 in
theorem Wn(p:Value)(b:Nat)(w:World)(R:World→Prop)(h0:w.cell? ⟨b,0,none⟩=some (.int .u32 0))(h1:w.cell? ⟨b,1,none⟩=some (.int .i32 0))(f1:w.frozen? ⟨b,1,none⟩=false)
  (po:Calls Tryz.prog 339 #[p] (w.setCell ⟨b,1,none⟩ (.int .i32 1)) fun e w'=>e = .returned (.tuple #[])∧R w')
  (hR:∀ w',R w' → w'.cell? ⟨b,0,none⟩=some (.int .u32 0)∧w'.cell? ⟨b,1,none⟩=some (.int .i32 1)∧w'.frozen? ⟨b,0,none⟩=false∧w'.frozen? ⟨b,1,none⟩=false) :
  Calls Tryz.prog 338 #[.pointer (some ⟨b,0,none⟩),.func (.func 339) #[p] #[]] w fun e w'=>e = .returned (.tuple #[]) ∧
   ∃ w2,R w2∧w' = (w2.drew.setCell ⟨b,0,none⟩ (.int .u32 1)).setCell ⟨b,1,none⟩ (.int .i32 0):=by
 have hl:=run_call_load (P:=Tryz.prog) Tryz.func354 ada ada ada .u32 ada h0
 have EN:∀ (x:Bool) (w:World),(Op.unary .not (.bool x)).run Tryz.prog w = .ok (.bool (!x)) w:=fun _ _=>rfl
 go_enter Tryz.func338,Tryz.ntmps338
 go_wp2_with (first|(go_at_call 352;refine(Ur p b _ R h0 h1 f1 po hR).mono ?_;rintro e w' ⟨rfl,w2,hw2,rfl⟩)|(go_at_call 351;go_in))
 go_end0
 exact⟨rfl,w2,hw2,rfl⟩
end Go.Proofs
end
section
namespace Go.Proofs
open Go.Fw Go.Fx
set_option maxRecDepth 10000
def jg:List (Int×Value):=[(1,.iface 358 (.agg (eo.enc (eo.mk (0) (65535))).toArray)),(2,.iface 360 (.agg (ez.enc (ez.mk (2))).toArray)),(3,.iface 360 (.agg (ez.enc (ez.mk (1))).toArray)),(4,.iface 361 (.agg #[])),(5,.iface 358 (.agg (eo.enc (eo.mk (-1) (65534))).toArray)),(6,.iface 363 (.agg (bX.enc (bX.mk (1) (cj.mk (-1) 0 false false))).toArray)),(7,.iface 363 (.agg (bX.enc (bX.mk (2) (cj.mk 0 0 false false))).toArray)),(8,.iface 363 (.agg (bX.enc (bX.mk (2) (cj.mk 0 0 true true))).toArray))]
theorem OG(w:World):(zeroValue 361).run Tryz.prog w = .ok (.agg ([]:List Value).toArray) w:=(Tryz.zeroValue361 w).trans ada
theorem Jh:∀ w,(vh Tryz.prog 361).run Tryz.prog w = .ok #[] w:=fun w=>by kernel_rfl
theorem K2{w:World}{b i:Nat}{cs:List Value}{T:TypeId}{v:Value}(hb:w.heap[b]? = some (.cells cs.toArray T (0,0))):oa (pt b cs T) (pt b (cs.set i v) T) w (w.setCell ⟨b,i,none⟩ v):=by
 have e:w.setCell ⟨b,i,none⟩ v=w.setRow b (cs.set i v).toArray:=by
  unfold World.setCell World.setRow
  congr 1
  apply Array.ext_getElem?
  intro k
  rw[aaU,aaU]
  by_cases h:b=k
  ·subst h
   rw[aay rfl,aay rfl,hb]
   simp
  ·rw[aaz h,aaz h]
 rw[e];exact oa.setRow hb
theorem xP{w:World}{b i:Nat}{cs:List Value}{T:TypeId}(hb:w.heap[b]? = some (.cells cs.toArray T (0,0))):w.frozen? ⟨b,i,none⟩=false:=by
 simp[World.frozen?,hb]
theorem kQ{P:Program}{n:Nat}{F:List (Nat×Value)}{a:Act}{dd:List Deferred}{w:World}{o:Oper}{J:Value→World→Prop}{t kt et b:Nat}{q:IntKind}{l l':List (Int×Value)}{m k x:Operand}{c:Int}{v:Value}(he:jk l c v=l')(hm:P.underlying t=some (.map kt et))(hk:P.underlying kt=some (.int q))(hF:Fr n F a dd)(ho:o.op = .insert t m k x)
  (h1:ev F m=some (.map (some b))) (h2:ev F k=some (.int q c)) (h3:ev F x=some v) (hb:(di.obj b (ju q l)).holds w)
  (next:∀ w',oa (.obj b (ju q l)) (.obj b (ju q l')) w w' → J undef w'):Yd P o a.eval w J:=by
 subst he;exact Hf hm hk hF ho h1 h2 h3 hb next
set_option maxHeartbeats 8000000 in
theorem zP{b:Nat}{c0 c1 c2:Value}{w0:World}{Lr:List di}(hM:au w0 (pt b [c0,c1,c2,.map none] 337::Lr)):Calls Tryz.prog 339 #[.pointer (some ⟨b,0,none⟩)] w0 (fZ fun v w'=>v = .tuple #[] ∧ ∃ m:Nat,au w' (.obj m (ju .i64 jg)::pt b [c0,c1,c2,.map (some m)] 337::Lr)):=by
 refine aV (vs:=[.pointer (some ⟨b,0,none⟩)]) Tryz.func339 rfl Tryz.ntmps339 rfl fun a hF=>?_
 refine aD ?_
 refine aA hF (aE hF rfl rfl) rfl rfl rfl fun a hF=>?_
 refine aN hF rfl rfl rfl (yT (q:=.i64) rfl fun m w hz hA=>?_)
 have hM:=hM.plus hA
 intro a hF
 refine aA hF (aW JW Tryz.underlying358 DT hF (parts:=[(0,.const (.int .i64 (0))),(1,.const (.int .i64 (65535)))]) rfl rfl (aP rfl rfl (by rw[eo.len];decide) (eo.s_least _ _) (aP rfl rfl (by rw[eo.len];decide) (eo.s_most _ _) bD))) rfl rfl rfl fun a hF=>?_
 refine aA hF (hY ada hF rfl rfl) rfl rfl rfl fun a hF=>?_
 refine bE rfl rfl (kQ (q:=.i64) (v:=.iface 358 (.agg (eo.enc (eo.mk (0) (65535))).toArray)) (l':=jg.take 1) rfl Tryz.underlying335 Tryz.underlying3 hF rfl rfl rfl rfl (hM.hold 0 _ rfl) fun w h=>?_)
 have hM:=hM.chg h (i:=0) rfl
 replace hM:au _ (.obj m (ju .i64 (jg.take 1))::pt b [c0,c1,c2,.map none] 337::Lr):=hM
 refine aA hF (aW JX Tryz.underlying360 DU hF (parts:=[(0,.const (.int .i64 (2)))]) rfl rfl (aP rfl rfl (by rw[ez.len];decide) (ez.s_from_ _ _) bD)) rfl rfl rfl fun a hF=>?_
 refine aA hF (hY ada hF rfl rfl) rfl rfl rfl fun a hF=>?_
 refine bE rfl rfl (kQ (q:=.i64) (v:=.iface 360 (.agg (ez.enc (ez.mk (2))).toArray)) (l':=jg.take 2) rfl Tryz.underlying335 Tryz.underlying3 hF rfl rfl rfl rfl (hM.hold 0 _ rfl) fun w h=>?_)
 have hM:=hM.chg h (i:=0) rfl
 replace hM:au _ (.obj m (ju .i64 (jg.take 2))::pt b [c0,c1,c2,.map none] 337::Lr):=hM
 refine aA hF (aW JX Tryz.underlying360 DU hF (parts:=[(0,.const (.int .i64 (1)))]) rfl rfl (aP rfl rfl (by rw[ez.len];decide) (ez.s_from_ _ _) bD)) rfl rfl rfl fun a hF=>?_
 refine aA hF (hY ada hF rfl rfl) rfl rfl rfl fun a hF=>?_
 refine bE rfl rfl (kQ (q:=.i64) (v:=.iface 360 (.agg (ez.enc (ez.mk (1))).toArray)) (l':=jg.take 3) rfl Tryz.underlying335 Tryz.underlying3 hF rfl rfl rfl rfl (hM.hold 0 _ rfl) fun w h=>?_)
 have hM:=hM.chg h (i:=0) rfl
 replace hM:au _ (.obj m (ju .i64 (jg.take 3))::pt b [c0,c1,c2,.map none] 337::Lr):=hM
 refine aA hF (aW OG Tryz.underlying361 Jh hF (parts:=[]) rfl rfl bD) rfl rfl rfl fun a hF=>?_
 refine aA hF (hY ada hF rfl rfl) rfl rfl rfl fun a hF=>?_
 refine bE rfl rfl (kQ (q:=.i64) (v:=.iface 361 (.agg #[])) (l':=jg.take 4) rfl Tryz.underlying335 Tryz.underlying3 hF rfl rfl rfl rfl (hM.hold 0 _ rfl) fun w h=>?_)
 have hM:=hM.chg h (i:=0) rfl
 replace hM:au _ (.obj m (ju .i64 (jg.take 4))::pt b [c0,c1,c2,.map none] 337::Lr):=hM
 refine aA hF (aW JW Tryz.underlying358 DT hF (parts:=[(0,.const (.int .i64 (-1))),(1,.const (.int .i64 (65534)))]) rfl rfl (aP rfl rfl (by rw[eo.len];decide) (eo.s_least _ _) (aP rfl rfl (by rw[eo.len];decide) (eo.s_most _ _) bD))) rfl rfl rfl fun a hF=>?_
 refine aA hF (hY ada hF rfl rfl) rfl rfl rfl fun a hF=>?_
 refine bE rfl rfl (kQ (q:=.i64) (v:=.iface 358 (.agg (eo.enc (eo.mk (-1) (65534))).toArray)) (l':=jg.take 5) rfl Tryz.underlying335 Tryz.underlying3 hF rfl rfl rfl rfl (hM.hold 0 _ rfl) fun w h=>?_)
 have hM:=hM.chg h (i:=0) rfl
 replace hM:au _ (.obj m (ju .i64 (jg.take 5))::pt b [c0,c1,c2,.map none] 337::Lr):=hM
 refine aA hF (aW yh Tryz.underlying278 vx hF (parts:=[(0,.const (.int .i64 (-1)))]) rfl rfl (aP rfl rfl (by rw[cj.len];decide) (cj.s_lo _ _) bD)) rfl rfl rfl fun a hF=>?_
 refine aA hF (aW Fz Tryz.underlying363 Bn hF (parts:=[(0,.const (.int .i64 (1))),(1,.tmp 14)]) rfl rfl (aP rfl rfl (by rw[bX.len];decide) (bX.s_many _ _) (fC rfl (cj.len _) (by rw[cj.len,bX.len];decide) (bX.p_span _ _) bD))) rfl rfl rfl fun a hF=>?_
 refine aA hF (hY ada hF rfl rfl) rfl rfl rfl fun a hF=>?_
 refine bE rfl rfl (kQ (q:=.i64) (v:=.iface 363 (.agg (bX.enc (bX.mk (1) (cj.mk (-1) 0 false false))).toArray)) (l':=jg.take 6) rfl Tryz.underlying335 Tryz.underlying3 hF rfl rfl rfl rfl (hM.hold 0 _ rfl) fun w h=>?_)
 have hM:=hM.chg h (i:=0) rfl
 replace hM:au _ (.obj m (ju .i64 (jg.take 6))::pt b [c0,c1,c2,.map none] 337::Lr):=hM
 refine aA hF (aW yh Tryz.underlying278 vx hF (parts:=[]) rfl rfl bD) rfl rfl rfl fun a hF=>?_
 refine aA hF (aW Fz Tryz.underlying363 Bn hF (parts:=[(0,.const (.int .i64 (2))),(1,.tmp 17)]) rfl rfl (aP rfl rfl (by rw[bX.len];decide) (bX.s_many _ _) (fC rfl (cj.len _) (by rw[cj.len,bX.len];decide) (bX.p_span _ _) bD))) rfl rfl rfl fun a hF=>?_
 refine aA hF (hY ada hF rfl rfl) rfl rfl rfl fun a hF=>?_
 refine bE rfl rfl (kQ (q:=.i64) (v:=.iface 363 (.agg (bX.enc (bX.mk (2) (cj.mk 0 0 false false))).toArray)) (l':=jg.take 7) rfl Tryz.underlying335 Tryz.underlying3 hF rfl rfl rfl rfl (hM.hold 0 _ rfl) fun w h=>?_)
 have hM:=hM.chg h (i:=0) rfl
 replace hM:au _ (.obj m (ju .i64 (jg.take 7))::pt b [c0,c1,c2,.map none] 337::Lr):=hM
 refine aA hF (aW yh Tryz.underlying278 vx hF (parts:=[(2,.const (.bool true)),(3,.const (.bool true))]) rfl rfl (aP rfl rfl (by rw[cj.len];decide) (cj.s_noLo _ _) (aP rfl rfl (by rw[cj.len];decide) (cj.s_noHi _ _) bD))) rfl rfl rfl fun a hF=>?_
 refine aA hF (aW Fz Tryz.underlying363 Bn hF (parts:=[(0,.const (.int .i64 (2))),(1,.tmp 20)]) rfl rfl (aP rfl rfl (by rw[bX.len];decide) (bX.s_many _ _) (fC rfl (cj.len _) (by rw[cj.len,bX.len];decide) (bX.p_span _ _) bD))) rfl rfl rfl fun a hF=>?_
 refine aA hF (hY ada hF rfl rfl) rfl rfl rfl fun a hF=>?_
 refine bE rfl rfl (kQ (q:=.i64) (v:=.iface 363 (.agg (bX.enc (bX.mk (2) (cj.mk 0 0 true true))).toArray)) (l':=jg.take 8) rfl Tryz.underlying335 Tryz.underlying3 hF rfl rfl rfl rfl (hM.hold 0 _ rfl) fun w h=>?_)
 have hM:=hM.chg h (i:=0) rfl
 replace hM:au _ (.obj m (ju .i64 (jg.take 8))::pt b [c0,c1,c2,.map none] 337::Lr):=hM
 refine aA hF (aE hF rfl rfl) rfl rfl rfl fun a hF=>?_
 refine aA hF (bB hF rfl rfl) rfl rfl rfl fun a hF=>?_
 refine aA hF (aC (off':=3) Tryz.underlying337 rfl DG rfl hF rfl rfl rfl) rfl rfl rfl fun a hF=>?_
 refine bE rfl rfl (bQ Tryz.sizeOf335 (hM.obj (i:=1) rfl) hF rfl rfl rfl rfl (by simp) rfl fun w h=>?_)
 have hM:=hM.chg h (i:=1) rfl
 refine aJ ?_
 refine eU Tryz.results339 hF ?_
 exact⟨rfl,m,hM⟩
set_option maxHeartbeats 8000000 in
theorem GU{b:Nat}{x0:Int}{w0:World}{Lr:List di}(hM:au w0 (pt b [.int .u32 0,.int .i32 0,.int .u32 0,.map none] 337::Lr)):Calls Tryz.prog 300 #[.pointer (some ⟨b,0,none⟩),.int .i64 x0] w0 (fZ fun v w'=>v = .tuple #[(il jg x0).getD .nilIface,.bool (il jg x0).isSome] ∧ ∃ m:Nat,au w' (.obj m (ju .i64 jg)::pt b [.int .u32 1,.int .i32 0,.int .u32 0,.map (some m)] 337::Lr)):=by
 refine aV (vs:=[.pointer (some ⟨b,0,none⟩),.int .i64 x0]) Tryz.func300 rfl Tryz.ntmps300 rfl fun a hF=>?_
 refine aH ?_
 refine aD ?_
 refine aA hF (aI hF rfl rfl) rfl rfl rfl fun a hF=>?_
 refine aA hF (aI hF rfl rfl) rfl rfl rfl fun a hF=>?_
 refine aJ (aB ?_)
 refine aH ?_
 refine aD ?_
 refine aA hF (aE hF rfl rfl) rfl rfl rfl fun a hF=>?_
 refine aA hF (bB hF rfl rfl) rfl rfl rfl fun a hF=>?_
 refine aA hF (aC (off':=0) Tryz.underlying337 rfl IZ rfl hF rfl rfl rfl) rfl rfl rfl fun a hF=>?_
 refine aA hF (aE hF rfl rfl) rfl rfl rfl fun a hF=>?_
 refine aA hF (jJ hF (fs:=[.tmp 11]) (cs:=[]) rfl rfl rfl) rfl rfl rfl fun a hF=>?_
 have YG:=Wn (.pointer (some ⟨b,0,none⟩)) b w0 (fun w2=>∃ m:Nat,au w2 (.obj m (ju .i64 jg)::pt b [.int .u32 0,.int .i32 1,.int .u32 0,.map (some m)] 337::Lr)) (hM.cell (i:=0) (off:=0) rfl rfl) (hM.cell (i:=0) (off:=1) rfl rfl) (xP (hM.obj (i:=0) rfl))
  (Calls.mono (zP (hM.chg (K2 (i:=1) (v:=.int .i32 1) (hM.obj (i:=0) rfl)) (i:=0) rfl)) fun e w' h=>by
   cases e<;>first|exact⟨by rw[h.1],h.2⟩|exact h.elim)
  (fun w2 ⟨m,h2⟩=>⟨h2.cell (i:=1) (off:=0) rfl rfl,h2.cell (i:=1) (off:=1) rfl rfl,xP (h2.obj (i:=1) rfl),xP (h2.obj (i:=1) rfl)⟩)
 have hd2:Calls Tryz.prog 338 #[.pointer (some ⟨b,0,none⟩),.func (.func 339) #[.pointer (some ⟨b,0,none⟩)] #[]] w0 (fZ fun v w'=>v = .tuple #[] ∧ ∃ m:Nat,au w' (.obj m (ju .i64 jg)::pt b [.int .u32 1,.int .i32 0,.int .u32 0,.map (some m)] 337::Lr)):=Calls.mono YG fun e w' h=>by
  obtain⟨rfl,w2,⟨m,h2⟩,rfl⟩:=h
  have h3:=h2.drew
  have h4:=h3.chg (K2 (i:=0) (v:=.int .u32 1) (h3.obj (i:=1) rfl)) (i:=1) rfl
  have h5:=h4.chg (K2 (i:=1) (v:=.int .i32 0) (h4.obj (i:=1) rfl)) (i:=1) rfl
  exact⟨rfl,m,h5⟩
 refine aN hF rfl rfl rfl (aS (xs:=[.tmp 10,.tmp 12]) Tryz.call338 hF rfl rfl hd2 fun v w hR=>?_)
 obtain⟨rfl,m,hM⟩:=hR
 intro a hF
 refine aJ (aB ?_)
 refine aH ?_
 refine aD ?_
 refine aA hF (aE hF rfl rfl) rfl rfl rfl fun a hF=>?_
 refine aA hF (bB hF rfl rfl) rfl rfl rfl fun a hF=>?_
 refine aA hF (aC (off':=3) Tryz.underlying337 rfl DG rfl hF rfl rfl rfl) rfl rfl rfl fun a hF=>?_
 refine aA hF (aG Tryz.isAgg335 hF rfl rfl (hM.cell (i:=1) (off:=3) rfl rfl)) rfl rfl rfl fun a hF=>?_
 refine aA hF (aE hF rfl rfl) rfl rfl rfl fun a hF=>?_
 refine aA hF (tN (q:=.i64) Tryz.underlying335 Tryz.underlying3 Tryz.zeroValue321 hF rfl rfl rfl (hM.hold 0 _ rfl)) rfl rfl rfl fun a hF=>?_
 refine aA hF (aE hF rfl rfl) rfl rfl rfl fun a hF=>?_
 refine aA hF (iO hF rfl rfl rfl) rfl rfl rfl fun a hF=>?_
 refine aA hF (iO hF rfl rfl rfl) rfl rfl rfl fun a hF=>?_
 refine aA hF (aI hF rfl rfl) rfl rfl rfl fun a hF=>?_
 refine aA hF (aI hF rfl rfl) rfl rfl rfl fun a hF=>?_
 refine aJ (aB ?_)
 refine aH ?_
 refine aD ?_
 refine aA hF (aE hF rfl rfl) rfl rfl rfl fun a hF=>?_
 refine aA hF (aE hF rfl rfl) rfl rfl rfl fun a hF=>?_
 refine aA hF (aI hF rfl rfl) rfl rfl rfl fun a hF=>?_
 refine aA hF (aI hF rfl rfl) rfl rfl rfl fun a hF=>?_
 refine aJ (aB ?_)
 refine qo ?_
 refine fE (rs:=[.tmp 4,.tmp 5]) Tryz.results300 hF (dU hF rfl (dU hF rfl dI)) rfl ?_
 exact⟨rfl,m,hM⟩
theorem rT{w0:World}{Lr:List di}(hM:au w0 (Lr)):Calls Tryz.prog 397 #[.agg #[]] w0 (fZ fun v w'=>∃ (s1:SV),v=(s1).v∧au w' (ak 0 s1 3 ([2,2,4,0,0]:List Int)::Lr)):=by
 refine aV (vs:=[.agg #[]]) Tryz.func397 rfl Tryz.ntmps397 rfl fun a hF=>?_
 refine aH ?_
 refine aD ?_
 refine aN hF rfl rfl rfl (gE (zs:=[]) hF rfl rfl rfl fun b1 w hz hA=>?_)
 have hM:=hM.plus hA
 intro a hF
 refine aA hF (aI hF rfl rfl) rfl rfl rfl fun a hF=>?_
 refine aJ (aB ?_)
 refine aH ?_
 refine aD ?_
 refine aN hF rfl rfl rfl (eR (X:=Int) (ys:=[2,2,4,0,0]) (m:=5) Tryz.underlying52 jO rfl rfl rfl rfl (by decide) (by decide) hF rfl rfl (gj.cons rfl (gj.cons rfl (gj.cons rfl (gj.cons rfl (gj.cons rfl gj.nil))))) fun b2 w hz hA=>?_)
 have hM:=hM.plus hA
 replace hM:au _ (pt b2 (encs ([2,2,4,0,0]:List Int)) 3::pt b1 [] 361::Lr):=hM
 intro a hF
 refine aA hF (aI hF rfl rfl) rfl rfl rfl fun a hF=>?_
 refine aJ (aB ?_)
 refine qo ?_
 have hM:=hM.ptRow (lo:=0) (i:=0) (n:=5) (c:=5) rfl rfl (aau _) rfl rfl (by decide)
 refine aT Tryz.results397 hF rfl ?_
 exact⟨⟨some ⟨b2,0,none⟩,5,5⟩,rfl,bS hM [0] 2 rfl⟩
theorem uD{w0:World}{Lr:List di}(hM:au w0 (Lr)):Calls Tryz.prog 398 #[.agg #[]] w0 (fZ fun v w'=>v = .agg (cj.enc (cj.mk (-1) 1 false false)).toArray∧au w' (Lr)):=by
 refine aV (vs:=[.agg #[]]) Tryz.func398 rfl Tryz.ntmps398 rfl fun a hF=>?_
 refine aH ?_
 refine aD ?_
 refine aN hF rfl rfl rfl (gE (zs:=[]) hF rfl rfl rfl fun b1 w hz hA=>?_)
 have hM:=hM.plus hA
 intro a hF
 refine aN hF rfl rfl rfl (bK yh (zs:=cj.zero.enc) rfl rfl fun b2 w hz hA=>?_)
 have hM:=hM.plus hA
 intro a hF
 refine aJ (aB ?_)
 refine aH ?_
 refine aD ?_
 refine aA hF (aW yh Tryz.underlying278 vx hF (parts:=[(0,.const (.int .i64 (-1))),(1,.const (.int .i64 (1)))]) rfl rfl (aP rfl rfl (by rw[cj.len];decide) (cj.s_lo _ _) (aP rfl rfl (by rw[cj.len];decide) (cj.s_hi _ _) bD))) rfl rfl rfl fun a hF=>?_
 refine bE rfl rfl (aU (vs:=_) Tryz.sizeOf278 (hM.obj (i:=0) rfl) hF rfl rfl rfl rfl (cj.len _) (cj.one _) (by first|(rw[cj.len,cj.len];decide)|(rw[cj.len];decide)) (bF ((cj.len _).trans (cj.len _).symm)) fun w AI=>?_)
 have hM:=hM.chg AI (i:=0) rfl
 replace hM:au _ (pt b2 (cj.enc (cj.mk (-1) 1 false false)) 278::pt b1 [] 361::Lr):=hM
 refine aJ (aB ?_)
 refine qo ?_
 refine fE (rs:=[.cell 2 278]) Tryz.results398 hF (dA hF rfl Tryz.isAgg278 Tryz.sizeOf278 (cj.len _) (hM.cells (i:=0) rfl (cG (cj.len _))) dI) rfl ?_
 exact⟨rfl,bS hM [] 2 rfl⟩
theorem Qp{τ γ:Type}{t:Option (τ⊕γ)}{o:τ⊕γ}{k:τ→Option γ}{u:Option γ}(h:t=some o)(h':Fx.fin k o=u):Fx.seq t k=u:=by rw[h];exact h'
theorem UL{s:cj}:Sh.jP ⟨1,s⟩=some [1,0,0,0,0]:=by
 have h:Fx.mk 8 (0:Int) 5=some [0,0,0,0,0]:=by decide
 unfold Sh.jP
 rw[h]
 exact Qp (nT.2 ⟨3,rfl⟩) rfl
theorem FU{s:cj}:Sh.jP ⟨2,s⟩=some [1,1,0,0,0]:=by
 have h:Fx.mk 8 (0:Int) 5=some [0,0,0,0,0]:=by decide
 unfold Sh.jP
 rw[h]
 exact Qp (nT.2 ⟨4,rfl⟩) rfl
def DY(v:Value)(l:List Int)(s:cj):Prop:=∃ (T fa fr:Nat) (x:Value),v = .iface T x∧(∀ w,(invoke (.fn (.method "warrant/help.args") #[]) #[.iface T x]).run Tryz.prog w = .ok (.enter fa #[x]) w)∧(∀ w,(invoke (.fn (.method "warrant/help.ret") #[]) #[.iface T x]).run Tryz.prog w = .ok (.enter fr #[x]) w) ∧
 (∀ w0 Lr,au w0 Lr→Calls Tryz.prog fa #[x] w0 (fZ fun v w'=>∃ (s1:SV),v=(s1).v∧au w' (ak 0 s1 3 l::Lr)))∧(∀ w0 Lr,au w0 Lr→Calls Tryz.prog fr #[x] w0 (fZ fun v w'=>v = .agg (cj.enc s).toArray∧au w' (Lr)))
theorem V_{x0:Int}{v:Value}{out:pe×Bool}(h:il jg x0=some v)(hP:Sh.sO x0=some out):out.2=true∧DY v out.1.args out.1.ret:=by
 rw[jg]at h
 unfold Sh.sO at hP
 rw[bZ]at h
 by_cases h1:x0=1
 ·rw[aay h1]at h;cases h;cases ac8 (Fx.cT (aaV h1) hP)
  exact⟨rfl,358,393,394,_,rfl,fun w=>by kernel_rfl,fun w=>by kernel_rfl,fun w0 Lr hM=>lL (by rfl) hM,fun w0 Lr hM=>mJ (by rfl) hM⟩
 rw[aaz h1]at h;replace hP:=Fx.cF (aaW h1) hP;clear h1
 rw[bZ]at h
 by_cases h1:x0=2
 ·rw[aay h1]at h;cases h;cases ac8 (Fx.cT (aaV h1) hP)
  exact⟨rfl,360,395,396,_,rfl,fun w=>by kernel_rfl,fun w=>by kernel_rfl,fun w0 Lr hM=>kW (by rfl) hM,fun w0 Lr hM=>lM (by rfl) hM⟩
 rw[aaz h1]at h;replace hP:=Fx.cF (aaW h1) hP;clear h1
 rw[bZ]at h
 by_cases h1:x0=3
 ·rw[aay h1]at h;cases h;cases ac8 (Fx.cT (aaV h1) hP)
  exact⟨rfl,360,395,396,_,rfl,fun w=>by kernel_rfl,fun w=>by kernel_rfl,fun w0 Lr hM=>kW (by rfl) hM,fun w0 Lr hM=>lM (by rfl) hM⟩
 rw[aaz h1]at h;replace hP:=Fx.cF (aaW h1) hP;clear h1
 rw[bZ]at h
 by_cases h1:x0=4
 ·rw[aay h1]at h;cases h;cases ac8 (Fx.cT (aaV h1) hP)
  exact⟨rfl,361,397,398,_,rfl,fun w=>by kernel_rfl,fun w=>by kernel_rfl,fun w0 Lr hM=>rT hM,fun w0 Lr hM=>uD hM⟩
 rw[aaz h1]at h;replace hP:=Fx.cF (aaW h1) hP;clear h1
 rw[bZ]at h
 by_cases h1:x0=5
 ·rw[aay h1]at h;cases h;cases ac8 (Fx.cT (aaV h1) hP)
  exact⟨rfl,358,393,394,_,rfl,fun w=>by kernel_rfl,fun w=>by kernel_rfl,fun w0 Lr hM=>lL (by rfl) hM,fun w0 Lr hM=>mJ (by rfl) hM⟩
 rw[aaz h1]at h;replace hP:=Fx.cF (aaW h1) hP;clear h1
 rw[bZ]at h
 by_cases h1:x0=6
 ·rw[aay h1]at h;cases h;cases ac8 (Fx.cT (aaV h1) hP)
  exact⟨rfl,363,399,400,_,rfl,fun w=>by kernel_rfl,fun w=>by kernel_rfl,fun w0 Lr hM=>gV (UL) hM,fun w0 Lr hM=>iE (by rfl) hM⟩
 rw[aaz h1]at h;replace hP:=Fx.cF (aaW h1) hP;clear h1
 rw[bZ]at h
 by_cases h1:x0=7
 ·rw[aay h1]at h;cases h;cases ac8 (Fx.cT (aaV h1) hP)
  exact⟨rfl,363,399,400,_,rfl,fun w=>by kernel_rfl,fun w=>by kernel_rfl,fun w0 Lr hM=>gV (FU) hM,fun w0 Lr hM=>iE (by rfl) hM⟩
 rw[aaz h1]at h;replace hP:=Fx.cF (aaW h1) hP;clear h1
 rw[bZ]at h
 by_cases h1:x0=8
 ·rw[aay h1]at h;cases h;cases ac8 (Fx.cT (aaV h1) hP)
  exact⟨rfl,363,399,400,_,rfl,fun w=>by kernel_rfl,fun w=>by kernel_rfl,fun w0 Lr hM=>gV (FU) hM,fun w0 Lr hM=>iE (by rfl) hM⟩
 rw[aaz h1]at h;replace hP:=Fx.cF (aaW h1) hP;clear h1
 cases h
theorem VQ{x0:Int}{out:pe×Bool}(h:il jg x0=none)(hP:Sh.sO x0=some out):out=(pe.mk [] cj.zero,false):=by
 rw[jg]at h
 unfold Sh.sO at hP
 rw[bZ]at h
 by_cases h1:x0=1
 ·rw[aay h1]at h;cases h
 rw[aaz h1]at h;replace hP:=Fx.cF (aaW h1) hP;clear h1
 rw[bZ]at h
 by_cases h1:x0=2
 ·rw[aay h1]at h;cases h
 rw[aaz h1]at h;replace hP:=Fx.cF (aaW h1) hP;clear h1
 rw[bZ]at h
 by_cases h1:x0=3
 ·rw[aay h1]at h;cases h
 rw[aaz h1]at h;replace hP:=Fx.cF (aaW h1) hP;clear h1
 rw[bZ]at h
 by_cases h1:x0=4
 ·rw[aay h1]at h;cases h
 rw[aaz h1]at h;replace hP:=Fx.cF (aaW h1) hP;clear h1
 rw[bZ]at h
 by_cases h1:x0=5
 ·rw[aay h1]at h;cases h
 rw[aaz h1]at h;replace hP:=Fx.cF (aaW h1) hP;clear h1
 rw[bZ]at h
 by_cases h1:x0=6
 ·rw[aay h1]at h;cases h
 rw[aaz h1]at h;replace hP:=Fx.cF (aaW h1) hP;clear h1
 rw[bZ]at h
 by_cases h1:x0=7
 ·rw[aay h1]at h;cases h
 rw[aaz h1]at h;replace hP:=Fx.cF (aaW h1) hP;clear h1
 rw[bZ]at h
 by_cases h1:x0=8
 ·rw[aay h1]at h;cases h
 rw[aaz h1]at h;replace hP:=Fx.cF (aaW h1) hP;clear h1
 exact(ac8 hP).symm
set_option maxHeartbeats 8000000 in
theorem D3{x0:Int}{out:(pe×Bool)}{w0:World}{Lr:List di}(hP:Sh.sO x0=some out)(hM:au w0 (Lr)):Calls Tryz.prog 251 #[.int .i64 x0] w0 (fZ fun v w'=>∃ (s1:SV),v = .tuple #[.agg (gd.enc (gd.mk s1 out.1.ret)).toArray,.bool out.2]∧au w' (ak 0 s1 3 out.1.args::Lr)):=by
 refine aV (vs:=[.int .i64 x0]) Tryz.func251 rfl Tryz.ntmps251 rfl fun a hF=>?_
 refine aH ?_
 refine aD ?_
 refine aN hF rfl rfl rfl (bK Da (zs:=gd.zero.enc) rfl rfl fun b2 w hz hA=>?_)
 have hM:=hM.plus hA
 intro a hF
 refine aA hF (aI hF rfl rfl) rfl rfl rfl fun a hF=>?_
 refine aJ (aB ?_)
 refine aH ?_
 refine aD ?_
 refine aN hF rfl rfl rfl (bK Tryz.zeroValue337 (zs:=[.int .u32 0,.int .i32 0,.int .u32 0,.map none]) rfl rfl fun b7 w hz hA=>?_)
 have hM:=hM.plus hA
 intro a hF
 refine aA hF (aE hF rfl rfl) rfl rfl rfl fun a hF=>?_
 refine aN hF rfl rfl rfl (aS (xs:=[.tmp 7,.tmp 8]) Tryz.call300 hF rfl rfl (GU hM) fun v w hR=>?_)
 obtain⟨rfl,m,hM⟩:=hR
 intro a hF
 refine aA hF (aE hF rfl rfl) rfl rfl rfl fun a hF=>?_
 refine aA hF (iO hF rfl rfl rfl) rfl rfl rfl fun a hF=>?_
 refine aA hF (iO hF rfl rfl rfl) rfl rfl rfl fun a hF=>?_
 refine aA hF (aI hF rfl rfl) rfl rfl rfl fun a hF=>?_
 refine aA hF (aI hF rfl rfl) rfl rfl rfl fun a hF=>?_
 refine aJ (aB ?_)
 cases hg:il jg x0 with
 | none =>
  rw[hg]at hF
  obtain rfl:=VQ hg hP
  refine aH ?_
  refine aH ?_
  refine aD ?_
  refine aA hF (aE hF rfl rfl) rfl rfl rfl fun a hF=>?_
  refine aA hF (hZ hF rfl rfl) rfl rfl rfl fun a hF=>?_
  refine aJ (aB ?_)
  refine OM hF (c:=.tmp 13) rfl rfl ?_
  refine aH ?_
  refine aD ?_
  refine aA hF (aW Da Tryz.underlying280 DN hF (parts:=[]) rfl rfl bD) rfl rfl rfl fun a hF=>?_
  refine bE rfl rfl (aU (vs:=_) Tryz.sizeOf280 (hM.obj (i:=2) rfl) hF rfl rfl rfl rfl (gd.len _) (gd.one _) (by first|(rw[gd.len,gd.len];decide)|(rw[gd.len];decide)) (bF ((gd.len _).trans (gd.len _).symm)) fun w AI=>?_)
  have hM:=hM.chg AI (i:=2) rfl
  refine aA hF (aI hF rfl rfl) rfl rfl rfl fun a hF=>?_
  refine aJ (aB ?_)
  refine qo ?_
  refine fE (rs:=[.cell 2 280,.tmp 3]) Tryz.results251 hF (dA hF rfl Tryz.isAgg280 Tryz.sizeOf280 (gd.len _) (hM.cells (i:=2) (vs:=gd.enc gd.zero) rfl (cG (gd.len _))) (dU hF rfl dI)) rfl ?_
  have hM:=hM.rowNil (X:=Int) 0 3
  exact⟨SV.nil,rfl,bS hM [0] 4 rfl⟩
 | some v =>
  rw[hg]at hF
  obtain⟨ho,T,fa,fr,x,rfl,hia,hir,hca,YF⟩:=V_ hg hP
  refine aH ?_
  refine aH ?_
  refine aD ?_
  refine aA hF (aE hF rfl rfl) rfl rfl rfl fun a hF=>?_
  refine aA hF (hZ hF rfl rfl) rfl rfl rfl fun a hF=>?_
  refine aJ (aB ?_)
  refine zZ hF (c:=.tmp 13) rfl rfl ?_
  refine bL (aB ?_)
  refine aH ?_
  refine aD ?_
  refine aA hF (aE hF rfl rfl) rfl rfl rfl fun a hF=>?_
  refine aN hF rfl rfl rfl (PN hia hF rfl rfl (hca _ _ hM) fun v w hR=>?_)
  obtain⟨s1,rfl,hM⟩:=hR
  intro a hF
  refine aA hF (aE hF rfl rfl) rfl rfl rfl fun a hF=>?_
  refine aN hF rfl rfl rfl (PN hir hF rfl rfl (YF _ _ hM) fun v w hR=>?_)
  obtain⟨rfl,hM⟩:=hR
  intro a hF
  refine aA hF (aW Da Tryz.underlying280 DN hF (parts:=[(0,.tmp 16),(1,.tmp 18)]) rfl rfl (aP rfl rfl (by rw[gd.len];decide) (gd.rR _ _) (fC rfl (cj.len _) (by rw[cj.len,gd.len];decide) (gd.p_ret _ _) bD))) rfl rfl rfl fun a hF=>?_
  refine bE rfl rfl (aU (vs:=_) Tryz.sizeOf280 (hM.obj (i:=3) rfl) hF rfl rfl rfl rfl (gd.len _) (gd.one _) (by first|(rw[gd.len,gd.len];decide)|(rw[gd.len];decide)) (bF ((gd.len _).trans (gd.len _).symm)) fun w AI=>?_)
  have hM:=hM.chg AI (i:=3) rfl
  refine aA hF (aI hF rfl rfl) rfl rfl rfl fun a hF=>?_
  refine aJ (aB ?_)
  refine qo ?_
  refine fE (rs:=[.cell 2 280,.tmp 3]) Tryz.results251 hF (dA hF rfl Tryz.isAgg280 Tryz.sizeOf280 (gd.len _) (hM.cells (i:=3) (vs:=gd.enc (gd.mk s1 out.1.ret)) rfl (cG (gd.len _))) (dU hF rfl dI)) rfl ?_
  rw[ho]
  exact⟨s1,rfl,bS hM [0] 4 rfl⟩
end Go.Proofs
end
section
namespace Go.Proofs
open Go.Fw Go.Fx
set_option maxRecDepth 10000
theorem VC{w:World}{lo lo':Nat}{s t:SV}{l m:List UInt8}(h:cg lo w s l)(k:cg lo' w t m):(callFunc 340 [s.v,t.v].toArray).run Tryz.prog w = .ok (.value (.int .i64 (Lib.compareBytes l m))) w:=by
 rw[run_callFunc_extern Tryz.func340 ada ada ada (e:=Extern.BytealgCompare.compare) ada]
 show((Extern.BytealgCompare.compare #[s.v,t.v]).run Tryz.prog w).andThen _=_
 rw[S8 h k];rfl
theorem VD{w:World}{lo:Nat}{s:SV}{l:List UInt8}{c:UInt8}(h:cg lo w s l):(callFunc 341 [s.v,.int .u8 (c.toNat:Int)].toArray).run Tryz.prog w = .ok (.value (.int .i64 (Lib.indexByte l c))) w:=by
 rw[run_callFunc_extern Tryz.func341 ada ada ada (e:=Extern.BytealgIndexByte.indexByte) ada]
 show((Extern.BytealgIndexByte.indexByte #[s.v,.int .u8 (c.toNat:Int)]).run Tryz.prog w).andThen _=_
 rw[Tv h];rfl
theorem uC{x0 x1:List UInt8}{s1 s3:SV}{out:Int}{w0:World}{Bf:World→Prop}{Lr:List di}(I:Sh.G2 x0 x1=some out)(H:au w0 (Lr))(S:∀ w,au w Lr→Bf w)(f2:dj Bf s1 x0)(f4:dj Bf s3 x1):Calls Tryz.prog 301 #[(s1).v,(s3).v] w0 (fZ fun v w'=>v = .int .i64 out∧au w' (Lr)):=by
 unfold Sh.G2 at I
 refine ce Tryz.func301 Tryz.ntmps301 fun a G=>?_
 refine go 9 fun a w G H=>?_
 refine aN G E E E (Qm (xs:=[.tmp 5,.tmp 6]) (VC (f2 _ (S _ (fc H 0))) (f4 _ (S _ (fc H 0)))) G E E fun _=>?_)
 try dsimp only[List.set]at H
 intro a G
 exact lf
theorem rE{x0:List UInt8}{x1:UInt8}{s1:SV}{out:Int}{w0:World}{Bf:World→Prop}{Lr:List di}(I:Sh.FG x0 x1=some out)(H:au w0 (Lr))(S:∀ w,au w Lr→Bf w)(f2:dj Bf s1 x0):Calls Tryz.prog 302 #[(s1).v,.int .u8 (x1.toNat:Int)] w0 (fZ fun v w'=>v = .int .i64 out∧au w' (Lr)):=by
 unfold Sh.FG at I
 refine ce Tryz.func302 Tryz.ntmps302 fun a G=>?_
 refine go 9 fun a w G H=>?_
 refine aN G E E E (Qm (xs:=[.tmp 5,.tmp 6]) (VD (c:=x1) (f2 _ (S _ (fc H 0)))) G E E fun _=>?_)
 try dsimp only[List.set]at H
 intro a G
 exact lf
theorem zN{x0 x1:List UInt8}{s1 s3:SV}{out:Int}{w0:World}{Bf:World→Prop}{Lr:List di}(I:Sh.aJc x0 x1=some out)(H:au w0 (Lr))(S:∀ w,au w Lr→Bf w)(f2:dj Bf s1 x0)(f4:dj Bf s3 x1):Calls Tryz.prog 255 #[(s1).v,(s3).v] w0 (fZ fun v w'=>v = .int .i64 out∧au w' (Lr)):=by
 unfold Sh.aJc at I
 refine ce Tryz.func255 Tryz.ntmps255 fun a G=>?_
 refine go 9 fun a w G H=>?_
 obtain⟨y9,IK,I⟩:=ade I
 have AP:=uC IK H (Bf:=Bf) (tb S) f2 f4
 refine cl Tryz.call301 AP ?_
 rintro v w ⟨rfl,H⟩ a G
 exact lf
theorem zO{x0:List UInt8}{x1:Int}{s1:SV}{out:Int}{w0:World}{Bf:World→Prop}{Lr:List di}(I:Sh.Hl x0 x1=some out)(H:au w0 (Lr))(S:∀ w,au w Lr→Bf w)(f2:dj Bf s1 x0):Calls Tryz.prog 256 #[(s1).v,.int .i64 x1] w0 (fZ fun v w'=>v = .int .i64 out∧au w' (Lr)):=by
 unfold Sh.Hl at I
 refine ce Tryz.func256 Tryz.ntmps256 fun a G=>?_
 refine go 9 fun a w G H=>?_
 refine aA G (fK qh KH G E E) E E E fun a G=>?_
 obtain⟨y7,IJ,I⟩:=ade I
 have YE:=rE IJ H (Bf:=Bf) (tb S) f2
 refine cl Tryz.call302 YE ?_
 rintro v w ⟨rfl,H⟩ a G
 exact lf
theorem eW{x0:ai}{x1 x2:Int}{s1 s3:SV}{cu:List SV}{s7 s9 eK e7:SV}{eN:Nat}{dm:SV}{b0:Nat}{out:List UInt8}{w0:World}{Bf:World→Prop}{Lr:List di}(I:Sh.dH x0 x1 x2=some out)(H:au w0 (pt b0 (af.enc (gB x0 s1 s3 s7 s9 eK e7 eN dm)) 203::ak 0 s1 5 x0.ae.cq::ak 0 s3 23 cu::(a_ cu x0.ae.ah)::ak 0 dm 3 x0.a7::Lr))(S:∀ w,au w Lr→Bf w)(q6:cn (dj (X:=UInt8) (a_ cu x0.ae.ah).holds') cu x0.ae.ah)(f8:dj Bf s7 x0.ae.data)(f10:dj Bf s9 x0.ae.sizes)(f12:dj Bf eK x0.code)(f14:dj Bf e7 x0.dq)(f16:jl Bf eN x0.da):Calls Tryz.prog 254 #[.pointer (some ⟨b0,0,none⟩),.int .i64 x1,.int .i64 x2] w0 (fZ fun v w'=>∃ (RI:SV),v=(RI).v∧au w' (ak 0 RI 5 out::pt b0 (af.enc (gB x0 s1 s3 s7 s9 eK e7 eN dm)) 203::ak 0 s1 5 x0.ae.cq::ak 0 s3 23 cu::(a_ cu x0.ae.ah)::ak 0 dm 3 x0.a7::Lr)):=by
 unfold Sh.dH at I
 refine ce Tryz.func254 Tryz.ntmps254 fun a G=>?_
 refine go 6 fun a w G H=>?_
 refine dT H [0,1,2,3,4] 5 fun K=>?_
 obtain⟨RX,Y8,I⟩:=ade I
 refine eL [0,1,2,3,4,5,6,7,8,9,10,11,12] fun a G=>?_
 obtain⟨RY,Np,I⟩:=ade I
 refine eL [13,14] fun a G=>?_
 refine aK G K 15 E ada E E E (fun w H=>(aG r_ G E E ((H.cells (i:=0) E (af.ci_regs _ _ _ (aL Np).2)).get 3 (aj.g_x _)))) fun a G=>?_
 refine eL [16] fun a G=>?_
 refine dx 17 fun w ep H=>?_
 obtain⟨C_,EZ,I⟩:=ade I
 have EJ:=kX EZ H (Bf:=Bf) (tb S) q6 f8 f10 f12 f14 f16
 refine dl Tryz.call296 EJ ?_
 rintro v w ⟨Zx,rfl,H⟩
 refine ds [0,1,2,3,4,5] 6 fun a G=>?_
 refine eL [18] fun a G=>?_
 refine de fun w H=>?_
 refine go 2 fun a w G H=>?_
 obtain rfl:=oI I
 refine aT Tryz.results254 G E ?_
 exact⟨Zx,E,H⟩
theorem oP{x0:ai}{x1:List Int}{s1 s3:SV}{cu:List SV}{s7 s9 eK e7:SV}{eN:Nat}{dm:SV}{b0:Nat}{Ag:SV}{out:(Vec Int 6×Bool)}{w0:World}{Bf:World→Prop}{Lr:List di}(I:Sh.gD x0 x1=some out)(H:au w0 (pt b0 (af.enc (gB x0 s1 s3 s7 s9 eK e7 eN dm)) 203::ak 0 s1 5 x0.ae.cq::ak 0 s3 23 cu::(a_ cu x0.ae.ah)::ak 0 dm 3 x0.a7::Lr))(S:∀ w,au w Lr→Bf w)(q6:cn (dj (X:=UInt8) (a_ cu x0.ae.ah).holds') cu x0.ae.ah)(f8:dj Bf s7 x0.ae.data)(f10:dj Bf s9 x0.ae.sizes)(f12:dj Bf eK x0.code)(f14:dj Bf e7 x0.dq)(f16:jl Bf eN x0.da)(f20:dj Bf Ag x1):Calls Tryz.prog 252 #[.pointer (some ⟨b0,0,none⟩),(Ag).v] w0 (fZ fun v w'=>v = .tuple #[.agg (encs out.1.l).toArray,.bool out.2]∧au w' (pt b0 (af.enc (gB x0 s1 s3 s7 s9 eK e7 eN dm)) 203::ak 0 s1 5 x0.ae.cq::ak 0 s3 23 cu::(a_ cu x0.ae.ah)::ak 0 dm 3 x0.a7::Lr)):=by
 unfold Sh.gD at I
 refine ce Tryz.func252 Tryz.ntmps252 fun a G=>?_
 refine go 2 fun a w G H=>?_
 refine aN G E E E (bK Tryz.zeroValue283 (zs:=(encs (⟨List.replicate 6 0,E⟩ : Vec Int 6).l)) E E fun c0 w k8 d9=>?_)
 have H:=H.plus d9
 replace H:au _ (pt c0 (encs (⟨List.replicate 6 0,rfl⟩ : Vec Int 6).l) 283::pt b0 (af.enc (gB x0 s1 s3 s7 s9 eK e7 eN dm)) 203::ak 0 s1 5 x0.ae.cq::ak 0 s3 23 cu::(a_ cu x0.ae.ah)::ak 0 dm 3 x0.a7::Lr):=H
 intro a G
 refine go 4 fun a w G H=>?_
 refine jn G H I [0,1,4,5] (fun _ u=>u) (fun m8 I k3 G H=>?_) fun _ a w I G H=>?_
 ·refine go 8 fun a w G H=>?_
  refine ln G H I [0,1,14,15,4,5] (fun c8 u=>(16,.int .i64 c8)::u) fun c8 a w n4 I g1 G H=>?_
  unfold Sh.cD at I
  refine go 6 fun a w G H=>?_
  refine cc I (fun i2 I=>?_) fun i2 I=>?_
  ·obtain⟨m0,l1,d4,l2,I⟩:=b2 I
   refine go 22 fun a w G H=>?_
   refine aN G E E E (bK z46 (zs:=aj.zero.enc) E E fun c3 w k9 g0=>?_)
   have H:=H.plus g0
   intro a G
   refine go 1 fun a w G H=>?_
   replace H:au _ (pt c3 (aj.enc d4) 46::pt c0 (encs (⟨List.replicate 6 0,rfl⟩ : Vec Int 6).l) 283::pt b0 (af.enc (gB x0 s1 s3 s7 s9 eK e7 eN dm)) 203::ak 0 s1 5 x0.ae.cq::ak 0 s3 23 cu::(a_ cu x0.ae.ah)::ak 0 dm 3 x0.a7::Lr):=H
   refine go 3 fun a w G H=>?_
   refine jm (pt c0 (encs (⟨List.replicate 6 0,E⟩ : Vec Int 6).l) 283::pt b0 (af.enc (gB x0 s1 s3 s7 s9 eK e7 eN dm)) 203::ak 0 s1 5 x0.ae.cq::ak 0 s3 23 cu::(a_ cu x0.ae.ah)::ak 0 dm 3 x0.a7::Lr) G H I [0,1,14,15,16,4,5] (fun c9 u=>(52,.bool c9)::u) (fun m9 I l6 G H=>?_) fun c9 a w I G H=>?_
   ·refine go 4 fun a w G H=>?_
    refine gs I (fun i3 I=>?_) fun i3 I=>?_
    ·refine go 5 fun a w G H=>?_
     obtain⟨m3,j8,I⟩:=ade I
     have j2:=dC j8 H 
     refine dD G E E E E E E (aS (xs:=[.tmp 35]) nW G E E j2 fun v w hR=>?_)
     obtain⟨rfl,H⟩:=hR
     replace H:au _ (pt c3 (aj.enc d4) 46::pt c0 (encs (⟨List.replicate 6 0,rfl⟩ : Vec Int 6).l) 283::pt b0 (af.enc (gB x0 s1 s3 s7 s9 eK e7 eN dm)) 203::ak 0 s1 5 x0.ae.cq::ak 0 s3 23 cu::(a_ cu x0.ae.ah)::ak 0 dm 3 x0.a7::Lr):=H
     intro a G
     exact lf
    refine go 4 fun a w G H=>?_
    refine gs I (fun d6 I=>?_) fun d6 I=>?_
    ·refine go 1 fun a w G H=>?_
     obtain⟨m4,j9,I⟩:=ade I
     have j3:=dC j9 H 
     refine dD G E E E d6 E E (aS (xs:=[.tmp 35]) nW G E E j3 fun v w hR=>?_)
     obtain⟨rfl,H⟩:=hR
     replace H:au _ (pt c3 (aj.enc d4) 46::pt c0 (encs (⟨List.replicate 6 0,rfl⟩ : Vec Int 6).l) 283::pt b0 (af.enc (gB x0 s1 s3 s7 s9 eK e7 eN dm)) 203::ak 0 s1 5 x0.ae.cq::ak 0 s3 23 cu::(a_ cu x0.ae.ah)::ak 0 dm 3 x0.a7::Lr):=H
     intro a G
     exact lf
    exact lf
   replace I:Sh.lO c8 c9=_:=I
   unfold Sh.lO at I
   refine aB ?_
   refine cc I (fun i4 I=>?_) fun i4 I=>?_
   ·refine go 2 fun a w G H=>?_
    refine aA G (cD qe mf G E E (aR _) (H.cells (i:=0) E (cG (aR _)))) E E E fun a G=>?_
    refine bE E E (aU (vs:=_) mf (H.obj (i:=0) E) G E E E E (aR _) (fA _) (by first|(rw[aR,aR];decide)|(rw[aR];decide)) (bF ((aR _).trans (aR _).symm)) fun w g5=>?_)
    have H:=H.chg g5 (i:=0) rfl
    replace H:au _ (pt c0 (encs (⟨List.replicate 6 0,rfl⟩ : Vec Int 6).l) 283::pt b0 (af.enc (gB x0 s1 s3 s7 s9 eK e7 eN dm)) 203::ak 0 s1 5 x0.ae.cq::ak 0 s3 23 cu::(a_ cu x0.ae.ah)::ak 0 dm 3 x0.a7::Lr):=H
    refine go 4 fun a w G H=>?_
    obtain rfl:=oI I
    have I:=g1 _ rfl
    subst I
    have I:=bA k3
    subst I
    refine fE (rs:=[.cell 4 283,.tmp 5]) yc G (dA G E qe mf (aR _) (H.cells (i:=0) E (cG (aR _))) (dU G E dI)) E ?_
    exact⟨E,bS H [1,2,3,4,5] 6 E⟩
   exact lf
  refine go 5 fun a w G H=>?_
  obtain rfl:=oI I
  have I:=g1 _ rfl
  subst I
  exact⟨(),E,G.to ⟨E,E,E,E,trivial⟩,H⟩
 replace I:Sh.fV x0 x1=_:=I
 unfold Sh.fV at I
 refine go 2 fun a w G H=>?_
 refine aM G H I (fun F x a w=>match x with|g2=>Fr 132 [(4,.pointer (some ⟨c0,0,none⟩)),(5,.bool false)] a∧au w (pt c0 (encs g2.l) 283::pt b0 (af.enc (gB x0 s1 s3 s7 s9 eK e7 eN dm)) 203::ak 0 s1 5 x0.ae.cq::ak 0 s3 23 cu::(a_ cu x0.ae.ah)::ak 0 dm 3 x0.a7::Lr)) (fun n0 I c6 G H=>?_) ?_
 ·refine go 8 fun a w G H=>?_
  refine aY G H I (fun F x a w=>match x with|(c1,c2)=>Fr 132 [(57,.int .i64 c2),(0,.pointer (some ⟨b0,0,none⟩)),(1,(Ag).v),(4,.pointer (some ⟨c0,0,none⟩)),(5,.bool false),(55,(Ag).v),(56,.int .i64 (x1.length:Int))] a∧au w (pt c0 (encs c1.l) 283::pt b0 (af.enc (gB x0 s1 s3 s7 s9 eK e7 eN dm)) 203::ak 0 s1 5 x0.ae.cq::ak 0 s3 23 cu::(a_ cu x0.ae.ah)::ak 0 dm 3 x0.a7::Lr)) (fun G H=>⟨G.to ⟨E,E,E,E,E,E,E,trivial⟩,H⟩) ?_
  rintro⟨c1,c2⟩ a w n5 I c4 ⟨G,H⟩
  replace I:Sh.iJ x0 x1 c1 c2=_:=I
  unfold Sh.iJ at I
  refine go 6 fun a w G H=>?_
  refine cc I (fun i5 I=>?_) fun i5 I=>?_
  ·refine go 3 fun a w G H=>?_
   refine aM G H I (fun F x a w=>match x with|g3=>Fr 132 [(0,.pointer (some ⟨b0,0,none⟩)),(1,(Ag).v),(4,.pointer (some ⟨c0,0,none⟩)),(5,.bool false),(55,(Ag).v),(56,.int .i64 (x1.length:Int)),(57,.int .i64 c2)] a∧au w (pt c0 (encs g3.l) 283::pt b0 (af.enc (gB x0 s1 s3 s7 s9 eK e7 eN dm)) 203::ak 0 s1 5 x0.ae.cq::ak 0 s3 23 cu::(a_ cu x0.ae.ah)::ak 0 dm 3 x0.a7::Lr)) (fun n1 I c7 G H=>?_) ?_
   ·obtain⟨c5,l3,I⟩:=ade I
    refine go 12 fun a w G H=>?_
    refine jm (pt c0 (encs c1.l) 283::pt b0 (af.enc (gB x0 s1 s3 s7 s9 eK e7 eN dm)) 203::ak 0 s1 5 x0.ae.cq::ak 0 s3 23 cu::(a_ cu x0.ae.ah)::ak 0 dm 3 x0.a7::Lr) G H I [0,1,10,4,5,55,56,57,9] (fun d0 u=>(67,.bool d0)::u) (fun n2 I l7 G H=>?_) fun d0 a w I G H=>?_
    ·exact lf
    replace I:Sh.lP x0 x1 c1 c2 c5 d0=_:=I
    unfold Sh.lP at I
    refine aB ?_
    refine cc I (fun i6 I=>?_) fun i6 I=>?_
    ·exact lf
    refine go 10 fun a w G H=>?_
    refine jm (pt c0 (encs c1.l) 283::pt b0 (af.enc (gB x0 s1 s3 s7 s9 eK e7 eN dm)) 203::ak 0 s1 5 x0.ae.cq::ak 0 s3 23 cu::(a_ cu x0.ae.ah)::ak 0 dm 3 x0.a7::Lr) G H I [0,1,10,4,5,55,56,57,9] (fun d1 u=>(11,.int .i64 d1)::u) (fun n3 I l8 G H=>?_) fun d1 a w I G H=>?_
    ·refine bJ ?_
     refine aY G H I (fun F x a w=>match x with|d2=>Fr 132 [(11,.int .i64 d2),(0,.pointer (some ⟨b0,0,none⟩)),(1,(Ag).v),(10,.int .i64 c5),(4,.pointer (some ⟨c0,0,none⟩)),(5,.bool false),(55,(Ag).v),(56,.int .i64 (x1.length:Int)),(57,.int .i64 c2),(9,.int .i64 c2)] a∧au w (pt c0 (encs c1.l) 283::pt b0 (af.enc (gB x0 s1 s3 s7 s9 eK e7 eN dm)) 203::ak 0 s1 5 x0.ae.cq::ak 0 s3 23 cu::(a_ cu x0.ae.ah)::ak 0 dm 3 x0.a7::Lr)) (fun G H=>⟨G.to ⟨E,E,E,E,E,E,E,E,E,E,trivial⟩,H⟩) ?_
     rintro d2 a w n6 I k4 ⟨G,H⟩
     unfold Sh.lR at I
     obtain⟨m1,l4,I⟩:=ade I
     refine go 10 fun a w G H=>?_
     refine cc I (fun i7 I=>?_) fun i7 I=>?_
     ·exact lf
     refine go 5 fun a w G H=>?_
     obtain rfl:=oI I
     have I:=k4 _ rfl
     subst I
     exact⟨d2,E,G.to ⟨E,E,E,E,E,E,E,E,E,E,trivial⟩,H⟩
    replace I:Sh.lQ x0 c1 c2 c5 d1=_:=I
    unfold Sh.lQ at I
    refine go 2 fun a w G H=>?_
    refine dT H [0,1,2,3,4,5] 6 fun K=>?_
    obtain⟨k5,l5,g4,j7,I⟩:=b2 I
    refine eL [0,1,2,3,4,5,6,7,8,9,10,11,12,13] fun a G=>?_
    refine aK G K 14 E ada E E E (fun w H=>(aG r_ G E E ((H.cells (i:=1) E (af.ci_regs _ _ _ (aL j7).2)).get 3 (aj.g_x _)))) fun a G=>?_
    refine dx 15 fun w ep H=>?_
    refine(bK z46 (zs:=aj.zero.enc) E E fun k6 w k7 d5=>?_)
    have H:=H.plus d5
    try dsimp only[List.set]at H
    refine ds [1,2,3,4,5,6] 7 fun a G=>?_
    refine kn 16 fun w ep H=>?_
    refine(aU (vs:=_) iw (H.obj (i:=0) E) G E E E E (aj.len _) (aj.one _) (by first|(rw[aj.len,aj.len];decide)|(rw[aj.len];decide)) (bF ((aj.len _).trans (aj.len _).symm)) fun w g6=>?_)
    have H:=H.chg g6 (i:=0) rfl
    try dsimp only[List.set]at H
    refine ds [1,2,3,4,5,6] 7 ?_
    refine eL [17] fun a G=>?_
    refine de fun w H=>?_
    obtain⟨m2,d8,I⟩:=ade I
    refine go 7 fun a w G H=>?_
    refine bE E E (bQ E8 (H.obj (i:=1) E) G E E E E (by have:=(bW d8);rw[aR];simp only[du.sz];omega) (V6 (v:=c1) (y:=g4.x) (by have:=(bW d8);omega) E E E) fun w g7=>?_)
    have H:=H.chg g7 (i:=1) rfl
    try dsimp only[List.set]at H
    refine go 4 fun a w G H=>?_
    refine jn G H I [0,1,10,12,13,4,5,55,56,57] (fun d3 u=>(96,.bool d3)::u) (fun l9 I l0 G H=>?_) fun d3 a w I G H=>?_
    ·refine dT H [0,1,2,3,4,5,6] 7 fun K=>?_
     refine eL [0] fun a G=>?_
     refine dx 1 fun w ep H=>?_
     obtain⟨m5,k0,I⟩:=ade I
     have j4:=eO k0 H 
     refine dl si j4 ?_
     rintro v w ⟨rfl,H⟩
     refine ds [0,1,2,3,4,5,6] 7 fun a G=>?_
     refine eL [2,3] fun a G=>?_
     refine gs I (fun d7 I=>?_) fun d7 I=>?_
     ·refine eL [4,5,6,7,8,9,10,11,12,13,14] fun a G=>?_
      refine de fun w H=>?_
      exact lf
     refine eL [4,5,6,7,8,9,10] fun a G=>?_
     refine bN K 11 ada E E ?_
     refine lK G 11 E E E E E d7 E E fun w ep H=>?_
     obtain⟨m6,k1,I⟩:=ade I
     have j5:=fJ k1 (fU H [2,3,4,5,6,0,1] 7) (Bf:=Bf) (tb S) q6 f8 f10 f12 f14 f16
     refine dl Tryz.call243 j5 ?_
     rintro v w ⟨rfl,H⟩
     refine ds [5,6,0,1,2,3,4] 7 fun a G=>?_
     refine eL [12,13,14] fun a G=>?_
     refine de fun w H=>?_
     refine aB ?_
     exact jr I ⟨G.t,bS H [5,6,0,1,2,3,4] 7 E⟩
    replace I:Sh.kW x0 c1 c2 c5 k5 g4 d3=_:=I
    unfold Sh.kW at I
    refine aB ?_
    refine cc I (fun i8 I=>?_) fun i8 I=>?_
    ·refine go 2 fun a w G H=>?_
     refine aA G (cD qe mf G E E (aR _) (H.cells (i:=1) E (cG (aR _)))) E E E fun a G=>?_
     refine bE E E (aU (vs:=_) mf (H.obj (i:=1) E) G E E E E (aR _) (fA _) (by first|(rw[aR,aR];decide)|(rw[aR];decide)) (bF ((aR _).trans (aR _).symm)) fun w g8=>?_)
     have H:=H.chg g8 (i:=1) rfl
     try dsimp only[List.set]at H
     refine go 4 fun a w G H=>?_
     obtain rfl:=oI I
     have I:=bA c7
     subst I
     have I:=c4 _ rfl
     subst I
     have I:=bA c6
     subst I
     refine fE (rs:=[.cell 4 283,.tmp 5]) yc G (dA G E qe mf (aR _) (H.cells (i:=1) E (cG (aR _))) (dU G E dI)) E ?_
     exact⟨E,bS H [2,3,4,5,6] 7 E⟩
    refine go 7 fun a w G H=>?_
    refine cc I (fun i9 I=>?_) fun i9 I=>?_
    ·refine go 7 fun a w G H=>?_
     refine cc I (fun j0 I=>?_) fun j0 I=>?_
     ·refine go 2 fun a w G H=>?_
      refine aA G (cD qe mf G E E (aR _) (H.cells (i:=1) E (cG (aR _)))) E E E fun a G=>?_
      refine bE E E (aU (vs:=_) mf (H.obj (i:=1) E) G E E E E (aR _) (fA _) (by first|(rw[aR,aR];decide)|(rw[aR];decide)) (bF ((aR _).trans (aR _).symm)) fun w g9=>?_)
      have H:=H.chg g9 (i:=1) rfl
      try dsimp only[List.set]at H
      refine go 4 fun a w G H=>?_
      obtain rfl:=oI I
      have I:=bA c7
      subst I
      have I:=c4 _ rfl
      subst I
      have I:=bA c6
      subst I
      refine fE (rs:=[.cell 4 283,.tmp 5]) yc G (dA G E qe mf (aR _) (H.cells (i:=1) E (cG (aR _))) (dU G E dI)) E ?_
      exact⟨E,bS H [2,3,4,5,6] 7 E⟩
     exact lf
    refine aH ?_
    refine dT H [0,1,2,3,4,5,6] 7 fun K=>?_
    refine eL [0,1,2,3,4,5,6] fun a G=>?_
    refine dx 7 fun w ep H=>?_
    obtain⟨m7,k2,I⟩:=ade I
    have j6:=gA k2 (fU H [2,3,4,5,6,0,1] 7) (Bf:=Bf) (tb S) q6 f8 f10 f12 f14 f16
    refine dl Tryz.call244 j6 ?_
    rintro v w ⟨rfl,H⟩
    refine ds [5,6,0,1,2,3,4] 7 fun a G=>?_
    refine eL [8,9] fun a G=>?_
    refine de fun w H=>?_
    refine aB ?_
    refine cc I (fun j1 I=>?_) fun j1 I=>?_
    ·refine go 2 fun a w G H=>?_
     refine aA G (cD qe mf G E E (aR _) (H.cells (i:=6) E (cG (aR _)))) E E E fun a G=>?_
     refine bE E E (aU (vs:=_) mf (H.obj (i:=6) E) G E E E E (aR _) (fA _) (by first|(rw[aR,aR];decide)|(rw[aR];decide)) (bF ((aR _).trans (aR _).symm)) fun w i0=>?_)
     have H:=H.chg i0 (i:=6) rfl
     try dsimp only[List.set]at H
     refine go 4 fun a w G H=>?_
     obtain rfl:=oI I
     have I:=bA c7
     subst I
     have I:=c4 _ rfl
     subst I
     have I:=bA c6
     subst I
     refine fE (rs:=[.cell 4 283,.tmp 5]) yc G (dA G E qe mf (aR _) (H.cells (i:=6) E (cG (aR _))) (dU G E dI)) E ?_
     exact⟨E,bS H [0,1,2,3,4] 7 E⟩
    refine go 4 fun a w G H=>?_
    exact jr I ⟨G.t,bS H [6,0,1,2,3,4] 7 E⟩
   rintro g3 a w I ⟨G,H⟩
   unfold Sh.rB at I
   exact lf
  refine go 5 fun a w G H=>?_
  obtain rfl:=oI I
  have I:=c4 _ rfl
  subst I
  exact⟨c1,E,G.to ⟨E,E,trivial⟩,H⟩
 rintro g2 a w I ⟨G,H⟩
 unfold Sh.FD at I
 refine go 3 fun a w G H=>?_
 refine aA G (cD qe mf G E E (aR _) (H.cells (i:=0) E (cG (aR _)))) E E E fun a G=>?_
 refine bE E E (aU (vs:=_) mf (H.obj (i:=0) E) G E E E E (aR _) (fA _) (by first|(rw[aR,aR];decide)|(rw[aR];decide)) (bF ((aR _).trans (aR _).symm)) fun w i1=>?_)
 have H:=H.chg i1 (i:=0) rfl
 try dsimp only[List.set]at H
 refine go 4 fun a w G H=>?_
 obtain rfl:=oI I
 refine fE (rs:=[.cell 4 283,.tmp 5]) yc G (dA G E qe mf (aR _) (H.cells (i:=0) E (cG (aR _))) (dU G E dI)) E ?_
 exact⟨E,bS H [1,2,3,4,5] 6 E⟩
theorem kH{x0:ai}{x1:bg}{s1 s3:SV}{cu:List SV}{s7 s9 eK e7:SV}{eN:Nat}{dm:SV}{b0:Nat}{out:(Int×Int×ai)}{w0:World}{Bf:World→Prop}{Lr:List di}(I:Sh.fJ x0 x1=some out)(H:au w0 (pt b0 (af.enc (gB x0 s1 s3 s7 s9 eK e7 eN dm)) 203::ak 0 s1 5 x0.ae.cq::ak 0 s3 23 cu::(a_ cu x0.ae.ah)::ak 0 dm 3 x0.a7::Lr))(S:∀ w,au w Lr→Bf w)(q6:cn (dj (X:=UInt8) (a_ cu x0.ae.ah).holds') cu x0.ae.ah)(f8:dj Bf s7 x0.ae.data)(f10:dj Bf s9 x0.ae.sizes)(f12:dj Bf eK x0.code)(f14:dj Bf e7 x0.dq)(f16:jl Bf eN x0.da):Calls Tryz.prog 212 #[.pointer (some ⟨b0,0,none⟩),.agg (bg.enc x1).toArray] w0 (fZ fun v w'=>∃ (p8:SV) (p9:SV) (d7:List SV) (t0:SV),v = .tuple #[.int .i64 out.1,.int .i64 out.2.1]∧cn (dj (X:=UInt8) (a_ d7 out.2.2.ae.ah).holds') d7 out.2.2.ae.ah∧au w' (pt b0 (af.enc (af.mk (bq.mk out.2.2.ae.bh p8 p9 s7 s9) eK e7 (some eN) out.2.2.a8 t0 x0.at_ x0.steps x0.done)) 203::ak 0 p8 5 out.2.2.ae.cq::ak 0 p9 23 d7::(a_ d7 out.2.2.ae.ah)::ak 0 t0 3 out.2.2.a7::Lr)):=by
 unfold Sh.fJ at I
 refine ce Tryz.func212 Tryz.ntmps212 fun a G=>?_
 refine go 11 fun c2 a w G H=>?_
 obtain⟨c6,u4,I⟩:=ade I
 have t8:=D3 u4 H 
 refine cl Tryz.call251 t8 ?_
 rintro v w ⟨c5,rfl,H⟩ a G
 refine go 15 fun c3 a w G H=>?_
 refine cc I (fun t6 I=>?_) fun t6 I=>?_
 ·refine go 7 fun a w G H=>?_
  obtain rfl:=oI I
  refine er zt G H ?_
  exact⟨s1,s3,cu,dm,E,q6,bS H [3,4,5,6,7] 8 E⟩
 refine go 7 fun a w G H=>?_
 obtain⟨d6,u5,I⟩:=ade I
 have t9:=oP u5 (bS H [3,4,5,6,7,0,1,2] 8 rfl) (fun _ h=>h) q6 (fun w H=>(f8 _ (S _ (fc H 3)))) (fun w H=>(f10 _ (S _ (fc H 3)))) (fun w H=>(f12 _ (S _ (fc H 3)))) (fun w H=>(f14 _ (S _ (fc H 3)))) (fun w H=>f16 _ (S _ (fc H 3))) (fun w H=>(H.rowS (X:=Int) (i:=1) rfl))
 refine cl Tryz.call252 t9 ?_
 rintro v w ⟨rfl,H⟩ a G
 refine go 3 fun a w G H=>?_
 refine aN G E E E (bK Tryz.zeroValue283 (zs:=(encs (⟨List.replicate 6 0,E⟩ : Vec Int 6).l)) E E fun c4 w z8 j2=>?_)
 have H:=H.plus j2
 replace H:au _ (pt c4 (encs (⟨List.replicate 6 0,rfl⟩ : Vec Int 6).l) 283::pt b0 (af.enc (gB x0 s1 s3 s7 s9 eK e7 eN dm)) 203::ak 0 s1 5 x0.ae.cq::ak 0 s3 23 cu::(a_ cu x0.ae.ah)::ak 0 dm 3 x0.a7::pt c3 (gd.enc (gd.mk c5 c6.1.ret)) 280::ak 0 c5 3 c6.1.args::pt c2 (bg.enc x1) 101::Lr):=H
 intro a G
 refine bE E E (aU (vs:=_) mf (H.obj (i:=0) E) G E E E E (aR _) (fA _) (by first|(rw[aR,aR];decide)|(rw[aR];decide)) (bF ((aR _).trans (aR _).symm)) fun w t5=>?_)
 have H:=H.chg t5 (i:=0) rfl
 try dsimp only[List.set]at H
 refine go 10 fun a w G H=>?_
 refine cc I (fun t7 I=>?_) fun t7 I=>?_
 ·refine go 7 fun a w G H=>?_
  obtain rfl:=oI I
  refine er zt G H ?_
  exact⟨s1,s3,cu,dm,E,q6,bS H [1,2,3,4,5] 9 E⟩
 refine go 4 fun a w G H=>?_
 obtain⟨c7,u6,I⟩:=ade I
 have u0:=dL u6 H 
 refine cl oy u0 ?_
 rintro v w ⟨rfl,H⟩ a G
 refine go 5 fun c0 a w G H=>?_
 refine dT H [0,1,2,3,4,5,6,7,8,9] 10 fun K=>?_
 obtain⟨g3,u1,I⟩:=ade I
 refine eL [0,1,2,3,4] fun a G=>?_
 refine aK G K 5 E ada E E E (fun w H=>(aG r_ G E E ((H.cells (i:=2) E (af.ci_regs _ _ _ (aL u1).2)).get 3 (aj.g_x _)))) fun a G=>?_
 obtain⟨g4,u2,I⟩:=ade I
 refine eL [6,7,8,9,10] fun a G=>?_
 refine aK G K 11 E ada E E E (fun w H=>(aG r_ G E E ((H.cells (i:=2) E (af.ci_regs _ _ _ (aL u2).2)).get 3 (aj.g_x _)))) fun a G=>?_
 obtain⟨HS,u3,I⟩:=ade I
 refine eL [12,13,14,15,16] fun a G=>?_
 refine aK G K 17 E ada E E E (fun w H=>(aG r_ G E E ((H.cells (i:=2) E (af.ci_regs _ _ _ (aL u3).2)).get 3 (aj.g_x _)))) fun a G=>?_
 refine eL [18,19,20] fun a G=>?_
 refine de fun w H=>?_
 refine go 2 fun a w G H=>?_
 refine aM G H I (fun F x a w=>match x with|(i0,d3,d4,d1,d5)=>∃ (c8:SV) (c9:SV) (c1:List SV) (d0:SV),cn (dj (X:=UInt8) (a_ c1 d1).holds') c1 d1∧Fr 199 [(0,.pointer (some ⟨b0,0,none⟩)),(4,.int .i64 0),(5,.int .i64 0),(9,.pointer (some ⟨c0,0,none⟩))] a∧au w (pt c0 (aj.enc i0) 46::pt b0 (af.enc (af.mk (bq.mk d3 c8 c9 s7 s9) eK e7 (some eN) x0.a8 d0 x0.at_ x0.steps x0.done)) 203::ak 0 c8 5 d4::ak 0 c9 23 c1::(a_ c1 d1)::ak 0 d0 3 d5::Lr)) (fun c31 I t2 G H=>?_) ?_
 ·refine go 13 fun a w G H=>?_
  refine cc I (fun k4 I=>?_) fun k4 I=>?_
  ·obtain⟨CB,m8,I⟩:=ade I
   refine go 3 fun a w G H=>?_
   refine aA G (aG r_ G E E ((H.cells (i:=1) E (fY (aL m8).2)).get 0 E)) E E E fun a G=>?_
   obtain⟨z5,n7,I⟩:=ade I
   have l7:=eW n7 (bS H [2,3,4,5,6,0,1,7,8,9] 10 rfl) (Bf:=Bf) (fun w H=>S _ (fc H 5)) q6 f8 f10 f12 f14 f16
   refine cl x9 l7 ?_
   rintro v w ⟨z1,rfl,H⟩ a G
   replace H:au _ (ak 0 z1 5 z5::pt b0 (af.enc (gB x0 s1 s3 s7 s9 eK e7 eN dm)) 203::ak 0 s1 5 x0.ae.cq::ak 0 s3 23 cu::(a_ cu x0.ae.ah)::ak 0 dm 3 x0.a7::pt c0 (aj.enc c7) 46::pt c4 (encs d6.1.l) 283::pt c3 (gd.enc (gd.mk c5 c6.1.ret)) 280::ak 0 c5 3 c6.1.args::pt c2 (bg.enc x1) 101::Lr):=H
   refine go 1 fun a w G H=>?_
   obtain⟨HM,n8,I⟩:=ade I
   have l8:=D4 n8 H (fun _ h=>h) (fun w H=>(H.rowS (X:=UInt8) (i:=0) rfl))
   refine cl Tryz.call253 l8 ?_
   rintro v w ⟨rfl,H⟩ a G
   refine go 5 fun a w G H=>?_
   exact jr I ⟨s1,s3,cu,dm,q6,G.t,bS H [6,1,2,3,4,5] 11 E⟩
  refine go 6 fun a w G H=>?_
  refine cc I (fun k5 I=>?_) fun k5 I=>?_
  ·refine dT H [0,1,2,3,4,5,6,7,8,9] 10 fun K=>?_
   obtain⟨c16,z9,Dp,m9,I⟩:=b2 I
   refine eL [0,1,2,3,4,5,6,7,8,9,10] fun a G=>?_
   refine aK G K 11 E ada E E E (fun w H=>(aG r_ G E E ((H.cells (i:=1) E (fY (aL m9).2)).get 0 E))) fun a G=>?_
   refine dx 12 fun w ep H=>?_
   obtain⟨j7,n9,I⟩:=ade I
   have l9:=eW n9 (bS H [2,3,4,5,6,0,1,7,8,9] 10 rfl) (Bf:=Bf) (fun w H=>S _ (fc H 5)) q6 f8 f10 f12 f14 f16
   refine dl x9 l9 ?_
   rintro v w ⟨j3,rfl,H⟩
   replace H:au _ (ak 0 j3 5 j7::pt b0 (af.enc (gB x0 s1 s3 s7 s9 eK e7 eN dm)) 203::ak 0 s1 5 x0.ae.cq::ak 0 s3 23 cu::(a_ cu x0.ae.ah)::ak 0 dm 3 x0.a7::pt c0 (aj.enc c7) 46::pt c4 (encs d6.1.l) 283::pt c3 (gd.enc (gd.mk c5 c6.1.ret)) 280::ak 0 c5 3 c6.1.args::pt c2 (bg.enc x1) 101::Lr):=H
   refine ds [0,6,7,1,2,3,4,5,8,9,10] 11 fun a G=>?_
   refine dx 13 fun w ep H=>?_
   obtain⟨i6,p0,I⟩:=ade I
   have m0:=fQ p0 (bS H [1,2,3,4,5,0,6,7,8,9,10] 11 rfl) (fun _ h=>h) q6 (fun w H=>(f8 _ (S _ (fc H 6)))) (fun w H=>(f10 _ (S _ (fc H 6)))) (fun w H=>(f12 _ (S _ (fc H 6)))) (fun w H=>(f14 _ (S _ (fc H 6)))) (fun w H=>f16 _ (S _ (fc H 6))) (fun w H=>(H.rowS (X:=UInt8) (i:=0) rfl))
   refine dl Tryz.call246 m0 ?_
   rintro v w ⟨g6,g7,g1,rfl,u9,H⟩
   replace H:au _ (pt b0 (af.enc (af.mk (bq.mk i6.ae.bh g6 g7 s7 s9) eK e7 (some eN) x0.a8 dm x0.at_ x0.steps x0.done)) 203::ak 0 g6 5 i6.ae.cq::ak 0 g7 23 g1::(a_ g1 i6.ae.ah)::ak 0 dm 3 x0.a7::ak 0 j3 5 j7::pt c0 (aj.enc c7) 46::pt c4 (encs d6.1.l) 283::pt c3 (gd.enc (gd.mk c5 c6.1.ret)) 280::ak 0 c5 3 c6.1.args::pt c2 (bg.enc x1) 101::Lr):=H
   refine dh fun a G=>?_
   refine de fun w H=>?_
   refine cC (aB ?_)
   exact jr I ⟨g6,g7,g1,dm,u9,G.t,bS H [6,0,1,2,3,4] 11 E⟩
  refine go 6 fun a w G H=>?_
  refine cc I (fun k6 I=>?_) fun k6 I=>?_
  ·obtain⟨Dq,n0,I⟩:=ade I
   refine go 3 fun a w G H=>?_
   refine aA G (aG r_ G E E ((H.cells (i:=1) E (fY (aL n0).2)).get 0 E)) E E E fun a G=>?_
   obtain⟨j6,n1,I⟩:=ade I
   refine aN G E E E (K6 n1 kg r7 E E E G E E E fun j1 w i8=>?_)
   have H:=H.plus i8
   try dsimp only[List.set]at H
   intro a G
   refine go 4 fun a w G H=>?_
   refine aM G H I (fun F x a w=>match x with|i1=>∃ (d8:SV),Fr 199 [(13,(d8).v),(0,.pointer (some ⟨b0,0,none⟩)),(10,.int .i64 g3.x),(4,.int .i64 0),(5,.int .i64 0),(9,.pointer (some ⟨c0,0,none⟩))] a∧au w (ak 0 d8 5 i1::pt c0 (aj.enc c7) 46::pt b0 (af.enc (gB x0 s1 s3 s7 s9 eK e7 eN dm)) 203::ak 0 s1 5 x0.ae.cq::ak 0 s3 23 cu::(a_ cu x0.ae.ah)::ak 0 dm 3 x0.a7::Lr)) (fun c32 I c11 G H=>?_) ?_
   ·refine go 8 fun a w G H=>?_
    refine aY G H I (fun F x a w=>match x with|(d9,i2)=>∃ (d2:SV),Fr 199 [(13,(d2).v),(86,.int .i64 i2),(0,.pointer (some ⟨b0,0,none⟩)),(10,.int .i64 g3.x),(11,.int .i64 g4.x),(4,.int .i64 0),(5,.int .i64 0),(85,.int .i64 (j6.length:Int)),(9,.pointer (some ⟨c0,0,none⟩))] a∧au w (ak 0 d2 5 d9::pt c0 (aj.enc c7) 46::pt b0 (af.enc (gB x0 s1 s3 s7 s9 eK e7 eN dm)) 203::ak 0 s1 5 x0.ae.cq::ak 0 s3 23 cu::(a_ cu x0.ae.ah)::ak 0 dm 3 x0.a7::Lr)) (fun G H=>⟨j1,G.to ⟨E,E,E,E,E,E,E,E,E,trivial⟩,fU H [0,1,3,4,5,6,7] 11⟩) ?_
    rintro⟨d9,i2⟩ a w Gi I t3 ⟨d2,G,H⟩
    replace I:Sh.jC g4 j6 d9 i2=_:=I
    unfold Sh.jC at I
    refine go 6 fun a w G H=>?_
    refine cc I (fun k7 I=>?_) fun k7 I=>?_
    ·refine go 14 fun a w G H=>?_
     refine aA G (fK qh KH G E E) E E E fun a G=>?_
     obtain⟨Dt,n2,I⟩:=ade I
     have j9:=aL n2
     refine go 1 fun a w G H=>?_
     refine bE E E (dE (d:=0) (q:=(Fw.byteOf g4.x)) KG (H.own (X:=UInt8) (i:=0) E) j9.2 G E E E E E (by decide) E fun w k1=>?_)
     have H:=H.chg k1 (i:=0) rfl
     try dsimp only[List.set]at H
     refine go 8 fun a w G H=>?_
     exact jr I ⟨d2,G.t,H⟩
    refine go 5 fun a w G H=>?_
    obtain rfl:=oI I
    have I:=t3 _ rfl
    subst I
    exact⟨d9,E,d2,G.to ⟨E,E,E,E,E,E,trivial⟩,H⟩
   rintro i1 a w I ⟨d8,G,H⟩
   unfold Sh.sY at I
   refine aB ?_
   refine dT H [0,1,2,3,4,5,6] 7 fun K=>?_
   obtain⟨c20,c10,I⟩:=ade I
   refine eL [0,1,2,3,4,5,6,7,8,9] fun a G=>?_
   refine dx 10 fun w ep H=>?_
   obtain⟨i7,p1,I⟩:=ade I
   have m1:=fQ p1 (bS H [2,3,4,5,6,0,1] 7 rfl) (fun _ h=>h) q6 (fun w H=>(f8 _ (S _ (fc H 2)))) (fun w H=>(f10 _ (S _ (fc H 2)))) (fun w H=>(f12 _ (S _ (fc H 2)))) (fun w H=>(f14 _ (S _ (fc H 2)))) (fun w H=>f16 _ (S _ (fc H 2))) (fun w H=>(H.rowS (X:=UInt8) (i:=0) rfl))
   refine dl Tryz.call246 m1 ?_
   rintro v w ⟨g8,g9,g2,rfl,z0,H⟩
   replace H:au _ (pt b0 (af.enc (af.mk (bq.mk i7.ae.bh g8 g9 s7 s9) eK e7 (some eN) x0.a8 dm x0.at_ x0.steps x0.done)) 203::ak 0 g8 5 i7.ae.cq::ak 0 g9 23 g2::(a_ g2 i7.ae.ah)::ak 0 dm 3 x0.a7::ak 0 d8 5 i1::pt c0 (aj.enc c7) 46::Lr):=H
   refine dh fun a G=>?_
   refine de fun w H=>?_
   refine cC (aB ?_)
   exact jr I ⟨g8,g9,g2,dm,z0,G.t,bS H [6,0,1,2,3,4] 7 E⟩
  refine go 6 fun a w G H=>?_
  refine cc I (fun k8 I=>?_) fun k8 I=>?_
  ·refine cN mixed ada H [0,1,2,3,4,5,6,7,8,9] 10 E fun K=>?_
   obtain⟨c21,n3,I⟩:=ade I
   refine eL [0,1] fun a G=>?_
   refine aK G K 2 E ada E E E (fun w H=>(aG r_ G E E ((H.cells (i:=1) E (fY (aL n3).2)).get 0 E))) fun a G=>?_
   obtain⟨Du,n4,I⟩:=ade I
   refine eL [4,5] fun a G=>?_
   refine aK G K 6 E ada E E E (fun w H=>(aG r_ G E E ((H.cells (i:=1) E (fY (aL n4).2)).get 0 E))) fun a G=>?_
   refine dx 3 fun w ep H=>?_
   obtain⟨j8,p2,I⟩:=ade I
   have m2:=eW p2 (bS H [2,3,4,5,6,0,1,7,8,9] 10 rfl) (Bf:=Bf) (fun w H=>S _ (fc H 5)) q6 f8 f10 f12 f14 f16
   refine dl x9 m2 ?_
   rintro v w ⟨j4,rfl,H⟩
   replace H:au _ (ak 0 j4 5 j8::pt b0 (af.enc (gB x0 s1 s3 s7 s9 eK e7 eN dm)) 203::ak 0 s1 5 x0.ae.cq::ak 0 s3 23 cu::(a_ cu x0.ae.ah)::ak 0 dm 3 x0.a7::pt c0 (aj.enc c7) 46::pt c4 (encs d6.1.l) 283::pt c3 (gd.enc (gd.mk c5 c6.1.ret)) 280::ak 0 c5 3 c6.1.args::pt c2 (bg.enc x1) 101::Lr):=H
   refine ds [0,6,7,1,2,3,4,5,8,9,10] 11 fun a G=>?_
   refine dx 7 fun w ep H=>?_
   obtain⟨z6,p3,I⟩:=ade I
   have m3:=eW p3 (bS H [1,2,3,4,5,0,6,7,8,9,10] 11 rfl) (Bf:=Bf) (fun w H=>S _ (fc H 6)) q6 f8 f10 f12 f14 f16
   refine dl x9 m3 ?_
   rintro v w ⟨z2,rfl,H⟩
   replace H:au _ (ak 0 z2 5 z6::pt b0 (af.enc (gB x0 s1 s3 s7 s9 eK e7 eN dm)) 203::ak 0 s1 5 x0.ae.cq::ak 0 s3 23 cu::(a_ cu x0.ae.ah)::ak 0 dm 3 x0.a7::ak 0 j4 5 j8::pt c0 (aj.enc c7) 46::pt c4 (encs d6.1.l) 283::pt c3 (gd.enc (gd.mk c5 c6.1.ret)) 280::ak 0 c5 3 c6.1.args::pt c2 (bg.enc x1) 101::Lr):=H
   refine ds [0,6,7,8,1,2,3,4,5,9,10,11] 12 fun a G=>?_
   refine dx 8 fun w ep H=>?_
   obtain⟨c28,p4,I⟩:=ade I
   have m4:=zN p4 H (fun _ h=>h) (fun w H=>(H.rowS (X:=UInt8) (i:=6) rfl)) (fun w H=>(H.rowS (X:=UInt8) (i:=0) rfl))
   refine dl Tryz.call255 m4 ?_
   rintro v w ⟨rfl,H⟩
   refine ds [0,6,7,8,1,2,3,4,5,9,10,11] 12 fun a G=>?_
   refine eL [9,10] fun a G=>?_
   refine de fun w H=>?_
   refine cC (aB ?_)
   exact jr I ⟨s1,s3,cu,dm,q6,G.t,bS H [7,1,2,3,4,5] 12 E⟩
  refine go 6 fun a w G H=>?_
  refine cc I (fun k9 I=>?_) fun k9 I=>?_
  ·obtain⟨Dv,n5,I⟩:=ade I
   refine go 3 fun a w G H=>?_
   refine aA G (aG r_ G E E ((H.cells (i:=1) E (fY (aL n5).2)).get 0 E)) E E E fun a G=>?_
   obtain⟨z7,p5,I⟩:=ade I
   have m5:=eW p5 (bS H [2,3,4,5,6,0,1,7,8,9] 10 rfl) (Bf:=Bf) (fun w H=>S _ (fc H 5)) q6 f8 f10 f12 f14 f16
   refine cl x9 m5 ?_
   rintro v w ⟨z3,rfl,H⟩ a G
   replace H:au _ (ak 0 z3 5 z7::pt b0 (af.enc (gB x0 s1 s3 s7 s9 eK e7 eN dm)) 203::ak 0 s1 5 x0.ae.cq::ak 0 s3 23 cu::(a_ cu x0.ae.ah)::ak 0 dm 3 x0.a7::pt c0 (aj.enc c7) 46::pt c4 (encs d6.1.l) 283::pt c3 (gd.enc (gd.mk c5 c6.1.ret)) 280::ak 0 c5 3 c6.1.args::pt c2 (bg.enc x1) 101::Lr):=H
   refine go 1 fun a w G H=>?_
   obtain⟨HN,p6,I⟩:=ade I
   have m6:=zO p6 H (fun _ h=>h) (fun w H=>(H.rowS (X:=UInt8) (i:=0) rfl))
   refine cl Tryz.call256 m6 ?_
   rintro v w ⟨rfl,H⟩ a G
   refine go 5 fun a w G H=>?_
   exact jr I ⟨s1,s3,cu,dm,q6,G.t,bS H [6,1,2,3,4,5] 11 E⟩
  refine go 6 fun a w G H=>?_
  refine cc I (fun l0 I=>?_) fun l0 I=>?_
  ·refine go 10 fun a w G H=>?_
   refine cc I (fun l1 I=>?_) fun l1 I=>?_
   ·refine go 6 fun a w G H=>?_
    exact jr I ⟨s1,s3,cu,dm,q6,G.t,bS H [0,2,3,4,5,6] 10 E⟩
   refine go 7 fun a w G H=>?_
   refine aN G E E E (bO (X:=Int) (y:=g3.x) kz jO E E E E G E E E fun t1 w u7 g5=>?_)
   have H:=H.plus g5
   try dsimp only[List.set]at H
   intro a G
   obtain⟨c24,n6,I⟩:=ade I
   refine aN G E E E (cB (X:=Int) n6 kz jO E E E E G E E E (H.own (X:=Int) (i:=7) E) (H.ptS (X:=Int) (i:=0) (n:=1) (c:=1) E E E (aal _)) fun z4 w k0=>?_)
   have H:=H.chg k0 (i:=7) rfl
   try dsimp only[List.set]at H
   intro a G
   refine go 6 fun a w G H=>?_
   exact jr I ⟨s1,s3,cu,z4,q6,G.t,bS H [1,3,4,5,6,7] 11 E⟩
  refine go 6 fun a w G H=>?_
  refine cc I (fun l2 I=>?_) fun l2 I=>?_
  ·refine go 2 fun a w G H=>?_
   refine jm (pt c0 (aj.enc c7) 46::pt b0 (af.enc (gB x0 s1 s3 s7 s9 eK e7 eN dm)) 203::ak 0 s1 5 x0.ae.cq::ak 0 s3 23 cu::(a_ cu x0.ae.ah)::ak 0 dm 3 x0.a7::ak 0 c5 3 c6.1.args::Lr) G H I [0,10,11,4,5,9] (fun i3 u=>(159,.bool i3)::u) (fun HQ I c12 G H=>?_) fun i3 a w I G H=>?_
   ·exact lf
   replace I:Sh.nG x0 c7 g3 g4 i3=_:=I
   unfold Sh.nG at I
   refine aB ?_
   refine cc I (fun l3 I=>?_) fun l3 I=>?_
   ·refine go 7 fun a w G H=>?_
    obtain rfl:=oI I
    have I:=bA t2
    subst I
    refine er zt G H ?_
    exact⟨s1,s3,cu,dm,E,q6,bS H [1,2,3,4,5] 7 E⟩
   refine go 3 fun a w G H=>?_
   refine jm (pt c0 (aj.enc c7) 46::pt b0 (af.enc (gB x0 s1 s3 s7 s9 eK e7 eN dm)) 203::ak 0 s1 5 x0.ae.cq::ak 0 s3 23 cu::(a_ cu x0.ae.ah)::ak 0 dm 3 x0.a7::Lr) G H I [0,10,11,4,5,9] (fun i4 u=>(174,.bool i4)::u) (fun c34 I BW G H=>?_) fun i4 a w I G H=>?_
   ·exact lf
   replace I:Sh.nH x0 c7 g3 g4 i4=_:=I
   unfold Sh.nH at I
   refine aB ?_
   refine cc I (fun l4 I=>?_) fun l4 I=>?_
   ·refine go 3 fun a w G H=>?_
    refine aA G (aW z46 BD Bo G (parts:=[(0,.const (.int .i64 (5))),(1,.tmp 175),(2,.tmp 176)]) E E (aP E E (by rw[aj.len];decide) (aj.s_kind _ _) (aP E E (by rw[aj.len];decide) (aj.s_table _ _) (aP E E (by rw[aj.len];decide) (aj.s_row _ _) bD)))) E E E fun a G=>?_
    refine go 4 fun a w G H=>?_
    exact jr I ⟨s1,s3,cu,dm,q6,G.t,H⟩
   refine go 3 fun a w G H=>?_
   exact jr I ⟨s1,s3,cu,dm,q6,G.t,H⟩
  refine go 6 fun a w G H=>?_
  refine cc I (fun l5 I=>?_) fun l5 I=>?_
  ·refine go 3 fun a w G H=>?_
   obtain⟨HO,p7,I⟩:=ade I
   have m7:=SA p7 H 
   refine cl Tryz.call257 m7 ?_
   rintro v w ⟨rfl,H⟩ a G
   refine go 5 fun a w G H=>?_
   exact jr I ⟨s1,s3,cu,dm,q6,G.t,bS H [0,2,3,4,5,6] 10 E⟩
  refine go 3 fun a w G H=>?_
  exact jr I ⟨s1,s3,cu,dm,q6,G.t,bS H [0,2,3,4,5,6] 10 E⟩
 rintro⟨i0,d3,d4,d1,d5⟩ a w I ⟨c8,c9,c1,d0,u8,G,H⟩
 replace I:Sh.cJ x0 i0 d3 d4 d1 d5=_:=I
 unfold Sh.cJ at I
 refine go 2 fun a w G H=>?_
 refine dT H [0,1,2,3,4,5] 6 fun K=>?_
 obtain⟨Gf,i9,I⟩:=ade I
 refine eL [0,1,2,3,4] fun a G=>?_
 refine kn 5 fun w ep H=>?_
 refine(aU (vs:=_) iw (H.obj (i:=1) E) G E E E E (aj.len _) (aj.one _) (by have:=(bW i9);rw[aj.len,af.len];omega) (af.pi_regs _ _ _ (by have:=(bW i9);omega)) fun w k2=>?_)
 have H:=H.chg k2 (i:=1) rfl
 try dsimp only[List.set]at H
 refine dh ?_
 refine de fun w H=>?_
 refine go 2 fun a w G H=>?_
 refine aM G H I (fun F x a w=>match x with|j5=>Fr 199 [(4,.int .i64 0),(5,.int .i64 0)] a∧au w (pt b0 (af.enc (af.mk (bq.mk d3 c8 c9 s7 s9) eK e7 (some eN) j5 d0 x0.at_ x0.steps x0.done)) 203::ak 0 c8 5 d4::ak 0 c9 23 c1::(a_ c1 d1)::ak 0 d0 3 d5::Lr)) (fun Gh I Cm G H=>?_) ?_
 ·refine go 6 fun a w G H=>?_
  refine aY G H I (fun F x a w=>match x with|(g0,i5)=>Fr 199 [(15,.int .i64 i5),(0,.pointer (some ⟨b0,0,none⟩)),(4,.int .i64 0),(5,.int .i64 0)] a∧au w (pt b0 (af.enc (af.mk (bq.mk d3 c8 c9 s7 s9) eK e7 (some eN) g0 d0 x0.at_ x0.steps x0.done)) 203::ak 0 c8 5 d4::ak 0 c9 23 c1::(a_ c1 d1)::ak 0 d0 3 d5::Lr)) (fun G H=>⟨G.to ⟨E,E,E,E,trivial⟩,fU H [1,2,3,4,5] 6⟩) ?_
  rintro⟨g0,i5⟩ a w c37 I t4 ⟨G,H⟩
  replace I:Sh.dI g0 i5=_:=I
  unfold Sh.dI at I
  refine go 7 fun a w G H=>?_
  refine cc I (fun l6 I=>?_) fun l6 I=>?_
  ·refine go 7 fun a w G H=>?_
   refine aA G (aW z46 BD Bo G (parts:=[]) E E bD) E E E fun a G=>?_
   obtain⟨HL,j0,I⟩:=ade I
   refine go 3 fun a w G H=>?_
   refine bE E E (aU (vs:=_) iw (H.obj (i:=0) E) G E E E E (aj.len _) (aj.one _) (by have:=(bW j0);rw[aj.len,af.len];omega) (af.pi_regs _ _ _ (by have:=(bW j0);omega)) fun w k3=>?_)
   have H:=H.chg k3 (i:=0) rfl
   try dsimp only[List.set]at H
   exact lf
  refine go 5 fun a w G H=>?_
  obtain rfl:=oI I
  have I:=t4 _ rfl
  subst I
  exact⟨g0,E,G.to ⟨E,E,trivial⟩,H⟩
 rintro j5 a w I ⟨G,H⟩
 unfold Sh.FH at I
 refine go 8 fun a w G H=>?_
 obtain rfl:=oI I
 refine er zt G H ?_
 exact⟨c8,c9,c1,d0,E,u8,H⟩
end Go.Proofs
end
section
namespace Go.Proofs
open Go.Fw Go.Fx
set_option maxRecDepth 10000
theorem pC{x0:ai}{x1:bg}{s1 s3:SV}{cu:List SV}{s7 s9 eK e7:SV}{eN:Nat}{dm:SV}{b0:Nat}{out:Int}{w0:World}{Bf:World→Prop}{Lr:List di}(I:Sh.nC x0 x1=some out)(H:au w0 (pt b0 (af.enc (gB x0 s1 s3 s7 s9 eK e7 eN dm)) 203::ak 0 s1 5 x0.ae.cq::ak 0 s3 23 cu::(a_ cu x0.ae.ah)::ak 0 dm 3 x0.a7::Lr))(S:∀ w,au w Lr→Bf w)(q6:cn (dj (X:=UInt8) (a_ cu x0.ae.ah).holds') cu x0.ae.ah)(f8:dj Bf s7 x0.ae.data)(f10:dj Bf s9 x0.ae.sizes)(f12:dj Bf eK x0.code)(f14:dj Bf e7 x0.dq)(f16:jl Bf eN x0.da):Calls Tryz.prog 146 #[.pointer (some ⟨b0,0,none⟩),.agg (bg.enc x1).toArray] w0 (fZ fun v w'=>v = .int .i64 out∧au w' (pt b0 (af.enc (gB x0 s1 s3 s7 s9 eK e7 eN dm)) 203::ak 0 s1 5 x0.ae.cq::ak 0 s3 23 cu::(a_ cu x0.ae.ah)::ak 0 dm 3 x0.a7::Lr)):=by
 unfold Sh.nC at I
 refine ce Tryz.func146 Tryz.ntmps146 fun a G=>?_
 refine go 16 fun c5 c0 a w G H=>?_
 refine dT H [0,1,2,3,4,5,6] 7 fun K=>?_
 refine eL [0,1,2,3,4,6,7,8,9,10,12,13,14,15] fun a G=>?_
 refine dx 5 fun w ep H=>?_
 obtain⟨c6,k9,I⟩:=ade I
 have k6:=cW k9 H (fun _ h=>h) (fun w H=>(H.rowS (X:=UInt8) (i:=3) rfl))
 refine dl sd k6 ?_
 rintro v w ⟨c3,rfl,H⟩
 refine ds [0,1,2,3,4,5,6,7] 8 fun a G=>?_
 refine dx 11 fun w ep H=>?_
 obtain⟨c7,l0,I⟩:=ade I
 have k7:=iU l0 H (fun _ h=>h) (fun w H=>(H.rowS (X:=SV) (i:=5) rfl)) (q6.mono fun _ _ q=>q.mono fun w H=>H.hold 6 _ rfl)
 refine dl Tryz.call143 k7 ?_
 rintro v w ⟨c4,c1,rfl,c9,H⟩
 refine ds [0,1,2,3,4,5,6,7,8,9] 10 fun a G=>?_
 refine dx 16 fun w ep H=>?_
 obtain⟨c8,l1,I⟩:=ade I
 have k8:=dX l1 H (fun _ h=>h) (fun w H=>(H.rowS (X:=Int) (i:=9) rfl))
 refine dl Tryz.call134 k8 ?_
 rintro v w ⟨c2,rfl,H⟩
 refine ds [0,1,2,3,4,5,6,7,8,9,10] 11 fun a G=>?_
 refine eL [17,18] fun a G=>?_
 refine kn 19 fun w ep H=>?_
 refine(bQ vp (H.obj (i:=4) E) G E E E E (by rw[af.len];decide) (fT (af.c_memory _) (bq.ig _ _) (af.p_memory _ _) (by rw[af.len];decide) (by decide)) fun w k4=>?_)
 have H:=H.chg k4 (i:=4) rfl
 try dsimp only[List.set]at H
 refine dh ?_
 refine eL [20,21] fun a G=>?_
 refine kn 22 fun w ep H=>?_
 refine(bQ Tryz.sizeOf28 (H.obj (i:=4) E) G E E E E (by rw[af.len];decide) (fT (af.c_memory _) (bq.eh _ _) (af.p_memory _ _) (by rw[af.len];decide) (by decide)) fun w k5=>?_)
 have H:=H.chg k5 (i:=4) rfl
 try dsimp only[List.set]at H
 refine dh ?_
 refine eL [23,24] fun a G=>?_
 refine de fun w H=>?_
 refine go 3 fun a w G H=>?_
 refine aM G H I (fun F x a w=>match x with|(d6,d7,d2,d8,d9,g0,g1)=>∃ (d3:SV) (d4:SV) (d1:List SV) (d5:SV),cn (dj (X:=UInt8) (a_ d1 d2).holds') d1 d2∧Fr 44 [(7,.int .i64 g1),(4,.int .i64 0)] a∧au w (pt c0 (af.enc (af.mk (bq.mk d6 d3 d4 s7 s9) eK e7 (some eN) d8 d5 x0.at_ x0.steps g0)) 203::ak 0 d3 5 d7::ak 0 d4 23 d1::(a_ d1 d2)::ak 0 d5 3 d9::pt b0 (af.enc (gB x0 s1 s3 s7 s9 eK e7 eN dm)) 203::ak 0 s1 5 x0.ae.cq::ak 0 s3 23 cu::(a_ cu x0.ae.ah)::ak 0 dm 3 x0.a7::Lr)) (fun n6 I m4 G H=>?_) ?_
 ·refine dT H [0,1,2,3,4,5,6,7,8,9,10] 11 fun K=>?_
  refine eL [0,1,3] fun a G=>?_
  refine dx 2 fun w ep H=>?_
  obtain⟨m3,I,d0⟩:=cM I
  refine(aS (xs:=[.tmp 5,.tmp 35]) Tryz.call147 G E E (R:=fun v w=>∃ x,m3 = .inl x∧match x with|(.inl _)=>v = .func (.func 204) [.pointer (some ⟨c0,0,none⟩)].toArray [].toArray∧au w (ak 0 c2 3 c8::ak 0 c4 23 c1::(a_ c1 c7)::ak 0 c3 5 c6::pt c0 (af.enc (gB x0 c3 c4 s7 s9 eK e7 eN c2)) 203::pt c5 (bg.enc x1) 101::pt b0 (af.enc (gB x0 s1 s3 s7 s9 eK e7 eN dm)) 203::ak 0 s1 5 x0.ae.cq::ak 0 s3 23 cu::(a_ cu x0.ae.ah)::ak 0 dm 3 x0.a7::Lr)|(.inr (.inl _))=>v = .func (.func 205) [.pointer (some ⟨c0,0,none⟩)].toArray [].toArray∧au w (ak 0 c2 3 c8::ak 0 c4 23 c1::(a_ c1 c7)::ak 0 c3 5 c6::pt c0 (af.enc (gB x0 c3 c4 s7 s9 eK e7 eN c2)) 203::pt c5 (bg.enc x1) 101::pt b0 (af.enc (gB x0 s1 s3 s7 s9 eK e7 eN dm)) 203::ak 0 s1 5 x0.ae.cq::ak 0 s3 23 cu::(a_ cu x0.ae.ah)::ak 0 dm 3 x0.a7::Lr)|(.inr (.inr (.inl _)))=>v = .func (.func 206) [.pointer (some ⟨c0,0,none⟩)].toArray [].toArray∧au w (ak 0 c2 3 c8::ak 0 c4 23 c1::(a_ c1 c7)::ak 0 c3 5 c6::pt c0 (af.enc (gB x0 c3 c4 s7 s9 eK e7 eN c2)) 203::pt c5 (bg.enc x1) 101::pt b0 (af.enc (gB x0 s1 s3 s7 s9 eK e7 eN dm)) 203::ak 0 s1 5 x0.ae.cq::ak 0 s3 23 cu::(a_ cu x0.ae.ah)::ak 0 dm 3 x0.a7::Lr)|(.inr (.inr (.inr (.inl _))))=>v = .func (.func 207) [.pointer (some ⟨c0,0,none⟩)].toArray [].toArray∧au w (ak 0 c2 3 c8::ak 0 c4 23 c1::(a_ c1 c7)::ak 0 c3 5 c6::pt c0 (af.enc (gB x0 c3 c4 s7 s9 eK e7 eN c2)) 203::pt c5 (bg.enc x1) 101::pt b0 (af.enc (gB x0 s1 s3 s7 s9 eK e7 eN dm)) 203::ak 0 s1 5 x0.ae.cq::ak 0 s3 23 cu::(a_ cu x0.ae.ah)::ak 0 dm 3 x0.a7::Lr)|(.inr (.inr (.inr (.inr (.inl _)))))=>v = .func (.func 208) [.pointer (some ⟨c0,0,none⟩)].toArray [].toArray∧au w (ak 0 c2 3 c8::ak 0 c4 23 c1::(a_ c1 c7)::ak 0 c3 5 c6::pt c0 (af.enc (gB x0 c3 c4 s7 s9 eK e7 eN c2)) 203::pt c5 (bg.enc x1) 101::pt b0 (af.enc (gB x0 s1 s3 s7 s9 eK e7 eN dm)) 203::ak 0 s1 5 x0.ae.cq::ak 0 s3 23 cu::(a_ cu x0.ae.ah)::ak 0 dm 3 x0.a7::Lr)|(.inr (.inr (.inr (.inr (.inr (.inl _))))))=>v = .func (.func 209) [.pointer (some ⟨c0,0,none⟩)].toArray [].toArray∧au w (ak 0 c2 3 c8::ak 0 c4 23 c1::(a_ c1 c7)::ak 0 c3 5 c6::pt c0 (af.enc (gB x0 c3 c4 s7 s9 eK e7 eN c2)) 203::pt c5 (bg.enc x1) 101::pt b0 (af.enc (gB x0 s1 s3 s7 s9 eK e7 eN dm)) 203::ak 0 s1 5 x0.ae.cq::ak 0 s3 23 cu::(a_ cu x0.ae.ah)::ak 0 dm 3 x0.a7::Lr)|(.inr (.inr (.inr (.inr (.inr (.inr (.inl _)))))))=>v = .func (.func 210) [.pointer (some ⟨c0,0,none⟩)].toArray [].toArray∧au w (ak 0 c2 3 c8::ak 0 c4 23 c1::(a_ c1 c7)::ak 0 c3 5 c6::pt c0 (af.enc (gB x0 c3 c4 s7 s9 eK e7 eN c2)) 203::pt c5 (bg.enc x1) 101::pt b0 (af.enc (gB x0 s1 s3 s7 s9 eK e7 eN dm)) 203::ak 0 s1 5 x0.ae.cq::ak 0 s3 23 cu::(a_ cu x0.ae.ah)::ak 0 dm 3 x0.a7::Lr)|(.inr (.inr (.inr (.inr (.inr (.inr (.inr (.inl _))))))))=>v = .func (.func 211) [.pointer (some ⟨c0,0,none⟩)].toArray [].toArray∧au w (ak 0 c2 3 c8::ak 0 c4 23 c1::(a_ c1 c7)::ak 0 c3 5 c6::pt c0 (af.enc (gB x0 c3 c4 s7 s9 eK e7 eN c2)) 203::pt c5 (bg.enc x1) 101::pt b0 (af.enc (gB x0 s1 s3 s7 s9 eK e7 eN dm)) 203::ak 0 s1 5 x0.ae.cq::ak 0 s3 23 cu::(a_ cu x0.ae.ah)::ak 0 dm 3 x0.a7::Lr)|(.inr (.inr (.inr (.inr (.inr (.inr (.inr (.inr (.inl _)))))))))=>v = .func (.func 212) [.pointer (some ⟨c0,0,none⟩)].toArray [].toArray∧au w (ak 0 c2 3 c8::ak 0 c4 23 c1::(a_ c1 c7)::ak 0 c3 5 c6::pt c0 (af.enc (gB x0 c3 c4 s7 s9 eK e7 eN c2)) 203::pt c5 (bg.enc x1) 101::pt b0 (af.enc (gB x0 s1 s3 s7 s9 eK e7 eN dm)) 203::ak 0 s1 5 x0.ae.cq::ak 0 s3 23 cu::(a_ cu x0.ae.ah)::ak 0 dm 3 x0.a7::Lr)|(.inr (.inr (.inr (.inr (.inr (.inr (.inr (.inr (.inr _)))))))))=>v = .func (.func 213) [.pointer (some ⟨c0,0,none⟩)].toArray [].toArray∧au w (ak 0 c2 3 c8::ak 0 c4 23 c1::(a_ c1 c7)::ak 0 c3 5 c6::pt c0 (af.enc (gB x0 c3 c4 s7 s9 eK e7 eN c2)) 203::pt c5 (bg.enc x1) 101::pt b0 (af.enc (gB x0 s1 s3 s7 s9 eK e7 eN dm)) 203::ak 0 s1 5 x0.ae.cq::ak 0 s3 23 cu::(a_ cu x0.ae.ah)::ak 0 dm 3 x0.a7::Lr)) ?_ fun v w hR=>?_)
  ·refine aV Tryz.func147 E Tryz.ntmps147 E fun a G=>?_
   refine go 14 fun a w G H=>?_
   refine cc I (fun g2 I=>?_) fun g2 I=>?_
   ·refine go 8 fun a w G H=>?_
    obtain rfl:=oI I
    refine aT ko G E ?_
    exact⟨(inl ()),E,E,H⟩
   refine go 7 fun a w G H=>?_
   refine cc I (fun g3 I=>?_) fun g3 I=>?_
   ·refine go 8 fun a w G H=>?_
    obtain rfl:=oI I
    refine aT ko G E ?_
    exact⟨(inr (inl ())),E,E,H⟩
   refine go 7 fun a w G H=>?_
   refine cc I (fun g4 I=>?_) fun g4 I=>?_
   ·refine go 8 fun a w G H=>?_
    obtain rfl:=oI I
    refine aT ko G E ?_
    exact⟨(inr (inr (inl ()))),E,E,H⟩
   refine go 7 fun a w G H=>?_
   refine cc I (fun g5 I=>?_) fun g5 I=>?_
   ·refine go 8 fun a w G H=>?_
    obtain rfl:=oI I
    refine aT ko G E ?_
    exact⟨(inr (inr (inr (inl ())))),E,E,H⟩
   refine go 7 fun a w G H=>?_
   refine cc I (fun g6 I=>?_) fun g6 I=>?_
   ·refine go 8 fun a w G H=>?_
    obtain rfl:=oI I
    refine aT ko G E ?_
    exact⟨(inr (inr (inr (inr (inl ()))))),E,E,H⟩
   refine go 7 fun a w G H=>?_
   refine cc I (fun g7 I=>?_) fun g7 I=>?_
   ·refine go 8 fun a w G H=>?_
    obtain rfl:=oI I
    refine aT ko G E ?_
    exact⟨(inr (inr (inr (inr (inr (inl ())))))),E,E,H⟩
   refine go 7 fun a w G H=>?_
   refine cc I (fun g8 I=>?_) fun g8 I=>?_
   ·refine go 8 fun a w G H=>?_
    obtain rfl:=oI I
    refine aT ko G E ?_
    exact⟨(inr (inr (inr (inr (inr (inr (inl ()))))))),E,E,H⟩
   refine go 7 fun a w G H=>?_
   refine cc I (fun g9 I=>?_) fun g9 I=>?_
   ·refine go 8 fun a w G H=>?_
    obtain rfl:=oI I
    refine aT ko G E ?_
    exact⟨(inr (inr (inr (inr (inr (inr (inr (inl ())))))))),E,E,H⟩
   refine go 7 fun a w G H=>?_
   refine cc I (fun i0 I=>?_) fun i0 I=>?_
   ·refine go 8 fun a w G H=>?_
    obtain rfl:=oI I
    refine aT ko G E ?_
    exact⟨(inr (inr (inr (inr (inr (inr (inr (inr (inl ()))))))))),E,E,H⟩
   refine go 11 fun a w G H=>?_
   obtain rfl:=oI I
   refine aT ko G E ?_
   exact⟨(inr (inr (inr (inr (inr (inr (inr (inr (inr ()))))))))),E,E,H⟩
  obtain⟨m2,rfl,hR⟩:=hR
  rcases m2 with⟨⟩|⟨⟩|⟨⟩|⟨⟩|⟨⟩|⟨⟩|⟨⟩|⟨⟩|⟨⟩|⟨⟩
  ·obtain⟨rfl,H⟩:=hR
   replace I:Sh.sZ x0 x1 c6 c7 c8=_:=d0
   unfold Sh.sZ at I
   try dsimp only[List.set]at H
   refine ds [0,1,2,3,4,5,6,7,8,9,10] 11 fun a G=>?_
   refine dx 4 fun w ep H=>?_
   obtain⟨m6,j4,I⟩:=ade I
   have i1:=hO j4 (fU H [4,3,1,2,0,5,6,7,8,9,10] 11) (Bf:=Bf) (tb S) c9 f8 f10 f12 f14 f16
   refine(dQ (xs:=[.tmp 37]) Tryz.call204 G E E E i1 fun v w hR=>?_)
   obtain⟨rfl,H⟩:=hR
   refine dh fun a G=>?_
   refine eL [5,6,7,8,9] fun a G=>?_
   refine de fun w H=>?_
   refine aB ?_
   exact jr I ⟨c3,c4,c1,c2,c9,G.t,bS H [0,1,2,3,4,6,7,8,9,10] 11 E⟩
  ·obtain⟨rfl,H⟩:=hR
   replace I:Sh.tA x0 x1 c6 c7 c8=_:=d0
   unfold Sh.tA at I
   try dsimp only[List.set]at H
   refine ds [0,1,2,3,4,5,6,7,8,9,10] 11 fun a G=>?_
   refine dx 4 fun w ep H=>?_
   obtain⟨m7,j5,I⟩:=ade I
   have i2:=kK j5 (fU H [4,3,1,2,0,5,6,7,8,9,10] 11) (Bf:=Bf) (tb S) c9 f8 f10 f12 f14 f16
   refine(dQ (xs:=[.tmp 37]) Tryz.call205 G E E E i2 fun v w hR=>?_)
   obtain⟨rfl,H⟩:=hR
   refine dh fun a G=>?_
   refine eL [5,6,7,8,9] fun a G=>?_
   refine de fun w H=>?_
   refine aB ?_
   exact jr I ⟨c3,c4,c1,c2,c9,G.t,bS H [0,1,2,3,4,6,7,8,9,10] 11 E⟩
  ·obtain⟨rfl,H⟩:=hR
   replace I:Sh.tB x0 x1 c6 c7 c8=_:=d0
   unfold Sh.tB at I
   try dsimp only[List.set]at H
   refine ds [0,1,2,3,4,5,6,7,8,9,10] 11 fun a G=>?_
   refine dx 4 fun w ep H=>?_
   obtain⟨m8,j6,I⟩:=ade I
   have i3:=iT j6 (fU H [4,3,1,2,0,5,6,7,8,9,10] 11) (Bf:=Bf) (tb S) c9 f8 f10 f12 f14 f16
   refine(dQ (xs:=[.tmp 37]) Tryz.call206 G E E E i3 fun v w hR=>?_)
   obtain⟨rfl,H⟩:=hR
   refine dh fun a G=>?_
   refine eL [5,6,7,8,9] fun a G=>?_
   refine de fun w H=>?_
   refine aB ?_
   exact jr I ⟨c3,c4,c1,c2,c9,G.t,bS H [0,1,2,3,4,6,7,8,9,10] 11 E⟩
  ·obtain⟨rfl,H⟩:=hR
   replace I:Sh.tC x0 x1 c6 c7 c8=_:=d0
   unfold Sh.tC at I
   try dsimp only[List.set]at H
   refine ds [0,1,2,3,4,5,6,7,8,9,10] 11 fun a G=>?_
   refine dx 4 fun w ep H=>?_
   obtain⟨m9,j7,I⟩:=ade I
   have i4:=kJ j7 (fU H [4,3,1,2,0,5,6,7,8,9,10] 11) (Bf:=Bf) (tb S) c9 f8 f10 f12 f14 f16
   refine(dQ (xs:=[.tmp 37]) Tryz.call207 G E E E i4 fun v w hR=>?_)
   obtain⟨rfl,H⟩:=hR
   refine dh fun a G=>?_
   refine eL [5,6,7,8,9] fun a G=>?_
   refine de fun w H=>?_
   refine aB ?_
   exact jr I ⟨c3,c4,c1,c2,c9,G.t,bS H [0,1,2,3,4,6,7,8,9,10] 11 E⟩
  ·obtain⟨rfl,H⟩:=hR
   replace I:Sh.tD x0 x1 c6 c7 c8=_:=d0
   unfold Sh.tD at I
   try dsimp only[List.set]at H
   refine ds [0,1,2,3,4,5,6,7,8,9,10] 11 fun a G=>?_
   refine dx 4 fun w ep H=>?_
   obtain⟨n0,j8,I⟩:=ade I
   have i5:=jV j8 (fU H [4,3,1,2,0,5,6,7,8,9,10] 11) (Bf:=Bf) (tb S) c9 f8 f10 f12 f14 f16
   refine(dQ (xs:=[.tmp 37]) Tryz.call208 G E E E i5 fun v w hR=>?_)
   obtain⟨l5,l6,j1,rfl,l2,H⟩:=hR
   refine dh fun a G=>?_
   refine eL [5,6,7,8,9] fun a G=>?_
   refine de fun w H=>?_
   refine aB ?_
   exact jr I ⟨l5,l6,j1,c2,l2,G.t,bS H [0,1,2,3,4,6,7,8,9,10] 11 E⟩
  ·obtain⟨rfl,H⟩:=hR
   replace I:Sh.tE x0 x1 c6 c7 c8=_:=d0
   unfold Sh.tE at I
   try dsimp only[List.set]at H
   refine ds [0,1,2,3,4,5,6,7,8,9,10] 11 fun a G=>?_
   refine dx 4 fun w ep H=>?_
   obtain⟨n1,j9,I⟩:=ade I
   have i6:=kG j9 (fU H [4,3,1,2,0,5,6,7,8,9,10] 11) (Bf:=Bf) (tb S) c9 f8 f10 f12 f14 f16
   refine(dQ (xs:=[.tmp 37]) Tryz.call209 G E E E i6 fun v w hR=>?_)
   obtain⟨l7,l8,j2,rfl,l3,H⟩:=hR
   refine dh fun a G=>?_
   refine eL [5,6,7,8,9] fun a G=>?_
   refine de fun w H=>?_
   refine aB ?_
   exact jr I ⟨l7,l8,j2,c2,l3,G.t,bS H [0,1,2,3,4,6,7,8,9,10] 11 E⟩
  ·obtain⟨rfl,H⟩:=hR
   replace I:Sh.tF x0 x1 c6 c7 c8=_:=d0
   unfold Sh.tF at I
   try dsimp only[List.set]at H
   refine ds [0,1,2,3,4,5,6,7,8,9,10] 11 fun a G=>?_
   refine dx 4 fun w ep H=>?_
   obtain⟨n2,k0,I⟩:=ade I
   have i7:=kI k0 (fU H [4,3,1,2,0,5,6,7,8,9,10] 11) (Bf:=Bf) (tb S) c9 f8 f10 f12 f14 f16
   refine(dQ (xs:=[.tmp 37]) Tryz.call210 G E E E i7 fun v w hR=>?_)
   obtain⟨rfl,H⟩:=hR
   refine ds [4,2,3,1,0,5,6,7,8,9,10] 11 fun a G=>?_
   refine eL [5,6,7,8,9] fun a G=>?_
   refine de fun w H=>?_
   refine aB ?_
   exact jr I ⟨c3,c4,c1,c2,c9,G.t,bS H [0,1,2,3,4,6,7,8,9,10] 11 E⟩
  ·obtain⟨rfl,H⟩:=hR
   replace I:Sh.rC x0 x1 c6 c7 c8=_:=d0
   unfold Sh.rC at I
   try dsimp only[List.set]at H
   refine ds [0,1,2,3,4,5,6,7,8,9,10] 11 fun a G=>?_
   refine dx 4 fun w ep H=>?_
   obtain⟨n3,k1,I⟩:=ade I
   have i8:=jQ k1 (fU H [4,3,1,2,0,5,6,7,8,9,10] 11) (Bf:=Bf) (tb S) c9 f8 f10 f12 f14 f16
   refine(dQ (xs:=[.tmp 37]) Tryz.call211 G E E E i8 fun v w hR=>?_)
   obtain⟨rfl,H⟩:=hR
   refine ds [4,2,3,1,0,5,6,7,8,9,10] 11 fun a G=>?_
   refine eL [5,6,7,8,9] fun a G=>?_
   refine de fun w H=>?_
   refine aB ?_
   exact jr I ⟨c3,c4,c1,c2,c9,G.t,bS H [0,1,2,3,4,6,7,8,9,10] 11 E⟩
  ·obtain⟨rfl,H⟩:=hR
   replace I:Sh.rD x0 x1 c6 c7 c8=_:=d0
   unfold Sh.rD at I
   try dsimp only[List.set]at H
   refine ds [0,1,2,3,4,5,6,7,8,9,10] 11 fun a G=>?_
   refine dx 4 fun w ep H=>?_
   obtain⟨n4,k2,I⟩:=ade I
   have i9:=kH k2 (fU H [4,3,1,2,0,5,6,7,8,9,10] 11) (Bf:=Bf) (tb S) c9 f8 f10 f12 f14 f16
   refine(dQ (xs:=[.tmp 37]) Tryz.call212 G E E E i9 fun v w hR=>?_)
   obtain⟨l9,m0,j3,m1,rfl,l4,H⟩:=hR
   refine dh fun a G=>?_
   refine eL [5,6,7,8,9] fun a G=>?_
   refine de fun w H=>?_
   refine aB ?_
   exact jr I ⟨l9,m0,j3,m1,l4,G.t,bS H [0,1,2,3,4,6,7,8,9,10] 11 E⟩
  obtain⟨rfl,H⟩:=hR
  replace I:Sh.rE x0 x1 c6 c7 c8=_:=d0
  unfold Sh.rE at I
  try dsimp only[List.set]at H
  refine ds [0,1,2,3,4,5,6,7,8,9,10] 11 fun a G=>?_
  refine dx 4 fun w ep H=>?_
  obtain⟨n5,k3,I⟩:=ade I
  have j0:=jU k3 (fU H [4,3,1,2,0,5,6,7,8,9,10] 11) (Bf:=Bf) (tb S) c9 f8 f10 f12 f14 f16
  refine(dQ (xs:=[.tmp 37]) Tryz.call213 G E E E j0 fun v w hR=>?_)
  obtain⟨rfl,H⟩:=hR
  refine dh fun a G=>?_
  refine eL [5,6,7,8,9] fun a G=>?_
  refine de fun w H=>?_
  refine aB ?_
  exact jr I ⟨c3,c4,c1,c2,c9,G.t,bS H [0,1,2,3,4,6,7,8,9,10] 11 E⟩
 rintro⟨d6,d7,d2,d8,d9,g0,g1⟩ a w I ⟨d3,d4,d1,d5,m5,G,H⟩
 replace I:Sh.tG d6 d7 d2 d8 d9 g0 g1=_:=I
 unfold Sh.tG at I
 exact lf
theorem fB{x0:ai}{s1 s3:SV}{cu:List SV}{s7 s9 eK e7:SV}{eN:Nat}{dm:SV}{b0:Nat}{out:(Int×ai)}{w0:World}{Bf:World→Prop}{Lr:List di}(I:Sh.aH x0=some out)(H:au w0 (pt b0 (af.enc (gB x0 s1 s3 s7 s9 eK e7 eN dm)) 203::ak 0 s1 5 x0.ae.cq::ak 0 s3 23 cu::(a_ cu x0.ae.ah)::ak 0 dm 3 x0.a7::Lr))(S:∀ w,au w Lr→Bf w)(q6:cn (dj (X:=UInt8) (a_ cu x0.ae.ah).holds') cu x0.ae.ah)(f8:dj Bf s7 x0.ae.data)(f10:dj Bf s9 x0.ae.sizes)(f12:dj Bf eK x0.code)(f14:dj Bf e7 x0.dq)(f16:jl Bf eN x0.da):Calls Tryz.prog 66 #[.pointer (some ⟨b0,0,none⟩)] w0 (fZ fun v w'=>∃ (d9:SV) (g0:SV) (c7:List SV) (g1:SV),v = .int .i64 out.1∧cn (dj (X:=UInt8) (a_ c7 out.2.ae.ah).holds') c7 out.2.ae.ah∧au w' (pt b0 (af.enc (gB out.2 d9 g0 s7 s9 eK e7 eN g1)) 203::ak 0 d9 5 out.2.ae.cq::ak 0 g0 23 c7::(a_ c7 out.2.ae.ah)::ak 0 g1 3 out.2.a7::Lr)):=by
 unfold Sh.aH at I
 refine ce Tryz.func66 Tryz.ntmps66 fun a G=>?_
 refine go 14 fun a w G H=>?_
 refine cc I (fun g2 I=>?_) fun g2 I=>?_
 ·refine go 6 fun a w G H=>?_
  obtain rfl:=oI I
  refine aT Ac G E ?_
  exact⟨s1,s3,cu,dm,E,q6,H⟩
 refine go 3 fun a w G H=>?_
 refine dT H [0,1,2,3,4] 5 fun K=>?_
 obtain⟨c0,m8,I⟩:=ade I
 refine eL [0,1,2,3,4,5,6,7,8,9,10,11] fun c1 a G=>?_
 refine de fun w H=>?_
 refine go 2 fun a w G H=>?_
 refine jm (pt c1 (bg.enc c0) 101::pt b0 (af.enc (gB x0 s1 s3 s7 s9 eK e7 eN dm)) 203::ak 0 s1 5 x0.ae.cq::ak 0 s3 23 cu::(a_ cu x0.ae.ah)::ak 0 dm 3 x0.a7::Lr) G H I [0,2,3] (fun d0 u=>(4,.bool d0)::u) (fun n0 I m5 G H=>?_) fun d0 a w I G H=>?_
 ·exact lf
 replace I:Sh.eR x0 c0 d0=_:=I
 unfold Sh.eR at I
 refine go 3 fun a w G H=>?_
 refine jm (pt c1 (bg.enc c0) 101::pt b0 (af.enc (gB x0 s1 s3 s7 s9 eK e7 eN dm)) 203::ak 0 s1 5 x0.ae.cq::ak 0 s3 23 cu::(a_ cu x0.ae.ah)::ak 0 dm 3 x0.a7::Lr) G H I [0,2,3] (fun d1 u=>(50,.bool d1)::u) (fun n1 I m6 G H=>?_) fun d1 a w I G H=>?_
 ·refine dT H [0,1,2,3,4,5] 6 fun K=>?_
  refine eL [0,1,2] fun a G=>?_
  refine gs I (fun g3 I=>?_) fun g3 I=>?_
  ·refine eL [3,4,5,6,7] fun a G=>?_
   refine gs I (fun g4 I=>?_) fun g4 I=>?_
   ·refine eL [8,9,10,11,12,13,14,15,16,17,18,19] fun a G=>?_
    refine de fun w H=>?_
    exact lf
   refine eL [8,9,10,11,12,13,14,15,16,17,18,19] fun a G=>?_
   refine de fun w H=>?_
   exact lf
  refine eL [3,4,5,6,7,8,9,10,11,12,13,14,15,16,17,18,19] fun a G=>?_
  refine de fun w H=>?_
  exact lf
 replace I:Sh.bW x0 c0 d1=_:=I
 unfold Sh.bW at I
 refine aB ?_
 refine cc I (fun g5 I=>?_) fun g5 I=>?_
 ·refine go 4 fun a w G H=>?_
  obtain⟨n4,k2,I⟩:=ade I
  have i8:=pC k2 (fU H [1,2,3,4,5,0] 6) (Bf:=Bf) (tb S) q6 f8 f10 f12 f14 f16
  refine cl Tryz.call146 i8 ?_
  rintro v w ⟨rfl,H⟩ a G
  refine go 4 fun a w G H=>?_
  obtain rfl:=oI I
  refine aT Ac G E ?_
  exact⟨s1,s3,cu,dm,E,q6,bS H [0,1,2,3,4] 6 E⟩
 refine go 3 fun a w G H=>?_
 refine aM G H I (fun F x a w=>match x with|(d2,d3,c8,d4,d5,d6,d7,d8)=>∃ (c4:SV) (c5:SV) (c3:List SV) (c6:SV),cn (dj (X:=UInt8) (a_ c3 c8).holds') c3 c8∧Fr 111 [(5,.int .i64 d7),(6,.int .i64 d8),(0,.pointer (some ⟨b0,0,none⟩)),(2,.int .i64 0)] a∧au w (pt b0 (af.enc (af.mk (bq.mk d2 c4 c5 s7 s9) eK e7 (some eN) d4 c6 x0.at_ x0.steps d6)) 203::ak 0 c4 5 d3::ak 0 c5 23 c3::(a_ c3 c8)::ak 0 c6 3 d5::Lr)) (fun n2 I m7 G H=>?_) ?_
 ·refine dT H [0,1,2,3,4,5] 6 fun K=>?_
  refine eL [0,1,2,4] fun a G=>?_
  refine dx 3 fun w ep H=>?_
  obtain⟨l3,I,c2⟩:=cM I
  refine(aS (xs:=[.tmp 55,.tmp 57]) Tryz.call147 G E E (R:=fun v w=>∃ x,l3 = .inl x∧match x with|(.inl _)=>v = .func (.func 204) [.pointer (some ⟨b0,0,none⟩)].toArray [].toArray∧au w (pt c1 (bg.enc c0) 101::pt b0 (af.enc (gB x0 s1 s3 s7 s9 eK e7 eN dm)) 203::ak 0 s1 5 x0.ae.cq::ak 0 s3 23 cu::(a_ cu x0.ae.ah)::ak 0 dm 3 x0.a7::Lr)|(.inr (.inl _))=>v = .func (.func 205) [.pointer (some ⟨b0,0,none⟩)].toArray [].toArray∧au w (pt c1 (bg.enc c0) 101::pt b0 (af.enc (gB x0 s1 s3 s7 s9 eK e7 eN dm)) 203::ak 0 s1 5 x0.ae.cq::ak 0 s3 23 cu::(a_ cu x0.ae.ah)::ak 0 dm 3 x0.a7::Lr)|(.inr (.inr (.inl _)))=>v = .func (.func 206) [.pointer (some ⟨b0,0,none⟩)].toArray [].toArray∧au w (pt c1 (bg.enc c0) 101::pt b0 (af.enc (gB x0 s1 s3 s7 s9 eK e7 eN dm)) 203::ak 0 s1 5 x0.ae.cq::ak 0 s3 23 cu::(a_ cu x0.ae.ah)::ak 0 dm 3 x0.a7::Lr)|(.inr (.inr (.inr (.inl _))))=>v = .func (.func 207) [.pointer (some ⟨b0,0,none⟩)].toArray [].toArray∧au w (pt c1 (bg.enc c0) 101::pt b0 (af.enc (gB x0 s1 s3 s7 s9 eK e7 eN dm)) 203::ak 0 s1 5 x0.ae.cq::ak 0 s3 23 cu::(a_ cu x0.ae.ah)::ak 0 dm 3 x0.a7::Lr)|(.inr (.inr (.inr (.inr (.inl _)))))=>v = .func (.func 208) [.pointer (some ⟨b0,0,none⟩)].toArray [].toArray∧au w (pt c1 (bg.enc c0) 101::pt b0 (af.enc (gB x0 s1 s3 s7 s9 eK e7 eN dm)) 203::ak 0 s1 5 x0.ae.cq::ak 0 s3 23 cu::(a_ cu x0.ae.ah)::ak 0 dm 3 x0.a7::Lr)|(.inr (.inr (.inr (.inr (.inr (.inl _))))))=>v = .func (.func 209) [.pointer (some ⟨b0,0,none⟩)].toArray [].toArray∧au w (pt c1 (bg.enc c0) 101::pt b0 (af.enc (gB x0 s1 s3 s7 s9 eK e7 eN dm)) 203::ak 0 s1 5 x0.ae.cq::ak 0 s3 23 cu::(a_ cu x0.ae.ah)::ak 0 dm 3 x0.a7::Lr)|(.inr (.inr (.inr (.inr (.inr (.inr (.inl _)))))))=>v = .func (.func 210) [.pointer (some ⟨b0,0,none⟩)].toArray [].toArray∧au w (pt c1 (bg.enc c0) 101::pt b0 (af.enc (gB x0 s1 s3 s7 s9 eK e7 eN dm)) 203::ak 0 s1 5 x0.ae.cq::ak 0 s3 23 cu::(a_ cu x0.ae.ah)::ak 0 dm 3 x0.a7::Lr)|(.inr (.inr (.inr (.inr (.inr (.inr (.inr (.inl _))))))))=>v = .func (.func 211) [.pointer (some ⟨b0,0,none⟩)].toArray [].toArray∧au w (pt c1 (bg.enc c0) 101::pt b0 (af.enc (gB x0 s1 s3 s7 s9 eK e7 eN dm)) 203::ak 0 s1 5 x0.ae.cq::ak 0 s3 23 cu::(a_ cu x0.ae.ah)::ak 0 dm 3 x0.a7::Lr)|(.inr (.inr (.inr (.inr (.inr (.inr (.inr (.inr (.inl _)))))))))=>v = .func (.func 212) [.pointer (some ⟨b0,0,none⟩)].toArray [].toArray∧au w (pt c1 (bg.enc c0) 101::pt b0 (af.enc (gB x0 s1 s3 s7 s9 eK e7 eN dm)) 203::ak 0 s1 5 x0.ae.cq::ak 0 s3 23 cu::(a_ cu x0.ae.ah)::ak 0 dm 3 x0.a7::Lr)|(.inr (.inr (.inr (.inr (.inr (.inr (.inr (.inr (.inr _)))))))))=>v = .func (.func 213) [.pointer (some ⟨b0,0,none⟩)].toArray [].toArray∧au w (pt c1 (bg.enc c0) 101::pt b0 (af.enc (gB x0 s1 s3 s7 s9 eK e7 eN dm)) 203::ak 0 s1 5 x0.ae.cq::ak 0 s3 23 cu::(a_ cu x0.ae.ah)::ak 0 dm 3 x0.a7::Lr)) ?_ fun v w hR=>?_)
  ·refine aV Tryz.func147 E Tryz.ntmps147 E fun a G=>?_
   refine go 14 fun a w G H=>?_
   refine cc I (fun g6 I=>?_) fun g6 I=>?_
   ·refine go 8 fun a w G H=>?_
    obtain rfl:=oI I
    refine aT ko G E ?_
    exact⟨(inl ()),E,E,H⟩
   refine go 7 fun a w G H=>?_
   refine cc I (fun g7 I=>?_) fun g7 I=>?_
   ·refine go 8 fun a w G H=>?_
    obtain rfl:=oI I
    refine aT ko G E ?_
    exact⟨(inr (inl ())),E,E,H⟩
   refine go 7 fun a w G H=>?_
   refine cc I (fun g8 I=>?_) fun g8 I=>?_
   ·refine go 8 fun a w G H=>?_
    obtain rfl:=oI I
    refine aT ko G E ?_
    exact⟨(inr (inr (inl ()))),E,E,H⟩
   refine go 7 fun a w G H=>?_
   refine cc I (fun g9 I=>?_) fun g9 I=>?_
   ·refine go 8 fun a w G H=>?_
    obtain rfl:=oI I
    refine aT ko G E ?_
    exact⟨(inr (inr (inr (inl ())))),E,E,H⟩
   refine go 7 fun a w G H=>?_
   refine cc I (fun i0 I=>?_) fun i0 I=>?_
   ·refine go 8 fun a w G H=>?_
    obtain rfl:=oI I
    refine aT ko G E ?_
    exact⟨(inr (inr (inr (inr (inl ()))))),E,E,H⟩
   refine go 7 fun a w G H=>?_
   refine cc I (fun i1 I=>?_) fun i1 I=>?_
   ·refine go 8 fun a w G H=>?_
    obtain rfl:=oI I
    refine aT ko G E ?_
    exact⟨(inr (inr (inr (inr (inr (inl ())))))),E,E,H⟩
   refine go 7 fun a w G H=>?_
   refine cc I (fun i2 I=>?_) fun i2 I=>?_
   ·refine go 8 fun a w G H=>?_
    obtain rfl:=oI I
    refine aT ko G E ?_
    exact⟨(inr (inr (inr (inr (inr (inr (inl ()))))))),E,E,H⟩
   refine go 7 fun a w G H=>?_
   refine cc I (fun i3 I=>?_) fun i3 I=>?_
   ·refine go 8 fun a w G H=>?_
    obtain rfl:=oI I
    refine aT ko G E ?_
    exact⟨(inr (inr (inr (inr (inr (inr (inr (inl ())))))))),E,E,H⟩
   refine go 7 fun a w G H=>?_
   refine cc I (fun i4 I=>?_) fun i4 I=>?_
   ·refine go 8 fun a w G H=>?_
    obtain rfl:=oI I
    refine aT ko G E ?_
    exact⟨(inr (inr (inr (inr (inr (inr (inr (inr (inl ()))))))))),E,E,H⟩
   refine go 11 fun a w G H=>?_
   obtain rfl:=oI I
   refine aT ko G E ?_
   exact⟨(inr (inr (inr (inr (inr (inr (inr (inr (inr ()))))))))),E,E,H⟩
  obtain⟨m4,rfl,hR⟩:=hR
  rcases m4 with⟨⟩|⟨⟩|⟨⟩|⟨⟩|⟨⟩|⟨⟩|⟨⟩|⟨⟩|⟨⟩|⟨⟩
  ·obtain⟨rfl,H⟩:=hR
   replace I:Sh.jA x0 c0=_:=c2
   unfold Sh.jA at I
   try dsimp only[List.set]at H
   refine ds [0,1,2,3,4,5] 6 fun a G=>?_
   refine dx 5 fun w ep H=>?_
   obtain⟨n5,k3,I⟩:=ade I
   have i9:=hO k3 (fU H [1,2,3,4,5,0] 6) (Bf:=Bf) (tb S) q6 f8 f10 f12 f14 f16
   refine(dQ (xs:=[.tmp 59]) Tryz.call204 G E E E i9 fun v w hR=>?_)
   obtain⟨rfl,H⟩:=hR
   refine dh fun a G=>?_
   refine eL [6,7,8,9,10] fun a G=>?_
   refine de fun w H=>?_
   refine aB ?_
   exact jr I ⟨s1,s3,cu,dm,q6,G.t,bS H [0,1,2,3,4] 6 E⟩
  ·obtain⟨rfl,H⟩:=hR
   replace I:Sh.sV x0 c0=_:=c2
   unfold Sh.sV at I
   try dsimp only[List.set]at H
   refine ds [0,1,2,3,4,5] 6 fun a G=>?_
   refine dx 5 fun w ep H=>?_
   obtain⟨n6,k4,I⟩:=ade I
   have j0:=kK k4 (fU H [1,2,3,4,5,0] 6) (Bf:=Bf) (tb S) q6 f8 f10 f12 f14 f16
   refine(dQ (xs:=[.tmp 59]) Tryz.call205 G E E E j0 fun v w hR=>?_)
   obtain⟨rfl,H⟩:=hR
   refine dh fun a G=>?_
   refine eL [6,7,8,9,10] fun a G=>?_
   refine de fun w H=>?_
   refine aB ?_
   exact jr I ⟨s1,s3,cu,dm,q6,G.t,bS H [0,1,2,3,4] 6 E⟩
  ·obtain⟨rfl,H⟩:=hR
   replace I:Sh.jB x0 c0=_:=c2
   unfold Sh.jB at I
   try dsimp only[List.set]at H
   refine ds [0,1,2,3,4,5] 6 fun a G=>?_
   refine dx 5 fun w ep H=>?_
   obtain⟨n7,k5,I⟩:=ade I
   have j1:=iT k5 (fU H [1,2,3,4,5,0] 6) (Bf:=Bf) (tb S) q6 f8 f10 f12 f14 f16
   refine(dQ (xs:=[.tmp 59]) Tryz.call206 G E E E j1 fun v w hR=>?_)
   obtain⟨rfl,H⟩:=hR
   refine dh fun a G=>?_
   refine eL [6,7,8,9,10] fun a G=>?_
   refine de fun w H=>?_
   refine aB ?_
   exact jr I ⟨s1,s3,cu,dm,q6,G.t,bS H [0,1,2,3,4] 6 E⟩
  ·obtain⟨rfl,H⟩:=hR
   replace I:Sh.sW x0 c0=_:=c2
   unfold Sh.sW at I
   try dsimp only[List.set]at H
   refine ds [0,1,2,3,4,5] 6 fun a G=>?_
   refine dx 5 fun w ep H=>?_
   obtain⟨n8,k6,I⟩:=ade I
   have j2:=kJ k6 (fU H [1,2,3,4,5,0] 6) (Bf:=Bf) (tb S) q6 f8 f10 f12 f14 f16
   refine(dQ (xs:=[.tmp 59]) Tryz.call207 G E E E j2 fun v w hR=>?_)
   obtain⟨rfl,H⟩:=hR
   refine dh fun a G=>?_
   refine eL [6,7,8,9,10] fun a G=>?_
   refine de fun w H=>?_
   refine aB ?_
   exact jr I ⟨s1,s3,cu,dm,q6,G.t,bS H [0,1,2,3,4] 6 E⟩
  ·obtain⟨rfl,H⟩:=hR
   replace I:Sh.sX x0 c0=_:=c2
   unfold Sh.sX at I
   try dsimp only[List.set]at H
   refine ds [0,1,2,3,4,5] 6 fun a G=>?_
   refine dx 5 fun w ep H=>?_
   obtain⟨n9,k7,I⟩:=ade I
   have j3:=jV k7 (fU H [1,2,3,4,5,0] 6) (Bf:=Bf) (tb S) q6 f8 f10 f12 f14 f16
   refine(dQ (xs:=[.tmp 59]) Tryz.call208 G E E E j3 fun v w hR=>?_)
   obtain⟨l7,l8,j9,rfl,l4,H⟩:=hR
   refine dh fun a G=>?_
   refine eL [6,7,8,9,10] fun a G=>?_
   refine de fun w H=>?_
   refine aB ?_
   exact jr I ⟨l7,l8,j9,dm,l4,G.t,bS H [0,1,2,3,4] 6 E⟩
  ·obtain⟨rfl,H⟩:=hR
   replace I:Sh.qY x0 c0=_:=c2
   unfold Sh.qY at I
   try dsimp only[List.set]at H
   refine ds [0,1,2,3,4,5] 6 fun a G=>?_
   refine dx 5 fun w ep H=>?_
   obtain⟨p0,k8,I⟩:=ade I
   have j4:=kG k8 (fU H [1,2,3,4,5,0] 6) (Bf:=Bf) (tb S) q6 f8 f10 f12 f14 f16
   refine(dQ (xs:=[.tmp 59]) Tryz.call209 G E E E j4 fun v w hR=>?_)
   obtain⟨l9,m0,k0,rfl,l5,H⟩:=hR
   refine dh fun a G=>?_
   refine eL [6,7,8,9,10] fun a G=>?_
   refine de fun w H=>?_
   refine aB ?_
   exact jr I ⟨l9,m0,k0,dm,l5,G.t,bS H [0,1,2,3,4] 6 E⟩
  ·obtain⟨rfl,H⟩:=hR
   replace I:Sh.qZ x0 c0=_:=c2
   unfold Sh.qZ at I
   try dsimp only[List.set]at H
   refine ds [0,1,2,3,4,5] 6 fun a G=>?_
   refine dx 5 fun w ep H=>?_
   obtain⟨p1,k9,I⟩:=ade I
   have j5:=kI k9 (fU H [1,2,3,4,5,0] 6) (Bf:=Bf) (tb S) q6 f8 f10 f12 f14 f16
   refine(dQ (xs:=[.tmp 59]) Tryz.call210 G E E E j5 fun v w hR=>?_)
   obtain⟨rfl,H⟩:=hR
   refine ds [5,0,1,2,3,4] 6 fun a G=>?_
   refine eL [6,7,8,9,10] fun a G=>?_
   refine de fun w H=>?_
   refine aB ?_
   exact jr I ⟨s1,s3,cu,dm,q6,G.t,bS H [0,1,2,3,4] 6 E⟩
  ·obtain⟨rfl,H⟩:=hR
   replace I:Sh.rA x0 c0=_:=c2
   unfold Sh.rA at I
   try dsimp only[List.set]at H
   refine ds [0,1,2,3,4,5] 6 fun a G=>?_
   refine dx 5 fun w ep H=>?_
   obtain⟨p2,l0,I⟩:=ade I
   have j6:=jQ l0 (fU H [1,2,3,4,5,0] 6) (Bf:=Bf) (tb S) q6 f8 f10 f12 f14 f16
   refine(dQ (xs:=[.tmp 59]) Tryz.call211 G E E E j6 fun v w hR=>?_)
   obtain⟨rfl,H⟩:=hR
   refine ds [5,0,1,2,3,4] 6 fun a G=>?_
   refine eL [6,7,8,9,10] fun a G=>?_
   refine de fun w H=>?_
   refine aB ?_
   exact jr I ⟨s1,s3,cu,dm,q6,G.t,bS H [0,1,2,3,4] 6 E⟩
  ·obtain⟨rfl,H⟩:=hR
   replace I:Sh.iH x0 c0=_:=c2
   unfold Sh.iH at I
   try dsimp only[List.set]at H
   refine ds [0,1,2,3,4,5] 6 fun a G=>?_
   refine dx 5 fun w ep H=>?_
   obtain⟨p3,l1,I⟩:=ade I
   have j7:=kH l1 (fU H [1,2,3,4,5,0] 6) (Bf:=Bf) (tb S) q6 f8 f10 f12 f14 f16
   refine(dQ (xs:=[.tmp 59]) Tryz.call212 G E E E j7 fun v w hR=>?_)
   obtain⟨m1,m2,k1,m3,rfl,l6,H⟩:=hR
   refine dh fun a G=>?_
   refine eL [6,7,8,9,10] fun a G=>?_
   refine de fun w H=>?_
   refine aB ?_
   exact jr I ⟨m1,m2,k1,m3,l6,G.t,bS H [0,1,2,3,4] 6 E⟩
  obtain⟨rfl,H⟩:=hR
  replace I:Sh.iI x0 c0=_:=c2
  unfold Sh.iI at I
  try dsimp only[List.set]at H
  refine ds [0,1,2,3,4,5] 6 fun a G=>?_
  refine dx 5 fun w ep H=>?_
  obtain⟨p4,l2,I⟩:=ade I
  have j8:=jU l2 (fU H [1,2,3,4,5,0] 6) (Bf:=Bf) (tb S) q6 f8 f10 f12 f14 f16
  refine(dQ (xs:=[.tmp 59]) Tryz.call213 G E E E j8 fun v w hR=>?_)
  obtain⟨rfl,H⟩:=hR
  refine dh fun a G=>?_
  refine eL [6,7,8,9,10] fun a G=>?_
  refine de fun w H=>?_
  refine aB ?_
  exact jr I ⟨s1,s3,cu,dm,q6,G.t,bS H [0,1,2,3,4] 6 E⟩
 rintro⟨d2,d3,c8,d4,d5,d6,d7,d8⟩ a w I ⟨c4,c5,c3,c6,c9,G,H⟩
 replace I:Sh.eS x0 d2 d3 c8 d4 d5 d6 d7 d8=_:=I
 unfold Sh.eS at I
 refine go 8 fun a w G H=>?_
 refine cc I (fun i5 I=>?_) fun i5 I=>?_
 ·refine go 7 fun a w G H=>?_
  obtain rfl:=oI I
  refine aT Ac G E ?_
  exact⟨c4,c5,c3,c6,E,c9,H⟩
 refine go 11 fun a w G H=>?_
 refine cc I (fun i6 I=>?_) fun i6 I=>?_
 ·refine go 18 fun a w G H=>?_
  obtain rfl:=oI I
  refine aT Ac G E ?_
  exact⟨c4,c5,c3,c6,E,c9,H⟩
 refine go 3 fun a w G H=>?_
 refine dT H [0,1,2,3,4] 5 fun K=>?_
 obtain⟨n3,m9,I⟩:=ade I
 refine eL [0,1,2,3,4,5,6,7,8,9,10,11,12,13,14,15,16] fun a G=>?_
 refine aK G K 17 E ada E E E (fun w H=>(J7 Tryz.underlying199 qh Tryz.zeroValue3 G E E E (f16 _ (S _ (fc H 5))))) fun a G=>?_
 refine eL [18,19,20,21,22] fun a G=>?_
 refine de fun w H=>?_
 refine go 8 fun a w G H=>?_
 refine cc I (fun i7 I=>?_) fun i7 I=>?_
 ·refine go 6 fun a w G H=>?_
  obtain rfl:=oI I
  refine aT Ac G E ?_
  exact⟨c4,c5,c3,c6,E,c9,H⟩
 refine go 29 fun a w G H=>?_
 obtain rfl:=oI I
 refine aT Ac G E ?_
 exact⟨c4,c5,c3,c6,E,c9,H⟩
end Go.Proofs
end
section
namespace Go.Ev
open Go.Fw Go.Proofs
set_option maxRecDepth 1000000
theorem Ba:NV (pg (fe Tryz.prog) 1000 40 [] (.f 22 [] []) [] { h:=.e,nx:=0 })=true:=by kernel_rfl
end Go.Ev
end
section
namespace Go.Proofs
open Go.Fw Go.Fx
theorem gL{out:Bool}{w0:World}{Lr:List di}(hP:Sh.bV=some out)(hM:au w0 Lr):Calls Tryz.prog 22 #[] w0 (fZ fun v w'=>v = .bool out∧au w' Lr):=by
 cases hP
 refine Calls.mono (Go.Ev.xt (fuel:=1000) (k:=40) ada Go.Ev.Ba w0) fun e w' he=>?_
 cases e<;>first
  | exact⟨he.1,hM.keep he.2⟩
  | exact he
end Go.Proofs
end
section
namespace Go.Proofs
open Go.Fw Go.Fx
set_option maxRecDepth 10000
theorem fI{x0:br}{s1 s3:SV}{cu:List SV}{s7:SV}{out:br}{w0:World}{Bf:World→Prop}{Lr:List di}(I:Sh.hV x0=some out)(H:au w0 (Lr))(S:∀ w,au w Lr→Bf w)(f2:dj Bf s1 x0.cq)(f5:dj Bf s3 cu)(q6:cn (dj (X:=UInt8) Bf) cu x0.ah)(f8:dj Bf s7 x0.a7):Calls Tryz.prog 74 #[.agg (bf.enc (ox x0 s1 s3 s7)).toArray] w0 (fZ fun v w'=>∃ (g0:SV) (g1:SV) (c7:List SV) (g2:SV),v = .agg (bf.enc (ox out g0 g1 g2)).toArray∧cn (dj (X:=UInt8) (a_ c7 out.ah).holds') c7 out.ah∧au w' (ak 0 g0 5 out.cq::ak 0 g1 23 c7::(a_ c7 out.ah)::ak 0 g2 3 out.a7::Lr)):=by
 unfold Sh.hV at I
 refine ce Tryz.func74 Tryz.ntmps74 fun a G=>?_
 refine go 10 fun c0 c1 a w G H=>?_
 obtain⟨d4,i1,I⟩:=ade I
 refine cl Tryz.call73 (eF i1 H (Bf:=Bf) (tb S) f2) ?_
 rintro v w ⟨d0,rfl,H⟩ a G
 refine go 8 fun a w G H=>?_
 obtain⟨c3,i2,I⟩:=ade I
 refine cl Tryz.call148 (lJ i2 H (Bf:=Bf) (tb S) f5 q6) ?_
 rintro v w ⟨c6,g9,rfl,i5,H⟩ a G
 refine go 5 fun a w G H=>?_
 have H:=mP H
 have d8:=Xc i5
 try dsimp only[List.set]at H
 refine aM G H I (fun F x a w=>match x with|c8=>∃ (c4:List SV),xh Bf c8 c4 c3∧Fr 33 [(1,.pointer (some ⟨c0,0,none⟩)),(2,.pointer (some ⟨c1,0,none⟩))] a∧au w (ak 0 c6 23 c4::(a_ (c4.take c8) (c3.take c8))::pt c1 (bf.enc Ss) 54::pt c0 (bf.enc (ox x0 d0 c6 s7)) 54::ak 0 d0 5 d4::Lr)) (fun j6 I j2 G H=>?_) ?_
 ·refine go 4 fun a w G H=>?_
  refine aA G (eI (H.rowS (X:=SV) (i:=1) E) d8.1 Ad G E E) E E E fun a G=>?_
  refine go 4 fun a w G H=>?_
  refine aY G H I (fun F x a w=>match x with|(c5,d3)=>∃ (c2:List SV),xh Bf c5 c2 c3∧Fr 33 [(16,.int .i64 d3),(1,.pointer (some ⟨c0,0,none⟩)),(14,(c6).v),(15,.int .i64 (c3.length:Int)),(2,.pointer (some ⟨c1,0,none⟩))] a∧au w (ak 0 c6 23 c2::(a_ (c2.take c5) (c3.take c5))::pt c1 (bf.enc Ss) 54::pt c0 (bf.enc (ox x0 d0 c6 s7)) 54::ak 0 d0 5 d4::Lr)) (fun G H=>⟨g9,d8,G.to ⟨E,E,E,E,E,trivial⟩,fU H [1,0,3,4,2] 5⟩) ?_
  rintro⟨c5,d3⟩ a w j7 I g3 ⟨c2,c9,G,H⟩
  replace I:Sh.mJ c3 c5 d3=_:=I
  unfold Sh.mJ at I
  refine go 6 fun a w G H=>?_
  refine cc I (fun g5 I=>?_) fun g5 I=>?_
  ·refine go 7 fun a w G H=>?_
   obtain⟨j8,i0,I⟩:=ade I
   obtain⟨i8,j4,j0,d7⟩:=PG c9 i0
   obtain⟨g6,I⟩:=bH I
   refine go 6 fun a w G H=>?_
   refine dT H [0,1,2,3,4] 5 fun K=>?_
   refine eL [0,1,2,3] fun a G=>?_
   refine dx 4 fun w ep H=>?_
   obtain⟨k0,i3,I⟩:=ade I
   refine dl Tryz.call73 (eF i3 H (Bf:=Bf) (tb S) (d7 (aaX g6))) ?_
   rintro v w ⟨d2,rfl,H⟩
   refine ds [0,1,2,3,4,5] 6 fun a G=>?_
   obtain⟨j9,d1,I⟩:=ade I
   obtain⟨i9,j5,d6,j1⟩:=PG c9 d1
   obtain⟨j3,I⟩:=bH I
   refine eL [5] fun a G=>?_
   refine kn 6 fun w ep H=>?_
   obtain⟨d5,I⟩:=bH I
   obtain⟨g7,I⟩:=bH I
   refine(dE (X:=SV) (d:=0) (q:=d2) vp (H.own (X:=SV) (i:=1) E) d6 G E E E E E (by decide) E fun w g4=>?_)
   have H:=H.chg g4 (i:=1) rfl
   have i6:=Un (h:=d2) c9 d1 (aaX d5)
   try dsimp only[List.set]at H
   rw[aaX g7]at H
   try dsimp only[List.set]at H
   have H:=Vd (h:=d2) c9 d1 (aaX d5) (fU H [2,0,1,3,4,5] 6)
   try dsimp only[List.set]at H
   refine dh ?_
   refine de fun w H=>?_
   refine go 7 fun a w G H=>?_
   exact jr I ⟨(c2.set (d3:Int).toNat d2),i6,G.t,bS H [1,0,2,3,4] 5 E⟩
  refine go 5 fun a w G H=>?_
  obtain rfl:=oI I
  have I:=g3 _ rfl
  subst I
  exact⟨c5,E,c2,c9,G.to ⟨E,E,trivial⟩,H⟩
 rintro c8 a w I ⟨c4,d9,G,H⟩
 replace I:Sh.vV x0 d4 c3 c8=_:=I
 unfold Sh.vV at I
 refine go 5 fun a w G H=>?_
 obtain⟨k1,i4,I⟩:=ade I
 refine cl Tryz.call134 (dX i4 H (Bf:=Bf) (tb S) f8) ?_
 rintro v w ⟨i7,rfl,H⟩ a G
 refine go 11 fun a w G H=>?_
 obtain⟨g8,I⟩:=bH I
 try dsimp only[List.set]at H
 have H:=Vb d9 (aaX g8) (fU H [2,0,1,3,4,5] 6)
 try dsimp only[List.set]at H
 obtain rfl:=oI I
 refine er Tryz.results74 G H ?_
 exact⟨d0,c6,c4,i7,E,(lW d9.1),bS H [5,2,0,1] 6 E⟩
end Go.Proofs
end
section
namespace Go.Proofs
open Go.Fw Go.Fx
set_option maxRecDepth 10000
theorem oA{x0:Int}{x1 x2:List UInt8}{s1 s3:SV}{out:List b9}{w0:World}{Bf:World→Prop}{Lr:List di}(I:Sh.sF x0 x1 x2=some out)(H:au w0 (Lr))(S:∀ w,au w Lr→Bf w)(f2:dj Bf s1 x1)(f4:dj Bf s3 x2):Calls Tryz.prog 86 #[.int .i64 x0,(s1).v,(s3).v] w0 (fZ fun v w'=>∃ (c40:SV) (CB:List bk) (HT:di),v=(c40).v∧cn (eH HT.holds') CB out∧au w' (ak 0 c40 156 CB::HT::Lr)):=by
 unfold Sh.sF at I
 refine ce Tryz.func86 Tryz.ntmps86 fun a G=>?_
 refine go 11 fun a w G H=>?_
 refine aM G H I (fun F x a w=>match x with|(p3,u3)=>∃ (p0:SV) (k5:List bk) (u0:di) (t1:SV) (t0:SV) (p9:List UInt8) (p8:List UInt8),e8 u3 u0.holds' k5 p3 t1 t0 p9 p8∧Fr 88 [(7,(p0).v),(6,(SV.nil).v)] a∧au w (ak 0 p0 156 k5::ak 0 t1 5 p9::ak 0 t0 5 p8::u0::Lr)) (fun c91 I c87 G H=>?_) ?_
 ·refine go 4 fun a w G H=>?_
  obtain⟨i4,c46,I⟩:=ade I
  refine cl Tryz.call158 (jY c46 H (Bf:=Bf) (tb S) f2 f4) ?_
  rintro v w ⟨j3,rfl,H⟩ a G
  refine go 5 fun a w G H=>?_
  obtain⟨u1,H⟩:=vK H
  have c49:cn (eH u1.holds') ([]:List bk) ([]:List b9):=cn.nil
  have H:=H.rowNil (X:=bk) 0 156
  have H:=H.rowNil (X:=UInt8) 0 5
  have H:=H.rowNil (X:=UInt8) 0 5
  have Ko:e8 false u1.holds' [] [] SV.nil SV.nil [] []:=e8.none c49
  refine aY G H I (fun F x a w=>match x with|(l2,c0,l9)=>∃ (i1:SV) (c1:List bk) (c4:di) (c8:SV) (c7:SV) (d9:List UInt8) (d8:List UInt8),e8 l9 c4.holds' c1 c0 c8 c7 d9 d8∧Fr 88 [(15,.int .i64 l2),(7,(i1).v),(0,.int .i64 x0),(1,(s1).v),(13,(j3).v),(14,.int .i64 (i4.length:Int)),(2,(s3).v),(6,(SV.nil).v)] a∧au w (ak 0 i1 156 c1::ak 0 c8 5 d9::ak 0 c7 5 d8::c4::ak 0 j3 3 i4::Lr)) (fun G H=>⟨SV.nil,[],u1,SV.nil,SV.nil,[],[],Ko,G.to ⟨E,E,E,E,E,E,E,E,trivial⟩,fU H [2,0,1,3,4] 5⟩) ?_
  rintro⟨l2,c0,l9⟩ a w Ys I Ks ⟨i1,c1,c4,c8,c7,d9,d8,c2,G,H⟩
  replace I:Sh.mM x0 x1 x2 i4 l2 c0 l9=_:=I
  unfold Sh.mM at I
  refine go 6 fun a w G H=>?_
  refine cc I (fun Lj I=>?_) fun Lj I=>?_
  ·refine go 3 fun a w G H=>?_
   refine aM G H I (fun F x a w=>match x with|(u6,u4)=>∃ (p1:SV) (m1:List bk) (n8:di) (m9:SV) (m7:SV) (m5:List UInt8) (m3:List UInt8),e8 u4 n8.holds' m1 u6 m9 m7 m5 m3∧Fr 88 [(7,(p1).v),(0,.int .i64 x0),(1,(s1).v),(13,(j3).v),(14,.int .i64 (i4.length:Int)),(15,.int .i64 l2),(2,(s3).v),(6,(SV.nil).v)] a∧au w (ak 0 p1 156 m1::ak 0 m9 5 m5::ak 0 m7 5 m3::n8::ak 0 j3 3 i4::Lr)) (fun Yq I Yn G H=>?_) ?_
   ·obtain⟨i2,X5,I⟩:=ade I
    refine go 12 fun a w G H=>?_
    refine aA G (eI (H.rowS (X:=bk) (i:=0) E) c2.len Ae G E E) E E E fun a G=>?_
    refine go 5 fun a w G H=>?_
    refine jm (ak 0 i1 156 c1::ak 0 c8 5 d9::ak 0 c7 5 d8::c4::ak 0 j3 3 i4::Lr) G H I [0,1,10,13,14,15,2,6,7,9] (fun u7 u=>(39,.bool u7)::u) (fun c93 I Yo G H=>?_) fun u7 a w I G H=>?_
    ·refine dT H [0,1,2,3,4] 5 fun K=>?_
     refine eL [0,1,2] fun a G=>?_
     refine gs I (fun p4 I=>?_) fun p4 I=>?_
     ·refine eL [3,4] fun a G=>?_
      obtain⟨c85,z7,I⟩:=ade I
      have HM:=aL z7
      have z2:cn (eH (fun w=>(c4).holds' w∧(ak 0 c8 5 d9).holds' w∧(ak 0 c7 5 d8).holds' w)) c1 c0:=e8.each c2 (fun _ h=>h.1) (fun _ h=>cX (X:=UInt8) (e:=5) h.2.1) (fun _ h=>cX (X:=UInt8) (e:=5) h.2.2)
      obtain⟨X9,Lx,c31⟩:=cn.getr z2 HM.2
      have Lq:=cn.bd z2 (aZ z7)
      obtain⟨Yh,c80,rfl,Yb,c72⟩:=c31
      refine eL [5,6,7,8,9] fun a G=>?_
      obtain⟨Ym,z8,I⟩:=ade I
      have c28:=aL z8
      have z3:cn (eH (fun w=>(c4).holds' w∧(ak 0 c8 5 d9).holds' w∧(ak 0 c7 5 d8).holds' w)) c1 c0:=e8.each c2 (fun _ h=>h.1) (fun _ h=>cX (X:=UInt8) (e:=5) h.2.1) (fun _ h=>cX (X:=UInt8) (e:=5) h.2.2)
      obtain⟨X_,Ly,c32⟩:=cn.getr z3 c28.2
      have Lt:=cn.bd z3 (aZ z8)
      obtain⟨Yi,Yj,rfl,J9,Yc⟩:=c32
      refine eL [10,11,12] fun a G=>?_
      refine cU G K 13 E ada E E E p4 E E (fun w H=>(cK (J9 _ ⟨H.hold 3 _ E,H.hold 1 _ E,H.hold 2 _ E⟩) kg G E E)) fun a G=>?_
      refine eL [14,15,16,17] fun a G=>?_
      refine de fun w H=>?_
      exact lf
     refine eL [3,4,5,6,7] fun a G=>?_
     refine cS G K 8 E ada E E E p4 E E fun a G=>?_
     refine eL [9,10,11,12,13,14,15,16,17] fun a G=>?_
     refine de fun w H=>?_
     exact lf
    replace I:Sh.mL x0 x1 x2 c0 l9 i2 u7=_:=I
    unfold Sh.mL at I
    refine aB ?_
    refine cc I (fun Ll I=>?_) fun Ll I=>?_
    ·refine aH ?_
     refine aM G H I (fun F x a w=>match x with|(u8,u5)=>∃ (p2:SV) (m2:List bk) (n9:di) (n0:SV) (m8:SV) (m6:List UInt8) (m4:List UInt8),e8 u5 n9.holds' m2 u8 n0 m8 m6 m4∧Fr 88 [(7,(p2).v),(0,.int .i64 x0),(1,(s1).v),(13,(j3).v),(14,.int .i64 (i4.length:Int)),(15,.int .i64 l2),(2,(s3).v),(6,(SV.nil).v),(9,.int .i64 i2)] a∧au w (ak 0 p2 156 m2::ak 0 n0 5 m6::ak 0 m8 5 m4::n9::ak 0 j3 3 i4::Lr)) (fun Yr I Yp G H=>?_) ?_
     ·refine dT H [0,2,3,4] 5 fun K=>?_
      refine eL [0,1,2,3,4,5] fun a G=>?_
      obtain⟨u9,k6,I⟩:=ade I
      have HN:=aL k6
      have z4:cn (eH (fun w=>(c4).holds' w∧(ak 0 c8 5 d9).holds' w∧(ak 0 c7 5 d8).holds' w)) c1 c0:=e8.each c2 (fun _ h=>h.1) (fun _ h=>cX (X:=UInt8) (e:=5) h.2.1) (fun _ h=>cX (X:=UInt8) (e:=5) h.2.2)
      obtain⟨Ya,n6,HQ⟩:=cn.getr z4 HN.2
      have Lu:=cn.bd z4 (aZ k6)
      obtain⟨l1,Yk,rfl,Ye,c75⟩:=HQ
      obtain⟨c21,X6,I⟩:=ade I
      refine eL [6,7,8,9,10,11,12,15,16] fun a G=>?_
      obtain⟨l3,k7,I⟩:=ade I
      have HO:=aL k7
      have z5:cn (eH (fun w=>(c4).holds' w∧(ak 0 c8 5 d9).holds' w∧(ak 0 c7 5 d8).holds' w)) c1 c0:=e8.each c2 (fun _ h=>h.1) (fun _ h=>cX (X:=UInt8) (e:=5) h.2.1) (fun _ h=>cX (X:=UInt8) (e:=5) h.2.2)
      obtain⟨c70,n7,c34⟩:=cn.getr z5 HO.2
      have c59:=cn.bd z5 (aZ k7)
      obtain⟨Yl,g7,rfl,c76,Yf⟩:=c34
      obtain⟨z0,LA,I⟩:=ade I
      refine eL [17,18,19,20,21,22,23] fun a G=>?_
      refine fM K 13 24 ada E E ?_ ?_
      ·refine cA G 13 E E E E E fun w ep H=>?_
       refine(bO (X:=UInt8) (y:=c21) kg r7 E E E E G E E E fun Gf w Gh n1=>?_)
       have H:=H.plus n1
       try dsimp only[List.set]at H
       refine ds [0,1,3,4,5] 6 fun a G=>?_
       refine fM K 14 24 ada E E ?_ ?_
       ·refine cA G 14 E E E E E fun w ep H=>?_
        have g8:=c2
        obtain⟨j6,I⟩:=bH I
        rw[j6]at g8
        obtain⟨j7,I⟩:=bH I
        obtain⟨d2,_,l6,_,_,_⟩:=e8.last g8 (aaX j7) k6 n6
        have d2:l1=c8:=d2
        subst d2 l6
        obtain⟨d0,k8,I⟩:=ade I
        refine(cB (X:=UInt8) k8 kg r7 E E E E G E E E (H.own (X:=UInt8) (i:=2) E) (H.ptS (X:=UInt8) (i:=0) (n:=1) (c:=1) E E E (aal _)) fun c3 w i8=>?_)
        have H:=H.chg i8 (i:=2) rfl
        try dsimp only[List.set]at H
        refine ds [0,1,3,4,5] 6 fun a G=>?_
        refine dx 24 fun w ep H=>?_
        refine(bO (X:=UInt8) (y:=z0) kg r7 E E E E G E E E fun t2 w t7 i7=>?_)
        have H:=H.plus i7
        try dsimp only[List.set]at H
        refine ds [0,1,2,4,5,6] 7 fun a G=>?_
        refine dx 25 fun w ep H=>?_
        have g9:=c2
        obtain⟨j8,I⟩:=bH I
        rw[j8]at g9
        obtain⟨j9,I⟩:=bH I
        obtain⟨_,d3,_,l7,_,_⟩:=e8.last g9 (aaX j9) k7 n7
        have d3:g7=c7:=d3
        subst d3 l7
        obtain⟨i3,k9,I⟩:=ade I
        refine(cB (X:=UInt8) k9 kg r7 E E E E G E E E (H.own (X:=UInt8) (i:=4) E) (H.ptS (X:=UInt8) (i:=0) (n:=1) (c:=1) E E E (aal _)) fun c9 w i9=>?_)
        have H:=H.chg i9 (i:=4) rfl
        try dsimp only[List.set]at H
        refine ds [0,1,2,4,5,6] 7 fun a G=>?_
        obtain⟨Du,g2,I⟩:=ade I
        have i5:=aL g2
        have g0:cn (eH (fun w=>(c4).holds' w∧(ak 0 l1 5 u9.old).holds' w∧(ak 0 g7 5 l3.new).holds' w)) c1 c0:=e8.each c2 (fun _ h=>h.1) (fun _ h=>cX (X:=UInt8) (e:=5) h.2.1) (fun _ h=>cX (X:=UInt8) (e:=5) h.2.2)
        obtain⟨z9,t5,j0⟩:=cn.getr g0 i5.2
        have t3:=cn.bd g0 (aZ g2)
        obtain⟨Dp,Dq,rfl,c11,c12⟩:=j0
        refine eL [26,27] fun a G=>?_
        refine kn 28 fun w ep H=>?_
        obtain⟨m0,g3,I⟩:=ade I
        have d6:=c2
        obtain⟨k0,I⟩:=bH I
        rw[k0]at d6
        obtain⟨k1,I⟩:=bH I
        obtain⟨d1,d4⟩:=e8.getr d6 g3
        have i0:=e8.setOld (so':=c3) (lo':=d0) (d6) (aaX k1) g3 d4
        refine(dE (d:=2) (q:=({ d1 with old:=c3 }:bk)) vp (H.own (X:=bk) (i:=2) E) d4 G E E (aaY _ _ _) E E (by decide) (bk.mr _ _) fun w j4=>?_)
        have H:=H.chg j4 (i:=2) rfl
        try dsimp only[List.set]at H
        refine ds [0,1,2,4,5,6] 7 ?_
        obtain⟨Dv,g4,I⟩:=ade I
        have i6:=aL g4
        have g1:cn (eH (fun w=>(c4).holds' w∧(ak 0 c3 5 d0).holds' w∧(ak 0 g7 5 l3.new).holds' w)) (c1.set ((IntKind.i64.wrap ((c0.length:Int)-1)):Int).toNat { d1 with old:=c3 }) (c0.set ((IntKind.i64.wrap ((c0.length:Int)-1)):Int).toNat { m0 with old:=d0 }):=e8.each i0 (fun _ h=>h.1) (fun _ h=>cX (X:=UInt8) (e:=5) h.2.1) (fun _ h=>cX (X:=UInt8) (e:=5) h.2.2)
        obtain⟨c10,t6,j1⟩:=cn.getr g1 i6.2
        have t4:=cn.bd g1 (aZ g4)
        obtain⟨Dt,c20,rfl,BW,Cm⟩:=j1
        refine eL [29,30] fun a G=>?_
        refine kn 31 fun w ep H=>?_
        obtain⟨c24,g5,I⟩:=ade I
        have d7:=i0
        obtain⟨k2,I⟩:=bH I
        rw[k2]at d7
        obtain⟨k3,I⟩:=bH I
        obtain⟨g6,d5⟩:=e8.getr d7 g5
        have l8:=e8.setNew (yU:=c9) (Bc:=i3) (d7) (aaX k3) g5 d5
        refine(dE (d:=3) (q:=({ g6 with new:=c9 }:bk)) vp (H.own (X:=bk) (i:=2) E) d5 G E E (aaY _ _ _) E E (by decide) (bk.mg _ _) fun w j5=>?_)
        have H:=H.chg j5 (i:=2) rfl
        try dsimp only[List.set]at H
        refine ds [0,1,2,4,5,6] 7 ?_
        refine de fun w H=>?_
        refine aB ?_
        exact jr I ⟨i1,((c1.set ((IntKind.i64.wrap ((c0.length:Int)-1)):Int).toNat { d1 with old:=c3 }).set ((IntKind.i64.wrap ((c0.length:Int)-1)):Int).toNat { g6 with new:=c9 }),c4,c3,c9,d0,i3,l8,G.t,bS H [2,3,4,5,6] 7 E⟩
       refine cA G 24 E E E E E fun w ep H=>?_
       refine(bO (X:=UInt8) (y:=z0) kg r7 E E E E G E E E fun t2 w t7 i7=>?_)
       have H:=H.plus i7
       try dsimp only[List.set]at H
       refine ds [0,1,2,4,5,6] 7 fun a G=>?_
       refine dx 14 fun w ep H=>?_
       have g8:=c2
       obtain⟨j6,I⟩:=bH I
       rw[j6]at g8
       obtain⟨j7,I⟩:=bH I
       obtain⟨d2,_,l6,_,_,_⟩:=e8.last g8 (aaX j7) k6 n6
       have d2:l1=c8:=d2
       subst d2 l6
       obtain⟨d0,k8,I⟩:=ade I
       refine(cB (X:=UInt8) k8 kg r7 E E E E G E E E (H.own (X:=UInt8) (i:=3) E) (H.ptS (X:=UInt8) (i:=1) (n:=1) (c:=1) E E E (aal _)) fun c3 w i8=>?_)
       have H:=H.chg i8 (i:=3) rfl
       try dsimp only[List.set]at H
       refine ds [0,1,2,4,5,6] 7 fun a G=>?_
       refine dx 25 fun w ep H=>?_
       have g9:=c2
       obtain⟨j8,I⟩:=bH I
       rw[j8]at g9
       obtain⟨j9,I⟩:=bH I
       obtain⟨_,d3,_,l7,_,_⟩:=e8.last g9 (aaX j9) k7 n7
       have d3:g7=c7:=d3
       subst d3 l7
       obtain⟨i3,k9,I⟩:=ade I
       refine(cB (X:=UInt8) k9 kg r7 E E E E G E E E (H.own (X:=UInt8) (i:=4) E) (H.ptS (X:=UInt8) (i:=0) (n:=1) (c:=1) E E E (aal _)) fun c9 w i9=>?_)
       have H:=H.chg i9 (i:=4) rfl
       try dsimp only[List.set]at H
       refine ds [0,1,2,4,5,6] 7 fun a G=>?_
       obtain⟨Du,g2,I⟩:=ade I
       have i5:=aL g2
       have g0:cn (eH (fun w=>(c4).holds' w∧(ak 0 l1 5 u9.old).holds' w∧(ak 0 g7 5 l3.new).holds' w)) c1 c0:=e8.each c2 (fun _ h=>h.1) (fun _ h=>cX (X:=UInt8) (e:=5) h.2.1) (fun _ h=>cX (X:=UInt8) (e:=5) h.2.2)
       obtain⟨z9,t5,j0⟩:=cn.getr g0 i5.2
       have t3:=cn.bd g0 (aZ g2)
       obtain⟨Dp,Dq,rfl,c11,c12⟩:=j0
       refine eL [26,27] fun a G=>?_
       refine kn 28 fun w ep H=>?_
       obtain⟨m0,g3,I⟩:=ade I
       have d6:=c2
       obtain⟨k0,I⟩:=bH I
       rw[k0]at d6
       obtain⟨k1,I⟩:=bH I
       obtain⟨d1,d4⟩:=e8.getr d6 g3
       have i0:=e8.setOld (so':=c3) (lo':=d0) (d6) (aaX k1) g3 d4
       refine(dE (d:=2) (q:=({ d1 with old:=c3 }:bk)) vp (H.own (X:=bk) (i:=2) E) d4 G E E (aaY _ _ _) E E (by decide) (bk.mr _ _) fun w j4=>?_)
       have H:=H.chg j4 (i:=2) rfl
       try dsimp only[List.set]at H
       refine ds [0,1,2,4,5,6] 7 ?_
       obtain⟨Dv,g4,I⟩:=ade I
       have i6:=aL g4
       have g1:cn (eH (fun w=>(c4).holds' w∧(ak 0 c3 5 d0).holds' w∧(ak 0 g7 5 l3.new).holds' w)) (c1.set ((IntKind.i64.wrap ((c0.length:Int)-1)):Int).toNat { d1 with old:=c3 }) (c0.set ((IntKind.i64.wrap ((c0.length:Int)-1)):Int).toNat { m0 with old:=d0 }):=e8.each i0 (fun _ h=>h.1) (fun _ h=>cX (X:=UInt8) (e:=5) h.2.1) (fun _ h=>cX (X:=UInt8) (e:=5) h.2.2)
       obtain⟨c10,t6,j1⟩:=cn.getr g1 i6.2
       have t4:=cn.bd g1 (aZ g4)
       obtain⟨Dt,c20,rfl,BW,Cm⟩:=j1
       refine eL [29,30] fun a G=>?_
       refine kn 31 fun w ep H=>?_
       obtain⟨c24,g5,I⟩:=ade I
       have d7:=i0
       obtain⟨k2,I⟩:=bH I
       rw[k2]at d7
       obtain⟨k3,I⟩:=bH I
       obtain⟨g6,d5⟩:=e8.getr d7 g5
       have l8:=e8.setNew (yU:=c9) (Bc:=i3) (d7) (aaX k3) g5 d5
       refine(dE (d:=3) (q:=({ g6 with new:=c9 }:bk)) vp (H.own (X:=bk) (i:=2) E) d5 G E E (aaY _ _ _) E E (by decide) (bk.mg _ _) fun w j5=>?_)
       have H:=H.chg j5 (i:=2) rfl
       try dsimp only[List.set]at H
       refine ds [0,1,2,4,5,6] 7 ?_
       refine de fun w H=>?_
       refine aB ?_
       exact jr I ⟨i1,((c1.set ((IntKind.i64.wrap ((c0.length:Int)-1)):Int).toNat { d1 with old:=c3 }).set ((IntKind.i64.wrap ((c0.length:Int)-1)):Int).toNat { g6 with new:=c9 }),c4,c3,c9,d0,i3,l8,G.t,bS H [2,3,4,5,6] 7 E⟩
      refine cA G 24 E E E E E fun w ep H=>?_
      refine(bO (X:=UInt8) (y:=z0) kg r7 E E E E G E E E fun t2 w t7 i7=>?_)
      have H:=H.plus i7
      try dsimp only[List.set]at H
      refine ds [0,1,3,4,5] 6 fun a G=>?_
      refine dx 13 fun w ep H=>?_
      refine(bO (X:=UInt8) (y:=c21) kg r7 E E E E G E E E fun Gf w Gh n1=>?_)
      have H:=H.plus n1
      try dsimp only[List.set]at H
      refine ds [0,1,2,4,5,6] 7 fun a G=>?_
      refine dx 14 fun w ep H=>?_
      have g8:=c2
      obtain⟨j6,I⟩:=bH I
      rw[j6]at g8
      obtain⟨j7,I⟩:=bH I
      obtain⟨d2,_,l6,_,_,_⟩:=e8.last g8 (aaX j7) k6 n6
      have d2:l1=c8:=d2
      subst d2 l6
      obtain⟨d0,k8,I⟩:=ade I
      refine(cB (X:=UInt8) k8 kg r7 E E E E G E E E (H.own (X:=UInt8) (i:=3) E) (H.ptS (X:=UInt8) (i:=0) (n:=1) (c:=1) E E E (aal _)) fun c3 w i8=>?_)
      have H:=H.chg i8 (i:=3) rfl
      try dsimp only[List.set]at H
      refine ds [0,1,2,4,5,6] 7 fun a G=>?_
      refine dx 25 fun w ep H=>?_
      have g9:=c2
      obtain⟨j8,I⟩:=bH I
      rw[j8]at g9
      obtain⟨j9,I⟩:=bH I
      obtain⟨_,d3,_,l7,_,_⟩:=e8.last g9 (aaX j9) k7 n7
      have d3:g7=c7:=d3
      subst d3 l7
      obtain⟨i3,k9,I⟩:=ade I
      refine(cB (X:=UInt8) k9 kg r7 E E E E G E E E (H.own (X:=UInt8) (i:=4) E) (H.ptS (X:=UInt8) (i:=1) (n:=1) (c:=1) E E E (aal _)) fun c9 w i9=>?_)
      have H:=H.chg i9 (i:=4) rfl
      try dsimp only[List.set]at H
      refine ds [0,1,2,4,5,6] 7 fun a G=>?_
      obtain⟨Du,g2,I⟩:=ade I
      have i5:=aL g2
      have g0:cn (eH (fun w=>(c4).holds' w∧(ak 0 l1 5 u9.old).holds' w∧(ak 0 g7 5 l3.new).holds' w)) c1 c0:=e8.each c2 (fun _ h=>h.1) (fun _ h=>cX (X:=UInt8) (e:=5) h.2.1) (fun _ h=>cX (X:=UInt8) (e:=5) h.2.2)
      obtain⟨z9,t5,j0⟩:=cn.getr g0 i5.2
      have t3:=cn.bd g0 (aZ g2)
      obtain⟨Dp,Dq,rfl,c11,c12⟩:=j0
      refine eL [26,27] fun a G=>?_
      refine kn 28 fun w ep H=>?_
      obtain⟨m0,g3,I⟩:=ade I
      have d6:=c2
      obtain⟨k0,I⟩:=bH I
      rw[k0]at d6
      obtain⟨k1,I⟩:=bH I
      obtain⟨d1,d4⟩:=e8.getr d6 g3
      have i0:=e8.setOld (so':=c3) (lo':=d0) (d6) (aaX k1) g3 d4
      refine(dE (d:=2) (q:=({ d1 with old:=c3 }:bk)) vp (H.own (X:=bk) (i:=2) E) d4 G E E (aaY _ _ _) E E (by decide) (bk.mr _ _) fun w j4=>?_)
      have H:=H.chg j4 (i:=2) rfl
      try dsimp only[List.set]at H
      refine ds [0,1,2,4,5,6] 7 ?_
      obtain⟨Dv,g4,I⟩:=ade I
      have i6:=aL g4
      have g1:cn (eH (fun w=>(c4).holds' w∧(ak 0 c3 5 d0).holds' w∧(ak 0 g7 5 l3.new).holds' w)) (c1.set ((IntKind.i64.wrap ((c0.length:Int)-1)):Int).toNat { d1 with old:=c3 }) (c0.set ((IntKind.i64.wrap ((c0.length:Int)-1)):Int).toNat { m0 with old:=d0 }):=e8.each i0 (fun _ h=>h.1) (fun _ h=>cX (X:=UInt8) (e:=5) h.2.1) (fun _ h=>cX (X:=UInt8) (e:=5) h.2.2)
      obtain⟨c10,t6,j1⟩:=cn.getr g1 i6.2
      have t4:=cn.bd g1 (aZ g4)
      obtain⟨Dt,c20,rfl,BW,Cm⟩:=j1
      refine eL [29,30] fun a G=>?_
      refine kn 31 fun w ep H=>?_
      obtain⟨c24,g5,I⟩:=ade I
      have d7:=i0
      obtain⟨k2,I⟩:=bH I
      rw[k2]at d7
      obtain⟨k3,I⟩:=bH I
      obtain⟨g6,d5⟩:=e8.getr d7 g5
      have l8:=e8.setNew (yU:=c9) (Bc:=i3) (d7) (aaX k3) g5 d5
      refine(dE (d:=3) (q:=({ g6 with new:=c9 }:bk)) vp (H.own (X:=bk) (i:=2) E) d5 G E E (aaY _ _ _) E E (by decide) (bk.mg _ _) fun w j5=>?_)
      have H:=H.chg j5 (i:=2) rfl
      try dsimp only[List.set]at H
      refine ds [0,1,2,4,5,6] 7 ?_
      refine de fun w H=>?_
      refine aB ?_
      exact jr I ⟨i1,((c1.set ((IntKind.i64.wrap ((c0.length:Int)-1)):Int).toNat { d1 with old:=c3 }).set ((IntKind.i64.wrap ((c0.length:Int)-1)):Int).toNat { g6 with new:=c9 }),c4,c3,c9,d0,i3,l8,G.t,bS H [2,3,4,5,6] 7 E⟩
     rintro⟨u8,u5⟩ a w I ⟨p2,m2,n9,n0,m8,m6,m4,Kq,G,H⟩
     replace I:Sh.vW u8 u5=_:=I
     unfold Sh.vW at I
     refine go 5 fun a w G H=>?_
     exact jr I ⟨p2,m2,n9,n0,m8,m6,m4,Kq,G.t,H⟩
    refine bL (aB ?_)
    refine dT H [0,1,2,3,4] 5 fun K=>?_
    obtain⟨l4,X7,l5,X8,I⟩:=b2 I
    refine eL [0,1,2,3,4,5,6,8,9,10,11] fun a G=>?_
    refine fM K 7 12 ada E E ?_ ?_
    ·refine cA G 7 E E E E E fun w ep H=>?_
     refine(bO (X:=UInt8) (y:=l4) kg r7 E E E E G E E E fun c5 w Gi n2=>?_)
     have H:=H.plus n2
     try dsimp only[List.set]at H
     refine ds [0,1,2,3,4,5] 6 fun a G=>?_
     refine dx 12 fun w ep H=>?_
     refine(bO (X:=UInt8) (y:=l5) kg r7 E E E E G E E E fun c6 w c37 n3=>?_)
     have H:=H.plus n3
     try dsimp only[List.set]at H
     refine ds [0,1,2,3,4,5,6] 7 fun a G=>?_
     refine aK G K 13 E ada E E E (fun w H=>(aW z156 Tryz.underlying156 DL G (parts:=[(0,.tmp 71),(1,.tmp 72),(2,.tmp 77),(3,.tmp 82)]) E E (aP E E (by rw[bk.len];decide) (bk.s_table _ _) (aP E E (by rw[bk.len];decide) (bk.s_from_ _ _) (aP E E (by rw[bk.len];decide) (bk.mr _ _) (aP E E (by rw[bk.len];decide) (bk.mg _ _) bD)))))) fun a G=>?_
     refine dx 14 fun w ep H=>?_
     refine(bO (X:=bk) (y:=(bk.mk x0 i2 (⟨some ⟨c5,0,none⟩,1,1⟩) (⟨some ⟨c6,0,none⟩,1,1⟩))) Ae vw E E E E G E E E fun HL w HS n4=>?_)
     have H:=H.plus n4
     try dsimp only[List.set]at H
     refine ds [0,1,2,3,4,5,6,7] 8 fun a G=>?_
     refine dx 15 fun w ep H=>?_
     obtain⟨z1,l0,I⟩:=ade I
     refine(fS (X:=bk) l0 c2.len E Ae vw E E E E G E E E (H.own (X:=bk) (i:=3) E) (H.ptS (X:=bk) (i:=0) (n:=1) (c:=1) E E E (aal _)) fun u2 w n5=>?_)
     have H:=H.chg n5 (i:=3) rfl
     try dsimp only[List.set]at H
     obtain⟨Kr,p5,p6,H⟩:=o7 (fU H [6,4,0,1,2,3,5,7] 8)
     try dsimp only[List.set]at H
     try dsimp only[List.set]at H
     obtain⟨j2,k4,p7,H⟩:=o7 (fU H [0,5,1,2,3,4,6] 7)
     try dsimp only[List.set]at H
     have t8:cn (eH j2.holds') c1 c0:=e8.each c2 (fun w h=>p5 w (k4 w h)) (fun w h=>cX (X:=UInt8) (e:=5) (p6 w (k4 w h))) (fun w h=>cX (X:=UInt8) (e:=5) (p7 w h))
     have H:=H.ptRow (lo:=0) (i:=3) (n:=1) (c:=1) rfl rfl (aau _) rfl rfl (by decide)
     have H:=H.ptRow (lo:=0) (i:=2) (n:=1) (c:=1) rfl rfl (aau _) rfl rfl (by decide)
     have t9:e8 true j2.holds' (c1 ++ [(bk.mk x0 i2 (⟨some ⟨c5,0,none⟩,1,1⟩) (⟨some ⟨c6,0,none⟩,1,1⟩))]) z1 (⟨some ⟨c5,0,none⟩,1,1⟩) (⟨some ⟨c6,0,none⟩,1,1⟩) [l4] [l5]:=by rw[(cZ l0).2];exact e8.push t8
     try dsimp only[List.set]at H
     refine dh fun a G=>?_
     refine bN K 16 ada E E ?_
     refine cA G 16 E E E E E fun w ep H=>Yd.val (aI G E E) ?_
     refine dr ep H fun a G=>?_
     refine de fun w H=>?_
     refine cC (aB ?_)
     exact jr I ⟨u2,(c1 ++ [(bk.mk x0 i2 (⟨some ⟨c5,0,none⟩,1,1⟩) (⟨some ⟨c6,0,none⟩,1,1⟩))]),j2,(⟨some ⟨c5,0,none⟩,1,1⟩),(⟨some ⟨c6,0,none⟩,1,1⟩),[l4],[l5],t9,G.t,bS H [4,3,2,0,5] 6 E⟩
    refine cA G 12 E E E E E fun w ep H=>?_
    refine(bO (X:=UInt8) (y:=l5) kg r7 E E E E G E E E fun c6 w c37 n3=>?_)
    have H:=H.plus n3
    try dsimp only[List.set]at H
    refine ds [0,1,2,3,4,5] 6 fun a G=>?_
    refine dx 7 fun w ep H=>?_
    refine(bO (X:=UInt8) (y:=l4) kg r7 E E E E G E E E fun c5 w Gi n2=>?_)
    have H:=H.plus n2
    try dsimp only[List.set]at H
    refine ds [0,1,2,3,4,5,6] 7 fun a G=>?_
    refine aK G K 13 E ada E E E (fun w H=>(aW z156 Tryz.underlying156 DL G (parts:=[(0,.tmp 71),(1,.tmp 72),(2,.tmp 77),(3,.tmp 82)]) E E (aP E E (by rw[bk.len];decide) (bk.s_table _ _) (aP E E (by rw[bk.len];decide) (bk.s_from_ _ _) (aP E E (by rw[bk.len];decide) (bk.mr _ _) (aP E E (by rw[bk.len];decide) (bk.mg _ _) bD)))))) fun a G=>?_
    refine dx 14 fun w ep H=>?_
    refine(bO (X:=bk) (y:=(bk.mk x0 i2 (⟨some ⟨c5,0,none⟩,1,1⟩) (⟨some ⟨c6,0,none⟩,1,1⟩))) Ae vw E E E E G E E E fun HL w HS n4=>?_)
    have H:=H.plus n4
    try dsimp only[List.set]at H
    refine ds [0,1,2,3,4,5,6,7] 8 fun a G=>?_
    refine dx 15 fun w ep H=>?_
    obtain⟨z1,l0,I⟩:=ade I
    refine(fS (X:=bk) l0 c2.len E Ae vw E E E E G E E E (H.own (X:=bk) (i:=3) E) (H.ptS (X:=bk) (i:=0) (n:=1) (c:=1) E E E (aal _)) fun u2 w n5=>?_)
    have H:=H.chg n5 (i:=3) rfl
    try dsimp only[List.set]at H
    obtain⟨Kr,p5,p6,H⟩:=o7 (fU H [6,4,0,1,2,3,5,7] 8)
    try dsimp only[List.set]at H
    try dsimp only[List.set]at H
    obtain⟨j2,k4,p7,H⟩:=o7 (fU H [0,5,1,2,3,4,6] 7)
    try dsimp only[List.set]at H
    have t8:cn (eH j2.holds') c1 c0:=e8.each c2 (fun w h=>p5 w (k4 w h)) (fun w h=>cX (X:=UInt8) (e:=5) (p6 w (k4 w h))) (fun w h=>cX (X:=UInt8) (e:=5) (p7 w h))
    have H:=H.ptRow (lo:=0) (i:=2) (n:=1) (c:=1) rfl rfl (aau _) rfl rfl (by decide)
    have H:=H.ptRow (lo:=0) (i:=3) (n:=1) (c:=1) rfl rfl (aau _) rfl rfl (by decide)
    have t9:e8 true j2.holds' (c1 ++ [(bk.mk x0 i2 (⟨some ⟨c5,0,none⟩,1,1⟩) (⟨some ⟨c6,0,none⟩,1,1⟩))]) z1 (⟨some ⟨c5,0,none⟩,1,1⟩) (⟨some ⟨c6,0,none⟩,1,1⟩) [l4] [l5]:=by rw[(cZ l0).2];exact e8.push t8
    try dsimp only[List.set]at H
    refine dh fun a G=>?_
    refine bN K 16 ada E E ?_
    refine cA G 16 E E E E E fun w ep H=>Yd.val (aI G E E) ?_
    refine dr ep H fun a G=>?_
    refine de fun w H=>?_
    refine cC (aB ?_)
    exact jr I ⟨u2,(c1 ++ [(bk.mk x0 i2 (⟨some ⟨c5,0,none⟩,1,1⟩) (⟨some ⟨c6,0,none⟩,1,1⟩))]),j2,(⟨some ⟨c5,0,none⟩,1,1⟩),(⟨some ⟨c6,0,none⟩,1,1⟩),[l4],[l5],t9,G.t,bS H [4,2,3,0,5] 6 E⟩
   rintro⟨u6,u4⟩ a w I ⟨p1,m1,n8,m9,m7,m5,m3,c51,G,H⟩
   replace I:Sh.mK l2 u6 u4=_:=I
   unfold Sh.mK at I
   refine go 6 fun a w G H=>?_
   exact jr I ⟨p1,m1,n8,m9,m7,m5,m3,c51,G.t,H⟩
  refine go 5 fun a w G H=>?_
  obtain rfl:=oI I
  have I:=Ks _ rfl
  subst I
  exact⟨(c0,l9),E,i1,c1,c4,c8,c7,d9,d8,c2,G.to ⟨E,E,trivial⟩,bS H [0,1,2,3] 5 E⟩
 rintro⟨p3,u3⟩ a w I ⟨p0,k5,u0,t1,t0,p9,p8,J_,G,H⟩
 replace I:Sh.aBy p3 u3=_:=I
 unfold Sh.aBy at I
 refine go 8 fun a w G H=>?_
 try dsimp only[List.set]at H
 obtain⟨Yg,Lm,Ln,H⟩:=o7 (fU H [3,1,0,2] 4)
 try dsimp only[List.set]at H
 try dsimp only[List.set]at H
 obtain⟨c16,z6,Lp,H⟩:=o7 (fU H [0,2,1] 3)
 try dsimp only[List.set]at H
 have c53:cn (eH c16.holds') k5 p3:=e8.each J_ (fun w h=>Lm w (z6 w h)) (fun w h=>cX (X:=UInt8) (e:=5) (Ln w (z6 w h))) (fun w h=>cX (X:=UInt8) (e:=5) (Lp w h))
 obtain rfl:=oI I
 refine aT Tryz.results86 G E ?_
 exact⟨p0,k5,c16,E,c53,bS H [1,0] 2 E⟩
end Go.Proofs
end
section
namespace Go.Proofs
open Go.Fw Go.Fx
set_option maxRecDepth 10000
theorem jP{x0 x1:br}{s1 s3:SV}{cu:List SV}{s7 s9 eK:SV}{AY:List SV}{yR:SV}{out:(dw×Int)}{w0:World}{Bf:World→Prop}{Lr:List di}(I:Sh.eW x0 x1=some out)(H:au w0 (Lr))(S:∀ w,au w Lr→Bf w)(f2:dj Bf s1 x0.cq)(f5:dj Bf s3 cu)(q6:cn (dj (X:=UInt8) Bf) cu x0.ah)(f8:dj Bf s7 x0.a7)(f10:dj Bf s9 x1.cq)(f13:dj Bf eK AY)(E7:cn (dj (X:=UInt8) Bf) AY x1.ah)(f16:dj Bf yR x1.a7):Calls Tryz.prog 31 #[.agg (bf.enc (ox x0 s1 s3 s7)).toArray,.agg (bf.enc (ox x1 s9 eK yR)).toArray] w0 (fZ fun v w'=>∃ (m6:SV) (m7:SV) (m8:SV) (j6:List bk) (m3:di) (m9:SV),v = .tuple #[.agg (bw.enc (yN out.1 m6 m7 m8 m9)).toArray,.int .i64 out.2]∧cn (eH m3.holds') j6 out.1.dy∧au w' (ak 0 m6 128 out.1.a8::ak 0 m7 151 out.1.slots::ak 0 m8 156 j6::m3::ak 0 m9 3 out.1.a7::Lr)):=by
 unfold Sh.eW at I
 refine ce Tryz.func31 Tryz.ntmps31 fun a G=>?_
 refine go 11 fun c0 c1 c2 a w G H=>?_
 refine jn G H I [2,3,4,5] (fun j4 u=>(12,.bool j4)::u) (fun c16 I z2 G H=>?_) fun j4 a w I G H=>?_
 ·refine go 2 fun a w G H=>?_
  obtain⟨Dv,n5,I⟩:=ade I
  refine cl Tryz.call82 (iJ n5 H (Bf:=Bf) (tb S) f2 f5 q6 f8) ?_
  rintro v w ⟨rfl,H⟩ a G
  refine go 2 fun a w G H=>?_
  refine gs I (fun j5 I=>?_) fun j5 I=>?_
  ·exact lf
  refine go 1 fun a w G H=>?_
  obtain⟨c24,n6,I⟩:=ade I
  refine dD G E E E j5 E E (aS (xs:=[.tmp 17]) Tryz.call82 G E E (iJ n6 H (Bf:=Bf) (fun w H=>S _ (fc H 3)) f10 f13 E7 f16) fun v w hR=>?_)
  obtain⟨rfl,H⟩:=hR
  intro a G
  exact lf
 replace I:Sh.nA x0 x1 j4=_:=I
 unfold Sh.nA at I
 refine aB ?_
 refine cc I (fun n3 I=>?_) fun n3 I=>?_
 ·refine go 2 fun a w G H=>?_
  refine aA G (aW z60 E_ E5 G (parts:=[]) E E bD) E E E fun a G=>?_
  refine go 5 fun a w G H=>?_
  have H:=H.rowNil (X:=dM) 0 128
  have H:=H.rowNil (X:=d_) 0 151
  obtain⟨m4,H⟩:=vK H
  have t8:cn (eH m4.holds') ([]:List bk) ([]:List b9):=cn.nil
  have H:=H.rowNil (X:=bk) 0 156
  have H:=H.rowNil (X:=Int) 0 3
  obtain rfl:=oI I
  refine er Tryz.results31 G H ?_
  exact⟨SV.nil,SV.nil,SV.nil,[],m4,SV.nil,E,t8,bS H [4,3,1,2,0] 8 E⟩
 refine go 4 fun a w G H=>?_
 obtain⟨Gf,n7,I⟩:=ade I
 refine cl Tryz.call83 (vL n7 H (Bf:=Bf) (tb S) f2 f5 q6 f8 f10 f13 E7 f16) ?_
 rintro v w ⟨rfl,H⟩ a G
 refine go 4 fun a w G H=>?_
 refine cc I (fun n4 I=>?_) fun n4 I=>?_
 ·refine go 2 fun a w G H=>?_
  refine aA G (aW z60 E_ E5 G (parts:=[]) E E bD) E E E fun a G=>?_
  refine go 5 fun a w G H=>?_
  have H:=H.rowNil (X:=dM) 0 128
  have H:=H.rowNil (X:=d_) 0 151
  obtain⟨m5,H⟩:=vK H
  have t9:cn (eH m5.holds') ([]:List bk) ([]:List b9):=cn.nil
  have H:=H.rowNil (X:=bk) 0 156
  have H:=H.rowNil (X:=Int) 0 3
  obtain rfl:=oI I
  refine er Tryz.results31 G H ?_
  exact⟨SV.nil,SV.nil,SV.nil,[],m5,SV.nil,E,t9,bS H [4,3,1,2,0] 8 E⟩
 refine go 11 fun a w G H=>?_
 refine aA G (aW z60 E_ E5 G (parts:=[(0,.tmp 29),(1,.tmp 31),(2,.tmp 33)]) E E (aP E E (by rw[bw.len];decide) (bw.s_at_ _ _) (aP E E (by rw[bw.len];decide) (bw.s_next _ _) (aP E E (by rw[bw.len];decide) (bw.s_done _ _) bD)))) E E E fun a G=>?_
 refine go 5 fun c3 a w G H=>?_
 refine aM G H I (fun F x a w=>match x with|k1=>∃ (d1:SV),Fr 127 [(2,.pointer (some ⟨c0,0,none⟩)),(3,.pointer (some ⟨c1,0,none⟩)),(4,.pointer (some ⟨c2,0,none⟩)),(5,.int .i64 0),(6,.pointer (some ⟨c3,0,none⟩))] a∧au w (pt c3 (bw.enc (bw.mk x0.at_ x1.at_ x1.done d1 SV.nil SV.nil SV.nil)) 60::ak 0 d1 128 k1::pt c2 (bw.enc Gy) 60::pt c1 (bf.enc (ox x1 s9 eK yR)) 54::pt c0 (bf.enc (ox x0 s1 s3 s7)) 54::Lr)) (fun Dp I z3 G H=>?_) ?_
 ·refine aH ?_
  refine dT H [0,1,2,3] 4 fun K=>?_
  refine eL [0] fun a G=>?_
  refine aK G K 1 E ada E E E (fun w H=>(qR Tryz.underlying47 Aa E G E E)) fun a G=>?_
  refine eL [2] fun a G=>?_
  refine aK G K 3 E ada E E E (fun w H=>(qR Tryz.underlying47 Aa E G E E)) fun a G=>?_
  refine eL [6] fun a G=>?_
  refine dx 4 fun w ep H=>?_
  obtain⟨i5,l9,I⟩:=ade I
  refine dl Tryz.call84 (mS l9 H (fun _ h=>h) (fun w H=>(cg.ofArr (lo:=0) (H.cells (i:=3) E (bf.c_regs _)) (aau _) (Vec.len _))) (fun w H=>(cg.ofArr (lo:=0) (H.cells (i:=2) E (bf.c_regs _)) (aau _) (Vec.len _)))) ?_
  rintro v w ⟨j9,rfl,H⟩
  refine ds [0,1,2,3,4] 5 fun a G=>?_
  refine eL [5] fun a G=>?_
  refine de fun w H=>?_
  refine go 2 fun a w G H=>?_
  have H:=H.rowNil (X:=dM) 0 128
  refine aY G H I (fun F x a w=>match x with|(g0,g7)=>∃ (d2:SV),Fr 127 [(41,.int .i64 g7),(2,.pointer (some ⟨c0,0,none⟩)),(3,.pointer (some ⟨c1,0,none⟩)),(39,(j9).v),(4,.pointer (some ⟨c2,0,none⟩)),(40,.int .i64 (i5.length:Int)),(5,.int .i64 0),(6,.pointer (some ⟨c3,0,none⟩))] a∧au w (pt c3 (bw.enc (bw.mk x0.at_ x1.at_ x1.done d2 SV.nil SV.nil SV.nil)) 60::ak 0 d2 128 g0::pt c2 (bw.enc Gy) 60::pt c1 (bf.enc (ox x1 s9 eK yR)) 54::pt c0 (bf.enc (ox x0 s1 s3 s7)) 54::ak 0 j9 3 i5::Lr)) (fun G H=>⟨SV.nil,G.to ⟨E,E,E,E,E,E,E,E,trivial⟩,fU H [2,0,3,4,5,1] 6⟩) ?_
  rintro⟨g0,g7⟩ a w c20 I n0 ⟨d2,G,H⟩
  replace I:Sh.kI x0 x1 i5 g0 g7=_:=I
  unfold Sh.kI at I
  refine go 6 fun a w G H=>?_
  refine cc I (fun l0 I=>?_) fun l0 I=>?_
  ·obtain⟨p7,u4,I⟩:=ade I
   refine go 11 fun a w G H=>?_
   refine dT H [0,1,2,3,4,5] 6 fun K=>?_
   obtain⟨p8,u5,p9,u6,I⟩:=b2 I
   refine eL [0,1,2,3,4,5,6,7,8,9,10] fun a G=>?_
   refine aK G K 11 E ada E E E (fun w H=>(aW JU Tryz.underlying128 Jf G (parts:=[(0,.tmp 47),(1,.tmp 51),(2,.tmp 55)]) E E (aP E E (by rw[dM.len];decide) (dM.s_reg _ _) (fC E (aj.len _) (by rw[aj.len,dM.len];decide) (dM.p_old _ _) (fC E (aj.len _) (by rw[aj.len,dM.len];decide) (dM.p_new _ _) bD))))) fun a G=>?_
   refine dx 12 fun w ep H=>?_
   refine(bO (X:=dM) (y:=(dM.mk p7 p8 p9)) Tryz.underlying56 A5 E E E E G E E E fun t4 w t6 j2=>?_)
   have H:=H.plus j2
   try dsimp only[List.set]at H
   refine ds [0,1,2,3,4,5,6] 7 fun a G=>?_
   refine dx 13 fun w ep H=>?_
   obtain⟨z8,l6,I⟩:=ade I
   refine(cB (X:=dM) l6 Tryz.underlying56 A5 E E E E G E E E (H.own (X:=dM) (i:=2) E) (H.ptS (X:=dM) (i:=0) (n:=1) (c:=1) E E E (aal _)) fun p2 w k4=>?_)
   have H:=H.chg k4 (i:=2) rfl
   try dsimp only[List.set]at H
   refine dh fun a G=>?_
   refine eL [14,15] fun a G=>?_
   refine de fun w H=>?_
   refine go 7 fun a w G H=>?_
   exact jr I ⟨p2,G.t,bS H [1,2,3,4,5,6] 7 E⟩
  refine go 5 fun a w G H=>?_
  obtain rfl:=oI I
  have I:=n0 _ rfl
  subst I
  exact⟨g0,E,d2,G.to ⟨E,E,E,E,E,trivial⟩,bS H [0,1,2,3,4] 6 E⟩
 rintro k1 a w I ⟨d1,G,H⟩
 unfold Sh.aE9 at I
 refine go 2 fun a w G H=>?_
 refine aM G H I (fun F x a w=>match x with|(g8,g9)=>∃ (d3:SV) (d4:SV),Fr 127 [(2,.pointer (some ⟨c0,0,none⟩)),(3,.pointer (some ⟨c1,0,none⟩)),(4,.pointer (some ⟨c2,0,none⟩)),(5,.int .i64 0),(6,.pointer (some ⟨c3,0,none⟩))] a∧au w (pt c3 (bw.enc (bw.mk x0.at_ x1.at_ x1.done d3 d4 SV.nil SV.nil)) 60::ak 0 d3 128 g8::ak 0 d4 151 g9::pt c2 (bw.enc Gy) 60::pt c1 (bf.enc (ox x1 s9 eK yR)) 54::pt c0 (bf.enc (ox x0 s1 s3 s7)) 54::Lr)) (fun Dq I z4 G H=>?_) ?_
 ·refine aH ?_
  refine dT H [0,1,2,3,4] 5 fun K=>?_
  refine eL [0] fun a G=>?_
  refine aK G K 1 E ada E E E (fun w H=>(qR Tryz.underlying51 A8 E G E E)) fun a G=>?_
  refine eL [2] fun a G=>?_
  refine aK G K 3 E ada E E E (fun w H=>(qR Tryz.underlying51 A8 E G E E)) fun a G=>?_
  refine eL [6] fun a G=>?_
  refine dx 4 fun w ep H=>?_
  obtain⟨i6,m0,I⟩:=ade I
  refine dl Tryz.call85 (mW m0 H (fun _ h=>h) (fun w H=>(cg.ofArr (lo:=0) (H.cells (i:=4) E (bf.c_stack _)) (aau _) (Vec.len _))) (fun w H=>(cg.ofArr (lo:=0) (H.cells (i:=3) E (bf.c_stack _)) (aau _) (Vec.len _)))) ?_
  rintro v w ⟨k0,rfl,H⟩
  refine ds [0,1,2,3,4,5] 6 fun a G=>?_
  refine eL [5] fun a G=>?_
  refine de fun w H=>?_
  refine go 2 fun a w G H=>?_
  have H:=H.rowNil (X:=d_) 0 151
  refine aY G H I (fun F x a w=>match x with|(g1,g2,i0)=>∃ (c6:SV) (d5:SV),Fr 127 [(67,.int .i64 i0),(2,.pointer (some ⟨c0,0,none⟩)),(3,.pointer (some ⟨c1,0,none⟩)),(4,.pointer (some ⟨c2,0,none⟩)),(5,.int .i64 0),(6,.pointer (some ⟨c3,0,none⟩)),(65,(k0).v),(66,.int .i64 (i6.length:Int))] a∧au w (pt c3 (bw.enc (bw.mk x0.at_ x1.at_ x1.done c6 d5 SV.nil SV.nil)) 60::ak 0 c6 128 g1::ak 0 d5 151 g2::pt c2 (bw.enc Gy) 60::pt c1 (bf.enc (ox x1 s9 eK yR)) 54::pt c0 (bf.enc (ox x0 s1 s3 s7)) 54::ak 0 k0 3 i6::Lr)) (fun G H=>⟨d1,SV.nil,G.to ⟨E,E,E,E,E,E,E,E,trivial⟩,fU H [2,3,0,4,5,6,1] 7⟩) ?_
  rintro⟨g1,g2,i0⟩ a w c21 I n1 ⟨c6,d5,G,H⟩
  replace I:Sh.kJ x0 x1 i6 g1 g2 i0=_:=I
  unfold Sh.kJ at I
  refine go 6 fun a w G H=>?_
  refine cc I (fun l1 I=>?_) fun l1 I=>?_
  ·obtain⟨t0,u7,I⟩:=ade I
   refine go 11 fun a w G H=>?_
   refine dT H [0,1,2,3,4,5,6] 7 fun K=>?_
   obtain⟨t1,u8,t2,u9,I⟩:=b2 I
   refine eL [0,1,2,3,4,5,6,7,8,9,10] fun a G=>?_
   refine aK G K 11 E ada E E E (fun w H=>(aW JV Tryz.underlying151 Jg G (parts:=[(0,.tmp 73),(1,.tmp 77),(2,.tmp 81)]) E E (aP E E (by rw[d_.len];decide) (d_.s_slot _ _) (fC E (bn.len _) (by rw[bn.len,d_.len];decide) (d_.p_old _ _) (fC E (bn.len _) (by rw[bn.len,d_.len];decide) (d_.p_new _ _) bD))))) fun a G=>?_
   refine dx 12 fun w ep H=>?_
   refine(bO (X:=d_) (y:=(d_.mk t0 t1 t2)) Tryz.underlying57 A6 E E E E G E E E fun t5 w t7 j3=>?_)
   have H:=H.plus j3
   try dsimp only[List.set]at H
   refine ds [0,1,2,3,4,5,6,7] 8 fun a G=>?_
   refine dx 13 fun w ep H=>?_
   obtain⟨z9,l7,I⟩:=ade I
   refine(cB (X:=d_) l7 Tryz.underlying57 A6 E E E E G E E E (H.own (X:=d_) (i:=3) E) (H.ptS (X:=d_) (i:=0) (n:=1) (c:=1) E E E (aal _)) fun p3 w k5=>?_)
   have H:=H.chg k5 (i:=3) rfl
   try dsimp only[List.set]at H
   refine dh fun a G=>?_
   refine eL [14,15] fun a G=>?_
   refine de fun w H=>?_
   refine go 7 fun a w G H=>?_
   exact jr I ⟨c6,p3,G.t,bS H [1,2,3,4,5,6,7] 8 E⟩
  refine go 5 fun a w G H=>?_
  obtain rfl:=oI I
  have I:=n1 _ rfl
  subst I
  exact⟨(g1,g2),E,c6,d5,G.to ⟨E,E,E,E,E,trivial⟩,bS H [0,1,2,3,4,5] 7 E⟩
 rintro⟨g8,g9⟩ a w I ⟨d3,d4,G,H⟩
 replace I:Sh.yX x0 x1 g8 g9=_:=I
 unfold Sh.yX at I
 refine go 7 fun a w G H=>?_
 obtain⟨Cm,m1,I⟩:=ade I
 refine cl Tryz.call86 (oA m1 H (Bf:=Bf) (tb S) f2 f10) ?_
 rintro v w ⟨p4,l5,p1,rfl,n8,H⟩ a G
 refine go 5 fun a w G H=>?_
 refine aM G H I (fun F x a w=>match x with|(i1,i2,i3)=>∃ (d6:SV) (d7:SV) (d8:SV) (c5:List bk) (c9:di),cn (eH c9.holds') c5 i3∧Fr 127 [(2,.pointer (some ⟨c0,0,none⟩)),(3,.pointer (some ⟨c1,0,none⟩)),(4,.pointer (some ⟨c2,0,none⟩)),(5,.int .i64 0),(6,.pointer (some ⟨c3,0,none⟩))] a∧au w (pt c3 (bw.enc (bw.mk x0.at_ x1.at_ x1.done d6 d7 d8 SV.nil)) 60::ak 0 d6 128 i1::ak 0 d7 151 i2::ak 0 d8 156 c5::c9::pt c2 (bw.enc Gy) 60::pt c1 (bf.enc (ox x1 s9 eK yR)) 54::pt c0 (bf.enc (ox x0 s1 s3 s7)) 54::Lr)) (fun Dt I z5 G H=>?_) ?_
 ·refine go 9 fun a w G H=>?_
  refine aY G H I (fun F x a w=>match x with|(g3,g4,g5,i4)=>∃ (c7:SV) (c8:SV) (d9:SV) (c4:List bk) (d0:di),cn (eH d0.holds') c4 g5∧Fr 127 [(96,.int .i64 i4),(2,.pointer (some ⟨c0,0,none⟩)),(3,.pointer (some ⟨c1,0,none⟩)),(4,.pointer (some ⟨c2,0,none⟩)),(5,.int .i64 0),(6,.pointer (some ⟨c3,0,none⟩)),(95,.int .i64 (x0.ah.length:Int))] a∧au w (pt c3 (bw.enc (bw.mk x0.at_ x1.at_ x1.done c7 c8 d9 SV.nil)) 60::ak 0 c7 128 g3::ak 0 c8 151 g4::ak 0 d9 156 c4::d0::pt c2 (bw.enc Gy) 60::pt c1 (bf.enc (ox x1 s9 eK yR)) 54::pt c0 (bf.enc (ox x0 s1 s3 s7)) 54::Lr)) (fun G H=>⟨d3,d4,p4,l5,p1,n8,G.to ⟨E,E,E,E,E,E,E,trivial⟩,fU H [2,3,4,0,1,5,6,7] 8⟩) ?_
  rintro⟨g3,g4,g5,i4⟩ a w Du I n2 ⟨c7,c8,d9,c4,d0,g6,G,H⟩
  replace I:Sh.kK x0 x1 g3 g4 g5 i4=_:=I
  unfold Sh.kK at I
  refine go 6 fun a w G H=>?_
  refine cc I (fun l2 I=>?_) fun l2 I=>?_
  ·refine go 10 fun a w G H=>?_
   refine dT H [0,1,2,3,4,5,6,7] 8 fun K=>?_
   obtain⟨c10,i8,I⟩:=ade I
   have k2:=aL i8
   obtain⟨z0,u2,k8⟩:=cn.getr q6 k2.2
   have u0:=cn.bd q6 (aZ i8)
   obtain⟨c11,i9,I⟩:=ade I
   have k3:=aL i9
   obtain⟨z1,u3,k9⟩:=cn.getr E7 k3.2
   have u1:=cn.bd E7 (aZ i9)
   refine eL [0,1,2,3,4,5,6,7,8,9,10,11,12] fun a G=>?_
   refine dx 13 fun w ep H=>?_
   obtain⟨CB,m2,I⟩:=ade I
   refine dl Tryz.call86 (oA m2 H (Bf:=Bf) (tb S) k8 k9) ?_
   rintro v w ⟨z7,i7,z6,rfl,j7,H⟩
   refine ds [0,1,2,3,4,5,6,7,8,9] 10 fun a G=>?_
   refine dx 14 fun w ep H=>?_
   obtain⟨t3,j0,I⟩:=ade I
   refine(fS (X:=bk) j0 g6.len j7.len Ae vw E E E E G E E E (H.own (X:=bk) (i:=5) E) (H.rowS (X:=bk) (i:=0) E) fun p5 w k6=>?_)
   have H:=H.chg k6 (i:=5) rfl
   try dsimp only[List.set]at H
   obtain⟨j8,l3,l4,H⟩:=o7 (fU H [6,1,0,2,3,4,5,7,8,9] 10)
   try dsimp only[List.set]at H
   have p0:cn (eH j8.holds') (c4++i7) t3:=by rw[(cZ j0).2];exact(g6.mono fun _ _ q=>q.mono l3).append (j7.mono fun _ _ q=>q.mono l4)
   try dsimp only[List.set]at H
   refine dh fun a G=>?_
   refine eL [15,16] fun a G=>?_
   refine de fun w H=>?_
   refine go 7 fun a w G H=>?_
   exact jr I ⟨c7,c8,p5,(c4++i7),j8,p0,G.t,bS H [2,3,4,5,0,6,7,8] 9 E⟩
  refine go 5 fun a w G H=>?_
  obtain rfl:=oI I
  have I:=n2 _ rfl
  subst I
  exact⟨(g3,g4,g5),E,c7,c8,d9,c4,d0,g6,G.to ⟨E,E,E,E,E,trivial⟩,H⟩
 rintro⟨i1,i2,i3⟩ a w I ⟨d6,d7,d8,c5,c9,n9,G,H⟩
 replace I:Sh.yY x0 x1 i1 i2 i3=_:=I
 unfold Sh.yY at I
 refine go 2 fun a w G H=>?_
 refine dT H [0,1,2,3,4,5,6,7] 8 fun K=>?_
 refine eL [0,1,2,3,4,5,6] fun a G=>?_
 obtain⟨c12,j1,I⟩:=ade I
 refine aK G K 7 E ada E E E (fun w H=>(eY (f16 _ (S _ (fc H 8))) j1 kz jO E G E E (.inr ⟨_,_,E,E⟩) (.inl ⟨E,E⟩))) fun a G=>?_
 refine dx 8 fun w ep H=>?_
 have H:=H.rowNil (X:=Int) 0 3
 obtain⟨BW,l8,I⟩:=ade I
 refine(cB (X:=Int) l8 kz jO E E E E G E E E (H.own (X:=Int) (i:=0) E) ((dj.ny f16 j1 E) _ (S _ (fc H 9))) fun p6 w k7=>?_)
 have H:=H.chg k7 (i:=0) rfl
 try dsimp only[List.set]at H
 refine ds [0,1,2,3,4,5,6,7,8] 9 fun a G=>?_
 refine eL [9,10] fun a G=>?_
 refine de fun w H=>?_
 refine go 9 fun a w G H=>?_
 obtain rfl:=oI I
 refine er Tryz.results31 G H ?_
 exact⟨d6,d7,d8,c5,c9,p6,E,n9,bS H [2,3,4,5,0] 9 E⟩
end Go.Proofs
end
section
namespace Go.Proofs
open Go.Fw Go.Fx
set_option maxRecDepth 10000
theorem zM{x0:Int}{out:Bool}{w0:World}{Lr:List di}(I:Sh.wB x0=some out)(H:au w0 (Lr)):Calls Tryz.prog 203 #[.int .i64 x0] w0 (fZ fun v w'=>v = .bool out∧au w' (Lr)):=by
 unfold Sh.wB at I
 refine ce Tryz.func203 Tryz.ntmps203 fun a G=>?_
 refine go 6 fun a w G H=>?_
 refine jn G H I [] (fun v7 u=>(2,.bool v7)::u) (fun c1 I c0 G H=>?_) fun v7 a w I G H=>?_
 ·exact lf
 replace I:Sh.G_ v7=_:=I
 unfold Sh.G_ at I
 exact lf
theorem rO{x0:Int}{out:Bool}{w0:World}{Lr:List di}(I:Sh.qX x0=some out)(H:au w0 (Lr)):Calls Tryz.prog 283 #[.int .i64 x0] w0 (fZ fun v w'=>v = .bool out∧au w' (Lr)):=by
 unfold Sh.qX at I
 refine ce Tryz.func283 Tryz.ntmps283 fun a G=>?_
 refine go 6 fun a w G H=>?_
 refine jn G H I [] (fun v7 u=>(2,.bool v7)::u) (fun c1 I c0 G H=>?_) fun v7 a w I G H=>?_
 ·exact lf
 replace I:Sh.xK v7=_:=I
 unfold Sh.xK at I
 exact lf
theorem mF{x0 x1:Int}{out:Bool}{w0:World}{Lr:List di}(I:Sh.nS x0 x1=some out)(H:au w0 (Lr)):Calls Tryz.prog 284 #[.int .i64 x0,.int .i64 x1] w0 (fZ fun v w'=>v = .bool out∧au w' (Lr)):=by
 unfold Sh.nS at I
 refine ce Tryz.func284 Tryz.ntmps284 fun a G=>?_
 refine go 12 fun a w G H=>?_
 refine cc I (fun ED I=>?_) fun ED I=>?_
 ·exact lf
 refine go 10 fun a w G H=>?_
 refine jn G H I [4] (fun v55 u=>(8,.bool v55)::u) (fun c1 I c0 G H=>?_) fun v55 a w I G H=>?_
 ·exact lf
 replace I:Sh.xL v55=_:=I
 unfold Sh.xL at I
 exact lf
theorem vW{x0:Int}{out:Bool}{w0:World}{Lr:List di}(I:Sh.Ea x0=some out)(H:au w0 (Lr)):Calls Tryz.prog 315 #[.int .i64 x0] w0 (fZ fun v w'=>v = .bool out∧au w' (Lr)):=by
 unfold Sh.Ea at I
 refine ce Tryz.func315 Tryz.ntmps315 fun a G=>?_
 refine go 13 fun a w G H=>?_
 refine jn G H I [0,2] (fun v54 u=>(4,.bool v54)::u) (fun c1 I c0 G H=>?_) fun v54 a w I G H=>?_
 ·exact lf
 replace I:Sh.aCa x0 v54=_:=I
 unfold Sh.aCa at I
 refine aB ?_
 refine cc I (fun Mc I=>?_) fun Mc I=>?_
 ·exact lf
 refine go 6 fun a w G H=>?_
 obtain⟨R_,Nz,I⟩:=ade I
 have MN:=mF Nz H 
 refine cl Tryz.call284 MN ?_
 rintro v w ⟨rfl,H⟩ a G
 exact lf
theorem kS{x0:Int}{out:Bool}{w0:World}{Lr:List di}(I:Sh.nP x0=some out)(H:au w0 (Lr)):Calls Tryz.prog 314 #[.int .i64 x0] w0 (fZ fun v w'=>v = .bool out∧au w' (Lr)):=by
 unfold Sh.nP at I
 refine ce Tryz.func314 Tryz.ntmps314 fun a G=>?_
 refine go 6 fun a w G H=>?_
 refine jn G H I [] (fun v47 u=>(2,.bool v47)::u) (fun c1 I c0 G H=>?_) fun v47 a w I G H=>?_
 ·exact lf
 replace I:Sh.aCd v47=_:=I
 unfold Sh.aCd at I
 exact lf
theorem zL{x0:bg}{out:(Bool×Bool×Bool×Bool)}{w0:World}{Lr:List di}(I:Sh.aD4 x0=some out)(H:au w0 (Lr)):Calls Tryz.prog 281 #[.agg (bg.enc x0).toArray] w0 (fZ fun v w'=>v = .tuple #[.bool out.1,.bool out.2.1,.bool out.2.2.1,.bool out.2.2.2]∧au w' (Lr)):=by
 unfold Sh.aD4 at I
 refine ce Tryz.func281 Tryz.ntmps281 fun a G=>?_
 refine go 10 fun d0 a w G H=>?_
 refine jn G H I [1,2,3,4,5] (fun c0 u=>(6,.bool c0)::u) (fun d7 I d1 G H=>?_) fun c0 a w I G H=>?_
 ·exact lf
 replace I:Sh.F5 x0 c0=_:=I
 unfold Sh.F5 at I
 refine go 2 fun a w G H=>?_
 refine jn G H I [1,2,3,4,5,6] (fun c2 u=>(7,.bool c2)::u) (fun d8 I d2 G H=>?_) fun c2 a w I G H=>?_
 ·exact lf
 replace I:Sh.aGi x0 c0 c2=_:=I
 unfold Sh.aGi at I
 refine go 2 fun a w G H=>?_
 refine jn G H I [1,3,4,5,6,7] (fun c1 u=>(2,.bool c1)::u) (fun d9 I d3 G H=>?_) fun c1 a w I G H=>?_
 ·exact lf
 replace I:Sh.D5 x0 c0 c2 c1=_:=I
 unfold Sh.D5 at I
 refine go 2 fun a w G H=>?_
 refine jn G H I [1,2,4,5,6,7] (fun c3 u=>(3,.bool c3)::u) (fun g0 I d4 G H=>?_) fun c3 a w I G H=>?_
 ·refine go 3 fun a w G H=>?_
  obtain⟨g3,c8,I⟩:=ade I
  have c6:=kS c8 H 
  refine cl Tryz.call314 c6 ?_
  rintro v w ⟨rfl,H⟩ a G
  exact lf
 replace I:Sh.F6 x0 c0 c2 c1 c3=_:=I
 unfold Sh.F6 at I
 refine go 2 fun a w G H=>?_
 refine jn G H I [1,2,3,5] (fun c4 u=>(4,.bool c4)::u) (fun g1 I d5 G H=>?_) fun c4 a w I G H=>?_
 ·exact lf
 replace I:Sh.aAi x0 c1 c3 c4=_:=I
 unfold Sh.aAi at I
 refine go 2 fun a w G H=>?_
 refine jm (Lr) G H I [2,3,4] (fun c5 u=>(5,.bool c5)::u) (fun g2 I d6 G H=>?_) fun c5 a w I G H=>?_
 ·refine go 3 fun a w G H=>?_
  obtain⟨g4,c9,I⟩:=ade I
  have c7:=kS c9 H 
  refine cl Tryz.call314 c7 ?_
  rintro v w ⟨rfl,H⟩ a G
  exact lf
 replace I:Sh.aGk c1 c3 c4 c5=_:=I
 unfold Sh.aGk at I
 refine go 2 fun a w G H=>?_
 obtain rfl:=oI I
 refine er Tryz.results281 G H ?_
 exact⟨E,H⟩
theorem vX{x0:bg}{out:Bool}{w0:World}{Lr:List di}(I:Sh.xW x0=some out)(H:au w0 (Lr)):Calls Tryz.prog 280 #[.agg (bg.enc x0).toArray] w0 (fZ fun v w'=>v = .bool out∧au w' (Lr)):=by
 unfold Sh.xW at I
 refine ce Tryz.func280 Tryz.ntmps280 fun a G=>?_
 refine go 10 fun c0 a w G H=>?_
 obtain⟨d0,d8,I⟩:=ade I
 have d7:=kS d8 H 
 refine cl Tryz.call314 d7 ?_
 rintro v w ⟨rfl,H⟩ a G
 refine go 13 fun a w G H=>?_
 refine aM G H I (fun F x a w=>match x with|(c1,c2)=>Fr 156 [(3,.bool c1),(5,.bool c2),(1,.pointer (some ⟨c0,0,none⟩)),(2,.bool false),(4,.bool d0)] a∧au w (pt c0 (bg.enc x0) 101::Lr)) (fun g5 I c9 G H=>?_) ?_
 ·refine go 2 fun a w G H=>?_
  refine jn G H I [1,2,3,4,5] (fun c3 u=>(12,.bool c3)::u) (fun g6 I d9 G H=>?_) fun c3 a w I G H=>?_
  ·exact lf
  replace I:Sh.wM x0 c3=_:=I
  unfold Sh.wM at I
  refine aB ?_
  refine cc I (fun d1 I=>?_) fun d1 I=>?_
  ·refine go 6 fun a w G H=>?_
   obtain rfl:=oI I
   have I:=bA c9
   subst I
   refine aT Tryz.results280 G E ?_
   exact⟨E,bS H [] 1 E⟩
  refine go 8 fun a w G H=>?_
  refine cc I (fun d2 I=>?_) fun d2 I=>?_
  ·refine aH ?_
   refine jn G H I [1,3,4,5] (fun c4 u=>(2,.bool c4)::u) (fun g7 I g0 G H=>?_) fun c4 a w I G H=>?_
   ·exact lf
   replace I:Sh.aCb c4=_:=I
   unfold Sh.aCb at I
   refine go 2 fun a w G H=>?_
   obtain rfl:=oI I
   have I:=bA c9
   subst I
   refine aT Tryz.results280 G E ?_
   exact⟨E,bS H [] 1 E⟩
  refine aH ?_
  refine jn G H I [1,2,3,4,5] (fun c5 u=>(47,.bool c5)::u) (fun g8 I g1 G H=>?_) fun c5 a w I G H=>?_
  ·exact lf
  replace I:Sh.wN x0 c5=_:=I
  unfold Sh.wN at I
  refine aB ?_
  refine cc I (fun d3 I=>?_) fun d3 I=>?_
  ·exact lf
  refine aH ?_
  refine jn G H I [1,2,3,4,5] (fun c6 u=>(69,.bool c6)::u) (fun g9 I g2 G H=>?_) fun c6 a w I G H=>?_
  ·exact lf
  replace I:Sh.wO x0 c6=_:=I
  unfold Sh.wO at I
  refine aB ?_
  refine cc I (fun d4 I=>?_) fun d4 I=>?_
  ·exact lf
  refine go 8 fun a w G H=>?_
  refine cc I (fun d5 I=>?_) fun d5 I=>?_
  ·exact lf
  refine go 8 fun a w G H=>?_
  refine cc I (fun d6 I=>?_) fun d6 I=>?_
  ·exact lf
  refine aH ?_
  refine jn G H I [1,2,3,4,5] (fun c7 u=>(125,.bool c7)::u) (fun i0 I g3 G H=>?_) fun c7 a w I G H=>?_
  ·exact lf
  replace I:Sh.wP x0 c7=_:=I
  unfold Sh.wP at I
  exact lf
 rintro⟨c1,c2⟩ a w I ⟨G,H⟩
 replace I:Sh.wL x0 d0 c1 c2=_:=I
 unfold Sh.wL at I
 refine go 2 fun a w G H=>?_
 refine jm (Lr) G H I [] (fun c8 u=>(2,.bool c8)::u) (fun i1 I g4 G H=>?_) fun c8 a w I G H=>?_
 ·exact lf
 replace I:Sh.aCc c8=_:=I
 unfold Sh.aCc at I
 exact lf
theorem oW{x0:Int}{x1 out:Bool}{w0:World}{Lr:List di}(I:Sh.wQ x0 x1=some out)(H:au w0 (Lr)):Calls Tryz.prog 282 #[.int .i64 x0,.bool x1] w0 (fZ fun v w'=>v = .bool out∧au w' (Lr)):=by
 unfold Sh.wQ at I
 refine ce Tryz.func282 Tryz.ntmps282 fun a G=>?_
 refine go 6 fun a w G H=>?_
 refine jn G H I [] (fun v17 u=>(4,.bool v17)::u) (fun c1 I c0 G H=>?_) fun v17 a w I G H=>?_
 ·exact lf
 replace I:Sh.aEa v17=_:=I
 unfold Sh.aEa at I
 exact lf
theorem uX{x0:bg}{out:Bool}{w0:World}{Lr:List di}(I:Sh.wA x0=some out)(H:au w0 (Lr)):Calls Tryz.prog 285 #[.agg (bg.enc x0).toArray] w0 (fZ fun v w'=>v = .bool out∧au w' (Lr)):=by
 unfold Sh.wA at I
 refine ce Tryz.func285 Tryz.ntmps285 fun a G=>?_
 refine go 14 fun c8 a w G H=>?_
 refine cc I (fun EF I=>?_) fun EF I=>?_
 ·exact lf
 refine go 4 fun a w G H=>?_
 refine jn G H I [1,2] (fun zb u=>(13,.bool zb)::u) (fun d3 I c9 G H=>?_) fun zb a w I G H=>?_
 ·exact lf
 replace I:Sh.vD x0 zb=_:=I
 unfold Sh.vD at I
 refine aB ?_
 refine cc I (fun EG I=>?_) fun EG I=>?_
 ·exact lf
 refine go 11 fun a w G H=>?_
 refine jn G H I [1,15,2] (fun c0 u=>(16,.bool c0)::u) (fun d4 I d0 G H=>?_) fun c0 a w I G H=>?_
 ·exact lf
 replace I:Sh.vE x0 c0=_:=I
 unfold Sh.vE at I
 refine aB ?_
 refine cc I (fun c3 I=>?_) fun c3 I=>?_
 ·exact lf
 refine aH ?_
 refine jn G H I [1,15,2] (fun c1 u=>(24,.bool c1)::u) (fun d5 I d1 G H=>?_) fun c1 a w I G H=>?_
 ·exact lf
 replace I:Sh.vF x0 c1=_:=I
 unfold Sh.vF at I
 refine aB ?_
 refine cc I (fun c4 I=>?_) fun c4 I=>?_
 ·refine aH ?_
  refine jm (Lr) G H I [] (fun c2 u=>(2,.bool c2)::u) (fun d6 I d2 G H=>?_) fun c2 a w I G H=>?_
  ·exact lf
  replace I:Sh.aAg c2=_:=I
  unfold Sh.aAg at I
  exact lf
 refine go 6 fun a w G H=>?_
 refine cc I (fun c5 I=>?_) fun c5 I=>?_
 ·refine go 4 fun a w G H=>?_
  obtain⟨d7,c7,I⟩:=ade I
  have c6:=vW c7 H 
  refine cl Tryz.call315 c6 ?_
  rintro v w ⟨rfl,H⟩ a G
  exact lf
 exact lf
theorem xK{x0:bg}{out:Int}{w0:World}{Lr:List di}(I:Sh.sN x0=some out)(H:au w0 (Lr)):Calls Tryz.prog 235 #[.agg (bg.enc x0).toArray] w0 (fZ fun v w'=>v = .int .i64 out∧au w' (Lr)):=by
 unfold Sh.sN at I
 refine ce Tryz.func235 Tryz.ntmps235 fun a G=>?_
 refine go 10 fun i3 a w G H=>?_
 obtain⟨k0,g6,I⟩:=ade I
 have d9:=vX g6 H 
 refine cl Tryz.call280 d9 ?_
 rintro v w ⟨rfl,H⟩ a G
 refine go 3 fun a w G H=>?_
 refine cc I (fun d2 I=>?_) fun d2 I=>?_
 ·exact lf
 refine go 5 fun a w G H=>?_
 obtain⟨c0,g7,I⟩:=ade I
 have g0:=zL g7 H 
 refine cl Tryz.call281 g0 ?_
 rintro v w ⟨rfl,H⟩ a G
 refine go 14 fun a w G H=>?_
 refine jn G H I [1,2,3,4,5,6] (fun c3 u=>(17,.bool c3)::u) (fun j2 I i4 G H=>?_) fun c3 a w I G H=>?_
 ·refine aH ?_
  refine jn G H I [1,2,3,4,5,6] (fun c4 u=>(17,.bool c4)::u) (fun j3 I i5 G H=>?_) fun c4 a w I G H=>?_
  ·refine dT H [0] 1 fun K=>?_
   refine eL [0,1] fun a G=>?_
   refine gs I (fun c1 I=>?_) fun c1 I=>?_
   ·refine eL [2,3,4,5] fun a G=>?_
    refine bN K 6 ada E E ?_
    refine lK G 6 E E E E E c1 E E fun w ep H=>?_
    obtain⟨k1,g8,I⟩:=ade I
    have g1:=rO g8 H 
    refine dl Tryz.call283 g1 ?_
    rintro v w ⟨rfl,H⟩
    refine ds [0] 1 fun a G=>?_
    refine bN K 7 ada E E ?_
    refine lK G 7 E E E E E c1 E E fun w ep H=>?_
    obtain⟨k2,g9,I⟩:=ade I
    have g2:=oW g9 H 
    refine dl Tryz.call282 g2 ?_
    rintro v w ⟨rfl,H⟩
    refine ds [0] 1 fun a G=>?_
    refine eL [8,9,10] fun a G=>?_
    refine de fun w H=>?_
    exact lf
   refine eL [2,3,4,5,6,7,8,9,10] fun a G=>?_
   refine de fun w H=>?_
   exact lf
  replace I:Sh.aEb x0 c0 c4=_:=I
  unfold Sh.aEb at I
  refine aB ?_
  refine cc I (fun d3 I=>?_) fun d3 I=>?_
  ·exact lf
  refine dT H [0] 1 fun K=>?_
  refine eL [0,1] fun a G=>?_
  refine gs I (fun c2 I=>?_) fun c2 I=>?_
  ·refine eL [2,3,4,5,6,7] fun a G=>?_
   refine bN K 8 ada E E ?_
   refine lK G 8 E E E E E c2 E E fun w ep H=>?_
   obtain⟨k3,i0,I⟩:=ade I
   have g3:=mF i0 H 
   refine dl Tryz.call284 g3 ?_
   rintro v w ⟨rfl,H⟩
   refine ds [0] 1 fun a G=>?_
   refine bN K 9 ada E E ?_
   refine lK G 9 E E E E E c2 E E fun w ep H=>?_
   obtain⟨k4,i1,I⟩:=ade I
   have g4:=oW i1 H 
   refine dl Tryz.call282 g4 ?_
   rintro v w ⟨rfl,H⟩
   refine ds [0] 1 fun a G=>?_
   refine eL [10,11,12] fun a G=>?_
   refine de fun w H=>?_
   exact lf
  refine eL [2,3,4,5,6,7,8,9,10,11,12] fun a G=>?_
  refine de fun w H=>?_
  exact lf
 replace I:Sh.yH x0 c0 c3=_:=I
 unfold Sh.yH at I
 refine aB ?_
 refine cc I (fun d4 I=>?_) fun d4 I=>?_
 ·exact lf
 refine aH ?_
 refine jn G H I [1,2,6] (fun c5 u=>(40,.bool c5)::u) (fun j4 I i6 G H=>?_) fun c5 a w I G H=>?_
 ·refine aH ?_
  refine jn G H I [1,2,4,5,6] (fun c6 u=>(40,.bool c6)::u) (fun j5 I i7 G H=>?_) fun c6 a w I G H=>?_
  ·exact lf
  replace I:Sh.Ei x0 c0 c6=_:=I
  unfold Sh.Ei at I
  refine aB ?_
  refine cc I (fun d5 I=>?_) fun d5 I=>?_
  ·exact lf
  refine aH ?_
  refine jn G H I [1,2,5,6] (fun c7 u=>(40,.bool c7)::u) (fun j6 I i8 G H=>?_) fun c7 a w I G H=>?_
  ·exact lf
  replace I:Sh.aEd x0 c0 c7=_:=I
  unfold Sh.aEd at I
  refine aB ?_
  refine cc I (fun d6 I=>?_) fun d6 I=>?_
  ·exact lf
  refine aH ?_
  refine jn G H I [1,2,6] (fun c8 u=>(40,.bool c8)::u) (fun j7 I i9 G H=>?_) fun c8 a w I G H=>?_
  ·exact lf
  replace I:Sh.aEe x0 c8=_:=I
  unfold Sh.aEe at I
  exact lf
 replace I:Sh.yI x0 c0 c5=_:=I
 unfold Sh.yI at I
 refine aB ?_
 refine cc I (fun d7 I=>?_) fun d7 I=>?_
 ·exact lf
 refine aH ?_
 refine jm (Lr) G H I [2] (fun c9 u=>(68,.bool c9)::u) (fun j8 I j0 G H=>?_) fun c9 a w I G H=>?_
 ·refine aH ?_
  refine jn G H I [1,2,6] (fun d0 u=>(68,.bool d0)::u) (fun j9 I j1 G H=>?_) fun d0 a w I G H=>?_
  ·exact lf
  replace I:Sh.aEg x0 c0 d0=_:=I
  unfold Sh.aEg at I
  refine aB ?_
  refine cc I (fun d8 I=>?_) fun d8 I=>?_
  ·exact lf
  refine go 3 fun a w G H=>?_
  refine gs I (fun d1 I=>?_) fun d1 I=>?_
  ·refine go 1 fun a w G H=>?_
   obtain⟨k5,i2,I⟩:=ade I
   have g5:=uX i2 H 
   refine dD G E E E d1 E E (aS (xs:=[.tmp 78]) Tryz.call285 G E E g5 fun v w hR=>?_)
   obtain⟨rfl,H⟩:=hR
   intro a G
   exact lf
  exact lf
 replace I:Sh.aEf c9=_:=I
 unfold Sh.aEf at I
 exact lf
theorem xJ{x0:List bg}{s1:SV}{out:(Int×Int)}{w0:World}{Bf:World→Prop}{Lr:List di}(I:Sh.sM x0=some out)(H:au w0 (Lr))(S:∀ w,au w Lr→Bf w)(f2:dj Bf s1 x0):Calls Tryz.prog 202 #[(s1).v] w0 (fZ fun v w'=>v = .tuple #[.int .i64 out.1,.int .i64 out.2]∧au w' (Lr)):=by
 unfold Sh.sM at I
 refine ce Tryz.func202 Tryz.ntmps202 fun a G=>?_
 refine go 7 fun a w G H=>?_
 refine jn G H I [2,3] (fun _ u=>u) (fun d0 I c1 G H=>?_) fun _ a w I G H=>?_
 ·refine go 8 fun a w G H=>?_
  refine ln G H I [2,3,7,8] (fun c2 u=>(9,.int .i64 c2)::u) fun c2 a w d1 I c0 G H=>?_
  unfold Sh.mQ at I
  refine go 6 fun a w G H=>?_
  refine cc I (fun c3 I=>?_) fun c3 I=>?_
  ·obtain⟨d2,c9,I⟩:=ade I
   refine go 21 fun c8 a w G H=>?_
   refine cc I (fun c4 I=>?_) fun c4 I=>?_
   ·refine go 8 fun a w G H=>?_
    obtain rfl:=oI I
    have I:=c0 _ rfl
    subst I
    have I:=bA c1
    subst I
    refine er Tryz.results202 G H ?_
    exact⟨E,bS H [] 1 E⟩
   refine go 5 fun a w G H=>?_
   obtain⟨d3,c7,I⟩:=ade I
   have c6:=xK c7 H 
   refine cl Tryz.call235 c6 ?_
   rintro v w ⟨rfl,H⟩ a G
   refine go 9 fun a w G H=>?_
   refine cc I (fun c5 I=>?_) fun c5 I=>?_
   ·refine go 9 fun a w G H=>?_
    obtain rfl:=oI I
    have I:=c0 _ rfl
    subst I
    have I:=bA c1
    subst I
    refine er Tryz.results202 G H ?_
    exact⟨E,bS H [] 1 E⟩
   exact lf
  refine go 5 fun a w G H=>?_
  obtain rfl:=oI I
  have I:=c0 _ rfl
  subst I
  exact⟨(),E,G.to ⟨E,E,trivial⟩,H⟩
 replace I:Sh.aD9=_:=I
 unfold Sh.aD9 at I
 refine go 8 fun a w G H=>?_
 obtain rfl:=oI I
 refine er Tryz.results202 G H ?_
 exact⟨E,H⟩
theorem lQ{x0:List bg}{s1:SV}{out:List Int}{w0:World}{Bf:World→Prop}{Lr:List di}(I:Sh.pL x0=some out)(H:au w0 (Lr))(S:∀ w,au w Lr→Bf w)(f2:dj Bf s1 x0):Calls Tryz.prog 141 #[(s1).v] w0 (fZ fun v w'=>∃ (d0:SV),v=(d0).v∧au w' (ak 0 d0 3 out::Lr)):=by
 unfold Sh.pL at I
 refine ce Tryz.func141 Tryz.ntmps141 fun a G=>?_
 refine go 7 fun a w G H=>?_
 refine aN G E E E (bO (X:=Int) (y:=0) kz jO E E E E G E E E fun c6 w g0 c7=>?_)
 have H:=H.plus c7
 try dsimp only[List.set]at H
 intro a G
 refine go 9 fun a w G H=>?_
 refine aM G H I (fun F x a w=>match x with|d1=>∃ (c2:SV),Fr 27 [(3,(c2).v),(2,(SV.nil).v)] a∧au w (ak 0 c2 3 d1::Lr)) (fun g5 I g2 G H=>?_) ?_
 ·refine go 8 fun a w G H=>?_
  have H:=H.ptRow (lo:=0) (i:=0) (n:=1) (c:=1) rfl rfl (aau _) rfl rfl (by decide)
  try dsimp only[List.set]at H
  refine aY G H I (fun F x a w=>match x with|(c3,c0,c8)=>∃ (c1:SV),Fr 27 [(10,.int .i64 c3),(3,(c1).v),(4,.int .i64 c8),(2,(SV.nil).v),(8,(s1).v),(9,.int .i64 (x0.length:Int))] a∧au w (ak 0 c1 3 c0::Lr)) (fun G H=>⟨⟨some ⟨c6,0,none⟩,1,1⟩,G.to ⟨E,E,E,E,E,E,trivial⟩,H⟩) ?_
  rintro⟨c3,c0,c8⟩ a w g7 I d2 ⟨c1,G,H⟩
  replace I:Sh.mR x0 c3 c0 c8=_:=I
  unfold Sh.mR at I
  refine go 6 fun a w G H=>?_
  refine cc I (fun d3 I=>?_) fun d3 I=>?_
  ·obtain⟨g8,g4,I⟩:=ade I
   refine go 20 fun d9 a w G H=>?_
   refine jm (ak 0 c1 3 c0::Lr) G H I [10,2,3,8,9] (fun c4 u=>(4,.int .i64 c4)::u) (fun g6 I g3 G H=>?_) fun c4 a w I G H=>?_
   ·refine go 4 fun a w G H=>?_
    obtain⟨i0,d6,I⟩:=ade I
    have d4:=zM d6 H 
    refine cl Tryz.call203 d4 ?_
    rintro v w ⟨rfl,H⟩ a G
    exact lf
   replace I:Sh.tQ c3 c0 c4=_:=I
   unfold Sh.tQ at I
   refine go 4 fun a w G H=>?_
   refine aN G E E E (bO (X:=Int) (y:=c4) kz jO E E E E G E E E fun d7 w d8 c5=>?_)
   have H:=H.plus c5
   try dsimp only[List.set]at H
   intro a G
   obtain⟨g9,d5,I⟩:=ade I
   refine aN G E E E (cB (X:=Int) d5 kz jO E E E E G E E E (H.own (X:=Int) (i:=1) E) (H.ptS (X:=Int) (i:=0) (n:=1) (c:=1) E E E (aal _)) fun g1 w c9=>?_)
   have H:=H.chg c9 (i:=1) rfl
   try dsimp only[List.set]at H
   intro a G
   refine go 9 fun a w G H=>?_
   exact jr I ⟨g1,G.t,bS H [1] 2 E⟩
  refine go 5 fun a w G H=>?_
  obtain rfl:=oI I
  have I:=d2 _ rfl
  subst I
  exact⟨c0,E,c1,G.to ⟨E,E,trivial⟩,H⟩
 rintro d1 a w I ⟨c2,G,H⟩
 unfold Sh.aIl at I
 refine go 8 fun a w G H=>?_
 obtain rfl:=oI I
 refine aT Tryz.results141 G E ?_
 exact⟨c2,E,H⟩
theorem mX{x0:Int}{out:Bool}{w0:World}{Lr:List di}(I:Sh.yK x0=some out)(H:au w0 (Lr)):Calls Tryz.prog 278 #[.int .i64 x0] w0 (fZ fun v w'=>v = .bool out∧au w' (Lr)):=by
 unfold Sh.yK at I
 refine ce Tryz.func278 Tryz.ntmps278 fun a G=>?_
 refine go 6 fun a w G H=>?_
 refine jn G H I [] (fun v22 u=>(2,.bool v22)::u) (fun c1 I c0 G H=>?_) fun v22 a w I G H=>?_
 ·exact lf
 replace I:Sh.zT v22=_:=I
 unfold Sh.zT at I
 exact lf
theorem xU{x0:Int}{out:Bool}{w0:World}{Lr:List di}(I:Sh.Hj x0=some out)(H:au w0 (Lr)):Calls Tryz.prog 279 #[.int .i64 x0] w0 (fZ fun v w'=>v = .bool out∧au w' (Lr)):=by
 unfold Sh.Hj at I
 refine ce Tryz.func279 Tryz.ntmps279 fun a G=>?_
 refine go 6 fun a w G H=>?_
 refine jn G H I [] (fun v42 u=>(2,.bool v42)::u) (fun c1 I c0 G H=>?_) fun v42 a w I G H=>?_
 ·refine go 2 fun a w G H=>?_
  obtain⟨JQ,EY,I⟩:=ade I
  have EI:=mX EY H 
  refine cl Tryz.call278 EI ?_
  rintro v w ⟨rfl,H⟩ a G
  exact lf
 replace I:Sh.Dj v42=_:=I
 unfold Sh.Dj at I
 exact lf
theorem pP{x0:ay}{x1:Int}{out:Bool}{w0:World}{Lr:List di}(I:Sh.Ej x0 x1=some out)(H:au w0 (Lr)):Calls Tryz.prog 234 #[.agg (ay.enc x0).toArray,.int .i64 x1] w0 (fZ fun v w'=>v = .bool out∧au w' (Lr)):=by
 unfold Sh.Ej at I
 refine ce Tryz.func234 Tryz.ntmps234 fun a G=>?_
 refine go 14 fun c8 a w G H=>?_
 refine cc I (fun EF I=>?_) fun EF I=>?_
 ·exact lf
 refine go 4 fun a w G H=>?_
 refine jn G H I [1,2,4] (fun zb u=>(13,.bool zb)::u) (fun d3 I c9 G H=>?_) fun zb a w I G H=>?_
 ·exact lf
 replace I:Sh.aEx x0 x1 zb=_:=I
 unfold Sh.aEx at I
 refine aB ?_
 refine cc I (fun EG I=>?_) fun EG I=>?_
 ·exact lf
 refine go 11 fun a w G H=>?_
 refine jn G H I [1,15,2,4] (fun c0 u=>(16,.bool c0)::u) (fun d4 I d0 G H=>?_) fun c0 a w I G H=>?_
 ·exact lf
 replace I:Sh.Dk x0 x1 c0=_:=I
 unfold Sh.Dk at I
 refine aB ?_
 refine cc I (fun c3 I=>?_) fun c3 I=>?_
 ·exact lf
 refine aH ?_
 refine jn G H I [1,15,2,4] (fun c1 u=>(23,.bool c1)::u) (fun d5 I d1 G H=>?_) fun c1 a w I G H=>?_
 ·exact lf
 replace I:Sh.G6 x0 x1 c1=_:=I
 unfold Sh.G6 at I
 refine aB ?_
 refine cc I (fun c4 I=>?_) fun c4 I=>?_
 ·refine aH ?_
  refine jm (Lr) G H I [] (fun c2 u=>(4,.bool c2)::u) (fun d6 I d2 G H=>?_) fun c2 a w I G H=>?_
  ·exact lf
  replace I:Sh.Eg c2=_:=I
  unfold Sh.Eg at I
  exact lf
 refine go 6 fun a w G H=>?_
 refine cc I (fun c5 I=>?_) fun c5 I=>?_
 ·refine go 3 fun a w G H=>?_
  obtain⟨d7,c7,I⟩:=ade I
  have c6:=xU c7 H 
  refine cl Tryz.call279 c6 ?_
  rintro v w ⟨rfl,H⟩ a G
  exact lf
 exact lf
theorem xW{x0:ay}{x1 x2 x3:Int}{out:Bool}{w0:World}{Lr:List di}(I:Sh.Hk x0 x1 x2 x3=some out)(H:au w0 (Lr)):Calls Tryz.prog 233 #[.agg (ay.enc x0).toArray,.int .i64 x1,.int .i64 x2,.int .i64 x3] w0 (fZ fun v w'=>v = .bool out∧au w' (Lr)):=by
 unfold Sh.Hk at I
 refine ce Tryz.func233 Tryz.ntmps233 fun a G=>?_
 refine go 8 fun d0 a w G H=>?_
 refine jn G H I [2,3,4,8] (fun c0 u=>(27,.bool c0)::u) (fun d3 I d1 G H=>?_) fun c0 a w I G H=>?_
 ·exact lf
 replace I:Sh.Eh x0 x2 x3 c0=_:=I
 unfold Sh.Eh at I
 refine aB ?_
 refine cc I (fun c3 I=>?_) fun c3 I=>?_
 ·exact lf
 refine go 4 fun a w G H=>?_
 refine jm (Lr) G H I [8] (fun c1 u=>(51,.bool c1)::u) (fun d4 I d2 G H=>?_) fun c1 a w I G H=>?_
 ·refine go 5 fun a w G H=>?_
  refine gs I (fun c4 I=>?_) fun c4 I=>?_
  ·refine go 3 fun a w G H=>?_
   refine gs I (fun c5 I=>?_) fun c5 I=>?_
   ·exact lf
   refine go 4 fun a w G H=>?_
   refine gs I (fun c6 I=>?_) fun c6 I=>?_
   ·exact lf
   refine go 3 fun a w G H=>?_
   refine gs I (fun c7 I=>?_) fun c7 I=>?_
   ·refine go 5 fun a w G H=>?_
    refine gs I (fun c2 I=>?_) fun c2 I=>?_
    ·refine go 1 fun a w G H=>?_
     obtain⟨d5,c9,I⟩:=ade I
     have c8:=mX c9 H 
     refine dD G E E E c2 E E (aS (xs:=[.tmp 47]) Tryz.call278 G E E c8 fun v w hR=>?_)
     obtain⟨rfl,H⟩:=hR
     intro a G
     exact lf
    exact lf
   exact lf
  exact lf
 replace I:Sh.aE2 c1=_:=I
 unfold Sh.aE2 at I
 exact lf
theorem dP{x0:List ay}{x1 x2 x3:Int}{s1:SV}{out:List ay}{w0:World}{Lr:List di}(I:Sh.dJ x0 x1 x2 x3=some out)(H:au w0 (ak 0 s1 259 x0::Lr)):Calls Tryz.prog 230 #[(s1).v,.int .i64 x1,.int .i64 x2,.int .i64 x3] w0 (fZ fun v w'=>∃ (g0:SV),v=(g0).v∧au w' (ak 0 g0 259 out::Lr)):=by
 unfold Sh.dJ at I
 refine ce Tryz.func230 Tryz.ntmps230 fun a G=>?_
 refine go 6 fun a w G H=>?_
 refine aM G H I (fun F x a w=>match x with|g1=>∃ (c4:SV),Fr 43 [(0,(c4).v),(8,(SV.nil).v)] a∧au w (ak 0 c4 259 g1::Lr)) (fun i0 I g6 G H=>?_) ?_
 ·refine go 6 fun a w G H=>?_
  refine aY G H I (fun F x a w=>match x with|(c2,c3)=>∃ (c1:SV),Fr 43 [(0,(c1).v),(9,.int .i64 c3),(1,.int .i64 x1),(2,.int .i64 x2),(3,.int .i64 x3),(8,(SV.nil).v)] a∧au w (ak 0 c1 259 c2::Lr)) (fun G H=>⟨s1,G.to ⟨E,E,E,E,E,E,trivial⟩,H⟩) ?_
  rintro⟨c2,c3⟩ a w i3 I g2 ⟨c1,G,H⟩
  replace I:Sh.oG x1 x2 x3 c2 c3=_:=I
  unfold Sh.oG at I
  refine go 7 fun a w G H=>?_
  refine cc I (fun d6 I=>?_) fun d6 I=>?_
  ·refine go 11 fun a w G H=>?_
   refine aA G (aW nK kh j_ G (parts:=[(0,.tmp 17),(1,.tmp 18),(5,.const (.int .i64 (-1))),(7,.tmp 19),(8,.const (.int .i64 (-1))),(10,.const (.bool true))]) E E (aP E E (by rw[ay.len];decide) (ay.gu _ _) (aP E E (by rw[ay.len];decide) (ay.s_op _ _) (aP E E (by rw[ay.len];decide) (ay.s_dst _ _) (aP E E (by rw[ay.len];decide) (ay.s_off _ _) (aP E E (by rw[ay.len];decide) (ay.s_imm _ _) (aP E E (by rw[ay.len];decide) (ay.s_writes _ _) bD))))))) E E E fun a G=>?_
   refine go 1 fun c0 a w G H=>?_
   refine bE E E (aU (vs:=_) Tryz.sizeOf259 (H.obj (i:=0) E) G E E E E (ay.len _) (ay.one _) (by first|(rw[ay.len,ay.len];decide)|(rw[ay.len];decide)) (bF ((ay.len _).trans (ay.len _).symm)) fun w c9=>?_)
   have H:=H.chg c9 (i:=0) rfl
   try dsimp only[List.set]at H
   refine go 3 fun a w G H=>?_
   refine aM G H I (fun F x a w=>match x with|c7=>Fr 43 [(0,(c1).v),(1,.int .i64 x1),(10,.pointer (some ⟨c0,0,none⟩)),(2,.int .i64 x2),(3,.int .i64 x3),(8,(SV.nil).v),(9,.int .i64 c3)] a∧au w (pt c0 (ay.enc c7) 259::ak 0 c1 259 c2::Lr)) (fun i1 I g7 G H=>?_) ?_
   ·refine go 3 fun a w G H=>?_
    refine aA G (nU G E E E (by decide)) E E E fun a G=>?_
    refine go 3 fun a w G H=>?_
    refine cc I (fun d7 I=>?_) fun d7 I=>?_
    ·refine go 6 fun a w G H=>?_
     refine bE E E (bQ E8 (H.obj (i:=0) E) G E E E E (by rw[ay.len];decide) (ay.gu _ _) fun w d0=>?_)
     have H:=H.chg d0 (i:=0) rfl
     try dsimp only[List.set]at H
     refine go 5 fun a w G H=>?_
     refine bE E E (bQ Tryz.sizeOf4 (H.obj (i:=0) E) G E E E E (by rw[ay.len];decide) (ay.s_reg _ _) fun w d1=>?_)
     have H:=H.chg d1 (i:=0) rfl
     try dsimp only[List.set]at H
     refine go 5 fun a w G H=>?_
     refine bE E E (bQ E8 (H.obj (i:=0) E) G E E E E (by rw[ay.len];decide) (ay.s_src _ _) fun w d2=>?_)
     have H:=H.chg d2 (i:=0) rfl
     try dsimp only[List.set]at H
     refine go 4 fun a w G H=>?_
     refine bE E E (bQ E8 (H.obj (i:=0) E) G E E E E (by rw[ay.len];decide) (ay.s_imm _ _) fun w d3=>?_)
     have H:=H.chg d3 (i:=0) rfl
     try dsimp only[List.set]at H
     exact lf
    exact lf
   rintro c7 a w I ⟨G,H⟩
   unfold Sh.Hm at I
   refine go 2 fun a w G H=>?_
   refine aM G H I (fun F x a w=>match x with|c5=>Fr 43 [(0,(c1).v),(1,.int .i64 x1),(10,.pointer (some ⟨c0,0,none⟩)),(2,.int .i64 x2),(3,.int .i64 x3),(8,(SV.nil).v),(9,.int .i64 c3)] a∧au w (pt c0 (ay.enc c5) 259::ak 0 c1 259 c2::Lr)) (fun i2 I g8 G H=>?_) ?_
   ·refine go 6 fun a w G H=>?_
    refine cc I (fun d8 I=>?_) fun d8 I=>?_
    ·refine go 6 fun a w G H=>?_
     refine bE E E (bQ E8 (H.obj (i:=0) E) G E E E E (by rw[ay.len];decide) (ay.gu _ _) fun w d4=>?_)
     have H:=H.chg d4 (i:=0) rfl
     try dsimp only[List.set]at H
     refine go 4 fun a w G H=>?_
     refine bE E E (bQ Tryz.sizeOf4 (H.obj (i:=0) E) G E E E E (by rw[ay.len];decide) (ay.s_narrow _ _) fun w d5=>?_)
     have H:=H.chg d5 (i:=0) rfl
     try dsimp only[List.set]at H
     exact lf
    exact lf
   rintro c5 a w I ⟨G,H⟩
   unfold Sh.Hn at I
   refine go 4 fun a w G H=>?_
   refine aN G E E E (bO (X:=ay) (y:=c5) gQ gI E E E E G E E E fun g4 w g5 c6=>?_)
   have H:=H.plus c6
   try dsimp only[List.set]at H
   intro a G
   obtain⟨g9,d9,I⟩:=ade I
   refine aN G E E E (cB (X:=ay) d9 gQ gI E E E E G E E E (H.own (X:=ay) (i:=2) E) (H.ptS (X:=ay) (i:=0) (n:=1) (c:=1) E E E (aal _)) fun g3 w c8=>?_)
   have H:=H.chg c8 (i:=2) rfl
   try dsimp only[List.set]at H
   intro a G
   refine go 10 fun a w G H=>?_
   exact jr I ⟨g3,G.t,bS H [2] 3 E⟩
  refine go 5 fun a w G H=>?_
  obtain rfl:=oI I
  have I:=g2 _ rfl
  subst I
  exact⟨c2,E,c1,G.to ⟨E,E,trivial⟩,H⟩
 rintro g1 a w I ⟨c4,G,H⟩
 unfold Sh.aJj at I
 refine go 8 fun a w G H=>?_
 obtain rfl:=oI I
 refine aT Tryz.results230 G E ?_
 exact⟨c4,E,H⟩
theorem eE{x0:List ay}{x1 x2:Int}{s1:SV}{out:List ay}{w0:World}{Lr:List di}(I:Sh.eC x0 x1 x2=some out)(H:au w0 (ak 0 s1 259 x0::Lr)):Calls Tryz.prog 231 #[(s1).v,.int .i64 x1,.int .i64 x2] w0 (fZ fun v w'=>∃ (d1:SV),v=(d1).v∧au w' (ak 0 d1 259 out::Lr)):=by
 unfold Sh.eC at I
 refine ce Tryz.func231 Tryz.ntmps231 fun a G=>?_
 refine go 6 fun a w G H=>?_
 refine aM G H I (fun F x a w=>match x with|d2=>∃ (c4:SV),Fr 40 [(0,(c4).v),(6,(SV.nil).v)] a∧au w (ak 0 c4 259 d2::Lr)) (fun g1 I d7 G H=>?_) ?_
 ·refine go 6 fun a w G H=>?_
  refine aY G H I (fun F x a w=>match x with|(c2,c3)=>∃ (c0:SV),Fr 40 [(0,(c0).v),(7,.int .i64 c3),(1,.int .i64 x1),(2,.int .i64 x2),(6,(SV.nil).v)] a∧au w (ak 0 c0 259 c2::Lr)) (fun G H=>⟨s1,G.to ⟨E,E,E,E,E,trivial⟩,H⟩) ?_
  rintro⟨c2,c3⟩ a w g4 I d3 ⟨c0,G,H⟩
  replace I:Sh.mU x1 x2 c2 c3=_:=I
  unfold Sh.mU at I
  refine go 7 fun a w G H=>?_
  refine cc I (fun c9 I=>?_) fun c9 I=>?_
  ·refine go 10 fun a w G H=>?_
   refine aA G (aW nK kh j_ G (parts:=[(0,.tmp 15),(1,.tmp 16),(5,.const (.int .i64 (-1))),(7,.const (.int .i64 (-1))),(8,.const (.int .i64 (-1)))]) E E (aP E E (by rw[ay.len];decide) (ay.gu _ _) (aP E E (by rw[ay.len];decide) (ay.s_op _ _) (aP E E (by rw[ay.len];decide) (ay.s_dst _ _) (aP E E (by rw[ay.len];decide) (ay.s_off _ _) (aP E E (by rw[ay.len];decide) (ay.s_imm _ _) bD)))))) E E E fun a G=>?_
   refine go 5 fun c1 a w G H=>?_
   refine aM G H I (fun F x a w=>match x with|c7=>Fr 40 [(0,(c0).v),(1,.int .i64 x1),(2,.int .i64 x2),(6,(SV.nil).v),(7,.int .i64 c3),(8,.pointer (some ⟨c1,0,none⟩))] a∧au w (pt c1 (ay.enc c7) 259::ak 0 c0 259 c2::Lr)) (fun g2 I d8 G H=>?_) ?_
   ·refine go 3 fun a w G H=>?_
    refine aA G (nU G E E E (by decide)) E E E fun a G=>?_
    exact lf
   rintro c7 a w I ⟨G,H⟩
   unfold Sh.aIv at I
   refine go 2 fun a w G H=>?_
   refine aM G H I (fun F x a w=>match x with|c5=>Fr 40 [(0,(c0).v),(1,.int .i64 x1),(2,.int .i64 x2),(6,(SV.nil).v),(7,.int .i64 c3),(8,.pointer (some ⟨c1,0,none⟩))] a∧au w (pt c1 (ay.enc c5) 259::ak 0 c0 259 c2::Lr)) (fun g3 I d9 G H=>?_) ?_
   ·exact lf
   rintro c5 a w I ⟨G,H⟩
   unfold Sh.aIw at I
   refine go 4 fun a w G H=>?_
   refine aN G E E E (bO (X:=ay) (y:=c5) gQ gI E E E E G E E E fun d5 w d6 c6=>?_)
   have H:=H.plus c6
   try dsimp only[List.set]at H
   intro a G
   obtain⟨g0,d0,I⟩:=ade I
   refine aN G E E E (cB (X:=ay) d0 gQ gI E E E E G E E E (H.own (X:=ay) (i:=2) E) (H.ptS (X:=ay) (i:=0) (n:=1) (c:=1) E E E (aal _)) fun d4 w c8=>?_)
   have H:=H.chg c8 (i:=2) rfl
   try dsimp only[List.set]at H
   intro a G
   refine go 10 fun a w G H=>?_
   exact jr I ⟨d4,G.t,bS H [2] 3 E⟩
  refine go 5 fun a w G H=>?_
  obtain rfl:=oI I
  have I:=d3 _ rfl
  subst I
  exact⟨c2,E,c0,G.to ⟨E,E,trivial⟩,H⟩
 rintro d2 a w I ⟨c4,G,H⟩
 unfold Sh.J7 at I
 refine go 8 fun a w G H=>?_
 obtain rfl:=oI I
 refine aT Tryz.results231 G E ?_
 exact⟨c4,E,H⟩
theorem xT{out:List ay}{w0:World}{Lr:List di}(I:Sh.D3=some out)(H:au w0 (Lr)):Calls Tryz.prog 193 #[] w0 (fZ fun v w'=>∃ (j0:SV),v=(j0).v∧au w' (ak 0 j0 259 out::Lr)):=by
 unfold Sh.D3 at I
 refine ce Tryz.func193 Tryz.ntmps193 fun a G=>?_
 refine go 13 fun a w G H=>?_
 have H:=H.rowNil (X:=ay) 0 259
 obtain⟨d47,z0,I⟩:=ade I
 have m6:=dP z0 H 
 refine cl nN m6 ?_
 rintro v w ⟨c87,rfl,H⟩ a G
 refine go 6 fun a w G H=>?_
 obtain⟨d48,z1,I⟩:=ade I
 have m7:=dP z1 H 
 refine cl nN m7 ?_
 rintro v w ⟨Yn,rfl,H⟩ a G
 refine go 6 fun a w G H=>?_
 obtain⟨d49,z2,I⟩:=ade I
 have m8:=dP z2 H 
 refine cl nN m8 ?_
 rintro v w ⟨Yo,rfl,H⟩ a G
 refine go 6 fun a w G H=>?_
 obtain⟨d50,z3,I⟩:=ade I
 have m9:=dP z3 H 
 refine cl nN m9 ?_
 rintro v w ⟨Yp,rfl,H⟩ a G
 refine go 6 fun a w G H=>?_
 obtain⟨d51,z4,I⟩:=ade I
 have n0:=dP z4 H 
 refine cl nN n0 ?_
 rintro v w ⟨c91,rfl,H⟩ a G
 refine go 6 fun a w G H=>?_
 obtain⟨d52,z5,I⟩:=ade I
 have n1:=dP z5 H 
 refine cl nN n1 ?_
 rintro v w ⟨Yq,rfl,H⟩ a G
 refine go 6 fun a w G H=>?_
 obtain⟨d53,z6,I⟩:=ade I
 have n2:=dP z6 H 
 refine cl nN n2 ?_
 rintro v w ⟨c93,rfl,H⟩ a G
 refine go 6 fun a w G H=>?_
 obtain⟨d54,z7,I⟩:=ade I
 have n3:=dP z7 H 
 refine cl nN n3 ?_
 rintro v w ⟨Yr,rfl,H⟩ a G
 refine go 6 fun a w G H=>?_
 obtain⟨d55,z8,I⟩:=ade I
 have n4:=dP z8 H 
 refine cl nN n4 ?_
 rintro v w ⟨Ys,rfl,H⟩ a G
 refine go 6 fun a w G H=>?_
 obtain⟨d56,z9,I⟩:=ade I
 have n5:=dP z9 H 
 refine cl nN n5 ?_
 rintro v w ⟨ZP,rfl,H⟩ a G
 refine go 6 fun a w G H=>?_
 obtain⟨d57,c10,I⟩:=ade I
 have n6:=dP c10 H 
 refine cl nN n6 ?_
 rintro v w ⟨ZQ,rfl,H⟩ a G
 refine go 6 fun a w G H=>?_
 obtain⟨d58,c11,I⟩:=ade I
 have n7:=dP c11 H 
 refine cl nN n7 ?_
 rintro v w ⟨ZR,rfl,H⟩ a G
 refine go 6 fun a w G H=>?_
 obtain⟨d59,c12,I⟩:=ade I
 have n8:=dP c12 H 
 refine cl nN n8 ?_
 rintro v w ⟨ZS,rfl,H⟩ a G
 refine go 6 fun a w G H=>?_
 obtain⟨d60,BW,I⟩:=ade I
 have n9:=dP BW H 
 refine cl nN n9 ?_
 rintro v w ⟨c46,rfl,H⟩ a G
 refine go 4 fun a w G H=>?_
 refine aM G H I (fun F x a w=>match x with|j1=>∃ (g1:SV),Fr 192 [(1,(g1).v),(0,(SV.nil).v)] a∧au w (ak 0 g1 259 j1::Lr)) (fun d72 I Yi G H=>?_) ?_
 ·refine go 6 fun a w G H=>?_
  refine aY G H I (fun F x a w=>match x with|(c9,c3)=>∃ (c4:SV),Fr 192 [(1,(c4).v),(2,.int .i64 c3),(0,(SV.nil).v)] a∧au w (ak 0 c4 259 c9::Lr)) (fun G H=>⟨c46,G.to ⟨E,E,E,trivial⟩,H⟩) ?_
  rintro⟨c9,c3⟩ a w d78 I c34 ⟨c4,G,H⟩
  replace I:Sh.eX c9 c3=_:=I
  unfold Sh.eX at I
  refine go 7 fun a w G H=>?_
  refine cc I (fun m0 I=>?_) fun m0 I=>?_
  ·refine go 3 fun a w G H=>?_
   refine aM G H I (fun F x a w=>match x with|j2=>∃ (c5:SV),Fr 192 [(1,(c5).v),(0,(SV.nil).v),(2,.int .i64 c3)] a∧au w (ak 0 c5 259 j2::Lr)) (fun d73 I Yj G H=>?_) ?_
   ·refine go 6 fun a w G H=>?_
    refine aA G (aW nK kh j_ G (parts:=[(0,.const (.int .i64 (191))),(1,.const (.int .i64 (16))),(2,.tmp 40),(4,.const (.bool true)),(5,.const (.int .i64 (-1))),(6,.const (.int .i64 (-1))),(7,.tmp 41),(10,.const (.bool true))]) E E (aP E E (by rw[ay.len];decide) (ay.gu _ _) (aP E E (by rw[ay.len];decide) (ay.s_op _ _) (aP E E (by rw[ay.len];decide) (ay.s_size _ _) (aP E E (by rw[ay.len];decide) (ay.s_reg _ _) (aP E E (by rw[ay.len];decide) (ay.s_dst _ _) (aP E E (by rw[ay.len];decide) (ay.s_src _ _) (aP E E (by rw[ay.len];decide) (ay.s_off _ _) (aP E E (by rw[ay.len];decide) (ay.s_writes _ _) bD))))))))) E E E fun a G=>?_
    refine aN G E E E (bO (X:=ay) (y:=(ay.mk 191 16 c3 false true (-1) (-1) c3 0 0 true)) gQ gI E E E E G E E E fun X5 w Yb g5=>?_)
    have H:=H.plus g5
    try dsimp only[List.set]at H
    intro a G
    obtain⟨d29,t2,I⟩:=ade I
    refine aN G E E E (cB (X:=ay) t2 gQ gI E E E E G E E E (H.own (X:=ay) (i:=1) E) (H.ptS (X:=ay) (i:=0) (n:=1) (c:=1) E E E (aal _)) fun J9 w k2=>?_)
    have H:=H.chg k2 (i:=1) rfl
    try dsimp only[List.set]at H
    intro a G
    refine go 9 fun a w G H=>?_
    refine cc I (fun m1 I=>?_) fun m1 I=>?_
    ·refine go 4 fun a w G H=>?_
     refine aA G (aW nK kh j_ G (parts:=[(0,.const (.int .i64 (188))),(1,.const (.int .i64 (16))),(2,.tmp 48),(3,.const (.bool true)),(4,.const (.bool true)),(5,.const (.int .i64 (-1))),(6,.const (.int .i64 (-1))),(7,.tmp 49),(10,.const (.bool true))]) E E (aP E E (by rw[ay.len];decide) (ay.gu _ _) (aP E E (by rw[ay.len];decide) (ay.s_op _ _) (aP E E (by rw[ay.len];decide) (ay.s_size _ _) (aP E E (by rw[ay.len];decide) (ay.s_narrow _ _) (aP E E (by rw[ay.len];decide) (ay.s_reg _ _) (aP E E (by rw[ay.len];decide) (ay.s_dst _ _) (aP E E (by rw[ay.len];decide) (ay.s_src _ _) (aP E E (by rw[ay.len];decide) (ay.s_off _ _) (aP E E (by rw[ay.len];decide) (ay.s_writes _ _) bD)))))))))) E E E fun a G=>?_
     refine aN G E E E (bO (X:=ay) (y:=(ay.mk 188 16 c3 true true (-1) (-1) c3 0 0 true)) gQ gI E E E E G E E E fun X6 w c72 g6=>?_)
     have H:=H.plus g6
     try dsimp only[List.set]at H
     intro a G
     obtain⟨d30,t3,I⟩:=ade I
     refine aN G E E E (cB (X:=ay) t3 gQ gI E E E E G E E E (H.own (X:=ay) (i:=2) E) (H.ptS (X:=ay) (i:=0) (n:=1) (c:=1) E E E (aal _)) fun J_ w k3=>?_)
     have H:=H.chg k3 (i:=2) rfl
     try dsimp only[List.set]at H
     intro a G
     refine go 4 fun a w G H=>?_
     exact jr I ⟨J_,G.t,bS H [2] 3 E⟩
    refine go 3 fun a w G H=>?_
    exact jr I ⟨J9,G.t,bS H [1] 2 E⟩
   rintro j2 a w I ⟨c5,G,H⟩
   unfold Sh.tU at I
   refine go 7 fun a w G H=>?_
   exact jr I ⟨c5,G.t,H⟩
  refine go 5 fun a w G H=>?_
  obtain rfl:=oI I
  have I:=c34 _ rfl
  subst I
  exact⟨c9,E,c4,G.to ⟨E,E,trivial⟩,H⟩
 rintro j1 a w I ⟨g1,G,H⟩
 unfold Sh.aEs at I
 refine go 4 fun a w G H=>?_
 refine aA G (aW nK kh j_ G (parts:=[(0,.const (.int .i64 (135))),(1,.const (.int .i64 (14))),(5,.const (.int .i64 (-1))),(10,.const (.bool true))]) E E (aP E E (by rw[ay.len];decide) (ay.gu _ _) (aP E E (by rw[ay.len];decide) (ay.s_op _ _) (aP E E (by rw[ay.len];decide) (ay.s_dst _ _) (aP E E (by rw[ay.len];decide) (ay.s_writes _ _) bD))))) E E E fun a G=>?_
 refine aN G E E E (bO (X:=ay) (y:=(ay.mk 135 14 0 false false (-1) 0 0 0 0 true)) gQ gI E E E E G E E E fun LA w Yc g7=>?_)
 have H:=H.plus g7
 try dsimp only[List.set]at H
 intro a G
 obtain⟨d31,t4,I⟩:=ade I
 refine aN G E E E (cB (X:=ay) t4 gQ gI E E E E G E E E (H.own (X:=ay) (i:=1) E) (H.ptS (X:=ay) (i:=0) (n:=1) (c:=1) E E E (aal _)) fun d10 w k4=>?_)
 have H:=H.chg k4 (i:=1) rfl
 try dsimp only[List.set]at H
 intro a G
 refine go 6 fun a w G H=>?_
 refine aA G (aW nK kh j_ G (parts:=[(0,.const (.int .i64 (132))),(1,.const (.int .i64 (14))),(3,.const (.bool true)),(5,.const (.int .i64 (-1))),(10,.const (.bool true))]) E E (aP E E (by rw[ay.len];decide) (ay.gu _ _) (aP E E (by rw[ay.len];decide) (ay.s_op _ _) (aP E E (by rw[ay.len];decide) (ay.s_narrow _ _) (aP E E (by rw[ay.len];decide) (ay.s_dst _ _) (aP E E (by rw[ay.len];decide) (ay.s_writes _ _) bD)))))) E E E fun a G=>?_
 refine aN G E E E (bO (X:=ay) (y:=(ay.mk 132 14 0 true false (-1) 0 0 0 0 true)) gQ gI E E E E G E E E fun X7 w Ye g8=>?_)
 have H:=H.plus g8
 try dsimp only[List.set]at H
 intro a G
 obtain⟨d32,t5,I⟩:=ade I
 refine aN G E E E (cB (X:=ay) t5 gQ gI E E E E G E E E (H.own (X:=ay) (i:=2) E) (H.ptS (X:=ay) (i:=0) (n:=1) (c:=1) E E E (aal _)) fun c49 w k5=>?_)
 have H:=H.chg k5 (i:=2) rfl
 try dsimp only[List.set]at H
 intro a G
 refine go 4 fun a w G H=>?_
 refine aM G H I (fun F x a w=>match x with|j3=>∃ (g2:SV),Fr 192 [(1,(g2).v),(0,(SV.nil).v)] a∧au w (ak 0 g2 259 j3::Lr)) (fun d74 I Yk G H=>?_) ?_
 ·refine go 6 fun a w G H=>?_
  refine aY G H I (fun F x a w=>match x with|(d0,c2)=>∃ (c6:SV),Fr 192 [(1,(c6).v),(3,.int .i64 c2),(0,(SV.nil).v)] a∧au w (ak 0 c6 259 d0::Lr)) (fun G H=>⟨c49,G.to ⟨E,E,E,trivial⟩,fU H [2] 3⟩) ?_
  rintro⟨d0,c2⟩ a w d79 I Gh ⟨c6,G,H⟩
  replace I:Sh.eY d0 c2=_:=I
  unfold Sh.eY at I
  refine go 7 fun a w G H=>?_
  refine cc I (fun m2 I=>?_) fun m2 I=>?_
  ·refine go 9 fun a w G H=>?_
   refine aA G (aW nK kh j_ G (parts:=[(0,.const (.int .i64 (212))),(1,.const (.int .i64 (17))),(2,.tmp 66),(5,.const (.int .i64 (-1))),(8,.tmp 67),(10,.const (.bool true))]) E E (aP E E (by rw[ay.len];decide) (ay.gu _ _) (aP E E (by rw[ay.len];decide) (ay.s_op _ _) (aP E E (by rw[ay.len];decide) (ay.s_size _ _) (aP E E (by rw[ay.len];decide) (ay.s_dst _ _) (aP E E (by rw[ay.len];decide) (ay.s_imm _ _) (aP E E (by rw[ay.len];decide) (ay.s_writes _ _) bD))))))) E E E fun a G=>?_
   refine aN G E E E (bO (X:=ay) (y:=(ay.mk 212 17 c2 false false (-1) 0 0 c2 0 true)) gQ gI E E E E G E E E fun X8 w c75 g9=>?_)
   have H:=H.plus g9
   try dsimp only[List.set]at H
   intro a G
   obtain⟨d33,t6,I⟩:=ade I
   refine aN G E E E (cB (X:=ay) t6 gQ gI E E E E G E E E (H.own (X:=ay) (i:=1) E) (H.ptS (X:=ay) (i:=0) (n:=1) (c:=1) E E E (aal _)) fun ZV w k6=>?_)
   have H:=H.chg k6 (i:=1) rfl
   try dsimp only[List.set]at H
   intro a G
   refine go 8 fun a w G H=>?_
   refine aA G (aW nK kh j_ G (parts:=[(0,.const (.int .i64 (220))),(1,.const (.int .i64 (18))),(2,.tmp 72),(5,.const (.int .i64 (-1))),(8,.tmp 73),(10,.const (.bool true))]) E E (aP E E (by rw[ay.len];decide) (ay.gu _ _) (aP E E (by rw[ay.len];decide) (ay.s_op _ _) (aP E E (by rw[ay.len];decide) (ay.s_size _ _) (aP E E (by rw[ay.len];decide) (ay.s_dst _ _) (aP E E (by rw[ay.len];decide) (ay.s_imm _ _) (aP E E (by rw[ay.len];decide) (ay.s_writes _ _) bD))))))) E E E fun a G=>?_
   refine aN G E E E (bO (X:=ay) (y:=(ay.mk 220 18 c2 false false (-1) 0 0 c2 0 true)) gQ gI E E E E G E E E fun X9 w c76 i0=>?_)
   have H:=H.plus i0
   try dsimp only[List.set]at H
   intro a G
   obtain⟨d34,t7,I⟩:=ade I
   refine aN G E E E (cB (X:=ay) t7 gQ gI E E E E G E E E (H.own (X:=ay) (i:=2) E) (H.ptS (X:=ay) (i:=0) (n:=1) (c:=1) E E E (aal _)) fun ZW w k7=>?_)
   have H:=H.chg k7 (i:=2) rfl
   try dsimp only[List.set]at H
   intro a G
   refine go 7 fun a w G H=>?_
   refine aA G (aW nK kh j_ G (parts:=[(0,.const (.int .i64 (215))),(1,.const (.int .i64 (19))),(2,.tmp 78),(5,.const (.int .i64 (-1))),(8,.tmp 79),(10,.const (.bool true))]) E E (aP E E (by rw[ay.len];decide) (ay.gu _ _) (aP E E (by rw[ay.len];decide) (ay.s_op _ _) (aP E E (by rw[ay.len];decide) (ay.s_size _ _) (aP E E (by rw[ay.len];decide) (ay.s_dst _ _) (aP E E (by rw[ay.len];decide) (ay.s_imm _ _) (aP E E (by rw[ay.len];decide) (ay.s_writes _ _) bD))))))) E E E fun a G=>?_
   refine aN G E E E (bO (X:=ay) (y:=(ay.mk 215 19 c2 false false (-1) 0 0 c2 0 true)) gQ gI E E E E G E E E fun X_ w Yf i1=>?_)
   have H:=H.plus i1
   try dsimp only[List.set]at H
   intro a G
   obtain⟨d35,t8,I⟩:=ade I
   refine aN G E E E (cB (X:=ay) t8 gQ gI E E E E G E E E (H.own (X:=ay) (i:=3) E) (H.ptS (X:=ay) (i:=0) (n:=1) (c:=1) E E E (aal _)) fun Ko w k8=>?_)
   have H:=H.chg k8 (i:=3) rfl
   try dsimp only[List.set]at H
   intro a G
   refine go 10 fun a w G H=>?_
   exact jr I ⟨Ko,G.t,bS H [3] 4 E⟩
  refine go 5 fun a w G H=>?_
  obtain rfl:=oI I
  have I:=Gh _ rfl
  subst I
  exact⟨d0,E,c6,G.to ⟨E,E,trivial⟩,H⟩
 rintro j3 a w I ⟨g2,G,H⟩
 unfold Sh.aEt at I
 refine go 4 fun a w G H=>?_
 refine aA G (aW nK kh j_ G (parts:=[(0,.const (.int .i64 (24))),(1,.const (.int .i64 (20))),(5,.const (.int .i64 (-1))),(8,.const (.int .i64 (-1))),(9,.const (.int .i64 (-1))),(10,.const (.bool true))]) E E (aP E E (by rw[ay.len];decide) (ay.gu _ _) (aP E E (by rw[ay.len];decide) (ay.s_op _ _) (aP E E (by rw[ay.len];decide) (ay.s_dst _ _) (aP E E (by rw[ay.len];decide) (ay.s_imm _ _) (aP E E (by rw[ay.len];decide) (ay.s_second _ _) (aP E E (by rw[ay.len];decide) (ay.s_writes _ _) bD))))))) E E E fun a G=>?_
 refine aN G E E E (bO (X:=ay) (y:=(ay.mk 24 20 0 false false (-1) 0 0 (-1) (-1) true)) gQ gI E E E E G E E E fun Ya w Yg i2=>?_)
 have H:=H.plus i2
 try dsimp only[List.set]at H
 intro a G
 obtain⟨d36,t9,I⟩:=ade I
 refine aN G E E E (cB (X:=ay) t9 gQ gI E E E E G E E E (H.own (X:=ay) (i:=1) E) (H.ptS (X:=ay) (i:=0) (n:=1) (c:=1) E E E (aal _)) fun ZX w k9=>?_)
 have H:=H.chg k9 (i:=1) rfl
 try dsimp only[List.set]at H
 intro a G
 refine go 6 fun a w G H=>?_
 refine aA G (aW nK kh j_ G (parts:=[(0,.const (.int .i64 (24))),(1,.const (.int .i64 (21))),(5,.const (.int .i64 (-1))),(6,.const (.int .i64 (6))),(9,.const (.int .i64 (-1))),(10,.const (.bool true))]) E E (aP E E (by rw[ay.len];decide) (ay.gu _ _) (aP E E (by rw[ay.len];decide) (ay.s_op _ _) (aP E E (by rw[ay.len];decide) (ay.s_dst _ _) (aP E E (by rw[ay.len];decide) (ay.s_src _ _) (aP E E (by rw[ay.len];decide) (ay.s_second _ _) (aP E E (by rw[ay.len];decide) (ay.s_writes _ _) bD))))))) E E E fun a G=>?_
 refine aN G E E E (bO (X:=ay) (y:=(ay.mk 24 21 0 false false (-1) 6 0 0 (-1) true)) gQ gI E E E E G E E E fun c70 w Yh i3=>?_)
 have H:=H.plus i3
 try dsimp only[List.set]at H
 intro a G
 obtain⟨d37,u0,I⟩:=ade I
 refine aN G E E E (cB (X:=ay) u0 gQ gI E E E E G E E E (H.own (X:=ay) (i:=2) E) (H.ptS (X:=ay) (i:=0) (n:=1) (c:=1) E E E (aal _)) fun c51 w l0=>?_)
 have H:=H.chg l0 (i:=2) rfl
 try dsimp only[List.set]at H
 intro a G
 refine go 5 fun a w G H=>?_
 refine aN G E E E (eR (X:=Int) (ys:=[16,8,0,24]) (m:=4) kz jO E E E E (by decide) (by decide) G E E (gj.cons E (gj.cons E (gj.cons E (gj.cons E gj.nil)))) fun c0 w c80 i4=>?_)
 have H:=H.plus i4
 try dsimp only[List.set]at H
 intro a G
 refine go 4 fun a w G H=>?_
 refine aM G H I (fun F x a w=>match x with|j4=>∃ (g3:SV),Fr 192 [(1,(g3).v),(0,(SV.nil).v)] a∧au w (ak 0 g3 259 j4::Lr)) (fun d75 I Yl G H=>?_) ?_
 ·refine go 6 fun a w G H=>?_
  refine aY G H I (fun F x a w=>match x with|(d1,c1)=>∃ (c7:SV),Fr 192 [(1,(c7).v),(5,.int .i64 c1),(0,(SV.nil).v),(4,(⟨some ⟨c0,0,none⟩,4,4⟩ : SV).v)] a∧au w (ak 0 c7 259 d1::pt c0 (encs ([16,8,0,24]:List Int)) 3::Lr)) (fun G H=>⟨c51,G.to ⟨E,E,E,E,trivial⟩,fU H [3,0] 4⟩) ?_
  rintro⟨d1,c1⟩ a w d80 I Gi ⟨c7,G,H⟩
  replace I:Sh.dC d1 c1=_:=I
  unfold Sh.dC at I
  refine go 7 fun a w G H=>?_
  refine cc I (fun m3 I=>?_) fun m3 I=>?_
  ·refine go 3 fun a w G H=>?_
   refine aM G H I (fun F x a w=>match x with|j5=>∃ (c8:SV),Fr 192 [(1,(c8).v),(0,(SV.nil).v),(4,(⟨some ⟨c0,0,none⟩,4,4⟩ : SV).v),(5,.int .i64 c1)] a∧au w (ak 0 c8 259 j5::pt c0 (encs ([16,8,0,24]:List Int)) 3::Lr)) (fun d76 I c85 G H=>?_) ?_
   ·refine go 5 fun a w G H=>?_
    obtain⟨p0,I⟩:=bH I
    refine aA G (nV G E E E (aaX p0)) E E E fun a G=>?_
    refine go 8 fun a w G H=>?_
    obtain⟨Lt,i5,I⟩:=ade I
    have j7:=aL i5
    refine aA G (bC (sz:=1) (H.ptS (X:=Int) (i:=1) (n:=4) (c:=4) E E E (aal _)) kz jO E G E E E (aZ i5)) E E E fun a G=>?_
    refine aA G (aG r_ G E E ((((H.ptS (X:=Int) (i:=1) (n:=4) (c:=4) E E E (aal _)).elemS j7.2)).get 0 E)) E E E fun a G=>?_
    refine go 2 fun a w G H=>?_
    refine aA G (aW nK kh j_ G (parts:=[(0,.tmp 104),(1,.const (.int .i64 (22))),(2,.tmp 105),(5,.const (.int .i64 (-1))),(6,.const (.int .i64 (-1))),(7,.const (.int .i64 (-1))),(10,.const (.bool true))]) E E (aP E E (by rw[ay.len];decide) (ay.gu _ _) (aP E E (by rw[ay.len];decide) (ay.s_op _ _) (aP E E (by rw[ay.len];decide) (ay.s_size _ _) (aP E E (by rw[ay.len];decide) (ay.s_dst _ _) (aP E E (by rw[ay.len];decide) (ay.s_src _ _) (aP E E (by rw[ay.len];decide) (ay.s_off _ _) (aP E E (by rw[ay.len];decide) (ay.s_writes _ _) bD)))))))) E E E fun a G=>?_
    refine aN G E E E (bO (X:=ay) (y:=(ay.mk (IntKind.i64.wrap (97+Lt)) 22 (shl .i64 1 ((IntKind.u64.wrap c1)).toNat) false false (-1) (-1) (-1) 0 0 true)) gQ gI E E E E G E E E fun Gf w c37 d2=>?_)
    have H:=H.plus d2
    try dsimp only[List.set]at H
    intro a G
    obtain⟨d38,u1,I⟩:=ade I
    refine aN G E E E (cB (X:=ay) u1 gQ gI E E E E G E E E (H.own (X:=ay) (i:=1) E) (H.ptS (X:=ay) (i:=0) (n:=1) (c:=1) E E E (aal _)) fun Kq w l1=>?_)
    have H:=H.chg l1 (i:=1) rfl
    try dsimp only[List.set]at H
    intro a G
    refine go 4 fun a w G H=>?_
    refine aM G H I (fun F x a w=>match x with|j6=>∃ (g4:SV),Fr 192 [(1,(g4).v),(0,(SV.nil).v),(4,(⟨some ⟨c0,0,none⟩,4,4⟩ : SV).v),(5,.int .i64 c1),(6,.int .i64 (shl .i64 1 ((IntKind.u64.wrap c1)).toNat))] a∧au w (ak 0 g4 259 j6::pt c0 (encs ([16,8,0,24]:List Int)) 3::Lr)) (fun d77 I Ym G H=>?_) ?_
    ·refine go 6 fun a w G H=>?_
     refine cc I (fun m4 I=>?_) fun m4 I=>?_
     ·refine go 4 fun a w G H=>?_
      obtain⟨Lu,i6,I⟩:=ade I
      have j8:=aL i6
      refine aA G (bC (sz:=1) (H.ptS (X:=Int) (i:=2) (n:=4) (c:=4) E E E (aal _)) kz jO E G E E E (aZ i6)) E E E fun a G=>?_
      refine aA G (aG r_ G E E ((((H.ptS (X:=Int) (i:=2) (n:=4) (c:=4) E E E (aal _)).elemS j8.2)).get 0 E)) E E E fun a G=>?_
      refine go 2 fun a w G H=>?_
      refine aA G (aW nK kh j_ G (parts:=[(0,.tmp 116),(1,.const (.int .i64 (23))),(2,.tmp 117),(5,.const (.int .i64 (-1))),(6,.const (.int .i64 (-1))),(7,.const (.int .i64 (-1))),(10,.const (.bool true))]) E E (aP E E (by rw[ay.len];decide) (ay.gu _ _) (aP E E (by rw[ay.len];decide) (ay.s_op _ _) (aP E E (by rw[ay.len];decide) (ay.s_size _ _) (aP E E (by rw[ay.len];decide) (ay.s_dst _ _) (aP E E (by rw[ay.len];decide) (ay.s_src _ _) (aP E E (by rw[ay.len];decide) (ay.s_off _ _) (aP E E (by rw[ay.len];decide) (ay.s_writes _ _) bD)))))))) E E E fun a G=>?_
      refine aN G E E E (bO (X:=ay) (y:=(ay.mk (IntKind.i64.wrap (129+Lu)) 23 (shl .i64 1 ((IntKind.u64.wrap c1)).toNat) false false (-1) (-1) (-1) 0 0 true)) gQ gI E E E E G E E E fun HL w HS d3=>?_)
      have H:=H.plus d3
      try dsimp only[List.set]at H
      intro a G
      obtain⟨d39,u2,I⟩:=ade I
      refine aN G E E E (cB (X:=ay) u2 gQ gI E E E E G E E E (H.own (X:=ay) (i:=2) E) (H.ptS (X:=ay) (i:=0) (n:=1) (c:=1) E E E (aal _)) fun c53 w l2=>?_)
      have H:=H.chg l2 (i:=2) rfl
      try dsimp only[List.set]at H
      intro a G
      refine go 3 fun a w G H=>?_
      exact jr I ⟨c53,G.t,bS H [2,3] 4 E⟩
     refine bL (aB ?_)
     exact jr I ⟨Kq,G.t,bS H [1,2] 3 E⟩
    rintro j6 a w I ⟨g4,G,H⟩
    unfold Sh.pE at I
    refine go 6 fun a w G H=>?_
    obtain⟨c59,i7,I⟩:=ade I
    have j9:=aL i7
    refine aA G (bC (sz:=1) (H.ptS (X:=Int) (i:=1) (n:=4) (c:=4) E E E (aal _)) kz jO E G E E E (aZ i7)) E E E fun a G=>?_
    refine aA G (aG r_ G E E ((((H.ptS (X:=Int) (i:=1) (n:=4) (c:=4) E E E (aal _)).elemS j9.2)).get 0 E)) E E E fun a G=>?_
    refine go 2 fun a w G H=>?_
    refine aA G (aW nK kh j_ G (parts:=[(0,.tmp 126),(1,.const (.int .i64 (24))),(2,.tmp 127),(4,.const (.bool true)),(5,.const (.int .i64 (-1))),(6,.const (.int .i64 (-1))),(7,.const (.int .i64 (-1)))]) E E (aP E E (by rw[ay.len];decide) (ay.gu _ _) (aP E E (by rw[ay.len];decide) (ay.s_op _ _) (aP E E (by rw[ay.len];decide) (ay.s_size _ _) (aP E E (by rw[ay.len];decide) (ay.s_reg _ _) (aP E E (by rw[ay.len];decide) (ay.s_dst _ _) (aP E E (by rw[ay.len];decide) (ay.s_src _ _) (aP E E (by rw[ay.len];decide) (ay.s_off _ _) bD)))))))) E E E fun a G=>?_
    refine aN G E E E (bO (X:=ay) (y:=(ay.mk (IntKind.i64.wrap (99+c59)) 24 (shl .i64 1 ((IntKind.u64.wrap c1)).toNat) false true (-1) (-1) (-1) 0 0 false)) gQ gI E E E E G E E E fun HM w HT d4=>?_)
    have H:=H.plus d4
    try dsimp only[List.set]at H
    intro a G
    obtain⟨d40,u3,I⟩:=ade I
    refine aN G E E E (cB (X:=ay) u3 gQ gI E E E E G E E E (H.own (X:=ay) (i:=1) E) (H.ptS (X:=ay) (i:=0) (n:=1) (c:=1) E E E (aal _)) fun ZY w l3=>?_)
    have H:=H.chg l3 (i:=1) rfl
    try dsimp only[List.set]at H
    intro a G
    refine go 8 fun a w G H=>?_
    obtain⟨Lx,i8,I⟩:=ade I
    have k0:=aL i8
    refine aA G (bC (sz:=1) (H.ptS (X:=Int) (i:=2) (n:=4) (c:=4) E E E (aal _)) kz jO E G E E E (aZ i8)) E E E fun a G=>?_
    refine aA G (aG r_ G E E ((((H.ptS (X:=Int) (i:=2) (n:=4) (c:=4) E E E (aal _)).elemS k0.2)).get 0 E)) E E E fun a G=>?_
    refine go 2 fun a w G H=>?_
    refine aA G (aW nK kh j_ G (parts:=[(0,.tmp 136),(1,.const (.int .i64 (24))),(2,.tmp 137),(5,.const (.int .i64 (-1))),(7,.const (.int .i64 (-1))),(8,.const (.int .i64 (-1)))]) E E (aP E E (by rw[ay.len];decide) (ay.gu _ _) (aP E E (by rw[ay.len];decide) (ay.s_op _ _) (aP E E (by rw[ay.len];decide) (ay.s_size _ _) (aP E E (by rw[ay.len];decide) (ay.s_dst _ _) (aP E E (by rw[ay.len];decide) (ay.s_off _ _) (aP E E (by rw[ay.len];decide) (ay.s_imm _ _) bD))))))) E E E fun a G=>?_
    refine aN G E E E (bO (X:=ay) (y:=(ay.mk (IntKind.i64.wrap (98+Lx)) 24 (shl .i64 1 ((IntKind.u64.wrap c1)).toNat) false false (-1) 0 (-1) (-1) 0 false)) gQ gI E E E E G E E E fun c28 w c40 d5=>?_)
    have H:=H.plus d5
    try dsimp only[List.set]at H
    intro a G
    obtain⟨d41,u4,I⟩:=ade I
    refine aN G E E E (cB (X:=ay) u4 gQ gI E E E E G E E E (H.own (X:=ay) (i:=2) E) (H.ptS (X:=ay) (i:=0) (n:=1) (c:=1) E E E (aal _)) fun Kr w l4=>?_)
    have H:=H.chg l4 (i:=2) rfl
    try dsimp only[List.set]at H
    intro a G
    refine go 9 fun a w G H=>?_
    refine cc I (fun m5 I=>?_) fun m5 I=>?_
    ·refine go 4 fun a w G H=>?_
     obtain⟨Ly,i9,I⟩:=ade I
     have k1:=aL i9
     refine aA G (bC (sz:=1) (H.ptS (X:=Int) (i:=3) (n:=4) (c:=4) E E E (aal _)) kz jO E G E E E (aZ i9)) E E E fun a G=>?_
     refine aA G (aG r_ G E E ((((H.ptS (X:=Int) (i:=3) (n:=4) (c:=4) E E E (aal _)).elemS k1.2)).get 0 E)) E E E fun a G=>?_
     refine go 2 fun a w G H=>?_
     refine aA G (aW nK kh j_ G (parts:=[(0,.tmp 148),(1,.const (.int .i64 (25))),(2,.tmp 149),(5,.const (.int .i64 (-1))),(6,.const (.int .i64 (-1))),(7,.const (.int .i64 (-1))),(8,.const (.int .i64 (-1)))]) E E (aP E E (by rw[ay.len];decide) (ay.gu _ _) (aP E E (by rw[ay.len];decide) (ay.s_op _ _) (aP E E (by rw[ay.len];decide) (ay.s_size _ _) (aP E E (by rw[ay.len];decide) (ay.s_dst _ _) (aP E E (by rw[ay.len];decide) (ay.s_src _ _) (aP E E (by rw[ay.len];decide) (ay.s_off _ _) (aP E E (by rw[ay.len];decide) (ay.s_imm _ _) bD)))))))) E E E fun a G=>?_
     refine aN G E E E (bO (X:=ay) (y:=(ay.mk (IntKind.i64.wrap (195+Ly)) 25 (shl .i64 1 ((IntKind.u64.wrap c1)).toNat) false false (-1) (-1) (-1) (-1) 0 false)) gQ gI E E E E G E E E fun HN w Lj d6=>?_)
     have H:=H.plus d6
     try dsimp only[List.set]at H
     intro a G
     obtain⟨d42,u5,I⟩:=ade I
     refine aN G E E E (cB (X:=ay) u5 gQ gI E E E E G E E E (H.own (X:=ay) (i:=3) E) (H.ptS (X:=ay) (i:=0) (n:=1) (c:=1) E E E (aal _)) fun Ks w l5=>?_)
     have H:=H.chg l5 (i:=3) rfl
     try dsimp only[List.set]at H
     intro a G
     refine go 4 fun a w G H=>?_
     exact jr I ⟨Ks,G.t,bS H [3,4] 5 E⟩
    refine go 3 fun a w G H=>?_
    exact jr I ⟨Kr,G.t,bS H [2,3] 4 E⟩
   rintro j5 a w I ⟨c8,G,H⟩
   unfold Sh.pD at I
   refine go 7 fun a w G H=>?_
   exact jr I ⟨c8,G.t,H⟩
  refine go 5 fun a w G H=>?_
  obtain rfl:=oI I
  have I:=Gi _ rfl
  subst I
  exact⟨d1,E,c7,G.to ⟨E,E,trivial⟩,bS H [0] 2 E⟩
 rintro j4 a w I ⟨g3,G,H⟩
 unfold Sh.aEu at I
 refine go 4 fun a w G H=>?_
 refine aA G (aW nK kh j_ G (parts:=[(0,.const (.int .i64 (5))),(1,.const (.int .i64 (26))),(7,.const (.int .i64 (-1)))]) E E (aP E E (by rw[ay.len];decide) (ay.gu _ _) (aP E E (by rw[ay.len];decide) (ay.s_op _ _) (aP E E (by rw[ay.len];decide) (ay.s_off _ _) bD)))) E E E fun a G=>?_
 refine aN G E E E (bO (X:=ay) (y:=(ay.mk 5 26 0 false false 0 0 (-1) 0 0 false)) gQ gI E E E E G E E E fun HO w Ll d7=>?_)
 have H:=H.plus d7
 try dsimp only[List.set]at H
 intro a G
 obtain⟨d43,u6,I⟩:=ade I
 refine aN G E E E (cB (X:=ay) u6 gQ gI E E E E G E E E (H.own (X:=ay) (i:=1) E) (H.ptS (X:=ay) (i:=0) (n:=1) (c:=1) E E E (aal _)) fun ZZ w l6=>?_)
 have H:=H.chg l6 (i:=1) rfl
 try dsimp only[List.set]at H
 intro a G
 refine go 6 fun a w G H=>?_
 refine aA G (aW nK kh j_ G (parts:=[(0,.const (.int .i64 (6))),(1,.const (.int .i64 (26))),(3,.const (.bool true)),(8,.const (.int .i64 (-1)))]) E E (aP E E (by rw[ay.len];decide) (ay.gu _ _) (aP E E (by rw[ay.len];decide) (ay.s_op _ _) (aP E E (by rw[ay.len];decide) (ay.s_narrow _ _) (aP E E (by rw[ay.len];decide) (ay.s_imm _ _) bD))))) E E E fun a G=>?_
 refine aN G E E E (bO (X:=ay) (y:=(ay.mk 6 26 0 true false 0 0 0 (-1) 0 false)) gQ gI E E E E G E E E fun c31 w Lm d8=>?_)
 have H:=H.plus d8
 try dsimp only[List.set]at H
 intro a G
 obtain⟨d44,u7,I⟩:=ade I
 refine aN G E E E (cB (X:=ay) u7 gQ gI E E E E G E E E (H.own (X:=ay) (i:=2) E) (H.ptS (X:=ay) (i:=0) (n:=1) (c:=1) E E E (aal _)) fun Z1 w l7=>?_)
 have H:=H.chg l7 (i:=2) rfl
 try dsimp only[List.set]at H
 intro a G
 refine go 6 fun a w G H=>?_
 obtain⟨d61,Cm,I⟩:=ade I
 have p1:=eE Cm (fU H [2,0,1] 3) 
 refine cl pI p1 ?_
 rintro v w ⟨Z2,rfl,H⟩ a G
 refine go 6 fun a w G H=>?_
 obtain⟨d62,CB,I⟩:=ade I
 have p2:=eE CB H 
 refine cl pI p2 ?_
 rintro v w ⟨Z3,rfl,H⟩ a G
 refine go 6 fun a w G H=>?_
 obtain⟨d63,c16,I⟩:=ade I
 have p3:=eE c16 H 
 refine cl pI p3 ?_
 rintro v w ⟨Z4,rfl,H⟩ a G
 refine go 6 fun a w G H=>?_
 obtain⟨d64,Dp,I⟩:=ade I
 have p4:=eE Dp H 
 refine cl pI p4 ?_
 rintro v w ⟨Z5,rfl,H⟩ a G
 refine go 6 fun a w G H=>?_
 obtain⟨d65,Dq,I⟩:=ade I
 have p5:=eE Dq H 
 refine cl pI p5 ?_
 rintro v w ⟨Z6,rfl,H⟩ a G
 refine go 6 fun a w G H=>?_
 obtain⟨d66,Dt,I⟩:=ade I
 have p6:=eE Dt H 
 refine cl pI p6 ?_
 rintro v w ⟨Z7,rfl,H⟩ a G
 refine go 6 fun a w G H=>?_
 obtain⟨d67,c20,I⟩:=ade I
 have p7:=eE c20 H 
 refine cl pI p7 ?_
 rintro v w ⟨Z8,rfl,H⟩ a G
 refine go 6 fun a w G H=>?_
 obtain⟨d68,c21,I⟩:=ade I
 have p8:=eE c21 H 
 refine cl pI p8 ?_
 rintro v w ⟨Z9,rfl,H⟩ a G
 refine go 6 fun a w G H=>?_
 obtain⟨d69,Du,I⟩:=ade I
 have p9:=eE Du H 
 refine cl pI p9 ?_
 rintro v w ⟨Z_,rfl,H⟩ a G
 refine go 6 fun a w G H=>?_
 obtain⟨d70,Dv,I⟩:=ade I
 have t0:=eE Dv H 
 refine cl pI t0 ?_
 rintro v w ⟨d26,rfl,H⟩ a G
 refine go 6 fun a w G H=>?_
 obtain⟨d71,c24,I⟩:=ade I
 have t1:=eE c24 H 
 refine cl pI t1 ?_
 rintro v w ⟨d27,rfl,H⟩ a G
 refine go 6 fun a w G H=>?_
 refine aA G (aW nK kh j_ G (parts:=[(0,.const (.int .i64 (133))),(1,.const (.int .i64 (38))),(8,.const (.int .i64 (-1)))]) E E (aP E E (by rw[ay.len];decide) (ay.gu _ _) (aP E E (by rw[ay.len];decide) (ay.s_op _ _) (aP E E (by rw[ay.len];decide) (ay.s_imm _ _) bD)))) E E E fun a G=>?_
 refine aN G E E E (bO (X:=ay) (y:=(ay.mk 133 38 0 false false 0 0 0 (-1) 0 false)) gQ gI E E E E G E E E fun c32 w Ln d9=>?_)
 have H:=H.plus d9
 try dsimp only[List.set]at H
 intro a G
 obtain⟨d45,u8,I⟩:=ade I
 refine aN G E E E (cB (X:=ay) u8 gQ gI E E E E G E E E (H.own (X:=ay) (i:=1) E) (H.ptS (X:=ay) (i:=0) (n:=1) (c:=1) E E E (aal _)) fun d28 w l8=>?_)
 have H:=H.chg l8 (i:=1) rfl
 try dsimp only[List.set]at H
 intro a G
 refine go 6 fun a w G H=>?_
 refine aA G (aW nK kh j_ G (parts:=[(0,.const (.int .i64 (149))),(1,.const (.int .i64 (39)))]) E E (aP E E (by rw[ay.len];decide) (ay.gu _ _) (aP E E (by rw[ay.len];decide) (ay.s_op _ _) bD))) E E E fun a G=>?_
 refine aN G E E E (bO (X:=ay) (y:=(ay.mk 149 39 0 false false 0 0 0 0 0 false)) gQ gI E E E E G E E E fun HQ w Lp g0=>?_)
 have H:=H.plus g0
 try dsimp only[List.set]at H
 intro a G
 obtain⟨d46,u9,I⟩:=ade I
 refine aN G E E E (cB (X:=ay) u9 gQ gI E E E E G E E E (H.own (X:=ay) (i:=2) E) (H.ptS (X:=ay) (i:=0) (n:=1) (c:=1) E E E (aal _)) fun Lq w l9=>?_)
 have H:=H.chg l9 (i:=2) rfl
 try dsimp only[List.set]at H
 intro a G
 refine go 10 fun a w G H=>?_
 obtain rfl:=oI I
 refine aT Tryz.results193 G E ?_
 exact⟨Lq,E,bS H [2] 5 E⟩
theorem xV{x0:List ay}{x1:bg}{s1:SV}{out:(ay×Bool)}{w0:World}{Bf:World→Prop}{Lr:List di}(I:Sh.D4 x0 x1=some out)(H:au w0 (Lr))(S:∀ w,au w Lr→Bf w)(f2:dj Bf s1 x0):Calls Tryz.prog 232 #[(s1).v,.agg (bg.enc x1).toArray] w0 (fZ fun v w'=>v = .tuple #[.agg (ay.enc out.1).toArray,.bool out.2]∧au w' (Lr)):=by
 unfold Sh.D4 at I
 refine ce Tryz.func232 Tryz.ntmps232 fun a G=>?_
 refine go 8 fun c9 c0 a w G H=>?_
 refine jm (pt c0 (ay.enc ay.zero) 259::Lr) G H I [4,5] (fun _ u=>u) (fun d4 I c6 G H=>?_) fun _ a w I G H=>?_
 ·refine go 6 fun a w G H=>?_
  refine ln G H I [0,3,4,5] (fun c1 u=>(6,.int .i64 c1)::u) fun c1 a w d6 I c3 G H=>?_
  unfold Sh.tV at I
  refine go 9 fun a w G H=>?_
  refine cc I (fun c7 I=>?_) fun c7 I=>?_
  ·obtain⟨d1,d3,I⟩:=ade I
   refine go 15 fun d0 a w G H=>?_
   refine jn G H I [0,3,4,5,6,7] (fun c2 u=>(43,.bool c2)::u) (fun d5 I d2 G H=>?_) fun c2 a w I G H=>?_
   ·refine go 7 fun a w G H=>?_
    refine gs I (fun c4 I=>?_) fun c4 I=>?_
    ·refine go 4 fun a w G H=>?_
     refine aO G E E E c4 (Pm Tryz.underlying4 G E E E) E E fun a G=>?_
     refine go 2 fun a w G H=>?_
     refine gs I (fun c5 I=>?_) fun c5 I=>?_
     ·refine go 4 fun a w G H=>?_
      refine aO G E E E c5 (Pm Tryz.underlying4 G E E E) E E fun a G=>?_
      exact lf
     exact lf
    exact lf
   replace I:Sh.yL c1 d1 c2=_:=I
   unfold Sh.yL at I
   refine aB ?_
   refine cc I (fun c8 I=>?_) fun c8 I=>?_
   ·refine go 8 fun a w G H=>?_
    obtain rfl:=oI I
    have I:=c3 _ rfl
    subst I
    have I:=bA c6
    subst I
    refine er Tryz.results232 G H ?_
    exact⟨E,bS H [] 3 E⟩
   exact lf
  refine go 5 fun a w G H=>?_
  obtain rfl:=oI I
  have I:=c3 _ rfl
  subst I
  exact⟨(),E,G.to ⟨E,E,trivial⟩,bS H [0] 2 E⟩
 replace I:Sh.aEw=_:=I
 unfold Sh.aEw at I
 refine go 3 fun a w G H=>?_
 refine aA G (aW nK kh j_ G (parts:=[]) E E bD) E E E fun a G=>?_
 refine go 5 fun a w G H=>?_
 obtain rfl:=oI I
 refine er Tryz.results232 G H ?_
 exact⟨E,bS H [] 1 E⟩
theorem wN{x0:List ay}{x1:bg}{s1:SV}{out:Int}{w0:World}{Bf:World→Prop}{Lr:List di}(I:Sh.gK x0 x1=some out)(H:au w0 (Lr))(S:∀ w,au w Lr→Bf w)(f2:dj Bf s1 x0):Calls Tryz.prog 194 #[(s1).v,.agg (bg.enc x1).toArray] w0 (fZ fun v w'=>v = .int .i64 out∧au w' (Lr)):=by
 unfold Sh.gK at I
 refine ce Tryz.func194 Tryz.ntmps194 fun a G=>?_
 refine go 10 fun d8 a w G H=>?_
 obtain⟨c4,d4,I⟩:=ade I
 have d0:=xV d4 H (Bf:=Bf) (tb S) f2
 refine cl Tryz.call232 d0 ?_
 rintro v w ⟨rfl,H⟩ a G
 refine go 15 fun d9 a w G H=>?_
 refine cc I (fun c5 I=>?_) fun c5 I=>?_
 ·exact lf
 refine go 12 fun a w G H=>?_
 obtain⟨g6,d5,I⟩:=ade I
 have d1:=xW d5 H 
 refine cl Tryz.call233 d1 ?_
 rintro v w ⟨rfl,H⟩ a G
 refine go 3 fun a w G H=>?_
 refine cc I (fun c6 I=>?_) fun c6 I=>?_
 ·exact lf
 refine go 4 fun a w G H=>?_
 refine jn G H I [3,4,5] (fun c0 u=>(61,.bool c0)::u) (fun g3 I g0 G H=>?_) fun c0 a w I G H=>?_
 ·exact lf
 replace I:Sh.FM x1 c4 c0=_:=I
 unfold Sh.FM at I
 refine aB ?_
 refine cc I (fun c7 I=>?_) fun c7 I=>?_
 ·exact lf
 refine go 4 fun a w G H=>?_
 refine jn G H I [3,4,5] (fun c1 u=>(74,.bool c1)::u) (fun g4 I g1 G H=>?_) fun c1 a w I G H=>?_
 ·exact lf
 replace I:Sh.FN x1 c4 c1=_:=I
 unfold Sh.FN at I
 refine aB ?_
 refine cc I (fun c8 I=>?_) fun c8 I=>?_
 ·exact lf
 refine go 4 fun a w G H=>?_
 refine jm (Lr) G H I [4] (fun c2 u=>(89,.bool c2)::u) (fun g5 I g2 G H=>?_) fun c2 a w I G H=>?_
 ·refine go 5 fun a w G H=>?_
  refine gs I (fun c9 I=>?_) fun c9 I=>?_
  ·refine go 8 fun a w G H=>?_
   obtain⟨g7,d6,I⟩:=ade I
   have d2:=pP d6 H 
   refine dD G E E E E E E (aS (xs:=[.tmp 84,.tmp 86]) Tryz.call234 G E E d2 fun v w hR=>?_)
   obtain⟨rfl,H⟩:=hR
   intro a G
   exact lf
  refine go 5 fun a w G H=>?_
  refine gs I (fun c3 I=>?_) fun c3 I=>?_
  ·refine go 3 fun a w G H=>?_
   obtain⟨g8,d7,I⟩:=ade I
   have d3:=pP d7 H 
   refine dD G E E E c3 E E (aS (xs:=[.tmp 84,.tmp 86]) Tryz.call234 G E E d3 fun v w hR=>?_)
   obtain⟨rfl,H⟩:=hR
   intro a G
   exact lf
  exact lf
 replace I:Sh.aCz c2=_:=I
 unfold Sh.aCz at I
 exact lf
theorem wM{x0:List bg}{s1:SV}{out:(Int×Int)}{w0:World}{Bf:World→Prop}{Lr:List di}(I:Sh.uL x0=some out)(H:au w0 (Lr))(S:∀ w,au w Lr→Bf w)(f2:dj Bf s1 x0):Calls Tryz.prog 129 #[(s1).v] w0 (fZ fun v w'=>v = .tuple #[.int .i64 out.1,.int .i64 out.2]∧au w' (Lr)):=by
 unfold Sh.uL at I
 refine ce Tryz.func129 Tryz.ntmps129 fun a G=>?_
 refine go 8 fun a w G H=>?_
 obtain⟨d5,c8,I⟩:=ade I
 have c6:=xT c8 H 
 refine cl Tryz.call193 c6 ?_
 rintro v w ⟨d3,rfl,H⟩ a G
 refine go 4 fun a w G H=>?_
 refine jm (Lr) G H I [2,3] (fun _ u=>u) (fun d1 I c1 G H=>?_) fun _ a w I G H=>?_
 ·refine go 6 fun a w G H=>?_
  refine ln G H I [0,2,3,4] (fun c2 u=>(5,.int .i64 c2)::u) fun c2 a w d2 I c0 G H=>?_
  unfold Sh.rM at I
  refine go 9 fun a w G H=>?_
  refine cc I (fun c3 I=>?_) fun c3 I=>?_
  ·refine go 11 fun a w G H=>?_
   refine cc I (fun c4 I=>?_) fun c4 I=>?_
   ·refine go 8 fun a w G H=>?_
    obtain rfl:=oI I
    have I:=c0 _ rfl
    subst I
    have I:=bA c1
    subst I
    refine er Tryz.results129 G H ?_
    exact⟨E,bS H [] 1 E⟩
   obtain⟨d4,d0,I⟩:=ade I
   refine go 9 fun a w G H=>?_
   obtain⟨d6,c9,I⟩:=ade I
   have c7:=wN c9 H (fun _ h=>h) (fun w H=>(H.rowS (X:=ay) (i:=0) rfl))
   refine cl Tryz.call194 c7 ?_
   rintro v w ⟨rfl,H⟩ a G
   refine go 9 fun a w G H=>?_
   refine cc I (fun c5 I=>?_) fun c5 I=>?_
   ·refine go 9 fun a w G H=>?_
    obtain rfl:=oI I
    have I:=c0 _ rfl
    subst I
    have I:=bA c1
    subst I
    refine er Tryz.results129 G H ?_
    exact⟨E,bS H [] 1 E⟩
   exact lf
  refine go 5 fun a w G H=>?_
  obtain rfl:=oI I
  have I:=c0 _ rfl
  subst I
  exact⟨(),E,G.to ⟨E,E,trivial⟩,bS H [] 1 E⟩
 replace I:Sh.FK=_:=I
 unfold Sh.FK at I
 refine go 8 fun a w G H=>?_
 obtain rfl:=oI I
 refine er Tryz.results129 G H ?_
 exact⟨E,H⟩
end Go.Proofs
end
section
namespace Go.Proofs
open Go.Fw Go.Fx
set_option maxRecDepth 10000
theorem zR{x0:fg}{s1 s3 s5:SV}{out:Bool}{w0:World}{Bf:World→Prop}{Lr:List di}(I:Sh.sL x0=some out)(H:au w0 (Lr))(S:∀ w,au w Lr→Bf w)(f2:dj Bf s1 x0.data)(f4:dj Bf s3 x0.ah)(f6:dj Bf s5 x0.code):Calls Tryz.prog 138 #[.agg (bj.enc (bj.mk x0.lo x0.hi s1 s3 s5)).toArray] w0 (fZ fun v w'=>v = .bool out∧au w' (Lr)):=by
 unfold Sh.sL at I
 refine ce Tryz.func138 Tryz.ntmps138 fun a G=>?_
 refine go 8 fun c0 a w G H=>?_
 refine jn G H I [1,2] (fun c1 u=>(41,.bool c1)::u) (fun g5 I g0 G H=>?_) fun c1 a w I G H=>?_
 ·exact lf
 replace I:Sh.rJ x0 c1=_:=I
 unfold Sh.rJ at I
 refine aB ?_
 refine cc I (fun d0 I=>?_) fun d0 I=>?_
 ·exact lf
 refine go 3 fun a w G H=>?_
 refine jn G H I [1,2] (fun _ u=>u) (fun g6 I c8 G H=>?_) fun _ a w I G H=>?_
 ·refine go 9 fun a w G H=>?_
  refine ln G H I [1,2,43,44] (fun c2 u=>(45,.int .i64 c2)::u) fun c2 a w i0 I c6 G H=>?_
  unfold Sh.aAw at I
  refine go 6 fun a w G H=>?_
  refine cc I (fun d1 I=>?_) fun d1 I=>?_
  ·obtain⟨i2,g3,I⟩:=ade I
   refine go 13 fun d8 a w G H=>?_
   refine jm (pt c0 (bj.enc (bj.mk x0.lo x0.hi s1 s3 s5)) 27::Lr) G H I [1,2,43,44,45] (fun c3 u=>(66,.bool c3)::u) (fun g7 I g1 G H=>?_) fun c3 a w I G H=>?_
   ·exact lf
   replace I:Sh.D8 c2 c3=_:=I
   unfold Sh.D8 at I
   refine aB ?_
   refine cc I (fun d2 I=>?_) fun d2 I=>?_
   ·refine go 6 fun a w G H=>?_
    obtain rfl:=oI I
    have I:=c6 _ rfl
    subst I
    have I:=bA c8
    subst I
    refine aT Tryz.results138 G E ?_
    exact⟨E,bS H [] 1 E⟩
   exact lf
  refine go 5 fun a w G H=>?_
  obtain rfl:=oI I
  have I:=c6 _ rfl
  subst I
  exact⟨(),E,G.to ⟨E,E,trivial⟩,H⟩
 replace I:Sh.rK x0=_:=I
 unfold Sh.rK at I
 refine go 6 fun a w G H=>?_
 obtain⟨i4,d7,I⟩:=ade I
 have d6:=xJ d7 H (Bf:=Bf) (tb S) f6
 refine cl Tryz.call202 d6 ?_
 rintro v w ⟨rfl,H⟩ a G
 refine go 13 fun a w G H=>?_
 refine cc I (fun d3 I=>?_) fun d3 I=>?_
 ·exact lf
 refine go 3 fun a w G H=>?_
 refine jm (Lr) G H I [2] (fun _ u=>u) (fun g8 I c9 G H=>?_) fun _ a w I G H=>?_
 ·refine go 9 fun a w G H=>?_
  refine ln G H I [1,2,77,78] (fun c4 u=>(79,.int .i64 c4)::u) fun c4 a w i1 I c7 G H=>?_
  unfold Sh.lE at I
  refine go 6 fun a w G H=>?_
  refine cc I (fun d4 I=>?_) fun d4 I=>?_
  ·obtain⟨i3,g4,I⟩:=ade I
   refine go 13 fun d9 a w G H=>?_
   refine jm (pt c0 (bj.enc (bj.mk x0.lo x0.hi s1 s3 s5)) 27::Lr) G H I [1,2,77,78,79] (fun c5 u=>(93,.bool c5)::u) (fun g9 I g2 G H=>?_) fun c5 a w I G H=>?_
   ·exact lf
   replace I:Sh.wE c4 c5=_:=I
   unfold Sh.wE at I
   refine aB ?_
   refine cc I (fun d5 I=>?_) fun d5 I=>?_
   ·refine go 6 fun a w G H=>?_
    obtain rfl:=oI I
    have I:=c7 _ rfl
    subst I
    have I:=bA c9
    subst I
    refine aT Tryz.results138 G E ?_
    exact⟨E,bS H [] 1 E⟩
   exact lf
  refine go 5 fun a w G H=>?_
  obtain rfl:=oI I
  have I:=c7 _ rfl
  subst I
  exact⟨(),E,G.to ⟨E,trivial⟩,bS H [] 1 E⟩
 replace I:Sh.Dh=_:=I
 unfold Sh.Dh at I
 exact lf
theorem zQ{x0:fg}{x1:gi}{s1 s3 s5 s7 s9:SV}{xH:List SV}{out:Bool}{w0:World}{Bf:World→Prop}{Lr:List di}(I:Sh.sK x0 x1=some out)(H:au w0 (Lr))(S:∀ w,au w Lr→Bf w)(f2:dj Bf s1 x0.data)(f4:dj Bf s3 x0.ah)(f6:dj Bf s5 x0.code)(f8:dj Bf s7 x1.cq)(f11:dj Bf s9 xH)(E6:cn (dj (X:=UInt8) Bf) xH x1.ah):Calls Tryz.prog 139 #[.agg (bj.enc (bj.mk x0.lo x0.hi s1 s3 s5)).toArray,.agg (bu.enc (bu.mk s7 s9)).toArray] w0 (fZ fun v w'=>v = .bool out∧au w' (Lr)):=by
 unfold Sh.sK at I
 refine ce Tryz.func139 Tryz.ntmps139 fun a G=>?_
 refine go 9 fun d1 c0 a w G H=>?_
 refine jn G H I [2,3,4] (fun c1 u=>(29,.bool c1)::u) (fun d8 I d5 G H=>?_) fun c1 a w I G H=>?_
 ·exact lf
 replace I:Sh.rI x0 x1 c1=_:=I
 unfold Sh.rI at I
 refine aB ?_
 refine cc I (fun c8 I=>?_) fun c8 I=>?_
 ·exact lf
 refine go 3 fun a w G H=>?_
 refine jm (Lr) G H I [4] (fun _ u=>u) (fun d9 I c7 G H=>?_) fun _ a w I G H=>?_
 ·refine go 9 fun a w G H=>?_
  refine aY G H I (fun F x a w=>match x with|c6=>Fr 51 [(33,.int .i64 c6),(3,.pointer (some ⟨c0,0,none⟩)),(31,(s3).v),(32,.int .i64 (x0.ah.length:Int)),(4,.bool false)] a∧au w (pt c0 (bu.enc (bu.mk s7 s9)) 30::Lr)) (fun G H=>⟨G.to ⟨E,E,E,E,E,trivial⟩,fU H [0] 2⟩) ?_
  rintro c6 a w g0 I c2 ⟨G,H⟩
  unfold Sh.D7 at I
  refine go 6 fun a w G H=>?_
  refine cc I (fun c9 I=>?_) fun c9 I=>?_
  ·obtain⟨g1,d6,I⟩:=ade I
   refine go 15 fun d2 a w G H=>?_
   refine dT H [0,1] 2 fun K=>?_
   obtain⟨g2,c3,I⟩:=ade I
   have c4:=aL c3
   obtain⟨d7,d4,c5⟩:=cn.getr E6 c4.2
   have d3:=cn.bd E6 (aZ c3)
   refine eL [0,1,2,3,4] fun a G=>?_
   refine aK G K 5 E ada E E E (fun w H=>(cK (c5 _ (S _ (fc H 2))) kg G E E)) fun a G=>?_
   refine eL [6,7,8,9,10,11] fun a G=>?_
   refine de fun w H=>?_
   refine aB ?_
   refine cc I (fun d0 I=>?_) fun d0 I=>?_
   ·refine go 6 fun a w G H=>?_
    obtain rfl:=oI I
    have I:=c2 _ rfl
    subst I
    have I:=bA c7
    subst I
    refine aT Tryz.results139 G E ?_
    exact⟨E,bS H [] 2 E⟩
   exact lf
  refine go 5 fun a w G H=>?_
  obtain rfl:=oI I
  have I:=c2 _ rfl
  subst I
  exact⟨(),E,G.to ⟨E,trivial⟩,bS H [] 1 E⟩
 replace I:Sh.Ha=_:=I
 unfold Sh.Ha at I
 exact lf
theorem rX{γ:Type}{x0:fg}{x1:gi}{s1 s3 s5 s7 s9:SV}{xH:List SV}{out:((Unit⊕(Unit⊕ai))⊕γ)}{w0:World}{Bf:World→Prop}{Lr:List di}(I:Sh.kS x0 x1=some out)(H:au w0 (Lr))(S:∀ w,au w Lr→Bf w)(f2:dj Bf s1 x0.data)(f4:dj Bf s3 x0.ah)(f6:dj Bf s5 x0.code)(f8:dj Bf s7 x1.cq)(f11:dj Bf s9 xH)(E6:cn (dj (X:=UInt8) Bf) xH x1.ah):Calls Tryz.prog 65 #[.agg (bj.enc (bj.mk x0.lo x0.hi s1 s3 s5)).toArray,.agg (bu.enc (bu.mk s7 s9)).toArray] w0 (fZ fun v w=>∃ x,out = .inl x∧match x with|(.inl _)=>v = .tuple #[.pointer none,.int .i64 1]∧au w (Lr)|(.inr (.inl _))=>v = .tuple #[.pointer none,.int .i64 3]∧au w (Lr)|(.inr (.inr c0))=>∃ (j6:Nat) (j9:SV) (k0:SV) (d9:List SV) (k1:SV) (k2:SV) (k3:SV) (k4:SV) (j7:Nat) (k5:SV),v = .tuple #[.pointer (some ⟨j6,0,none⟩),.int .i64 0]∧cn (dj (X:=UInt8) (a_ d9 c0.ae.ah).holds') d9 c0.ae.ah∧au w (pt j6 (af.enc (gB c0 j9 k0 k1 k2 k3 k4 j7 k5)) 203::ak 0 j9 5 c0.ae.cq::ak 0 k0 23 d9::(a_ d9 c0.ae.ah)::ak 0 k1 5 c0.ae.data::ak 0 k2 205 c0.ae.sizes::ak 0 k3 101 c0.code::ak 0 k4 3 c0.dq::.obj j7 (oU c0.da)::ak 0 k5 3 c0.a7::Lr)):=by
 unfold Sh.kS at I
 refine ce Tryz.func65 Tryz.ntmps65 fun a G=>?_
 refine go 12 fun g7 c1 a w G H=>?_
 obtain⟨p5,m6,I⟩:=ade I
 have l9:=zR m6 H (Bf:=Bf) (tb S) f2 f4 f6
 refine cl Tryz.call138 l9 ?_
 rintro v w ⟨rfl,H⟩ a G
 refine go 3 fun a w G H=>?_
 refine cc I (fun l6 I=>?_) fun l6 I=>?_
 ·refine go 7 fun a w G H=>?_
  obtain rfl:=oI I
  refine er Tryz.results65 G H ?_
  exact⟨(inl ()),E,E,bS H [] 2 E⟩
 refine go 7 fun a w G H=>?_
 obtain⟨p6,m7,I⟩:=ade I
 have m0:=zQ m7 H (Bf:=Bf) (tb S) f2 f4 f6 f8 f11 E6
 refine cl Tryz.call139 m0 ?_
 rintro v w ⟨rfl,H⟩ a G
 refine go 3 fun a w G H=>?_
 refine cc I (fun l7 I=>?_) fun l7 I=>?_
 ·refine go 7 fun a w G H=>?_
  obtain rfl:=oI I
  refine er Tryz.results65 G H ?_
  exact⟨(inr (inl ())),E,E,bS H [] 2 E⟩
 refine go 3 fun a w G H=>?_
 refine aM G H I (fun F x a w=>match x with|(d4,c8,d0,i5,d5,d6,d7,d8)=>∃ (c5:Nat) (c6:SV) (c7:SV) (g8:Nat),Fr 92 [(6,.pointer (some ⟨c5,0,none⟩)),(2,.pointer (some ⟨g7,0,none⟩)),(3,.pointer (some ⟨c1,0,none⟩)),(4,.pointer none),(5,.int .i64 0)] a∧au w (pt c5 (af.enc (af.mk (bq.mk d4 SV.nil SV.nil SV.nil SV.nil) c6 c7 (some g8) d5 SV.nil d6 d7 d8)) 203::ak 0 c6 101 c8::ak 0 c7 3 d0::.obj g8 (oU i5)::pt c1 (bu.enc (bu.mk s7 s9)) 30::pt g7 (bj.enc (bj.mk x0.lo x0.hi s1 s3 s5)) 27::Lr)) (fun n8 I n6 G H=>?_) ?_
 ·refine dT H [0,1] 2 fun K=>?_
  refine eL [0,1,3,4] fun a G=>?_
  refine fM K 2 6 ada E E ?_ ?_
  ·refine cA G 2 E E E E E fun w ep H=>?_
   obtain⟨n4,i1,I⟩:=ade I
   have i0:=fX i1 H (Bf:=Bf) (tb S) f6
   refine dl Tryz.call140 i0 ?_
   rintro v w ⟨i2,rfl,H⟩
   refine ds [0,1,2] 3 fun a G=>?_
   refine fM K 5 6 ada E E ?_ ?_
   ·refine cA G 5 E E E E E fun w ep H=>?_
    obtain⟨k6,d3,I⟩:=ade I
    have d1:=lQ d3 H (Bf:=Bf) (tb S) f6
    refine dl Tryz.call141 d1 ?_
    rintro v w ⟨g2,rfl,H⟩
    refine ds [0,1,2,3] 4 fun a G=>?_
    refine dx 6 fun w ep H=>?_
    refine(vO E fun c2 w g1 c4=>?_)
    have H:=H.plus c4
    try dsimp only[List.set]at H
    refine ds [0,1,2,3,4] 5 fun a G=>?_
    refine aK G K 7 E ada E E E (fun w H=>(aW z203 Bt Bj G (parts:=[(1,.tmp 17),(2,.tmp 20),(3,.tmp 21)]) E E (aP E E (by rw[af.len];decide) (af.gu _ _) (aP E E (by rw[af.len];decide) (af.nc _ _) (aP E E (by rw[af.len];decide) (af.s_begin_ _ _) bD))))) fun a G=>?_
    refine dx 8 fun w ep H=>?_
    refine(gE G E E E fun c3 w i4 c9=>?_)
    have H:=H.plus c9
    try dsimp only[List.set]at H
    refine ds [0,1,2,3,4,5] 6 fun a G=>?_
    refine eL [9] fun a G=>?_
    refine de fun w H=>?_
    refine aB ?_
    exact jr I ⟨c3,i2,g2,c2,G.t,bS H [0,3,2,1,4,5] 6 E⟩
   refine cA G 6 E E E E E fun w ep H=>?_
   refine(vO E fun c2 w g1 c4=>?_)
   have H:=H.plus c4
   try dsimp only[List.set]at H
   refine ds [0,1,2,3] 4 fun a G=>?_
   refine dx 5 fun w ep H=>?_
   obtain⟨k6,d3,I⟩:=ade I
   have d1:=lQ d3 H (Bf:=Bf) (tb S) f6
   refine dl Tryz.call141 d1 ?_
   rintro v w ⟨g2,rfl,H⟩
   refine ds [0,1,2,3,4] 5 fun a G=>?_
   refine aK G K 7 E ada E E E (fun w H=>(aW z203 Bt Bj G (parts:=[(1,.tmp 17),(2,.tmp 20),(3,.tmp 21)]) E E (aP E E (by rw[af.len];decide) (af.gu _ _) (aP E E (by rw[af.len];decide) (af.nc _ _) (aP E E (by rw[af.len];decide) (af.s_begin_ _ _) bD))))) fun a G=>?_
   refine dx 8 fun w ep H=>?_
   refine(gE G E E E fun c3 w i4 c9=>?_)
   have H:=H.plus c9
   try dsimp only[List.set]at H
   refine ds [0,1,2,3,4,5] 6 fun a G=>?_
   refine eL [9] fun a G=>?_
   refine de fun w H=>?_
   refine aB ?_
   exact jr I ⟨c3,i2,g2,c2,G.t,bS H [0,3,1,2,4,5] 6 E⟩
  refine cA G 6 E E E E E fun w ep H=>?_
  refine(vO E fun c2 w g1 c4=>?_)
  have H:=H.plus c4
  try dsimp only[List.set]at H
  refine ds [0,1,2] 3 fun a G=>?_
  refine dx 2 fun w ep H=>?_
  obtain⟨n4,i1,I⟩:=ade I
  have i0:=fX i1 H (Bf:=Bf) (tb S) f6
  refine dl Tryz.call140 i0 ?_
  rintro v w ⟨i2,rfl,H⟩
  refine ds [0,1,2,3] 4 fun a G=>?_
  refine dx 5 fun w ep H=>?_
  obtain⟨k6,d3,I⟩:=ade I
  have d1:=lQ d3 H (Bf:=Bf) (tb S) f6
  refine dl Tryz.call141 d1 ?_
  rintro v w ⟨g2,rfl,H⟩
  refine ds [0,1,2,3,4] 5 fun a G=>?_
  refine aK G K 7 E ada E E E (fun w H=>(aW z203 Bt Bj G (parts:=[(1,.tmp 17),(2,.tmp 20),(3,.tmp 21)]) E E (aP E E (by rw[af.len];decide) (af.gu _ _) (aP E E (by rw[af.len];decide) (af.nc _ _) (aP E E (by rw[af.len];decide) (af.s_begin_ _ _) bD))))) fun a G=>?_
  refine eL [8,9] fun c3 a G=>?_
  refine de fun w H=>?_
  refine aB ?_
  exact jr I ⟨c3,i2,g2,c2,G.t,bS H [0,2,1,3,4,5] 6 E⟩
 rintro⟨d4,c8,d0,i5,d5,d6,d7,d8⟩ a w I ⟨c5,c6,c7,g8,G,H⟩
 replace I:Sh.Ec x0 x1 d4 c8 d0 i5 d5 d6 d7 d8=_:=I
 unfold Sh.Ec at I
 refine go 2 fun a w G H=>?_
 refine dT H [0,1,2,3,4,5] 6 fun K=>?_
 refine eL [0,1,2,3,5,6] fun a G=>?_
 refine dx 4 fun w ep H=>?_
 obtain⟨i8,m8,I⟩:=ade I
 have m1:=cW m8 H (Bf:=Bf) (tb S) f8
 refine dl sd m1 ?_
 rintro v w ⟨g3,rfl,H⟩
 refine ds [0,1,2,3,4,5,6] 7 fun a G=>?_
 refine dx 7 fun w ep H=>?_
 obtain⟨i9,m9,I⟩:=ade I
 have m2:=iU m9 H (Bf:=Bf) (tb S) f11 E6
 refine dl Tryz.call143 m2 ?_
 rintro v w ⟨g4,d2,rfl,n3,H⟩
 refine ds [0,1,2,3,4,5,6,7,8] 9 fun a G=>?_
 refine eL [8,9,10] fun a G=>?_
 refine kn 11 fun w ep H=>?_
 refine(bQ vp (H.obj (i:=3) E) G E E E E (by rw[af.len];decide) (fT (af.c_memory _) (bq.ig _ _) (af.p_memory _ _) (by rw[af.len];decide) (by decide)) fun w k8=>?_)
 have H:=H.chg k8 (i:=3) rfl
 try dsimp only[List.set]at H
 refine dh ?_
 refine eL [12,13,14] fun a G=>?_
 refine kn 15 fun w ep H=>?_
 refine(bQ Tryz.sizeOf28 (H.obj (i:=3) E) G E E E E (by rw[af.len];decide) (fT (af.c_memory _) (bq.eh _ _) (af.p_memory _ _) (by rw[af.len];decide) (by decide)) fun w k9=>?_)
 have H:=H.chg k9 (i:=3) rfl
 try dsimp only[List.set]at H
 refine dh ?_
 refine de fun w H=>?_
 refine go 2 fun a w G H=>?_
 refine dT H [0,1,2,3,4,5,6,7,8] 9 fun K=>?_
 refine eL [0,1,2,3,5,6] fun a G=>?_
 refine dx 4 fun w ep H=>?_
 obtain⟨j0,n0,I⟩:=ade I
 have m3:=cW n0 H (Bf:=Bf) (tb S) f2
 refine dl sd m3 ?_
 rintro v w ⟨g5,rfl,H⟩
 refine ds [0,1,2,3,4,5,6,7,8,9] 10 fun a G=>?_
 refine dx 7 fun w ep H=>?_
 obtain⟨j1,n1,I⟩:=ade I
 have m4:=jB n1 H (Bf:=Bf) (tb S) f4
 refine dl Tryz.call144 m4 ?_
 rintro v w ⟨g6,rfl,H⟩
 refine ds [0,1,2,3,4,5,6,7,8,9,10] 11 fun a G=>?_
 refine eL [8,9,10] fun a G=>?_
 refine kn 11 fun w ep H=>?_
 refine(bQ vp (H.obj (i:=5) E) G E E E E (by rw[af.len];decide) (fT (af.c_memory _) (bq.lI _ _) (af.p_memory _ _) (by rw[af.len];decide) (by decide)) fun w l0=>?_)
 have H:=H.chg l0 (i:=5) rfl
 try dsimp only[List.set]at H
 refine dh ?_
 refine eL [12,13,14] fun a G=>?_
 refine kn 15 fun w ep H=>?_
 refine(bQ Tryz.sizeOf24 (H.obj (i:=5) E) G E E E E (by rw[af.len];decide) (fT (af.c_memory _) (bq.pY _ _) (af.p_memory _ _) (by rw[af.len];decide) (by decide)) fun w l1=>?_)
 have H:=H.chg l1 (i:=5) rfl
 try dsimp only[List.set]at H
 refine dh ?_
 refine de fun w H=>?_
 refine go 2 fun a w G H=>?_
 refine aM G H I (fun F x a w=>match x with|i6=>∃ (g9:Nat),Fr 92 [(3,.pointer (some ⟨c1,0,none⟩)),(4,.pointer none),(5,.int .i64 0),(6,.pointer (some ⟨c5,0,none⟩))] a∧au w (pt c5 (af.enc (af.mk (bq.mk d4 g3 g4 g5 g6) c6 c7 (some g9) d5 SV.nil d6 d7 d8)) 203::.obj g9 (oU i6)::pt c1 (bu.enc (bu.mk s7 s9)) 30::ak 0 g6 205 j1::ak 0 g5 5 j0::ak 0 g4 23 d2::(a_ d2 i9)::ak 0 g3 5 i8::ak 0 c6 101 c8::ak 0 c7 3 d0::Lr)) (fun n9 I n7 G H=>?_) ?_
 ·refine go 11 fun a w G H=>?_
  refine aY G H I (fun F x a w=>match x with|(i3,i7)=>∃ (g0:Nat),Fr 92 [(57,.int .i64 i7),(3,.pointer (some ⟨c1,0,none⟩)),(4,.pointer none),(5,.int .i64 0),(56,.int .i64 (c8.length:Int)),(6,.pointer (some ⟨c5,0,none⟩))] a∧au w (pt c5 (af.enc (af.mk (bq.mk d4 g3 g4 g5 g6) c6 c7 (some g0) d5 SV.nil d6 d7 d8)) 203::.obj g0 (oU i3)::pt c1 (bu.enc (bu.mk s7 s9)) 30::ak 0 g6 205 j1::ak 0 g5 5 j0::ak 0 g4 23 d2::(a_ d2 i9)::ak 0 g3 5 i8::ak 0 c6 101 c8::ak 0 c7 3 d0::Lr)) (fun G H=>⟨g8,G.to ⟨E,E,E,E,E,E,trivial⟩,fU H [5,8,9,0,1,2,3,4,6,7] 11⟩) ?_
  rintro⟨i3,i7⟩ a w p0 I k7 ⟨g0,G,H⟩
  replace I:Sh.qO c8 d0 i3 i7=_:=I
  unfold Sh.qO at I
  refine go 6 fun a w G H=>?_
  refine cc I (fun l8 I=>?_) fun l8 I=>?_
  ·refine go 10 fun a w G H=>?_
   refine dT H [0,1,2,3,4,5,6,7,8,9] 10 fun K=>?_
   refine eL [0,1,2,3,4,5,6,7,8] fun a G=>?_
   obtain⟨p1,j2,I⟩:=ade I
   have j8:=aL j2
   refine aK G K 9 E ada E E E (fun w H=>(bC (sz:=1) (H.rowS (X:=Int) (i:=9) E) kz jO E G E E E (aZ j2))) fun a G=>?_
   refine aK G K 10 E ada E E E (fun w H=>(aG r_ G E E ((((H.rowS (X:=Int) (i:=9) E).elemS j8.2)).get 0 E))) fun a G=>?_
   refine eL [11] fun a G=>?_
   refine kn 12 fun w ep H=>?_
   refine(SQ Tryz.underlying199 qh G E E E E (H.hold 1 _ E) fun w l2=>?_)
   have H:=H.chg l2 (i:=1) rfl
   try dsimp only[List.set]at H
   refine dh ?_
   refine de fun w H=>?_
   refine go 7 fun a w G H=>?_
   exact jr I ⟨g0,G.t,H⟩
  refine go 5 fun a w G H=>?_
  obtain rfl:=oI I
  have I:=k7 _ rfl
  subst I
  exact⟨i3,E,g0,G.to ⟨E,E,E,E,trivial⟩,H⟩
 rintro i6 a w I ⟨g9,G,H⟩
 unfold Sh.aJp at I
 refine go 4 fun a w G H=>?_
 refine aA G (aW z46 BD Bo G (parts:=[(0,.const (.int .i64 (3)))]) E E (aP E E (by rw[aj.len];decide) (aj.s_kind _ _) bD)) E E E fun a G=>?_
 obtain⟨p2,j3,I⟩:=ade I
 refine go 3 fun a w G H=>?_
 refine bE E E (aU (vs:=_) iw (H.obj (i:=0) E) G E E E E (aj.len _) (aj.one _) (by have:=(bW j3);rw[aj.len,af.len];omega) (af.pi_regs _ _ _ (by have:=(bW j3);omega)) fun w l3=>?_)
 have H:=H.chg l3 (i:=0) rfl
 try dsimp only[List.set]at H
 refine go 3 fun a w G H=>?_
 refine dT H [0,1,2,3,4,5,6,7,8,9] 10 fun K=>?_
 refine eL [0,1,2,3,5,6] fun a G=>?_
 refine dx 4 fun w ep H=>?_
 obtain⟨n5,n2,I⟩:=ade I
 have m5:=dL n2 H 
 refine dl oy m5 ?_
 rintro v w ⟨rfl,H⟩
 refine ds [0,1,2,3,4,5,6,7,8,9] 10 fun a G=>?_
 obtain⟨p3,j4,I⟩:=ade I
 refine eL [7] fun a G=>?_
 refine kn 8 fun w ep H=>?_
 refine(aU (vs:=_) iw (H.obj (i:=0) E) G E E E E (aj.len _) (aj.one _) (by have:=(bW j4);rw[aj.len,af.len];omega) (af.pi_regs _ _ _ (by have:=(bW j4);omega)) fun w l4=>?_)
 have H:=H.chg l4 (i:=0) rfl
 try dsimp only[List.set]at H
 refine dh ?_
 refine de fun w H=>?_
 refine go 4 fun a w G H=>?_
 refine aA G (aW z46 BD Bo G (parts:=[(0,.const (.int .i64 (2))),(3,.const (.int .i64 (256)))]) E E (aP E E (by rw[aj.len];decide) (aj.s_kind _ _) (aP E E (by rw[aj.len];decide) (aj.s_x _ _) bD))) E E E fun a G=>?_
 obtain⟨p4,j5,I⟩:=ade I
 refine go 3 fun a w G H=>?_
 refine bE E E (aU (vs:=_) iw (H.obj (i:=0) E) G E E E E (aj.len _) (aj.one _) (by have:=(bW j5);rw[aj.len,af.len];omega) (af.pi_regs _ _ _ (by have:=(bW j5);omega)) fun w l5=>?_)
 have H:=H.chg l5 (i:=0) rfl
 try dsimp only[List.set]at H
 refine go 10 fun a w G H=>?_
 have H:=H.rowNil (X:=Int) 0 3
 obtain rfl:=oI I
 refine er Tryz.results65 G H ?_
 exact⟨(inr (inr (ai.mk (fq.mk d4 i8 i9 j0 j1) c8 d0 i6 (((d5.set (1:Int).toNat (aj.mk 3 0 0 0)).set (2:Int).toNat n5).set (10:Int).toNat (aj.mk 2 0 0 256)) [] d6 d7 d8))),E,c5,g3,g4,d2,g5,g6,c6,c7,g9,SV.nil,E,n3,bS H [1,8,6,7,5,4,9,10,2,0] 11 E⟩
theorem yO{x0:fg}{x1:gi}{x2:Int}{s1 s3 s5 s7 s9:SV}{xH:List SV}{out:(gy×Int)}{w0:World}{Bf:World→Prop}{Lr:List di}(I:Sh.qD x0 x1 x2=some out)(H:au w0 (Lr))(S:∀ w,au w Lr→Bf w)(f2:dj Bf s1 x0.data)(f4:dj Bf s3 x0.ah)(f6:dj Bf s5 x0.code)(f8:dj Bf s7 x1.cq)(f11:dj Bf s9 xH)(E6:cn (dj (X:=UInt8) Bf) xH x1.ah):Calls Tryz.prog 25 #[.agg (bj.enc (bj.mk x0.lo x0.hi s1 s3 s5)).toArray,.agg (bu.enc (bu.mk s7 s9)).toArray,.int .i64 x2] w0 (fZ fun v w'=>∃ (u5:SV) (u6:SV) (k3:List SV) (u7:SV) (t0:List bw) (u0:di),v = .tuple #[.agg (bp.enc (Gt out.1 u5 u6 u7)).toArray,.int .i64 out.2]∧cn (dj (X:=UInt8) (a_ k3 out.1.qb.ah).holds') k3 out.1.qb.ah∧cn (ki u0.holds') t0 out.1.dW∧au w' (ak 0 u5 5 out.1.qb.cq::ak 0 u6 23 k3::(a_ k3 out.1.qb.ah)::ak 0 u7 60 t0::u0::Lr)):=by
 unfold Sh.qD at I
 refine ce Tryz.func25 Tryz.ntmps25 fun a G=>?_
 refine go 12 fun z2 z3 c4 a w G H=>?_
 obtain⟨Lq,I,n6⟩:=cM I
 refine aN G E E E (aS (xs:=[.tmp 17,.tmp 18]) Tryz.call65 G E E (rX I H (Bf:=Bf) (fun w H=>S _ (fc H 3)) f2 f4 f6 f8 f11 E6) fun v w hR=>?_)
 obtain⟨HS,rfl,hR⟩:=hR
 rcases HS with⟨⟩|⟨⟩|c0
 ·obtain⟨rfl,H⟩:=hR
  replace I:Sh.aFb=_:=n6
  unfold Sh.aFb at I
  intro a G
  refine go 17 fun a w G H=>?_
  refine aA G (aW z36 Bz Bm G (parts:=[]) E E bD) E E E fun a G=>?_
  refine go 6 fun a w G H=>?_
  have H:=H.rowNil (X:=UInt8) 0 5
  have HL:cn (dj (X:=UInt8) (a_ [] []).holds') ([]:List SV) ([]:List (List UInt8)):=cn.nil
  have H:=mP H
  have H:=H.rowNil (X:=SV) 0 23
  obtain⟨u1,H⟩:=vK H
  have HM:cn (ki u1.holds') ([]:List bw) ([]:List dw):=cn.nil
  have H:=H.rowNil (X:=bw) 0 60
  obtain rfl:=oI I
  refine er C2 G H ?_
  exact⟨SV.nil,SV.nil,[],SV.nil,[],u1,E,HL,HM,bS H [4,2,3,0,1] 8 E⟩
 ·obtain⟨rfl,H⟩:=hR
  replace I:Sh.G8=_:=n6
  unfold Sh.G8 at I
  intro a G
  refine go 17 fun a w G H=>?_
  refine aA G (aW z36 Bz Bm G (parts:=[]) E E bD) E E E fun a G=>?_
  refine go 6 fun a w G H=>?_
  have H:=H.rowNil (X:=UInt8) 0 5
  have c28:cn (dj (X:=UInt8) (a_ [] []).holds') ([]:List SV) ([]:List (List UInt8)):=cn.nil
  have H:=mP H
  have H:=H.rowNil (X:=SV) 0 23
  obtain⟨u2,H⟩:=vK H
  have HN:cn (ki u2.holds') ([]:List bw) ([]:List dw):=cn.nil
  have H:=H.rowNil (X:=bw) 0 60
  obtain rfl:=oI I
  refine er C2 G H ?_
  exact⟨SV.nil,SV.nil,[],SV.nil,[],u2,E,c28,HN,bS H [4,2,3,0,1] 8 E⟩
 obtain⟨g5,k6,k7,i5,d0,d1,d2,d3,c9,k8,rfl,t4,H⟩:=hR
 replace I:Sh.uB x2 c0=_:=n6
 unfold Sh.uB at I
 intro a G
 refine go 20 fun a w G H=>?_
 obtain⟨d5,c21,I⟩:=ade I
 have z9:=eV c21 (bS H [0,1,2,3,9,4,5,6,7,8,10,11,12] 13 rfl) (fun _ h=>h) t4 (fun w H=>(H.rowS (X:=UInt8) (i:=0) rfl)) (fun w H=>(H.rowS (X:=gP) (i:=1) rfl)) (fun w H=>(H.rowS (X:=bg) (i:=2) rfl)) (fun w H=>(H.rowS (X:=Int) (i:=3) rfl)) (fun w H=>H.hold 4 _ rfl)
 refine cl Tryz.call67 z9 ?_
 rintro v w ⟨l3,l4,i6,l5,rfl,l1,H⟩ a G
 replace H:au _ (ak 0 l3 5 d5.cq::ak 0 l4 23 i6::(a_ i6 d5.ah)::ak 0 l5 3 d5.a7::pt g5 (af.enc (gB c0 k6 k7 d0 d1 d2 d3 c9 k8)) 203::ak 0 k6 5 c0.ae.cq::ak 0 k7 23 i5::(a_ i5 c0.ae.ah)::ak 0 k8 3 c0.a7::ak 0 d0 5 c0.ae.data::ak 0 d1 205 c0.ae.sizes::ak 0 d2 101 c0.code::ak 0 d3 3 c0.dq::.obj c9 (oU c0.da)::pt c4 (bp.enc (FB)) 36::pt z3 (bu.enc (bu.mk s7 s9)) 30::pt z2 (bj.enc (bj.mk x0.lo x0.hi s1 s3 s5)) 27::Lr):=H
 refine go 5 fun c8 a w G H=>?_
 refine aM G H I (fun F x a w=>match x with|(c3,p0)=>∃ (d6:Nat) (c5:SV) (c6:SV) (c2:List SV),cn (dj (X:=UInt8) (a_ c2 c3.ah).holds') c2 c3.ah∧Fr 74 [(11,.pointer (some ⟨d6,0,none⟩)),(10,.pointer (some ⟨c8,0,none⟩)),(2,.int .i64 x2),(6,.pointer (some ⟨c4,0,none⟩)),(7,.int .i64 0),(8,.pointer (some ⟨g5,0,none⟩))] a∧au w (pt d6 (bp.enc (bp.mk (bu.mk c5 c6) SV.nil p0)) 36::ak 0 c5 5 c3.cq::ak 0 c6 23 c2::(a_ c2 c3.ah)::pt c8 (bf.enc (ox d5 l3 l4 l5)) 54::pt g5 (af.enc (gB c0 k6 k7 d0 d1 d2 d3 c9 k8)) 203::pt c4 (bp.enc (FB)) 36::ak 0 l3 5 d5.cq::ak 0 l4 23 i6::(a_ i6 d5.ah)::ak 0 l5 3 d5.a7::ak 0 k6 5 c0.ae.cq::ak 0 k7 23 i5::(a_ i5 c0.ae.ah)::ak 0 k8 3 c0.a7::ak 0 d0 5 c0.ae.data::ak 0 d1 205 c0.ae.sizes::ak 0 d2 101 c0.code::ak 0 d3 3 c0.dq::.obj c9 (oU c0.da)::Lr)) (fun Lt I Lp G H=>?_) ?_
 ·refine dT H [0,1,2,3,4,5,6,7,8,9,10,11,12,13,14,15,16,17] 18 fun K=>?_
  refine eL [0,1,3] fun a G=>?_
  refine fM K 2 8 ada E E ?_ ?_
  ·refine cA G 2 E E E E E fun w ep H=>?_
   obtain⟨c40,n4,I⟩:=ade I
   have n1:=eF n4 H (fun _ h=>h) (fun w H=>(H.rowS (X:=UInt8) (i:=1) rfl))
   refine dl Tryz.call73 n1 ?_
   rintro v w ⟨l6,rfl,H⟩
   refine ds [0,1,2,3,4,5,6,7,8,9,10,11,12,13,14,15,16,17,18] 19 fun a G=>?_
   refine fM K 4 8 ada E E ?_ ?_
   ·refine cA G 4 E E E E E fun w ep H=>?_
    obtain⟨z1,i9,I⟩:=ade I
    have i3:=fI i9 H (fun _ h=>h) (fun w H=>(H.rowS (X:=UInt8) (i:=2) rfl)) (fun w H=>(H.rowS (X:=SV) (i:=3) rfl)) (l1.mono fun _ _ q=>q.mono fun w H=>H.hold 4 _ rfl) (fun w H=>(H.rowS (X:=Int) (i:=5) rfl))
    refine dl Tryz.call74 i3 ?_
    rintro v w ⟨u8,k9,i7,u9,rfl,k4,H⟩
    refine ds [0,1,2,3,4,5,6,7,8,9,10,11,12,13,14,15,16,17,18,19,20,21,22] 23 fun a G=>?_
    refine aK G K 5 E ada E E E (fun w H=>(wL C4 E Tryz.isAgg28 G E E (bf.g_tables _))) fun a G=>?_
    refine aK G K 6 E ada E E E (fun w H=>(aW z30 Bv Bl G (parts:=[(0,.tmp 30),(1,.tmp 33)]) E E (aP E E (by rw[bu.len];decide) (bu.ig _ _) (aP E E (by rw[bu.len];decide) (bu.eh _ _) bD)))) fun a G=>?_
    refine aK G K 7 E ada E E E (fun w H=>(aW z36 Bz Bm G (parts:=[(0,.tmp 34)]) E E (fC E (bu.len _) (by rw[bu.len,bp.len];decide) (bp.p_in_ _ _) bD))) fun a G=>?_
    refine dx 8 fun w ep H=>?_
    refine(bK z36 (zs:=bp.zero.enc) E E fun g1 w n5 g2=>?_)
    have H:=H.plus g2
    try dsimp only[List.set]at H
    refine ds [0,1,2,3,4,5,6,7,8,9,10,11,12,13,14,15,16,17,18,19,20,21,22,23] 24 fun a G=>?_
    refine kn 9 fun w ep H=>?_
    refine(aU (vs:=_) Tryz.sizeOf36 (H.obj (i:=0) E) G E E E E (bp.len _) (bp.one _) (by first|(rw[bp.len,bp.len];decide)|(rw[bp.len];decide)) (bF ((bp.len _).trans (bp.len _).symm)) fun w n0=>?_)
    have H:=H.chg n0 (i:=0) rfl
    try dsimp only[List.set]at H
    refine dh ?_
    refine de fun w H=>?_
    refine aB ?_
    exact jr I ⟨g1,l6,k9,i7,k4,G.t,bS H [0,5,2,3,6,11,21,7,8,9,10,12,13,14,15,16,17,18,19,20] 24 E⟩
   refine cA G 8 E E E E E fun w ep H=>?_
   refine(bK z36 (zs:=bp.zero.enc) E E fun g1 w n5 g2=>?_)
   have H:=H.plus g2
   try dsimp only[List.set]at H
   refine ds [0,1,2,3,4,5,6,7,8,9,10,11,12,13,14,15,16,17,18,19] 20 fun a G=>?_
   refine dx 4 fun w ep H=>?_
   obtain⟨z1,i9,I⟩:=ade I
   have i3:=fI i9 H (fun _ h=>h) (fun w H=>(H.rowS (X:=UInt8) (i:=3) rfl)) (fun w H=>(H.rowS (X:=SV) (i:=4) rfl)) (l1.mono fun _ _ q=>q.mono fun w H=>H.hold 5 _ rfl) (fun w H=>(H.rowS (X:=Int) (i:=6) rfl))
   refine dl Tryz.call74 i3 ?_
   rintro v w ⟨u8,k9,i7,u9,rfl,k4,H⟩
   refine ds [0,1,2,3,4,5,6,7,8,9,10,11,12,13,14,15,16,17,18,19,20,21,22,23] 24 fun a G=>?_
   refine aK G K 5 E ada E E E (fun w H=>(wL C4 E Tryz.isAgg28 G E E (bf.g_tables _))) fun a G=>?_
   refine aK G K 6 E ada E E E (fun w H=>(aW z30 Bv Bl G (parts:=[(0,.tmp 30),(1,.tmp 33)]) E E (aP E E (by rw[bu.len];decide) (bu.ig _ _) (aP E E (by rw[bu.len];decide) (bu.eh _ _) bD)))) fun a G=>?_
   refine aK G K 7 E ada E E E (fun w H=>(aW z36 Bz Bm G (parts:=[(0,.tmp 34)]) E E (fC E (bu.len _) (by rw[bu.len,bp.len];decide) (bp.p_in_ _ _) bD))) fun a G=>?_
   refine kn 9 fun w ep H=>?_
   refine(aU (vs:=_) Tryz.sizeOf36 (H.obj (i:=4) E) G E E E E (bp.len _) (bp.one _) (by first|(rw[bp.len,bp.len];decide)|(rw[bp.len];decide)) (bF ((bp.len _).trans (bp.len _).symm)) fun w n0=>?_)
   have H:=H.chg n0 (i:=4) rfl
   try dsimp only[List.set]at H
   refine dh ?_
   refine de fun w H=>?_
   refine aB ?_
   exact jr I ⟨g1,l6,k9,i7,k4,G.t,bS H [4,5,1,2,6,11,21,7,8,9,10,12,13,14,15,16,17,18,19,20] 24 E⟩
  refine cA G 8 E E E E E fun w ep H=>?_
  refine(bK z36 (zs:=bp.zero.enc) E E fun g1 w n5 g2=>?_)
  have H:=H.plus g2
  try dsimp only[List.set]at H
  refine ds [0,1,2,3,4,5,6,7,8,9,10,11,12,13,14,15,16,17,18] 19 fun a G=>?_
  refine dx 2 fun w ep H=>?_
  obtain⟨c40,n4,I⟩:=ade I
  have n1:=eF n4 H (fun _ h=>h) (fun w H=>(H.rowS (X:=UInt8) (i:=2) rfl))
  refine dl Tryz.call73 n1 ?_
  rintro v w ⟨l6,rfl,H⟩
  refine ds [0,1,2,3,4,5,6,7,8,9,10,11,12,13,14,15,16,17,18,19] 20 fun a G=>?_
  refine dx 4 fun w ep H=>?_
  obtain⟨z1,i9,I⟩:=ade I
  have i3:=fI i9 H (fun _ h=>h) (fun w H=>(H.rowS (X:=UInt8) (i:=3) rfl)) (fun w H=>(H.rowS (X:=SV) (i:=4) rfl)) (l1.mono fun _ _ q=>q.mono fun w H=>H.hold 5 _ rfl) (fun w H=>(H.rowS (X:=Int) (i:=6) rfl))
  refine dl Tryz.call74 i3 ?_
  rintro v w ⟨u8,k9,i7,u9,rfl,k4,H⟩
  refine ds [0,1,2,3,4,5,6,7,8,9,10,11,12,13,14,15,16,17,18,19,20,21,22,23] 24 fun a G=>?_
  refine aK G K 5 E ada E E E (fun w H=>(wL C4 E Tryz.isAgg28 G E E (bf.g_tables _))) fun a G=>?_
  refine aK G K 6 E ada E E E (fun w H=>(aW z30 Bv Bl G (parts:=[(0,.tmp 30),(1,.tmp 33)]) E E (aP E E (by rw[bu.len];decide) (bu.ig _ _) (aP E E (by rw[bu.len];decide) (bu.eh _ _) bD)))) fun a G=>?_
  refine aK G K 7 E ada E E E (fun w H=>(aW z36 Bz Bm G (parts:=[(0,.tmp 34)]) E E (fC E (bu.len _) (by rw[bu.len,bp.len];decide) (bp.p_in_ _ _) bD))) fun a G=>?_
  refine eL [9] fun a G=>?_
  refine de fun w H=>?_
  refine aB ?_
  exact jr I ⟨g1,l6,k9,i7,k4,G.t,bS H [5,4,1,2,6,11,21,7,8,9,10,12,13,14,15,16,17,18,19,20] 24 E⟩
 rintro⟨c3,p0⟩ a w I ⟨d6,c5,c6,c2,t5,G,H⟩
 replace I:Sh.uC x2 c0 d5 c3 p0=_:=I
 unfold Sh.uC at I
 refine go 2 fun a w G H=>?_
 refine aM G H I (fun F x a w=>match x with|(c7,p1,p2,p3,m7,j4,p4,m8,p5,p6,p7)=>∃ (l7:SV) (l8:SV) (g3:List SV) (l9:SV) (j0:SV) (i8:List bw) (k5:di) (m0:SV) (m1:SV) (g4:List SV) (m2:SV),cn (dj (X:=UInt8) (a_ g3 c7.ah).holds') g3 c7.ah∧cn (ki k5.holds') i8 p1∧cn (dj (X:=UInt8) (a_ g4 j4).holds') g4 j4∧Fr 74 [(10,.pointer (some ⟨c8,0,none⟩)),(11,.pointer (some ⟨d6,0,none⟩)),(6,.pointer (some ⟨c4,0,none⟩)),(7,.int .i64 0)] a∧au w (pt c8 (bf.enc (ox c7 l7 l8 l9)) 54::ak 0 l7 5 c7.cq::ak 0 l8 23 g3::(a_ g3 c7.ah)::ak 0 l9 3 c7.a7::pt d6 (bp.enc (bp.mk (bu.mk c5 c6) j0 p2)) 36::ak 0 j0 60 i8::k5::pt g5 (af.enc (af.mk (bq.mk p3 m0 m1 d0 d1) d2 d3 (some c9) p4 m2 p5 p6 p7)) 203::ak 0 m0 5 m7::ak 0 m1 23 g4::(a_ g4 j4)::ak 0 m2 3 m8::pt c4 (bp.enc (FB)) 36::ak 0 c5 5 c3.cq::ak 0 c6 23 c2::(a_ c2 c3.ah)::ak 0 d0 5 c0.ae.data::ak 0 d1 205 c0.ae.sizes::ak 0 d2 101 c0.code::ak 0 d3 3 c0.dq::.obj c9 (oU c0.da)::Lr)) (fun Lu I Gf G H=>?_) ?_
 ·refine go 6 fun a w G H=>?_
  obtain⟨u3,H⟩:=vK H
  have c31:cn (ki u3.holds') ([]:List bw) ([]:List dw):=cn.nil
  have H:=H.rowNil (X:=bw) 0 60
  refine aY G H I (fun F x a w=>match x with|(c1,l0,i2,j5,j6,g9,j7,j8,j9,k0,k1,m9)=>∃ (g6:SV) (g7:SV) (d4:List SV) (g8:SV) (d9:SV) (d7:List bw) (i1:di) (j1:SV) (j2:SV) (d8:List SV) (j3:SV),cn (dj (X:=UInt8) (a_ d4 c1.ah).holds') d4 c1.ah∧cn (ki i1.holds') d7 l0∧cn (dj (X:=UInt8) (a_ d8 g9).holds') d8 g9∧Fr 74 [(12,.int .i64 m9),(10,.pointer (some ⟨c8,0,none⟩)),(11,.pointer (some ⟨d6,0,none⟩)),(2,.int .i64 x2),(6,.pointer (some ⟨c4,0,none⟩)),(7,.int .i64 0),(8,.pointer (some ⟨g5,0,none⟩))] a∧au w (pt c8 (bf.enc (ox c1 g6 g7 g8)) 54::ak 0 g6 5 c1.cq::ak 0 g7 23 d4::(a_ d4 c1.ah)::ak 0 g8 3 c1.a7::pt d6 (bp.enc (bp.mk (bu.mk c5 c6) d9 i2)) 36::ak 0 d9 60 d7::i1::pt g5 (af.enc (af.mk (bq.mk j5 j1 j2 d0 d1) d2 d3 (some c9) j7 j3 j9 k0 k1)) 203::ak 0 j1 5 j6::ak 0 j2 23 d8::(a_ d8 g9)::ak 0 j3 3 j8::pt c4 (bp.enc (FB)) 36::ak 0 c5 5 c3.cq::ak 0 c6 23 c2::(a_ c2 c3.ah)::ak 0 d0 5 c0.ae.data::ak 0 d1 205 c0.ae.sizes::ak 0 d2 101 c0.code::ak 0 d3 3 c0.dq::.obj c9 (oU c0.da)::Lr)) (fun G H=>⟨l3,l4,i6,l5,SV.nil,[],u3,k6,k7,i5,k8,l1,c31,t4,G.to ⟨E,E,E,E,E,E,E,trivial⟩,fU H [6,9,10,11,12,2,0,1,7,13,14,15,16,8,3,4,5,17,18,19,20,21] 22⟩) ?_
  rintro⟨c1,l0,i2,j5,j6,g9,j7,j8,j9,k0,k1,m9⟩ a w Ly I t3 ⟨g6,g7,d4,g8,d9,d7,i1,j1,j2,d8,j3,t6,l2,t7,G,H⟩
  replace I:Sh.uE x2 c0 c3 c1 l0 i2 j5 j6 g9 j7 j8 j9 k0 k1 m9=_:=I
  unfold Sh.uE at I
  refine go 2 fun a w G H=>?_
  refine jm (pt c8 (bf.enc (ox c1 g6 g7 g8)) 54::pt d6 (bp.enc (bp.mk (bu.mk c5 c6) d9 i2)) 36::pt g5 (af.enc (af.mk (bq.mk j5 j1 j2 d0 d1) d2 d3 (some c9) j7 j3 j9 k0 k1)) 203::pt c4 (bp.enc (FB)) 36::ak 0 g6 5 c1.cq::ak 0 g7 23 d4::(a_ d4 c1.ah)::ak 0 g8 3 c1.a7::ak 0 d9 60 d7::i1::ak 0 j1 5 j6::ak 0 j2 23 d8::(a_ d8 g9)::ak 0 j3 3 j8::ak 0 c5 5 c3.cq::ak 0 c6 23 c2::(a_ c2 c3.ah)::ak 0 d0 5 c0.ae.data::ak 0 d1 205 c0.ae.sizes::ak 0 d2 101 c0.code::ak 0 d3 3 c0.dq::.obj c9 (oU c0.da)::Lr) G H I [10,11,12,2,6,7,8] (fun p8 u=>(44,.bool p8)::u) (fun c59 I c46 G H=>?_) fun p8 a w I G H=>?_
  ·refine go 3 fun a w G H=>?_
   refine aA G (Qw G E E E) E E E fun a G=>?_
   refine go 2 fun a w G H=>?_
   refine gs I (fun z5 I=>?_) fun z5 I=>?_
   ·refine go 6 fun a w G H=>?_
    exact jr I ⟨G.t,bS H [0,5,8,13,1,2,3,4,6,7,9,10,11,12,14,15,16,17,18,19,20,21] 22 E⟩
   refine go 6 fun a w G H=>?_
   exact jr I ⟨G.t,bS H [0,5,8,13,1,2,3,4,6,7,9,10,11,12,14,15,16,17,18,19,20,21] 22 E⟩
  replace I:Sh.zC c0 c3 c1 l0 i2 j5 j6 g9 j7 j8 j9 k0 k1 m9 p8=_:=I
  unfold Sh.zC at I
  refine aB ?_
  refine cc I (fun z6 I=>?_) fun z6 I=>?_
  ·refine go 8 fun a w G H=>?_
   obtain⟨i0,Du,I⟩:=ade I
   have c10:=fB Du (bS H [2,10,11,12,13,0,1,3,4,5,6,7,8,9,14,15,16,17,18,19,20,21] 22 rfl) (fun _ h=>h) t7 (fun w H=>(H.rowS (X:=UInt8) (i:=12) rfl)) (fun w H=>(H.rowS (X:=gP) (i:=13) rfl)) (fun w H=>(H.rowS (X:=bg) (i:=14) rfl)) (fun w H=>(H.rowS (X:=Int) (i:=15) rfl)) (fun w H=>H.hold 16 _ rfl)
   refine cl Tryz.call66 c10 ?_
   rintro v w ⟨n7,n8,n3,n9,rfl,t8,H⟩ a G
   replace H:au _ (pt g5 (af.enc (gB i0.2 n7 n8 d0 d1 d2 d3 c9 n9)) 203::ak 0 n7 5 i0.2.ae.cq::ak 0 n8 23 n3::(a_ n3 i0.2.ae.ah)::ak 0 n9 3 i0.2.a7::pt c8 (bf.enc (ox c1 g6 g7 g8)) 54::pt d6 (bp.enc (bp.mk (bu.mk c5 c6) d9 i2)) 36::pt c4 (bp.enc (FB)) 36::ak 0 g6 5 c1.cq::ak 0 g7 23 d4::(a_ d4 c1.ah)::ak 0 g8 3 c1.a7::ak 0 d9 60 d7::i1::ak 0 c5 5 c3.cq::ak 0 c6 23 c2::(a_ c2 c3.ah)::ak 0 d0 5 c0.ae.data::ak 0 d1 205 c0.ae.sizes::ak 0 d2 101 c0.code::ak 0 d3 3 c0.dq::.obj c9 (oU c0.da)::Lr):=H
   refine go 11 fun a w G H=>?_
   refine cc I (fun z7 I=>?_) fun z7 I=>?_
   ·refine go 8 fun a w G H=>?_
    obtain rfl:=oI I
    have I:=t3 _ rfl
    subst I
    have I:=bA Gf
    subst I
    refine er C2 G H ?_
    exact⟨c5,c6,c2,d9,d7,i1,E,t5,l2,bS H [14,15,16,12,13] 22 E⟩
   refine go 5 fun a w G H=>?_
   obtain⟨Ks,Dv,I⟩:=ade I
   have c11:=eV Dv H (fun _ h=>h) t8 (fun w H=>(H.rowS (X:=UInt8) (i:=12) rfl)) (fun w H=>(H.rowS (X:=gP) (i:=13) rfl)) (fun w H=>(H.rowS (X:=bg) (i:=14) rfl)) (fun w H=>(H.rowS (X:=Int) (i:=15) rfl)) (fun w H=>H.hold 16 _ rfl)
   refine cl Tryz.call67 c11 ?_
   rintro v w ⟨c34,Gh,Dt,Gi,rfl,t9,H⟩ a G
   refine go 8 fun Lj a w G H=>?_
   obtain⟨g0,c24,I⟩:=ade I
   have c12:=jP c24 H (fun _ h=>h) (fun w H=>(H.rowS (X:=UInt8) (i:=13) rfl)) (fun w H=>(H.rowS (X:=SV) (i:=14) rfl)) (t6.mono fun _ _ q=>q.mono fun w H=>H.hold 15 _ rfl) (fun w H=>(H.rowS (X:=Int) (i:=16) rfl)) (fun w H=>(H.rowS (X:=UInt8) (i:=1) rfl)) (fun w H=>(H.rowS (X:=SV) (i:=2) rfl)) (t9.mono fun _ _ q=>q.mono fun w H=>H.hold 3 _ rfl) (fun w H=>(H.rowS (X:=Int) (i:=4) rfl))
   refine cl Tryz.call31 c12 ?_
   rintro v w ⟨m3,m4,m5,c20,Ko,m6,rfl,c32,H⟩ a G
   refine go 13 fun Ll a w G H=>?_
   refine aN G E E E (bO (X:=bw) (y:=(yN g0.1 m3 m4 m5 m6)) Tryz.underlying33 E2 E E E E G E E E fun Lm w Ln t2=>?_)
   have H:=H.plus t2
   try dsimp only[List.set]at H
   intro a G
   obtain⟨HT,t1,I⟩:=ade I
   refine aN G E E E (fS (X:=bw) t1 l2.len E Tryz.underlying33 E2 E E E E G E E E (H.own (X:=bw) (i:=24) E) (H.ptS (X:=bw) (i:=0) (n:=1) (c:=1) E E E (aal _)) fun c37 w z4=>?_)
   have H:=H.chg z4 (i:=24) rfl
   try dsimp only[List.set]at H
   obtain⟨c51,BW,Cm,H⟩:=o7 (fU H [25,2,0,1,3,4,5,6,7,8,9,10,11,12,13,14,15,16,17,18,19,20,21,22,23,24,26,27,28,29,30,31,32,33] 34)
   try dsimp only[List.set]at H
   obtain⟨Kq,p9,CB,H⟩:=o7 (fU H [0,3,1,2,4,5,6,7,8,9,10,11,12,13,14,15,16,17,18,19,20,21,22,23,24,25,26,27,28,29,30,31,32] 33)
   try dsimp only[List.set]at H
   obtain⟨c53,n2,c16,H⟩:=o7 (fU H [0,3,1,2,4,5,6,7,8,9,10,11,12,13,14,15,16,17,18,19,20,21,22,23,24,25,26,27,28,29,30,31] 32)
   try dsimp only[List.set]at H
   obtain⟨Kr,k2,Dp,H⟩:=o7 (fU H [0,3,1,2,4,5,6,7,8,9,10,11,12,13,14,15,16,17,18,19,20,21,22,23,24,25,26,27,28,29,30] 31)
   try dsimp only[List.set]at H
   obtain⟨u4,i4,Dq,H⟩:=o7 (fU H [0,3,1,2,4,5,6,7,8,9,10,11,12,13,14,15,16,17,18,19,20,21,22,23,24,25,26,27,28,29] 30)
   try dsimp only[List.set]at H
   have HQ:cn (ki u4.holds') (d7 ++ [(yN g0.1 m3 m4 m5 m6)]) HT:=by rw[(cZ t1).2];exact(l2.mono fun _ _ q=>q.mono (fun w h=>(fun w h=>(fun w h=>(fun w h=>BW w (p9 w h)) w (n2 w h)) w (k2 w h)) w (i4 w h))).snoc ⟨m3,m4,m5,c20,m6,rfl,(fun w h=>cX (X:=dM) (e:=128) ((fun w h=>(fun w h=>(fun w h=>(fun w h=>Cm w (p9 w h)) w (n2 w h)) w (k2 w h)) w (i4 w h)) w h)),(fun w h=>cX (X:=d_) (e:=151) ((fun w h=>(fun w h=>(fun w h=>CB w (n2 w h)) w (k2 w h)) w (i4 w h)) w h)),(fun w h=>cX (X:=bk) (e:=156) ((fun w h=>(fun w h=>c16 w (k2 w h)) w (i4 w h)) w h)),(c32.mono fun _ _ q=>q.mono (fun w h=>Dp w (i4 w h))),(fun w h=>cX (X:=Int) (e:=3) (Dq w h))⟩
   try dsimp only[List.set]at H
   intro a G
   refine go 16 fun a w G H=>?_
   exact jr I ⟨c34,Gh,Dt,Gi,c37,(d7 ++ [(yN g0.1 m3 m4 m5 m6)]),u4,n7,n8,n3,n9,t9,HQ,t8,G.t,bS H [13,4,5,6,7,14,20,0,8,9,10,11,12,15,21,22,23,24,25,26,27,28] 29 E⟩
  refine go 5 fun a w G H=>?_
  obtain rfl:=oI I
  have I:=t3 _ rfl
  subst I
  exact⟨(c1,l0,i2,j5,j6,g9,j7,j8,j9,k0,k1),E,g6,g7,d4,g8,d9,d7,i1,j1,j2,d8,j3,t6,l2,t7,G.to ⟨E,E,E,E,trivial⟩,bS H [0,4,5,6,7,1,8,9,2,10,11,12,13,3,14,15,16,17,18,19,20,21] 22 E⟩
 rintro⟨c7,p1,p2,p3,m7,j4,p4,m8,p5,p6,p7⟩ a w I ⟨l7,l8,g3,l9,j0,i8,k5,m0,m1,g4,m2,J_,HO,c49,G,H⟩
 replace I:Sh.uD c3 c7 p1 p2 p3 m7 j4 p4 m8 p5 p6 p7=_:=I
 unfold Sh.uD at I
 refine go 2 fun a w G H=>?_
 refine aM G H I (fun F x a w=>match x with|z0=>Fr 74 [(11,.pointer (some ⟨d6,0,none⟩)),(6,.pointer (some ⟨c4,0,none⟩)),(7,.int .i64 0)] a∧au w (pt d6 (bp.enc (bp.mk (bu.mk c5 c6) j0 z0)) 36::pt c4 (bp.enc (FB)) 36::ak 0 l7 5 c7.cq::ak 0 l8 23 g3::(a_ g3 c7.ah)::ak 0 l9 3 c7.a7::ak 0 j0 60 i8::k5::ak 0 m0 5 m7::ak 0 m1 23 g4::(a_ g4 j4)::ak 0 m2 3 m8::ak 0 c5 5 c3.cq::ak 0 c6 23 c2::(a_ c2 c3.ah)::ak 0 d0 5 c0.ae.data::ak 0 d1 205 c0.ae.sizes::ak 0 d2 101 c0.code::ak 0 d3 3 c0.dq::.obj c9 (oU c0.da)::Lr)) (fun Lx I J9 G H=>?_) ?_
 ·refine go 7 fun a w G H=>?_
  refine cc I (fun z8 I=>?_) fun z8 I=>?_
  ·refine go 5 fun a w G H=>?_
   exact jr I ⟨G.t,bS H [5,13,1,2,3,4,6,7,9,10,11,12,14,15,16,17,18,19,20,21] 22 E⟩
  refine bL (aB ?_)
  exact jr I ⟨G.t,bS H [5,13,1,2,3,4,6,7,9,10,11,12,14,15,16,17,18,19,20,21] 22 E⟩
 rintro z0 a w I ⟨G,H⟩
 unfold Sh.aIy at I
 refine go 9 fun a w G H=>?_
 obtain rfl:=oI I
 refine er C2 G H ?_
 exact⟨c5,c6,c2,j0,i8,k5,E,t5,HO,bS H [12,13,14,6,7] 20 E⟩
end Go.Proofs
end
section
namespace Go.Proofs
open Go.Fw Go.Fx
set_option maxRecDepth 10000
theorem pV{x0:gy}{x1 x2 x3 x4:Int}{s1 s3:SV}{cu:List SV}{s7:SV}{QY:List bw}{out:Int}{w0:World}{Bf:World→Prop}{Lr:List di}(I:Sh.lB x0 x1 x2 x3 x4=some out)(H:au w0 (Lr))(S:∀ w,au w Lr→Bf w)(f2:dj Bf s1 x0.qb.cq)(f5:dj Bf s3 cu)(q6:cn (dj (X:=UInt8) Bf) cu x0.qb.ah)(f9:dj Bf s7 QY)(RF:cn (ki Bf) QY x0.dW):Calls Tryz.prog 36 #[.agg (bp.enc (Gt x0 s1 s3 s7)).toArray,.int .i64 x1,.int .i64 x2,.int .i64 x3,.int .i64 x4] w0 (fZ fun v w'=>v = .int .i64 out∧au w' (Lr)):=by
 unfold Sh.lB at I
 refine ce Tryz.func36 Tryz.ntmps36 fun a G=>?_
 refine go 7 fun d4 a w G H=>?_
 refine jm (Lr) G H I [10] (fun _ u=>u) (fun d9 I c5 G H=>?_) fun _ a w I G H=>?_
 ·refine go 3 fun a w G H=>?_
  refine aA G (Qv G E E E) E E E fun a G=>?_
  refine go 3 fun a w G H=>?_
  refine aA G (Qw G E E E) E E E fun a G=>?_
  refine go 5 fun a w G H=>?_
  refine ln G H I [10,2,3,4,5] (fun c4 u=>(11,.int .i64 c4)::u) fun c4 a w g0 I c0 G H=>?_
  unfold Sh.tY at I
  refine go 7 fun a w G H=>?_
  refine cc I (fun c6 I=>?_) fun c6 I=>?_
  ·refine go 9 fun a w G H=>?_
   obtain⟨g5,c1,I⟩:=ade I
   have c2:=aL c1
   obtain⟨d8,d6,c3⟩:=cn.getr RF c2.2
   have d5:=cn.bd RF (aZ c1)
   obtain⟨g1,g2,g3,d7,g4,rfl,c9,d0,d1,d3,d2⟩:=c3
   refine go 5 fun a w G H=>?_
   obtain⟨g6,c8,I⟩:=ade I
   refine cl Tryz.call91 (yP c8 H (Bf:=Bf) (tb S) c9 d0 d1 d3 d2) ?_
   rintro v w ⟨rfl,H⟩ a G
   refine aJ (aB ?_)
   refine cc I (fun c7 I=>?_) fun c7 I=>?_
   ·refine go 7 fun a w G H=>?_
    obtain rfl:=oI I
    have I:=c0 _ rfl
    subst I
    have I:=bA c5
    subst I
    refine aT Tryz.results36 G E ?_
    exact⟨E,bS H [] 1 E⟩
   exact lf
  refine go 5 fun a w G H=>?_
  obtain rfl:=oI I
  have I:=c0 _ rfl
  subst I
  exact⟨(),E,G.to ⟨E,trivial⟩,bS H [] 1 E⟩
 replace I:Sh.yZ=_:=I
 unfold Sh.yZ at I
 exact lf
end Go.Proofs
end
section
namespace Go.Proofs
open Go.Fw Go.Fx
set_option maxRecDepth 10000
theorem wP{x0 x1:Int}{x2:List UInt8}{x3:List gP}{s1 s3:SV}{out:Int}{w0:World}{Bf:World→Prop}{Lr:List di}(I:Sh.yB x0 x1 x2 x3=some out)(H:au w0 (Lr))(S:∀ w,au w Lr→Bf w)(f2:dj Bf s1 x2)(f4:dj Bf s3 x3):Calls Tryz.prog 128 #[.int .i64 x0,.int .i64 x1,(s1).v,(s3).v] w0 (fZ fun v w'=>v = .int .i64 out∧au w' (Lr)):=by
 unfold Sh.yB at I
 refine ce Tryz.func128 Tryz.ntmps128 fun a G=>?_
 refine go 7 fun a w G H=>?_
 refine jn G H I [2,3,8] (fun c0 u=>(21,.bool c0)::u) (fun d3 I d0 G H=>?_) fun c0 a w I G H=>?_
 ·exact lf
 replace I:Sh.rN x2 x3 c0=_:=I
 unfold Sh.rN at I
 refine aB ?_
 refine cc I (fun c5 I=>?_) fun c5 I=>?_
 ·exact lf
 refine go 10 fun a w G H=>?_
 refine cc I (fun c6 I=>?_) fun c6 I=>?_
 ·exact lf
 refine go 3 fun a w G H=>?_
 refine jn G H I [2,8] (fun _ u=>u) (fun d4 I c4 G H=>?_) fun _ a w I G H=>?_
 ·refine go 6 fun a w G H=>?_
  refine ln G H I [2,3,8] (fun c1 u=>(9,.int .i64 c1)::u) fun c1 a w d6 I c3 G H=>?_
  unfold Sh.aHz at I
  refine go 9 fun a w G H=>?_
  refine cc I (fun c7 I=>?_) fun c7 I=>?_
  ·obtain⟨d7,d2,I⟩:=ade I
   refine go 15 fun c9 a w G H=>?_
   refine jm (Lr) G H I [2,3,8,9] (fun c2 u=>(52,.bool c2)::u) (fun d5 I d1 G H=>?_) fun c2 a w I G H=>?_
   ·exact lf
   replace I:Sh.FI c1 c2=_:=I
   unfold Sh.FI at I
   refine aB ?_
   refine cc I (fun c8 I=>?_) fun c8 I=>?_
   ·refine go 6 fun a w G H=>?_
    obtain rfl:=oI I
    have I:=c3 _ rfl
    subst I
    have I:=bA c4
    subst I
    refine aT Tryz.results128 G E ?_
    exact⟨E,H⟩
   exact lf
  refine go 5 fun a w G H=>?_
  obtain rfl:=oI I
  have I:=c3 _ rfl
  subst I
  exact⟨(),E,G.to ⟨E,E,trivial⟩,H⟩
 replace I:Sh.aC3 x2=_:=I
 unfold Sh.aC3 at I
 exact lf
theorem vF{x0:List bg}{x1:Int}{s1:SV}{out:Int}{w0:World}{Bf:World→Prop}{Lr:List di}(I:Sh.wF x0 x1=some out)(H:au w0 (Lr))(S:∀ w,au w Lr→Bf w)(f2:dj Bf s1 x0):Calls Tryz.prog 130 #[(s1).v,.int .i64 x1] w0 (fZ fun v w'=>v = .int .i64 out∧au w' (Lr)):=by
 unfold Sh.wF at I
 refine ce Tryz.func130 Tryz.ntmps130 fun a G=>?_
 refine go 6 fun a w G H=>?_
 refine jn G H I [4] (fun _ u=>u) (fun d1 I c6 G H=>?_) fun _ a w I G H=>?_
 ·refine go 6 fun a w G H=>?_
  refine ln G H I [0,1,4] (fun c1 u=>(5,.int .i64 c1)::u) fun c1 a w d3 I c3 G H=>?_
  unfold Sh.pT at I
  refine go 9 fun a w G H=>?_
  refine cc I (fun c7 I=>?_) fun c7 I=>?_
  ·refine go 5 fun a w G H=>?_
   refine jn G H I [0,1,4,5] (fun c2 u=>(26,.bool c2)::u) (fun d2 I c9 G H=>?_) fun c2 a w I G H=>?_
   ·obtain⟨d4,d0,I⟩:=ade I
    refine go 8 fun a w G H=>?_
    refine cE 18 G E (fun c0=>?_) (fun c0=>?_)
    ·have I:=Fx.cT c0 I
     refine aO G E E E c0 (aE G E E) E E fun a G=>?_
     refine aO G E E E c0 (aE G E E) E E fun a G=>?_
     obtain⟨d5,c4,I⟩:=ade I
     have c5:=aL c4
     refine aO G E E E c0 (bC (sz:=8) (f2 _ (S _ (fc H 0))) wz r6 E G E E E (aZ c4)) E E fun a G=>?_
     refine aO G E E E c0 (aC (fo:=7) yd E jO E G E E E) E E fun a G=>?_
     refine aO G E E E c0 (aG r_ G E E ((((f2 _ (S _ (fc H 0))).elemS c5.2)).get 7 (bg.g_imm _))) E E fun a G=>?_
     refine aO G E E E c0 (aE G E E) E E fun a G=>?_
     refine aO G E E E c0 (iV G E E E) E E fun a G=>?_
     refine aA G (bR G E E c0 E) E E E fun a G=>?_
     refine aJ (aB ?_)
     exact jr I ⟨G.t,H⟩
    have I:=Fx.cF c0 I
    refine aF G E E E c0 E E fun a G=>?_
    refine aF G E E E c0 E E fun a G=>?_
    refine aF G E E E c0 E E fun a G=>?_
    refine aF G E E E c0 E E fun a G=>?_
    refine aF G E E E c0 E E fun a G=>?_
    refine aF G E E E c0 E E fun a G=>?_
    refine aF G E E E c0 E E fun a G=>?_
    refine aA G (bU G E E c0 E) E E E fun a G=>?_
    refine aJ (aB ?_)
    exact jr I ⟨G.t,H⟩
   replace I:Sh.vH c1 c2=_:=I
   unfold Sh.vH at I
   refine aB ?_
   refine cc I (fun c8 I=>?_) fun c8 I=>?_
   ·refine go 7 fun a w G H=>?_
    obtain rfl:=oI I
    have I:=c3 _ rfl
    subst I
    have I:=bA c6
    subst I
    refine aT Tryz.results130 G E ?_
    exact⟨E,H⟩
   exact lf
  refine go 5 fun a w G H=>?_
  obtain rfl:=oI I
  have I:=c3 _ rfl
  subst I
  exact⟨(),E,G.to ⟨E,trivial⟩,H⟩
 replace I:Sh.GU=_:=I
 unfold Sh.GU at I
 exact lf
theorem wO{x0:fg}{s1 s3 s5:SV}{out:(Int×Int)}{w0:World}{Bf:World→Prop}{Lr:List di}(I:Sh.uM x0=some out)(H:au w0 (Lr))(S:∀ w,au w Lr→Bf w)(f2:dj Bf s1 x0.data)(f4:dj Bf s3 x0.ah)(f6:dj Bf s5 x0.code):Calls Tryz.prog 54 #[.agg (bj.enc (bj.mk x0.lo x0.hi s1 s3 s5)).toArray] w0 (fZ fun v w'=>v = .tuple #[.int .i64 out.1,.int .i64 out.2]∧au w' (Lr)):=by
 unfold Sh.uM at I
 refine ce Tryz.func54 Tryz.ntmps54 fun a G=>?_
 refine go 17 fun c0 a w G H=>?_
 obtain⟨OB,Nu,I⟩:=ade I
 have MF:=wP Nu H (Bf:=Bf) (tb S) f2 f4
 refine cl Tryz.call128 MF ?_
 rintro v w ⟨rfl,H⟩ a G
 refine go 10 fun a w G H=>?_
 refine cc I (fun LR I=>?_) fun LR I=>?_
 ·refine go 8 fun a w G H=>?_
  obtain rfl:=oI I
  refine er Br G H ?_
  exact⟨E,bS H [] 1 E⟩
 refine go 6 fun a w G H=>?_
 obtain⟨KO,Nw,I⟩:=ade I
 have MH:=wM Nw H (Bf:=Bf) (tb S) f6
 refine cl Tryz.call129 MH ?_
 rintro v w ⟨rfl,H⟩ a G
 refine go 14 fun a w G H=>?_
 refine cc I (fun LV I=>?_) fun LV I=>?_
 ·refine go 9 fun a w G H=>?_
  obtain rfl:=oI I
  refine er Br G H ?_
  exact⟨E,bS H [] 1 E⟩
 refine go 11 fun a w G H=>?_
 refine cc I (fun LW I=>?_) fun LW I=>?_
 ·refine go 7 fun a w G H=>?_
  obtain rfl:=oI I
  refine er Br G H ?_
  exact⟨E,bS H [] 1 E⟩
 refine go 9 fun a w G H=>?_
 obtain⟨Gx,EX,I⟩:=ade I
 have EH:=vF EX H (Bf:=Bf) (tb S) f6
 refine cl Tryz.call130 EH ?_
 rintro v w ⟨rfl,H⟩ a G
 refine go 10 fun a w G H=>?_
 refine cc I (fun EE I=>?_) fun EE I=>?_
 ·refine go 8 fun a w G H=>?_
  obtain rfl:=oI I
  refine er Br G H ?_
  exact⟨E,bS H [] 1 E⟩
 refine go 9 fun a w G H=>?_
 obtain rfl:=oI I
 refine er Br G H ?_
 exact⟨E,bS H [] 1 E⟩
end Go.Proofs
end
