/- Ground for the claim TraceFaith. -/
import Derived.Conc.MuLone
import Derived.Tactics
import Derived.Tactics2
import Derived.Defers
import Derived.Laws.Pointers
import Derived.Laws.LoneSync
import Derived.RegionTactic
import Derived.RegionCalls
import Derived.ChangeAlike
import Derived.KernelRfl
import Derived.Test.YtmgnkohlfbjjnaaGreatRProg
import Derived.Test.YtmgnkohlfbjjnaaGreatRFa11
set_option linter.unusedVariables false
set_option linter.unusedSimpArgs false
set_option maxHeartbeats 4000000
open Sum
section
namespace Go.Proofs
open Go Go.MuLone
abbrev Dz:Go.Conc.Locks.MuLink:={ lock:=355,unlock:=356,ilock:=358,iunlock:=359,lockSlow:=366,unlockSlow:=369,disable:=362,enable:=364,acquire:=365,relMerge:=367,cas32:=363,add32:=368,tMutex:=332,tIMutex:=330,tPMutex:=370,tPIMutex:=373,tPI32:=375,tUP:=377,tNoCopy:=325,tU32:=307 }
theorem Bm:Go.Conc.Locks.MuLib Tryz.prog Dz:=⟨Tryz.func355,Tryz.func356,Tryz.func358,Tryz.func359,Tryz.func362,Tryz.func364,Tryz.func365,Tryz.func367,Tryz.func363,Tryz.func368,Tryz.underlying330,Tryz.runUnderlying330,Tryz.sizeOf330,Tryz.isAgg330,Tryz.zeroValue330,Tryz.underlying332,Tryz.runUnderlying332,Tryz.sizeOf332,Tryz.isAgg332,Tryz.zeroValue332,Tryz.underlying370,Tryz.runUnderlying370,Tryz.sizeOf370,Tryz.isAgg370,Tryz.zeroValue370,Tryz.underlying373,Tryz.runUnderlying373,Tryz.sizeOf373,Tryz.isAgg373,Tryz.zeroValue373,Tryz.underlying375,Tryz.runUnderlying375,Tryz.sizeOf375,Tryz.isAgg375,Tryz.zeroValue375,Tryz.underlying377,Tryz.runUnderlying377,Tryz.sizeOf377,Tryz.isAgg377,Tryz.zeroValue377,Tryz.underlying325,Tryz.runUnderlying325,Tryz.sizeOf325,Tryz.isAgg325,Tryz.zeroValue325,Tryz.underlying21,Tryz.runUnderlying21,Tryz.sizeOf21,Tryz.isAgg21,Tryz.zeroValue21,by kernel_rfl⟩
theorem Ws(a:Addr)(x:Value)(u:FrameMode)(w:World)(hc:w.cell? a=some x)(hz:w.frozen? a=false) :
  CallsD Tryz.prog 357 #[.pointer (some a),.bool true] u w fun e u' w'=>u' = u∧(e = .returned (.tuple #[])∧w' = w.drew.setCell a (.int .u32 1)):=by
 have hc':w.drew.cell? a=some x:=by go_simp
 have yN:w.drew.frozen? a=false:=by go_simp
 have hst:=run_call_store (P:=Tryz.prog) Tryz.func360 ads ads ads ads (k:=.u32) (y:=1) hc' yN
 go_enter_d Tryz.func357,Tryz.ntmps357
 go_wp2
 go_region_calls
 all_goals (go_end0;exact⟨rfl,rfl⟩)
set_option maxRecDepth 100000 in
set_option maxHeartbeats 1600000 in
theorem Xc(p:Value)(b:Nat)(w:World)(R:World→Prop)(h0:w.cell? ⟨b,0,none⟩=some (.int .u32 0))(h1:w.cell? ⟨b,1,none⟩=some (.int .i32 0))(f1:w.frozen? ⟨b,1,none⟩=false)
  (qj:Calls Tryz.prog 339 #[p] (w.setCell ⟨b,1,none⟩ (.int .i32 1)) fun e w'=>e = .returned (.tuple #[])∧R w')
  (hR:∀ w',R w' → w'.cell? ⟨b,0,none⟩=some (.int .u32 0)∧w'.cell? ⟨b,1,none⟩=some (.int .i32 1)∧w'.frozen? ⟨b,0,none⟩=false∧w'.frozen? ⟨b,1,none⟩=false) :
  Calls Tryz.prog 352 #[.pointer (some ⟨b,0,none⟩),.func (.func 339) #[p] #[]] w fun e w'=>e = .returned (.tuple #[]) ∧
   ∃ w2,R w2∧w' = (w2.drew.setCell ⟨b,0,none⟩ (.int .u32 1)).setCell ⟨b,1,none⟩ (.int .i32 0):=by
 have hl:=run_call_load (P:=Tryz.prog) Tryz.func354 ads ads ads .u32 ads (w:=w.setCell ⟨b,1,none⟩ (.int .i32 1)) (a:=⟨b,0,none⟩) (x:=0) ((World.cell?_setCell_other _ ⟨b,1,none⟩ ⟨b,0,none⟩ _ (by simp)).trans h0)
 have Hm:∀ (x:Bool) (w:World),(Op.unary .not (.bool x)).run Tryz.prog w = .ok (.bool (!x)) w:=fun _ _=>rfl
 have hmf:∀ (fn:Fn) (first cap:Array Value) (w:World),(Instr.makeFunc fn first cap).run Tryz.prog w = .ok (.func fn first cap) w:=fun _ _ _ _=>rfl
 go_enter_defers Tryz.func352,Tryz.ntmps352
 go_wp2_with (first|(go_at_call 355;refine(lock_free Bm ⟨b,1,none⟩ _ (by go_simp) (by go_simp)).mono ?_;rintro e w' ⟨rfl,rfl⟩)|(go_at_call 339;refine qj.mono ?_;rintro e w2 ⟨rfl,hw2⟩)|(go_at_call 351;go_in))
 obtain⟨g0,g1,z0,z1⟩:=hR w2 hw2
 first|go_wp2|skip
 refine leaves_cons (f:=357) (args:=#[.pointer (some ⟨b,0,none⟩),.bool true]) (by simp) (by simp[go_sem]) ?_
 refine(Ws ⟨b,0,none⟩ (.int .u32 0) .returning _ g0 z0).mono ?_
 rintro e u' Nj ⟨rfl,rfl,rfl⟩
 refine leaves_cons (f:=356) (args:=#[.pointer (some ⟨b,1,none⟩)]) (by simp[settle]) (by simp[go_sem]) ?_
 refine(unlock_deferred Bm ⟨b,1,none⟩ _ _ ?_ (by simp[z1])).mono ?_
 ·refine(World.cell?_setCell_other _ ⟨b,0,none⟩ ⟨b,1,none⟩ _ (by simp)).trans ?_
  rw[World.cell?_drew]
  exact g1
 rintro e u' Nj ⟨rfl,rfl,rfl⟩
 simp[Leaves,settle,results,Tryz.results352]
 exact⟨w2,hw2,rfl⟩
set_option maxRecDepth 100000 in
set_option maxHeartbeats 1600000 in
theorem YT(p:Value)(b:Nat)(w:World)(R:World→Prop)(h0:w.cell? ⟨b,0,none⟩=some (.int .u32 0))(h1:w.cell? ⟨b,1,none⟩=some (.int .i32 0))(f1:w.frozen? ⟨b,1,none⟩=false)
  (qj:Calls Tryz.prog 339 #[p] (w.setCell ⟨b,1,none⟩ (.int .i32 1)) fun e w'=>e = .returned (.tuple #[])∧R w')
  (hR:∀ w',R w' → w'.cell? ⟨b,0,none⟩=some (.int .u32 0)∧w'.cell? ⟨b,1,none⟩=some (.int .i32 1)∧w'.frozen? ⟨b,0,none⟩=false∧w'.frozen? ⟨b,1,none⟩=false) :
  Calls Tryz.prog 338 #[.pointer (some ⟨b,0,none⟩),.func (.func 339) #[p] #[]] w fun e w'=>e = .returned (.tuple #[]) ∧
   ∃ w2,R w2∧w' = (w2.drew.setCell ⟨b,0,none⟩ (.int .u32 1)).setCell ⟨b,1,none⟩ (.int .i32 0):=by
 have hl:=run_call_load (P:=Tryz.prog) Tryz.func354 ads ads ads .u32 ads h0
 have Hm:∀ (x:Bool) (w:World),(Op.unary .not (.bool x)).run Tryz.prog w = .ok (.bool (!x)) w:=fun _ _=>rfl
 go_enter Tryz.func338,Tryz.ntmps338
 go_wp2_with (first|(go_at_call 352;refine(Xc p b _ R h0 h1 f1 qj hR).mono ?_;rintro e w' ⟨rfl,w2,hw2,rfl⟩)|(go_at_call 351;go_in))
 go_end0
 exact⟨rfl,w2,hw2,rfl⟩
end Go.Proofs
end
section
namespace Go.Proofs
open Go.Fw Go.Fx
set_option maxRecDepth 10000
def ju:List (Int×Value):=[(1,.iface 358 (.agg (fg.enc (fg.mk (0) (65535))).toArray)),(2,.iface 360 (.agg (fM.enc (fM.mk (2))).toArray)),(3,.iface 360 (.agg (fM.enc (fM.mk (1))).toArray)),(4,.iface 361 (.agg #[])),(5,.iface 358 (.agg (fg.enc (fg.mk (-1) (65534))).toArray)),(6,.iface 363 (.agg (dc.enc (dc.mk (1) (dm.mk (-1) 0 false false))).toArray)),(7,.iface 363 (.agg (dc.enc (dc.mk (2) (dm.mk 0 0 false false))).toArray)),(8,.iface 363 (.agg (dc.enc (dc.mk (2) (dm.mk 0 0 true true))).toArray))]
theorem Ry(w:World):(zeroValue 361).run Tryz.prog w = .ok (.agg ([]:List Value).toArray) w:=(Tryz.zeroValue361 w).trans ads
theorem MA:∀ w,(xj Tryz.prog 361).run Tryz.prog w = .ok #[] w:=fun w=>by kernel_rfl
theorem N4{w:World}{b i:Nat}{cs:List Value}{T:TypeId}{v:Value}(hb:w.heap[b]? = some (.cells cs.toArray T (0,0))):oc (pt b cs T) (pt b (cs.set i v) T) w (w.setCell ⟨b,i,none⟩ v):=by
 have e:w.setCell ⟨b,i,none⟩ v=w.setRow b (cs.set i v).toArray:=by
  unfold World.setCell World.setRow
  congr 1
  apply Array.ext_getElem?
  intro k
  rw[abh,abh]
  by_cases h:b=k
  ·subst h
   rw[aaJ rfl,aaJ rfl,hb]
   simp
  ·rw[aaK h,aaK h]
 rw[e];exact oc.setRow hb
theorem xS{w:World}{b i:Nat}{cs:List Value}{T:TypeId}(hb:w.heap[b]? = some (.cells cs.toArray T (0,0))):w.frozen? ⟨b,i,none⟩=false:=by
 simp[World.frozen?,hb]
theorem kS{P:Program}{n:Nat}{F:List (Nat×Value)}{a:Act}{dd:List Deferred}{w:World}{o:Oper}{J:Value→World→Prop}{t kt et b:Nat}{q:IntKind}{l l':List (Int×Value)}{m k x:Operand}{c:Int}{v:Value}(he:kz l c v=l')(hm:P.underlying t=some (.map kt et))(hk:P.underlying kt=some (.int q))(hF:Fr n F a dd)(ho:o.op = .insert t m k x)
  (h1:ev F m=some (.map (some b))) (h2:ev F k=some (.int q c)) (h3:ev F x=some v) (hb:(dw.obj b (jZ q l)).holds w)
  (next:∀ w',oc (.obj b (jZ q l)) (.obj b (jZ q l')) w w' → J undef w'):Yd P o a.eval w J:=by
 subst he;exact IC hm hk hF ho h1 h2 h3 hb next
set_option maxHeartbeats 8000000 in
theorem zP{b:Nat}{c0 c1 c2:Value}{w0:World}{Lr:List dw}(hM:au w0 (pt b [c0,c1,c2,.map none] 337::Lr)):Calls Tryz.prog 339 #[.pointer (some ⟨b,0,none⟩)] w0 (gf fun v w'=>v = .tuple #[] ∧ ∃ m:Nat,au w' (.obj m (jZ .i64 ju)::pt b [c0,c1,c2,.map (some m)] 337::Lr)):=by
 refine aV (vs:=[.pointer (some ⟨b,0,none⟩)]) Tryz.func339 rfl Tryz.ntmps339 rfl fun a hF=>?_
 refine aD ?_
 refine aA hF (aE hF rfl rfl) rfl rfl rfl fun a hF=>?_
 refine aN hF rfl rfl rfl (yT (q:=.i64) rfl fun m w hz hA=>?_)
 have hM:=hM.plus hA
 intro a hF
 refine aA hF (aW Nr Tryz.underlying358 F8 hF (parts:=[(0,.const (.int .i64 (0))),(1,.const (.int .i64 (65535)))]) rfl rfl (aO rfl rfl (by rw[fg.len];decide) (fg.s_least _ _) (aO rfl rfl (by rw[fg.len];decide) (fg.s_most _ _) bD))) rfl rfl rfl fun a hF=>?_
 refine aA hF (hO ads hF rfl rfl) rfl rfl rfl fun a hF=>?_
 refine bC rfl rfl (kS (q:=.i64) (v:=.iface 358 (.agg (fg.enc (fg.mk (0) (65535))).toArray)) (l':=ju.take 1) rfl Tryz.underlying335 Tryz.underlying3 hF rfl rfl rfl rfl (hM.hold 0 _ rfl) fun w h=>?_)
 have hM:=hM.chg h (i:=0) rfl
 replace hM:au _ (.obj m (jZ .i64 (ju.take 1))::pt b [c0,c1,c2,.map none] 337::Lr):=hM
 refine aA hF (aW Ns Tryz.underlying360 F9 hF (parts:=[(0,.const (.int .i64 (2)))]) rfl rfl (aO rfl rfl (by rw[fM.len];decide) (fM.s_from_ _ _) bD)) rfl rfl rfl fun a hF=>?_
 refine aA hF (hO ads hF rfl rfl) rfl rfl rfl fun a hF=>?_
 refine bC rfl rfl (kS (q:=.i64) (v:=.iface 360 (.agg (fM.enc (fM.mk (2))).toArray)) (l':=ju.take 2) rfl Tryz.underlying335 Tryz.underlying3 hF rfl rfl rfl rfl (hM.hold 0 _ rfl) fun w h=>?_)
 have hM:=hM.chg h (i:=0) rfl
 replace hM:au _ (.obj m (jZ .i64 (ju.take 2))::pt b [c0,c1,c2,.map none] 337::Lr):=hM
 refine aA hF (aW Ns Tryz.underlying360 F9 hF (parts:=[(0,.const (.int .i64 (1)))]) rfl rfl (aO rfl rfl (by rw[fM.len];decide) (fM.s_from_ _ _) bD)) rfl rfl rfl fun a hF=>?_
 refine aA hF (hO ads hF rfl rfl) rfl rfl rfl fun a hF=>?_
 refine bC rfl rfl (kS (q:=.i64) (v:=.iface 360 (.agg (fM.enc (fM.mk (1))).toArray)) (l':=ju.take 3) rfl Tryz.underlying335 Tryz.underlying3 hF rfl rfl rfl rfl (hM.hold 0 _ rfl) fun w h=>?_)
 have hM:=hM.chg h (i:=0) rfl
 replace hM:au _ (.obj m (jZ .i64 (ju.take 3))::pt b [c0,c1,c2,.map none] 337::Lr):=hM
 refine aA hF (aW Ry Tryz.underlying361 MA hF (parts:=[]) rfl rfl bD) rfl rfl rfl fun a hF=>?_
 refine aA hF (hO ads hF rfl rfl) rfl rfl rfl fun a hF=>?_
 refine bC rfl rfl (kS (q:=.i64) (v:=.iface 361 (.agg #[])) (l':=ju.take 4) rfl Tryz.underlying335 Tryz.underlying3 hF rfl rfl rfl rfl (hM.hold 0 _ rfl) fun w h=>?_)
 have hM:=hM.chg h (i:=0) rfl
 replace hM:au _ (.obj m (jZ .i64 (ju.take 4))::pt b [c0,c1,c2,.map none] 337::Lr):=hM
 refine aA hF (aW Nr Tryz.underlying358 F8 hF (parts:=[(0,.const (.int .i64 (-1))),(1,.const (.int .i64 (65534)))]) rfl rfl (aO rfl rfl (by rw[fg.len];decide) (fg.s_least _ _) (aO rfl rfl (by rw[fg.len];decide) (fg.s_most _ _) bD))) rfl rfl rfl fun a hF=>?_
 refine aA hF (hO ads hF rfl rfl) rfl rfl rfl fun a hF=>?_
 refine bC rfl rfl (kS (q:=.i64) (v:=.iface 358 (.agg (fg.enc (fg.mk (-1) (65534))).toArray)) (l':=ju.take 5) rfl Tryz.underlying335 Tryz.underlying3 hF rfl rfl rfl rfl (hM.hold 0 _ rfl) fun w h=>?_)
 have hM:=hM.chg h (i:=0) rfl
 replace hM:au _ (.obj m (jZ .i64 (ju.take 5))::pt b [c0,c1,c2,.map none] 337::Lr):=hM
 refine aA hF (aW Ah Tryz.underlying278 xt hF (parts:=[(0,.const (.int .i64 (-1)))]) rfl rfl (aO rfl rfl (by rw[dm.len];decide) (dm.s_lo _ _) bD)) rfl rfl rfl fun a hF=>?_
 refine aA hF (aW H3 Tryz.underlying363 DK hF (parts:=[(0,.const (.int .i64 (1))),(1,.tmp 14)]) rfl rfl (aO rfl rfl (by rw[dc.len];decide) (dc.s_many _ _) (fB rfl (dm.len _) (by rw[dm.len,dc.len];decide) (dc.p_span _ _) bD))) rfl rfl rfl fun a hF=>?_
 refine aA hF (hO ads hF rfl rfl) rfl rfl rfl fun a hF=>?_
 refine bC rfl rfl (kS (q:=.i64) (v:=.iface 363 (.agg (dc.enc (dc.mk (1) (dm.mk (-1) 0 false false))).toArray)) (l':=ju.take 6) rfl Tryz.underlying335 Tryz.underlying3 hF rfl rfl rfl rfl (hM.hold 0 _ rfl) fun w h=>?_)
 have hM:=hM.chg h (i:=0) rfl
 replace hM:au _ (.obj m (jZ .i64 (ju.take 6))::pt b [c0,c1,c2,.map none] 337::Lr):=hM
 refine aA hF (aW Ah Tryz.underlying278 xt hF (parts:=[]) rfl rfl bD) rfl rfl rfl fun a hF=>?_
 refine aA hF (aW H3 Tryz.underlying363 DK hF (parts:=[(0,.const (.int .i64 (2))),(1,.tmp 17)]) rfl rfl (aO rfl rfl (by rw[dc.len];decide) (dc.s_many _ _) (fB rfl (dm.len _) (by rw[dm.len,dc.len];decide) (dc.p_span _ _) bD))) rfl rfl rfl fun a hF=>?_
 refine aA hF (hO ads hF rfl rfl) rfl rfl rfl fun a hF=>?_
 refine bC rfl rfl (kS (q:=.i64) (v:=.iface 363 (.agg (dc.enc (dc.mk (2) (dm.mk 0 0 false false))).toArray)) (l':=ju.take 7) rfl Tryz.underlying335 Tryz.underlying3 hF rfl rfl rfl rfl (hM.hold 0 _ rfl) fun w h=>?_)
 have hM:=hM.chg h (i:=0) rfl
 replace hM:au _ (.obj m (jZ .i64 (ju.take 7))::pt b [c0,c1,c2,.map none] 337::Lr):=hM
 refine aA hF (aW Ah Tryz.underlying278 xt hF (parts:=[(2,.const (.bool true)),(3,.const (.bool true))]) rfl rfl (aO rfl rfl (by rw[dm.len];decide) (dm.s_noLo _ _) (aO rfl rfl (by rw[dm.len];decide) (dm.s_noHi _ _) bD))) rfl rfl rfl fun a hF=>?_
 refine aA hF (aW H3 Tryz.underlying363 DK hF (parts:=[(0,.const (.int .i64 (2))),(1,.tmp 20)]) rfl rfl (aO rfl rfl (by rw[dc.len];decide) (dc.s_many _ _) (fB rfl (dm.len _) (by rw[dm.len,dc.len];decide) (dc.p_span _ _) bD))) rfl rfl rfl fun a hF=>?_
 refine aA hF (hO ads hF rfl rfl) rfl rfl rfl fun a hF=>?_
 refine bC rfl rfl (kS (q:=.i64) (v:=.iface 363 (.agg (dc.enc (dc.mk (2) (dm.mk 0 0 true true))).toArray)) (l':=ju.take 8) rfl Tryz.underlying335 Tryz.underlying3 hF rfl rfl rfl rfl (hM.hold 0 _ rfl) fun w h=>?_)
 have hM:=hM.chg h (i:=0) rfl
 replace hM:au _ (.obj m (jZ .i64 (ju.take 8))::pt b [c0,c1,c2,.map none] 337::Lr):=hM
 refine aA hF (aE hF rfl rfl) rfl rfl rfl fun a hF=>?_
 refine aA hF (aZ hF rfl rfl) rfl rfl rfl fun a hF=>?_
 refine aA hF (aC (off':=3) Tryz.underlying337 rfl FY rfl hF rfl rfl rfl) rfl rfl rfl fun a hF=>?_
 refine bC rfl rfl (bN Tryz.sizeOf335 (hM.obj (i:=1) rfl) hF rfl rfl rfl rfl (by simp) rfl fun w h=>?_)
 have hM:=hM.chg h (i:=1) rfl
 refine aJ ?_
 refine eT Tryz.results339 hF ?_
 exact⟨rfl,m,hM⟩
set_option maxHeartbeats 8000000 in
theorem Vv{b:Nat}{x0:Int}{w0:World}{Lr:List dw}(hM:au w0 (pt b [.int .u32 0,.int .i32 0,.int .u32 0,.map none] 337::Lr)):Calls Tryz.prog 300 #[.pointer (some ⟨b,0,none⟩),.int .i64 x0] w0 (gf fun v w'=>v = .tuple #[(jy ju x0).getD .nilIface,.bool (jy ju x0).isSome] ∧ ∃ m:Nat,au w' (.obj m (jZ .i64 ju)::pt b [.int .u32 1,.int .i32 0,.int .u32 0,.map (some m)] 337::Lr)):=by
 refine aV (vs:=[.pointer (some ⟨b,0,none⟩),.int .i64 x0]) Tryz.func300 rfl Tryz.ntmps300 rfl fun a hF=>?_
 refine aH ?_
 refine aD ?_
 refine aA hF (aI hF rfl rfl) rfl rfl rfl fun a hF=>?_
 refine aA hF (aI hF rfl rfl) rfl rfl rfl fun a hF=>?_
 refine aJ (aB ?_)
 refine aH ?_
 refine aD ?_
 refine aA hF (aE hF rfl rfl) rfl rfl rfl fun a hF=>?_
 refine aA hF (aZ hF rfl rfl) rfl rfl rfl fun a hF=>?_
 refine aA hF (aC (off':=0) Tryz.underlying337 rfl LR rfl hF rfl rfl rfl) rfl rfl rfl fun a hF=>?_
 refine aA hF (aE hF rfl rfl) rfl rfl rfl fun a hF=>?_
 refine aA hF (jH hF (fs:=[.tmp 11]) (cs:=[]) rfl rfl rfl) rfl rfl rfl fun a hF=>?_
 have hdo:=YT (.pointer (some ⟨b,0,none⟩)) b w0 (fun w2=>∃ m:Nat,au w2 (.obj m (jZ .i64 ju)::pt b [.int .u32 0,.int .i32 1,.int .u32 0,.map (some m)] 337::Lr)) (hM.cell (i:=0) (off:=0) rfl rfl) (hM.cell (i:=0) (off:=1) rfl rfl) (xS (hM.obj (i:=0) rfl))
  (Calls.mono (zP (hM.chg (N4 (i:=1) (v:=.int .i32 1) (hM.obj (i:=0) rfl)) (i:=0) rfl)) fun e w' h=>by
   cases e<;>first|exact⟨by rw[h.1],h.2⟩|exact h.elim)
  (fun w2 ⟨m,h2⟩=>⟨h2.cell (i:=1) (off:=0) rfl rfl,h2.cell (i:=1) (off:=1) rfl rfl,xS (h2.obj (i:=1) rfl),xS (h2.obj (i:=1) rfl)⟩)
 have hd2:Calls Tryz.prog 338 #[.pointer (some ⟨b,0,none⟩),.func (.func 339) #[.pointer (some ⟨b,0,none⟩)] #[]] w0 (gf fun v w'=>v = .tuple #[] ∧ ∃ m:Nat,au w' (.obj m (jZ .i64 ju)::pt b [.int .u32 1,.int .i32 0,.int .u32 0,.map (some m)] 337::Lr)):=Calls.mono hdo fun e w' h=>by
  obtain⟨rfl,w2,⟨m,h2⟩,rfl⟩:=h
  have h3:=h2.drew
  have h4:=h3.chg (N4 (i:=0) (v:=.int .u32 1) (h3.obj (i:=1) rfl)) (i:=1) rfl
  have h5:=h4.chg (N4 (i:=1) (v:=.int .i32 0) (h4.obj (i:=1) rfl)) (i:=1) rfl
  exact⟨rfl,m,h5⟩
 refine aN hF rfl rfl rfl (aS (xs:=[.tmp 10,.tmp 12]) Tryz.call338 hF rfl rfl hd2 fun v w hR=>?_)
 obtain⟨rfl,m,hM⟩:=hR
 intro a hF
 refine aJ (aB ?_)
 refine aH ?_
 refine aD ?_
 refine aA hF (aE hF rfl rfl) rfl rfl rfl fun a hF=>?_
 refine aA hF (aZ hF rfl rfl) rfl rfl rfl fun a hF=>?_
 refine aA hF (aC (off':=3) Tryz.underlying337 rfl FY rfl hF rfl rfl rfl) rfl rfl rfl fun a hF=>?_
 refine aA hF (aG Tryz.isAgg335 hF rfl rfl (hM.cell (i:=1) (off:=3) rfl rfl)) rfl rfl rfl fun a hF=>?_
 refine aA hF (aE hF rfl rfl) rfl rfl rfl fun a hF=>?_
 refine aA hF (tT (q:=.i64) Tryz.underlying335 Tryz.underlying3 Tryz.zeroValue321 hF rfl rfl rfl (hM.hold 0 _ rfl)) rfl rfl rfl fun a hF=>?_
 refine aA hF (aE hF rfl rfl) rfl rfl rfl fun a hF=>?_
 refine aA hF (iO hF rfl rfl rfl) rfl rfl rfl fun a hF=>?_
 refine aA hF (iO hF rfl rfl rfl) rfl rfl rfl fun a hF=>?_
 refine aA hF (aI hF rfl rfl) rfl rfl rfl fun a hF=>?_
 refine aA hF (aI hF rfl rfl) rfl rfl rfl fun a hF=>?_
 refine aJ (aB ?_)
 refine aH ?_
 refine aD ?_
 refine aA hF (aE hF rfl rfl) rfl rfl rfl fun a hF=>?_
 refine aA hF (aE hF rfl rfl) rfl rfl rfl fun a hF=>?_
 refine aA hF (aI hF rfl rfl) rfl rfl rfl fun a hF=>?_
 refine aA hF (aI hF rfl rfl) rfl rfl rfl fun a hF=>?_
 refine aJ (aB ?_)
 refine p_ ?_
 refine fF (rs:=[.tmp 4,.tmp 5]) Tryz.results300 hF (dS hF rfl (dS hF rfl dF)) rfl ?_
 exact⟨rfl,m,hM⟩
theorem sB{w0:World}{Lr:List dw}(hM:au w0 (Lr)):Calls Tryz.prog 397 #[.agg #[]] w0 (gf fun v w'=>∃ (s1:SV),v=(s1).v∧au w' (ai 0 s1 3 ([2,2,4,0,0]:List Int)::Lr)):=by
 refine aV (vs:=[.agg #[]]) Tryz.func397 rfl Tryz.ntmps397 rfl fun a hF=>?_
 refine aH ?_
 refine aD ?_
 refine aN hF rfl rfl rfl (gN (zs:=[]) hF rfl rfl rfl fun b1 w hz hA=>?_)
 have hM:=hM.plus hA
 intro a hF
 refine aA hF (aI hF rfl rfl) rfl rfl rfl fun a hF=>?_
 refine aJ (aB ?_)
 refine aH ?_
 refine aD ?_
 refine aN hF rfl rfl rfl (eZ (X:=Int) (ys:=[2,2,4,0,0]) (m:=5) Tryz.underlying52 kP rfl rfl rfl rfl (by decide) (by decide) hF rfl rfl (iF.cons rfl (iF.cons rfl (iF.cons rfl (iF.cons rfl (iF.cons rfl iF.nil))))) fun b2 w hz hA=>?_)
 have hM:=hM.plus hA
 replace hM:au _ (pt b2 (encs ([2,2,4,0,0]:List Int)) 3::pt b1 [] 361::Lr):=hM
 intro a hF
 refine aA hF (aI hF rfl rfl) rfl rfl rfl fun a hF=>?_
 refine aJ (aB ?_)
 refine p_ ?_
 have hM:=hM.ptRow (lo:=0) (i:=0) (n:=5) (c:=5) rfl rfl (aaF _) rfl rfl (by decide)
 refine aT Tryz.results397 hF rfl ?_
 exact⟨⟨some ⟨b2,0,none⟩,5,5⟩,rfl,bU hM [0] 2 rfl⟩
theorem uJ{w0:World}{Lr:List dw}(hM:au w0 (Lr)):Calls Tryz.prog 398 #[.agg #[]] w0 (gf fun v w'=>v = .agg (dm.enc (dm.mk (-1) 1 false false)).toArray∧au w' (Lr)):=by
 refine aV (vs:=[.agg #[]]) Tryz.func398 rfl Tryz.ntmps398 rfl fun a hF=>?_
 refine aH ?_
 refine aD ?_
 refine aN hF rfl rfl rfl (gN (zs:=[]) hF rfl rfl rfl fun b1 w hz hA=>?_)
 have hM:=hM.plus hA
 intro a hF
 refine aN hF rfl rfl rfl (bI Ah (zs:=dm.zero.enc) rfl rfl fun b2 w hz hA=>?_)
 have hM:=hM.plus hA
 intro a hF
 refine aJ (aB ?_)
 refine aH ?_
 refine aD ?_
 refine aA hF (aW Ah Tryz.underlying278 xt hF (parts:=[(0,.const (.int .i64 (-1))),(1,.const (.int .i64 (1)))]) rfl rfl (aO rfl rfl (by rw[dm.len];decide) (dm.s_lo _ _) (aO rfl rfl (by rw[dm.len];decide) (dm.s_hi _ _) bD))) rfl rfl rfl fun a hF=>?_
 refine bC rfl rfl (aU (vs:=_) Tryz.sizeOf278 (hM.obj (i:=0) rfl) hF rfl rfl rfl rfl (dm.len _) (dm.one _) (by first|(rw[dm.len,dm.len];decide)|(rw[dm.len];decide)) (bF ((dm.len _).trans (dm.len _).symm)) fun w C6=>?_)
 have hM:=hM.chg C6 (i:=0) rfl
 replace hM:au _ (pt b2 (dm.enc (dm.mk (-1) 1 false false)) 278::pt b1 [] 361::Lr):=hM
 refine aJ (aB ?_)
 refine p_ ?_
 refine fF (rs:=[.cell 2 278]) Tryz.results398 hF (cY hF rfl Tryz.isAgg278 Tryz.sizeOf278 (dm.len _) (hM.cells (i:=0) rfl (cD (dm.len _))) dF) rfl ?_
 exact⟨rfl,bU hM [] 2 rfl⟩
theorem Tq{τ γ:Type}{t:Option (τ⊕γ)}{o:τ⊕γ}{k:τ→Option γ}{u:Option γ}(h:t=some o)(h':Fx.fin k o=u):Fx.seq t k=u:=by rw[h];exact h'
theorem Xl{s:dm}:Sh.jH ⟨1,s⟩=some [1,0,0,0,0]:=by
 have h:Fx.mk 8 (0:Int) 5=some [0,0,0,0,0]:=by decide
 unfold Sh.jH
 rw[h]
 exact Tq (nU.2 ⟨3,rfl⟩) rfl
theorem Sv{s:dm}:Sh.jH ⟨2,s⟩=some [1,1,0,0,0]:=by
 have h:Fx.mk 8 (0:Int) 5=some [0,0,0,0,0]:=by decide
 unfold Sh.jH
 rw[h]
 exact Tq (nU.2 ⟨4,rfl⟩) rfl
def Gk(v:Value)(l:List Int)(s:dm):Prop:=∃ (T fa fr:Nat) (x:Value),v = .iface T x∧(∀ w,(invoke (.fn (.method "warrant/help.args") #[]) #[.iface T x]).run Tryz.prog w = .ok (.enter fa #[x]) w)∧(∀ w,(invoke (.fn (.method "warrant/help.ret") #[]) #[.iface T x]).run Tryz.prog w = .ok (.enter fr #[x]) w) ∧
 (∀ w0 Lr,au w0 Lr→Calls Tryz.prog fa #[x] w0 (gf fun v w'=>∃ (s1:SV),v=(s1).v∧au w' (ai 0 s1 3 l::Lr)))∧(∀ w0 Lr,au w0 Lr→Calls Tryz.prog fr #[x] w0 (gf fun v w'=>v = .agg (dm.enc s).toArray∧au w' (Lr)))
theorem YM{x0:Int}{v:Value}{out:qx×Bool}(h:jy ju x0=some v)(hP:Sh.vW x0=some out):out.2=true∧Gk v out.1.args out.1.ret:=by
 rw[ju]at h
 unfold Sh.vW at hP
 rw[bX]at h
 by_cases h1:x0=1
 ·rw[aaJ h1]at h;cases h;cases adp (Fx.cT (abf h1) hP)
  exact⟨rfl,358,393,394,_,rfl,fun w=>by kernel_rfl,fun w=>by kernel_rfl,fun w0 Lr hM=>lL (by rfl) hM,fun w0 Lr hM=>mJ (by rfl) hM⟩
 rw[aaK h1]at h;replace hP:=Fx.cF (abg h1) hP;clear h1
 rw[bX]at h
 by_cases h1:x0=2
 ·rw[aaJ h1]at h;cases h;cases adp (Fx.cT (abf h1) hP)
  exact⟨rfl,360,395,396,_,rfl,fun w=>by kernel_rfl,fun w=>by kernel_rfl,fun w0 Lr hM=>kY (by rfl) hM,fun w0 Lr hM=>lM (by rfl) hM⟩
 rw[aaK h1]at h;replace hP:=Fx.cF (abg h1) hP;clear h1
 rw[bX]at h
 by_cases h1:x0=3
 ·rw[aaJ h1]at h;cases h;cases adp (Fx.cT (abf h1) hP)
  exact⟨rfl,360,395,396,_,rfl,fun w=>by kernel_rfl,fun w=>by kernel_rfl,fun w0 Lr hM=>kY (by rfl) hM,fun w0 Lr hM=>lM (by rfl) hM⟩
 rw[aaK h1]at h;replace hP:=Fx.cF (abg h1) hP;clear h1
 rw[bX]at h
 by_cases h1:x0=4
 ·rw[aaJ h1]at h;cases h;cases adp (Fx.cT (abf h1) hP)
  exact⟨rfl,361,397,398,_,rfl,fun w=>by kernel_rfl,fun w=>by kernel_rfl,fun w0 Lr hM=>sB hM,fun w0 Lr hM=>uJ hM⟩
 rw[aaK h1]at h;replace hP:=Fx.cF (abg h1) hP;clear h1
 rw[bX]at h
 by_cases h1:x0=5
 ·rw[aaJ h1]at h;cases h;cases adp (Fx.cT (abf h1) hP)
  exact⟨rfl,358,393,394,_,rfl,fun w=>by kernel_rfl,fun w=>by kernel_rfl,fun w0 Lr hM=>lL (by rfl) hM,fun w0 Lr hM=>mJ (by rfl) hM⟩
 rw[aaK h1]at h;replace hP:=Fx.cF (abg h1) hP;clear h1
 rw[bX]at h
 by_cases h1:x0=6
 ·rw[aaJ h1]at h;cases h;cases adp (Fx.cT (abf h1) hP)
  exact⟨rfl,363,399,400,_,rfl,fun w=>by kernel_rfl,fun w=>by kernel_rfl,fun w0 Lr hM=>gU (Xl) hM,fun w0 Lr hM=>iD (by rfl) hM⟩
 rw[aaK h1]at h;replace hP:=Fx.cF (abg h1) hP;clear h1
 rw[bX]at h
 by_cases h1:x0=7
 ·rw[aaJ h1]at h;cases h;cases adp (Fx.cT (abf h1) hP)
  exact⟨rfl,363,399,400,_,rfl,fun w=>by kernel_rfl,fun w=>by kernel_rfl,fun w0 Lr hM=>gU (Sv) hM,fun w0 Lr hM=>iD (by rfl) hM⟩
 rw[aaK h1]at h;replace hP:=Fx.cF (abg h1) hP;clear h1
 rw[bX]at h
 by_cases h1:x0=8
 ·rw[aaJ h1]at h;cases h;cases adp (Fx.cT (abf h1) hP)
  exact⟨rfl,363,399,400,_,rfl,fun w=>by kernel_rfl,fun w=>by kernel_rfl,fun w0 Lr hM=>gU (Sv) hM,fun w0 Lr hM=>iD (by rfl) hM⟩
 rw[aaK h1]at h;replace hP:=Fx.cF (abg h1) hP;clear h1
 cases h
theorem YL{x0:Int}{out:qx×Bool}(h:jy ju x0=none)(hP:Sh.vW x0=some out):out=(qx.mk [] dm.zero,false):=by
 rw[ju]at h
 unfold Sh.vW at hP
 rw[bX]at h
 by_cases h1:x0=1
 ·rw[aaJ h1]at h;cases h
 rw[aaK h1]at h;replace hP:=Fx.cF (abg h1) hP;clear h1
 rw[bX]at h
 by_cases h1:x0=2
 ·rw[aaJ h1]at h;cases h
 rw[aaK h1]at h;replace hP:=Fx.cF (abg h1) hP;clear h1
 rw[bX]at h
 by_cases h1:x0=3
 ·rw[aaJ h1]at h;cases h
 rw[aaK h1]at h;replace hP:=Fx.cF (abg h1) hP;clear h1
 rw[bX]at h
 by_cases h1:x0=4
 ·rw[aaJ h1]at h;cases h
 rw[aaK h1]at h;replace hP:=Fx.cF (abg h1) hP;clear h1
 rw[bX]at h
 by_cases h1:x0=5
 ·rw[aaJ h1]at h;cases h
 rw[aaK h1]at h;replace hP:=Fx.cF (abg h1) hP;clear h1
 rw[bX]at h
 by_cases h1:x0=6
 ·rw[aaJ h1]at h;cases h
 rw[aaK h1]at h;replace hP:=Fx.cF (abg h1) hP;clear h1
 rw[bX]at h
 by_cases h1:x0=7
 ·rw[aaJ h1]at h;cases h
 rw[aaK h1]at h;replace hP:=Fx.cF (abg h1) hP;clear h1
 rw[bX]at h
 by_cases h1:x0=8
 ·rw[aaJ h1]at h;cases h
 rw[aaK h1]at h;replace hP:=Fx.cF (abg h1) hP;clear h1
 exact(adp hP).symm
set_option maxHeartbeats 8000000 in
theorem Vt{x0:Int}{out:(qx×Bool)}{w0:World}{Lr:List dw}(hP:Sh.vW x0=some out)(hM:au w0 (Lr)):Calls Tryz.prog 251 #[.int .i64 x0] w0 (gf fun v w'=>∃ (s1:SV),v = .tuple #[.agg (gq.enc (gq.mk s1 out.1.ret)).toArray,.bool out.2]∧au w' (ai 0 s1 3 out.1.args::Lr)):=by
 refine aV (vs:=[.int .i64 x0]) Tryz.func251 rfl Tryz.ntmps251 rfl fun a hF=>?_
 refine aH ?_
 refine aD ?_
 refine aN hF rfl rfl rfl (bI Fv (zs:=gq.zero.enc) rfl rfl fun b2 w hz hA=>?_)
 have hM:=hM.plus hA
 intro a hF
 refine aA hF (aI hF rfl rfl) rfl rfl rfl fun a hF=>?_
 refine aJ (aB ?_)
 refine aH ?_
 refine aD ?_
 refine aN hF rfl rfl rfl (bI Tryz.zeroValue337 (zs:=[.int .u32 0,.int .i32 0,.int .u32 0,.map none]) rfl rfl fun b7 w hz hA=>?_)
 have hM:=hM.plus hA
 intro a hF
 refine aA hF (aE hF rfl rfl) rfl rfl rfl fun a hF=>?_
 refine aN hF rfl rfl rfl (aS (xs:=[.tmp 7,.tmp 8]) Tryz.call300 hF rfl rfl (Vv hM) fun v w hR=>?_)
 obtain⟨rfl,m,hM⟩:=hR
 intro a hF
 refine aA hF (aE hF rfl rfl) rfl rfl rfl fun a hF=>?_
 refine aA hF (iO hF rfl rfl rfl) rfl rfl rfl fun a hF=>?_
 refine aA hF (iO hF rfl rfl rfl) rfl rfl rfl fun a hF=>?_
 refine aA hF (aI hF rfl rfl) rfl rfl rfl fun a hF=>?_
 refine aA hF (aI hF rfl rfl) rfl rfl rfl fun a hF=>?_
 refine aJ (aB ?_)
 cases hg:jy ju x0 with
 | none =>
  rw[hg]at hF
  obtain rfl:=YL hg hP
  refine aH ?_
  refine aH ?_
  refine aD ?_
  refine aA hF (aE hF rfl rfl) rfl rfl rfl fun a hF=>?_
  refine aA hF (hY hF rfl rfl) rfl rfl rfl fun a hF=>?_
  refine aJ (aB ?_)
  refine zZ hF (c:=.tmp 13) rfl rfl ?_
  refine aH ?_
  refine aD ?_
  refine aA hF (aW Fv Tryz.underlying280 F5 hF (parts:=[]) rfl rfl bD) rfl rfl rfl fun a hF=>?_
  refine bC rfl rfl (aU (vs:=_) Tryz.sizeOf280 (hM.obj (i:=2) rfl) hF rfl rfl rfl rfl (gq.len _) (gq.one _) (by first|(rw[gq.len,gq.len];decide)|(rw[gq.len];decide)) (bF ((gq.len _).trans (gq.len _).symm)) fun w C6=>?_)
  have hM:=hM.chg C6 (i:=2) rfl
  refine aA hF (aI hF rfl rfl) rfl rfl rfl fun a hF=>?_
  refine aJ (aB ?_)
  refine p_ ?_
  refine fF (rs:=[.cell 2 280,.tmp 3]) Tryz.results251 hF (cY hF rfl Tryz.isAgg280 Tryz.sizeOf280 (gq.len _) (hM.cells (i:=2) (vs:=gq.enc gq.zero) rfl (cD (gq.len _))) (dS hF rfl dF)) rfl ?_
  have hM:=hM.rowNil (X:=Int) 0 3
  exact⟨SV.nil,rfl,bU hM [0] 4 rfl⟩
 | some v =>
  rw[hg]at hF
  obtain⟨ho,T,fa,fr,x,rfl,hia,hir,hca,hcr⟩:=YM hg hP
  refine aH ?_
  refine aH ?_
  refine aD ?_
  refine aA hF (aE hF rfl rfl) rfl rfl rfl fun a hF=>?_
  refine aA hF (hY hF rfl rfl) rfl rfl rfl fun a hF=>?_
  refine aJ (aB ?_)
  refine zY hF (c:=.tmp 13) rfl rfl ?_
  refine bM (aB ?_)
  refine aH ?_
  refine aD ?_
  refine aA hF (aE hF rfl rfl) rfl rfl rfl fun a hF=>?_
  refine aN hF rfl rfl rfl (IE hia hF rfl rfl (hca _ _ hM) fun v w hR=>?_)
  obtain⟨s1,rfl,hM⟩:=hR
  intro a hF
  refine aA hF (aE hF rfl rfl) rfl rfl rfl fun a hF=>?_
  refine aN hF rfl rfl rfl (IE hir hF rfl rfl (hcr _ _ hM) fun v w hR=>?_)
  obtain⟨rfl,hM⟩:=hR
  intro a hF
  refine aA hF (aW Fv Tryz.underlying280 F5 hF (parts:=[(0,.tmp 16),(1,.tmp 18)]) rfl rfl (aO rfl rfl (by rw[gq.len];decide) (gq.ui _ _) (fB rfl (dm.len _) (by rw[dm.len,gq.len];decide) (gq.p_ret _ _) bD))) rfl rfl rfl fun a hF=>?_
  refine bC rfl rfl (aU (vs:=_) Tryz.sizeOf280 (hM.obj (i:=3) rfl) hF rfl rfl rfl rfl (gq.len _) (gq.one _) (by first|(rw[gq.len,gq.len];decide)|(rw[gq.len];decide)) (bF ((gq.len _).trans (gq.len _).symm)) fun w C6=>?_)
  have hM:=hM.chg C6 (i:=3) rfl
  refine aA hF (aI hF rfl rfl) rfl rfl rfl fun a hF=>?_
  refine aJ (aB ?_)
  refine p_ ?_
  refine fF (rs:=[.cell 2 280,.tmp 3]) Tryz.results251 hF (cY hF rfl Tryz.isAgg280 Tryz.sizeOf280 (gq.len _) (hM.cells (i:=3) (vs:=gq.enc (gq.mk s1 out.1.ret)) rfl (cD (gq.len _))) (dS hF rfl dF)) rfl ?_
  rw[ho]
  exact⟨s1,rfl,bU hM [0] 4 rfl⟩
end Go.Proofs
end
section
namespace Go.Proofs
open Go.Fw Go.Fx
set_option maxRecDepth 10000
theorem Ya{w:World}{lo lo':Nat}{s t:SV}{l m:List UInt8}(h:cH lo w s l)(k:cH lo' w t m):(callFunc 340 [s.v,t.v].toArray).run Tryz.prog w = .ok (.value (.int .i64 (Lib.compareBytes l m))) w:=by
 rw[run_callFunc_extern Tryz.func340 ads ads ads (e:=Extern.BytealgCompare.compare) ads]
 show((Extern.BytealgCompare.compare #[s.v,t.v]).run Tryz.prog w).andThen _=_
 rw[VZ h k];rfl
theorem Yb{w:World}{lo:Nat}{s:SV}{l:List UInt8}{c:UInt8}(h:cH lo w s l):(callFunc 341 [s.v,.int .u8 (c.toNat:Int)].toArray).run Tryz.prog w = .ok (.value (.int .i64 (Lib.indexByte l c))) w:=by
 rw[run_callFunc_extern Tryz.func341 ads ads ads (e:=Extern.BytealgIndexByte.indexByte) ads]
 show((Extern.BytealgIndexByte.indexByte #[s.v,.int .u8 (c.toNat:Int)]).run Tryz.prog w).andThen _=_
 rw[Wy h];rfl
theorem uI{x0 x1:List UInt8}{s1 s3:SV}{out:Int}{w0:World}{Bf:World→Prop}{Lr:List dw}(I:Sh.GI x0 x1=some out)(H:au w0 (Lr))(S:∀ w,au w Lr→Bf w)(f2:cn Bf s1 x0)(f4:cn Bf s3 x1):Calls Tryz.prog 301 #[(s1).v,(s3).v] w0 (gf fun v w'=>v = .int .i64 out∧au w' (Lr)):=by
 unfold Sh.GI at I
 refine ce Tryz.func301 Tryz.ntmps301 fun a G=>?_
 refine go 9 fun a w G H=>?_
 refine aN G E E E (Tt (xs:=[.tmp 5,.tmp 6]) (Ya (f2 _ (S _ (dZ H 0))) (f4 _ (S _ (dZ H 0)))) G E E fun _=>?_)
 try dsimp only[List.set]at H
 intro a G
 exact lf
theorem rL{x0:List UInt8}{x1:UInt8}{s1:SV}{out:Int}{w0:World}{Bf:World→Prop}{Lr:List dw}(I:Sh.Gs x0 x1=some out)(H:au w0 (Lr))(S:∀ w,au w Lr→Bf w)(f2:cn Bf s1 x0):Calls Tryz.prog 302 #[(s1).v,.int .u8 (x1.toNat:Int)] w0 (gf fun v w'=>v = .int .i64 out∧au w' (Lr)):=by
 unfold Sh.Gs at I
 refine ce Tryz.func302 Tryz.ntmps302 fun a G=>?_
 refine go 9 fun a w G H=>?_
 refine aN G E E E (Tt (xs:=[.tmp 5,.tmp 6]) (Yb (c:=x1) (f2 _ (S _ (dZ H 0)))) G E E fun _=>?_)
 try dsimp only[List.set]at H
 intro a G
 exact lf
theorem zN{x0 x1:List UInt8}{s1 s3:SV}{out:Int}{w0:World}{Bf:World→Prop}{Lr:List dw}(I:Sh.JO x0 x1=some out)(H:au w0 (Lr))(S:∀ w,au w Lr→Bf w)(f2:cn Bf s1 x0)(f4:cn Bf s3 x1):Calls Tryz.prog 255 #[(s1).v,(s3).v] w0 (gf fun v w'=>v = .int .i64 out∧au w' (Lr)):=by
 unfold Sh.JO at I
 refine ce Tryz.func255 Tryz.ntmps255 fun a G=>?_
 refine go 9 fun a w G H=>?_
 obtain⟨y9,LC,I⟩:=adu I
 have Db:=uI LC H (Bf:=Bf) (tb S) f2 f4
 refine cl Tryz.call301 Db ?_
 rintro v w ⟨rfl,H⟩ a G
 exact lf
theorem zO{x0:List UInt8}{x1:Int}{s1:SV}{out:Int}{w0:World}{Bf:World→Prop}{Lr:List dw}(I:Sh.JQ x0 x1=some out)(H:au w0 (Lr))(S:∀ w,au w Lr→Bf w)(f2:cn Bf s1 x0):Calls Tryz.prog 256 #[(s1).v,.int .i64 x1] w0 (gf fun v w'=>v = .int .i64 out∧au w' (Lr)):=by
 unfold Sh.JQ at I
 refine ce Tryz.func256 Tryz.ntmps256 fun a G=>?_
 refine go 9 fun a w G H=>?_
 refine aA G (fL rj CJ G E E) E E E fun a G=>?_
 obtain⟨y7,LA,I⟩:=adu I
 have hc8:=rL LA H (Bf:=Bf) (tb S) f2
 refine cl Tryz.call302 hc8 ?_
 rintro v w ⟨rfl,H⟩ a G
 exact lf
theorem eU{x0:aj}{x1 x2:Int}{s1 s3:SV}{da:List SV}{s7 s9 e8 fe:SV}{fU:Nat}{dy:SV}{b0:Nat}{out:List UInt8}{w0:World}{Bf:World→Prop}{Lr:List dw}(I:Sh.dB x0 x1 x2=some out)(H:au w0 (pt b0 (af.enc (gx x0 s1 s3 s7 s9 e8 fe fU dy)) 203::ai 0 s1 5 x0.ae.b_::ai 0 s3 23 da::(a_ da x0.ae.ah)::ai 0 dy 3 x0.bf::Lr))(S:∀ w,au w Lr→Bf w)(q6:bw (cn (X:=UInt8) (a_ da x0.ae.ah).holds') da x0.ae.ah)(f8:cn Bf s7 x0.ae.data)(f10:cn Bf s9 x0.ae.sizes)(f12:cn Bf e8 x0.code)(f14:cn Bf fe x0.dq)(f16:jk Bf fU x0.cg):Calls Tryz.prog 254 #[.pointer (some ⟨b0,0,none⟩),.int .i64 x1,.int .i64 x2] w0 (gf fun v w'=>∃ (MH:SV),v=(MH).v∧au w' (ai 0 MH 5 out::pt b0 (af.enc (gx x0 s1 s3 s7 s9 e8 fe fU dy)) 203::ai 0 s1 5 x0.ae.b_::ai 0 s3 23 da::(a_ da x0.ae.ah)::ai 0 dy 3 x0.bf::Lr)):=by
 unfold Sh.dB at I
 refine ce Tryz.func254 Tryz.ntmps254 fun a G=>?_
 refine go 6 fun a w G H=>?_
 refine dT H [0,1,2,3,4] 5 fun K=>?_
 obtain⟨U9,aav,I⟩:=adu I
 refine fc [0,1,2,3,4,5,6,7,8,9,10,11,12] fun a G=>?_
 obtain⟨U_,P5,I⟩:=adu I
 refine fc [13,14] fun a G=>?_
 refine aK G K 15 E ads E E E (fun w H=>(aG vh G E E ((H.cells (i:=0) E (af.ci_regs _ _ _ (aL P5).2)).get 3 (ak.g_x _)))) fun a G=>?_
 refine fc [16] fun a G=>?_
 refine dx 17 fun w eX H=>?_
 obtain⟨Fq,HA,I⟩:=adu I
 have Hh:=lA HA H (Bf:=Bf) (tb S) q6 f8 f10 f12 f14 f16
 refine dl Tryz.call296 Hh ?_
 rintro v w ⟨QR,rfl,H⟩
 refine ds [0,1,2,3,4,5] 6 fun a G=>?_
 refine fc [18] fun a G=>?_
 refine de fun w H=>?_
 refine go 2 fun a w G H=>?_
 obtain rfl:=oI I
 refine aT Tryz.results254 G E ?_
 exact⟨QR,E,H⟩
theorem oQ{x0:aj}{x1:List Int}{s1 s3:SV}{da:List SV}{s7 s9 e8 fe:SV}{fU:Nat}{dy:SV}{b0:Nat}{Cm:SV}{out:(Vec Int 6×Bool)}{w0:World}{Bf:World→Prop}{Lr:List dw}(I:Sh.kX x0 x1=some out)(H:au w0 (pt b0 (af.enc (gx x0 s1 s3 s7 s9 e8 fe fU dy)) 203::ai 0 s1 5 x0.ae.b_::ai 0 s3 23 da::(a_ da x0.ae.ah)::ai 0 dy 3 x0.bf::Lr))(S:∀ w,au w Lr→Bf w)(q6:bw (cn (X:=UInt8) (a_ da x0.ae.ah).holds') da x0.ae.ah)(f8:cn Bf s7 x0.ae.data)(f10:cn Bf s9 x0.ae.sizes)(f12:cn Bf e8 x0.code)(f14:cn Bf fe x0.dq)(f16:jk Bf fU x0.cg)(f20:cn Bf Cm x1):Calls Tryz.prog 252 #[.pointer (some ⟨b0,0,none⟩),(Cm).v] w0 (gf fun v w'=>v = .tuple #[.agg (encs out.1.l).toArray,.bool out.2]∧au w' (pt b0 (af.enc (gx x0 s1 s3 s7 s9 e8 fe fU dy)) 203::ai 0 s1 5 x0.ae.b_::ai 0 s3 23 da::(a_ da x0.ae.ah)::ai 0 dy 3 x0.bf::Lr)):=by
 unfold Sh.kX at I
 refine ce Tryz.func252 Tryz.ntmps252 fun a G=>?_
 refine go 2 fun a w G H=>?_
 refine aN G E E E (bI Tryz.zeroValue283 (zs:=(encs (⟨List.replicate 6 0,E⟩ : Vec Int 6).l)) E E fun c0 w k8 d9=>?_)
 have H:=H.plus d9
 replace H:au _ (pt c0 (encs (⟨List.replicate 6 0,rfl⟩ : Vec Int 6).l) 283::pt b0 (af.enc (gx x0 s1 s3 s7 s9 e8 fe fU dy)) 203::ai 0 s1 5 x0.ae.b_::ai 0 s3 23 da::(a_ da x0.ae.ah)::ai 0 dy 3 x0.bf::Lr):=H
 intro a G
 refine go 4 fun a w G H=>?_
 refine jn G H I [0,1,4,5] (fun _ u=>u) (fun m8 I k3 G H=>?_) fun _ a w I G H=>?_
 ·refine go 8 fun a w G H=>?_
  refine ln G H I [0,1,14,15,4,5] (fun c8 u=>(16,.int .i64 c8)::u) fun c8 a w n4 I g1 G H=>?_
  unfold Sh.lM at I
  refine go 6 fun a w G H=>?_
  refine cc I (fun i2 I=>?_) fun i2 I=>?_
  ·obtain⟨m0,l1,d4,l2,I⟩:=b2 I
   refine go 22 fun a w G H=>?_
   refine aN G E E E (bI z46 (zs:=ak.zero.enc) E E fun c3 w k9 g0=>?_)
   have H:=H.plus g0
   intro a G
   refine go 1 fun a w G H=>?_
   replace H:au _ (pt c3 (ak.enc d4) 46::pt c0 (encs (⟨List.replicate 6 0,rfl⟩ : Vec Int 6).l) 283::pt b0 (af.enc (gx x0 s1 s3 s7 s9 e8 fe fU dy)) 203::ai 0 s1 5 x0.ae.b_::ai 0 s3 23 da::(a_ da x0.ae.ah)::ai 0 dy 3 x0.bf::Lr):=H
   refine go 3 fun a w G H=>?_
   refine jm (pt c0 (encs (⟨List.replicate 6 0,E⟩ : Vec Int 6).l) 283::pt b0 (af.enc (gx x0 s1 s3 s7 s9 e8 fe fU dy)) 203::ai 0 s1 5 x0.ae.b_::ai 0 s3 23 da::(a_ da x0.ae.ah)::ai 0 dy 3 x0.bf::Lr) G H I [0,1,14,15,16,4,5] (fun c9 u=>(52,.bool c9)::u) (fun m9 I l6 G H=>?_) fun c9 a w I G H=>?_
   ·refine go 4 fun a w G H=>?_
    refine gs I (fun i3 I=>?_) fun i3 I=>?_
    ·refine go 5 fun a w G H=>?_
     obtain⟨m3,j8,I⟩:=adu I
     have j2:=cZ j8 H 
     refine dA G E E E E E E (aS (xs:=[.tmp 35]) ou G E E j2 fun v w hR=>?_)
     obtain⟨rfl,H⟩:=hR
     replace H:au _ (pt c3 (ak.enc d4) 46::pt c0 (encs (⟨List.replicate 6 0,rfl⟩ : Vec Int 6).l) 283::pt b0 (af.enc (gx x0 s1 s3 s7 s9 e8 fe fU dy)) 203::ai 0 s1 5 x0.ae.b_::ai 0 s3 23 da::(a_ da x0.ae.ah)::ai 0 dy 3 x0.bf::Lr):=H
     intro a G
     exact lf
    refine go 4 fun a w G H=>?_
    refine gs I (fun d6 I=>?_) fun d6 I=>?_
    ·refine go 1 fun a w G H=>?_
     obtain⟨m4,j9,I⟩:=adu I
     have j3:=cZ j9 H 
     refine dA G E E E d6 E E (aS (xs:=[.tmp 35]) ou G E E j3 fun v w hR=>?_)
     obtain⟨rfl,H⟩:=hR
     replace H:au _ (pt c3 (ak.enc d4) 46::pt c0 (encs (⟨List.replicate 6 0,rfl⟩ : Vec Int 6).l) 283::pt b0 (af.enc (gx x0 s1 s3 s7 s9 e8 fe fU dy)) 203::ai 0 s1 5 x0.ae.b_::ai 0 s3 23 da::(a_ da x0.ae.ah)::ai 0 dy 3 x0.bf::Lr):=H
     intro a G
     exact lf
    exact lf
   replace I:Sh.lJ c8 c9=_:=I
   unfold Sh.lJ at I
   refine aB ?_
   refine cc I (fun i4 I=>?_) fun i4 I=>?_
   ·refine go 2 fun a w G H=>?_
    refine aA G (cC q9 ni G E E (aQ _) (H.cells (i:=0) E (cD (aQ _)))) E E E fun a G=>?_
    refine bC E E (aU (vs:=_) ni (H.obj (i:=0) E) G E E E E (aQ _) (eY _) (by first|(rw[aQ,aQ];decide)|(rw[aQ];decide)) (bF ((aQ _).trans (aQ _).symm)) fun w g5=>?_)
    have H:=H.chg g5 (i:=0) rfl
    replace H:au _ (pt c0 (encs (⟨List.replicate 6 0,rfl⟩ : Vec Int 6).l) 283::pt b0 (af.enc (gx x0 s1 s3 s7 s9 e8 fe fU dy)) 203::ai 0 s1 5 x0.ae.b_::ai 0 s3 23 da::(a_ da x0.ae.ah)::ai 0 dy 3 x0.bf::Lr):=H
    refine go 4 fun a w G H=>?_
    obtain rfl:=oI I
    have I:=g1 _ rfl
    subst I
    have I:=bB k3
    subst I
    refine fF (rs:=[.cell 4 283,.tmp 5]) Ad G (cY G E q9 ni (aQ _) (H.cells (i:=0) E (cD (aQ _))) (dS G E dF)) E ?_
    exact⟨E,bU H [1,2,3,4,5] 6 E⟩
   exact lf
  refine go 5 fun a w G H=>?_
  obtain rfl:=oI I
  have I:=g1 _ rfl
  subst I
  exact⟨(),E,G.to ⟨E,E,E,E,trivial⟩,H⟩
 replace I:Sh.lI x0 x1=_:=I
 unfold Sh.lI at I
 refine go 2 fun a w G H=>?_
 refine aM G H I (fun F x a w=>match x with|g2=>Fr 132 [(4,.pointer (some ⟨c0,0,none⟩)),(5,.bool false)] a∧au w (pt c0 (encs g2.l) 283::pt b0 (af.enc (gx x0 s1 s3 s7 s9 e8 fe fU dy)) 203::ai 0 s1 5 x0.ae.b_::ai 0 s3 23 da::(a_ da x0.ae.ah)::ai 0 dy 3 x0.bf::Lr)) (fun n0 I c6 G H=>?_) ?_
 ·refine go 8 fun a w G H=>?_
  refine aY G H I (fun F x a w=>match x with|(c1,c2)=>Fr 132 [(57,.int .i64 c2),(0,.pointer (some ⟨b0,0,none⟩)),(1,(Cm).v),(4,.pointer (some ⟨c0,0,none⟩)),(5,.bool false),(55,(Cm).v),(56,.int .i64 (x1.length:Int))] a∧au w (pt c0 (encs c1.l) 283::pt b0 (af.enc (gx x0 s1 s3 s7 s9 e8 fe fU dy)) 203::ai 0 s1 5 x0.ae.b_::ai 0 s3 23 da::(a_ da x0.ae.ah)::ai 0 dy 3 x0.bf::Lr)) (fun G H=>⟨G.to ⟨E,E,E,E,E,E,E,trivial⟩,H⟩) ?_
  rintro⟨c1,c2⟩ a w n5 I c4 ⟨G,H⟩
  replace I:Sh.hR x0 x1 c1 c2=_:=I
  unfold Sh.hR at I
  refine go 6 fun a w G H=>?_
  refine cc I (fun i5 I=>?_) fun i5 I=>?_
  ·refine go 3 fun a w G H=>?_
   refine aM G H I (fun F x a w=>match x with|g3=>Fr 132 [(0,.pointer (some ⟨b0,0,none⟩)),(1,(Cm).v),(4,.pointer (some ⟨c0,0,none⟩)),(5,.bool false),(55,(Cm).v),(56,.int .i64 (x1.length:Int)),(57,.int .i64 c2)] a∧au w (pt c0 (encs g3.l) 283::pt b0 (af.enc (gx x0 s1 s3 s7 s9 e8 fe fU dy)) 203::ai 0 s1 5 x0.ae.b_::ai 0 s3 23 da::(a_ da x0.ae.ah)::ai 0 dy 3 x0.bf::Lr)) (fun n1 I c7 G H=>?_) ?_
   ·obtain⟨c5,l3,I⟩:=adu I
    refine go 12 fun a w G H=>?_
    refine jm (pt c0 (encs c1.l) 283::pt b0 (af.enc (gx x0 s1 s3 s7 s9 e8 fe fU dy)) 203::ai 0 s1 5 x0.ae.b_::ai 0 s3 23 da::(a_ da x0.ae.ah)::ai 0 dy 3 x0.bf::Lr) G H I [0,1,10,4,5,55,56,57,9] (fun d0 u=>(67,.bool d0)::u) (fun n2 I l7 G H=>?_) fun d0 a w I G H=>?_
    ·exact lf
    replace I:Sh.lK x0 x1 c1 c2 c5 d0=_:=I
    unfold Sh.lK at I
    refine aB ?_
    refine cc I (fun i6 I=>?_) fun i6 I=>?_
    ·exact lf
    refine go 10 fun a w G H=>?_
    refine jm (pt c0 (encs c1.l) 283::pt b0 (af.enc (gx x0 s1 s3 s7 s9 e8 fe fU dy)) 203::ai 0 s1 5 x0.ae.b_::ai 0 s3 23 da::(a_ da x0.ae.ah)::ai 0 dy 3 x0.bf::Lr) G H I [0,1,10,4,5,55,56,57,9] (fun d1 u=>(11,.int .i64 d1)::u) (fun n3 I l8 G H=>?_) fun d1 a w I G H=>?_
    ·refine bO ?_
     refine aY G H I (fun F x a w=>match x with|d2=>Fr 132 [(11,.int .i64 d2),(0,.pointer (some ⟨b0,0,none⟩)),(1,(Cm).v),(10,.int .i64 c5),(4,.pointer (some ⟨c0,0,none⟩)),(5,.bool false),(55,(Cm).v),(56,.int .i64 (x1.length:Int)),(57,.int .i64 c2),(9,.int .i64 c2)] a∧au w (pt c0 (encs c1.l) 283::pt b0 (af.enc (gx x0 s1 s3 s7 s9 e8 fe fU dy)) 203::ai 0 s1 5 x0.ae.b_::ai 0 s3 23 da::(a_ da x0.ae.ah)::ai 0 dy 3 x0.bf::Lr)) (fun G H=>⟨G.to ⟨E,E,E,E,E,E,E,E,E,E,trivial⟩,H⟩) ?_
     rintro d2 a w n6 I k4 ⟨G,H⟩
     unfold Sh.lN at I
     obtain⟨m1,l4,I⟩:=adu I
     refine go 10 fun a w G H=>?_
     refine cc I (fun i7 I=>?_) fun i7 I=>?_
     ·exact lf
     refine go 5 fun a w G H=>?_
     obtain rfl:=oI I
     have I:=k4 _ rfl
     subst I
     exact⟨d2,E,G.to ⟨E,E,E,E,E,E,E,E,E,E,trivial⟩,H⟩
    replace I:Sh.lL x0 c1 c2 c5 d1=_:=I
    unfold Sh.lL at I
    refine go 2 fun a w G H=>?_
    refine dT H [0,1,2,3,4,5] 6 fun K=>?_
    obtain⟨k5,l5,g4,j7,I⟩:=b2 I
    refine fc [0,1,2,3,4,5,6,7,8,9,10,11,12,13] fun a G=>?_
    refine aK G K 14 E ads E E E (fun w H=>(aG vh G E E ((H.cells (i:=1) E (af.ci_regs _ _ _ (aL j7).2)).get 3 (ak.g_x _)))) fun a G=>?_
    refine dx 15 fun w eX H=>?_
    refine(bI z46 (zs:=ak.zero.enc) E E fun k6 w k7 d5=>?_)
    have H:=H.plus d5
    try dsimp only[List.set]at H
    refine ds [1,2,3,4,5,6] 7 fun a G=>?_
    refine ko 16 fun w eX H=>?_
    refine(aU (vs:=_) iw (H.obj (i:=0) E) G E E E E (ak.len _) (ak.one _) (by first|(rw[ak.len,ak.len];decide)|(rw[ak.len];decide)) (bF ((ak.len _).trans (ak.len _).symm)) fun w g6=>?_)
    have H:=H.chg g6 (i:=0) rfl
    try dsimp only[List.set]at H
    refine ds [1,2,3,4,5,6] 7 ?_
    refine fc [17] fun a G=>?_
    refine de fun w H=>?_
    obtain⟨m2,d8,I⟩:=adu I
    refine go 7 fun a w G H=>?_
    refine bC E E (bN Jf (H.obj (i:=1) E) G E E E E (by have:=(bT d8);rw[aQ];simp only[d_.sz];omega) (YD (v:=c1) (y:=g4.x) (by have:=(bT d8);omega) E E E) fun w g7=>?_)
    have H:=H.chg g7 (i:=1) rfl
    try dsimp only[List.set]at H
    refine go 4 fun a w G H=>?_
    refine jn G H I [0,1,10,12,13,4,5,55,56,57] (fun d3 u=>(96,.bool d3)::u) (fun l9 I l0 G H=>?_) fun d3 a w I G H=>?_
    ·refine dT H [0,1,2,3,4,5,6] 7 fun K=>?_
     refine fc [0] fun a G=>?_
     refine dx 1 fun w eX H=>?_
     obtain⟨m5,k0,I⟩:=adu I
     have j4:=eP k0 H 
     refine dl uv j4 ?_
     rintro v w ⟨rfl,H⟩
     refine ds [0,1,2,3,4,5,6] 7 fun a G=>?_
     refine fc [2,3] fun a G=>?_
     refine gs I (fun d7 I=>?_) fun d7 I=>?_
     ·refine fc [4,5,6,7,8,9,10,11,12,13,14] fun a G=>?_
      refine de fun w H=>?_
      exact lf
     refine fc [4,5,6,7,8,9,10] fun a G=>?_
     refine bJ K 11 ads E E ?_
     refine kF G 11 E E E E E d7 E E fun w eX H=>?_
     obtain⟨m6,k1,I⟩:=adu I
     have j5:=fK k1 (f_ H [2,3,4,5,6,0,1] 7) (Bf:=Bf) (tb S) q6 f8 f10 f12 f14 f16
     refine dl Tryz.call243 j5 ?_
     rintro v w ⟨rfl,H⟩
     refine ds [5,6,0,1,2,3,4] 7 fun a G=>?_
     refine fc [12,13,14] fun a G=>?_
     refine de fun w H=>?_
     refine aB ?_
     exact jr I ⟨G.t,bU H [5,6,0,1,2,3,4] 7 E⟩
    replace I:Sh.kQ x0 c1 c2 c5 k5 g4 d3=_:=I
    unfold Sh.kQ at I
    refine aB ?_
    refine cc I (fun i8 I=>?_) fun i8 I=>?_
    ·refine go 2 fun a w G H=>?_
     refine aA G (cC q9 ni G E E (aQ _) (H.cells (i:=1) E (cD (aQ _)))) E E E fun a G=>?_
     refine bC E E (aU (vs:=_) ni (H.obj (i:=1) E) G E E E E (aQ _) (eY _) (by first|(rw[aQ,aQ];decide)|(rw[aQ];decide)) (bF ((aQ _).trans (aQ _).symm)) fun w g8=>?_)
     have H:=H.chg g8 (i:=1) rfl
     try dsimp only[List.set]at H
     refine go 4 fun a w G H=>?_
     obtain rfl:=oI I
     have I:=bB c7
     subst I
     have I:=c4 _ rfl
     subst I
     have I:=bB c6
     subst I
     refine fF (rs:=[.cell 4 283,.tmp 5]) Ad G (cY G E q9 ni (aQ _) (H.cells (i:=1) E (cD (aQ _))) (dS G E dF)) E ?_
     exact⟨E,bU H [2,3,4,5,6] 7 E⟩
    refine go 7 fun a w G H=>?_
    refine cc I (fun i9 I=>?_) fun i9 I=>?_
    ·refine go 7 fun a w G H=>?_
     refine cc I (fun j0 I=>?_) fun j0 I=>?_
     ·refine go 2 fun a w G H=>?_
      refine aA G (cC q9 ni G E E (aQ _) (H.cells (i:=1) E (cD (aQ _)))) E E E fun a G=>?_
      refine bC E E (aU (vs:=_) ni (H.obj (i:=1) E) G E E E E (aQ _) (eY _) (by first|(rw[aQ,aQ];decide)|(rw[aQ];decide)) (bF ((aQ _).trans (aQ _).symm)) fun w g9=>?_)
      have H:=H.chg g9 (i:=1) rfl
      try dsimp only[List.set]at H
      refine go 4 fun a w G H=>?_
      obtain rfl:=oI I
      have I:=bB c7
      subst I
      have I:=c4 _ rfl
      subst I
      have I:=bB c6
      subst I
      refine fF (rs:=[.cell 4 283,.tmp 5]) Ad G (cY G E q9 ni (aQ _) (H.cells (i:=1) E (cD (aQ _))) (dS G E dF)) E ?_
      exact⟨E,bU H [2,3,4,5,6] 7 E⟩
     exact lf
    refine aH ?_
    refine dT H [0,1,2,3,4,5,6] 7 fun K=>?_
    refine fc [0,1,2,3,4,5,6] fun a G=>?_
    refine dx 7 fun w eX H=>?_
    obtain⟨m7,k2,I⟩:=adu I
    have j6:=gA k2 (f_ H [2,3,4,5,6,0,1] 7) (Bf:=Bf) (tb S) q6 f8 f10 f12 f14 f16
    refine dl Tryz.call244 j6 ?_
    rintro v w ⟨rfl,H⟩
    refine ds [5,6,0,1,2,3,4] 7 fun a G=>?_
    refine fc [8,9] fun a G=>?_
    refine de fun w H=>?_
    refine aB ?_
    refine cc I (fun j1 I=>?_) fun j1 I=>?_
    ·refine go 2 fun a w G H=>?_
     refine aA G (cC q9 ni G E E (aQ _) (H.cells (i:=6) E (cD (aQ _)))) E E E fun a G=>?_
     refine bC E E (aU (vs:=_) ni (H.obj (i:=6) E) G E E E E (aQ _) (eY _) (by first|(rw[aQ,aQ];decide)|(rw[aQ];decide)) (bF ((aQ _).trans (aQ _).symm)) fun w i0=>?_)
     have H:=H.chg i0 (i:=6) rfl
     try dsimp only[List.set]at H
     refine go 4 fun a w G H=>?_
     obtain rfl:=oI I
     have I:=bB c7
     subst I
     have I:=c4 _ rfl
     subst I
     have I:=bB c6
     subst I
     refine fF (rs:=[.cell 4 283,.tmp 5]) Ad G (cY G E q9 ni (aQ _) (H.cells (i:=6) E (cD (aQ _))) (dS G E dF)) E ?_
     exact⟨E,bU H [0,1,2,3,4] 7 E⟩
    refine go 4 fun a w G H=>?_
    exact jr I ⟨G.t,bU H [6,0,1,2,3,4] 7 E⟩
   rintro g3 a w I ⟨G,H⟩
   unfold Sh.qV at I
   exact lf
  refine go 5 fun a w G H=>?_
  obtain rfl:=oI I
  have I:=c4 _ rfl
  subst I
  exact⟨c1,E,G.to ⟨E,E,trivial⟩,H⟩
 rintro g2 a w I ⟨G,H⟩
 unfold Sh.zW at I
 refine go 3 fun a w G H=>?_
 refine aA G (cC q9 ni G E E (aQ _) (H.cells (i:=0) E (cD (aQ _)))) E E E fun a G=>?_
 refine bC E E (aU (vs:=_) ni (H.obj (i:=0) E) G E E E E (aQ _) (eY _) (by first|(rw[aQ,aQ];decide)|(rw[aQ];decide)) (bF ((aQ _).trans (aQ _).symm)) fun w i1=>?_)
 have H:=H.chg i1 (i:=0) rfl
 try dsimp only[List.set]at H
 refine go 4 fun a w G H=>?_
 obtain rfl:=oI I
 refine fF (rs:=[.cell 4 283,.tmp 5]) Ad G (cY G E q9 ni (aQ _) (H.cells (i:=0) E (cD (aQ _))) (dS G E dF)) E ?_
 exact⟨E,bU H [1,2,3,4,5] 6 E⟩
theorem kJ{x0:aj}{x1:b9}{s1 s3:SV}{da:List SV}{s7 s9 e8 fe:SV}{fU:Nat}{dy:SV}{b0:Nat}{out:(Int×Int×aj)}{w0:World}{Bf:World→Prop}{Lr:List dw}(I:Sh.jM x0 x1=some out)(H:au w0 (pt b0 (af.enc (gx x0 s1 s3 s7 s9 e8 fe fU dy)) 203::ai 0 s1 5 x0.ae.b_::ai 0 s3 23 da::(a_ da x0.ae.ah)::ai 0 dy 3 x0.bf::Lr))(S:∀ w,au w Lr→Bf w)(q6:bw (cn (X:=UInt8) (a_ da x0.ae.ah).holds') da x0.ae.ah)(f8:cn Bf s7 x0.ae.data)(f10:cn Bf s9 x0.ae.sizes)(f12:cn Bf e8 x0.code)(f14:cn Bf fe x0.dq)(f16:jk Bf fU x0.cg):Calls Tryz.prog 212 #[.pointer (some ⟨b0,0,none⟩),.agg (b9.enc x1).toArray] w0 (gf fun v w'=>∃ (p8:SV) (p9:SV) (d7:List SV) (t0:SV),v = .tuple #[.int .i64 out.1,.int .i64 out.2.1]∧bw (cn (X:=UInt8) (a_ d7 out.2.2.ae.ah).holds') d7 out.2.2.ae.ah∧au w' (pt b0 (af.enc (af.mk (bu.mk out.2.2.ae.bp p8 p9 s7 s9) e8 fe (some fU) out.2.2.bk t0 x0.at_ x0.steps x0.done)) 203::ai 0 p8 5 out.2.2.ae.b_::ai 0 p9 23 d7::(a_ d7 out.2.2.ae.ah)::ai 0 t0 3 out.2.2.bf::Lr)):=by
 unfold Sh.jM at I
 refine ce Tryz.func212 Tryz.ntmps212 fun a G=>?_
 refine go 11 fun c2 a w G H=>?_
 obtain⟨c6,u4,I⟩:=adu I
 have t8:=Vt u4 H 
 refine cl Tryz.call251 t8 ?_
 rintro v w ⟨c5,rfl,H⟩ a G
 refine go 15 fun c3 a w G H=>?_
 refine cc I (fun t6 I=>?_) fun t6 I=>?_
 ·refine go 7 fun a w G H=>?_
  obtain rfl:=oI I
  refine er BD G H ?_
  exact⟨s1,s3,da,dy,E,q6,bU H [3,4,5,6,7] 8 E⟩
 refine go 7 fun a w G H=>?_
 obtain⟨d6,u5,I⟩:=adu I
 have t9:=oQ u5 (bU H [3,4,5,6,7,0,1,2] 8 rfl) (fun _ h=>h) q6 (fun w H=>(f8 _ (S _ (dZ H 3)))) (fun w H=>(f10 _ (S _ (dZ H 3)))) (fun w H=>(f12 _ (S _ (dZ H 3)))) (fun w H=>(f14 _ (S _ (dZ H 3)))) (fun w H=>f16 _ (S _ (dZ H 3))) (fun w H=>(H.rowS (X:=Int) (i:=1) rfl))
 refine cl Tryz.call252 t9 ?_
 rintro v w ⟨rfl,H⟩ a G
 refine go 3 fun a w G H=>?_
 refine aN G E E E (bI Tryz.zeroValue283 (zs:=(encs (⟨List.replicate 6 0,E⟩ : Vec Int 6).l)) E E fun c4 w z8 j2=>?_)
 have H:=H.plus j2
 replace H:au _ (pt c4 (encs (⟨List.replicate 6 0,rfl⟩ : Vec Int 6).l) 283::pt b0 (af.enc (gx x0 s1 s3 s7 s9 e8 fe fU dy)) 203::ai 0 s1 5 x0.ae.b_::ai 0 s3 23 da::(a_ da x0.ae.ah)::ai 0 dy 3 x0.bf::pt c3 (gq.enc (gq.mk c5 c6.1.ret)) 280::ai 0 c5 3 c6.1.args::pt c2 (b9.enc x1) 101::Lr):=H
 intro a G
 refine bC E E (aU (vs:=_) ni (H.obj (i:=0) E) G E E E E (aQ _) (eY _) (by first|(rw[aQ,aQ];decide)|(rw[aQ];decide)) (bF ((aQ _).trans (aQ _).symm)) fun w t5=>?_)
 have H:=H.chg t5 (i:=0) rfl
 try dsimp only[List.set]at H
 refine go 10 fun a w G H=>?_
 refine cc I (fun t7 I=>?_) fun t7 I=>?_
 ·refine go 7 fun a w G H=>?_
  obtain rfl:=oI I
  refine er BD G H ?_
  exact⟨s1,s3,da,dy,E,q6,bU H [1,2,3,4,5] 9 E⟩
 refine go 4 fun a w G H=>?_
 obtain⟨c7,u6,I⟩:=adu I
 have u0:=dJ u6 H 
 refine cl po u0 ?_
 rintro v w ⟨rfl,H⟩ a G
 refine go 5 fun c0 a w G H=>?_
 refine dT H [0,1,2,3,4,5,6,7,8,9] 10 fun K=>?_
 obtain⟨g3,u1,I⟩:=adu I
 refine fc [0,1,2,3,4] fun a G=>?_
 refine aK G K 5 E ads E E E (fun w H=>(aG vh G E E ((H.cells (i:=2) E (af.ci_regs _ _ _ (aL u1).2)).get 3 (ak.g_x _)))) fun a G=>?_
 obtain⟨g4,u2,I⟩:=adu I
 refine fc [6,7,8,9,10] fun a G=>?_
 refine aK G K 11 E ads E E E (fun w H=>(aG vh G E E ((H.cells (i:=2) E (af.ci_regs _ _ _ (aL u2).2)).get 3 (ak.g_x _)))) fun a G=>?_
 obtain⟨BV,u3,I⟩:=adu I
 refine fc [12,13,14,15,16] fun a G=>?_
 refine aK G K 17 E ads E E E (fun w H=>(aG vh G E E ((H.cells (i:=2) E (af.ci_regs _ _ _ (aL u3).2)).get 3 (ak.g_x _)))) fun a G=>?_
 refine fc [18,19,20] fun a G=>?_
 refine de fun w H=>?_
 refine go 2 fun a w G H=>?_
 refine aM G H I (fun F x a w=>match x with|(i0,d3,d4,d1,d5)=>∃ (c8:SV) (c9:SV) (c1:List SV) (d0:SV),bw (cn (X:=UInt8) (a_ c1 d1).holds') c1 d1∧Fr 199 [(0,.pointer (some ⟨b0,0,none⟩)),(4,.int .i64 0),(5,.int .i64 0),(9,.pointer (some ⟨c0,0,none⟩))] a∧au w (pt c0 (ak.enc i0) 46::pt b0 (af.enc (af.mk (bu.mk d3 c8 c9 s7 s9) e8 fe (some fU) x0.bk d0 x0.at_ x0.steps x0.done)) 203::ai 0 c8 5 d4::ai 0 c9 23 c1::(a_ c1 d1)::ai 0 d0 3 d5::Lr)) (fun c31 I t2 G H=>?_) ?_
 ·refine go 13 fun a w G H=>?_
  refine cc I (fun k4 I=>?_) fun k4 I=>?_
  ·obtain⟨Ak,m8,I⟩:=adu I
   refine go 3 fun a w G H=>?_
   refine aA G (aG vh G E E ((H.cells (i:=1) E (fY (aL m8).2)).get 0 E)) E E E fun a G=>?_
   obtain⟨z5,n7,I⟩:=adu I
   have l7:=eU n7 (bU H [2,3,4,5,6,0,1,7,8,9] 10 rfl) (Bf:=Bf) (fun w H=>S _ (dZ H 5)) q6 f8 f10 f12 f14 f16
   refine cl z_ l7 ?_
   rintro v w ⟨z1,rfl,H⟩ a G
   replace H:au _ (ai 0 z1 5 z5::pt b0 (af.enc (gx x0 s1 s3 s7 s9 e8 fe fU dy)) 203::ai 0 s1 5 x0.ae.b_::ai 0 s3 23 da::(a_ da x0.ae.ah)::ai 0 dy 3 x0.bf::pt c0 (ak.enc c7) 46::pt c4 (encs d6.1.l) 283::pt c3 (gq.enc (gq.mk c5 c6.1.ret)) 280::ai 0 c5 3 c6.1.args::pt c2 (b9.enc x1) 101::Lr):=H
   refine go 1 fun a w G H=>?_
   obtain⟨BP,n8,I⟩:=adu I
   have l8:=Vu n8 H (fun _ h=>h) (fun w H=>(H.rowS (X:=UInt8) (i:=0) rfl))
   refine cl Tryz.call253 l8 ?_
   rintro v w ⟨rfl,H⟩ a G
   refine go 5 fun a w G H=>?_
   exact jr I ⟨s1,s3,da,dy,q6,G.t,bU H [6,1,2,3,4,5] 11 E⟩
  refine go 6 fun a w G H=>?_
  refine cc I (fun k5 I=>?_) fun k5 I=>?_
  ·refine dT H [0,1,2,3,4,5,6,7,8,9] 10 fun K=>?_
   obtain⟨c16,z9,AE,m9,I⟩:=b2 I
   refine fc [0,1,2,3,4,5,6,7,8,9,10] fun a G=>?_
   refine aK G K 11 E ads E E E (fun w H=>(aG vh G E E ((H.cells (i:=1) E (fY (aL m9).2)).get 0 E))) fun a G=>?_
   refine dx 12 fun w eX H=>?_
   obtain⟨j7,n9,I⟩:=adu I
   have l9:=eU n9 (bU H [2,3,4,5,6,0,1,7,8,9] 10 rfl) (Bf:=Bf) (fun w H=>S _ (dZ H 5)) q6 f8 f10 f12 f14 f16
   refine dl z_ l9 ?_
   rintro v w ⟨j3,rfl,H⟩
   replace H:au _ (ai 0 j3 5 j7::pt b0 (af.enc (gx x0 s1 s3 s7 s9 e8 fe fU dy)) 203::ai 0 s1 5 x0.ae.b_::ai 0 s3 23 da::(a_ da x0.ae.ah)::ai 0 dy 3 x0.bf::pt c0 (ak.enc c7) 46::pt c4 (encs d6.1.l) 283::pt c3 (gq.enc (gq.mk c5 c6.1.ret)) 280::ai 0 c5 3 c6.1.args::pt c2 (b9.enc x1) 101::Lr):=H
   refine ds [0,6,7,1,2,3,4,5,8,9,10] 11 fun a G=>?_
   refine dx 13 fun w eX H=>?_
   obtain⟨i6,p0,I⟩:=adu I
   have m0:=fQ p0 (bU H [1,2,3,4,5,0,6,7,8,9,10] 11 rfl) (fun _ h=>h) q6 (fun w H=>(f8 _ (S _ (dZ H 6)))) (fun w H=>(f10 _ (S _ (dZ H 6)))) (fun w H=>(f12 _ (S _ (dZ H 6)))) (fun w H=>(f14 _ (S _ (dZ H 6)))) (fun w H=>f16 _ (S _ (dZ H 6))) (fun w H=>(H.rowS (X:=UInt8) (i:=0) rfl))
   refine dl Tryz.call246 m0 ?_
   rintro v w ⟨g6,g7,g1,rfl,u9,H⟩
   replace H:au _ (pt b0 (af.enc (af.mk (bu.mk i6.ae.bp g6 g7 s7 s9) e8 fe (some fU) x0.bk dy x0.at_ x0.steps x0.done)) 203::ai 0 g6 5 i6.ae.b_::ai 0 g7 23 g1::(a_ g1 i6.ae.ah)::ai 0 dy 3 x0.bf::ai 0 j3 5 j7::pt c0 (ak.enc c7) 46::pt c4 (encs d6.1.l) 283::pt c3 (gq.enc (gq.mk c5 c6.1.ret)) 280::ai 0 c5 3 c6.1.args::pt c2 (b9.enc x1) 101::Lr):=H
   refine dh fun a G=>?_
   refine de fun w H=>?_
   refine cG (aB ?_)
   exact jr I ⟨g6,g7,g1,dy,u9,G.t,bU H [6,0,1,2,3,4] 11 E⟩
  refine go 6 fun a w G H=>?_
  refine cc I (fun k6 I=>?_) fun k6 I=>?_
  ·obtain⟨AG,n0,I⟩:=adu I
   refine go 3 fun a w G H=>?_
   refine aA G (aG vh G E E ((H.cells (i:=1) E (fY (aL n0).2)).get 0 E)) E E E fun a G=>?_
   obtain⟨j6,n1,I⟩:=adu I
   refine aN G E E E (N6 n1 ji sw E E E G E E E fun j1 w i8=>?_)
   have H:=H.plus i8
   try dsimp only[List.set]at H
   intro a G
   refine go 4 fun a w G H=>?_
   refine aM G H I (fun F x a w=>match x with|i1=>∃ (d8:SV),Fr 199 [(13,(d8).v),(0,.pointer (some ⟨b0,0,none⟩)),(10,.int .i64 g3.x),(4,.int .i64 0),(5,.int .i64 0),(9,.pointer (some ⟨c0,0,none⟩))] a∧au w (ai 0 d8 5 i1::pt c0 (ak.enc c7) 46::pt b0 (af.enc (gx x0 s1 s3 s7 s9 e8 fe fU dy)) 203::ai 0 s1 5 x0.ae.b_::ai 0 s3 23 da::(a_ da x0.ae.ah)::ai 0 dy 3 x0.bf::Lr)) (fun c32 I c11 G H=>?_) ?_
   ·refine go 8 fun a w G H=>?_
    refine aY G H I (fun F x a w=>match x with|(d9,i2)=>∃ (d2:SV),Fr 199 [(13,(d2).v),(86,.int .i64 i2),(0,.pointer (some ⟨b0,0,none⟩)),(10,.int .i64 g3.x),(11,.int .i64 g4.x),(4,.int .i64 0),(5,.int .i64 0),(85,.int .i64 (j6.length:Int)),(9,.pointer (some ⟨c0,0,none⟩))] a∧au w (ai 0 d2 5 d9::pt c0 (ak.enc c7) 46::pt b0 (af.enc (gx x0 s1 s3 s7 s9 e8 fe fU dy)) 203::ai 0 s1 5 x0.ae.b_::ai 0 s3 23 da::(a_ da x0.ae.ah)::ai 0 dy 3 x0.bf::Lr)) (fun G H=>⟨j1,G.to ⟨E,E,E,E,E,E,E,E,E,trivial⟩,f_ H [0,1,3,4,5,6,7] 11⟩) ?_
    rintro⟨d9,i2⟩ a w BU I t3 ⟨d2,G,H⟩
    replace I:Sh.iS g4 j6 d9 i2=_:=I
    unfold Sh.iS at I
    refine go 6 fun a w G H=>?_
    refine cc I (fun k7 I=>?_) fun k7 I=>?_
    ·refine go 14 fun a w G H=>?_
     refine aA G (fL rj CJ G E E) E E E fun a G=>?_
     obtain⟨AH,n2,I⟩:=adu I
     have j9:=aL n2
     refine go 1 fun a w G H=>?_
     refine bC E E (dB (d:=0) (q:=(Fw.byteOf g4.x)) NQ (H.own (X:=UInt8) (i:=0) E) j9.2 G E E E E E (by decide) E fun w k1=>?_)
     have H:=H.chg k1 (i:=0) rfl
     try dsimp only[List.set]at H
     refine go 8 fun a w G H=>?_
     exact jr I ⟨d2,G.t,H⟩
    refine go 5 fun a w G H=>?_
    obtain rfl:=oI I
    have I:=t3 _ rfl
    subst I
    exact⟨d9,E,d2,G.to ⟨E,E,E,E,E,E,trivial⟩,H⟩
   rintro i1 a w I ⟨d8,G,H⟩
   unfold Sh.sS at I
   refine aB ?_
   refine dT H [0,1,2,3,4,5,6] 7 fun K=>?_
   obtain⟨c20,c10,I⟩:=adu I
   refine fc [0,1,2,3,4,5,6,7,8,9] fun a G=>?_
   refine dx 10 fun w eX H=>?_
   obtain⟨i7,p1,I⟩:=adu I
   have m1:=fQ p1 (bU H [2,3,4,5,6,0,1] 7 rfl) (fun _ h=>h) q6 (fun w H=>(f8 _ (S _ (dZ H 2)))) (fun w H=>(f10 _ (S _ (dZ H 2)))) (fun w H=>(f12 _ (S _ (dZ H 2)))) (fun w H=>(f14 _ (S _ (dZ H 2)))) (fun w H=>f16 _ (S _ (dZ H 2))) (fun w H=>(H.rowS (X:=UInt8) (i:=0) rfl))
   refine dl Tryz.call246 m1 ?_
   rintro v w ⟨g8,g9,g2,rfl,z0,H⟩
   replace H:au _ (pt b0 (af.enc (af.mk (bu.mk i7.ae.bp g8 g9 s7 s9) e8 fe (some fU) x0.bk dy x0.at_ x0.steps x0.done)) 203::ai 0 g8 5 i7.ae.b_::ai 0 g9 23 g2::(a_ g2 i7.ae.ah)::ai 0 dy 3 x0.bf::ai 0 d8 5 i1::pt c0 (ak.enc c7) 46::Lr):=H
   refine dh fun a G=>?_
   refine de fun w H=>?_
   refine cG (aB ?_)
   exact jr I ⟨g8,g9,g2,dy,z0,G.t,bU H [6,0,1,2,3,4] 7 E⟩
  refine go 6 fun a w G H=>?_
  refine cc I (fun k8 I=>?_) fun k8 I=>?_
  ·refine cM mixed ads H [0,1,2,3,4,5,6,7,8,9] 10 E fun K=>?_
   obtain⟨c21,n3,I⟩:=adu I
   refine fc [0,1] fun a G=>?_
   refine aK G K 2 E ads E E E (fun w H=>(aG vh G E E ((H.cells (i:=1) E (fY (aL n3).2)).get 0 E))) fun a G=>?_
   obtain⟨AI,n4,I⟩:=adu I
   refine fc [4,5] fun a G=>?_
   refine aK G K 6 E ads E E E (fun w H=>(aG vh G E E ((H.cells (i:=1) E (fY (aL n4).2)).get 0 E))) fun a G=>?_
   refine dx 3 fun w eX H=>?_
   obtain⟨j8,p2,I⟩:=adu I
   have m2:=eU p2 (bU H [2,3,4,5,6,0,1,7,8,9] 10 rfl) (Bf:=Bf) (fun w H=>S _ (dZ H 5)) q6 f8 f10 f12 f14 f16
   refine dl z_ m2 ?_
   rintro v w ⟨j4,rfl,H⟩
   replace H:au _ (ai 0 j4 5 j8::pt b0 (af.enc (gx x0 s1 s3 s7 s9 e8 fe fU dy)) 203::ai 0 s1 5 x0.ae.b_::ai 0 s3 23 da::(a_ da x0.ae.ah)::ai 0 dy 3 x0.bf::pt c0 (ak.enc c7) 46::pt c4 (encs d6.1.l) 283::pt c3 (gq.enc (gq.mk c5 c6.1.ret)) 280::ai 0 c5 3 c6.1.args::pt c2 (b9.enc x1) 101::Lr):=H
   refine ds [0,6,7,1,2,3,4,5,8,9,10] 11 fun a G=>?_
   refine dx 7 fun w eX H=>?_
   obtain⟨z6,p3,I⟩:=adu I
   have m3:=eU p3 (bU H [1,2,3,4,5,0,6,7,8,9,10] 11 rfl) (Bf:=Bf) (fun w H=>S _ (dZ H 6)) q6 f8 f10 f12 f14 f16
   refine dl z_ m3 ?_
   rintro v w ⟨z2,rfl,H⟩
   replace H:au _ (ai 0 z2 5 z6::pt b0 (af.enc (gx x0 s1 s3 s7 s9 e8 fe fU dy)) 203::ai 0 s1 5 x0.ae.b_::ai 0 s3 23 da::(a_ da x0.ae.ah)::ai 0 dy 3 x0.bf::ai 0 j4 5 j8::pt c0 (ak.enc c7) 46::pt c4 (encs d6.1.l) 283::pt c3 (gq.enc (gq.mk c5 c6.1.ret)) 280::ai 0 c5 3 c6.1.args::pt c2 (b9.enc x1) 101::Lr):=H
   refine ds [0,6,7,8,1,2,3,4,5,9,10,11] 12 fun a G=>?_
   refine dx 8 fun w eX H=>?_
   obtain⟨c28,p4,I⟩:=adu I
   have m4:=zN p4 H (fun _ h=>h) (fun w H=>(H.rowS (X:=UInt8) (i:=6) rfl)) (fun w H=>(H.rowS (X:=UInt8) (i:=0) rfl))
   refine dl Tryz.call255 m4 ?_
   rintro v w ⟨rfl,H⟩
   refine ds [0,6,7,8,1,2,3,4,5,9,10,11] 12 fun a G=>?_
   refine fc [9,10] fun a G=>?_
   refine de fun w H=>?_
   refine cG (aB ?_)
   exact jr I ⟨s1,s3,da,dy,q6,G.t,bU H [7,1,2,3,4,5] 12 E⟩
  refine go 6 fun a w G H=>?_
  refine cc I (fun k9 I=>?_) fun k9 I=>?_
  ·obtain⟨AK,n5,I⟩:=adu I
   refine go 3 fun a w G H=>?_
   refine aA G (aG vh G E E ((H.cells (i:=1) E (fY (aL n5).2)).get 0 E)) E E E fun a G=>?_
   obtain⟨z7,p5,I⟩:=adu I
   have m5:=eU p5 (bU H [2,3,4,5,6,0,1,7,8,9] 10 rfl) (Bf:=Bf) (fun w H=>S _ (dZ H 5)) q6 f8 f10 f12 f14 f16
   refine cl z_ m5 ?_
   rintro v w ⟨z3,rfl,H⟩ a G
   replace H:au _ (ai 0 z3 5 z7::pt b0 (af.enc (gx x0 s1 s3 s7 s9 e8 fe fU dy)) 203::ai 0 s1 5 x0.ae.b_::ai 0 s3 23 da::(a_ da x0.ae.ah)::ai 0 dy 3 x0.bf::pt c0 (ak.enc c7) 46::pt c4 (encs d6.1.l) 283::pt c3 (gq.enc (gq.mk c5 c6.1.ret)) 280::ai 0 c5 3 c6.1.args::pt c2 (b9.enc x1) 101::Lr):=H
   refine go 1 fun a w G H=>?_
   obtain⟨BQ,p6,I⟩:=adu I
   have m6:=zO p6 H (fun _ h=>h) (fun w H=>(H.rowS (X:=UInt8) (i:=0) rfl))
   refine cl Tryz.call256 m6 ?_
   rintro v w ⟨rfl,H⟩ a G
   refine go 5 fun a w G H=>?_
   exact jr I ⟨s1,s3,da,dy,q6,G.t,bU H [6,1,2,3,4,5] 11 E⟩
  refine go 6 fun a w G H=>?_
  refine cc I (fun l0 I=>?_) fun l0 I=>?_
  ·refine go 10 fun a w G H=>?_
   refine cc I (fun l1 I=>?_) fun l1 I=>?_
   ·refine go 6 fun a w G H=>?_
    exact jr I ⟨s1,s3,da,dy,q6,G.t,bU H [0,2,3,4,5,6] 10 E⟩
   refine go 7 fun a w G H=>?_
   refine aN G E E E (bL (X:=Int) (y:=g3.x) o9 kP E E E E G E E E fun t1 w u7 g5=>?_)
   have H:=H.plus g5
   try dsimp only[List.set]at H
   intro a G
   obtain⟨c24,n6,I⟩:=adu I
   refine aN G E E E (cB (X:=Int) n6 o9 kP E E E E G E E E (H.own (X:=Int) (i:=7) E) (H.ptS (X:=Int) (i:=0) (n:=1) (c:=1) E E E (aah _)) fun z4 w k0=>?_)
   have H:=H.chg k0 (i:=7) rfl
   try dsimp only[List.set]at H
   intro a G
   refine go 6 fun a w G H=>?_
   exact jr I ⟨s1,s3,da,z4,q6,G.t,bU H [1,3,4,5,6,7] 11 E⟩
  refine go 6 fun a w G H=>?_
  refine cc I (fun l2 I=>?_) fun l2 I=>?_
  ·refine go 2 fun a w G H=>?_
   refine jm (pt c0 (ak.enc c7) 46::pt b0 (af.enc (gx x0 s1 s3 s7 s9 e8 fe fU dy)) 203::ai 0 s1 5 x0.ae.b_::ai 0 s3 23 da::(a_ da x0.ae.ah)::ai 0 dy 3 x0.bf::ai 0 c5 3 c6.1.args::Lr) G H I [0,10,11,4,5,9] (fun i3 u=>(159,.bool i3)::u) (fun BS I c12 G H=>?_) fun i3 a w I G H=>?_
   ·exact lf
   replace I:Sh.nD x0 c7 g3 g4 i3=_:=I
   unfold Sh.nD at I
   refine aB ?_
   refine cc I (fun l3 I=>?_) fun l3 I=>?_
   ·refine go 7 fun a w G H=>?_
    obtain rfl:=oI I
    have I:=bB t2
    subst I
    refine er BD G H ?_
    exact⟨s1,s3,da,dy,E,q6,bU H [1,2,3,4,5] 7 E⟩
   refine go 3 fun a w G H=>?_
   refine jm (pt c0 (ak.enc c7) 46::pt b0 (af.enc (gx x0 s1 s3 s7 s9 e8 fe fU dy)) 203::ai 0 s1 5 x0.ae.b_::ai 0 s3 23 da::(a_ da x0.ae.ah)::ai 0 dy 3 x0.bf::Lr) G H I [0,10,11,4,5,9] (fun i4 u=>(174,.bool i4)::u) (fun c34 I zi G H=>?_) fun i4 a w I G H=>?_
   ·exact lf
   replace I:Sh.nE x0 c7 g3 g4 i4=_:=I
   unfold Sh.nE at I
   refine aB ?_
   refine cc I (fun l4 I=>?_) fun l4 I=>?_
   ·refine go 3 fun a w G H=>?_
    refine aA G (aW z46 A2 AY G (parts:=[(0,.const (.int .i64 (5))),(1,.tmp 175),(2,.tmp 176)]) E E (aO E E (by rw[ak.len];decide) (ak.s_kind _ _) (aO E E (by rw[ak.len];decide) (ak.s_table _ _) (aO E E (by rw[ak.len];decide) (ak.s_row _ _) bD)))) E E E fun a G=>?_
    refine go 4 fun a w G H=>?_
    exact jr I ⟨s1,s3,da,dy,q6,G.t,H⟩
   refine go 3 fun a w G H=>?_
   exact jr I ⟨s1,s3,da,dy,q6,G.t,H⟩
  refine go 6 fun a w G H=>?_
  refine cc I (fun l5 I=>?_) fun l5 I=>?_
  ·refine go 3 fun a w G H=>?_
   obtain⟨BR,p7,I⟩:=adu I
   have m7:=Vs p7 H 
   refine cl Tryz.call257 m7 ?_
   rintro v w ⟨rfl,H⟩ a G
   refine go 5 fun a w G H=>?_
   exact jr I ⟨s1,s3,da,dy,q6,G.t,bU H [0,2,3,4,5,6] 10 E⟩
  refine go 3 fun a w G H=>?_
  exact jr I ⟨s1,s3,da,dy,q6,G.t,bU H [0,2,3,4,5,6] 10 E⟩
 rintro⟨i0,d3,d4,d1,d5⟩ a w I ⟨c8,c9,c1,d0,u8,G,H⟩
 replace I:Sh.iR x0 i0 d3 d4 d1 d5=_:=I
 unfold Sh.iR at I
 refine go 2 fun a w G H=>?_
 refine dT H [0,1,2,3,4,5] 6 fun K=>?_
 obtain⟨Bg,i9,I⟩:=adu I
 refine fc [0,1,2,3,4] fun a G=>?_
 refine ko 5 fun w eX H=>?_
 refine(aU (vs:=_) iw (H.obj (i:=1) E) G E E E E (ak.len _) (ak.one _) (by have:=(bT i9);rw[ak.len,af.len];omega) (af.pi_regs _ _ _ (by have:=(bT i9);omega)) fun w k2=>?_)
 have H:=H.chg k2 (i:=1) rfl
 try dsimp only[List.set]at H
 refine dh ?_
 refine de fun w H=>?_
 refine go 2 fun a w G H=>?_
 refine aM G H I (fun F x a w=>match x with|j5=>Fr 199 [(4,.int .i64 0),(5,.int .i64 0)] a∧au w (pt b0 (af.enc (af.mk (bu.mk d3 c8 c9 s7 s9) e8 fe (some fU) j5 d0 x0.at_ x0.steps x0.done)) 203::ai 0 c8 5 d4::ai 0 c9 23 c1::(a_ c1 d1)::ai 0 d0 3 d5::Lr)) (fun CG I Aj G H=>?_) ?_
 ·refine go 6 fun a w G H=>?_
  refine aY G H I (fun F x a w=>match x with|(g0,i5)=>Fr 199 [(15,.int .i64 i5),(0,.pointer (some ⟨b0,0,none⟩)),(4,.int .i64 0),(5,.int .i64 0)] a∧au w (pt b0 (af.enc (af.mk (bu.mk d3 c8 c9 s7 s9) e8 fe (some fU) g0 d0 x0.at_ x0.steps x0.done)) 203::ai 0 c8 5 d4::ai 0 c9 23 c1::(a_ c1 d1)::ai 0 d0 3 d5::Lr)) (fun G H=>⟨G.to ⟨E,E,E,E,trivial⟩,f_ H [1,2,3,4,5] 6⟩) ?_
  rintro⟨g0,i5⟩ a w c37 I t4 ⟨G,H⟩
  replace I:Sh.iT g0 i5=_:=I
  unfold Sh.iT at I
  refine go 7 fun a w G H=>?_
  refine cc I (fun l6 I=>?_) fun l6 I=>?_
  ·refine go 7 fun a w G H=>?_
   refine aA G (aW z46 A2 AY G (parts:=[]) E E bD) E E E fun a G=>?_
   obtain⟨BO,j0,I⟩:=adu I
   refine go 3 fun a w G H=>?_
   refine bC E E (aU (vs:=_) iw (H.obj (i:=0) E) G E E E E (ak.len _) (ak.one _) (by have:=(bT j0);rw[ak.len,af.len];omega) (af.pi_regs _ _ _ (by have:=(bT j0);omega)) fun w k3=>?_)
   have H:=H.chg k3 (i:=0) rfl
   try dsimp only[List.set]at H
   exact lf
  refine go 5 fun a w G H=>?_
  obtain rfl:=oI I
  have I:=t4 _ rfl
  subst I
  exact⟨g0,E,G.to ⟨E,E,trivial⟩,H⟩
 rintro j5 a w I ⟨G,H⟩
 unfold Sh.aAn at I
 refine go 8 fun a w G H=>?_
 obtain rfl:=oI I
 refine er BD G H ?_
 exact⟨c8,c9,c1,d0,E,u8,H⟩
end Go.Proofs
end
section
namespace Go.Proofs
open Go.Fw Go.Fx
set_option maxRecDepth 10000
theorem pD{x0:aj}{x1:b9}{s1 s3:SV}{da:List SV}{s7 s9 e8 fe:SV}{fU:Nat}{dy:SV}{b0:Nat}{out:Int}{w0:World}{Bf:World→Prop}{Lr:List dw}(I:Sh.mY x0 x1=some out)(H:au w0 (pt b0 (af.enc (gx x0 s1 s3 s7 s9 e8 fe fU dy)) 203::ai 0 s1 5 x0.ae.b_::ai 0 s3 23 da::(a_ da x0.ae.ah)::ai 0 dy 3 x0.bf::Lr))(S:∀ w,au w Lr→Bf w)(q6:bw (cn (X:=UInt8) (a_ da x0.ae.ah).holds') da x0.ae.ah)(f8:cn Bf s7 x0.ae.data)(f10:cn Bf s9 x0.ae.sizes)(f12:cn Bf e8 x0.code)(f14:cn Bf fe x0.dq)(f16:jk Bf fU x0.cg):Calls Tryz.prog 146 #[.pointer (some ⟨b0,0,none⟩),.agg (b9.enc x1).toArray] w0 (gf fun v w'=>v = .int .i64 out∧au w' (pt b0 (af.enc (gx x0 s1 s3 s7 s9 e8 fe fU dy)) 203::ai 0 s1 5 x0.ae.b_::ai 0 s3 23 da::(a_ da x0.ae.ah)::ai 0 dy 3 x0.bf::Lr)):=by
 unfold Sh.mY at I
 refine ce Tryz.func146 Tryz.ntmps146 fun a G=>?_
 refine go 16 fun c5 c0 a w G H=>?_
 refine dT H [0,1,2,3,4,5,6] 7 fun K=>?_
 refine fc [0,1,2,3,4,6,7,8,9,10,12,13,14,15] fun a G=>?_
 refine dx 5 fun w eX H=>?_
 obtain⟨c6,k9,I⟩:=adu I
 have k6:=cU k9 H (fun _ h=>h) (fun w H=>(H.rowS (X:=UInt8) (i:=3) rfl))
 refine dl rM k6 ?_
 rintro v w ⟨c3,rfl,H⟩
 refine ds [0,1,2,3,4,5,6,7] 8 fun a G=>?_
 refine dx 11 fun w eX H=>?_
 obtain⟨c7,l0,I⟩:=adu I
 have k7:=iU l0 H (fun _ h=>h) (fun w H=>(H.rowS (X:=SV) (i:=5) rfl)) (q6.mono fun _ _ q=>q.mono fun w H=>H.hold 6 _ rfl)
 refine dl Tryz.call143 k7 ?_
 rintro v w ⟨c4,c1,rfl,c9,H⟩
 refine ds [0,1,2,3,4,5,6,7,8,9] 10 fun a G=>?_
 refine dx 16 fun w eX H=>?_
 obtain⟨c8,l1,I⟩:=adu I
 have k8:=dV l1 H (fun _ h=>h) (fun w H=>(H.rowS (X:=Int) (i:=9) rfl))
 refine dl zK k8 ?_
 rintro v w ⟨c2,rfl,H⟩
 refine ds [0,1,2,3,4,5,6,7,8,9,10] 11 fun a G=>?_
 refine fc [17,18] fun a G=>?_
 refine ko 19 fun w eX H=>?_
 refine(bN vi (H.obj (i:=4) E) G E E E E (by rw[af.len];decide) (fT (af.c_memory _) (bu.gI _ _) (af.p_memory _ _) (by rw[af.len];decide) (by decide)) fun w k4=>?_)
 have H:=H.chg k4 (i:=4) rfl
 try dsimp only[List.set]at H
 refine dh ?_
 refine fc [20,21] fun a G=>?_
 refine ko 22 fun w eX H=>?_
 refine(bN Tryz.sizeOf28 (H.obj (i:=4) E) G E E E E (by rw[af.len];decide) (fT (af.c_memory _) (bu.ep _ _) (af.p_memory _ _) (by rw[af.len];decide) (by decide)) fun w k5=>?_)
 have H:=H.chg k5 (i:=4) rfl
 try dsimp only[List.set]at H
 refine dh ?_
 refine fc [23,24] fun a G=>?_
 refine de fun w H=>?_
 refine go 3 fun a w G H=>?_
 refine aM G H I (fun F x a w=>match x with|(d6,d7,d2,d8,d9,g0,g1)=>∃ (d3:SV) (d4:SV) (d1:List SV) (d5:SV),bw (cn (X:=UInt8) (a_ d1 d2).holds') d1 d2∧Fr 44 [(7,.int .i64 g1),(4,.int .i64 0)] a∧au w (pt c0 (af.enc (af.mk (bu.mk d6 d3 d4 s7 s9) e8 fe (some fU) d8 d5 x0.at_ x0.steps g0)) 203::ai 0 d3 5 d7::ai 0 d4 23 d1::(a_ d1 d2)::ai 0 d5 3 d9::pt b0 (af.enc (gx x0 s1 s3 s7 s9 e8 fe fU dy)) 203::ai 0 s1 5 x0.ae.b_::ai 0 s3 23 da::(a_ da x0.ae.ah)::ai 0 dy 3 x0.bf::Lr)) (fun n6 I m4 G H=>?_) ?_
 ·refine dT H [0,1,2,3,4,5,6,7,8,9,10] 11 fun K=>?_
  refine fc [0,1,3] fun a G=>?_
  refine dx 2 fun w eX H=>?_
  obtain⟨m3,I,d0⟩:=cJ I
  refine(aS (xs:=[.tmp 5,.tmp 35]) Tryz.call147 G E E (R:=fun v w=>∃ x,m3 = .inl x∧match x with|(.inl _)=>v = .func (.func 204) [.pointer (some ⟨c0,0,none⟩)].toArray [].toArray∧au w (ai 0 c2 3 c8::ai 0 c4 23 c1::(a_ c1 c7)::ai 0 c3 5 c6::pt c0 (af.enc (gx x0 c3 c4 s7 s9 e8 fe fU c2)) 203::pt c5 (b9.enc x1) 101::pt b0 (af.enc (gx x0 s1 s3 s7 s9 e8 fe fU dy)) 203::ai 0 s1 5 x0.ae.b_::ai 0 s3 23 da::(a_ da x0.ae.ah)::ai 0 dy 3 x0.bf::Lr)|(.inr (.inl _))=>v = .func (.func 205) [.pointer (some ⟨c0,0,none⟩)].toArray [].toArray∧au w (ai 0 c2 3 c8::ai 0 c4 23 c1::(a_ c1 c7)::ai 0 c3 5 c6::pt c0 (af.enc (gx x0 c3 c4 s7 s9 e8 fe fU c2)) 203::pt c5 (b9.enc x1) 101::pt b0 (af.enc (gx x0 s1 s3 s7 s9 e8 fe fU dy)) 203::ai 0 s1 5 x0.ae.b_::ai 0 s3 23 da::(a_ da x0.ae.ah)::ai 0 dy 3 x0.bf::Lr)|(.inr (.inr (.inl _)))=>v = .func (.func 206) [.pointer (some ⟨c0,0,none⟩)].toArray [].toArray∧au w (ai 0 c2 3 c8::ai 0 c4 23 c1::(a_ c1 c7)::ai 0 c3 5 c6::pt c0 (af.enc (gx x0 c3 c4 s7 s9 e8 fe fU c2)) 203::pt c5 (b9.enc x1) 101::pt b0 (af.enc (gx x0 s1 s3 s7 s9 e8 fe fU dy)) 203::ai 0 s1 5 x0.ae.b_::ai 0 s3 23 da::(a_ da x0.ae.ah)::ai 0 dy 3 x0.bf::Lr)|(.inr (.inr (.inr (.inl _))))=>v = .func (.func 207) [.pointer (some ⟨c0,0,none⟩)].toArray [].toArray∧au w (ai 0 c2 3 c8::ai 0 c4 23 c1::(a_ c1 c7)::ai 0 c3 5 c6::pt c0 (af.enc (gx x0 c3 c4 s7 s9 e8 fe fU c2)) 203::pt c5 (b9.enc x1) 101::pt b0 (af.enc (gx x0 s1 s3 s7 s9 e8 fe fU dy)) 203::ai 0 s1 5 x0.ae.b_::ai 0 s3 23 da::(a_ da x0.ae.ah)::ai 0 dy 3 x0.bf::Lr)|(.inr (.inr (.inr (.inr (.inl _)))))=>v = .func (.func 208) [.pointer (some ⟨c0,0,none⟩)].toArray [].toArray∧au w (ai 0 c2 3 c8::ai 0 c4 23 c1::(a_ c1 c7)::ai 0 c3 5 c6::pt c0 (af.enc (gx x0 c3 c4 s7 s9 e8 fe fU c2)) 203::pt c5 (b9.enc x1) 101::pt b0 (af.enc (gx x0 s1 s3 s7 s9 e8 fe fU dy)) 203::ai 0 s1 5 x0.ae.b_::ai 0 s3 23 da::(a_ da x0.ae.ah)::ai 0 dy 3 x0.bf::Lr)|(.inr (.inr (.inr (.inr (.inr (.inl _))))))=>v = .func (.func 209) [.pointer (some ⟨c0,0,none⟩)].toArray [].toArray∧au w (ai 0 c2 3 c8::ai 0 c4 23 c1::(a_ c1 c7)::ai 0 c3 5 c6::pt c0 (af.enc (gx x0 c3 c4 s7 s9 e8 fe fU c2)) 203::pt c5 (b9.enc x1) 101::pt b0 (af.enc (gx x0 s1 s3 s7 s9 e8 fe fU dy)) 203::ai 0 s1 5 x0.ae.b_::ai 0 s3 23 da::(a_ da x0.ae.ah)::ai 0 dy 3 x0.bf::Lr)|(.inr (.inr (.inr (.inr (.inr (.inr (.inl _)))))))=>v = .func (.func 210) [.pointer (some ⟨c0,0,none⟩)].toArray [].toArray∧au w (ai 0 c2 3 c8::ai 0 c4 23 c1::(a_ c1 c7)::ai 0 c3 5 c6::pt c0 (af.enc (gx x0 c3 c4 s7 s9 e8 fe fU c2)) 203::pt c5 (b9.enc x1) 101::pt b0 (af.enc (gx x0 s1 s3 s7 s9 e8 fe fU dy)) 203::ai 0 s1 5 x0.ae.b_::ai 0 s3 23 da::(a_ da x0.ae.ah)::ai 0 dy 3 x0.bf::Lr)|(.inr (.inr (.inr (.inr (.inr (.inr (.inr (.inl _))))))))=>v = .func (.func 211) [.pointer (some ⟨c0,0,none⟩)].toArray [].toArray∧au w (ai 0 c2 3 c8::ai 0 c4 23 c1::(a_ c1 c7)::ai 0 c3 5 c6::pt c0 (af.enc (gx x0 c3 c4 s7 s9 e8 fe fU c2)) 203::pt c5 (b9.enc x1) 101::pt b0 (af.enc (gx x0 s1 s3 s7 s9 e8 fe fU dy)) 203::ai 0 s1 5 x0.ae.b_::ai 0 s3 23 da::(a_ da x0.ae.ah)::ai 0 dy 3 x0.bf::Lr)|(.inr (.inr (.inr (.inr (.inr (.inr (.inr (.inr (.inl _)))))))))=>v = .func (.func 212) [.pointer (some ⟨c0,0,none⟩)].toArray [].toArray∧au w (ai 0 c2 3 c8::ai 0 c4 23 c1::(a_ c1 c7)::ai 0 c3 5 c6::pt c0 (af.enc (gx x0 c3 c4 s7 s9 e8 fe fU c2)) 203::pt c5 (b9.enc x1) 101::pt b0 (af.enc (gx x0 s1 s3 s7 s9 e8 fe fU dy)) 203::ai 0 s1 5 x0.ae.b_::ai 0 s3 23 da::(a_ da x0.ae.ah)::ai 0 dy 3 x0.bf::Lr)|(.inr (.inr (.inr (.inr (.inr (.inr (.inr (.inr (.inr _)))))))))=>v = .func (.func 213) [.pointer (some ⟨c0,0,none⟩)].toArray [].toArray∧au w (ai 0 c2 3 c8::ai 0 c4 23 c1::(a_ c1 c7)::ai 0 c3 5 c6::pt c0 (af.enc (gx x0 c3 c4 s7 s9 e8 fe fU c2)) 203::pt c5 (b9.enc x1) 101::pt b0 (af.enc (gx x0 s1 s3 s7 s9 e8 fe fU dy)) 203::ai 0 s1 5 x0.ae.b_::ai 0 s3 23 da::(a_ da x0.ae.ah)::ai 0 dy 3 x0.bf::Lr)) ?_ fun v w hR=>?_)
  ·refine aV Tryz.func147 E Tryz.ntmps147 E fun a G=>?_
   refine go 14 fun a w G H=>?_
   refine cc I (fun g2 I=>?_) fun g2 I=>?_
   ·refine go 8 fun a w G H=>?_
    obtain rfl:=oI I
    refine aT kO G E ?_
    exact⟨(inl ()),E,E,H⟩
   refine go 7 fun a w G H=>?_
   refine cc I (fun g3 I=>?_) fun g3 I=>?_
   ·refine go 8 fun a w G H=>?_
    obtain rfl:=oI I
    refine aT kO G E ?_
    exact⟨(inr (inl ())),E,E,H⟩
   refine go 7 fun a w G H=>?_
   refine cc I (fun g4 I=>?_) fun g4 I=>?_
   ·refine go 8 fun a w G H=>?_
    obtain rfl:=oI I
    refine aT kO G E ?_
    exact⟨(inr (inr (inl ()))),E,E,H⟩
   refine go 7 fun a w G H=>?_
   refine cc I (fun g5 I=>?_) fun g5 I=>?_
   ·refine go 8 fun a w G H=>?_
    obtain rfl:=oI I
    refine aT kO G E ?_
    exact⟨(inr (inr (inr (inl ())))),E,E,H⟩
   refine go 7 fun a w G H=>?_
   refine cc I (fun g6 I=>?_) fun g6 I=>?_
   ·refine go 8 fun a w G H=>?_
    obtain rfl:=oI I
    refine aT kO G E ?_
    exact⟨(inr (inr (inr (inr (inl ()))))),E,E,H⟩
   refine go 7 fun a w G H=>?_
   refine cc I (fun g7 I=>?_) fun g7 I=>?_
   ·refine go 8 fun a w G H=>?_
    obtain rfl:=oI I
    refine aT kO G E ?_
    exact⟨(inr (inr (inr (inr (inr (inl ())))))),E,E,H⟩
   refine go 7 fun a w G H=>?_
   refine cc I (fun g8 I=>?_) fun g8 I=>?_
   ·refine go 8 fun a w G H=>?_
    obtain rfl:=oI I
    refine aT kO G E ?_
    exact⟨(inr (inr (inr (inr (inr (inr (inl ()))))))),E,E,H⟩
   refine go 7 fun a w G H=>?_
   refine cc I (fun g9 I=>?_) fun g9 I=>?_
   ·refine go 8 fun a w G H=>?_
    obtain rfl:=oI I
    refine aT kO G E ?_
    exact⟨(inr (inr (inr (inr (inr (inr (inr (inl ())))))))),E,E,H⟩
   refine go 7 fun a w G H=>?_
   refine cc I (fun i0 I=>?_) fun i0 I=>?_
   ·refine go 8 fun a w G H=>?_
    obtain rfl:=oI I
    refine aT kO G E ?_
    exact⟨(inr (inr (inr (inr (inr (inr (inr (inr (inl ()))))))))),E,E,H⟩
   refine go 11 fun a w G H=>?_
   obtain rfl:=oI I
   refine aT kO G E ?_
   exact⟨(inr (inr (inr (inr (inr (inr (inr (inr (inr ()))))))))),E,E,H⟩
  obtain⟨m2,rfl,hR⟩:=hR
  rcases m2 with⟨⟩|⟨⟩|⟨⟩|⟨⟩|⟨⟩|⟨⟩|⟨⟩|⟨⟩|⟨⟩|⟨⟩
  ·obtain⟨rfl,H⟩:=hR
   replace I:Sh.sT x0 x1 c6 c7 c8=_:=d0
   unfold Sh.sT at I
   try dsimp only[List.set]at H
   refine ds [0,1,2,3,4,5,6,7,8,9,10] 11 fun a G=>?_
   refine dx 4 fun w eX H=>?_
   obtain⟨m6,j4,I⟩:=adu I
   have i1:=hH j4 (f_ H [4,3,1,2,0,5,6,7,8,9,10] 11) (Bf:=Bf) (tb S) c9 f8 f10 f12 f14 f16
   refine(dP (xs:=[.tmp 37]) Tryz.call204 G E E E i1 fun v w hR=>?_)
   obtain⟨rfl,H⟩:=hR
   refine dh fun a G=>?_
   refine fc [5,6,7,8,9] fun a G=>?_
   refine de fun w H=>?_
   refine aB ?_
   exact jr I ⟨c3,c4,c1,c2,c9,G.t,bU H [0,1,2,3,4,6,7,8,9,10] 11 E⟩
  ·obtain⟨rfl,H⟩:=hR
   replace I:Sh.sU x0 x1 c6 c7 c8=_:=d0
   unfold Sh.sU at I
   try dsimp only[List.set]at H
   refine ds [0,1,2,3,4,5,6,7,8,9,10] 11 fun a G=>?_
   refine dx 4 fun w eX H=>?_
   obtain⟨m7,j5,I⟩:=adu I
   have i2:=kM j5 (f_ H [4,3,1,2,0,5,6,7,8,9,10] 11) (Bf:=Bf) (tb S) c9 f8 f10 f12 f14 f16
   refine(dP (xs:=[.tmp 37]) Tryz.call205 G E E E i2 fun v w hR=>?_)
   obtain⟨rfl,H⟩:=hR
   refine dh fun a G=>?_
   refine fc [5,6,7,8,9] fun a G=>?_
   refine de fun w H=>?_
   refine aB ?_
   exact jr I ⟨c3,c4,c1,c2,c9,G.t,bU H [0,1,2,3,4,6,7,8,9,10] 11 E⟩
  ·obtain⟨rfl,H⟩:=hR
   replace I:Sh.sV x0 x1 c6 c7 c8=_:=d0
   unfold Sh.sV at I
   try dsimp only[List.set]at H
   refine ds [0,1,2,3,4,5,6,7,8,9,10] 11 fun a G=>?_
   refine dx 4 fun w eX H=>?_
   obtain⟨m8,j6,I⟩:=adu I
   have i3:=iT j6 (f_ H [4,3,1,2,0,5,6,7,8,9,10] 11) (Bf:=Bf) (tb S) c9 f8 f10 f12 f14 f16
   refine(dP (xs:=[.tmp 37]) Tryz.call206 G E E E i3 fun v w hR=>?_)
   obtain⟨rfl,H⟩:=hR
   refine dh fun a G=>?_
   refine fc [5,6,7,8,9] fun a G=>?_
   refine de fun w H=>?_
   refine aB ?_
   exact jr I ⟨c3,c4,c1,c2,c9,G.t,bU H [0,1,2,3,4,6,7,8,9,10] 11 E⟩
  ·obtain⟨rfl,H⟩:=hR
   replace I:Sh.sW x0 x1 c6 c7 c8=_:=d0
   unfold Sh.sW at I
   try dsimp only[List.set]at H
   refine ds [0,1,2,3,4,5,6,7,8,9,10] 11 fun a G=>?_
   refine dx 4 fun w eX H=>?_
   obtain⟨m9,j7,I⟩:=adu I
   have i4:=kL j7 (f_ H [4,3,1,2,0,5,6,7,8,9,10] 11) (Bf:=Bf) (tb S) c9 f8 f10 f12 f14 f16
   refine(dP (xs:=[.tmp 37]) Tryz.call207 G E E E i4 fun v w hR=>?_)
   obtain⟨rfl,H⟩:=hR
   refine dh fun a G=>?_
   refine fc [5,6,7,8,9] fun a G=>?_
   refine de fun w H=>?_
   refine aB ?_
   exact jr I ⟨c3,c4,c1,c2,c9,G.t,bU H [0,1,2,3,4,6,7,8,9,10] 11 E⟩
  ·obtain⟨rfl,H⟩:=hR
   replace I:Sh.sX x0 x1 c6 c7 c8=_:=d0
   unfold Sh.sX at I
   try dsimp only[List.set]at H
   refine ds [0,1,2,3,4,5,6,7,8,9,10] 11 fun a G=>?_
   refine dx 4 fun w eX H=>?_
   obtain⟨n0,j8,I⟩:=adu I
   have i5:=jV j8 (f_ H [4,3,1,2,0,5,6,7,8,9,10] 11) (Bf:=Bf) (tb S) c9 f8 f10 f12 f14 f16
   refine(dP (xs:=[.tmp 37]) Tryz.call208 G E E E i5 fun v w hR=>?_)
   obtain⟨l5,l6,j1,rfl,l2,H⟩:=hR
   refine dh fun a G=>?_
   refine fc [5,6,7,8,9] fun a G=>?_
   refine de fun w H=>?_
   refine aB ?_
   exact jr I ⟨l5,l6,j1,c2,l2,G.t,bU H [0,1,2,3,4,6,7,8,9,10] 11 E⟩
  ·obtain⟨rfl,H⟩:=hR
   replace I:Sh.sY x0 x1 c6 c7 c8=_:=d0
   unfold Sh.sY at I
   try dsimp only[List.set]at H
   refine ds [0,1,2,3,4,5,6,7,8,9,10] 11 fun a G=>?_
   refine dx 4 fun w eX H=>?_
   obtain⟨n1,j9,I⟩:=adu I
   have i6:=kI j9 (f_ H [4,3,1,2,0,5,6,7,8,9,10] 11) (Bf:=Bf) (tb S) c9 f8 f10 f12 f14 f16
   refine(dP (xs:=[.tmp 37]) Tryz.call209 G E E E i6 fun v w hR=>?_)
   obtain⟨l7,l8,j2,rfl,l3,H⟩:=hR
   refine dh fun a G=>?_
   refine fc [5,6,7,8,9] fun a G=>?_
   refine de fun w H=>?_
   refine aB ?_
   exact jr I ⟨l7,l8,j2,c2,l3,G.t,bU H [0,1,2,3,4,6,7,8,9,10] 11 E⟩
  ·obtain⟨rfl,H⟩:=hR
   replace I:Sh.sZ x0 x1 c6 c7 c8=_:=d0
   unfold Sh.sZ at I
   try dsimp only[List.set]at H
   refine ds [0,1,2,3,4,5,6,7,8,9,10] 11 fun a G=>?_
   refine dx 4 fun w eX H=>?_
   obtain⟨n2,k0,I⟩:=adu I
   have i7:=kK k0 (f_ H [4,3,1,2,0,5,6,7,8,9,10] 11) (Bf:=Bf) (tb S) c9 f8 f10 f12 f14 f16
   refine(dP (xs:=[.tmp 37]) Tryz.call210 G E E E i7 fun v w hR=>?_)
   obtain⟨rfl,H⟩:=hR
   refine ds [4,2,3,1,0,5,6,7,8,9,10] 11 fun a G=>?_
   refine fc [5,6,7,8,9] fun a G=>?_
   refine de fun w H=>?_
   refine aB ?_
   exact jr I ⟨c3,c4,c1,c2,c9,G.t,bU H [0,1,2,3,4,6,7,8,9,10] 11 E⟩
  ·obtain⟨rfl,H⟩:=hR
   replace I:Sh.qW x0 x1 c6 c7 c8=_:=d0
   unfold Sh.qW at I
   try dsimp only[List.set]at H
   refine ds [0,1,2,3,4,5,6,7,8,9,10] 11 fun a G=>?_
   refine dx 4 fun w eX H=>?_
   obtain⟨n3,k1,I⟩:=adu I
   have i8:=jP k1 (f_ H [4,3,1,2,0,5,6,7,8,9,10] 11) (Bf:=Bf) (tb S) c9 f8 f10 f12 f14 f16
   refine(dP (xs:=[.tmp 37]) Tryz.call211 G E E E i8 fun v w hR=>?_)
   obtain⟨rfl,H⟩:=hR
   refine ds [4,2,3,1,0,5,6,7,8,9,10] 11 fun a G=>?_
   refine fc [5,6,7,8,9] fun a G=>?_
   refine de fun w H=>?_
   refine aB ?_
   exact jr I ⟨c3,c4,c1,c2,c9,G.t,bU H [0,1,2,3,4,6,7,8,9,10] 11 E⟩
  ·obtain⟨rfl,H⟩:=hR
   replace I:Sh.qX x0 x1 c6 c7 c8=_:=d0
   unfold Sh.qX at I
   try dsimp only[List.set]at H
   refine ds [0,1,2,3,4,5,6,7,8,9,10] 11 fun a G=>?_
   refine dx 4 fun w eX H=>?_
   obtain⟨n4,k2,I⟩:=adu I
   have i9:=kJ k2 (f_ H [4,3,1,2,0,5,6,7,8,9,10] 11) (Bf:=Bf) (tb S) c9 f8 f10 f12 f14 f16
   refine(dP (xs:=[.tmp 37]) Tryz.call212 G E E E i9 fun v w hR=>?_)
   obtain⟨l9,m0,j3,m1,rfl,l4,H⟩:=hR
   refine dh fun a G=>?_
   refine fc [5,6,7,8,9] fun a G=>?_
   refine de fun w H=>?_
   refine aB ?_
   exact jr I ⟨l9,m0,j3,m1,l4,G.t,bU H [0,1,2,3,4,6,7,8,9,10] 11 E⟩
  obtain⟨rfl,H⟩:=hR
  replace I:Sh.qY x0 x1 c6 c7 c8=_:=d0
  unfold Sh.qY at I
  try dsimp only[List.set]at H
  refine ds [0,1,2,3,4,5,6,7,8,9,10] 11 fun a G=>?_
  refine dx 4 fun w eX H=>?_
  obtain⟨n5,k3,I⟩:=adu I
  have j0:=jU k3 (f_ H [4,3,1,2,0,5,6,7,8,9,10] 11) (Bf:=Bf) (tb S) c9 f8 f10 f12 f14 f16
  refine(dP (xs:=[.tmp 37]) Tryz.call213 G E E E j0 fun v w hR=>?_)
  obtain⟨rfl,H⟩:=hR
  refine dh fun a G=>?_
  refine fc [5,6,7,8,9] fun a G=>?_
  refine de fun w H=>?_
  refine aB ?_
  exact jr I ⟨c3,c4,c1,c2,c9,G.t,bU H [0,1,2,3,4,6,7,8,9,10] 11 E⟩
 rintro⟨d6,d7,d2,d8,d9,g0,g1⟩ a w I ⟨d3,d4,d1,d5,m5,G,H⟩
 replace I:Sh.tA d6 d7 d2 d8 d9 g0 g1=_:=I
 unfold Sh.tA at I
 exact lf
theorem eK{x0:aj}{s1 s3:SV}{da:List SV}{s7 s9 e8 fe:SV}{fU:Nat}{dy:SV}{b0:Nat}{out:(Int×aj)}{w0:World}{Bf:World→Prop}{Lr:List dw}(I:Sh.bA x0=some out)(H:au w0 (pt b0 (af.enc (gx x0 s1 s3 s7 s9 e8 fe fU dy)) 203::ai 0 s1 5 x0.ae.b_::ai 0 s3 23 da::(a_ da x0.ae.ah)::ai 0 dy 3 x0.bf::Lr))(S:∀ w,au w Lr→Bf w)(q6:bw (cn (X:=UInt8) (a_ da x0.ae.ah).holds') da x0.ae.ah)(f8:cn Bf s7 x0.ae.data)(f10:cn Bf s9 x0.ae.sizes)(f12:cn Bf e8 x0.code)(f14:cn Bf fe x0.dq)(f16:jk Bf fU x0.cg):Calls Tryz.prog 66 #[.pointer (some ⟨b0,0,none⟩)] w0 (gf fun v w'=>∃ (d9:SV) (g0:SV) (c7:List SV) (g1:SV),v = .int .i64 out.1∧bw (cn (X:=UInt8) (a_ c7 out.2.ae.ah).holds') c7 out.2.ae.ah∧au w' (pt b0 (af.enc (gx out.2 d9 g0 s7 s9 e8 fe fU g1)) 203::ai 0 d9 5 out.2.ae.b_::ai 0 g0 23 c7::(a_ c7 out.2.ae.ah)::ai 0 g1 3 out.2.bf::Lr)):=by
 unfold Sh.bA at I
 refine ce Tryz.func66 Tryz.ntmps66 fun a G=>?_
 refine go 14 fun a w G H=>?_
 refine cc I (fun g2 I=>?_) fun g2 I=>?_
 ·refine go 6 fun a w G H=>?_
  obtain rfl:=oI I
  refine aT Cf G E ?_
  exact⟨s1,s3,da,dy,E,q6,H⟩
 refine go 3 fun a w G H=>?_
 refine dT H [0,1,2,3,4] 5 fun K=>?_
 obtain⟨c0,m8,I⟩:=adu I
 refine fc [0,1,2,3,4,5,6,7,8,9,10,11] fun c1 a G=>?_
 refine de fun w H=>?_
 refine go 2 fun a w G H=>?_
 refine jm (pt c1 (b9.enc c0) 101::pt b0 (af.enc (gx x0 s1 s3 s7 s9 e8 fe fU dy)) 203::ai 0 s1 5 x0.ae.b_::ai 0 s3 23 da::(a_ da x0.ae.ah)::ai 0 dy 3 x0.bf::Lr) G H I [0,2,3] (fun d0 u=>(4,.bool d0)::u) (fun n0 I m5 G H=>?_) fun d0 a w I G H=>?_
 ·exact lf
 replace I:Sh.sR x0 c0 d0=_:=I
 unfold Sh.sR at I
 refine go 3 fun a w G H=>?_
 refine jm (pt c1 (b9.enc c0) 101::pt b0 (af.enc (gx x0 s1 s3 s7 s9 e8 fe fU dy)) 203::ai 0 s1 5 x0.ae.b_::ai 0 s3 23 da::(a_ da x0.ae.ah)::ai 0 dy 3 x0.bf::Lr) G H I [0,2,3] (fun d1 u=>(50,.bool d1)::u) (fun n1 I m6 G H=>?_) fun d1 a w I G H=>?_
 ·refine dT H [0,1,2,3,4,5] 6 fun K=>?_
  refine fc [0,1,2] fun a G=>?_
  refine gs I (fun g3 I=>?_) fun g3 I=>?_
  ·refine fc [3,4,5,6,7] fun a G=>?_
   refine gs I (fun g4 I=>?_) fun g4 I=>?_
   ·refine fc [8,9,10,11,12,13,14,15,16,17,18,19] fun a G=>?_
    refine de fun w H=>?_
    exact lf
   refine fc [8,9,10,11,12,13,14,15,16,17,18,19] fun a G=>?_
   refine de fun w H=>?_
   exact lf
  refine fc [3,4,5,6,7,8,9,10,11,12,13,14,15,16,17,18,19] fun a G=>?_
  refine de fun w H=>?_
  exact lf
 replace I:Sh.nB x0 c0 d1=_:=I
 unfold Sh.nB at I
 refine aB ?_
 refine cc I (fun g5 I=>?_) fun g5 I=>?_
 ·refine go 4 fun a w G H=>?_
  obtain⟨n4,k2,I⟩:=adu I
  have i8:=pD k2 (f_ H [1,2,3,4,5,0] 6) (Bf:=Bf) (tb S) q6 f8 f10 f12 f14 f16
  refine cl Tryz.call146 i8 ?_
  rintro v w ⟨rfl,H⟩ a G
  refine go 4 fun a w G H=>?_
  obtain rfl:=oI I
  refine aT Cf G E ?_
  exact⟨s1,s3,da,dy,E,q6,bU H [0,1,2,3,4] 6 E⟩
 refine go 3 fun a w G H=>?_
 refine aM G H I (fun F x a w=>match x with|(d2,d3,c8,d4,d5,d6,d7,d8)=>∃ (c4:SV) (c5:SV) (c3:List SV) (c6:SV),bw (cn (X:=UInt8) (a_ c3 c8).holds') c3 c8∧Fr 111 [(5,.int .i64 d7),(6,.int .i64 d8),(0,.pointer (some ⟨b0,0,none⟩)),(2,.int .i64 0)] a∧au w (pt b0 (af.enc (af.mk (bu.mk d2 c4 c5 s7 s9) e8 fe (some fU) d4 c6 x0.at_ x0.steps d6)) 203::ai 0 c4 5 d3::ai 0 c5 23 c3::(a_ c3 c8)::ai 0 c6 3 d5::Lr)) (fun n2 I m7 G H=>?_) ?_
 ·refine dT H [0,1,2,3,4,5] 6 fun K=>?_
  refine fc [0,1,2,4] fun a G=>?_
  refine dx 3 fun w eX H=>?_
  obtain⟨l3,I,c2⟩:=cJ I
  refine(aS (xs:=[.tmp 55,.tmp 57]) Tryz.call147 G E E (R:=fun v w=>∃ x,l3 = .inl x∧match x with|(.inl _)=>v = .func (.func 204) [.pointer (some ⟨b0,0,none⟩)].toArray [].toArray∧au w (pt c1 (b9.enc c0) 101::pt b0 (af.enc (gx x0 s1 s3 s7 s9 e8 fe fU dy)) 203::ai 0 s1 5 x0.ae.b_::ai 0 s3 23 da::(a_ da x0.ae.ah)::ai 0 dy 3 x0.bf::Lr)|(.inr (.inl _))=>v = .func (.func 205) [.pointer (some ⟨b0,0,none⟩)].toArray [].toArray∧au w (pt c1 (b9.enc c0) 101::pt b0 (af.enc (gx x0 s1 s3 s7 s9 e8 fe fU dy)) 203::ai 0 s1 5 x0.ae.b_::ai 0 s3 23 da::(a_ da x0.ae.ah)::ai 0 dy 3 x0.bf::Lr)|(.inr (.inr (.inl _)))=>v = .func (.func 206) [.pointer (some ⟨b0,0,none⟩)].toArray [].toArray∧au w (pt c1 (b9.enc c0) 101::pt b0 (af.enc (gx x0 s1 s3 s7 s9 e8 fe fU dy)) 203::ai 0 s1 5 x0.ae.b_::ai 0 s3 23 da::(a_ da x0.ae.ah)::ai 0 dy 3 x0.bf::Lr)|(.inr (.inr (.inr (.inl _))))=>v = .func (.func 207) [.pointer (some ⟨b0,0,none⟩)].toArray [].toArray∧au w (pt c1 (b9.enc c0) 101::pt b0 (af.enc (gx x0 s1 s3 s7 s9 e8 fe fU dy)) 203::ai 0 s1 5 x0.ae.b_::ai 0 s3 23 da::(a_ da x0.ae.ah)::ai 0 dy 3 x0.bf::Lr)|(.inr (.inr (.inr (.inr (.inl _)))))=>v = .func (.func 208) [.pointer (some ⟨b0,0,none⟩)].toArray [].toArray∧au w (pt c1 (b9.enc c0) 101::pt b0 (af.enc (gx x0 s1 s3 s7 s9 e8 fe fU dy)) 203::ai 0 s1 5 x0.ae.b_::ai 0 s3 23 da::(a_ da x0.ae.ah)::ai 0 dy 3 x0.bf::Lr)|(.inr (.inr (.inr (.inr (.inr (.inl _))))))=>v = .func (.func 209) [.pointer (some ⟨b0,0,none⟩)].toArray [].toArray∧au w (pt c1 (b9.enc c0) 101::pt b0 (af.enc (gx x0 s1 s3 s7 s9 e8 fe fU dy)) 203::ai 0 s1 5 x0.ae.b_::ai 0 s3 23 da::(a_ da x0.ae.ah)::ai 0 dy 3 x0.bf::Lr)|(.inr (.inr (.inr (.inr (.inr (.inr (.inl _)))))))=>v = .func (.func 210) [.pointer (some ⟨b0,0,none⟩)].toArray [].toArray∧au w (pt c1 (b9.enc c0) 101::pt b0 (af.enc (gx x0 s1 s3 s7 s9 e8 fe fU dy)) 203::ai 0 s1 5 x0.ae.b_::ai 0 s3 23 da::(a_ da x0.ae.ah)::ai 0 dy 3 x0.bf::Lr)|(.inr (.inr (.inr (.inr (.inr (.inr (.inr (.inl _))))))))=>v = .func (.func 211) [.pointer (some ⟨b0,0,none⟩)].toArray [].toArray∧au w (pt c1 (b9.enc c0) 101::pt b0 (af.enc (gx x0 s1 s3 s7 s9 e8 fe fU dy)) 203::ai 0 s1 5 x0.ae.b_::ai 0 s3 23 da::(a_ da x0.ae.ah)::ai 0 dy 3 x0.bf::Lr)|(.inr (.inr (.inr (.inr (.inr (.inr (.inr (.inr (.inl _)))))))))=>v = .func (.func 212) [.pointer (some ⟨b0,0,none⟩)].toArray [].toArray∧au w (pt c1 (b9.enc c0) 101::pt b0 (af.enc (gx x0 s1 s3 s7 s9 e8 fe fU dy)) 203::ai 0 s1 5 x0.ae.b_::ai 0 s3 23 da::(a_ da x0.ae.ah)::ai 0 dy 3 x0.bf::Lr)|(.inr (.inr (.inr (.inr (.inr (.inr (.inr (.inr (.inr _)))))))))=>v = .func (.func 213) [.pointer (some ⟨b0,0,none⟩)].toArray [].toArray∧au w (pt c1 (b9.enc c0) 101::pt b0 (af.enc (gx x0 s1 s3 s7 s9 e8 fe fU dy)) 203::ai 0 s1 5 x0.ae.b_::ai 0 s3 23 da::(a_ da x0.ae.ah)::ai 0 dy 3 x0.bf::Lr)) ?_ fun v w hR=>?_)
  ·refine aV Tryz.func147 E Tryz.ntmps147 E fun a G=>?_
   refine go 14 fun a w G H=>?_
   refine cc I (fun g6 I=>?_) fun g6 I=>?_
   ·refine go 8 fun a w G H=>?_
    obtain rfl:=oI I
    refine aT kO G E ?_
    exact⟨(inl ()),E,E,H⟩
   refine go 7 fun a w G H=>?_
   refine cc I (fun g7 I=>?_) fun g7 I=>?_
   ·refine go 8 fun a w G H=>?_
    obtain rfl:=oI I
    refine aT kO G E ?_
    exact⟨(inr (inl ())),E,E,H⟩
   refine go 7 fun a w G H=>?_
   refine cc I (fun g8 I=>?_) fun g8 I=>?_
   ·refine go 8 fun a w G H=>?_
    obtain rfl:=oI I
    refine aT kO G E ?_
    exact⟨(inr (inr (inl ()))),E,E,H⟩
   refine go 7 fun a w G H=>?_
   refine cc I (fun g9 I=>?_) fun g9 I=>?_
   ·refine go 8 fun a w G H=>?_
    obtain rfl:=oI I
    refine aT kO G E ?_
    exact⟨(inr (inr (inr (inl ())))),E,E,H⟩
   refine go 7 fun a w G H=>?_
   refine cc I (fun i0 I=>?_) fun i0 I=>?_
   ·refine go 8 fun a w G H=>?_
    obtain rfl:=oI I
    refine aT kO G E ?_
    exact⟨(inr (inr (inr (inr (inl ()))))),E,E,H⟩
   refine go 7 fun a w G H=>?_
   refine cc I (fun i1 I=>?_) fun i1 I=>?_
   ·refine go 8 fun a w G H=>?_
    obtain rfl:=oI I
    refine aT kO G E ?_
    exact⟨(inr (inr (inr (inr (inr (inl ())))))),E,E,H⟩
   refine go 7 fun a w G H=>?_
   refine cc I (fun i2 I=>?_) fun i2 I=>?_
   ·refine go 8 fun a w G H=>?_
    obtain rfl:=oI I
    refine aT kO G E ?_
    exact⟨(inr (inr (inr (inr (inr (inr (inl ()))))))),E,E,H⟩
   refine go 7 fun a w G H=>?_
   refine cc I (fun i3 I=>?_) fun i3 I=>?_
   ·refine go 8 fun a w G H=>?_
    obtain rfl:=oI I
    refine aT kO G E ?_
    exact⟨(inr (inr (inr (inr (inr (inr (inr (inl ())))))))),E,E,H⟩
   refine go 7 fun a w G H=>?_
   refine cc I (fun i4 I=>?_) fun i4 I=>?_
   ·refine go 8 fun a w G H=>?_
    obtain rfl:=oI I
    refine aT kO G E ?_
    exact⟨(inr (inr (inr (inr (inr (inr (inr (inr (inl ()))))))))),E,E,H⟩
   refine go 11 fun a w G H=>?_
   obtain rfl:=oI I
   refine aT kO G E ?_
   exact⟨(inr (inr (inr (inr (inr (inr (inr (inr (inr ()))))))))),E,E,H⟩
  obtain⟨m4,rfl,hR⟩:=hR
  rcases m4 with⟨⟩|⟨⟩|⟨⟩|⟨⟩|⟨⟩|⟨⟩|⟨⟩|⟨⟩|⟨⟩|⟨⟩
  ·obtain⟨rfl,H⟩:=hR
   replace I:Sh.sM x0 c0=_:=c2
   unfold Sh.sM at I
   try dsimp only[List.set]at H
   refine ds [0,1,2,3,4,5] 6 fun a G=>?_
   refine dx 5 fun w eX H=>?_
   obtain⟨n5,k3,I⟩:=adu I
   have i9:=hH k3 (f_ H [1,2,3,4,5,0] 6) (Bf:=Bf) (tb S) q6 f8 f10 f12 f14 f16
   refine(dP (xs:=[.tmp 59]) Tryz.call204 G E E E i9 fun v w hR=>?_)
   obtain⟨rfl,H⟩:=hR
   refine dh fun a G=>?_
   refine fc [6,7,8,9,10] fun a G=>?_
   refine de fun w H=>?_
   refine aB ?_
   exact jr I ⟨s1,s3,da,dy,q6,G.t,bU H [0,1,2,3,4] 6 E⟩
  ·obtain⟨rfl,H⟩:=hR
   replace I:Sh.sN x0 c0=_:=c2
   unfold Sh.sN at I
   try dsimp only[List.set]at H
   refine ds [0,1,2,3,4,5] 6 fun a G=>?_
   refine dx 5 fun w eX H=>?_
   obtain⟨n6,k4,I⟩:=adu I
   have j0:=kM k4 (f_ H [1,2,3,4,5,0] 6) (Bf:=Bf) (tb S) q6 f8 f10 f12 f14 f16
   refine(dP (xs:=[.tmp 59]) Tryz.call205 G E E E j0 fun v w hR=>?_)
   obtain⟨rfl,H⟩:=hR
   refine dh fun a G=>?_
   refine fc [6,7,8,9,10] fun a G=>?_
   refine de fun w H=>?_
   refine aB ?_
   exact jr I ⟨s1,s3,da,dy,q6,G.t,bU H [0,1,2,3,4] 6 E⟩
  ·obtain⟨rfl,H⟩:=hR
   replace I:Sh.sO x0 c0=_:=c2
   unfold Sh.sO at I
   try dsimp only[List.set]at H
   refine ds [0,1,2,3,4,5] 6 fun a G=>?_
   refine dx 5 fun w eX H=>?_
   obtain⟨n7,k5,I⟩:=adu I
   have j1:=iT k5 (f_ H [1,2,3,4,5,0] 6) (Bf:=Bf) (tb S) q6 f8 f10 f12 f14 f16
   refine(dP (xs:=[.tmp 59]) Tryz.call206 G E E E j1 fun v w hR=>?_)
   obtain⟨rfl,H⟩:=hR
   refine dh fun a G=>?_
   refine fc [6,7,8,9,10] fun a G=>?_
   refine de fun w H=>?_
   refine aB ?_
   exact jr I ⟨s1,s3,da,dy,q6,G.t,bU H [0,1,2,3,4] 6 E⟩
  ·obtain⟨rfl,H⟩:=hR
   replace I:Sh.sP x0 c0=_:=c2
   unfold Sh.sP at I
   try dsimp only[List.set]at H
   refine ds [0,1,2,3,4,5] 6 fun a G=>?_
   refine dx 5 fun w eX H=>?_
   obtain⟨n8,k6,I⟩:=adu I
   have j2:=kL k6 (f_ H [1,2,3,4,5,0] 6) (Bf:=Bf) (tb S) q6 f8 f10 f12 f14 f16
   refine(dP (xs:=[.tmp 59]) Tryz.call207 G E E E j2 fun v w hR=>?_)
   obtain⟨rfl,H⟩:=hR
   refine dh fun a G=>?_
   refine fc [6,7,8,9,10] fun a G=>?_
   refine de fun w H=>?_
   refine aB ?_
   exact jr I ⟨s1,s3,da,dy,q6,G.t,bU H [0,1,2,3,4] 6 E⟩
  ·obtain⟨rfl,H⟩:=hR
   replace I:Sh.sQ x0 c0=_:=c2
   unfold Sh.sQ at I
   try dsimp only[List.set]at H
   refine ds [0,1,2,3,4,5] 6 fun a G=>?_
   refine dx 5 fun w eX H=>?_
   obtain⟨n9,k7,I⟩:=adu I
   have j3:=jV k7 (f_ H [1,2,3,4,5,0] 6) (Bf:=Bf) (tb S) q6 f8 f10 f12 f14 f16
   refine(dP (xs:=[.tmp 59]) Tryz.call208 G E E E j3 fun v w hR=>?_)
   obtain⟨l7,l8,j9,rfl,l4,H⟩:=hR
   refine dh fun a G=>?_
   refine fc [6,7,8,9,10] fun a G=>?_
   refine de fun w H=>?_
   refine aB ?_
   exact jr I ⟨l7,l8,j9,dy,l4,G.t,bU H [0,1,2,3,4] 6 E⟩
  ·obtain⟨rfl,H⟩:=hR
   replace I:Sh.qQ x0 c0=_:=c2
   unfold Sh.qQ at I
   try dsimp only[List.set]at H
   refine ds [0,1,2,3,4,5] 6 fun a G=>?_
   refine dx 5 fun w eX H=>?_
   obtain⟨p0,k8,I⟩:=adu I
   have j4:=kI k8 (f_ H [1,2,3,4,5,0] 6) (Bf:=Bf) (tb S) q6 f8 f10 f12 f14 f16
   refine(dP (xs:=[.tmp 59]) Tryz.call209 G E E E j4 fun v w hR=>?_)
   obtain⟨l9,m0,k0,rfl,l5,H⟩:=hR
   refine dh fun a G=>?_
   refine fc [6,7,8,9,10] fun a G=>?_
   refine de fun w H=>?_
   refine aB ?_
   exact jr I ⟨l9,m0,k0,dy,l5,G.t,bU H [0,1,2,3,4] 6 E⟩
  ·obtain⟨rfl,H⟩:=hR
   replace I:Sh.qR x0 c0=_:=c2
   unfold Sh.qR at I
   try dsimp only[List.set]at H
   refine ds [0,1,2,3,4,5] 6 fun a G=>?_
   refine dx 5 fun w eX H=>?_
   obtain⟨p1,k9,I⟩:=adu I
   have j5:=kK k9 (f_ H [1,2,3,4,5,0] 6) (Bf:=Bf) (tb S) q6 f8 f10 f12 f14 f16
   refine(dP (xs:=[.tmp 59]) Tryz.call210 G E E E j5 fun v w hR=>?_)
   obtain⟨rfl,H⟩:=hR
   refine ds [5,0,1,2,3,4] 6 fun a G=>?_
   refine fc [6,7,8,9,10] fun a G=>?_
   refine de fun w H=>?_
   refine aB ?_
   exact jr I ⟨s1,s3,da,dy,q6,G.t,bU H [0,1,2,3,4] 6 E⟩
  ·obtain⟨rfl,H⟩:=hR
   replace I:Sh.qS x0 c0=_:=c2
   unfold Sh.qS at I
   try dsimp only[List.set]at H
   refine ds [0,1,2,3,4,5] 6 fun a G=>?_
   refine dx 5 fun w eX H=>?_
   obtain⟨p2,l0,I⟩:=adu I
   have j6:=jP l0 (f_ H [1,2,3,4,5,0] 6) (Bf:=Bf) (tb S) q6 f8 f10 f12 f14 f16
   refine(dP (xs:=[.tmp 59]) Tryz.call211 G E E E j6 fun v w hR=>?_)
   obtain⟨rfl,H⟩:=hR
   refine ds [5,0,1,2,3,4] 6 fun a G=>?_
   refine fc [6,7,8,9,10] fun a G=>?_
   refine de fun w H=>?_
   refine aB ?_
   exact jr I ⟨s1,s3,da,dy,q6,G.t,bU H [0,1,2,3,4] 6 E⟩
  ·obtain⟨rfl,H⟩:=hR
   replace I:Sh.qT x0 c0=_:=c2
   unfold Sh.qT at I
   try dsimp only[List.set]at H
   refine ds [0,1,2,3,4,5] 6 fun a G=>?_
   refine dx 5 fun w eX H=>?_
   obtain⟨p3,l1,I⟩:=adu I
   have j7:=kJ l1 (f_ H [1,2,3,4,5,0] 6) (Bf:=Bf) (tb S) q6 f8 f10 f12 f14 f16
   refine(dP (xs:=[.tmp 59]) Tryz.call212 G E E E j7 fun v w hR=>?_)
   obtain⟨m1,m2,k1,m3,rfl,l6,H⟩:=hR
   refine dh fun a G=>?_
   refine fc [6,7,8,9,10] fun a G=>?_
   refine de fun w H=>?_
   refine aB ?_
   exact jr I ⟨m1,m2,k1,m3,l6,G.t,bU H [0,1,2,3,4] 6 E⟩
  obtain⟨rfl,H⟩:=hR
  replace I:Sh.qU x0 c0=_:=c2
  unfold Sh.qU at I
  try dsimp only[List.set]at H
  refine ds [0,1,2,3,4,5] 6 fun a G=>?_
  refine dx 5 fun w eX H=>?_
  obtain⟨p4,l2,I⟩:=adu I
  have j8:=jU l2 (f_ H [1,2,3,4,5,0] 6) (Bf:=Bf) (tb S) q6 f8 f10 f12 f14 f16
  refine(dP (xs:=[.tmp 59]) Tryz.call213 G E E E j8 fun v w hR=>?_)
  obtain⟨rfl,H⟩:=hR
  refine dh fun a G=>?_
  refine fc [6,7,8,9,10] fun a G=>?_
  refine de fun w H=>?_
  refine aB ?_
  exact jr I ⟨s1,s3,da,dy,q6,G.t,bU H [0,1,2,3,4] 6 E⟩
 rintro⟨d2,d3,c8,d4,d5,d6,d7,d8⟩ a w I ⟨c4,c5,c3,c6,c9,G,H⟩
 replace I:Sh.iQ x0 d2 d3 c8 d4 d5 d6 d7 d8=_:=I
 unfold Sh.iQ at I
 refine go 8 fun a w G H=>?_
 refine cc I (fun i5 I=>?_) fun i5 I=>?_
 ·refine go 7 fun a w G H=>?_
  obtain rfl:=oI I
  refine aT Cf G E ?_
  exact⟨c4,c5,c3,c6,E,c9,H⟩
 refine go 11 fun a w G H=>?_
 refine cc I (fun i6 I=>?_) fun i6 I=>?_
 ·refine go 18 fun a w G H=>?_
  obtain rfl:=oI I
  refine aT Cf G E ?_
  exact⟨c4,c5,c3,c6,E,c9,H⟩
 refine go 3 fun a w G H=>?_
 refine dT H [0,1,2,3,4] 5 fun K=>?_
 obtain⟨n3,m9,I⟩:=adu I
 refine fc [0,1,2,3,4,5,6,7,8,9,10,11,12,13,14,15,16] fun a G=>?_
 refine aK G K 17 E ads E E E (fun w H=>(Ww Tryz.underlying199 rj MC G E E E (f16 _ (S _ (dZ H 5))))) fun a G=>?_
 refine fc [18,19,20,21,22] fun a G=>?_
 refine de fun w H=>?_
 refine go 8 fun a w G H=>?_
 refine cc I (fun i7 I=>?_) fun i7 I=>?_
 ·refine go 6 fun a w G H=>?_
  obtain rfl:=oI I
  refine aT Cf G E ?_
  exact⟨c4,c5,c3,c6,E,c9,H⟩
 refine go 29 fun a w G H=>?_
 obtain rfl:=oI I
 refine aT Cf G E ?_
 exact⟨c4,c5,c3,c6,E,c9,H⟩
theorem qR{x0:aj}{x1:Int}{s1 s3:SV}{da:List SV}{s7 s9 e8 fe:SV}{fU:Nat}{dy:SV}{b0:Nat}{out:(ot×Int×aj)}{w0:World}{Bf:World→Prop}{Lr:List dw}(I:Sh.kM x0 x1=some out)(H:au w0 (pt b0 (af.enc (gx x0 s1 s3 s7 s9 e8 fe fU dy)) 203::ai 0 s1 5 x0.ae.b_::ai 0 s3 23 da::(a_ da x0.ae.ah)::ai 0 dy 3 x0.bf::Lr))(S:∀ w,au w Lr→Bf w)(q6:bw (cn (X:=UInt8) (a_ da x0.ae.ah).holds') da x0.ae.ah)(f8:cn Bf s7 x0.ae.data)(f10:cn Bf s9 x0.ae.sizes)(f12:cn Bf e8 x0.code)(f14:cn Bf fe x0.dq)(f16:jk Bf fU x0.cg):Calls Tryz.prog 68 #[.pointer (some ⟨b0,0,none⟩),.int .i64 x1] w0 (gf fun v w'=>∃ (g0:SV) (g1:SV) (c1:List SV) (g2:SV) (g3:SV) (g4:SV) (c2:List SV) (g5:SV),v = .tuple #[.agg (ez.enc (ez.mk out.1.r0 g0 g1 g2)).toArray,.int .i64 out.2.1]∧bw (cn (X:=UInt8) (a_ c1 out.1.ah).holds') c1 out.1.ah∧bw (cn (X:=UInt8) (a_ c2 out.2.2.ae.ah).holds') c2 out.2.2.ae.ah∧au w' (ai 0 g0 5 out.1.b_::ai 0 g1 23 c1::(a_ c1 out.1.ah)::ai 0 g2 3 out.1.bf::pt b0 (af.enc (gx out.2.2 g3 g4 s7 s9 e8 fe fU g5)) 203::ai 0 g3 5 out.2.2.ae.b_::ai 0 g4 23 c2::(a_ c2 out.2.2.ae.ah)::ai 0 g5 3 out.2.2.bf::Lr)):=by
 unfold Sh.kM at I
 refine ce Tryz.func68 Tryz.ntmps68 fun a G=>?_
 refine go 6 fun c7 a w G H=>?_
 refine Xp G H I E (fun F x a w=>match x with|(d0,d1,c6,d2,d3,d4,d5,d6,d7)=>∃ (c3:SV) (c4:SV) (c0:List SV) (c5:SV),bw (cn (X:=UInt8) (a_ c0 c6).holds') c0 c6∧Fr 48 [(6,.int .i64 d7),(0,.pointer (some ⟨b0,0,none⟩)),(1,.int .i64 x1),(4,.pointer (some ⟨c7,0,none⟩)),(5,.int .i64 0)] a∧au w (pt b0 (af.enc (af.mk (bu.mk d0 c3 c4 s7 s9) e8 fe (some fU) d2 c5 d4 d5 d6)) 203::ai 0 c3 5 d1::ai 0 c4 23 c0::(a_ c0 c6)::ai 0 c5 3 d3::pt c7 (ez.enc (ez.mk 0 SV.nil SV.nil SV.nil)) 121::Lr)) (fun G H=>?_) ?_
 ·refine go 4 fun a w G H=>?_
  exact⟨s1,s3,da,dy,q6,G.to ⟨E,E,E,E,E,trivial⟩,bU H [1,2,3,4,5,0] 6 E⟩
 rintro⟨d0,d1,c6,d2,d3,d4,d5,d6,d7⟩ a w j8 I c8 ⟨c3,c4,c0,c5,c9,G,H⟩
 replace I:Sh.dS x0 x1 d0 d1 c6 d2 d3 d4 d5 d6 d7=_:=I
 unfold Sh.dS at I
 refine go 9 fun a w G H=>?_
 refine cc I (fun g9 I=>?_) fun g9 I=>?_
 ·refine aH ?_
  refine dT H [0,1,2,3,4,5] 6 fun K=>?_
  obtain⟨j9,i7,I⟩:=adu I
  refine fc [0,1,2,3,4] fun a G=>?_
  refine aK G K 5 E ads E E E (fun w H=>(aG vh G E E ((H.cells (i:=0) E (af.ci_regs _ _ _ (aL i7).2)).get 3 (ak.g_x _)))) fun a G=>?_
  refine fc [6,7,8,9,10,12,13,14,15,16,18,19,20,21] fun a G=>?_
  refine dx 11 fun w eX H=>?_
  obtain⟨k0,i8,I⟩:=adu I
  have i2:=cU i8 H (fun _ h=>h) (fun w H=>(H.rowS (X:=UInt8) (i:=1) rfl))
  refine dl rM i2 ?_
  rintro v w ⟨j5,rfl,H⟩
  refine ds [0,1,2,3,4,5,6] 7 fun a G=>?_
  refine dx 17 fun w eX H=>?_
  obtain⟨k1,i9,I⟩:=adu I
  have i3:=iU i9 H (fun _ h=>h) (fun w H=>(H.rowS (X:=SV) (i:=3) rfl)) (c9.mono fun _ _ q=>q.mono fun w H=>H.hold 4 _ rfl)
  refine dl Tryz.call143 i3 ?_
  rintro v w ⟨j6,i6,rfl,j2,H⟩
  refine ds [0,1,2,3,4,5,6,7,8] 9 fun a G=>?_
  refine dx 22 fun w eX H=>?_
  obtain⟨k2,j0,I⟩:=adu I
  have i4:=dV j0 H (fun _ h=>h) (fun w H=>(H.rowS (X:=Int) (i:=7) rfl))
  refine dl zK i4 ?_
  rintro v w ⟨j7,rfl,H⟩
  refine ds [0,1,2,3,4,5,6,7,8,9] 10 fun a G=>?_
  refine aK G K 23 E ads E E E (fun w H=>(aW Ft DV DG G (parts:=[(0,.tmp 17),(1,.tmp 23),(2,.tmp 29),(3,.tmp 34)]) E E (aO E E (by rw[ez.len];decide) (ez.s_r0 _ _) (aO E E (by rw[ez.len];decide) (ez.gI _ _) (aO E E (by rw[ez.len];decide) (ez.ep _ _) (aO E E (by rw[ez.len];decide) (ez.gC _ _) bD)))))) fun a G=>?_
  refine fc [24,25] fun a G=>?_
  refine de fun w H=>?_
  refine go 2 fun a w G H=>?_
  obtain rfl:=oI I
  have I:=c8 _ rfl
  subst I
  refine fF (rs:=[.cell 4 121,.tmp 5]) Tryz.results68 G (cY G E Tryz.isAgg121 Tryz.sizeOf121 (ez.len _) (H.cells (i:=9) E (cD (ez.len _))) (dS G E dF)) E ?_
  exact⟨j5,j6,i6,j7,c3,c4,c0,c5,E,j2,c9,bU H [3,1,2,0,4,5,6,7,8] 10 E⟩
 refine go 10 fun a w G H=>?_
 refine cc I (fun i0 I=>?_) fun i0 I=>?_
 ·refine go 2 fun a w G H=>?_
  refine aA G (aW Ft DV DG G (parts:=[]) E E bD) E E E fun a G=>?_
  refine go 5 fun a w G H=>?_
  have H:=H.rowNil (X:=UInt8) 0 5
  have j3:bw (cn (X:=UInt8) (a_ [] []).holds') ([]:List SV) ([]:List (List UInt8)):=bw.nil
  have H:=mP H
  have H:=H.rowNil (X:=SV) 0 23
  have H:=H.rowNil (X:=Int) 0 3
  obtain rfl:=oI I
  have I:=c8 _ rfl
  subst I
  refine fF (rs:=[.cell 4 121,.tmp 5]) Tryz.results68 G (cY G E Tryz.isAgg121 Tryz.sizeOf121 (ez.len _) (H.cells (i:=9) E (cD (ez.len _))) (dS G E dF)) E ?_
  exact⟨SV.nil,SV.nil,[],SV.nil,c3,c4,c0,c5,E,j3,c9,bU H [3,1,2,0,4,5,6,7,8] 10 E⟩
 refine go 6 fun a w G H=>?_
 obtain⟨k3,j1,I⟩:=adu I
 have i5:=eK j1 H (Bf:=Bf) (tb S) c9 f8 f10 f12 f14 f16
 refine cl B9 i5 ?_
 rintro v w ⟨g6,g7,d8,g8,rfl,d9,H⟩ a G
 refine go 9 fun a w G H=>?_
 refine cc I (fun i1 I=>?_) fun i1 I=>?_
 ·refine go 2 fun a w G H=>?_
  refine aA G (aW Ft DV DG G (parts:=[]) E E bD) E E E fun a G=>?_
  refine go 6 fun a w G H=>?_
  have H:=H.rowNil (X:=UInt8) 0 5
  have j4:bw (cn (X:=UInt8) (a_ [] []).holds') ([]:List SV) ([]:List (List UInt8)):=bw.nil
  have H:=mP H
  have H:=H.rowNil (X:=SV) 0 23
  have H:=H.rowNil (X:=Int) 0 3
  obtain rfl:=oI I
  have I:=c8 _ rfl
  subst I
  refine fF (rs:=[.cell 4 121,.tmp 5]) Tryz.results68 G (cY G E Tryz.isAgg121 Tryz.sizeOf121 (ez.len _) (H.cells (i:=9) E (cD (ez.len _))) (dS G E dF)) E ?_
  exact⟨SV.nil,SV.nil,[],SV.nil,g6,g7,d8,g8,E,j4,d9,bU H [3,1,2,0,4,5,6,7,8] 10 E⟩
 refine go 9 fun a w G H=>?_
 refine Zs (Zx ?_)
 exact jr I ⟨g6,g7,d8,g8,d9,G.t,H⟩
end Go.Proofs
end
section
namespace Go.Proofs
open Go.Fw Go.Fx
set_option maxRecDepth 10000
theorem lO{x0:fj}{s1 s3:SV}{da:List SV}{out:Bool}{w0:World}{Bf:World→Prop}{Lr:List dw}(I:Sh.gW x0=some out)(H:au w0 (Lr))(S:∀ w,au w Lr→Bf w)(f2:cn Bf s1 x0.b_)(f5:cn Bf s3 da)(q6:bw (cn (X:=UInt8) Bf) da x0.ah):Calls Tryz.prog 98 #[.agg (br.enc (br.mk s1 s3)).toArray] w0 (gf fun v w'=>v = .bool out∧au w' (Lr)):=by
 unfold Sh.gW at I
 refine ce Tryz.func98 Tryz.ntmps98 fun a G=>?_
 refine go 12 fun c0 a w G H=>?_
 refine jm (Lr) G H I [] (fun c3 u=>(2,.bool c3)::u) (fun g9 I g8 G H=>?_) fun c3 a w I G H=>?_
 ·refine go 4 fun a w G H=>?_
  obtain⟨g1,I,d5⟩:=cJ I
  refine aN G E E E (dP (xs:=[.tmp 6]) Tryz.call171 G E E E (R:=fun v w=>∃ x,g1 = .inl x∧match x with|c4=>v = .bool c4∧au w (pt c0 (br.enc (br.mk s1 s3)) 30::Lr)) ?_ fun v w hR=>?_)
  ·refine aV Tryz.func171 E Bq E fun a G=>?_
   refine go 14 fun a w G H=>?_
   obtain rfl:=oI I
   refine aT Br G E ?_
   exact⟨(decide (65535<(x0.b_.length:Int))),E,E,H⟩
  obtain⟨c4,rfl,rfl,H⟩:=hR
  replace I:Sh.fX x0 c4=_:=d5
  unfold Sh.fX at I
  intro a G
  refine go 2 fun a w G H=>?_
  refine gs I (fun d2 I=>?_) fun d2 I=>?_
  ·refine go 6 fun a w G H=>?_
   refine gs I (fun c7 I=>?_) fun c7 I=>?_
   ·refine go 3 fun a w G H=>?_
    obtain⟨g2,I,d6⟩:=cJ I
    refine dA G E E E c7 E E (aS (xs:=[.tmp 17,.tmp 18]) Tryz.call172 G E E (R:=fun v w=>∃ x,g2 = .inl x∧match x with|c5=>v = .bool c5∧au w (pt c0 (br.enc (br.mk s1 s3)) 30::Lr)) ?_ fun v w hR=>?_)
    ·refine aV Tryz.func172 E Tryz.ntmps172 E fun a G=>?_
     refine go 9 fun a w G H=>?_
     obtain⟨g3,I,d7⟩:=cJ I
     refine aN G E E E (aS (xs:=[.tmp 5,.tmp 6]) Tryz.call226 G E E (R:=fun v w=>∃ x,g3 = .inl x∧match x with|c1=>v = .int .i64 c1∧au w (pt c0 (br.enc (br.mk s1 s3)) 30::Lr)) ?_ fun v w hR=>?_)
     ·refine aV Tryz.func226 E Tryz.ntmps226 E fun a G=>?_
      refine go 6 fun a w G H=>?_
      refine jm (pt c0 (br.enc (br.mk s1 s3)) 30::Lr) G H I [4] (fun _ u=>u) (fun i0 I d9 G H=>?_) fun _ a w I G H=>?_
      ·refine go 8 fun a w G H=>?_
       refine aY G H I (fun F x a w=>match x with|c2=>Fr 19 [(8,.int .i64 c2),(0,(s3).v),(1,.func (.func 171) [].toArray [].toArray),(4,.int .i64 0),(7,.int .i64 (x0.ah.length:Int))] a∧au w (pt c0 (br.enc (br.mk s1 s3)) 30::Lr)) (fun G H=>⟨G.to ⟨E,E,E,E,E,trivial⟩,H⟩) ?_
       rintro c2 a w i1 I c9 ⟨G,H⟩
       unfold Sh.cO at I
       refine go 6 fun a w G H=>?_
       refine cc I (fun d3 I=>?_) fun d3 I=>?_
       ·obtain⟨g0,c8,I⟩:=adu I
        have d0:=aL c8
        obtain⟨g7,g6,d1⟩:=bw.getr q6 d0.2
        have g5:=bw.bd q6 (bA c8)
        refine go 17 fun a w G H=>?_
        obtain⟨g4,I,d8⟩:=cJ I
        refine aN G E E E (dP (xs:=[.tmp 15]) Tryz.call171 G E E E (R:=fun v w=>∃ x,g4 = .inl x∧match x with|c6=>v = .bool c6∧au w (pt c0 (br.enc (br.mk s1 s3)) 30::Lr)) ?_ fun v w hR=>?_)
        ·refine aV Tryz.func171 E Bq E fun a G=>?_
         refine go 8 fun a w G H=>?_
         refine aA G (cQ (d1 _ (S _ (dZ H 1))) ji G E E) E E E fun a G=>?_
         refine go 5 fun a w G H=>?_
         obtain rfl:=oI I
         refine aT Br G E ?_
         exact⟨(decide (65535<(g0.length:Int))),E,E,H⟩
        obtain⟨c6,rfl,rfl,H⟩:=hR
        replace I:Sh.lA c2 c6=_:=d8
        unfold Sh.lA at I
        intro a G
        refine aJ (aB ?_)
        refine cc I (fun d4 I=>?_) fun d4 I=>?_
        ·refine go 7 fun a w G H=>?_
         obtain rfl:=oI I
         have I:=c9 _ rfl
         subst I
         have I:=bB d9
         subst I
         refine aT BF G E ?_
         exact⟨c2,E,E,H⟩
        exact lf
       refine go 5 fun a w G H=>?_
       obtain rfl:=oI I
       have I:=c9 _ rfl
       subst I
       exact⟨(),E,G.to ⟨E,trivial⟩,H⟩
      replace I:Sh.wC=_:=I
      unfold Sh.wC at I
      refine go 7 fun a w G H=>?_
      obtain rfl:=oI I
      refine aT BF G E ?_
      exact⟨(-1),E,E,H⟩
     obtain⟨c1,rfl,rfl,H⟩:=hR
     replace I:Sh.pW c1=_:=d7
     unfold Sh.pW at I
     intro a G
     refine go 5 fun a w G H=>?_
     obtain rfl:=oI I
     refine aT Tryz.results172 G E ?_
     exact⟨(decide (0≤c1)),E,E,H⟩
    obtain⟨c5,rfl,rfl,H⟩:=hR
    replace I:Sh.pV c5=_:=d6
    unfold Sh.pV at I
    intro a G
    exact lf
   exact lf
  exact lf
 replace I:Sh.iA c3=_:=I
 unfold Sh.iA at I
 exact lf
end Go.Proofs
end
section
namespace Go.Ev
open Go.Fw Go.Proofs
set_option maxRecDepth 1000000
theorem Dv:QD (qg (gd Tryz.prog) 1000 40 [] (.f 22 [] []) [] { h:=.e,nx:=0 })=true:=by kernel_rfl
end Go.Ev
end
section
namespace Go.Proofs
open Go.Fw Go.Fx
theorem gJ{out:Bool}{w0:World}{Lr:List dw}(hP:Sh.cE=some out)(hM:au w0 Lr):Calls Tryz.prog 22 #[] w0 (gf fun v w'=>v = .bool out∧au w' Lr):=by
 cases hP
 refine Calls.mono (Go.Ev.zj (fuel:=1000) (k:=40) ads Go.Ev.Dv w0) fun e w' he=>?_
 cases e<;>first
  | exact⟨he.1,hM.keep he.2⟩
  | exact he
end Go.Proofs
end
section
namespace Go.Proofs
open Go.Fw Go.Fx
set_option maxRecDepth 10000
theorem fJ{x0:bj}{s1 s3:SV}{da:List SV}{s7:SV}{out:bj}{w0:World}{Bf:World→Prop}{Lr:List dw}(I:Sh.fW x0=some out)(H:au w0 (Lr))(S:∀ w,au w Lr→Bf w)(f2:cn Bf s1 x0.b_)(f5:cn Bf s3 da)(q6:bw (cn (X:=UInt8) Bf) da x0.ah)(f8:cn Bf s7 x0.bf):Calls Tryz.prog 74 #[.agg (ay.enc (il x0 s1 s3 s7)).toArray] w0 (gf fun v w'=>∃ (g0:SV) (g1:SV) (c7:List SV) (g2:SV),v = .agg (ay.enc (il out g0 g1 g2)).toArray∧bw (cn (X:=UInt8) (a_ c7 out.ah).holds') c7 out.ah∧au w' (ai 0 g0 5 out.b_::ai 0 g1 23 c7::(a_ c7 out.ah)::ai 0 g2 3 out.bf::Lr)):=by
 unfold Sh.fW at I
 refine ce Tryz.func74 Tryz.ntmps74 fun a G=>?_
 refine go 10 fun c0 c1 a w G H=>?_
 obtain⟨d4,i1,I⟩:=adu I
 refine cl Cb (eB i1 H (Bf:=Bf) (tb S) f2) ?_
 rintro v w ⟨d0,rfl,H⟩ a G
 refine go 8 fun a w G H=>?_
 obtain⟨c3,i2,I⟩:=adu I
 refine cl Tryz.call148 (lK i2 H (Bf:=Bf) (tb S) f5 q6) ?_
 rintro v w ⟨c6,g9,rfl,i5,H⟩ a G
 refine go 5 fun a w G H=>?_
 have H:=mP H
 have d8:=Zz i5
 try dsimp only[List.set]at H
 refine aM G H I (fun F x a w=>match x with|c8=>∃ (c4:List SV),za Bf c8 c4 c3∧Fr 33 [(1,.pointer (some ⟨c0,0,none⟩)),(2,.pointer (some ⟨c1,0,none⟩))] a∧au w (ai 0 c6 23 c4::(a_ (c4.take c8) (c3.take c8))::pt c1 (ay.enc Aq) 54::pt c0 (ay.enc (il x0 d0 c6 s7)) 54::ai 0 d0 5 d4::Lr)) (fun j6 I j2 G H=>?_) ?_
 ·refine go 4 fun a w G H=>?_
  refine aA G (dR (H.rowS (X:=SV) (i:=1) E) d8.1 AZ G E E) E E E fun a G=>?_
  refine go 4 fun a w G H=>?_
  refine aY G H I (fun F x a w=>match x with|(c5,d3)=>∃ (c2:List SV),za Bf c5 c2 c3∧Fr 33 [(16,.int .i64 d3),(1,.pointer (some ⟨c0,0,none⟩)),(14,(c6).v),(15,.int .i64 (c3.length:Int)),(2,.pointer (some ⟨c1,0,none⟩))] a∧au w (ai 0 c6 23 c2::(a_ (c2.take c5) (c3.take c5))::pt c1 (ay.enc Aq) 54::pt c0 (ay.enc (il x0 d0 c6 s7)) 54::ai 0 d0 5 d4::Lr)) (fun G H=>⟨g9,d8,G.to ⟨E,E,E,E,E,trivial⟩,f_ H [1,0,3,4,2] 5⟩) ?_
  rintro⟨c5,d3⟩ a w j7 I g3 ⟨c2,c9,G,H⟩
  replace I:Sh.mF c3 c5 d3=_:=I
  unfold Sh.mF at I
  refine go 6 fun a w G H=>?_
  refine cc I (fun g5 I=>?_) fun g5 I=>?_
  ·refine go 7 fun a w G H=>?_
   obtain⟨j8,i0,I⟩:=adu I
   obtain⟨i8,j4,j0,d7⟩:=Ik c9 i0
   obtain⟨g6,I⟩:=bE I
   refine go 6 fun a w G H=>?_
   refine dT H [0,1,2,3,4] 5 fun K=>?_
   refine fc [0,1,2,3] fun a G=>?_
   refine dx 4 fun w eX H=>?_
   obtain⟨k0,i3,I⟩:=adu I
   refine dl Cb (eB i3 H (Bf:=Bf) (tb S) (d7 (abe g6))) ?_
   rintro v w ⟨d2,rfl,H⟩
   refine ds [0,1,2,3,4,5] 6 fun a G=>?_
   obtain⟨j9,d1,I⟩:=adu I
   obtain⟨i9,j5,d6,j1⟩:=Ik c9 d1
   obtain⟨j3,I⟩:=bE I
   refine fc [5] fun a G=>?_
   refine ko 6 fun w eX H=>?_
   obtain⟨d5,I⟩:=bE I
   obtain⟨g7,I⟩:=bE I
   refine(dB (X:=SV) (d:=0) (q:=d2) vi (H.own (X:=SV) (i:=1) E) d6 G E E E E E (by decide) E fun w g4=>?_)
   have H:=H.chg g4 (i:=1) rfl
   have i6:=Xa (h:=d2) c9 d1 (abe d5)
   try dsimp only[List.set]at H
   rw[abe g7]at H
   try dsimp only[List.set]at H
   have H:=XR (h:=d2) c9 d1 (abe d5) (f_ H [2,0,1,3,4,5] 6)
   try dsimp only[List.set]at H
   refine dh ?_
   refine de fun w H=>?_
   refine go 7 fun a w G H=>?_
   exact jr I ⟨(c2.set (d3:Int).toNat d2),i6,G.t,bU H [1,0,2,3,4] 5 E⟩
  refine go 5 fun a w G H=>?_
  obtain rfl:=oI I
  have I:=g3 _ rfl
  subst I
  exact⟨c5,E,c2,c9,G.to ⟨E,E,trivial⟩,H⟩
 rintro c8 a w I ⟨c4,d9,G,H⟩
 replace I:Sh.vQ x0 d4 c3 c8=_:=I
 unfold Sh.vQ at I
 refine go 5 fun a w G H=>?_
 obtain⟨k1,i4,I⟩:=adu I
 refine cl zK (dV i4 H (Bf:=Bf) (tb S) f8) ?_
 rintro v w ⟨i7,rfl,H⟩ a G
 refine go 11 fun a w G H=>?_
 obtain⟨g8,I⟩:=bE I
 try dsimp only[List.set]at H
 have H:=XQ d9 (abe g8) (f_ H [2,0,1,3,4,5] 6)
 try dsimp only[List.set]at H
 obtain rfl:=oI I
 refine er Tryz.results74 G H ?_
 exact⟨d0,c6,c4,i7,E,(lX d9.1),bU H [5,2,0,1] 6 E⟩
theorem nZ{x0:bj}{x1:dD}{s1 s3:SV}{da:List SV}{s7 s9 e8 fe:SV}{rf:List bq}{dy:SV}{out:bj}{w0:World}{Bf:World→Prop}{Lr:List dw}(I:Sh.rS x0 x1=some out)(H:au w0 (Lr))(S:∀ w,au w Lr→Bf w)(f2:cn Bf s1 x0.b_)(f5:cn Bf s3 da)(q6:bw (cn (X:=UInt8) Bf) da x0.ah)(f8:cn Bf s7 x0.bf)(f10:cn Bf s9 x1.bk)(f12:cn Bf e8 x1.slots)(f15:cn Bf fe rf)(B8:bw (eO Bf) rf x1.dE)(f18:cn Bf dy x1.bf):Calls Tryz.prog 127 #[.agg (ay.enc (il x0 s1 s3 s7)).toArray,.agg (bS.enc (qk x1 s9 e8 fe dy)).toArray] w0 (gf fun v w'=>∃ (k0:SV) (k1:SV) (i3:List SV) (j9:dw) (k2:SV),v = .agg (ay.enc (il out k0 k1 k2)).toArray∧bw (cn (X:=UInt8) j9.holds') i3 out.ah∧au w' (ai 0 k0 5 out.b_::ai 0 k1 23 i3::j9::ai 0 k2 3 out.bf::Lr)):=by
 unfold Sh.rS at I
 refine ce Tryz.func127 Tryz.ntmps127 fun a G=>?_
 refine go 10 fun c1 c2 c3 a w G H=>?_
 obtain⟨c0,l3,I⟩:=adu I
 refine cl Cd (fJ l3 H (Bf:=Bf) (tb S) f2 f5 q6 f8) ?_
 rintro v w ⟨c5,c6,c4,m1,rfl,m0,H⟩ a G
 refine go 1 fun a w G H=>?_
 have H:=VI (f_ H [2,0,1,3,4,5,6] 7)
 have l2:(c5::c4).length=(c0.b_::c0.ah).length:=congrArg (· + 1) m0.len
 have l1:(c5::c4)[0]? = some c5:=rfl
 try dsimp only[List.set]at H
 refine go 3 fun a w G H=>?_
 refine aM G H I (fun F x a w=>match x with|(c8,i0)=>∃ (g2:SV),Fr 69 [(2,.pointer (some ⟨c1,0,none⟩)),(3,.pointer (some ⟨c2,0,none⟩)),(4,.pointer (some ⟨c3,0,none⟩))] a∧au w (pt c1 (ay.enc (ay.mk c8 c0.bp c5 c6 g2 c0.at_ c0.steps c0.done)) 54::ai 0 g2 3 i0::pt c3 (ay.enc Aq) 54::pt c2 (bS.enc (qk x1 s9 e8 fe dy)) 60::a_ (c5::c4) (c0.b_::c0.ah)::ai 0 c6 23 c4::Lr)) (fun n9 I n0 G H=>?_) ?_
 ·refine go 9 fun a w G H=>?_
  refine aY G H I (fun F x a w=>match x with|(g5,g6,i1)=>∃ (d9:SV),Fr 69 [(18,.int .i64 i1),(16,(s9).v),(17,.int .i64 (x1.bk.length:Int)),(2,.pointer (some ⟨c1,0,none⟩)),(3,.pointer (some ⟨c2,0,none⟩)),(4,.pointer (some ⟨c3,0,none⟩))] a∧au w (pt c1 (ay.enc (ay.mk g5 c0.bp c5 c6 d9 c0.at_ c0.steps c0.done)) 54::ai 0 d9 3 g6::pt c3 (ay.enc Aq) 54::pt c2 (bS.enc (qk x1 s9 e8 fe dy)) 60::a_ (c5::c4) (c0.b_::c0.ah)::ai 0 c6 23 c4::Lr)) (fun G H=>⟨m1,G.to ⟨E,E,E,E,E,E,trivial⟩,f_ H [5,2,3,4,0,1] 6⟩) ?_
  rintro⟨g5,g6,i1⟩ a w p2 I k6 ⟨d9,G,H⟩
  replace I:Sh.mC x1 g5 g6 i1=_:=I
  unfold Sh.mC at I
  refine go 6 fun a w G H=>?_
  refine cc I (fun l0 I=>?_) fun l0 I=>?_
  ·obtain⟨p5,n3,p6,i4,I⟩:=b2 I
   refine go 19 fun l6 a w G H=>?_
   refine bC E E (aU (vs:=_) iw (H.obj (i:=1) E) G E E E E (ak.len _) (ak.one _) (by have:=(bT i4);rw[ak.len,ay.len];omega) (ay.pi_regs _ _ _ (by have:=(bT i4);omega)) fun w k9=>?_)
   have H:=H.chg k9 (i:=1) rfl
   try dsimp only[List.set]at H
   refine go 8 fun a w G H=>?_
   exact jr I ⟨d9,G.t,bU H [1,2,3,4,5,6] 7 E⟩
  refine go 5 fun a w G H=>?_
  obtain rfl:=oI I
  have I:=k6 _ rfl
  subst I
  exact⟨(g5,g6),E,d9,G.to ⟨E,E,E,trivial⟩,H⟩
 rintro⟨c8,i0⟩ a w I ⟨g2,G,H⟩
 replace I:Sh.vN x1 c0 c8 i0=_:=I
 unfold Sh.vN at I
 refine go 2 fun a w G H=>?_
 refine aM G H I (fun F x a w=>match x with|(d0,d1)=>∃ (c7:SV),Fr 69 [(2,.pointer (some ⟨c1,0,none⟩)),(3,.pointer (some ⟨c2,0,none⟩)),(4,.pointer (some ⟨c3,0,none⟩))] a∧au w (pt c1 (ay.enc (ay.mk c8 d0 c5 c6 c7 c0.at_ c0.steps c0.done)) 54::ai 0 c7 3 d1::pt c3 (ay.enc Aq) 54::pt c2 (bS.enc (qk x1 s9 e8 fe dy)) 60::a_ (c5::c4) (c0.b_::c0.ah)::ai 0 c6 23 c4::Lr)) (fun p0 I n1 G H=>?_) ?_
 ·refine go 9 fun a w G H=>?_
  refine aY G H I (fun F x a w=>match x with|(d5,d6,g3)=>∃ (d4:SV),Fr 69 [(32,.int .i64 g3),(2,.pointer (some ⟨c1,0,none⟩)),(3,.pointer (some ⟨c2,0,none⟩)),(30,(e8).v),(31,.int .i64 (x1.slots.length:Int)),(4,.pointer (some ⟨c3,0,none⟩))] a∧au w (pt c1 (ay.enc (ay.mk c8 d5 c5 c6 d4 c0.at_ c0.steps c0.done)) 54::ai 0 d4 3 d6::pt c3 (ay.enc Aq) 54::pt c2 (bS.enc (qk x1 s9 e8 fe dy)) 60::a_ (c5::c4) (c0.b_::c0.ah)::ai 0 c6 23 c4::Lr)) (fun G H=>⟨g2,G.to ⟨E,E,E,E,E,E,trivial⟩,H⟩) ?_
  rintro⟨d5,d6,g3⟩ a w p3 I k7 ⟨d4,G,H⟩
  replace I:Sh.mD x1 d5 d6 g3=_:=I
  unfold Sh.mD at I
  refine go 6 fun a w G H=>?_
  refine cc I (fun j0 I=>?_) fun j0 I=>?_
  ·obtain⟨n4,m7,n5,g8,I⟩:=b2 I
   refine go 19 fun l7 a w G H=>?_
   refine bC E E (aU (vs:=_) Tryz.sizeOf50 (H.obj (i:=1) E) G E E E E (bn.len _) (bn.one _) (by have:=(bT g8);rw[bn.len,ay.len];omega) (ay.pi_stack _ _ _ (by have:=(bT g8);omega)) fun w i8=>?_)
   have H:=H.chg i8 (i:=1) rfl
   try dsimp only[List.set]at H
   refine go 8 fun a w G H=>?_
   exact jr I ⟨d4,G.t,bU H [1,2,3,4,5,6] 7 E⟩
  refine go 5 fun a w G H=>?_
  obtain rfl:=oI I
  have I:=k7 _ rfl
  subst I
  exact⟨(d5,d6),E,d4,G.to ⟨E,E,E,trivial⟩,H⟩
 rintro⟨d0,d1⟩ a w I ⟨c7,G,H⟩
 replace I:Sh.vO x1 c0 c8 d0 d1=_:=I
 unfold Sh.vO at I
 refine go 2 fun a w G H=>?_
 refine aM G H I (fun F x a w=>match x with|d3=>(c5::c4).length=d3.length∧Fr 69 [(2,.pointer (some ⟨c1,0,none⟩)),(3,.pointer (some ⟨c2,0,none⟩)),(4,.pointer (some ⟨c3,0,none⟩))] a∧au w (a_ (c5::c4) d3::pt c1 (ay.enc (ay.mk c8 d0 c5 c6 c7 c0.at_ c0.steps c0.done)) 54::pt c3 (ay.enc Aq) 54::pt c2 (bS.enc (qk x1 s9 e8 fe dy)) 60::ai 0 c7 3 d1::ai 0 c6 23 c4::Lr)) (fun p1 I n2 G H=>?_) ?_
 ·refine go 9 fun a w G H=>?_
  refine aY G H I (fun F x a w=>match x with|(c9,d7)=>(c5::c4).length=c9.length∧Fr 69 [(46,.int .i64 d7),(2,.pointer (some ⟨c1,0,none⟩)),(3,.pointer (some ⟨c2,0,none⟩)),(4,.pointer (some ⟨c3,0,none⟩)),(44,(fe).v),(45,.int .i64 (x1.dE.length:Int))] a∧au w (a_ (c5::c4) c9::pt c1 (ay.enc (ay.mk c8 d0 c5 c6 c7 c0.at_ c0.steps c0.done)) 54::pt c3 (ay.enc Aq) 54::pt c2 (bS.enc (qk x1 s9 e8 fe dy)) 60::ai 0 c7 3 d1::ai 0 c6 23 c4::Lr)) (fun G H=>⟨l2,G.to ⟨E,E,E,E,E,E,trivial⟩,f_ H [4,0,2,3,1,5] 6⟩) ?_
  rintro⟨c9,d7⟩ a w p4 I k8 ⟨d2,G,H⟩
  replace I:Sh.mE x1 c9 d7=_:=I
  unfold Sh.mE at I
  refine go 6 fun a w G H=>?_
  refine cc I (fun j1 I=>?_) fun j1 I=>?_
  ·refine go 6 fun a w G H=>?_
   obtain⟨d8,g9,I⟩:=adu I
   have i5:=aL g9
   obtain⟨m8,m4,i7⟩:=bw.getr B8 i5.2
   have m2:=bw.bd B8 (bA g9)
   obtain⟨l4,l5,rfl,m9,k4⟩:=i7
   refine go 11 fun g7 a w G H=>?_
   obtain⟨l9,I,k5⟩:=cJ I
   refine aN G E E E (aS (xs:=[.tmp 51,.tmp 53]) Tryz.call192 G E E (R:=fun v w=>∃ x,l9 = .inl x∧match x with|(g0,g4)=>∃ (g1:SV),v = .tuple #[(g1).v,.bool g4]∧(c5::c4)[g0]? = some g1∧au w (pt g7 (bq.enc (Jc d8 l4 l5)) 156::a_ (c5::c4) c9::pt c1 (ay.enc (ay.mk c8 d0 c5 c6 c7 c0.at_ c0.steps c0.done)) 54::pt c3 (ay.enc Aq) 54::pt c2 (bS.enc (qk x1 s9 e8 fe dy)) 60::ai 0 c7 3 d1::ai 0 c6 23 c4::Lr)) ?_ fun v w hR=>?_)
   ·refine aV Tryz.func192 E Tryz.ntmps192 E fun a G=>?_
    refine go 16 fun l8 a w G H=>?_
    refine cc I (fun j2 I=>?_) fun j2 I=>?_
    ·refine go 9 fun a w G H=>?_
     obtain rfl:=oI I
     refine er Aa G H ?_
     exact⟨(0,true),E,c5,E,l1,bU H [1,2,3,4,5,6,7] 8 E⟩
    refine go 5 fun a w G H=>?_
    refine aA G (dR (H.rowS (X:=SV) (i:=7) E) (IB d2) AZ G E E) E E E fun a G=>?_
    refine go 4 fun a w G H=>?_
    refine cc I (fun j3 I=>?_) fun j3 I=>?_
    ·refine go 5 fun a w G H=>?_
     obtain⟨n6,j6,I⟩:=adu I
     obtain⟨m3,k3,m5,i6⟩:=VJ d2 j6
     refine go 7 fun a w G H=>?_
     obtain rfl:=oI I
     refine er Aa G H ?_
     exact⟨(((d8.table:Int).toNat+1),true),E,k3,E,i6,bU H [1,2,3,4,5,6,7] 8 E⟩
    refine go 10 fun a w G H=>?_
    obtain⟨j4,I⟩:=bE I
    cases j4
   obtain⟨⟨g0,g4⟩,rfl,g1,rfl,i2,H⟩:=hR
   replace I:Sh.vM c9 d7 d8 g0 g4=_:=k5
   unfold Sh.vM at I
   intro a G
   refine go 7 fun a w G H=>?_
   refine dT H [0,1,2,3,4,5,6] 7 fun K=>?_
   refine fc [0,1,2] fun a G=>?_
   obtain⟨n7,j7,I⟩:=adu I
   refine aK G K 3 E ads E E E (fun w H=>(fC (Gt (H.hold 1 _ E) i2) j7 ji sw E G E E (.inr ⟨_,_,E,E⟩) (.inl ⟨E,E⟩))) fun a G=>?_
   refine fc [4,5] fun a G=>?_
   refine dx 6 fun w eX H=>?_
   obtain⟨n8,j8,I⟩:=adu I
   refine(Zd j8 E ji sw E E G E E E (H.hold 1 _ E) i2 (k4 _ (S _ (dZ H 7))) fun w i9=>?_)
   have H:=H.chg i9 (i:=1) rfl
   try dsimp only[List.set]at H
   refine dh fun a G=>?_
   refine de fun w H=>?_
   refine go 7 fun a w G H=>?_
   exact jr I ⟨(WB d2),G.t,bU H [1,2,3,4,5,6] 7 E⟩
  refine go 5 fun a w G H=>?_
  obtain rfl:=oI I
  have I:=k8 _ rfl
  subst I
  exact⟨c9,E,d2,G.to ⟨E,E,E,trivial⟩,H⟩
 rintro d3 a w I ⟨m6,G,H⟩
 replace I:Sh.aBu x1 c0 c8 d0 d1 d3=_:=I
 unfold Sh.aBu at I
 refine go 16 fun a w G H=>?_
 try dsimp only[List.set]at H
 obtain⟨H,j5⟩:=Jt (f_ H [0,1,2,3,4,5] 6)
 try dsimp only[List.set]at H
 obtain rfl:=oI I
 refine er Tryz.results127 G H ?_
 exact⟨c5,c6,c4,(a_ c4 (List.tail d3)),c7,E,(lX j5),bU H [0,6,1,5] 7 E⟩
end Go.Proofs
end
section
namespace Go.Proofs
open Go.Fw Go.Fx
set_option maxRecDepth 10000
theorem oA{x0:Int}{x1 x2:List UInt8}{s1 s3:SV}{out:List cu}{w0:World}{Bf:World→Prop}{Lr:List dw}(I:Sh.rU x0 x1 x2=some out)(H:au w0 (Lr))(S:∀ w,au w Lr→Bf w)(f2:cn Bf s1 x1)(f4:cn Bf s3 x2):Calls Tryz.prog 86 #[.int .i64 x0,(s1).v,(s3).v] w0 (gf fun v w'=>∃ (c40:SV) (Ak:List bq) (BW:dw),v=(c40).v∧bw (eO BW.holds') Ak out∧au w' (ai 0 c40 156 Ak::BW::Lr)):=by
 unfold Sh.rU at I
 refine ce Tryz.func86 Tryz.ntmps86 fun a G=>?_
 refine go 11 fun a w G H=>?_
 refine aM G H I (fun F x a w=>match x with|(p3,u3)=>∃ (p0:SV) (k5:List bq) (u0:dw) (t1:SV) (t0:SV) (p9:List UInt8) (p8:List UInt8),fZ u3 u0.holds' k5 p3 t1 t0 p9 p8∧Fr 88 [(7,(p0).v),(6,(SV.nil).v)] a∧au w (ai 0 p0 156 k5::ai 0 t1 5 p9::ai 0 t0 5 p8::u0::Lr)) (fun c91 I c87 G H=>?_) ?_
 ·refine go 4 fun a w G H=>?_
  obtain⟨i4,c46,I⟩:=adu I
  refine cl Tryz.call158 (jY c46 H (Bf:=Bf) (tb S) f2 f4) ?_
  rintro v w ⟨j3,rfl,H⟩ a G
  refine go 5 fun a w G H=>?_
  obtain⟨u1,H⟩:=lx H
  have c49:bw (eO u1.holds') ([]:List bq) ([]:List cu):=bw.nil
  have H:=H.rowNil (X:=bq) 0 156
  have H:=H.rowNil (X:=UInt8) 0 5
  have H:=H.rowNil (X:=UInt8) 0 5
  have FO:fZ false u1.holds' [] [] SV.nil SV.nil [] []:=fZ.none c49
  refine aY G H I (fun F x a w=>match x with|(l2,c0,l9)=>∃ (i1:SV) (c1:List bq) (c4:dw) (c8:SV) (c7:SV) (d9:List UInt8) (d8:List UInt8),fZ l9 c4.holds' c1 c0 c8 c7 d9 d8∧Fr 88 [(15,.int .i64 l2),(7,(i1).v),(0,.int .i64 x0),(1,(s1).v),(13,(j3).v),(14,.int .i64 (i4.length:Int)),(2,(s3).v),(6,(SV.nil).v)] a∧au w (ai 0 i1 156 c1::ai 0 c8 5 d9::ai 0 c7 5 d8::c4::ai 0 j3 3 i4::Lr)) (fun G H=>⟨SV.nil,[],u1,SV.nil,SV.nil,[],[],FO,G.to ⟨E,E,E,E,E,E,E,E,trivial⟩,f_ H [2,0,1,3,4] 5⟩) ?_
  rintro⟨l2,c0,l9⟩ a w NI I G4 ⟨i1,c1,c4,c8,c7,d9,d8,c2,G,H⟩
  replace I:Sh.mI x0 x1 x2 i4 l2 c0 l9=_:=I
  unfold Sh.mI at I
  refine go 6 fun a w G H=>?_
  refine cc I (fun Es I=>?_) fun Es I=>?_
  ·refine go 3 fun a w G H=>?_
   refine aM G H I (fun F x a w=>match x with|(u6,u4)=>∃ (p1:SV) (m1:List bq) (n8:dw) (m9:SV) (m7:SV) (m5:List UInt8) (m3:List UInt8),fZ u4 n8.holds' m1 u6 m9 m7 m5 m3∧Fr 88 [(7,(p1).v),(0,.int .i64 x0),(1,(s1).v),(13,(j3).v),(14,.int .i64 (i4.length:Int)),(15,.int .i64 l2),(2,(s3).v),(6,(SV.nil).v)] a∧au w (ai 0 p1 156 m1::ai 0 m9 5 m5::ai 0 m7 5 m3::n8::ai 0 j3 3 i4::Lr)) (fun Oe I NF G H=>?_) ?_
   ·obtain⟨i2,Ks,I⟩:=adu I
    refine go 12 fun a w G H=>?_
    refine aA G (dR (H.rowS (X:=bq) (i:=0) E) c2.len wR G E E) E E E fun a G=>?_
    refine go 5 fun a w G H=>?_
    refine jm (ai 0 i1 156 c1::ai 0 c8 5 d9::ai 0 c7 5 d8::c4::ai 0 j3 3 i4::Lr) G H I [0,1,10,13,14,15,2,6,7,9] (fun u7 u=>(39,.bool u7)::u) (fun c93 I NG G H=>?_) fun u7 a w I G H=>?_
    ·refine dT H [0,1,2,3,4] 5 fun K=>?_
     refine fc [0,1,2] fun a G=>?_
     refine gs I (fun p4 I=>?_) fun p4 I=>?_
     ·refine fc [3,4] fun a G=>?_
      obtain⟨c85,z7,I⟩:=adu I
      have BP:=aL z7
      have z2:bw (eO (fun w=>(c4).holds' w∧(ai 0 c8 5 d9).holds' w∧(ai 0 c7 5 d8).holds' w)) c1 c0:=fZ.each c2 (fun _ h=>h.1) (fun _ h=>cV (X:=UInt8) (e:=5) h.2.1) (fun _ h=>cV (X:=UInt8) (e:=5) h.2.2)
      obtain⟨Kw,IV,c31⟩:=bw.getr z2 BP.2
      have IP:=bw.bd z2 (bA z7)
      obtain⟨KE,c80,rfl,Kz,c72⟩:=c31
      refine fc [5,6,7,8,9] fun a G=>?_
      obtain⟨ND,z8,I⟩:=adu I
      have c28:=aL z8
      have z3:bw (eO (fun w=>(c4).holds' w∧(ai 0 c8 5 d9).holds' w∧(ai 0 c7 5 d8).holds' w)) c1 c0:=fZ.each c2 (fun _ h=>h.1) (fun _ h=>cV (X:=UInt8) (e:=5) h.2.1) (fun _ h=>cV (X:=UInt8) (e:=5) h.2.2)
      obtain⟨Kx,IW,c32⟩:=bw.getr z3 c28.2
      have IQ:=bw.bd z3 (bA z8)
      obtain⟨KF,KG,rfl,EP,KA⟩:=c32
      refine fc [10,11,12] fun a G=>?_
      refine cS G K 13 E ads E E E p4 E E (fun w H=>(cQ (EP _ ⟨H.hold 3 _ E,H.hold 1 _ E,H.hold 2 _ E⟩) ji G E E)) fun a G=>?_
      refine fc [14,15,16,17] fun a G=>?_
      refine de fun w H=>?_
      exact lf
     refine fc [3,4,5,6,7] fun a G=>?_
     refine cR G K 8 E ads E E E p4 E E fun a G=>?_
     refine fc [9,10,11,12,13,14,15,16,17] fun a G=>?_
     refine de fun w H=>?_
     exact lf
    replace I:Sh.mH x0 x1 x2 c0 l9 i2 u7=_:=I
    unfold Sh.mH at I
    refine aB ?_
    refine cc I (fun Et I=>?_) fun Et I=>?_
    ·refine aH ?_
     refine aM G H I (fun F x a w=>match x with|(u8,u5)=>∃ (p2:SV) (m2:List bq) (n9:dw) (n0:SV) (m8:SV) (m6:List UInt8) (m4:List UInt8),fZ u5 n9.holds' m2 u8 n0 m8 m6 m4∧Fr 88 [(7,(p2).v),(0,.int .i64 x0),(1,(s1).v),(13,(j3).v),(14,.int .i64 (i4.length:Int)),(15,.int .i64 l2),(2,(s3).v),(6,(SV.nil).v),(9,.int .i64 i2)] a∧au w (ai 0 p2 156 m2::ai 0 n0 5 m6::ai 0 m8 5 m4::n9::ai 0 j3 3 i4::Lr)) (fun Og I NH G H=>?_) ?_
     ·refine dT H [0,2,3,4] 5 fun K=>?_
      refine fc [0,1,2,3,4,5] fun a G=>?_
      obtain⟨u9,k6,I⟩:=adu I
      have BQ:=aL k6
      have z4:bw (eO (fun w=>(c4).holds' w∧(ai 0 c8 5 d9).holds' w∧(ai 0 c7 5 d8).holds' w)) c1 c0:=fZ.each c2 (fun _ h=>h.1) (fun _ h=>cV (X:=UInt8) (e:=5) h.2.1) (fun _ h=>cV (X:=UInt8) (e:=5) h.2.2)
      obtain⟨Ky,n6,BS⟩:=bw.getr z4 BQ.2
      have IU:=bw.bd z4 (bA k6)
      obtain⟨l1,KH,rfl,KB,c75⟩:=BS
      obtain⟨c21,Kt,I⟩:=adu I
      refine fc [6,7,8,9,10,11,12,15,16] fun a G=>?_
      obtain⟨l3,k7,I⟩:=adu I
      have BR:=aL k7
      have z5:bw (eO (fun w=>(c4).holds' w∧(ai 0 c8 5 d9).holds' w∧(ai 0 c7 5 d8).holds' w)) c1 c0:=fZ.each c2 (fun _ h=>h.1) (fun _ h=>cV (X:=UInt8) (e:=5) h.2.1) (fun _ h=>cV (X:=UInt8) (e:=5) h.2.2)
      obtain⟨c70,n7,c34⟩:=bw.getr z5 BR.2
      have c59:=bw.bd z5 (bA k7)
      obtain⟨NC,g7,rfl,c76,KC⟩:=c34
      obtain⟨z0,G5,I⟩:=adu I
      refine fc [17,18,19,20,21,22,23] fun a G=>?_
      refine fN K 13 24 ads E E ?_ ?_
      ·refine bZ G 13 E E E E E fun w eX H=>?_
       refine(bL (X:=UInt8) (y:=c21) ji sw E E E E G E E E fun Bg w CG n1=>?_)
       have H:=H.plus n1
       try dsimp only[List.set]at H
       refine ds [0,1,3,4,5] 6 fun a G=>?_
       refine fN K 14 24 ads E E ?_ ?_
       ·refine bZ G 14 E E E E E fun w eX H=>?_
        have g8:=c2
        obtain⟨j6,I⟩:=bE I
        rw[j6]at g8
        obtain⟨j7,I⟩:=bE I
        obtain⟨d2,_,l6,_,_,_⟩:=fZ.last g8 (abe j7) k6 n6
        have d2:l1=c8:=d2
        subst d2 l6
        obtain⟨d0,k8,I⟩:=adu I
        refine(cB (X:=UInt8) k8 ji sw E E E E G E E E (H.own (X:=UInt8) (i:=2) E) (H.ptS (X:=UInt8) (i:=0) (n:=1) (c:=1) E E E (aah _)) fun c3 w i8=>?_)
        have H:=H.chg i8 (i:=2) rfl
        try dsimp only[List.set]at H
        refine ds [0,1,3,4,5] 6 fun a G=>?_
        refine dx 24 fun w eX H=>?_
        refine(bL (X:=UInt8) (y:=z0) ji sw E E E E G E E E fun t2 w t7 i7=>?_)
        have H:=H.plus i7
        try dsimp only[List.set]at H
        refine ds [0,1,2,4,5,6] 7 fun a G=>?_
        refine dx 25 fun w eX H=>?_
        have g9:=c2
        obtain⟨j8,I⟩:=bE I
        rw[j8]at g9
        obtain⟨j9,I⟩:=bE I
        obtain⟨_,d3,_,l7,_,_⟩:=fZ.last g9 (abe j9) k7 n7
        have d3:g7=c7:=d3
        subst d3 l7
        obtain⟨i3,k9,I⟩:=adu I
        refine(cB (X:=UInt8) k9 ji sw E E E E G E E E (H.own (X:=UInt8) (i:=4) E) (H.ptS (X:=UInt8) (i:=0) (n:=1) (c:=1) E E E (aah _)) fun c9 w i9=>?_)
        have H:=H.chg i9 (i:=4) rfl
        try dsimp only[List.set]at H
        refine ds [0,1,2,4,5,6] 7 fun a G=>?_
        obtain⟨AI,g2,I⟩:=adu I
        have i5:=aL g2
        have g0:bw (eO (fun w=>(c4).holds' w∧(ai 0 l1 5 u9.old).holds' w∧(ai 0 g7 5 l3.new).holds' w)) c1 c0:=fZ.each c2 (fun _ h=>h.1) (fun _ h=>cV (X:=UInt8) (e:=5) h.2.1) (fun _ h=>cV (X:=UInt8) (e:=5) h.2.2)
        obtain⟨z9,t5,j0⟩:=bw.getr g0 i5.2
        have t3:=bw.bd g0 (bA g2)
        obtain⟨AE,AG,rfl,c11,c12⟩:=j0
        refine fc [26,27] fun a G=>?_
        refine ko 28 fun w eX H=>?_
        obtain⟨m0,g3,I⟩:=adu I
        have d6:=c2
        obtain⟨k0,I⟩:=bE I
        rw[k0]at d6
        obtain⟨k1,I⟩:=bE I
        obtain⟨d1,d4⟩:=fZ.getr d6 g3
        have i0:=fZ.setOld (so':=c3) (lo':=d0) (d6) (abe k1) g3 d4
        refine(dB (d:=2) (q:=({ d1 with old:=c3 }:bq)) vi (H.own (X:=bq) (i:=2) E) d4 G E E (abj _ _ _) E E (by decide) (bq.mr _ _) fun w j4=>?_)
        have H:=H.chg j4 (i:=2) rfl
        try dsimp only[List.set]at H
        refine ds [0,1,2,4,5,6] 7 ?_
        obtain⟨AK,g4,I⟩:=adu I
        have i6:=aL g4
        have g1:bw (eO (fun w=>(c4).holds' w∧(ai 0 c3 5 d0).holds' w∧(ai 0 g7 5 l3.new).holds' w)) (c1.set ((IntKind.i64.wrap ((c0.length:Int)-1)):Int).toNat { d1 with old:=c3 }) (c0.set ((IntKind.i64.wrap ((c0.length:Int)-1)):Int).toNat { m0 with old:=d0 }):=fZ.each i0 (fun _ h=>h.1) (fun _ h=>cV (X:=UInt8) (e:=5) h.2.1) (fun _ h=>cV (X:=UInt8) (e:=5) h.2.2)
        obtain⟨c10,t6,j1⟩:=bw.getr g1 i6.2
        have t4:=bw.bd g1 (bA g4)
        obtain⟨AH,c20,rfl,zi,Aj⟩:=j1
        refine fc [29,30] fun a G=>?_
        refine ko 31 fun w eX H=>?_
        obtain⟨c24,g5,I⟩:=adu I
        have d7:=i0
        obtain⟨k2,I⟩:=bE I
        rw[k2]at d7
        obtain⟨k3,I⟩:=bE I
        obtain⟨g6,d5⟩:=fZ.getr d7 g5
        have l8:=fZ.setNew (D_:=c9) (Dw:=i3) (d7) (abe k3) g5 d5
        refine(dB (d:=3) (q:=({ g6 with new:=c9 }:bq)) vi (H.own (X:=bq) (i:=2) E) d5 G E E (abj _ _ _) E E (by decide) (bq.mg _ _) fun w j5=>?_)
        have H:=H.chg j5 (i:=2) rfl
        try dsimp only[List.set]at H
        refine ds [0,1,2,4,5,6] 7 ?_
        refine de fun w H=>?_
        refine aB ?_
        exact jr I ⟨i1,((c1.set ((IntKind.i64.wrap ((c0.length:Int)-1)):Int).toNat { d1 with old:=c3 }).set ((IntKind.i64.wrap ((c0.length:Int)-1)):Int).toNat { g6 with new:=c9 }),c4,c3,c9,d0,i3,l8,G.t,bU H [2,3,4,5,6] 7 E⟩
       refine bZ G 24 E E E E E fun w eX H=>?_
       refine(bL (X:=UInt8) (y:=z0) ji sw E E E E G E E E fun t2 w t7 i7=>?_)
       have H:=H.plus i7
       try dsimp only[List.set]at H
       refine ds [0,1,2,4,5,6] 7 fun a G=>?_
       refine dx 14 fun w eX H=>?_
       have g8:=c2
       obtain⟨j6,I⟩:=bE I
       rw[j6]at g8
       obtain⟨j7,I⟩:=bE I
       obtain⟨d2,_,l6,_,_,_⟩:=fZ.last g8 (abe j7) k6 n6
       have d2:l1=c8:=d2
       subst d2 l6
       obtain⟨d0,k8,I⟩:=adu I
       refine(cB (X:=UInt8) k8 ji sw E E E E G E E E (H.own (X:=UInt8) (i:=3) E) (H.ptS (X:=UInt8) (i:=1) (n:=1) (c:=1) E E E (aah _)) fun c3 w i8=>?_)
       have H:=H.chg i8 (i:=3) rfl
       try dsimp only[List.set]at H
       refine ds [0,1,2,4,5,6] 7 fun a G=>?_
       refine dx 25 fun w eX H=>?_
       have g9:=c2
       obtain⟨j8,I⟩:=bE I
       rw[j8]at g9
       obtain⟨j9,I⟩:=bE I
       obtain⟨_,d3,_,l7,_,_⟩:=fZ.last g9 (abe j9) k7 n7
       have d3:g7=c7:=d3
       subst d3 l7
       obtain⟨i3,k9,I⟩:=adu I
       refine(cB (X:=UInt8) k9 ji sw E E E E G E E E (H.own (X:=UInt8) (i:=4) E) (H.ptS (X:=UInt8) (i:=0) (n:=1) (c:=1) E E E (aah _)) fun c9 w i9=>?_)
       have H:=H.chg i9 (i:=4) rfl
       try dsimp only[List.set]at H
       refine ds [0,1,2,4,5,6] 7 fun a G=>?_
       obtain⟨AI,g2,I⟩:=adu I
       have i5:=aL g2
       have g0:bw (eO (fun w=>(c4).holds' w∧(ai 0 l1 5 u9.old).holds' w∧(ai 0 g7 5 l3.new).holds' w)) c1 c0:=fZ.each c2 (fun _ h=>h.1) (fun _ h=>cV (X:=UInt8) (e:=5) h.2.1) (fun _ h=>cV (X:=UInt8) (e:=5) h.2.2)
       obtain⟨z9,t5,j0⟩:=bw.getr g0 i5.2
       have t3:=bw.bd g0 (bA g2)
       obtain⟨AE,AG,rfl,c11,c12⟩:=j0
       refine fc [26,27] fun a G=>?_
       refine ko 28 fun w eX H=>?_
       obtain⟨m0,g3,I⟩:=adu I
       have d6:=c2
       obtain⟨k0,I⟩:=bE I
       rw[k0]at d6
       obtain⟨k1,I⟩:=bE I
       obtain⟨d1,d4⟩:=fZ.getr d6 g3
       have i0:=fZ.setOld (so':=c3) (lo':=d0) (d6) (abe k1) g3 d4
       refine(dB (d:=2) (q:=({ d1 with old:=c3 }:bq)) vi (H.own (X:=bq) (i:=2) E) d4 G E E (abj _ _ _) E E (by decide) (bq.mr _ _) fun w j4=>?_)
       have H:=H.chg j4 (i:=2) rfl
       try dsimp only[List.set]at H
       refine ds [0,1,2,4,5,6] 7 ?_
       obtain⟨AK,g4,I⟩:=adu I
       have i6:=aL g4
       have g1:bw (eO (fun w=>(c4).holds' w∧(ai 0 c3 5 d0).holds' w∧(ai 0 g7 5 l3.new).holds' w)) (c1.set ((IntKind.i64.wrap ((c0.length:Int)-1)):Int).toNat { d1 with old:=c3 }) (c0.set ((IntKind.i64.wrap ((c0.length:Int)-1)):Int).toNat { m0 with old:=d0 }):=fZ.each i0 (fun _ h=>h.1) (fun _ h=>cV (X:=UInt8) (e:=5) h.2.1) (fun _ h=>cV (X:=UInt8) (e:=5) h.2.2)
       obtain⟨c10,t6,j1⟩:=bw.getr g1 i6.2
       have t4:=bw.bd g1 (bA g4)
       obtain⟨AH,c20,rfl,zi,Aj⟩:=j1
       refine fc [29,30] fun a G=>?_
       refine ko 31 fun w eX H=>?_
       obtain⟨c24,g5,I⟩:=adu I
       have d7:=i0
       obtain⟨k2,I⟩:=bE I
       rw[k2]at d7
       obtain⟨k3,I⟩:=bE I
       obtain⟨g6,d5⟩:=fZ.getr d7 g5
       have l8:=fZ.setNew (D_:=c9) (Dw:=i3) (d7) (abe k3) g5 d5
       refine(dB (d:=3) (q:=({ g6 with new:=c9 }:bq)) vi (H.own (X:=bq) (i:=2) E) d5 G E E (abj _ _ _) E E (by decide) (bq.mg _ _) fun w j5=>?_)
       have H:=H.chg j5 (i:=2) rfl
       try dsimp only[List.set]at H
       refine ds [0,1,2,4,5,6] 7 ?_
       refine de fun w H=>?_
       refine aB ?_
       exact jr I ⟨i1,((c1.set ((IntKind.i64.wrap ((c0.length:Int)-1)):Int).toNat { d1 with old:=c3 }).set ((IntKind.i64.wrap ((c0.length:Int)-1)):Int).toNat { g6 with new:=c9 }),c4,c3,c9,d0,i3,l8,G.t,bU H [2,3,4,5,6] 7 E⟩
      refine bZ G 24 E E E E E fun w eX H=>?_
      refine(bL (X:=UInt8) (y:=z0) ji sw E E E E G E E E fun t2 w t7 i7=>?_)
      have H:=H.plus i7
      try dsimp only[List.set]at H
      refine ds [0,1,3,4,5] 6 fun a G=>?_
      refine dx 13 fun w eX H=>?_
      refine(bL (X:=UInt8) (y:=c21) ji sw E E E E G E E E fun Bg w CG n1=>?_)
      have H:=H.plus n1
      try dsimp only[List.set]at H
      refine ds [0,1,2,4,5,6] 7 fun a G=>?_
      refine dx 14 fun w eX H=>?_
      have g8:=c2
      obtain⟨j6,I⟩:=bE I
      rw[j6]at g8
      obtain⟨j7,I⟩:=bE I
      obtain⟨d2,_,l6,_,_,_⟩:=fZ.last g8 (abe j7) k6 n6
      have d2:l1=c8:=d2
      subst d2 l6
      obtain⟨d0,k8,I⟩:=adu I
      refine(cB (X:=UInt8) k8 ji sw E E E E G E E E (H.own (X:=UInt8) (i:=3) E) (H.ptS (X:=UInt8) (i:=0) (n:=1) (c:=1) E E E (aah _)) fun c3 w i8=>?_)
      have H:=H.chg i8 (i:=3) rfl
      try dsimp only[List.set]at H
      refine ds [0,1,2,4,5,6] 7 fun a G=>?_
      refine dx 25 fun w eX H=>?_
      have g9:=c2
      obtain⟨j8,I⟩:=bE I
      rw[j8]at g9
      obtain⟨j9,I⟩:=bE I
      obtain⟨_,d3,_,l7,_,_⟩:=fZ.last g9 (abe j9) k7 n7
      have d3:g7=c7:=d3
      subst d3 l7
      obtain⟨i3,k9,I⟩:=adu I
      refine(cB (X:=UInt8) k9 ji sw E E E E G E E E (H.own (X:=UInt8) (i:=4) E) (H.ptS (X:=UInt8) (i:=1) (n:=1) (c:=1) E E E (aah _)) fun c9 w i9=>?_)
      have H:=H.chg i9 (i:=4) rfl
      try dsimp only[List.set]at H
      refine ds [0,1,2,4,5,6] 7 fun a G=>?_
      obtain⟨AI,g2,I⟩:=adu I
      have i5:=aL g2
      have g0:bw (eO (fun w=>(c4).holds' w∧(ai 0 l1 5 u9.old).holds' w∧(ai 0 g7 5 l3.new).holds' w)) c1 c0:=fZ.each c2 (fun _ h=>h.1) (fun _ h=>cV (X:=UInt8) (e:=5) h.2.1) (fun _ h=>cV (X:=UInt8) (e:=5) h.2.2)
      obtain⟨z9,t5,j0⟩:=bw.getr g0 i5.2
      have t3:=bw.bd g0 (bA g2)
      obtain⟨AE,AG,rfl,c11,c12⟩:=j0
      refine fc [26,27] fun a G=>?_
      refine ko 28 fun w eX H=>?_
      obtain⟨m0,g3,I⟩:=adu I
      have d6:=c2
      obtain⟨k0,I⟩:=bE I
      rw[k0]at d6
      obtain⟨k1,I⟩:=bE I
      obtain⟨d1,d4⟩:=fZ.getr d6 g3
      have i0:=fZ.setOld (so':=c3) (lo':=d0) (d6) (abe k1) g3 d4
      refine(dB (d:=2) (q:=({ d1 with old:=c3 }:bq)) vi (H.own (X:=bq) (i:=2) E) d4 G E E (abj _ _ _) E E (by decide) (bq.mr _ _) fun w j4=>?_)
      have H:=H.chg j4 (i:=2) rfl
      try dsimp only[List.set]at H
      refine ds [0,1,2,4,5,6] 7 ?_
      obtain⟨AK,g4,I⟩:=adu I
      have i6:=aL g4
      have g1:bw (eO (fun w=>(c4).holds' w∧(ai 0 c3 5 d0).holds' w∧(ai 0 g7 5 l3.new).holds' w)) (c1.set ((IntKind.i64.wrap ((c0.length:Int)-1)):Int).toNat { d1 with old:=c3 }) (c0.set ((IntKind.i64.wrap ((c0.length:Int)-1)):Int).toNat { m0 with old:=d0 }):=fZ.each i0 (fun _ h=>h.1) (fun _ h=>cV (X:=UInt8) (e:=5) h.2.1) (fun _ h=>cV (X:=UInt8) (e:=5) h.2.2)
      obtain⟨c10,t6,j1⟩:=bw.getr g1 i6.2
      have t4:=bw.bd g1 (bA g4)
      obtain⟨AH,c20,rfl,zi,Aj⟩:=j1
      refine fc [29,30] fun a G=>?_
      refine ko 31 fun w eX H=>?_
      obtain⟨c24,g5,I⟩:=adu I
      have d7:=i0
      obtain⟨k2,I⟩:=bE I
      rw[k2]at d7
      obtain⟨k3,I⟩:=bE I
      obtain⟨g6,d5⟩:=fZ.getr d7 g5
      have l8:=fZ.setNew (D_:=c9) (Dw:=i3) (d7) (abe k3) g5 d5
      refine(dB (d:=3) (q:=({ g6 with new:=c9 }:bq)) vi (H.own (X:=bq) (i:=2) E) d5 G E E (abj _ _ _) E E (by decide) (bq.mg _ _) fun w j5=>?_)
      have H:=H.chg j5 (i:=2) rfl
      try dsimp only[List.set]at H
      refine ds [0,1,2,4,5,6] 7 ?_
      refine de fun w H=>?_
      refine aB ?_
      exact jr I ⟨i1,((c1.set ((IntKind.i64.wrap ((c0.length:Int)-1)):Int).toNat { d1 with old:=c3 }).set ((IntKind.i64.wrap ((c0.length:Int)-1)):Int).toNat { g6 with new:=c9 }),c4,c3,c9,d0,i3,l8,G.t,bU H [2,3,4,5,6] 7 E⟩
     rintro⟨u8,u5⟩ a w I ⟨p2,m2,n9,n0,m8,m6,m4,G2,G,H⟩
     replace I:Sh.vR u8 u5=_:=I
     unfold Sh.vR at I
     refine go 5 fun a w G H=>?_
     exact jr I ⟨p2,m2,n9,n0,m8,m6,m4,G2,G.t,H⟩
    refine bM (aB ?_)
    refine dT H [0,1,2,3,4] 5 fun K=>?_
    obtain⟨l4,Ku,l5,Kv,I⟩:=b2 I
    refine fc [0,1,2,3,4,5,6,8,9,10,11] fun a G=>?_
    refine fN K 7 12 ads E E ?_ ?_
    ·refine bZ G 7 E E E E E fun w eX H=>?_
     refine(bL (X:=UInt8) (y:=l4) ji sw E E E E G E E E fun c5 w BU n2=>?_)
     have H:=H.plus n2
     try dsimp only[List.set]at H
     refine ds [0,1,2,3,4,5] 6 fun a G=>?_
     refine dx 12 fun w eX H=>?_
     refine(bL (X:=UInt8) (y:=l5) ji sw E E E E G E E E fun c6 w c37 n3=>?_)
     have H:=H.plus n3
     try dsimp only[List.set]at H
     refine ds [0,1,2,3,4,5,6] 7 fun a G=>?_
     refine aK G K 13 E ads E E E (fun w H=>(aW z156 Tryz.underlying156 F4 G (parts:=[(0,.tmp 71),(1,.tmp 72),(2,.tmp 77),(3,.tmp 82)]) E E (aO E E (by rw[bq.len];decide) (bq.s_table _ _) (aO E E (by rw[bq.len];decide) (bq.s_from_ _ _) (aO E E (by rw[bq.len];decide) (bq.mr _ _) (aO E E (by rw[bq.len];decide) (bq.mg _ _) bD)))))) fun a G=>?_
     refine dx 14 fun w eX H=>?_
     refine(bL (X:=bq) (y:=(bq.mk x0 i2 (⟨some ⟨c5,0,none⟩,1,1⟩) (⟨some ⟨c6,0,none⟩,1,1⟩))) wR qO E E E E G E E E fun BO w BV n4=>?_)
     have H:=H.plus n4
     try dsimp only[List.set]at H
     refine ds [0,1,2,3,4,5,6,7] 8 fun a G=>?_
     refine dx 15 fun w eX H=>?_
     obtain⟨z1,l0,I⟩:=adu I
     refine(fS (X:=bq) l0 c2.len E wR qO E E E E G E E E (H.own (X:=bq) (i:=3) E) (H.ptS (X:=bq) (i:=0) (n:=1) (c:=1) E E E (aah _)) fun u2 w n5=>?_)
     have H:=H.chg n5 (i:=3) rfl
     try dsimp only[List.set]at H
     obtain⟨G3,p5,p6,H⟩:=lh (f_ H [6,4,0,1,2,3,5,7] 8)
     try dsimp only[List.set]at H
     try dsimp only[List.set]at H
     obtain⟨j2,k4,p7,H⟩:=lh (f_ H [0,5,1,2,3,4,6] 7)
     try dsimp only[List.set]at H
     have t8:bw (eO j2.holds') c1 c0:=fZ.each c2 (fun w h=>p5 w (k4 w h)) (fun w h=>cV (X:=UInt8) (e:=5) (p6 w (k4 w h))) (fun w h=>cV (X:=UInt8) (e:=5) (p7 w h))
     have H:=H.ptRow (lo:=0) (i:=3) (n:=1) (c:=1) rfl rfl (aaF _) rfl rfl (by decide)
     have H:=H.ptRow (lo:=0) (i:=2) (n:=1) (c:=1) rfl rfl (aaF _) rfl rfl (by decide)
     have t9:fZ true j2.holds' (c1 ++ [(bq.mk x0 i2 (⟨some ⟨c5,0,none⟩,1,1⟩) (⟨some ⟨c6,0,none⟩,1,1⟩))]) z1 (⟨some ⟨c5,0,none⟩,1,1⟩) (⟨some ⟨c6,0,none⟩,1,1⟩) [l4] [l5]:=by rw[(cX l0).2];exact fZ.push t8
     try dsimp only[List.set]at H
     refine dh fun a G=>?_
     refine bJ K 16 ads E E ?_
     refine bZ G 16 E E E E E fun w eX H=>Yd.val (aI G E E) ?_
     refine dr eX H fun a G=>?_
     refine de fun w H=>?_
     refine cG (aB ?_)
     exact jr I ⟨u2,(c1 ++ [(bq.mk x0 i2 (⟨some ⟨c5,0,none⟩,1,1⟩) (⟨some ⟨c6,0,none⟩,1,1⟩))]),j2,(⟨some ⟨c5,0,none⟩,1,1⟩),(⟨some ⟨c6,0,none⟩,1,1⟩),[l4],[l5],t9,G.t,bU H [4,3,2,0,5] 6 E⟩
    refine bZ G 12 E E E E E fun w eX H=>?_
    refine(bL (X:=UInt8) (y:=l5) ji sw E E E E G E E E fun c6 w c37 n3=>?_)
    have H:=H.plus n3
    try dsimp only[List.set]at H
    refine ds [0,1,2,3,4,5] 6 fun a G=>?_
    refine dx 7 fun w eX H=>?_
    refine(bL (X:=UInt8) (y:=l4) ji sw E E E E G E E E fun c5 w BU n2=>?_)
    have H:=H.plus n2
    try dsimp only[List.set]at H
    refine ds [0,1,2,3,4,5,6] 7 fun a G=>?_
    refine aK G K 13 E ads E E E (fun w H=>(aW z156 Tryz.underlying156 F4 G (parts:=[(0,.tmp 71),(1,.tmp 72),(2,.tmp 77),(3,.tmp 82)]) E E (aO E E (by rw[bq.len];decide) (bq.s_table _ _) (aO E E (by rw[bq.len];decide) (bq.s_from_ _ _) (aO E E (by rw[bq.len];decide) (bq.mr _ _) (aO E E (by rw[bq.len];decide) (bq.mg _ _) bD)))))) fun a G=>?_
    refine dx 14 fun w eX H=>?_
    refine(bL (X:=bq) (y:=(bq.mk x0 i2 (⟨some ⟨c5,0,none⟩,1,1⟩) (⟨some ⟨c6,0,none⟩,1,1⟩))) wR qO E E E E G E E E fun BO w BV n4=>?_)
    have H:=H.plus n4
    try dsimp only[List.set]at H
    refine ds [0,1,2,3,4,5,6,7] 8 fun a G=>?_
    refine dx 15 fun w eX H=>?_
    obtain⟨z1,l0,I⟩:=adu I
    refine(fS (X:=bq) l0 c2.len E wR qO E E E E G E E E (H.own (X:=bq) (i:=3) E) (H.ptS (X:=bq) (i:=0) (n:=1) (c:=1) E E E (aah _)) fun u2 w n5=>?_)
    have H:=H.chg n5 (i:=3) rfl
    try dsimp only[List.set]at H
    obtain⟨G3,p5,p6,H⟩:=lh (f_ H [6,4,0,1,2,3,5,7] 8)
    try dsimp only[List.set]at H
    try dsimp only[List.set]at H
    obtain⟨j2,k4,p7,H⟩:=lh (f_ H [0,5,1,2,3,4,6] 7)
    try dsimp only[List.set]at H
    have t8:bw (eO j2.holds') c1 c0:=fZ.each c2 (fun w h=>p5 w (k4 w h)) (fun w h=>cV (X:=UInt8) (e:=5) (p6 w (k4 w h))) (fun w h=>cV (X:=UInt8) (e:=5) (p7 w h))
    have H:=H.ptRow (lo:=0) (i:=2) (n:=1) (c:=1) rfl rfl (aaF _) rfl rfl (by decide)
    have H:=H.ptRow (lo:=0) (i:=3) (n:=1) (c:=1) rfl rfl (aaF _) rfl rfl (by decide)
    have t9:fZ true j2.holds' (c1 ++ [(bq.mk x0 i2 (⟨some ⟨c5,0,none⟩,1,1⟩) (⟨some ⟨c6,0,none⟩,1,1⟩))]) z1 (⟨some ⟨c5,0,none⟩,1,1⟩) (⟨some ⟨c6,0,none⟩,1,1⟩) [l4] [l5]:=by rw[(cX l0).2];exact fZ.push t8
    try dsimp only[List.set]at H
    refine dh fun a G=>?_
    refine bJ K 16 ads E E ?_
    refine bZ G 16 E E E E E fun w eX H=>Yd.val (aI G E E) ?_
    refine dr eX H fun a G=>?_
    refine de fun w H=>?_
    refine cG (aB ?_)
    exact jr I ⟨u2,(c1 ++ [(bq.mk x0 i2 (⟨some ⟨c5,0,none⟩,1,1⟩) (⟨some ⟨c6,0,none⟩,1,1⟩))]),j2,(⟨some ⟨c5,0,none⟩,1,1⟩),(⟨some ⟨c6,0,none⟩,1,1⟩),[l4],[l5],t9,G.t,bU H [4,2,3,0,5] 6 E⟩
   rintro⟨u6,u4⟩ a w I ⟨p1,m1,n8,m9,m7,m5,m3,c51,G,H⟩
   replace I:Sh.mG l2 u6 u4=_:=I
   unfold Sh.mG at I
   refine go 6 fun a w G H=>?_
   exact jr I ⟨p1,m1,n8,m9,m7,m5,m3,c51,G.t,H⟩
  refine go 5 fun a w G H=>?_
  obtain rfl:=oI I
  have I:=G4 _ rfl
  subst I
  exact⟨(c0,l9),E,i1,c1,c4,c8,c7,d9,d8,c2,G.to ⟨E,E,trivial⟩,bU H [0,1,2,3] 5 E⟩
 rintro⟨p3,u3⟩ a w I ⟨p0,k5,u0,t1,t0,p9,p8,FN,G,H⟩
 replace I:Sh.GG p3 u3=_:=I
 unfold Sh.GG at I
 refine go 8 fun a w G H=>?_
 try dsimp only[List.set]at H
 obtain⟨KD,Eu,Ew,H⟩:=lh (f_ H [3,1,0,2] 4)
 try dsimp only[List.set]at H
 try dsimp only[List.set]at H
 obtain⟨c16,z6,EO,H⟩:=lh (f_ H [0,2,1] 3)
 try dsimp only[List.set]at H
 have c53:bw (eO c16.holds') k5 p3:=fZ.each FN (fun w h=>Eu w (z6 w h)) (fun w h=>cV (X:=UInt8) (e:=5) (Ew w (z6 w h))) (fun w h=>cV (X:=UInt8) (e:=5) (EO w h))
 obtain rfl:=oI I
 refine aT Tryz.results86 G E ?_
 exact⟨p0,k5,c16,E,c53,bU H [1,0] 2 E⟩
end Go.Proofs
end
section
namespace Go.Proofs
open Go.Fw Go.Fx
set_option maxRecDepth 10000
theorem jO{x0 x1:bj}{s1 s3:SV}{da:List SV}{s7 s9 e8:SV}{wv:List SV}{qH:SV}{out:(dD×Int)}{w0:World}{Bf:World→Prop}{Lr:List dw}(I:Sh.eM x0 x1=some out)(H:au w0 (Lr))(S:∀ w,au w Lr→Bf w)(f2:cn Bf s1 x0.b_)(f5:cn Bf s3 da)(q6:bw (cn (X:=UInt8) Bf) da x0.ah)(f8:cn Bf s7 x0.bf)(f10:cn Bf s9 x1.b_)(f13:cn Bf e8 wv)(CH:bw (cn (X:=UInt8) Bf) wv x1.ah)(f16:cn Bf qH x1.bf):Calls Tryz.prog 31 #[.agg (ay.enc (il x0 s1 s3 s7)).toArray,.agg (ay.enc (il x1 s9 e8 qH)).toArray] w0 (gf fun v w'=>∃ (m6:SV) (m7:SV) (m8:SV) (j6:List bq) (m3:dw) (m9:SV),v = .tuple #[.agg (bS.enc (qk out.1 m6 m7 m8 m9)).toArray,.int .i64 out.2]∧bw (eO m3.holds') j6 out.1.dE∧au w' (ai 0 m6 128 out.1.bk::ai 0 m7 151 out.1.slots::ai 0 m8 156 j6::m3::ai 0 m9 3 out.1.bf::Lr)):=by
 unfold Sh.eM at I
 refine ce Tryz.func31 Tryz.ntmps31 fun a G=>?_
 refine go 11 fun c0 c1 c2 a w G H=>?_
 refine jn G H I [2,3,4,5] (fun j4 u=>(12,.bool j4)::u) (fun c16 I z2 G H=>?_) fun j4 a w I G H=>?_
 ·refine go 2 fun a w G H=>?_
  obtain⟨AK,n5,I⟩:=adu I
  refine cl Tryz.call82 (iH n5 H (Bf:=Bf) (tb S) f2 f5 q6 f8) ?_
  rintro v w ⟨rfl,H⟩ a G
  refine go 2 fun a w G H=>?_
  refine gs I (fun j5 I=>?_) fun j5 I=>?_
  ·exact lf
  refine go 1 fun a w G H=>?_
  obtain⟨c24,n6,I⟩:=adu I
  refine dA G E E E j5 E E (aS (xs:=[.tmp 17]) Tryz.call82 G E E (iH n6 H (Bf:=Bf) (fun w H=>S _ (dZ H 3)) f10 f13 CH f16) fun v w hR=>?_)
  obtain⟨rfl,H⟩:=hR
  intro a G
  exact lf
 replace I:Sh.mW x0 x1 j4=_:=I
 unfold Sh.mW at I
 refine aB ?_
 refine cc I (fun n3 I=>?_) fun n3 I=>?_
 ·refine go 2 fun a w G H=>?_
  refine aA G (aW z60 HL HF G (parts:=[]) E E bD) E E E fun a G=>?_
  refine go 5 fun a w G H=>?_
  have H:=H.rowNil (X:=dU) 0 128
  have H:=H.rowNil (X:=eo) 0 151
  obtain⟨m4,H⟩:=lx H
  have t8:bw (eO m4.holds') ([]:List bq) ([]:List cu):=bw.nil
  have H:=H.rowNil (X:=bq) 0 156
  have H:=H.rowNil (X:=Int) 0 3
  obtain rfl:=oI I
  refine er Tryz.results31 G H ?_
  exact⟨SV.nil,SV.nil,SV.nil,[],m4,SV.nil,E,t8,bU H [4,3,1,2,0] 8 E⟩
 refine go 4 fun a w G H=>?_
 obtain⟨Bg,n7,I⟩:=adu I
 refine cl Tryz.call83 (vQ n7 H (Bf:=Bf) (tb S) f2 f5 q6 f8 f10 f13 CH f16) ?_
 rintro v w ⟨rfl,H⟩ a G
 refine go 4 fun a w G H=>?_
 refine cc I (fun n4 I=>?_) fun n4 I=>?_
 ·refine go 2 fun a w G H=>?_
  refine aA G (aW z60 HL HF G (parts:=[]) E E bD) E E E fun a G=>?_
  refine go 5 fun a w G H=>?_
  have H:=H.rowNil (X:=dU) 0 128
  have H:=H.rowNil (X:=eo) 0 151
  obtain⟨m5,H⟩:=lx H
  have t9:bw (eO m5.holds') ([]:List bq) ([]:List cu):=bw.nil
  have H:=H.rowNil (X:=bq) 0 156
  have H:=H.rowNil (X:=Int) 0 3
  obtain rfl:=oI I
  refine er Tryz.results31 G H ?_
  exact⟨SV.nil,SV.nil,SV.nil,[],m5,SV.nil,E,t9,bU H [4,3,1,2,0] 8 E⟩
 refine go 11 fun a w G H=>?_
 refine aA G (aW z60 HL HF G (parts:=[(0,.tmp 29),(1,.tmp 31),(2,.tmp 33)]) E E (aO E E (by rw[bS.len];decide) (bS.s_at_ _ _) (aO E E (by rw[bS.len];decide) (bS.s_next _ _) (aO E E (by rw[bS.len];decide) (bS.s_done _ _) bD)))) E E E fun a G=>?_
 refine go 5 fun c3 a w G H=>?_
 refine aM G H I (fun F x a w=>match x with|k1=>∃ (d1:SV),Fr 127 [(2,.pointer (some ⟨c0,0,none⟩)),(3,.pointer (some ⟨c1,0,none⟩)),(4,.pointer (some ⟨c2,0,none⟩)),(5,.int .i64 0),(6,.pointer (some ⟨c3,0,none⟩))] a∧au w (pt c3 (bS.enc (bS.mk x0.at_ x1.at_ x1.done d1 SV.nil SV.nil SV.nil)) 60::ai 0 d1 128 k1::pt c2 (bS.enc Gj) 60::pt c1 (ay.enc (il x1 s9 e8 qH)) 54::pt c0 (ay.enc (il x0 s1 s3 s7)) 54::Lr)) (fun AE I z3 G H=>?_) ?_
 ·refine aH ?_
  refine dT H [0,1,2,3] 4 fun K=>?_
  refine fc [0] fun a G=>?_
  refine aK G K 1 E ads E E E (fun w H=>(qX Tryz.underlying47 B0 E G E E)) fun a G=>?_
  refine fc [2] fun a G=>?_
  refine aK G K 3 E ads E E E (fun w H=>(qX Tryz.underlying47 B0 E G E E)) fun a G=>?_
  refine fc [6] fun a G=>?_
  refine dx 4 fun w eX H=>?_
  obtain⟨i5,l9,I⟩:=adu I
  refine dl Tryz.call84 (mT l9 H (fun _ h=>h) (fun w H=>(cH.ofArr (lo:=0) (H.cells (i:=3) E (ay.c_regs _)) (aaF _) (Vec.len _))) (fun w H=>(cH.ofArr (lo:=0) (H.cells (i:=2) E (ay.c_regs _)) (aaF _) (Vec.len _)))) ?_
  rintro v w ⟨j9,rfl,H⟩
  refine ds [0,1,2,3,4] 5 fun a G=>?_
  refine fc [5] fun a G=>?_
  refine de fun w H=>?_
  refine go 2 fun a w G H=>?_
  have H:=H.rowNil (X:=dU) 0 128
  refine aY G H I (fun F x a w=>match x with|(g0,g7)=>∃ (d2:SV),Fr 127 [(41,.int .i64 g7),(2,.pointer (some ⟨c0,0,none⟩)),(3,.pointer (some ⟨c1,0,none⟩)),(39,(j9).v),(4,.pointer (some ⟨c2,0,none⟩)),(40,.int .i64 (i5.length:Int)),(5,.int .i64 0),(6,.pointer (some ⟨c3,0,none⟩))] a∧au w (pt c3 (bS.enc (bS.mk x0.at_ x1.at_ x1.done d2 SV.nil SV.nil SV.nil)) 60::ai 0 d2 128 g0::pt c2 (bS.enc Gj) 60::pt c1 (ay.enc (il x1 s9 e8 qH)) 54::pt c0 (ay.enc (il x0 s1 s3 s7)) 54::ai 0 j9 3 i5::Lr)) (fun G H=>⟨SV.nil,G.to ⟨E,E,E,E,E,E,E,E,trivial⟩,f_ H [2,0,3,4,5,1] 6⟩) ?_
  rintro⟨g0,g7⟩ a w c20 I n0 ⟨d2,G,H⟩
  replace I:Sh.kB x0 x1 i5 g0 g7=_:=I
  unfold Sh.kB at I
  refine go 6 fun a w G H=>?_
  refine cc I (fun l0 I=>?_) fun l0 I=>?_
  ·obtain⟨p7,u4,I⟩:=adu I
   refine go 11 fun a w G H=>?_
   refine dT H [0,1,2,3,4,5] 6 fun K=>?_
   obtain⟨p8,u5,p9,u6,I⟩:=b2 I
   refine fc [0,1,2,3,4,5,6,7,8,9,10] fun a G=>?_
   refine aK G K 11 E ads E E E (fun w H=>(aW Np Tryz.underlying128 Md G (parts:=[(0,.tmp 47),(1,.tmp 51),(2,.tmp 55)]) E E (aO E E (by rw[dU.len];decide) (dU.s_reg _ _) (fB E (ak.len _) (by rw[ak.len,dU.len];decide) (dU.p_old _ _) (fB E (ak.len _) (by rw[ak.len,dU.len];decide) (dU.p_new _ _) bD))))) fun a G=>?_
   refine dx 12 fun w eX H=>?_
   refine(bL (X:=dU) (y:=(dU.mk p7 p8 p9)) DZ zp E E E E G E E E fun t4 w t6 j2=>?_)
   have H:=H.plus j2
   try dsimp only[List.set]at H
   refine ds [0,1,2,3,4,5,6] 7 fun a G=>?_
   refine dx 13 fun w eX H=>?_
   obtain⟨z8,l6,I⟩:=adu I
   refine(cB (X:=dU) l6 DZ zp E E E E G E E E (H.own (X:=dU) (i:=2) E) (H.ptS (X:=dU) (i:=0) (n:=1) (c:=1) E E E (aah _)) fun p2 w k4=>?_)
   have H:=H.chg k4 (i:=2) rfl
   try dsimp only[List.set]at H
   refine dh fun a G=>?_
   refine fc [14,15] fun a G=>?_
   refine de fun w H=>?_
   refine go 7 fun a w G H=>?_
   exact jr I ⟨p2,G.t,bU H [1,2,3,4,5,6] 7 E⟩
  refine go 5 fun a w G H=>?_
  obtain rfl:=oI I
  have I:=n0 _ rfl
  subst I
  exact⟨g0,E,d2,G.to ⟨E,E,E,E,E,trivial⟩,bU H [0,1,2,3,4] 6 E⟩
 rintro k1 a w I ⟨d1,G,H⟩
 unfold Sh.Jz at I
 refine go 2 fun a w G H=>?_
 refine aM G H I (fun F x a w=>match x with|(g8,g9)=>∃ (d3:SV) (d4:SV),Fr 127 [(2,.pointer (some ⟨c0,0,none⟩)),(3,.pointer (some ⟨c1,0,none⟩)),(4,.pointer (some ⟨c2,0,none⟩)),(5,.int .i64 0),(6,.pointer (some ⟨c3,0,none⟩))] a∧au w (pt c3 (bS.enc (bS.mk x0.at_ x1.at_ x1.done d3 d4 SV.nil SV.nil)) 60::ai 0 d3 128 g8::ai 0 d4 151 g9::pt c2 (bS.enc Gj) 60::pt c1 (ay.enc (il x1 s9 e8 qH)) 54::pt c0 (ay.enc (il x0 s1 s3 s7)) 54::Lr)) (fun AG I z4 G H=>?_) ?_
 ·refine aH ?_
  refine dT H [0,1,2,3,4] 5 fun K=>?_
  refine fc [0] fun a G=>?_
  refine aK G K 1 E ads E E E (fun w H=>(qX Tryz.underlying51 Dt E G E E)) fun a G=>?_
  refine fc [2] fun a G=>?_
  refine aK G K 3 E ads E E E (fun w H=>(qX Tryz.underlying51 Dt E G E E)) fun a G=>?_
  refine fc [6] fun a G=>?_
  refine dx 4 fun w eX H=>?_
  obtain⟨i6,m0,I⟩:=adu I
  refine dl Tryz.call85 (mX m0 H (fun _ h=>h) (fun w H=>(cH.ofArr (lo:=0) (H.cells (i:=4) E (ay.c_stack _)) (aaF _) (Vec.len _))) (fun w H=>(cH.ofArr (lo:=0) (H.cells (i:=3) E (ay.c_stack _)) (aaF _) (Vec.len _)))) ?_
  rintro v w ⟨k0,rfl,H⟩
  refine ds [0,1,2,3,4,5] 6 fun a G=>?_
  refine fc [5] fun a G=>?_
  refine de fun w H=>?_
  refine go 2 fun a w G H=>?_
  have H:=H.rowNil (X:=eo) 0 151
  refine aY G H I (fun F x a w=>match x with|(g1,g2,i0)=>∃ (c6:SV) (d5:SV),Fr 127 [(67,.int .i64 i0),(2,.pointer (some ⟨c0,0,none⟩)),(3,.pointer (some ⟨c1,0,none⟩)),(4,.pointer (some ⟨c2,0,none⟩)),(5,.int .i64 0),(6,.pointer (some ⟨c3,0,none⟩)),(65,(k0).v),(66,.int .i64 (i6.length:Int))] a∧au w (pt c3 (bS.enc (bS.mk x0.at_ x1.at_ x1.done c6 d5 SV.nil SV.nil)) 60::ai 0 c6 128 g1::ai 0 d5 151 g2::pt c2 (bS.enc Gj) 60::pt c1 (ay.enc (il x1 s9 e8 qH)) 54::pt c0 (ay.enc (il x0 s1 s3 s7)) 54::ai 0 k0 3 i6::Lr)) (fun G H=>⟨d1,SV.nil,G.to ⟨E,E,E,E,E,E,E,E,trivial⟩,f_ H [2,3,0,4,5,6,1] 7⟩) ?_
  rintro⟨g1,g2,i0⟩ a w c21 I n1 ⟨c6,d5,G,H⟩
  replace I:Sh.kC x0 x1 i6 g1 g2 i0=_:=I
  unfold Sh.kC at I
  refine go 6 fun a w G H=>?_
  refine cc I (fun l1 I=>?_) fun l1 I=>?_
  ·obtain⟨t0,u7,I⟩:=adu I
   refine go 11 fun a w G H=>?_
   refine dT H [0,1,2,3,4,5,6] 7 fun K=>?_
   obtain⟨t1,u8,t2,u9,I⟩:=b2 I
   refine fc [0,1,2,3,4,5,6,7,8,9,10] fun a G=>?_
   refine aK G K 11 E ads E E E (fun w H=>(aW Nq Tryz.underlying151 Me G (parts:=[(0,.tmp 73),(1,.tmp 77),(2,.tmp 81)]) E E (aO E E (by rw[eo.len];decide) (eo.s_slot _ _) (fB E (bn.len _) (by rw[bn.len,eo.len];decide) (eo.p_old _ _) (fB E (bn.len _) (by rw[bn.len,eo.len];decide) (eo.p_new _ _) bD))))) fun a G=>?_
   refine dx 12 fun w eX H=>?_
   refine(bL (X:=eo) (y:=(eo.mk t0 t1 t2)) D1 zq E E E E G E E E fun t5 w t7 j3=>?_)
   have H:=H.plus j3
   try dsimp only[List.set]at H
   refine ds [0,1,2,3,4,5,6,7] 8 fun a G=>?_
   refine dx 13 fun w eX H=>?_
   obtain⟨z9,l7,I⟩:=adu I
   refine(cB (X:=eo) l7 D1 zq E E E E G E E E (H.own (X:=eo) (i:=3) E) (H.ptS (X:=eo) (i:=0) (n:=1) (c:=1) E E E (aah _)) fun p3 w k5=>?_)
   have H:=H.chg k5 (i:=3) rfl
   try dsimp only[List.set]at H
   refine dh fun a G=>?_
   refine fc [14,15] fun a G=>?_
   refine de fun w H=>?_
   refine go 7 fun a w G H=>?_
   exact jr I ⟨c6,p3,G.t,bU H [1,2,3,4,5,6,7] 8 E⟩
  refine go 5 fun a w G H=>?_
  obtain rfl:=oI I
  have I:=n1 _ rfl
  subst I
  exact⟨(g1,g2),E,c6,d5,G.to ⟨E,E,E,E,E,trivial⟩,bU H [0,1,2,3,4,5] 7 E⟩
 rintro⟨g8,g9⟩ a w I ⟨d3,d4,G,H⟩
 replace I:Sh.yQ x0 x1 g8 g9=_:=I
 unfold Sh.yQ at I
 refine go 7 fun a w G H=>?_
 obtain⟨Aj,m1,I⟩:=adu I
 refine cl Tryz.call86 (oA m1 H (Bf:=Bf) (tb S) f2 f10) ?_
 rintro v w ⟨p4,l5,p1,rfl,n8,H⟩ a G
 refine go 5 fun a w G H=>?_
 refine aM G H I (fun F x a w=>match x with|(i1,i2,i3)=>∃ (d6:SV) (d7:SV) (d8:SV) (c5:List bq) (c9:dw),bw (eO c9.holds') c5 i3∧Fr 127 [(2,.pointer (some ⟨c0,0,none⟩)),(3,.pointer (some ⟨c1,0,none⟩)),(4,.pointer (some ⟨c2,0,none⟩)),(5,.int .i64 0),(6,.pointer (some ⟨c3,0,none⟩))] a∧au w (pt c3 (bS.enc (bS.mk x0.at_ x1.at_ x1.done d6 d7 d8 SV.nil)) 60::ai 0 d6 128 i1::ai 0 d7 151 i2::ai 0 d8 156 c5::c9::pt c2 (bS.enc Gj) 60::pt c1 (ay.enc (il x1 s9 e8 qH)) 54::pt c0 (ay.enc (il x0 s1 s3 s7)) 54::Lr)) (fun AH I z5 G H=>?_) ?_
 ·refine go 9 fun a w G H=>?_
  refine aY G H I (fun F x a w=>match x with|(g3,g4,g5,i4)=>∃ (c7:SV) (c8:SV) (d9:SV) (c4:List bq) (d0:dw),bw (eO d0.holds') c4 g5∧Fr 127 [(96,.int .i64 i4),(2,.pointer (some ⟨c0,0,none⟩)),(3,.pointer (some ⟨c1,0,none⟩)),(4,.pointer (some ⟨c2,0,none⟩)),(5,.int .i64 0),(6,.pointer (some ⟨c3,0,none⟩)),(95,.int .i64 (x0.ah.length:Int))] a∧au w (pt c3 (bS.enc (bS.mk x0.at_ x1.at_ x1.done c7 c8 d9 SV.nil)) 60::ai 0 c7 128 g3::ai 0 c8 151 g4::ai 0 d9 156 c4::d0::pt c2 (bS.enc Gj) 60::pt c1 (ay.enc (il x1 s9 e8 qH)) 54::pt c0 (ay.enc (il x0 s1 s3 s7)) 54::Lr)) (fun G H=>⟨d3,d4,p4,l5,p1,n8,G.to ⟨E,E,E,E,E,E,E,trivial⟩,f_ H [2,3,4,0,1,5,6,7] 8⟩) ?_
  rintro⟨g3,g4,g5,i4⟩ a w AI I n2 ⟨c7,c8,d9,c4,d0,g6,G,H⟩
  replace I:Sh.kD x0 x1 g3 g4 g5 i4=_:=I
  unfold Sh.kD at I
  refine go 6 fun a w G H=>?_
  refine cc I (fun l2 I=>?_) fun l2 I=>?_
  ·refine go 10 fun a w G H=>?_
   refine dT H [0,1,2,3,4,5,6,7] 8 fun K=>?_
   obtain⟨c10,i8,I⟩:=adu I
   have k2:=aL i8
   obtain⟨z0,u2,k8⟩:=bw.getr q6 k2.2
   have u0:=bw.bd q6 (bA i8)
   obtain⟨c11,i9,I⟩:=adu I
   have k3:=aL i9
   obtain⟨z1,u3,k9⟩:=bw.getr CH k3.2
   have u1:=bw.bd CH (bA i9)
   refine fc [0,1,2,3,4,5,6,7,8,9,10,11,12] fun a G=>?_
   refine dx 13 fun w eX H=>?_
   obtain⟨Ak,m2,I⟩:=adu I
   refine dl Tryz.call86 (oA m2 H (Bf:=Bf) (tb S) k8 k9) ?_
   rintro v w ⟨z7,i7,z6,rfl,j7,H⟩
   refine ds [0,1,2,3,4,5,6,7,8,9] 10 fun a G=>?_
   refine dx 14 fun w eX H=>?_
   obtain⟨t3,j0,I⟩:=adu I
   refine(fS (X:=bq) j0 g6.len j7.len wR qO E E E E G E E E (H.own (X:=bq) (i:=5) E) (H.rowS (X:=bq) (i:=0) E) fun p5 w k6=>?_)
   have H:=H.chg k6 (i:=5) rfl
   try dsimp only[List.set]at H
   obtain⟨j8,l3,l4,H⟩:=lh (f_ H [6,1,0,2,3,4,5,7,8,9] 10)
   try dsimp only[List.set]at H
   have p0:bw (eO j8.holds') (c4++i7) t3:=by rw[(cX j0).2];exact(g6.mono fun _ _ q=>q.mono l3).append (j7.mono fun _ _ q=>q.mono l4)
   try dsimp only[List.set]at H
   refine dh fun a G=>?_
   refine fc [15,16] fun a G=>?_
   refine de fun w H=>?_
   refine go 7 fun a w G H=>?_
   exact jr I ⟨c7,c8,p5,(c4++i7),j8,p0,G.t,bU H [2,3,4,5,0,6,7,8] 9 E⟩
  refine go 5 fun a w G H=>?_
  obtain rfl:=oI I
  have I:=n2 _ rfl
  subst I
  exact⟨(g3,g4,g5),E,c7,c8,d9,c4,d0,g6,G.to ⟨E,E,E,E,E,trivial⟩,H⟩
 rintro⟨i1,i2,i3⟩ a w I ⟨d6,d7,d8,c5,c9,n9,G,H⟩
 replace I:Sh.yR x0 x1 i1 i2 i3=_:=I
 unfold Sh.yR at I
 refine go 2 fun a w G H=>?_
 refine dT H [0,1,2,3,4,5,6,7] 8 fun K=>?_
 refine fc [0,1,2,3,4,5,6] fun a G=>?_
 obtain⟨c12,j1,I⟩:=adu I
 refine aK G K 7 E ads E E E (fun w H=>(fC (f16 _ (S _ (dZ H 8))) j1 o9 kP E G E E (.inr ⟨_,_,E,E⟩) (.inl ⟨E,E⟩))) fun a G=>?_
 refine dx 8 fun w eX H=>?_
 have H:=H.rowNil (X:=Int) 0 3
 obtain⟨zi,l8,I⟩:=adu I
 refine(cB (X:=Int) l8 o9 kP E E E E G E E E (H.own (X:=Int) (i:=0) E) ((cn.nj f16 j1 E) _ (S _ (dZ H 9))) fun p6 w k7=>?_)
 have H:=H.chg k7 (i:=0) rfl
 try dsimp only[List.set]at H
 refine ds [0,1,2,3,4,5,6,7,8] 9 fun a G=>?_
 refine fc [9,10] fun a G=>?_
 refine de fun w H=>?_
 refine go 9 fun a w G H=>?_
 obtain rfl:=oI I
 refine er Tryz.results31 G H ?_
 exact⟨d6,d7,d8,c5,c9,p6,E,n9,bU H [2,3,4,5,0] 9 E⟩
end Go.Proofs
end
section
namespace Go.Proofs
open Go.Fw Go.Fx
set_option maxRecDepth 10000
theorem oN{x0:bj}{x1:dD}{s1 s3:SV}{da:List SV}{s7 s9 e8 fe:SV}{rf:List bq}{dy:SV}{out:Int}{w0:World}{Bf:World→Prop}{Lr:List dw}(I:Sh.nO x0 x1=some out)(H:au w0 (Lr))(S:∀ w,au w Lr→Bf w)(f2:cn Bf s1 x0.b_)(f5:cn Bf s3 da)(q6:bw (cn (X:=UInt8) Bf) da x0.ah)(f8:cn Bf s7 x0.bf)(f10:cn Bf s9 x1.bk)(f12:cn Bf e8 x1.slots)(f15:cn Bf fe rf)(B8:bw (eO Bf) rf x1.dE)(f18:cn Bf dy x1.bf):Calls Tryz.prog 125 #[.agg (ay.enc (il x0 s1 s3 s7)).toArray,.agg (bS.enc (qk x1 s9 e8 fe dy)).toArray] w0 (gf fun v w'=>v = .int .i64 out∧au w' (Lr)):=by
 unfold Sh.nO at I
 refine ce Tryz.func125 Tryz.ntmps125 fun a G=>?_
 refine go 12 fun c0 c1 a w G H=>?_
 obtain⟨Vg,Qb,I⟩:=adu I
 refine cl Tryz.call82 (iH Qb H (Bf:=Bf) (tb S) f2 f5 q6 f8) ?_
 rintro v w ⟨rfl,H⟩ a G
 refine go 4 fun a w G H=>?_
 refine cc I (fun He I=>?_) fun He I=>?_
 ·exact lf
 refine go 3 fun a w G H=>?_
 obtain⟨Vh,Qc,I⟩:=adu I
 refine cl Tryz.call173 (lJ Qc H (Bf:=Bf) (tb S) f10 f12 f15 B8 f18) ?_
 rintro v w ⟨rfl,H⟩ a G
 exact lf
theorem iX{x0:bj}{x1:dD}{s1 s3:SV}{da:List SV}{s7 s9 e8 fe:SV}{rf:List bq}{dy:SV}{out:(bj×Int)}{w0:World}{Bf:World→Prop}{Lr:List dw}(I:Sh.bP x0 x1=some out)(H:au w0 (Lr))(S:∀ w,au w Lr→Bf w)(f2:cn Bf s1 x0.b_)(f5:cn Bf s3 da)(q6:bw (cn (X:=UInt8) Bf) da x0.ah)(f8:cn Bf s7 x0.bf)(f10:cn Bf s9 x1.bk)(f12:cn Bf e8 x1.slots)(f15:cn Bf fe rf)(B8:bw (eO Bf) rf x1.dE)(f18:cn Bf dy x1.bf):Calls Tryz.prog 52 #[.agg (ay.enc (il x0 s1 s3 s7)).toArray,.agg (bS.enc (qk x1 s9 e8 fe dy)).toArray] w0 (gf fun v w'=>∃ (UY:SV) (UZ:SV) (Le:List SV) (UJ:dw) (U0:SV),v = .tuple #[.agg (ay.enc (il out.1 UY UZ U0)).toArray,.int .i64 out.2]∧bw (cn (X:=UInt8) UJ.holds') Le out.1.ah∧au w' (ai 0 UY 5 out.1.b_::ai 0 UZ 23 Le::UJ::ai 0 U0 3 out.1.bf::Lr)):=by
 unfold Sh.bP at I
 refine ce Tryz.func52 Tryz.ntmps52 fun a G=>?_
 refine go 13 fun d6 d7 d8 a w G H=>?_
 obtain⟨Ro,Qi,I⟩:=adu I
 refine cl Tryz.call125 (oN Qi H (Bf:=Bf) (tb S) f2 f5 q6 f8 f10 f12 f15 B8 f18) ?_
 rintro v w ⟨rfl,H⟩ a G
 refine go 9 fun a w G H=>?_
 refine cc I (fun O5 I=>?_) fun O5 I=>?_
 ·refine go 2 fun a w G H=>?_
  refine aA G (aW z54 ri wK G (parts:=[]) E E bD) E E E fun a G=>?_
  refine go 6 fun a w G H=>?_
  have H:=H.rowNil (X:=UInt8) 0 5
  obtain⟨UK,H⟩:=lx H
  have UG:bw (cn (X:=UInt8) UK.holds') ([]:List SV) ([]:List (List UInt8)):=bw.nil
  have H:=H.rowNil (X:=SV) 0 23
  have H:=H.rowNil (X:=Int) 0 3
  obtain rfl:=oI I
  refine er Tryz.results52 G H ?_
  exact⟨SV.nil,SV.nil,[],UK,SV.nil,E,UG,bU H [3,1,2,0] 7 E⟩
 refine go 4 fun a w G H=>?_
 refine jn G H I [2,3,4,5] (fun c0 u=>(26,.bool c0)::u) (fun g0 I d9 G H=>?_) fun c0 a w I G H=>?_
 ·refine go 4 fun a w G H=>?_
  refine gs I (fun c4 I=>?_) fun c4 I=>?_
  ·exact lf
  refine go 5 fun a w G H=>?_
  refine gs I (fun c1 I=>?_) fun c1 I=>?_
  ·exact lf
  refine go 2 fun a w G H=>?_
  obtain⟨g3,c8,I⟩:=adu I
  refine dA G E E E c1 E E (aS (xs:=[.tmp 22,.tmp 23]) Tryz.call126 G E E (qC c8 H (Bf:=Bf) (fun w H=>S _ (dZ H 3)) f2 f5 q6 f8 f10 f12 f15 B8 f18) fun v w hR=>?_)
  obtain⟨rfl,H⟩:=hR
  intro a G
  exact lf
 replace I:Sh.wY x0 x1 c0=_:=I
 unfold Sh.wY at I
 refine aB ?_
 refine cc I (fun c5 I=>?_) fun c5 I=>?_
 ·refine go 2 fun a w G H=>?_
  refine aA G (aW z54 ri wK G (parts:=[]) E E bD) E E E fun a G=>?_
  refine go 5 fun a w G H=>?_
  have H:=H.rowNil (X:=UInt8) 0 5
  obtain⟨c3,H⟩:=lx H
  have d0:bw (cn (X:=UInt8) c3.holds') ([]:List SV) ([]:List (List UInt8)):=bw.nil
  have H:=H.rowNil (X:=SV) 0 23
  have H:=H.rowNil (X:=Int) 0 3
  obtain rfl:=oI I
  refine er Tryz.results52 G H ?_
  exact⟨SV.nil,SV.nil,[],c3,SV.nil,E,d0,bU H [3,1,2,0] 7 E⟩
 refine go 6 fun a w G H=>?_
 obtain⟨g4,c9,I⟩:=adu I
 refine cl Tryz.call127 (nZ c9 H (Bf:=Bf) (tb S) f2 f5 q6 f8 f10 f12 f15 B8 f18) ?_
 rintro v w ⟨d3,d4,c6,d2,g1,rfl,d1,H⟩ a G
 refine go 26 fun a w G H=>?_
 obtain⟨g2,c7,I⟩:=adu I
 refine aN G E E E (cB (X:=Int) c7 o9 kP E E E E G E E E (H.own (X:=Int) (i:=3) E) (f18 _ (S _ (dZ H 7))) fun d5 w c2=>?_)
 have H:=H.chg c2 (i:=3) rfl
 try dsimp only[List.set]at H
 intro a G
 refine go 12 fun a w G H=>?_
 obtain rfl:=oI I
 refine er Tryz.results52 G H ?_
 exact⟨d3,d4,c6,d2,d5,E,d1,bU H [0,1,2,3] 7 E⟩
end Go.Proofs
end
section
namespace Go.Proofs
open Go.Fw Go.Fx
set_option maxRecDepth 10000
theorem oM{x0:fj}{s1 s3:SV}{da:List SV}{out:bj}{w0:World}{Bf:World→Prop}{Lr:List dw}(I:Sh.qI x0=some out)(H:au w0 (Lr))(S:∀ w,au w Lr→Bf w)(f2:cn Bf s1 x0.b_)(f5:cn Bf s3 da)(q6:bw (cn (X:=UInt8) Bf) da x0.ah):Calls Tryz.prog 167 #[.agg (br.enc (br.mk s1 s3)).toArray] w0 (gf fun v w'=>∃ (UM:SV) (UO:SV) (Lc:List SV) (UH:dw) (MH:SV),v = .agg (ay.enc (il out UM UO MH)).toArray∧bw (cn (X:=UInt8) UH.holds') Lc out.ah∧au w' (ai 0 UM 5 out.b_::ai 0 UO 23 Lc::UH::ai 0 MH 3 out.bf::Lr)):=by
 unfold Sh.qI at I
 refine ce Tryz.func167 Tryz.ntmps167 fun a G=>?_
 refine go 12 fun c0 c1 a w G H=>?_
 refine aA G (aW z54 ri wK G (parts:=[(2,.tmp 5),(3,.tmp 7)]) E E (aO E E (by rw[ay.len];decide) (ay.gI _ _) (aO E E (by rw[ay.len];decide) (ay.ep _ _) bD))) E E E fun a G=>?_
 obtain⟨EF,E4,I⟩:=adu I
 refine go 9 fun c2 a w G H=>?_
 refine bC E E (bN Jf (H.obj (i:=0) E) G E E E E (by have:=(bT E4);rw[ay.len];omega) (fT (ay.ci_regs _ _ _ (aL E4).2) (ak.s_kind _ _) (ay.pi_regs _ _ _ (by have:=(bT E4);omega)) (by have:=(bT E4);rw[ay.len];omega) (by decide)) fun w OB=>?_)
 have H:=H.chg OB (i:=0) rfl
 try dsimp only[List.set]at H
 refine go 7 fun a w G H=>?_
 refine aA G (aW z46 A2 AY G (parts:=[(0,.const (.int .i64 (1))),(3,.tmp 14)]) E E (aO E E (by rw[ak.len];decide) (ak.s_kind _ _) (aO E E (by rw[ak.len];decide) (ak.s_x _ _) bD))) E E E fun a G=>?_
 obtain⟨x38,Hw,I⟩:=adu I
 have T8:=aL Hw
 refine go 2 fun a w G H=>?_
 refine bC E E (aU (vs:=_) iw (H.obj (i:=0) E) G E E E E (ak.len _) (ak.one _) (by have:=(bT Hw);rw[ak.len,ay.len];omega) (ay.pi_regs _ _ _ (by have:=(bT Hw);omega)) fun w OC=>?_)
 have H:=H.chg OC (i:=0) rfl
 try dsimp only[List.set]at H
 refine go 4 fun a w G H=>?_
 refine aA G (aW z46 A2 AY G (parts:=[(0,.const (.int .i64 (2))),(3,.const (.int .i64 (256)))]) E E (aO E E (by rw[ak.len];decide) (ak.s_kind _ _) (aO E E (by rw[ak.len];decide) (ak.s_x _ _) bD))) E E E fun a G=>?_
 obtain⟨x40,Hy,I⟩:=adu I
 have T9:=aL Hy
 refine go 2 fun a w G H=>?_
 refine bC E E (aU (vs:=_) iw (H.obj (i:=0) E) G E E E E (ak.len _) (ak.one _) (by have:=(bT Hy);rw[ak.len,ay.len];omega) (ay.pi_regs _ _ _ (by have:=(bT Hy);omega)) fun w OD=>?_)
 have H:=H.chg OD (i:=0) rfl
 try dsimp only[List.set]at H
 refine go 5 fun a w G H=>?_
 obtain⟨Ji,Hz,I⟩:=adu I
 have Hg:=fJ Hz H (Bf:=Bf) (tb S) f2 f5 q6 cn.nil
 refine cl Cd Hg ?_
 rintro v w ⟨s45,QR,Ld,s51,rfl,q50,H⟩ a G
 refine go 4 fun a w G H=>?_
 obtain rfl:=oI I
 refine er Tryz.results167 G H ?_
 exact⟨s45,QR,Ld,(a_ Ld Ji.ah),s51,E,q50,bU H [0,1,2,3] 7 E⟩
theorem qA{x0:du}{x1:Int}{s1 s3:SV}{da:List SV}{s7:SV}{I7:List bS}{out:(bj×Int×Int)}{w0:World}{Bf:World→Prop}{Lr:List dw}(I:Sh.jF x0 x1=some out)(H:au w0 (Lr))(S:∀ w,au w Lr→Bf w)(f2:cn Bf s1 x0.iz.b_)(f5:cn Bf s3 da)(q6:bw (cn (X:=UInt8) Bf) da x0.iz.ah)(f9:cn Bf s7 I7)(QG:bw (ic Bf) I7 x0.cj):Calls Tryz.prog 51 #[.agg (bg.enc (kg x0 s1 s3 s7)).toArray,.int .i64 x1] w0 (gf fun v w'=>∃ (p2:SV) (p3:SV) (m8:List SV) (n4:dw) (p4:SV),v = .tuple #[.agg (ay.enc (il out.1 p2 p3 p4)).toArray,.int .i64 out.2.1,.int .i64 out.2.2]∧bw (cn (X:=UInt8) n4.holds') m8 out.1.ah∧au w' (ai 0 p2 5 out.1.b_::ai 0 p3 23 m8::n4::ai 0 p4 3 out.1.bf::Lr)):=by
 unfold Sh.jF at I
 refine ce Tryz.func51 Tryz.ntmps51 fun a G=>?_
 refine go 5 fun d0 d1 d2 a w G H=>?_
 refine aN G E E E (bI (z:=(.int .i64 0)) (zs:=[(.int .i64 0)]) MC E E fun d3 w Es t1=>?_)
 have H:=H.plus t1
 try dsimp only[List.set]at H
 intro a G
 refine aN G E E E (bI (z:=(.int .i64 0)) (zs:=[(.int .i64 0)]) Tryz.zeroValue34 E E fun d4 w Et t2=>?_)
 have H:=H.plus t2
 try dsimp only[List.set]at H
 intro a G
 refine go 9 fun a w G H=>?_
 obtain⟨c46,u8,I⟩:=adu I
 refine cl qp (cW u8 H ) ?_
 rintro v w ⟨rfl,H⟩ a G
 refine go 3 fun a w G H=>?_
 refine cc I (fun t9 I=>?_) fun t9 I=>?_
 ·refine go 2 fun a w G H=>?_
  refine aA G (aW z54 ri wK G (parts:=[]) E E bD) E E E fun a G=>?_
  refine go 6 fun a w G H=>?_
  have H:=H.rowNil (X:=UInt8) 0 5
  obtain⟨n5,H⟩:=lx H
  have z9:bw (cn (X:=UInt8) n5.holds') ([]:List SV) ([]:List (List UInt8)):=bw.nil
  have H:=H.rowNil (X:=SV) 0 23
  have H:=H.rowNil (X:=Int) 0 3
  obtain rfl:=oI I
  refine er Ff G H ?_
  exact⟨SV.nil,SV.nil,[],n5,SV.nil,E,z9,bU H [3,1,2,0] 9 E⟩
 refine go 7 fun a w G H=>?_
 obtain⟨EP,u9,I⟩:=adu I
 refine cl Tryz.call98 (lO u9 H (Bf:=Bf) (tb S) f2 f5 q6) ?_
 rintro v w ⟨rfl,H⟩ a G
 refine go 3 fun a w G H=>?_
 refine cc I (fun u0 I=>?_) fun u0 I=>?_
 ·refine go 2 fun a w G H=>?_
  refine aA G (aW z54 ri wK G (parts:=[]) E E bD) E E E fun a G=>?_
  refine go 6 fun a w G H=>?_
  have H:=H.rowNil (X:=UInt8) 0 5
  obtain⟨n6,H⟩:=lx H
  have c10:bw (cn (X:=UInt8) n6.holds') ([]:List SV) ([]:List (List UInt8)):=bw.nil
  have H:=H.rowNil (X:=SV) 0 23
  have H:=H.rowNil (X:=Int) 0 3
  obtain rfl:=oI I
  refine er Ff G H ?_
  exact⟨SV.nil,SV.nil,[],n6,SV.nil,E,c10,bU H [3,1,2,0] 9 E⟩
 refine go 4 fun a w G H=>?_
 refine aN G E E E (bI (z:=(.int .i64 0)) (zs:=[(.int .i64 0)]) MC E E fun d5 w Eu t3=>?_)
 have H:=H.plus t3
 try dsimp only[List.set]at H
 intro a G
 refine go 7 fun a w G H=>?_
 obtain⟨BU,I,c31⟩:=cJ I
 refine aN G E E E (aS (xs:=[.tmp 22]) Tryz.call94 G E E (R:=fun v w=>∃ x,BU = .inl x∧match x with|c4=>∃ (c5:Nat) (c8:SV) (c9:SV) (l6:List SV) (c6:SV) (l7:List bS),v = .func (.func 166) [].toArray [.pointer (some ⟨c5,0,none⟩)].toArray∧cn Bf c8 c4.iz.b_∧cn Bf c9 l6∧bw (cn (X:=UInt8) Bf) l6 c4.iz.ah∧cn Bf c6 l7∧bw (ic Bf) l7 c4.cj∧au w (pt c5 (bg.enc (kg c4 c8 c9 c6)) 36::pt d5 [.int .i64 (-1)] 3::pt d4 [.int .i64 0] 34::pt d3 [.int .i64 0] 3::pt d2 (ay.enc Aq) 54::pt d1 [.int .i64 x1] 3::pt d0 (bg.enc (kg x0 s1 s3 s7)) 36::Lr)) ?_ fun v w hR=>?_)
 ·refine aV Tryz.func94 E Tryz.ntmps94 E fun a G=>?_
  refine go 13 fun t0 a w G H=>?_
  obtain rfl:=oI I
  refine aT Tryz.results94 G E ?_
  exact⟨x0,E,t0,s1,s3,da,s7,I7,E,f2,f5,q6,f9,QG,H⟩
 obtain⟨c4,rfl,hR⟩:=hR
 obtain⟨c5,c8,c9,l6,c6,l7,rfl,z3,z4,c11,EO,n3,H⟩:=hR
 replace I:Sh.tS x1 c4=_:=c31
 unfold Sh.tS at I
 intro a G
 refine go 3 fun a w G H=>?_
 obtain⟨c37,I,p7⟩:=cJ I
 refine SN Tryz.call166 G H (fs:=[]) (cs:=[.pointer (some ⟨c5,0,none⟩)]) (R:=fun c2 v w=>∃ x,c37 = .inl x∧match x with|(.inl (g1,m3,m4,m5))=>∃ (j7:SV) (j8:SV) (j0:List SV) (j4:dw) (j9:SV),v = .tuple #[]∧bw (cn (X:=UInt8) j4.holds') j0 g1.ah∧au w (pt d2 (ay.enc (il g1 j7 j8 j9)) 54::ai 0 j7 5 g1.b_::ai 0 j8 23 j0::j4::ai 0 j9 3 g1.bf::pt d3 [.int .i64 m3] 3::pt d4 [.int .i64 m4] 34::pt d5 [.int .i64 m5] 3::kx c2 .done (some .ret)::.obj c2.d qd::pt c5 (bg.enc (kg c4 c8 c9 c6)) 36::pt d1 [.int .i64 x1] 3::pt d0 (bg.enc (kg x0 s1 s3 s7)) 36::Lr)|(.inr m6)=>v = .tuple #[]∧au w (pt d5 [.int .i64 m6] 3::kx c2 .ready none::.obj c2.d qd::pt c5 (bg.enc (kg c4 c8 c9 c6)) 36::pt d4 [.int .i64 0] 34::pt d3 [.int .i64 0] 3::pt d2 (ay.enc Aq) 54::pt d1 [.int .i64 x1] 3::pt d0 (bg.enc (kg x0 s1 s3 s7)) 36::Lr)) E (fun c2 w i3 i1 i2 i4 H=>?_) (fun c2 v w hR=>?_)
 ·try dsimp only[List.set]at H
  refine ce Tryz.func166 Tryz.ntmps166 fun a G=>?_
  refine go 4 fun a w G H=>?_
  obtain⟨FN,z0,I⟩:=adu I
  refine cl Tryz.call167 (oM z0 H (Bf:=Bf) (tb S) z3 z4 c11) ?_
  rintro v w ⟨c24,Bg,u7,AK,BO,rfl,zi,H⟩ a G
  refine go 6 fun c7 a w G H=>?_
  refine aM G H I (fun F x a w=>match x with|(c1,g9)=>∃ (g3:SV) (g4:SV) (i0:List SV) (i5:dw) (g5:SV),bw (cn (X:=UInt8) i5.holds') i0 c1.ah∧Fr 37 [(0,.func (.yield c2.l) #[] #[]),(3,.pointer (some ⟨c7,0,none⟩))] a∧au w (pt c7 (ay.enc (il c1 g3 g4 g5)) 54::ai 0 g3 5 c1.b_::ai 0 g4 23 i0::i5::ai 0 g5 3 c1.bf::pt d5 [.int .i64 g9] 3::pt c5 (bg.enc (kg c4 c8 c9 c6)) 36::pt d4 [.int .i64 0] 34::pt d3 [.int .i64 0] 3::pt d2 (ay.enc Aq) 54::pt d1 [.int .i64 x1] 3::pt d0 (bg.enc (kg x0 s1 s3 s7)) 36::kx c2 .ready none::.obj c2.d qd::Lr)) (fun c49 I p9 G H=>?_) ?_
  ·refine go 9 fun a w G H=>?_
   refine aY G H I (fun F x a w=>match x with|(c0,g7,k6)=>∃ (d6:SV) (d7:SV) (g6:List SV) (g8:dw) (d8:SV),bw (cn (X:=UInt8) g8.holds') g6 c0.ah∧Fr 37 [(13,.int .i64 k6),(0,.func (.yield c2.l) #[] #[]),(11,(c6).v),(12,.int .i64 (c4.cj.length:Int)),(3,.pointer (some ⟨c7,0,none⟩))] a∧au w (pt c7 (ay.enc (il c0 d6 d7 d8)) 54::ai 0 d6 5 c0.b_::ai 0 d7 23 g6::g8::ai 0 d8 3 c0.bf::pt d5 [.int .i64 g7] 3::pt c5 (bg.enc (kg c4 c8 c9 c6)) 36::pt d4 [.int .i64 0] 34::pt d3 [.int .i64 0] 3::pt d2 (ay.enc Aq) 54::pt d1 [.int .i64 x1] 3::pt d0 (bg.enc (kg x0 s1 s3 s7)) 36::kx c2 .ready none::.obj c2.d qd::Lr)) (fun G H=>⟨c24,Bg,u7,AK,BO,zi,G.to ⟨E,E,E,E,E,trivial⟩,f_ H [0,1,2,3,4,8,7,9,10,11,12,13,5,6] 14⟩) ?_
   rintro⟨c0,g7,k6⟩ a w FO I n1 ⟨d6,d7,g6,g8,d8,l8,G,H⟩
   replace I:Sh.kE x1 c4 c0 g7 k6=_:=I
   unfold Sh.kE at I
   refine go 6 fun a w G H=>?_
   refine cc I (fun u1 I=>?_) fun u1 I=>?_
   ·refine go 6 fun a w G H=>?_
    obtain⟨g2,n0,I⟩:=adu I
    have p5:=aL n0
    obtain⟨Ew,CG,p6⟩:=bw.getr n3 p5.2
    have c34:=bw.bd n3 (bA n0)
    obtain⟨l9,m0,m1,c40,m2,rfl,z5,z6,z7,Ak,z8⟩:=p6
    refine go 11 fun j3 a w G H=>?_
    obtain⟨BV,I,p8⟩:=cJ I
    refine aN G E E E (Yd.mono (uG (rc:=c2) (vs:=[.agg (ay.enc (il c0 d6 d7 d8)).toArray,.int .i64 0]) (ps:=[24,25]) (J:=fun v w=>∃ x,BV = .inl x∧match x with|(.inl (d9,k7,k8))=>∃ (k0:SV) (k1:SV) (j1:List SV) (j5:dw) (k2:SV),v = .bool false∧bw (cn (X:=UInt8) j5.holds') j1 d9.ah∧au w (pt d2 (ay.enc (il d9 k0 k1 k2)) 54::ai 0 k0 5 d9.b_::ai 0 k1 23 j1::j5::ai 0 k2 3 d9.bf::pt d3 [.int .i64 k7] 3::pt d5 [.int .i64 k8] 3::kx c2 .done (some .ret)::pt j3 (bS.enc (qk g2 l9 m0 m1 m2)) 60::pt c7 (ay.enc (il c0 d6 d7 d8)) 54::pt c5 (bg.enc (kg c4 c8 c9 c6)) 36::pt d4 [.int .i64 0] 34::pt d1 [.int .i64 x1] 3::pt d0 (bg.enc (kg x0 s1 s3 s7)) 36::.obj c2.d qd::Lr)|(.inr i9)=>v = .bool true∧au w (pt d5 [.int .i64 i9] 3::pt j3 (bS.enc (qk g2 l9 m0 m1 m2)) 60::pt c7 (ay.enc (il c0 d6 d7 d8)) 54::ai 0 d6 5 c0.b_::ai 0 d7 23 g6::g8::ai 0 d8 3 c0.bf::pt c5 (bg.enc (kg c4 c8 c9 c6)) 36::pt d4 [.int .i64 0] 34::pt d3 [.int .i64 0] 3::pt d2 (ay.enc Aq) 54::pt d1 [.int .i64 x1] 3::pt d0 (bg.enc (kg x0 s1 s3 s7)) 36::kx c2 .ready none::.obj c2.d qd::Lr)) G E E E H (i:=13) E i3 i1 i2 E E ?_) fun v w hR=>?_)
    ·have G:=va.fr (va.put (d:=25) (v:=.int .i64 0) (va.put (d:=24) (v:=.agg (ay.enc (il c0 d6 d7 d8)).toArray) i4 rfl) rfl) []
     refine go 2 fun a w G H=>?_
     refine aN G E E E (bI z54 (zs:=ay.zero.enc) E E fun m7 w z2 l5=>?_)
     have H:=H.plus l5
     try dsimp only[List.set]at H
     intro a G
     refine go 7 fun a w G H=>?_
     refine pP H (i:=14) E fun w H=>?_
     try dsimp only[List.set]at H
     refine go 15 fun a w G H=>?_
     refine cc I (fun u2 I=>?_) fun u2 I=>?_
     ·refine aH ?_
      refine dT H [0,1,2,3,4,5,6,7,8,9,10,11,12,13,14,15] 16 fun K=>?_
      refine aK G K 0 E ads E E E (fun w H=>(aW z54 ri wK G (parts:=[]) E E bD)) fun a G=>?_
      refine fc [1,2,3] fun a G=>?_
      refine ko 4 fun w eX H=>?_
      refine(aU (vs:=_) DU (H.obj (i:=11) E) G E E E E (ay.len _) (ay.one _) (by first|(rw[ay.len,ay.len];decide)|(rw[ay.len];decide)) (bF ((ay.len _).trans (ay.len _).symm)) fun w t4=>?_)
      have H:=H.chg t4 (i:=11) rfl
      try dsimp only[List.set]at H
      refine ds [0,1,2,3,4,5,6,7,8,9,10,11,12,13,14,15] 16 ?_
      refine fc [5] fun a G=>?_
      refine ko 6 fun w eX H=>?_
      refine(bN Fg (H.obj (i:=9) E) G E E E E aa8 E fun w t5=>?_)
      have H:=H.chg t5 (i:=9) rfl
      try dsimp only[List.set]at H
      refine ds [0,1,2,3,4,5,6,7,8,9,10,11,12,13,14,15] 16 ?_
      refine de fun w H=>?_
      refine go 2 fun a w G H=>?_
      refine sO (a:=a) H (i:=14) E fun w H=>?_
      try dsimp only[List.set]at H
      have H:=H.rowNil (X:=UInt8) 0 5
      obtain⟨n7,H⟩:=lx H
      have AE:bw (cn (X:=UInt8) n7.holds') ([]:List SV) ([]:List (List UInt8)):=bw.nil
      have H:=H.rowNil (X:=SV) 0 23
      have H:=H.rowNil (X:=Int) 0 3
      obtain rfl:=oI I
      exact⟨(inl ((bj.mk (⟨List.replicate 11 ak.zero,E⟩ : Vec ak 11) (⟨List.replicate 32 bn.zero,E⟩ : Vec bn 32) [] [] [] 0 0 false),(IntKind.i64.wrap ((IntKind.i64.wrap (g7+1))-1)),(IntKind.i64.wrap (g7+1)))),E,SV.nil,SV.nil,[],n7,SV.nil,E,AE,bU H [15,3,1,2,0,14,11,18,5,6,12,13,16,17,19] 20 E⟩
     refine go 9 fun a w G H=>?_
     refine cc I (fun u3 I=>?_) fun u3 I=>?_
     ·refine go 9 fun a w G H=>?_
      refine sO (a:=a) H (i:=14) E fun w H=>?_
      try dsimp only[List.set]at H
      obtain rfl:=oI I
      exact⟨(inl (c0,0,(IntKind.i64.wrap (g7+1)))),E,d6,d7,g6,g8,d8,E,l8,bU H [11,3,4,5,6,10,7,14,1,2,8,9,12,13,15] 16 E⟩
     refine bM (cG ?_)
     refine tU H (i:=14) E fun w H=>?_
     try dsimp only[List.set]at H
     obtain rfl:=oI I
     exact⟨(inr (IntKind.i64.wrap (g7+1))),E,E,bU H [7,1,2,3,4,5,6,8,9,10,11,12,13,14,15] 16 E⟩
    obtain⟨BP,rfl,hR⟩:=hR
    rcases BP with⟨d9,k7,k8⟩|i9
    ·obtain⟨k0,k1,j1,j5,k2,rfl,c16,H⟩:=hR
     replace I:Sh.yT d9 k7 k8=_:=p8
     unfold Sh.yT at I
     intro a G
     refine go 3 fun a w G H=>?_
     refine zZ G (c:=.tmp 20) E (Gz E) ?_
     refine p_ ?_
     obtain rfl:=oI I
     have I:=n1 _ rfl
     subst I
     have I:=bB p9
     subst I
     refine vH uw G ?_
     exact⟨(inl (d9,k7,0,k8)),E,k0,k1,j1,j5,k2,E,c16,bU H [0,1,2,3,4,5,11,6,7,14,10,12,13] 15 E⟩
    obtain⟨rfl,H⟩:=hR
    replace I:Sh.tT c0 k6 g2 i9=_:=p8
    unfold Sh.tT at I
    intro a G
    refine go 3 fun a w G H=>?_
    refine zY G (c:=.tmp 20) E (CM E) ?_
    refine go 6 fun a w G H=>?_
    obtain⟨c3,z1,I⟩:=adu I
    refine cl Tryz.call52 (iX z1 H (fun _ h=>h) (fun w H=>(H.rowS (X:=UInt8) (i:=3) E)) (fun w H=>(H.rowS (X:=SV) (i:=4) E)) (l8.mono fun _ _ q=>q.mono fun w H=>H.hold 5 _ E) (fun w H=>(H.rowS (X:=Int) (i:=6) E)) (fun w H=>(z5 _ (S _ (dZ H 15)))) (fun w H=>(z6 _ (S _ (dZ H 15)))) (fun w H=>(z7 _ (S _ (dZ H 15)))) (Ak.mono fun _ _ q=>q.mono fun w H=>S _ (dZ H 15)) (fun w H=>(z8 _ (S _ (dZ H 15))))) ?_
    rintro v w ⟨i6,i7,m9,n8,i8,rfl,AG,H⟩ a G
    refine go 13 fun a w G H=>?_
    refine cc I (fun u4 I=>?_) fun u4 I=>?_
    ·refine go 5 fun a w G H=>?_
     obtain⟨BW,I,c32⟩:=cJ I
     refine aN G E E E (Yd.mono (uG (rc:=c2) (vs:=[.agg (ay.enc (il c3.1 i6 i7 i8)).toArray,.int .i64 c3.2]) (ps:=[24,25]) (J:=fun v w=>∃ x,BW = .inl x∧match x with|(k9,l0,l1)=>v = .bool false∧au w (pt d3 [.int .i64 k9] 3::pt d4 [.int .i64 l0] 34::pt d5 [.int .i64 l1] 3::kx c2 .done (some .ret)::ai 0 i6 5 c3.1.b_::ai 0 i7 23 m9::n8::ai 0 i8 3 c3.1.bf::pt j3 (bS.enc (qk g2 l9 m0 m1 m2)) 60::pt c7 (ay.enc (il c3.1 i6 i7 i8)) 54::ai 0 d6 5 c0.b_::ai 0 d7 23 g6::g8::ai 0 d8 3 c0.bf::pt c5 (bg.enc (kg c4 c8 c9 c6)) 36::pt d2 (ay.enc Aq) 54::pt d1 [.int .i64 x1] 3::pt d0 (bg.enc (kg x0 s1 s3 s7)) 36::.obj c2.d qd::Lr)) G E E E H (i:=17) E i3 i1 i2 E E ?_) fun v w hR=>?_)
     ·have G:=va.fr (va.put (d:=25) (v:=.int .i64 c3.2) (va.put (d:=24) (v:=.agg (ay.enc (il c3.1 i6 i7 i8)).toArray) i4 rfl) rfl) []
      refine go 2 fun a w G H=>?_
      refine aN G E E E (bI z54 (zs:=ay.zero.enc) E E fun m7 w z2 l5=>?_)
      have H:=H.plus l5
      try dsimp only[List.set]at H
      intro a G
      refine go 7 fun a w G H=>?_
      refine pP H (i:=18) E fun w H=>?_
      try dsimp only[List.set]at H
      refine go 17 fun a w G H=>?_
      refine dT H [0,1,2,3,4,5,6,7,8,9,10,11,12,13,14,15,16,17,18,19] 20 fun K=>?_
      refine aK G K 0 E ads E E E (fun w H=>(aW z54 ri wK G (parts:=[]) E E bD)) fun a G=>?_
      refine fc [1,2,3] fun a G=>?_
      refine ko 4 fun w eX H=>?_
      refine(aU (vs:=_) DU (H.obj (i:=15) E) G E E E E (ay.len _) (ay.one _) (by first|(rw[ay.len,ay.len];decide)|(rw[ay.len];decide)) (bF ((ay.len _).trans (ay.len _).symm)) fun w t6=>?_)
      have H:=H.chg t6 (i:=15) rfl
      try dsimp only[List.set]at H
      refine ds [0,1,2,3,4,5,6,7,8,9,10,11,12,13,14,15,16,17,18,19] 20 ?_
      refine fc [5,6] fun a G=>?_
      refine de fun w H=>?_
      refine go 2 fun a w G H=>?_
      refine sO (a:=a) H (i:=18) E fun w H=>?_
      try dsimp only[List.set]at H
      obtain rfl:=oI I
      exact⟨((IntKind.i64.wrap ((IntKind.i64.wrap (i9+1))-1)),c3.2,(IntKind.i64.wrap (i9+1))),E,E,bU H [14,13,5,18,1,2,3,4,6,7,8,9,10,11,12,15,16,17,19] 20 E⟩
     obtain⟨c28,rfl,hR⟩:=hR
     rcases c28 with⟨k9,l0,l1⟩
     obtain⟨rfl,H⟩:=hR
     replace I:Sh.wZ k9 l0 l1=_:=c32
     unfold Sh.wZ at I
     intro a G
     refine go 3 fun a w G H=>?_
     have H:=H.rowNil (X:=UInt8) 0 5
     obtain⟨n9,H⟩:=lx H
     have AH:bw (cn (X:=UInt8) n9.holds') ([]:List SV) ([]:List (List UInt8)):=bw.nil
     have H:=H.rowNil (X:=SV) 0 23
     have H:=H.rowNil (X:=Int) 0 3
     obtain rfl:=oI I
     have I:=n1 _ rfl
     subst I
     have I:=bB p9
     subst I
     refine vH uw G ?_
     exact⟨(inl ((bj.mk (⟨List.replicate 11 ak.zero,E⟩ : Vec ak 11) (⟨List.replicate 32 bn.zero,E⟩ : Vec bn 32) [] [] [] 0 0 false),k9,l0,l1)),E,SV.nil,SV.nil,[],n9,SV.nil,E,AH,bU H [19,3,1,2,0,4,5,6,7,22,18,20,21] 23 E⟩
    refine go 8 fun a w G H=>?_
    exact jr I ⟨i6,i7,m9,n8,i8,AG,G.t,bU H [6,0,1,2,3,4,11,12,13,14,15,16,17,18] 19 E⟩
   refine go 5 fun a w G H=>?_
   obtain rfl:=oI I
   have I:=n1 _ rfl
   subst I
   exact⟨(c0,g7),E,d6,d7,g6,g8,d8,l8,G.to ⟨E,E,trivial⟩,H⟩
  rintro⟨c1,g9⟩ a w I ⟨g3,g4,i0,i5,g5,Aj,G,H⟩
  replace I:Sh.tU x1 c1 g9=_:=I
  unfold Sh.tU at I
  refine go 4 fun a w G H=>?_
  obtain⟨BS,I,n2⟩:=cJ I
  refine aN G E E E (Yd.mono (uG (rc:=c2) (vs:=[.agg (ay.enc (il c1 g3 g4 g5)).toArray,.int .i64 0]) (ps:=[24,25]) (J:=fun v w=>∃ x,BS = .inl x∧match x with|(.inl (g0,l2,l3))=>∃ (k3:SV) (k4:SV) (j2:List SV) (j6:dw) (k5:SV),v = .bool false∧bw (cn (X:=UInt8) j6.holds') j2 g0.ah∧au w (pt d2 (ay.enc (il g0 k3 k4 k5)) 54::ai 0 k3 5 g0.b_::ai 0 k4 23 j2::j6::ai 0 k5 3 g0.bf::pt d3 [.int .i64 l2] 3::pt d5 [.int .i64 l3] 3::kx c2 .done (some .ret)::pt c7 (ay.enc (il c1 g3 g4 g5)) 54::pt c5 (bg.enc (kg c4 c8 c9 c6)) 36::pt d4 [.int .i64 0] 34::pt d1 [.int .i64 x1] 3::pt d0 (bg.enc (kg x0 s1 s3 s7)) 36::.obj c2.d qd::Lr)|(.inr l4)=>v = .bool true∧au w (pt d5 [.int .i64 l4] 3::pt c7 (ay.enc (il c1 g3 g4 g5)) 54::ai 0 g3 5 c1.b_::ai 0 g4 23 i0::i5::ai 0 g5 3 c1.bf::pt c5 (bg.enc (kg c4 c8 c9 c6)) 36::pt d4 [.int .i64 0] 34::pt d3 [.int .i64 0] 3::pt d2 (ay.enc Aq) 54::pt d1 [.int .i64 x1] 3::pt d0 (bg.enc (kg x0 s1 s3 s7)) 36::kx c2 .ready none::.obj c2.d qd::Lr)) G E E E H (i:=12) E i3 i1 i2 E E ?_) fun v w hR=>?_)
  ·have G:=va.fr (va.put (d:=25) (v:=.int .i64 0) (va.put (d:=24) (v:=.agg (ay.enc (il c1 g3 g4 g5)).toArray) i4 rfl) rfl) []
   refine go 10 fun m7 a w G H=>?_
   refine pP H (i:=13) E fun w H=>?_
   try dsimp only[List.set]at H
   refine go 15 fun a w G H=>?_
   refine cc I (fun u5 I=>?_) fun u5 I=>?_
   ·refine aH ?_
    refine dT H [0,1,2,3,4,5,6,7,8,9,10,11,12,13,14] 15 fun K=>?_
    refine aK G K 0 E ads E E E (fun w H=>(aW z54 ri wK G (parts:=[]) E E bD)) fun a G=>?_
    refine fc [1,2,3] fun a G=>?_
    refine ko 4 fun w eX H=>?_
    refine(aU (vs:=_) DU (H.obj (i:=10) E) G E E E E (ay.len _) (ay.one _) (by first|(rw[ay.len,ay.len];decide)|(rw[ay.len];decide)) (bF ((ay.len _).trans (ay.len _).symm)) fun w t7=>?_)
    have H:=H.chg t7 (i:=10) rfl
    try dsimp only[List.set]at H
    refine ds [0,1,2,3,4,5,6,7,8,9,10,11,12,13,14] 15 ?_
    refine fc [5] fun a G=>?_
    refine ko 6 fun w eX H=>?_
    refine(bN Fg (H.obj (i:=8) E) G E E E E aa8 E fun w t8=>?_)
    have H:=H.chg t8 (i:=8) rfl
    try dsimp only[List.set]at H
    refine ds [0,1,2,3,4,5,6,7,8,9,10,11,12,13,14] 15 ?_
    refine de fun w H=>?_
    refine go 2 fun a w G H=>?_
    refine sO (a:=a) H (i:=13) E fun w H=>?_
    try dsimp only[List.set]at H
    have H:=H.rowNil (X:=UInt8) 0 5
    obtain⟨p0,H⟩:=lx H
    have c21:bw (cn (X:=UInt8) p0.holds') ([]:List SV) ([]:List (List UInt8)):=bw.nil
    have H:=H.rowNil (X:=SV) 0 23
    have H:=H.rowNil (X:=Int) 0 3
    obtain rfl:=oI I
    exact⟨(inl ((bj.mk (⟨List.replicate 11 ak.zero,E⟩ : Vec ak 11) (⟨List.replicate 32 bn.zero,E⟩ : Vec bn 32) [] [] [] 0 0 false),(IntKind.i64.wrap ((IntKind.i64.wrap (g9+1))-1)),(IntKind.i64.wrap (g9+1)))),E,SV.nil,SV.nil,[],p0,SV.nil,E,c21,bU H [14,3,1,2,0,13,10,17,5,11,12,15,16,18] 19 E⟩
   refine go 9 fun a w G H=>?_
   refine cc I (fun u6 I=>?_) fun u6 I=>?_
   ·refine go 9 fun a w G H=>?_
    refine sO (a:=a) H (i:=13) E fun w H=>?_
    try dsimp only[List.set]at H
    obtain rfl:=oI I
    exact⟨(inl (c1,0,(IntKind.i64.wrap (g9+1)))),E,g3,g4,i0,i5,g5,E,Aj,bU H [10,2,3,4,5,9,6,13,1,7,8,11,12,14] 15 E⟩
   refine bM (cG ?_)
   refine tU H (i:=13) E fun w H=>?_
   try dsimp only[List.set]at H
   obtain rfl:=oI I
   exact⟨(inr (IntKind.i64.wrap (g9+1))),E,E,bU H [6,1,2,3,4,5,7,8,9,10,11,12,13,14] 15 E⟩
  obtain⟨BQ,rfl,hR⟩:=hR
  rcases BQ with⟨g0,l2,l3⟩|l4
  ·obtain⟨k3,k4,j2,j6,k5,rfl,c20,H⟩:=hR
   replace I:Sh.xA g0 l2 l3=_:=n2
   unfold Sh.xA at I
   intro a G
   refine aJ ?_
   obtain rfl:=oI I
   refine eT uw G ?_
   exact⟨(inl (g0,l2,0,l3)),E,k3,k4,j2,j6,k5,E,c20,bU H [0,1,2,3,4,5,10,6,7,13,9,11,12] 14 E⟩
  obtain⟨rfl,H⟩:=hR
  replace I:Sh.Ic l4=_:=n2
  unfold Sh.Ic at I
  intro a G
  refine aJ ?_
  obtain rfl:=oI I
  refine eT uw G ?_
  exact⟨(inr l4),E,E,bU H [0,12,13,6,7,8,9,10,11] 14 E⟩
 obtain⟨BR,rfl,hR⟩:=hR
 rcases BR with⟨g1,m3,m4,m5⟩|m6
 ·obtain⟨j7,j8,j0,j4,j9,rfl,c12,H⟩:=hR
  replace I:Sh.aDa g1 m3 m4 m5=_:=p7
  unfold Sh.aDa at I
  refine Ih (f_ H [8,0,1,2,3,4,5,6,7,9,10,11,12] 13) fun a w G H=>?_
  try dsimp only[List.set]at H
  obtain rfl:=oI I
  refine wF G ?_
  refine mN H (i:=8) E fun w H=>?_
  refine nT (Jq (rs:=[.cell 4 54,.cell 5 3,.cell 6 34]) Ff (cY G E Tryz.isAgg54 DU (ay.len _) (H.cells (i:=0) E (cD (ay.len _))) (gW G E vh (H.cell (i:=5) E E) (gW G E DL (H.cell (i:=6) E E) dF))) E ?_)
  exact⟨j7,j8,j0,j4,j9,E,c12,bU H [1,2,3,4] 12 E⟩
 obtain⟨rfl,H⟩:=hR
 replace I:Sh.Ig m6=_:=p7
 unfold Sh.Ig at I
 refine RP (f_ H [1,0,2,3,4,5,6,7,8] 9) fun a w G H=>?_
 try dsimp only[List.set]at H
 refine go 4 fun a w G H=>?_
 refine aA G (aW z54 ri wK G (parts:=[]) E E bD) E E E fun a G=>?_
 refine go 6 fun a w G H=>?_
 have H:=H.rowNil (X:=UInt8) 0 5
 obtain⟨p1,H⟩:=lx H
 have AI:bw (cn (X:=UInt8) p1.holds') ([]:List SV) ([]:List (List UInt8)):=bw.nil
 have H:=H.rowNil (X:=SV) 0 23
 have H:=H.rowNil (X:=Int) 0 3
 obtain rfl:=oI I
 refine wF G ?_
 refine mN H (i:=5) E fun w H=>?_
 refine nT (Jq (rs:=[.cell 4 54,.cell 5 3,.cell 6 34]) Ff (cY G E Tryz.isAgg54 DU (ay.len _) (H.cells (i:=9) E (cD (ay.len _))) (gW G E vh (H.cell (i:=8) E E) (gW G E DL (H.cell (i:=7) E E) dF))) E ?_)
 exact⟨SV.nil,SV.nil,[],p1,SV.nil,E,AI,bU H [3,1,2,0] 12 E⟩
theorem yQ{x0:dD}{s1 s3 s5:SV}{FW:List bq}{s9:SV}{out:dD}{w0:World}{Bf:World→Prop}{Lr:List dw}(I:Sh.aBv x0=some out)(H:au w0 (Lr))(S:∀ w,au w Lr→Bf w)(f2:cn Bf s1 x0.bk)(f4:cn Bf s3 x0.slots)(f7:cn Bf s5 FW)(q8:bw (eO Bf) FW x0.dE)(f10:cn Bf s9 x0.bf):Calls Tryz.prog 131 #[.agg (bS.enc (qk x0 s1 s3 s5 s9)).toArray] w0 (gf fun v w'=>∃ (k3:SV) (k4:SV) (k5:SV) (g7:List bq) (k2:dw) (k6:SV),v = .agg (bS.enc (qk out k3 k4 k5 k6)).toArray∧bw (eO k2.holds') g7 out.dE∧au w' (ai 0 k3 128 out.bk::ai 0 k4 151 out.slots::ai 0 k5 156 g7::k2::ai 0 k6 3 out.bf::Lr)):=by
 unfold Sh.aBv at I
 refine ce Tryz.func131 Tryz.ntmps131 fun a G=>?_
 refine go 10 fun c0 c1 a w G H=>?_
 obtain⟨g4,l1,I⟩:=adu I
 refine cl Tryz.call195 (jN l1 H (Bf:=Bf) (tb S) f2) ?_
 rintro v w ⟨d3,rfl,H⟩ a G
 refine go 8 fun a w G H=>?_
 obtain⟨g5,l2,I⟩:=adu I
 refine cl Tryz.call196 (jM l2 H (Bf:=Bf) (tb S) f4) ?_
 rintro v w ⟨d4,rfl,H⟩ a G
 refine go 8 fun a w G H=>?_
 obtain⟨g6,l3,I⟩:=adu I
 refine cl zK (dV l3 H (Bf:=Bf) (tb S) f10) ?_
 rintro v w ⟨d5,rfl,H⟩ a G
 refine go 8 fun a w G H=>?_
 obtain⟨d6,l4,I⟩:=adu I
 refine cl Tryz.call197 (iY l4 H (Bf:=Bf) (tb S) f7 q8) ?_
 rintro v w ⟨c6,l0,rfl,m0,H⟩ a G
 refine go 5 fun a w G H=>?_
 obtain⟨g9,H⟩:=lx H
 have l5:=n_.of (R:=g9.holds') m0
 try dsimp only[List.set]at H
 refine aM G H I (fun F x a w=>match x with|d9=>∃ (c4:List bq) (c8:dw),n_ Bf c8.holds' d9 false c4 d6∧Fr 47 [(1,.pointer (some ⟨c0,0,none⟩)),(2,.pointer (some ⟨c1,0,none⟩))] a∧au w (ai 0 c6 156 c4::c8::pt c1 (bS.enc Gj) 60::pt c0 (bS.enc (qk x0 d3 d4 c6 d5)) 60::ai 0 d5 3 g6::ai 0 d4 151 g5::ai 0 d3 128 g4::Lr)) (fun n7 I n0 G H=>?_) ?_
 ·refine go 9 fun a w G H=>?_
  refine aY G H I (fun F x a w=>match x with|(c7,c5)=>∃ (c2:List bq) (c9:dw),n_ Bf c9.holds' c7 false c2 d6∧Fr 47 [(24,.int .i64 c5),(1,.pointer (some ⟨c0,0,none⟩)),(2,.pointer (some ⟨c1,0,none⟩)),(22,(c6).v),(23,.int .i64 (d6.length:Int))] a∧au w (ai 0 c6 156 c2::c9::pt c1 (bS.enc Gj) 60::pt c0 (bS.enc (qk x0 d3 d4 c6 d5)) 60::ai 0 d5 3 g6::ai 0 d4 151 g5::ai 0 d3 128 g4::Lr)) (fun G H=>⟨l0,g9,l5,G.to ⟨E,E,E,E,E,trivial⟩,f_ H [1,0,5,6,2,3,4] 7⟩) ?_
  rintro⟨c7,c5⟩ a w n8 I k9 ⟨c2,c9,c3,G,H⟩
  replace I:Sh.pC d6 c7 c5=_:=I
  unfold Sh.pC at I
  refine go 6 fun a w G H=>?_
  refine cc I (fun i7 I=>?_) fun i7 I=>?_
  ·refine go 7 fun a w G H=>?_
   obtain⟨n3,j9,I⟩:=adu I
   obtain⟨m1,m6,m4,i3⟩:=n_.getr c3 j9
   obtain⟨i8,I⟩:=bE I
   obtain⟨n1,n2,rfl,k7,k8⟩:=(i3 (abe i8) rfl)
   refine go 7 fun l9 a w G H=>?_
   have g2:=H.rowS (X:=bq) (i:=1) rfl
   refine dT H [0,3,4,5,6,7] 8 fun K=>?_
   refine fc [0,1,2,3,4,5,6,7,9,10] fun a G=>?_
   refine dx 8 fun w eX H=>?_
   obtain⟨n5,k0,I⟩:=adu I
   refine dl Cb (eB k0 H (Bf:=Bf) (tb S) k7) ?_
   rintro v w ⟨g0,rfl,H⟩
   refine ds [1,4,5,6,7,8] 9 fun a G=>?_
   refine dx 11 fun w eX H=>?_
   obtain⟨n6,k1,I⟩:=adu I
   refine dl Cb (eB k1 H (Bf:=Bf) (tb S) k8) ?_
   rintro v w ⟨g1,rfl,H⟩
   refine ds [0,2,5,6,7,8,9] 10 fun a G=>?_
   obtain⟨d0,d1,I⟩:=adu I
   obtain⟨m2,m7,d7,i4⟩:=n_.getr c3 d1
   obtain⟨i9,I⟩:=bE I
   obtain⟨i1,i2,rfl,m8,m9⟩:=(i4 (abe i9) rfl)
   refine aK G K 12 E ads E E E (fun w H=>(bG (sz:=4) g2 wR qO E G E E E (n_.getr c3 d1).1)) fun a G=>?_
   refine fc [13] fun a G=>?_
   refine ko 14 fun w eX H=>?_
   obtain⟨j0,I⟩:=bE I
   obtain⟨j1,I⟩:=bE I
   refine(dB (X:=bq) (d:=2) (q:={ (Jc d0 i1 i2)with old:=g0 }) vi (H.own (X:=bq) (i:=3) E) d7 G E E (abj _ _ _) E E (by decide) (bq.mr _ _) fun w i5=>?_)
   have H:=H.chg i5 (i:=3) rfl
   try dsimp only[List.set]at H
   rw[abe j1]at H
   try dsimp only[List.set]at H
   obtain⟨l8,j5,j6,H⟩:=lh (f_ H [4,1,0,2,3,5,6,7,8,9] 10)
   try dsimp only[List.set]at H
   have g8:=n_.old (R':=l8.holds') (s:=g0) c3 d1 d7 (abe j0) j5 (fun w h=>cV (X:=UInt8) (e:=5) (j6 w h))
   try dsimp only[List.set]at H
   refine ds [1,2,4,5,6,7,8] 9 ?_
   obtain⟨n4,d2,I⟩:=adu I
   obtain⟨m3,g3,d8,m5⟩:=n_.getr g8 d2
   refine aK G K 15 E ads E E E (fun w H=>(bG (sz:=4) g2 wR qO E G E E E (n_.getr c3 d2).1)) fun a G=>?_
   refine fc [16] fun a G=>?_
   refine ko 17 fun w eX H=>?_
   obtain⟨j2,I⟩:=bE I
   obtain⟨j3,I⟩:=bE I
   refine(dB (X:=bq) (d:=3) (q:={ g3 with new:=g1 }) vi (H.own (X:=bq) (i:=3) E) d8 G E E (abj _ _ _) E E (by decide) (bq.mg _ _) fun w i6=>?_)
   have H:=H.chg i6 (i:=3) rfl
   try dsimp only[List.set]at H
   rw[abe j3]at H
   try dsimp only[List.set]at H
   obtain⟨i0,j7,j8,H⟩:=lh (f_ H [0,1,2,3,4,5,6,7,8] 9)
   try dsimp only[List.set]at H
   have l7:=n_.new (R':=i0.holds') (s:=g1) g8 d2 d8 (abe j2) j7 (fun w h=>cV (X:=UInt8) (e:=5) (j8 w h))
   try dsimp only[List.set]at H
   refine ds [1,3,4,5,6,7] 8 ?_
   refine de fun w H=>?_
   refine go 7 fun a w G H=>?_
   exact jr I ⟨((c2.set (c5:Int).toNat { (Jc d0 i1 i2)with old:=g0 }).set (c5:Int).toNat { g3 with new:=g1 }),i0,l7,G.t,bU H [2,0,3,4,5,6,7] 8 E⟩
  refine go 5 fun a w G H=>?_
  obtain rfl:=oI I
  have I:=k9 _ rfl
  subst I
  exact⟨c7,E,c2,c9,c3,G.to ⟨E,E,trivial⟩,H⟩
 rintro d9 a w I ⟨c4,c8,l6,G,H⟩
 replace I:Sh.zB x0 g4 g5 g6 d6 d9=_:=I
 unfold Sh.zB at I
 refine go 8 fun a w G H=>?_
 obtain⟨j4,I⟩:=bE I
 obtain rfl:=oI I
 refine er Tryz.results131 G H ?_
 exact⟨d3,d4,c6,c4,c8,d5,E,(n_.done l6 (abe j4)),bU H [6,5,0,1,4] 7 E⟩
theorem pZ{x0:du}{x1:Int}{s1 s3:SV}{da:List SV}{s7:SV}{I7:List bS}{out:(du×Int)}{w0:World}{Bf:World→Prop}{Lr:List dw}(I:Sh.kV x0 x1=some out)(H:au w0 (Lr))(S:∀ w,au w Lr→Bf w)(f2:cn Bf s1 x0.iz.b_)(f5:cn Bf s3 da)(q6:bw (cn (X:=UInt8) Bf) da x0.iz.ah)(f9:cn Bf s7 I7)(QG:bw (ic Bf) I7 x0.cj):Calls Tryz.prog 55 #[.agg (bg.enc (kg x0 s1 s3 s7)).toArray,.int .i64 x1] w0 (gf fun v w'=>∃ (j2:SV) (j3:SV) (i0:List SV) (i6:dw) (j4:SV) (i1:List bS) (i7:dw),v = .tuple #[.agg (bg.enc (kg out.1 j2 j3 j4)).toArray,.int .i64 out.2]∧bw (cn (X:=UInt8) i6.holds') i0 out.1.iz.ah∧bw (ic i7.holds') i1 out.1.cj∧au w' (ai 0 j2 5 out.1.iz.b_::ai 0 j3 23 i0::i6::ai 0 j4 60 i1::i7::Lr)):=by
 unfold Sh.kV at I
 refine ce Tryz.func55 Tryz.ntmps55 fun a G=>?_
 refine go 14 fun g6 c2 a w G H=>?_
 obtain⟨t6,l5,I⟩:=adu I
 refine cl qp (cW l5 H ) ?_
 rintro v w ⟨rfl,H⟩ a G
 refine go 3 fun a w G H=>?_
 refine cc I (fun k3 I=>?_) fun k3 I=>?_
 ·refine go 2 fun a w G H=>?_
  refine aA G (aW z36 A1 AW G (parts:=[]) E E bD) E E E fun a G=>?_
  refine go 5 fun a w G H=>?_
  have H:=H.rowNil (X:=UInt8) 0 5
  obtain⟨i8,H⟩:=lx H
  have m3:bw (cn (X:=UInt8) i8.holds') ([]:List SV) ([]:List (List UInt8)):=bw.nil
  have H:=H.rowNil (X:=SV) 0 23
  obtain⟨i9,H⟩:=lx H
  have m4:bw (ic i9.holds') ([]:List bS) ([]:List dD):=bw.nil
  have H:=H.rowNil (X:=bS) 0 60
  obtain rfl:=oI I
  refine er Tryz.results55 G H ?_
  exact⟨SV.nil,SV.nil,[],i8,SV.nil,[],i9,E,m3,m4,bU H [4,2,3,0,1] 7 E⟩
 refine go 6 fun a w G H=>?_
 refine aA G (aW z36 A1 AW G (parts:=[(2,.tmp 18)]) E E (aO E E (by rw[bg.len];decide) (bg.s_end_ _ _) bD)) E E E fun a G=>?_
 refine go 5 fun c3 a w G H=>?_
 refine aM G H I (fun F x a w=>match x with|j5=>Fr 58 [(1,.int .i64 x1),(2,.pointer (some ⟨g6,0,none⟩)),(4,.pointer (some ⟨c2,0,none⟩)),(5,.int .i64 0),(6,.pointer (some ⟨c3,0,none⟩))] a∧au w (pt c3 (bg.enc (bg.mk (br.mk SV.nil SV.nil) SV.nil j5)) 36::pt c2 (bg.enc (EG)) 36::pt g6 (bg.enc (kg x0 s1 s3 s7)) 36::Lr)) (fun t8 I p3 G H=>?_) ?_
 ·exact lf
 rintro j5 a w I ⟨G,H⟩
 unfold Sh.yS at I
 refine go 9 fun a w G H=>?_
 refine aA G (aW z54 ri wK G (parts:=[(2,.tmp 28),(3,.tmp 31)]) E E (aO E E (by rw[ay.len];decide) (ay.gI _ _) (aO E E (by rw[ay.len];decide) (ay.ep _ _) bD))) E E E fun a G=>?_
 obtain⟨t7,l6,I⟩:=adu I
 have k5:=fJ l6 H (Bf:=Bf) (tb S) f2 f5 q6 cn.nil
 refine cl Cd k5 ?_
 rintro v w ⟨n2,n3,l2,t0,rfl,m5,H⟩ a G
 refine go 10 fun n8 a w G H=>?_
 refine aA G (aW z30 DY DJ G (parts:=[(0,.tmp 35),(1,.tmp 37)]) E E (aO E E (by rw[br.len];decide) (br.gI _ _) (aO E E (by rw[br.len];decide) (br.ep _ _) bD))) E E E fun a G=>?_
 refine go 1 fun a w G H=>?_
 refine bC E E (aU (vs:=_) Tryz.sizeOf30 (H.obj (i:=5) E) G E E E E (br.len _) (br.one _) (by rw[br.len,bg.len];decide) (bg.p_in_ _ _) fun w k2=>?_)
 have H:=H.chg k2 (i:=5) rfl
 try dsimp only[List.set]at H
 refine go 3 fun a w G H=>?_
 refine aM G H I (fun F x a w=>match x with|c6=>∃ (d7:SV) (d8:SV) (c4:List SV) (d9:SV) (d1:List bS) (d5:dw),bw (cn (X:=UInt8) (a_ c4 c6.iz.ah).holds') c4 c6.iz.ah∧bw (ic d5.holds') d1 c6.cj∧Fr 58 [(4,.pointer (some ⟨c2,0,none⟩)),(5,.int .i64 0),(6,.pointer (some ⟨c3,0,none⟩))] a∧au w (pt c3 (bg.enc (kg c6 d7 d8 d9)) 36::ai 0 d7 5 c6.iz.b_::ai 0 d8 23 c4::(a_ c4 c6.iz.ah)::ai 0 d9 60 d1::d5::pt c2 (bg.enc (EG)) 36::Lr)) (fun t9 I p4 G H=>?_) ?_
 ·refine go 5 fun a w G H=>?_
  obtain⟨j6,l4,I⟩:=adu I
  obtain⟨p0,c9,d4⟩:=bw.nj QG l4
  refine aA G (fC (f9 _ (S _ (dZ H 8))) c9 rh AP E G E E (.inl ⟨E,E⟩) (.inr ⟨_,_,E,E⟩)) E E E fun a G=>?_
  refine aA G (dR ((cn.nj f9 c9 E) _ (S _ (dZ H 8))) d4.len rh G E E) E E E fun a G=>?_
  refine go 4 fun a w G H=>?_
  obtain⟨j0,H⟩:=lx H
  have m8:bw (ic j0.holds') ([]:List bS) ([]:List dD):=bw.nil
  have H:=H.rowNil (X:=bS) 0 60
  refine aY G H I (fun F x a w=>match x with|(c0,g8)=>∃ (d2:SV) (d3:SV) (c5:List SV) (g0:SV) (c7:List bS) (d6:dw),bw (cn (X:=UInt8) (a_ c5 c0.iz.ah).holds') c5 c0.iz.ah∧bw (ic d6.holds') c7 c0.cj∧Fr 58 [(45,.int .i64 g8),(4,.pointer (some ⟨c2,0,none⟩)),(43,((s7.cut (0:Int).toNat (x1:Int).toNat 7)).v),(44,.int .i64 (j6.length:Int)),(5,.int .i64 0),(6,.pointer (some ⟨c3,0,none⟩))] a∧au w (pt c3 (bg.enc (kg c0 d2 d3 g0)) 36::ai 0 d2 5 c0.iz.b_::ai 0 d3 23 c5::(a_ c5 c0.iz.ah)::ai 0 g0 60 c7::d6::pt c2 (bg.enc (EG)) 36::Lr)) (fun G H=>⟨n2,n3,l2,SV.nil,[],j0,m5,m8,G.to ⟨E,E,E,E,E,E,trivial⟩,f_ H [7,3,4,5,0,1,8] 10⟩) ?_
  rintro⟨c0,g8⟩ a w u0 I m2 ⟨d2,d3,c5,g0,c7,d6,i5,g7,G,H⟩
  replace I:Sh.hI j6 c0 g8=_:=I
  unfold Sh.hI at I
  refine go 6 fun a w G H=>?_
  refine cc I (fun k4 I=>?_) fun k4 I=>?_
  ·refine go 6 fun a w G H=>?_
   obtain⟨t5,i2,I⟩:=adu I
   have j7:=aL i2
   obtain⟨p2,k0,k1⟩:=bw.getr d4 j7.2
   have j9:=bw.bd d4 (bA i2)
   obtain⟨t1,t2,t3,p1,t4,rfl,l8,l9,m0,m9,m1⟩:=k1
   refine aA G (bG (sz:=7) ((cn.nj f9 c9 E) _ (S _ (dZ H 7))) rh AP E G E E E j9) E E E fun a G=>?_
   refine aA G (cC Tryz.isAgg60 Tryz.sizeOf60 G E E (bS.len _) ((((cn.nj f9 c9 E) _ (S _ (dZ H 7))).elemS k0))) E E E fun a G=>?_
   refine go 4 fun n9 a w G H=>?_
   refine dT H [0,1,2,3,4,5,6,7] 8 fun K=>?_
   refine fc [0,1,2] fun a G=>?_
   refine dx 3 fun w eX H=>?_
   obtain⟨c1,l7,I⟩:=adu I
   refine dl Tryz.call131 (yQ l7 H (Bf:=Bf) (tb S) l8 l9 m0 m9 m1) ?_
   rintro v w ⟨g1,g2,g3,l3,p5,g4,rfl,n0,H⟩
   refine ds [0,1,2,3,4,5,6,7,8,9,10,11,12] 13 fun a G=>?_
   refine dx 4 fun w eX H=>?_
   refine(bL (X:=bS) (y:=(qk c1 g1 g2 g3 g4)) rh AP E E E E G E E E fun n6 w n7 i4=>?_)
   have H:=H.plus i4
   try dsimp only[List.set]at H
   refine ds [0,1,2,3,4,5,6,7,8,9,10,11,12,13] 14 fun a G=>?_
   refine dx 5 fun w eX H=>?_
   obtain⟨n5,i3,I⟩:=adu I
   refine(fS (X:=bS) i3 g7.len E rh AP E E E E G E E E (H.own (X:=bS) (i:=11) E) (H.ptS (X:=bS) (i:=0) (n:=1) (c:=1) E E E (aah _)) fun n4 w j8=>?_)
   have H:=H.chg j8 (i:=11) rfl
   try dsimp only[List.set]at H
   obtain⟨p6,k6,k7,H⟩:=lh (f_ H [12,1,0,2,3,4,5,6,7,8,9,10,11,13] 14)
   try dsimp only[List.set]at H
   obtain⟨p7,g9,k8,H⟩:=lh (f_ H [0,2,1,3,4,5,6,7,8,9,10,11,12] 13)
   try dsimp only[List.set]at H
   obtain⟨p8,g5,k9,H⟩:=lh (f_ H [0,2,1,3,4,5,6,7,8,9,10,11] 12)
   try dsimp only[List.set]at H
   obtain⟨p9,d0,l0,H⟩:=lh (f_ H [0,2,1,3,4,5,6,7,8,9,10] 11)
   try dsimp only[List.set]at H
   obtain⟨j1,c8,l1,H⟩:=lh (f_ H [0,2,1,3,4,5,6,7,8,9] 10)
   try dsimp only[List.set]at H
   have n1:bw (ic j1.holds') (c7 ++ [(qk c1 g1 g2 g3 g4)]) n5:=by rw[(cX i3).2];exact(g7.mono fun _ _ q=>q.mono (fun w h=>(fun w h=>(fun w h=>(fun w h=>k6 w (g9 w h)) w (g5 w h)) w (d0 w h)) w (c8 w h))).snoc ⟨g1,g2,g3,l3,g4,rfl,(fun w h=>cV (X:=dU) (e:=128) ((fun w h=>(fun w h=>(fun w h=>(fun w h=>k7 w (g9 w h)) w (g5 w h)) w (d0 w h)) w (c8 w h)) w h)),(fun w h=>cV (X:=eo) (e:=151) ((fun w h=>(fun w h=>(fun w h=>k8 w (g5 w h)) w (d0 w h)) w (c8 w h)) w h)),(fun w h=>cV (X:=bq) (e:=156) ((fun w h=>(fun w h=>k9 w (d0 w h)) w (c8 w h)) w h)),(n0.mono fun _ _ q=>q.mono (fun w h=>l0 w (c8 w h))),(fun w h=>cV (X:=Int) (e:=3) (l1 w h))⟩
   try dsimp only[List.set]at H
   refine dh fun a G=>?_
   refine fc [6,7] fun a G=>?_
   refine de fun w H=>?_
   refine go 7 fun a w G H=>?_
   exact jr I ⟨d2,d3,c5,n4,(c7 ++ [(qk c1 g1 g2 g3 g4)]),j1,i5,n1,G.t,bU H [3,4,5,6,7,0,8] 9 E⟩
  refine go 5 fun a w G H=>?_
  obtain rfl:=oI I
  have I:=m2 _ rfl
  subst I
  exact⟨c0,E,d2,d3,c5,g0,c7,d6,i5,g7,G.to ⟨E,E,E,trivial⟩,H⟩
 rintro c6 a w I ⟨d7,d8,c4,d9,d1,d5,m6,m7,G,H⟩
 unfold Sh.aH9 at I
 refine go 9 fun a w G H=>?_
 obtain rfl:=oI I
 refine er Tryz.results55 G H ?_
 exact⟨d7,d8,c4,(a_ c4 c6.iz.ah),d9,d1,d5,E,m6,m7,bU H [1,2,3,4,5] 7 E⟩
end Go.Proofs
end
section
namespace Go.Proofs
open Go.Fw Go.Fx
set_option maxRecDepth 10000
theorem zM{x0:Int}{out:Bool}{w0:World}{Lr:List dw}(I:Sh.FI x0=some out)(H:au w0 (Lr)):Calls Tryz.prog 203 #[.int .i64 x0] w0 (gf fun v w'=>v = .bool out∧au w' (Lr)):=by
 unfold Sh.FI at I
 refine ce Tryz.func203 Tryz.ntmps203 fun a G=>?_
 refine go 6 fun a w G H=>?_
 refine jn G H I [] (fun v7 u=>(2,.bool v7)::u) (fun c1 I c0 G H=>?_) fun v7 a w I G H=>?_
 ·exact lf
 replace I:Sh.Iq v7=_:=I
 unfold Sh.Iq at I
 exact lf
theorem rW{x0:Int}{out:Bool}{w0:World}{Lr:List dw}(I:Sh.qP x0=some out)(H:au w0 (Lr)):Calls Tryz.prog 283 #[.int .i64 x0] w0 (gf fun v w'=>v = .bool out∧au w' (Lr)):=by
 unfold Sh.qP at I
 refine ce Tryz.func283 Tryz.ntmps283 fun a G=>?_
 refine go 6 fun a w G H=>?_
 refine jn G H I [] (fun v7 u=>(2,.bool v7)::u) (fun c1 I c0 G H=>?_) fun v7 a w I G H=>?_
 ·exact lf
 replace I:Sh.xD v7=_:=I
 unfold Sh.xD at I
 exact lf
theorem mF{x0 x1:Int}{out:Bool}{w0:World}{Lr:List dw}(I:Sh.nP x0 x1=some out)(H:au w0 (Lr)):Calls Tryz.prog 284 #[.int .i64 x0,.int .i64 x1] w0 (gf fun v w'=>v = .bool out∧au w' (Lr)):=by
 unfold Sh.nP at I
 refine ce Tryz.func284 Tryz.ntmps284 fun a G=>?_
 refine go 12 fun a w G H=>?_
 refine cc I (fun Ha I=>?_) fun Ha I=>?_
 ·exact lf
 refine go 10 fun a w G H=>?_
 refine jn G H I [4] (fun v55 u=>(8,.bool v55)::u) (fun c1 I c0 G H=>?_) fun v55 a w I G H=>?_
 ·exact lf
 replace I:Sh.xE v55=_:=I
 unfold Sh.xE at I
 exact lf
theorem wB{x0:Int}{out:Bool}{w0:World}{Lr:List dw}(I:Sh.GL x0=some out)(H:au w0 (Lr)):Calls Tryz.prog 315 #[.int .i64 x0] w0 (gf fun v w'=>v = .bool out∧au w' (Lr)):=by
 unfold Sh.GL at I
 refine ce Tryz.func315 Tryz.ntmps315 fun a G=>?_
 refine go 13 fun a w G H=>?_
 refine jn G H I [0,2] (fun v54 u=>(4,.bool v54)::u) (fun c1 I c0 G H=>?_) fun v54 a w I G H=>?_
 ·exact lf
 replace I:Sh.aB8 x0 v54=_:=I
 unfold Sh.aB8 at I
 refine aB ?_
 refine cc I (fun OY I=>?_) fun OY I=>?_
 ·exact lf
 refine go 6 fun a w G H=>?_
 obtain⟨Vj,Qe,I⟩:=adu I
 have Pj:=mF Qe H 
 refine cl Tryz.call284 Pj ?_
 rintro v w ⟨rfl,H⟩ a G
 exact lf
theorem kU{x0:Int}{out:Bool}{w0:World}{Lr:List dw}(I:Sh.nM x0=some out)(H:au w0 (Lr)):Calls Tryz.prog 314 #[.int .i64 x0] w0 (gf fun v w'=>v = .bool out∧au w' (Lr)):=by
 unfold Sh.nM at I
 refine ce Tryz.func314 Tryz.ntmps314 fun a G=>?_
 refine go 6 fun a w G H=>?_
 refine jn G H I [] (fun v47 u=>(2,.bool v47)::u) (fun c1 I c0 G H=>?_) fun v47 a w I G H=>?_
 ·exact lf
 replace I:Sh.aCb v47=_:=I
 unfold Sh.aCb at I
 exact lf
theorem zL{x0:b9}{out:(Bool×Bool×Bool×Bool)}{w0:World}{Lr:List dw}(I:Sh.GR x0=some out)(H:au w0 (Lr)):Calls Tryz.prog 281 #[.agg (b9.enc x0).toArray] w0 (gf fun v w'=>v = .tuple #[.bool out.1,.bool out.2.1,.bool out.2.2.1,.bool out.2.2.2]∧au w' (Lr)):=by
 unfold Sh.GR at I
 refine ce Tryz.func281 Tryz.ntmps281 fun a G=>?_
 refine go 10 fun d0 a w G H=>?_
 refine jn G H I [1,2,3,4,5] (fun c0 u=>(6,.bool c0)::u) (fun d7 I d1 G H=>?_) fun c0 a w I G H=>?_
 ·exact lf
 replace I:Sh.Ik x0 c0=_:=I
 unfold Sh.Ik at I
 refine go 2 fun a w G H=>?_
 refine jn G H I [1,2,3,4,5,6] (fun c2 u=>(7,.bool c2)::u) (fun d8 I d2 G H=>?_) fun c2 a w I G H=>?_
 ·exact lf
 replace I:Sh.JB x0 c0 c2=_:=I
 unfold Sh.JB at I
 refine go 2 fun a w G H=>?_
 refine jn G H I [1,3,4,5,6,7] (fun c1 u=>(2,.bool c1)::u) (fun d9 I d3 G H=>?_) fun c1 a w I G H=>?_
 ·exact lf
 replace I:Sh.Gu x0 c0 c2 c1=_:=I
 unfold Sh.Gu at I
 refine go 2 fun a w G H=>?_
 refine jn G H I [1,2,4,5,6,7] (fun c3 u=>(3,.bool c3)::u) (fun g0 I d4 G H=>?_) fun c3 a w I G H=>?_
 ·refine go 3 fun a w G H=>?_
  obtain⟨g3,c8,I⟩:=adu I
  have c6:=kU c8 H 
  refine cl Tryz.call314 c6 ?_
  rintro v w ⟨rfl,H⟩ a G
  exact lf
 replace I:Sh.Il x0 c0 c2 c1 c3=_:=I
 unfold Sh.Il at I
 refine go 2 fun a w G H=>?_
 refine jn G H I [1,2,3,5] (fun c4 u=>(4,.bool c4)::u) (fun g1 I d5 G H=>?_) fun c4 a w I G H=>?_
 ·exact lf
 replace I:Sh.aAg x0 c1 c3 c4=_:=I
 unfold Sh.aAg at I
 refine go 2 fun a w G H=>?_
 refine jm (Lr) G H I [2,3,4] (fun c5 u=>(5,.bool c5)::u) (fun g2 I d6 G H=>?_) fun c5 a w I G H=>?_
 ·refine go 3 fun a w G H=>?_
  obtain⟨g4,c9,I⟩:=adu I
  have c7:=kU c9 H 
  refine cl Tryz.call314 c7 ?_
  rintro v w ⟨rfl,H⟩ a G
  exact lf
 replace I:Sh.aF8 c1 c3 c4 c5=_:=I
 unfold Sh.aF8 at I
 refine go 2 fun a w G H=>?_
 obtain rfl:=oI I
 refine er Tryz.results281 G H ?_
 exact⟨E,H⟩
theorem wC{x0:b9}{out:Bool}{w0:World}{Lr:List dw}(I:Sh.xP x0=some out)(H:au w0 (Lr)):Calls Tryz.prog 280 #[.agg (b9.enc x0).toArray] w0 (gf fun v w'=>v = .bool out∧au w' (Lr)):=by
 unfold Sh.xP at I
 refine ce Tryz.func280 Tryz.ntmps280 fun a G=>?_
 refine go 10 fun c0 a w G H=>?_
 obtain⟨d0,d8,I⟩:=adu I
 have d7:=kU d8 H 
 refine cl Tryz.call314 d7 ?_
 rintro v w ⟨rfl,H⟩ a G
 refine go 13 fun a w G H=>?_
 refine aM G H I (fun F x a w=>match x with|(c1,c2)=>Fr 156 [(3,.bool c1),(5,.bool c2),(1,.pointer (some ⟨c0,0,none⟩)),(2,.bool false),(4,.bool d0)] a∧au w (pt c0 (b9.enc x0) 101::Lr)) (fun g5 I c9 G H=>?_) ?_
 ·refine go 2 fun a w G H=>?_
  refine jn G H I [1,2,3,4,5] (fun c3 u=>(12,.bool c3)::u) (fun g6 I d9 G H=>?_) fun c3 a w I G H=>?_
  ·exact lf
  replace I:Sh.wF x0 c3=_:=I
  unfold Sh.wF at I
  refine aB ?_
  refine cc I (fun d1 I=>?_) fun d1 I=>?_
  ·refine go 6 fun a w G H=>?_
   obtain rfl:=oI I
   have I:=bB c9
   subst I
   refine aT Tryz.results280 G E ?_
   exact⟨E,bU H [] 1 E⟩
  refine go 8 fun a w G H=>?_
  refine cc I (fun d2 I=>?_) fun d2 I=>?_
  ·refine aH ?_
   refine jn G H I [1,3,4,5] (fun c4 u=>(2,.bool c4)::u) (fun g7 I g0 G H=>?_) fun c4 a w I G H=>?_
   ·exact lf
   replace I:Sh.aB9 c4=_:=I
   unfold Sh.aB9 at I
   refine go 2 fun a w G H=>?_
   obtain rfl:=oI I
   have I:=bB c9
   subst I
   refine aT Tryz.results280 G E ?_
   exact⟨E,bU H [] 1 E⟩
  refine aH ?_
  refine jn G H I [1,2,3,4,5] (fun c5 u=>(47,.bool c5)::u) (fun g8 I g1 G H=>?_) fun c5 a w I G H=>?_
  ·exact lf
  replace I:Sh.wG x0 c5=_:=I
  unfold Sh.wG at I
  refine aB ?_
  refine cc I (fun d3 I=>?_) fun d3 I=>?_
  ·exact lf
  refine aH ?_
  refine jn G H I [1,2,3,4,5] (fun c6 u=>(69,.bool c6)::u) (fun g9 I g2 G H=>?_) fun c6 a w I G H=>?_
  ·exact lf
  replace I:Sh.wH x0 c6=_:=I
  unfold Sh.wH at I
  refine aB ?_
  refine cc I (fun d4 I=>?_) fun d4 I=>?_
  ·exact lf
  refine go 8 fun a w G H=>?_
  refine cc I (fun d5 I=>?_) fun d5 I=>?_
  ·exact lf
  refine go 8 fun a w G H=>?_
  refine cc I (fun d6 I=>?_) fun d6 I=>?_
  ·exact lf
  refine aH ?_
  refine jn G H I [1,2,3,4,5] (fun c7 u=>(125,.bool c7)::u) (fun i0 I g3 G H=>?_) fun c7 a w I G H=>?_
  ·exact lf
  replace I:Sh.wI x0 c7=_:=I
  unfold Sh.wI at I
  exact lf
 rintro⟨c1,c2⟩ a w I ⟨G,H⟩
 replace I:Sh.wE x0 d0 c1 c2=_:=I
 unfold Sh.wE at I
 refine go 2 fun a w G H=>?_
 refine jm (Lr) G H I [] (fun c8 u=>(2,.bool c8)::u) (fun i1 I g4 G H=>?_) fun c8 a w I G H=>?_
 ·exact lf
 replace I:Sh.Ie c8=_:=I
 unfold Sh.Ie at I
 exact lf
theorem oX{x0:Int}{x1 out:Bool}{w0:World}{Lr:List dw}(I:Sh.wJ x0 x1=some out)(H:au w0 (Lr)):Calls Tryz.prog 282 #[.int .i64 x0,.bool x1] w0 (gf fun v w'=>v = .bool out∧au w' (Lr)):=by
 unfold Sh.wJ at I
 refine ce Tryz.func282 Tryz.ntmps282 fun a G=>?_
 refine go 6 fun a w G H=>?_
 refine jn G H I [] (fun v17 u=>(4,.bool v17)::u) (fun c1 I c0 G H=>?_) fun v17 a w I G H=>?_
 ·exact lf
 replace I:Sh.Jw v17=_:=I
 unfold Sh.Jw at I
 exact lf
theorem vD{x0:b9}{out:Bool}{w0:World}{Lr:List dw}(I:Sh.vV x0=some out)(H:au w0 (Lr)):Calls Tryz.prog 285 #[.agg (b9.enc x0).toArray] w0 (gf fun v w'=>v = .bool out∧au w' (Lr)):=by
 unfold Sh.vV at I
 refine ce Tryz.func285 Tryz.ntmps285 fun a G=>?_
 refine go 14 fun c8 a w G H=>?_
 refine cc I (fun O2 I=>?_) fun O2 I=>?_
 ·exact lf
 refine go 4 fun a w G H=>?_
 refine jn G H I [1,2] (fun HV u=>(13,.bool HV)::u) (fun d3 I c9 G H=>?_) fun HV a w I G H=>?_
 ·exact lf
 replace I:Sh.uZ x0 HV=_:=I
 unfold Sh.uZ at I
 refine aB ?_
 refine cc I (fun O6 I=>?_) fun O6 I=>?_
 ·exact lf
 refine go 11 fun a w G H=>?_
 refine jn G H I [1,15,2] (fun c0 u=>(16,.bool c0)::u) (fun d4 I d0 G H=>?_) fun c0 a w I G H=>?_
 ·exact lf
 replace I:Sh.vA x0 c0=_:=I
 unfold Sh.vA at I
 refine aB ?_
 refine cc I (fun c3 I=>?_) fun c3 I=>?_
 ·exact lf
 refine aH ?_
 refine jn G H I [1,15,2] (fun c1 u=>(24,.bool c1)::u) (fun d5 I d1 G H=>?_) fun c1 a w I G H=>?_
 ·exact lf
 replace I:Sh.vB x0 c1=_:=I
 unfold Sh.vB at I
 refine aB ?_
 refine cc I (fun c4 I=>?_) fun c4 I=>?_
 ·refine aH ?_
  refine jm (Lr) G H I [] (fun c2 u=>(2,.bool c2)::u) (fun d6 I d2 G H=>?_) fun c2 a w I G H=>?_
  ·exact lf
  replace I:Sh.Gt c2=_:=I
  unfold Sh.Gt at I
  exact lf
 refine go 6 fun a w G H=>?_
 refine cc I (fun c5 I=>?_) fun c5 I=>?_
 ·refine go 4 fun a w G H=>?_
  obtain⟨d7,c7,I⟩:=adu I
  have c6:=wB c7 H 
  refine cl Tryz.call315 c6 ?_
  rintro v w ⟨rfl,H⟩ a G
  exact lf
 exact lf
theorem xL{x0:b9}{out:Int}{w0:World}{Lr:List dw}(I:Sh.aAe x0=some out)(H:au w0 (Lr)):Calls Tryz.prog 235 #[.agg (b9.enc x0).toArray] w0 (gf fun v w'=>v = .int .i64 out∧au w' (Lr)):=by
 unfold Sh.aAe at I
 refine ce Tryz.func235 Tryz.ntmps235 fun a G=>?_
 refine go 10 fun i3 a w G H=>?_
 obtain⟨k0,g6,I⟩:=adu I
 have d9:=wC g6 H 
 refine cl Tryz.call280 d9 ?_
 rintro v w ⟨rfl,H⟩ a G
 refine go 3 fun a w G H=>?_
 refine cc I (fun d2 I=>?_) fun d2 I=>?_
 ·exact lf
 refine go 5 fun a w G H=>?_
 obtain⟨c0,g7,I⟩:=adu I
 have g0:=zL g7 H 
 refine cl Tryz.call281 g0 ?_
 rintro v w ⟨rfl,H⟩ a G
 refine go 14 fun a w G H=>?_
 refine jn G H I [1,2,3,4,5,6] (fun c3 u=>(17,.bool c3)::u) (fun j2 I i4 G H=>?_) fun c3 a w I G H=>?_
 ·refine aH ?_
  refine jn G H I [1,2,3,4,5,6] (fun c4 u=>(17,.bool c4)::u) (fun j3 I i5 G H=>?_) fun c4 a w I G H=>?_
  ·refine dT H [0] 1 fun K=>?_
   refine fc [0,1] fun a G=>?_
   refine gs I (fun c1 I=>?_) fun c1 I=>?_
   ·refine fc [2,3,4,5] fun a G=>?_
    refine bJ K 6 ads E E ?_
    refine kF G 6 E E E E E c1 E E fun w eX H=>?_
    obtain⟨k1,g8,I⟩:=adu I
    have g1:=rW g8 H 
    refine dl Tryz.call283 g1 ?_
    rintro v w ⟨rfl,H⟩
    refine ds [0] 1 fun a G=>?_
    refine bJ K 7 ads E E ?_
    refine kF G 7 E E E E E c1 E E fun w eX H=>?_
    obtain⟨k2,g9,I⟩:=adu I
    have g2:=oX g9 H 
    refine dl Tryz.call282 g2 ?_
    rintro v w ⟨rfl,H⟩
    refine ds [0] 1 fun a G=>?_
    refine fc [8,9,10] fun a G=>?_
    refine de fun w H=>?_
    exact lf
   refine fc [2,3,4,5,6,7,8,9,10] fun a G=>?_
   refine de fun w H=>?_
   exact lf
  replace I:Sh.aD8 x0 c0 c4=_:=I
  unfold Sh.aD8 at I
  refine aB ?_
  refine cc I (fun d3 I=>?_) fun d3 I=>?_
  ·exact lf
  refine dT H [0] 1 fun K=>?_
  refine fc [0,1] fun a G=>?_
  refine gs I (fun c2 I=>?_) fun c2 I=>?_
  ·refine fc [2,3,4,5,6,7] fun a G=>?_
   refine bJ K 8 ads E E ?_
   refine kF G 8 E E E E E c2 E E fun w eX H=>?_
   obtain⟨k3,i0,I⟩:=adu I
   have g3:=mF i0 H 
   refine dl Tryz.call284 g3 ?_
   rintro v w ⟨rfl,H⟩
   refine ds [0] 1 fun a G=>?_
   refine bJ K 9 ads E E ?_
   refine kF G 9 E E E E E c2 E E fun w eX H=>?_
   obtain⟨k4,i1,I⟩:=adu I
   have g4:=oX i1 H 
   refine dl Tryz.call282 g4 ?_
   rintro v w ⟨rfl,H⟩
   refine ds [0] 1 fun a G=>?_
   refine fc [10,11,12] fun a G=>?_
   refine de fun w H=>?_
   exact lf
  refine fc [2,3,4,5,6,7,8,9,10,11,12] fun a G=>?_
  refine de fun w H=>?_
  exact lf
 replace I:Sh.yB x0 c0 c3=_:=I
 unfold Sh.yB at I
 refine aB ?_
 refine cc I (fun d4 I=>?_) fun d4 I=>?_
 ·exact lf
 refine aH ?_
 refine jn G H I [1,2,6] (fun c5 u=>(40,.bool c5)::u) (fun j4 I i6 G H=>?_) fun c5 a w I G H=>?_
 ·refine aH ?_
  refine jn G H I [1,2,4,5,6] (fun c6 u=>(40,.bool c6)::u) (fun j5 I i7 G H=>?_) fun c6 a w I G H=>?_
  ·exact lf
  replace I:Sh.aD9 x0 c0 c6=_:=I
  unfold Sh.aD9 at I
  refine aB ?_
  refine cc I (fun d5 I=>?_) fun d5 I=>?_
  ·exact lf
  refine aH ?_
  refine jn G H I [1,2,5,6] (fun c7 u=>(40,.bool c7)::u) (fun j6 I i8 G H=>?_) fun c7 a w I G H=>?_
  ·exact lf
  replace I:Sh.aEa x0 c0 c7=_:=I
  unfold Sh.aEa at I
  refine aB ?_
  refine cc I (fun d6 I=>?_) fun d6 I=>?_
  ·exact lf
  refine aH ?_
  refine jn G H I [1,2,6] (fun c8 u=>(40,.bool c8)::u) (fun j7 I i9 G H=>?_) fun c8 a w I G H=>?_
  ·exact lf
  replace I:Sh.GU x0 c8=_:=I
  unfold Sh.GU at I
  exact lf
 replace I:Sh.yC x0 c0 c5=_:=I
 unfold Sh.yC at I
 refine aB ?_
 refine cc I (fun d7 I=>?_) fun d7 I=>?_
 ·exact lf
 refine aH ?_
 refine jm (Lr) G H I [2] (fun c9 u=>(68,.bool c9)::u) (fun j8 I j0 G H=>?_) fun c9 a w I G H=>?_
 ·refine aH ?_
  refine jn G H I [1,2,6] (fun d0 u=>(68,.bool d0)::u) (fun j9 I j1 G H=>?_) fun d0 a w I G H=>?_
  ·exact lf
  replace I:Sh.aEd x0 c0 d0=_:=I
  unfold Sh.aEd at I
  refine aB ?_
  refine cc I (fun d8 I=>?_) fun d8 I=>?_
  ·exact lf
  refine go 3 fun a w G H=>?_
  refine gs I (fun d1 I=>?_) fun d1 I=>?_
  ·refine go 1 fun a w G H=>?_
   obtain⟨k5,i2,I⟩:=adu I
   have g5:=vD i2 H 
   refine dA G E E E d1 E E (aS (xs:=[.tmp 78]) Tryz.call285 G E E g5 fun v w hR=>?_)
   obtain⟨rfl,H⟩:=hR
   intro a G
   exact lf
  exact lf
 replace I:Sh.aEc c9=_:=I
 unfold Sh.aEc at I
 exact lf
theorem xK{x0:List b9}{s1:SV}{out:(Int×Int)}{w0:World}{Bf:World→Prop}{Lr:List dw}(I:Sh.aAb x0=some out)(H:au w0 (Lr))(S:∀ w,au w Lr→Bf w)(f2:cn Bf s1 x0):Calls Tryz.prog 202 #[(s1).v] w0 (gf fun v w'=>v = .tuple #[.int .i64 out.1,.int .i64 out.2]∧au w' (Lr)):=by
 unfold Sh.aAb at I
 refine ce Tryz.func202 Tryz.ntmps202 fun a G=>?_
 refine go 7 fun a w G H=>?_
 refine jn G H I [2,3] (fun _ u=>u) (fun d0 I c1 G H=>?_) fun _ a w I G H=>?_
 ·refine go 8 fun a w G H=>?_
  refine ln G H I [2,3,7,8] (fun c2 u=>(9,.int .i64 c2)::u) fun c2 a w d1 I c0 G H=>?_
  unfold Sh.xZ at I
  refine go 6 fun a w G H=>?_
  refine cc I (fun c3 I=>?_) fun c3 I=>?_
  ·obtain⟨d2,c9,I⟩:=adu I
   refine go 21 fun c8 a w G H=>?_
   refine cc I (fun c4 I=>?_) fun c4 I=>?_
   ·refine go 8 fun a w G H=>?_
    obtain rfl:=oI I
    have I:=c0 _ rfl
    subst I
    have I:=bB c1
    subst I
    refine er Tryz.results202 G H ?_
    exact⟨E,bU H [] 1 E⟩
   refine go 5 fun a w G H=>?_
   obtain⟨d3,c7,I⟩:=adu I
   have c6:=xL c7 H 
   refine cl Tryz.call235 c6 ?_
   rintro v w ⟨rfl,H⟩ a G
   refine go 9 fun a w G H=>?_
   refine cc I (fun c5 I=>?_) fun c5 I=>?_
   ·refine go 9 fun a w G H=>?_
    obtain rfl:=oI I
    have I:=c0 _ rfl
    subst I
    have I:=bB c1
    subst I
    refine er Tryz.results202 G H ?_
    exact⟨E,bU H [] 1 E⟩
   exact lf
  refine go 5 fun a w G H=>?_
  obtain rfl:=oI I
  have I:=c0 _ rfl
  subst I
  exact⟨(),E,G.to ⟨E,E,trivial⟩,H⟩
 replace I:Sh.aD6=_:=I
 unfold Sh.aD6 at I
 refine go 8 fun a w G H=>?_
 obtain rfl:=oI I
 refine er Tryz.results202 G H ?_
 exact⟨E,H⟩
theorem lQ{x0:List b9}{s1:SV}{out:List Int}{w0:World}{Bf:World→Prop}{Lr:List dw}(I:Sh.aAc x0=some out)(H:au w0 (Lr))(S:∀ w,au w Lr→Bf w)(f2:cn Bf s1 x0):Calls Tryz.prog 141 #[(s1).v] w0 (gf fun v w'=>∃ (d0:SV),v=(d0).v∧au w' (ai 0 d0 3 out::Lr)):=by
 unfold Sh.aAc at I
 refine ce Tryz.func141 Tryz.ntmps141 fun a G=>?_
 refine go 7 fun a w G H=>?_
 refine aN G E E E (bL (X:=Int) (y:=0) o9 kP E E E E G E E E fun c6 w g0 c7=>?_)
 have H:=H.plus c7
 try dsimp only[List.set]at H
 intro a G
 refine go 9 fun a w G H=>?_
 refine aM G H I (fun F x a w=>match x with|d1=>∃ (c2:SV),Fr 27 [(3,(c2).v),(2,(SV.nil).v)] a∧au w (ai 0 c2 3 d1::Lr)) (fun g5 I g2 G H=>?_) ?_
 ·refine go 8 fun a w G H=>?_
  have H:=H.ptRow (lo:=0) (i:=0) (n:=1) (c:=1) rfl rfl (aaF _) rfl rfl (by decide)
  try dsimp only[List.set]at H
  refine aY G H I (fun F x a w=>match x with|(c3,c0,c8)=>∃ (c1:SV),Fr 27 [(10,.int .i64 c3),(3,(c1).v),(4,.int .i64 c8),(2,(SV.nil).v),(8,(s1).v),(9,.int .i64 (x0.length:Int))] a∧au w (ai 0 c1 3 c0::Lr)) (fun G H=>⟨⟨some ⟨c6,0,none⟩,1,1⟩,G.to ⟨E,E,E,E,E,E,trivial⟩,H⟩) ?_
  rintro⟨c3,c0,c8⟩ a w g7 I d2 ⟨c1,G,H⟩
  replace I:Sh.tL x0 c3 c0 c8=_:=I
  unfold Sh.tL at I
  refine go 6 fun a w G H=>?_
  refine cc I (fun d3 I=>?_) fun d3 I=>?_
  ·obtain⟨g8,g4,I⟩:=adu I
   refine go 20 fun d9 a w G H=>?_
   refine jm (ai 0 c1 3 c0::Lr) G H I [10,2,3,8,9] (fun c4 u=>(4,.int .i64 c4)::u) (fun g6 I g3 G H=>?_) fun c4 a w I G H=>?_
   ·refine go 4 fun a w G H=>?_
    obtain⟨i0,d6,I⟩:=adu I
    have d4:=zM d6 H 
    refine cl Tryz.call203 d4 ?_
    rintro v w ⟨rfl,H⟩ a G
    exact lf
   replace I:Sh.yA c3 c0 c4=_:=I
   unfold Sh.yA at I
   refine go 4 fun a w G H=>?_
   refine aN G E E E (bL (X:=Int) (y:=c4) o9 kP E E E E G E E E fun d7 w d8 c5=>?_)
   have H:=H.plus c5
   try dsimp only[List.set]at H
   intro a G
   obtain⟨g9,d5,I⟩:=adu I
   refine aN G E E E (cB (X:=Int) d5 o9 kP E E E E G E E E (H.own (X:=Int) (i:=1) E) (H.ptS (X:=Int) (i:=0) (n:=1) (c:=1) E E E (aah _)) fun g1 w c9=>?_)
   have H:=H.chg c9 (i:=1) rfl
   try dsimp only[List.set]at H
   intro a G
   refine go 9 fun a w G H=>?_
   exact jr I ⟨g1,G.t,bU H [1] 2 E⟩
  refine go 5 fun a w G H=>?_
  obtain rfl:=oI I
  have I:=d2 _ rfl
  subst I
  exact⟨c0,E,c1,G.to ⟨E,E,trivial⟩,H⟩
 rintro d1 a w I ⟨c2,G,H⟩
 unfold Sh.aHq at I
 refine go 8 fun a w G H=>?_
 obtain rfl:=oI I
 refine aT Tryz.results141 G E ?_
 exact⟨c2,E,H⟩
end Go.Proofs
end
