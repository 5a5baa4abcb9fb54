/- TraceFaith: the call returns true, whatever the arguments and the world. No condition. -/
import Derived.Test.YtmgnkohlfbjjnaaGreatRJTFa
import Derived.Test.YtmgnkohlfbjjnaaGreatRFa15
namespace Go.Proofs.YtmgnkohlfbjjnaaGreatR.traceFaith
set_option linter.unusedSimpArgs false
open Go.ChangeShapes Go.WideShapes Go.ChangeAt Go.RowKit
set_option linter.unusedVariables false
theorem own : ownKnob Tryz.prog.godebug=none := by kernel_rfl
theorem ME : Go.Fw.Gn Tryz.prog where
 i3 := Tryz.underlying3
 b4 := Tryz.underlying4
 u5 := Tryz.underlying5
 e34 := Tryz.underlying34
 UC := Tryz.underlying23
 UF := Tryz.underlying28
 l33 := Tryz.underlying33
 l52 := Tryz.underlying52
 l56 := Tryz.underlying56
 l57 := Tryz.underlying57
 l58 := Tryz.underlying58
 a48 := Tryz.underlying48
 s46 := ⟨_, Tryz.underlying46, rfl⟩
 s50 := ⟨_, Tryz.underlying50, rfl⟩
 QN := ⟨_, Tryz.underlying128, rfl⟩
 QO := ⟨_, Tryz.underlying151, rfl⟩
 QP := ⟨_, Tryz.underlying156, rfl⟩
 s60 := ⟨_, Tryz.underlying60, rfl⟩
 QQ := ⟨_, Tryz.underlying30, rfl⟩
 s36 := ⟨_, Tryz.underlying36, rfl⟩
 cells := cells
theorem Kr{H : Type} : Go.Fw.x5 (H := H) Rows.uptoBulk Rows.uptoBulkAll where
 nil := by simp[Rows.uptoBulkAll]
 cons := fun d r => by simp[Rows.uptoBulkAll]
 slice := fun es sp => by simp only[Rows.uptoBulk];omega
 agg := fun ps => by simp only[Rows.uptoBulk];omega
 one := fun d => by
  cases d with
  | lit l => cases l<;>simp[Rows.uptoBulk]
  | nil => simp[Rows.uptoBulk]
  | ptr d => simp[Rows.uptoBulk]
  | slice elems spare => simp[Rows.uptoBulk]
  | agg parts => simp[Rows.uptoBulk]
  | iface t d => simp[Rows.uptoBulk]
  | map entries => simp[Rows.uptoBulk]
  | held h => simp[Rows.uptoBulk]
theorem prT : Go.Fw.RD Tryz.prog where
 UN := ⟨_, Tryz.underlying27, rfl⟩
 UD := Tryz.underlying24
 UE := Tryz.underlying25
 MG := ⟨_, Tryz.underlying205, rfl⟩
 MF := ⟨_, Tryz.underlying101, rfl⟩
 cells := E_
theorem walk(W : World)(y0 : Go.Fw.bh)(a0 : Go.Fx.fh)(e0 : Go.Fx.oa (Go.Fw.gw [] W) y0 a0)(y1 : Go.Fw.br)(a1 : Go.Fx.fj)(e1 : Go.Fx.qe (Go.Fw.gw [] W) y1 a1)(a2 a3 : Int) :
  Calls Tryz.prog 21 #[.agg (Go.Fw.bh.enc y0).toArray, .agg (Go.Fw.br.enc y1).toArray, .int .i64 a2, .int .i64 a3] W fun e w' => e = .returned (.bool true)∧Go.Fw.gw [] W w' := by
 obtain⟨s0, s1, s2, rfl, r0, r1, r2⟩ := e0
 obtain⟨u0, u1, h0, rfl, t0, t1, p1⟩ := e1
 exact(VM (x0 := a0) (x1 := a1) (x2 := a2) (x3 := a3) (Bf := Go.Fw.gw [] W) (Lr := [.same W 0 [], .io W]) (Go.Sp.BX a0 a1 a2 a3) (Go.Fw.au.start W) (fun _ h => h.keeps (i := 0) (j := 1) rfl rfl)
  r0 r1 r2 t0 t1 p1).mono fun e w' h => by
   cases e<;>simp only[Go.Fw.gf]at h
   exact⟨by rw[h.1], h.2.keeps (i := 0) (j := 1) rfl rfl⟩
set_option maxRecDepth 100000 in
theorem lifted(os : Os)(started : os.Started)(H : Type)(enc : TypeId×Value→H) :
  ReturnsInHanded {} Tryz.checked os 21 .any (Rows.traceFaithSpec.pre6 enc Tryz.prog Tryz.f21 Rows.traceFaithRow.domain false) (Rows.traceFaithSpec.post enc Tryz.prog Tryz.f21 false true false false) := by
 refine returnsInHanded_of_change (C := Tryz.checked) own started ads Tryz.func21
  (ChangeSpec.witness6 (enc := enc) (C := Tryz.checked) false ⟨#[], #[.agg #[.int .i64 0, .int .i64 0, .slice none 0 0, .slice none 0 0, .slice none 0 0], .agg #[.slice none 0 0, .slice none 0 0], .int .i64 0, .int .i64 0], []⟩ 8 ads ads ads ads) ?_
 intro W base args ds gs before hval0 hW hcnd _
 have hval : ∀ (j : Nat) t v, Tryz.f21.params[j]? = some t→args[j]? = some v→Value.okWide Tryz.prog W .any base t v := hval0
 have hW' := hW
 obtain⟨p, q, hA0, hV, rfl, hfz, hnd⟩ := hW
 have hA : DataW.TrodAll enc Tryz.prog W 0 (fun _ => true) true Tryz.f21.params.toList args.toList ds p := hA0
 obtain⟨rfl, rfl⟩ := trodVars_none hV
 simp only[ada]at hW'
 have hlt : ∀ x∈p, x.block<W.heap.size := fun x hx => hW'.lt x hx
 have hA1 := hA
 rw[Tryz.params21]at hA hval
 obtain⟨v0, vs, d0, ds, p0, q0, eA, rfl, rfl, h0, hA⟩ := trodAll_cons hA
 obtain⟨v1, vs, d1, ds, p1, q1, rfl, rfl, rfl, h1, hA⟩ := trodAll_cons hA
 obtain⟨v2, vs, d2, ds, p2, q2, rfl, rfl, rfl, h2, hA⟩ := trodAll_cons hA
 obtain⟨v3, vs, d3, ds, p3, q3, rfl, rfl, rfl, h3, hA⟩ := trodAll_cons hA
 obtain⟨rfl, rfl, rfl⟩ := trodAll_nil hA
 obtain rfl : args = #[v0, v1, v2, v3] := by cases args;simp only at eA;rw[eA]
 obtain⟨TY, h0'⟩ := h0
 obtain⟨y0, a0, c0, e0, -, -⟩ := Go.Fw.zw Kr ME prT _ _ _ h0'
 obtain⟨TI, rfl⟩ : ∃ cs, v0 = .agg cs := by
  have := hval 0 27 v0 rfl rfl
  simp only[Value.okWide, Tryz.underlying27]at this
  obtain⟨cs, h, _⟩ := this
  exact⟨cs, h⟩
 obtain rfl : TI=(Go.Fw.bh.enc y0).toArray := by
  have : TI.toList=Go.Fw.bh.enc y0 := c0
  rw[←this]
 obtain⟨T0, ET⟩ := h1
 obtain⟨y1, a1, c1, e1, -, -⟩ := Go.Fw.B6 Kr ME _ _ _ ET
 obtain⟨TJ, rfl⟩ : ∃ cs, v1 = .agg cs := by
  have := hval 1 30 v1 rfl rfl
  simp only[Value.okWide, Tryz.underlying30]at this
  obtain⟨cs, h, _⟩ := this
  exact⟨cs, h⟩
 obtain rfl : TJ=(Go.Fw.br.enc y1).toArray := by
  have : TJ.toList=Go.Fw.br.enc y1 := c1
  rw[←this]
 obtain⟨a2, rfl, rfl, rfl, _⟩ := open_int Tryz.underlying3 (hval 2 3 v2 rfl rfl) h2
 obtain⟨a3, rfl, rfl, rfl, _⟩ := open_int Tryz.underlying3 (hval 3 3 v3 rfl rfl) h3
 refine(walk W y0 a0 e0 y1 a1 e1 a2 a3).mono fun e W' ⟨he, hg⟩ => ?_
 subst he
 exact⟨_, rfl, _, _, _, [], _, [], hW', (trodAll_cons_mk (shut_bool Tryz.underlying4 _) trodAll_mk0), Go.Fw.wV laid hg Cj hA1 hlt, rfl, Go.Fw.E6 hg _, fun h => by cases h⟩
set_option maxRecDepth 100000 in
theorem inst : Tryz.f21.isInstance Tryz.prog Rows.traceFaithRow.origin Rows.traceFaithRow.targs := abe ads
set_option maxRecDepth 100000 in
theorem wrap : Tryz.f21.isWrapper Tryz.prog Rows.traceFaithRow.wrapper Rows.traceFaithRow.mainSum := by
 unfold Func.isWrapper;first|(rw[aaJ (by decide +kernel)];kernel_rfl)|(rw[aaK (by decide +kernel)];exact⟨rfl, rfl⟩)
theorem over : Rows.traceFaithRow.holds Tryz.pinned (OpenSpec.ofChange Rows.traceFaithSpec) :=
 OpenClaim.holds_of_wide 21 Tryz.f21 rfl rfl rfl rfl rfl rfl rfl ⟨rfl, rfl, rfl, rfl, rfl⟩ rfl rfl rfl rfl rfl named Tryz.func21 jf
  inst wrap
  (fun os started H enc _ => lifted os started H enc)
theorem proved : Rows.TraceFaithSaid := over
#print axioms proved
end Go.Proofs.YtmgnkohlfbjjnaaGreatR.traceFaith
