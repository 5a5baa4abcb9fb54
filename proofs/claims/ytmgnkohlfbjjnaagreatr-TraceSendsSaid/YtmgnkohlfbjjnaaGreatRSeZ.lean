/- TraceSends: the call returns true, whatever the numbers and the world. No condition. -/
import Derived.Test.YtmgnkohlfbjjnaaGreatRJTSe
import Derived.Test.YtmgnkohlfbjjnaaGreatRSe13
namespace Go.Proofs.YtmgnkohlfbjjnaaGreatR.traceSends
set_option linter.unusedSimpArgs false
open Go.ChangeShapes Go.WideShapes Go.ChangeAt Go.RowKit
set_option linter.unusedVariables false
theorem own : ownKnob Tryz.prog.godebug=none := by kernel_rfl
theorem N6 : Go.Fw.GQ Tryz.prog where
 i3 := Tryz.underlying3
 b4 := Tryz.underlying4
 u5 := Tryz.underlying5
 Yu := Tryz.underlying34
 KC := Tryz.underlying23
 KD := Tryz.underlying28
 KE := Tryz.underlying33
 RE := Tryz.underlying52
 Zh := Tryz.underlying56
 Zi := Tryz.underlying57
 Zj := Tryz.underlying58
 a48 := Tryz.underlying48
 Zw := ⟨_, Tryz.underlying46, rfl⟩
 Zy := ⟨_, Tryz.underlying50, rfl⟩
 N7 := ⟨_, Tryz.underlying128, rfl⟩
 N8 := ⟨_, Tryz.underlying151, rfl⟩
 N9 := ⟨_, Tryz.underlying156, rfl⟩
 Zz := ⟨_, Tryz.underlying60, rfl⟩
 RH := ⟨_, Tryz.underlying30, rfl⟩
 Zv := ⟨_, Tryz.underlying36, rfl⟩
 cells := cells
theorem Lh{H : Type} : Go.Fw.yo (H := H) Rows.uptoBulk Rows.uptoBulkAll where
 nil := by simp[Rows.uptoBulkAll]
 cons := fun d r => by simp[Rows.uptoBulkAll]
 slice := fun es sp => by simp only[Rows.uptoBulk];omega
 agg := fun ps => by simp only[Rows.uptoBulk];omega
 one := fun d => by
  cases d with
  | lit l => cases l<;>simp[Rows.uptoBulk]
  | nil => simp[Rows.uptoBulk]
  | ptr d => simp[Rows.uptoBulk]
  | slice elems spare => simp[Rows.uptoBulk]
  | agg parts => simp[Rows.uptoBulk]
  | iface t d => simp[Rows.uptoBulk]
  | map entries => simp[Rows.uptoBulk]
  | held h => simp[Rows.uptoBulk]
theorem walk(W : World)(s0 : Go.Fw.SV)(a0 : List Int)(e0 : Go.Fx.dj (Go.Fw.gw [] W) s0 a0) :
  Calls Tryz.prog 15 #[s0.v] W fun e w' => e = .returned (.bool true)∧Go.Fw.gw [] W w' := by
 exact(SS (x0 := a0) (Bf := Go.Fw.gw [] W) (Lr := [.same W 0 [], .io W]) (Go.Sp.BI a0) (Go.Fw.au.start W) (fun _ h => h.keeps (i := 0) (j := 1) rfl rfl)
  e0).mono fun e w' h => by
   cases e<;>simp only[Go.Fw.fZ]at h
   exact⟨by rw[h.1], h.2.keeps (i := 0) (j := 1) rfl rfl⟩
set_option maxRecDepth 100000 in
theorem lifted(os : Os)(started : os.Started)(H : Type)(enc : TypeId×Value→H) :
  ReturnsInHanded {} Tryz.checked os 15 .any (Rows.traceSendsSpec.pre6 enc Tryz.prog Tryz.f15 Rows.traceSendsRow.domain false) (Rows.traceSendsSpec.post enc Tryz.prog Tryz.f15 false true false false) := by
 refine returnsInHanded_of_change (C := Tryz.checked) own started ada Tryz.func15
  (ChangeSpec.witness6 (enc := enc) (C := Tryz.checked) false ⟨#[], #[.slice none 0 0], []⟩ 8 ada ada ada ada) ?_
 intro W base args ds gs before hval0 hW hcnd _
 have hval : ∀ (j : Nat) t v, Tryz.f15.params[j]? = some t→args[j]? = some v→Value.okWide Tryz.prog W .any base t v := hval0
 have hW' := hW
 obtain⟨p, q, hA0, hV, rfl, hfz, hnd⟩ := hW
 have hA : DataW.TrodAll enc Tryz.prog W 0 (fun _ => true) true Tryz.f15.params.toList args.toList ds p := hA0
 obtain⟨rfl, rfl⟩ := trodVars_none hV
 simp only[acT]at hW'
 have hlt : ∀ x∈p, x.block<W.heap.size := fun x hx => hW'.lt x hx
 have hA1 := hA
 rw[Tryz.params15]at hA hval
 obtain⟨v0, vs, d0, ds, p0, q0, eA, rfl, rfl, h0, hA⟩ := trodAll_cons hA
 obtain⟨rfl, rfl, rfl⟩ := trodAll_nil hA
 obtain rfl : args = #[v0] := by cases args;simp only at eA;rw[eA]
 obtain⟨QC, h0'⟩ := h0
 obtain⟨s0, a0, c0, e0, -, -⟩ := Go.Fw.Bh Lh N6 _ _ _ h0'
 obtain rfl : v0=s0.v := by
  have hok := hval 0 52 v0 rfl rfl
  have c1 : v0.cells.toList = [s0.v] := c0
  simp only[Value.okWide, Tryz.underlying52, Cell.okWide]at hok
  cases v0<;>simp only[Cell.ok, Tryz.underlying52]at hok<;>try contradiction
  rw[Go.Fw.xr]at c1
  simpa using c1
 refine(walk W s0 a0 e0).mono fun e W' ⟨he, hg⟩ => ?_
 subst he
 exact⟨_, rfl, _, _, _, [], _, [], hW', (trodAll_cons_mk (shut_bool Tryz.underlying4 _) trodAll_mk0), Go.Fw.vf laid hg Af hA1 hlt, rfl, Go.Fw.CQ hg _, fun h => by cases h⟩
set_option maxRecDepth 100000 in
theorem inst : Tryz.f15.isInstance Tryz.prog Rows.traceSendsRow.origin Rows.traceSendsRow.targs := aaX ada
set_option maxRecDepth 100000 in
theorem wrap : Tryz.f15.isWrapper Tryz.prog Rows.traceSendsRow.wrapper Rows.traceSendsRow.mainSum := by
 unfold Func.isWrapper;first|(rw[aay (by decide +kernel)];kernel_rfl)|(rw[aaz (by decide +kernel)];exact⟨rfl, rfl⟩)
theorem over : Rows.traceSendsRow.holds Tryz.pinned (OpenSpec.ofChange Rows.traceSendsSpec) :=
 OpenClaim.holds_of_wide 15 Tryz.f15 rfl rfl rfl rfl rfl rfl rfl ⟨rfl, rfl, rfl, rfl, rfl⟩ rfl rfl rfl rfl rfl named Tryz.func15 jf
  inst wrap
  (fun os started H enc _ => lifted os started H enc)
theorem proved : Rows.TraceSendsSaid := over
#print axioms proved
end Go.Proofs.YtmgnkohlfbjjnaaGreatR.traceSends
