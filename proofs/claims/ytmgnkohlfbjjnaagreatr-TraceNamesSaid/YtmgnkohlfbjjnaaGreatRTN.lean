/- TraceNames: the call returns true, whatever the world. No condition. (Its frame began as what proof-skeleton.mjs printed.) -/
import Derived.Test.YtmgnkohlfbjjnaaGreatRRows
import Derived.Test.YtmgnkohlfbjjnaaGreatREvK
import Derived.Test.YtmgnkohlfbjjnaaGreatRJF
import Derived.WalkKit
import Derived.ProofKit
import Derived.OpenShut
namespace Go.Proofs.YtmgnkohlfbjjnaaGreatR.traceNames
set_option linter.unusedSimpArgs false
open Go.ChangeShapes Go.WideShapes Go.ChangeAt Go.RowKit
set_option linter.unusedVariables false

theorem own : ownKnob Tryz.prog.godebug = none := by kernel_rfl
theorem mixed : Tryz.prog.follows .mixedOrders = true := by kernel_rfl

theorem walk (w : World) : Calls Tryz.prog 3 #[] w fun e w' => e = .returned (.bool true) ∧ Go.Fw.Keeps [] w w' :=
  (Go.Ev.closed_true mixed Go.Ev.names_ev w).mono fun e w' h => by
    cases e <;> simp only [Go.Fw.Ret] at h
    exact ⟨by rw [h.1], h.2⟩

/-- What stays. -/
theorem kept {W w' : World} (h : Go.Fw.Keeps [] W w') (may : MemPlace → Prop) : W.keptBut w' may := by
  refine ⟨h.io.os, h.io.output, fun i hi => ?_⟩
  rw [h.block i hi (by simp)]
  cases W.heap[i]? with
  | none => rfl
  | some o => cases o <;> first | exact ⟨rfl, rfl, rfl, fun _ _ => rfl⟩ | exact .inr ⟨rfl, rfl⟩ | rfl

set_option maxRecDepth 100000 in
theorem lifted (os : Os) (started : os.Started) (H : Type) (enc : TypeId × Value → H) :
    ReturnsInHanded {} Tryz.checked os 3 .any (Rows.traceNamesSpec.pre6 enc Tryz.prog Tryz.f3 Rows.traceNamesRow.domain false) (Rows.traceNamesSpec.post enc Tryz.prog Tryz.f3 false true false false) := by
  refine returnsInHanded_of_change (C := Tryz.checked) own started (by kernel_rfl) Tryz.func3
    (ChangeSpec.witness6 (enc := enc) (C := Tryz.checked) false ⟨#[], #[], []⟩ 8 (by kernel_rfl) (by kernel_rfl) (by kernel_rfl) (by kernel_rfl)) ?_
  intro W base args ds gs before hval0 hW hcnd _
  have hval : ∀ (j : Nat) t v, Tryz.f3.params[j]? = some t → args[j]? = some v → Value.okWide Tryz.prog W .any base t v := hval0
  have hW' := hW
  obtain ⟨p, q, hA0, hV, rfl, hfz, hnd⟩ := hW
  have hA : DataW.TrodAll enc Tryz.prog W 0 (fun _ => true) true Tryz.f3.params.toList args.toList ds p := hA0
  rw [Tryz.params3] at hA hval
  obtain ⟨rfl, rfl, rfl⟩ := trodAll_none hA
  obtain ⟨rfl, rfl⟩ := trodVars_none hV
  clear hA0 hval0
  simp only [List.append_nil] at hW'
  refine (walk W).mono fun e W' ⟨he, hg⟩ => ?_
  subst he
  exact ⟨_, rfl, _, _, _, [], [], [], hW', (trodAll_cons_mk (shut_bool Tryz.underlying4 _) trodAll_mk0), rfl, rfl, kept hg _, fun h => by cases h⟩

set_option maxRecDepth 100000 in
theorem inst : Tryz.f3.isInstance Tryz.prog Rows.traceNamesRow.origin Rows.traceNamesRow.targs := of_decide_eq_true (by kernel_rfl)
set_option maxRecDepth 100000 in
theorem wrap : Tryz.f3.isWrapper Tryz.prog Rows.traceNamesRow.wrapper Rows.traceNamesRow.mainSum := by
  unfold Func.isWrapper; first | (rw [if_pos (by decide +kernel)]; kernel_rfl) | (rw [if_neg (by decide +kernel)]; exact ⟨rfl, rfl⟩)

theorem over : Rows.traceNamesRow.holds Tryz.pinned (OpenSpec.ofChange Rows.traceNamesSpec) :=
  OpenClaim.holds_of_wide 3 Tryz.f3 rfl rfl rfl rfl rfl rfl rfl ⟨rfl, rfl, rfl, rfl, rfl⟩ rfl rfl rfl rfl rfl named Tryz.func3 jf
    inst wrap
    (fun os started H enc _ => lifted os started H enc)

/-- The statement. -/
theorem proved : Rows.TraceNamesSaid := over
#print axioms proved
end Go.Proofs.YtmgnkohlfbjjnaaGreatR.traceNames
