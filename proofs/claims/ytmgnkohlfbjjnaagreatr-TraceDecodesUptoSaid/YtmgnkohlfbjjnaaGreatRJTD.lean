/- Closed facts of a row: The call of TraceDecodes returns true, and the bytes read as before. Condition: what is read is of bulk at most 1048576. -/
import Derived.Test.YtmgnkohlfbjjnaaGreatRRows
import Derived.WalkKit
import Derived.ProofKit
namespace Go.Proofs.YtmgnkohlfbjjnaaGreatR.traceDecodes
set_option linter.unusedVariables false
set_option linter.unusedSimpArgs false
open Go.ChangeShapes Go.WideShapes Go.ChangeAt Go.RowKit
set_option maxRecDepth 100000
set_option maxHeartbeats 40000000 in
theorem jf : joinedFacts Tryz.prog 9 Tryz.f9 (Rows.OpenSpec.upto Rows.traceDecodesSpec).bare Rows.traceDecodesUptoRow = true := by
  simp only [joinedFacts, Bool.and_eq_true]
  and_intros
  all_goals as_aux_lemma => kernel_rfl
theorem named : Tryz.prog.funcNamed Rows.traceDecodesUptoRow.func = some 9 := by kernel_rfl
theorem laid : laidOutB Tryz.prog = true := by kernel_rfl
theorem readable : Tryz.prog.readableRec 23 = true := by kernel_rfl
theorem inTypes : 23 < Tryz.prog.types.size := of_decide_eq_true (by kernel_rfl)
theorem oneCell : Tryz.prog.cellsOf 5 = 1 := by kernel_rfl
end Go.Proofs.YtmgnkohlfbjjnaaGreatR.traceDecodes
