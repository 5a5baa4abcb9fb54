/- The closed facts of the row of TraceNames. No statement of the seat is proved here. -/
import Derived.Test.YtmgnkohlfbjjnaaGreatRRows
import Derived.WalkKit
import Derived.ProofKit
namespace Go.Proofs.YtmgnkohlfbjjnaaGreatR.traceNames
set_option linter.unusedVariables false
set_option linter.unusedSimpArgs false
open Go.ChangeShapes Go.WideShapes Go.ChangeAt Go.RowKit
set_option maxRecDepth 100000
set_option maxHeartbeats 40000000 in
theorem jf : joinedFacts Tryz.prog 3 Tryz.f3 Rows.traceNamesSpec Rows.traceNamesRow = true := by
  simp only [joinedFacts, Bool.and_eq_true]
  and_intros
  all_goals as_aux_lemma => kernel_rfl
theorem named : Tryz.prog.funcNamed Rows.traceNamesRow.func = some 3 := by kernel_rfl
end Go.Proofs.YtmgnkohlfbjjnaaGreatR.traceNames
