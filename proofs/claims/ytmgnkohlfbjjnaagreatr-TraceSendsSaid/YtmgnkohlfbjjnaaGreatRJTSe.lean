/- Closed facts of the row of TraceSends. -/
import Derived.Test.YtmgnkohlfbjjnaaGreatRRows
import Derived.WalkKit
import Derived.ProofKit
namespace Go.Proofs.YtmgnkohlfbjjnaaGreatR.traceSends
set_option linter.unusedVariables false
set_option linter.unusedSimpArgs false
open Go.ChangeShapes Go.WideShapes Go.ChangeAt Go.RowKit
set_option maxRecDepth 100000
set_option maxHeartbeats 40000000 in
theorem jf : joinedFacts Tryz.prog 15 Tryz.f15 Rows.traceSendsSpec Rows.traceSendsRow=true := by
 simp only[joinedFacts, Bool.and_eq_true]
 and_intros
 all_goals as_aux_lemma => kernel_rfl
theorem named : Tryz.prog.funcNamed Rows.traceSendsRow.func=some 15 := by kernel_rfl
theorem laid : laidOutB Tryz.prog=true := by kernel_rfl
theorem Af : ∀ t∈Tryz.f15.params.toList, Tryz.prog.readableRec t=true∧t<Tryz.prog.types.size := by
 have h : Tryz.f15.params.toList.all (fun t => Tryz.prog.readableRec t&&decide (t<Tryz.prog.types.size))=true := by kernel_rfl
 intro t ht
 have := List.all_eq_true.1 h t ht
 simp only[Bool.and_eq_true, decide_eq_true_eq]at this
 exact this
theorem oneCell : Tryz.prog.cellsOf 5=1 := by kernel_rfl
theorem cells : (Tryz.prog.cellsOf 3, Tryz.prog.cellsOf 4, Tryz.prog.cellsOf 5, Tryz.prog.cellsOf 23, Tryz.prog.cellsOf 28, Tryz.prog.cellsOf 30, Tryz.prog.cellsOf 33, Tryz.prog.cellsOf 34, Tryz.prog.cellsOf 36, Tryz.prog.cellsOf 46, Tryz.prog.cellsOf 48, Tryz.prog.cellsOf 50, Tryz.prog.cellsOf 52, Tryz.prog.cellsOf 56, Tryz.prog.cellsOf 57, Tryz.prog.cellsOf 58, Tryz.prog.cellsOf 60, Tryz.prog.cellsOf 128, Tryz.prog.cellsOf 151, Tryz.prog.cellsOf 156)=(1, 1, 1, 1, 1, 2, 1, 1, 4, 4, 8, 13, 1, 1, 1, 1, 7, 9, 27, 4) := by kernel_rfl
end Go.Proofs.YtmgnkohlfbjjnaaGreatR.traceSends
