/- The law TraceNames is closed code: it is reckoned. No statement of the seat is proved here. -/
import Derived.Test.YtmgnkohlfbjjnaaGreatREvX
import Derived.Test.YtmgnkohlfbjjnaaGreatRProg
import Derived.KernelRfl
namespace Go.Ev
set_option linter.unusedVariables false
set_option linter.unusedSimpArgs false
open Go.Fw Go.Proofs
set_option maxRecDepth 1000000
theorem names_ev : okT (acall (tabOf Tryz.prog) 1000 40 [] (.f 3 [] []) [] { h := .e, nx := 0 }) = true := by kernel_rfl
end Go.Ev
