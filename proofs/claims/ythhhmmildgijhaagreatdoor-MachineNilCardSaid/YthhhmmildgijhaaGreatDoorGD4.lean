/- The law MachineNil: true for every fuel. -/
import Derived.Test.YthhhmmildgijhaaGreatDoorGD3
set_option linter.unusedVariables false
namespace Go.Proofs.YthhhmmildgijhaaGreatDoorAI
open Go

set_option maxRecDepth 1000000 in
theorem nil_k (n : Int) : isV (.bool true) (fcall Tryz.prog noKs tab3 3000 4 [.int .i64 n] .empty) = true := by kernel_rfl

end Go.Proofs.YthhhmmildgijhaaGreatDoorAI
