/- A run of the machine, told. -/
import Derived.Test.YthhhmmildgijhaaGreatDoorGE3
set_option linter.unusedVariables false
namespace Go.Proofs.YthhhmmildgijhaaGreatDoorAI
open Go

set_option maxRecDepth 1000000 in
theorem r1_k : endsSo e12_1.v e12_1.cnt' e12_1.outs (gcall Tryz.prog noKs K1 3000 e12_1.g e12_1.args (mkH e12_1.cnt e12_1.ins)) = true := by kernel_rfl

end Go.Proofs.YthhhmmildgijhaaGreatDoorAI
