/- A run of the machine, told. -/
import Derived.Test.YthhhmmildgijhaaGreatDoorGE3
set_option linter.unusedVariables false
namespace Go.Proofs.YthhhmmildgijhaaGreatDoorAI
open Go

set_option maxRecDepth 1000000 in
theorem r0_k : endsSo e12_0.v e12_0.cnt' e12_0.outs (gcall Tryz.prog noKs K1 3000 e12_0.g e12_0.args (mkH e12_0.cnt e12_0.ins)) = true := by kernel_rfl

end Go.Proofs.YthhhmmildgijhaaGreatDoorAI
