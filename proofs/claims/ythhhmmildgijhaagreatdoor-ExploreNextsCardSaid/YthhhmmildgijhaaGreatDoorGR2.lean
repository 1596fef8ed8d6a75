/- A run of the machine, told. -/
import Derived.Test.YthhhmmildgijhaaGreatDoorGE3
set_option linter.unusedVariables false
namespace Go.Proofs.YthhhmmildgijhaaGreatDoorAI
open Go

set_option maxRecDepth 1000000 in
theorem r2_k : endsSo e12_2.v e12_2.cnt' e12_2.outs (gcall Tryz.prog noKs K1 3000 e12_2.g e12_2.args (mkH e12_2.cnt e12_2.ins)) = true := by kernel_rfl

end Go.Proofs.YthhhmmildgijhaaGreatDoorAI
