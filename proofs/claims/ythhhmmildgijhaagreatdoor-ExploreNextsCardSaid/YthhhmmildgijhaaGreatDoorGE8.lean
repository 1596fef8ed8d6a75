/- The free names of the greater parts, more. -/
import Derived.Test.YthhhmmildgijhaaGreatDoorGE7
set_option linter.unusedVariables false
namespace Go.Proofs.YthhhmmildgijhaaGreatDoorAI
open Go

set_option maxRecDepth 1000000 in
theorem e12_k : endsSo e127_12.v e127_12.cnt' e127_12.outs (gcall Tryz.prog noKs K1 3000 e127_12.g e127_12.args (mkH e127_12.cnt e127_12.ins)) = true := by kernel_rfl
set_option maxRecDepth 1000000 in
theorem e14_k : endsSo e127_14.v e127_14.cnt' e127_14.outs (gcall Tryz.prog noKs K1 3000 e127_14.g e127_14.args (mkH e127_14.cnt e127_14.ins)) = true := by kernel_rfl
set_option maxRecDepth 1000000 in
theorem e15_k : endsSo e127_15.v e127_15.cnt' e127_15.outs (gcall Tryz.prog noKs K1 3000 e127_15.g e127_15.args (mkH e127_15.cnt e127_15.ins)) = true := by kernel_rfl

end Go.Proofs.YthhhmmildgijhaaGreatDoorAI
