/- A text's parse, told. -/
import Derived.Test.YthhhmmildgijhaaGreatDoorGE3
set_option linter.unusedVariables false
namespace Go.Proofs.YthhhmmildgijhaaGreatDoorAI
open Go

set_option maxRecDepth 1000000 in
theorem f100_k : endsSo f100.v f100.cnt' f100.outs (gcall Tryz.prog noKs K1 3000 f100.g f100.args .empty) = true := by kernel_rfl

end Go.Proofs.YthhhmmildgijhaaGreatDoorAI
