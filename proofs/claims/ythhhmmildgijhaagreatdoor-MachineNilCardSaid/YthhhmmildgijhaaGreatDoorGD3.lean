/- The closed run ahead of the laws of layer 17: true. -/
import Derived.Test.YthhhmmildgijhaaGreatDoorGD2
set_option linter.unusedVariables false
namespace Go.Proofs.YthhhmmildgijhaaGreatDoorAI
open Go

set_option maxRecDepth 1000000 in
theorem wakes17_k : isV (.bool true) (fcall Tryz.prog noKs tab2 3000 9 [] .empty) = true := by kernel_rfl

def tab3 : Tab := (9, [], .bool true) :: tab2
theorem tab3_ok (base : Nat) : TabOK Tryz.prog base tab3 := by
  obtain ⟨h1, e1⟩ := isV_some wakes17_k
  exact .cons mixed exts noKs (tab2_ok base) e1

end Go.Proofs.YthhhmmildgijhaaGreatDoorAI
