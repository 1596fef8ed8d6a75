/- A text's load, told. -/
import Derived.Test.YthhhmmildgijhaaGreatDoorGE4
import Derived.Test.YthhhmmildgijhaaGreatDoorGE8
set_option linter.unusedVariables false
namespace Go.Proofs.YthhhmmildgijhaaGreatDoorAI
open Go

noncomputable def K3 : Look := orL K1 (orL (flook [f100]) (hlook [e127_3, e127_4, e127_7, e127_9, e127_12, e127_14, e127_15]))
theorem K3_ok (base : Nat) : LookOK Tryz.prog base K3 :=
  .or (K1_ok base) (.or (.fres (.cons (.run mixed exts noKs (K1_ok base) f100_k) .nil))
    (.ents (.cons (.run mixed exts noKs (K2_ok base) e3_k) (.cons (.run mixed exts noKs (K1_ok base) e4_k) (.cons (.run mixed exts noKs (K1_ok base) e7_k) (.cons (.run mixed exts noKs (K1_ok base) e9_k)
      (.cons (.run mixed exts noKs (K1_ok base) e12_k) (.cons (.run mixed exts noKs (K1_ok base) e14_k) (.cons (.run mixed exts noKs (K1_ok base) e15_k) .nil)))))))))

set_option maxRecDepth 1000000 in
theorem f66_k : endsSo f66.v f66.cnt' f66.outs (gcall Tryz.prog noKs K3 3000 f66.g f66.args .empty) = true := by kernel_rfl

end Go.Proofs.YthhhmmildgijhaaGreatDoorAI
