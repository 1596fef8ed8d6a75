/- Rows of ints that come in: what they hold, and what they are to the interpreter. -/
import Derived.Test.YtmnkmdfladbgdaaAI14
import Derived.ChangeSlices
import Derived.OpenShut
import Derived.ChangeOld
import Derived.ProofKit
import Derived.SizedLaws
set_option linter.unusedVariables false
set_option linter.unusedSimpArgs false
namespace Go.Proofs.YtmnkmdfladbgdaaAI
open Go Go.RowKit Go.ChangeShapes Go.WideShapes Go.ChangeAt

def ints (l : List Int) : List Value := l.map (Value.int .i64)
/-- How many elements a reading has. -/
def dlen {H : Type} : DataW H → Nat
  | .slice e _ => e.length
  | _ => 0

end Go.Proofs.YtmnkmdfladbgdaaAI
