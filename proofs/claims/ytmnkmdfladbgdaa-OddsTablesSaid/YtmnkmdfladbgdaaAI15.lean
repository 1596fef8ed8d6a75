/- Rows of ints that come in: what they hold, and what they are to the interpreter. -/
import Derived.Test.YtmnkmdfladbgdaaAI14
import Derived.ChangeSlices
import Derived.OpenShut
import Derived.ChangeOld
import Derived.ProofKit
import Derived.SizedLaws
set_option linter.unusedVariables false
set_option linter.unusedSimpArgs false
namespace Go.Proofs.YtmnkmdfladbgdaaAI
open Go Go.RowKit Go.ChangeShapes Go.WideShapes Go.ChangeAt

def ints (l : List Int) : List Value := l.map (Value.int .i64)
/-- What a row of ints holds. -/
def IntsAt (W : World) (a : Option Addr) (len cap : Nat) (l : List Int) : Prop :=
  l.length = len ∧ (∀ n ∈ l,(Lit.int .i64 n).wf = true) ∧ ((a = none ∧ len = 0 ∧ cap = 0) ∨ ∃ x,a = some x ∧ len ≤ cap ∧ (0 < cap → x.spot = none) ∧ ∀ j v,(ints l)[j]? = some v → W.cell? (x.add j) = some v)

/-- How many elements a reading has. -/
def dlen {H : Type} : DataW H → Nat
  | .slice e _ => e.length
  | _ => 0

end Go.Proofs.YtmnkmdfladbgdaaAI
