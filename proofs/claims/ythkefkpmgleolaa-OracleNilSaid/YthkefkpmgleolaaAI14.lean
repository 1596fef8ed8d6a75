/- Words for walking through code with simp, and slices' contents. -/
import Derived.Test.YthkefkpmgleolaaAI13
set_option linter.unusedVariables false
set_option linter.unusedSimpArgs false
namespace Go.Proofs.YthkefkpmgleolaaAI
open Go Go.RowKit

theorem pl_int (k : IntKind) (n : Int) : plain (.int k n) = true := rfl
theorem pl_bool (b : Bool) : plain (.bool b) = true := rfl
theorem pl_ptr : plain (.pointer none) = true := rfl
theorem pl_slice : plain (.slice none 0 0) = true := rfl
theorem pl_str (s : ByteArray) : plain (.string s) = true := rfl
theorem pl_nilFunc : plain .nilFunc = true := rfl
theorem pl_nilIface : plain .nilIface = true := rfl

theorem Option.map_some' {α β : Type} (f : α → β) (a : α) : Option.map f (some a) = some (f a) := rfl
end Go.Proofs.YthkefkpmgleolaaAI
