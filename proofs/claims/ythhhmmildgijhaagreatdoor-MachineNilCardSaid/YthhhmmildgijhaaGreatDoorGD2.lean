/- Closed calls that the kernel reckons: a search, a primitive's arity. -/
import Derived.Test.YthhhmmildgijhaaGreatDoorGD1
set_option linter.unusedVariables false
namespace Go.Proofs.YthhhmmildgijhaaGreatDoorAI
open Go

def noKs : Scr := fun _ _ => []
def txtPrims : List UInt8 := [32, 42, 32, 43, 32, 45, 32, 47, 32, 97, 112, 112, 108, 121, 32, 99, 97, 108, 108, 45, 119, 105, 116, 104, 45, 118, 97, 108, 117, 101, 115, 32, 99, 97, 108, 108, 47, 99, 99, 32, 99, 97, 114, 32, 99, 100, 114, 32, 99, 111, 110, 100, 105, 116, 105, 111, 110, 63, 32, 99, 111, 110, 115, 32, 100, 121, 110, 97, 109, 105, 99, 45, 119, 105, 110, 100, 32, 101, 113, 118, 63, 32, 108, 105, 115, 116, 32, 110, 117, 108, 108, 63, 32, 112, 97, 105, 114, 63, 32, 112, 114, 111, 99, 101, 100, 117, 114, 101, 63, 32, 114, 97, 105, 115, 101, 32, 114, 97, 105, 115, 101, 45, 99, 111, 110, 116, 105, 110, 117, 97, 98, 108, 101, 32, 115, 101, 116, 45, 99, 97, 114, 33, 32, 115, 101, 116, 45, 99, 100, 114, 33, 32, 118, 97, 108, 117, 101, 115, 32, 119, 105, 116, 104, 45, 101, 120, 99, 101, 112, 116, 105, 111, 110, 45, 104, 97, 110, 100, 108, 101, 114, 32, 119, 114, 105, 116, 101, 32]
def txtSearched : List UInt8 := [32, 119, 114, 105, 116, 101, 32]
def txtWrite : List UInt8 := [119, 114, 105, 116, 101]
def tab1 : Tab := [(306, [txtPrims, txtSearched], .int .i64 181)]
def tab2 : Tab := (135, [txtWrite], .tuple #[.int .i64 1, .int .i64 1, .bool true]) :: tab1

set_option maxRecDepth 1000000 in
theorem search_k : isV (.int .i64 181) (fcall Tryz.prog noKs [] 3000 306 ([txtPrims, txtSearched].map fun a => .string ⟨a.toArray⟩) .empty) = true := by kernel_rfl
set_option maxRecDepth 1000000 in
theorem arity_k : isV (.tuple #[.int .i64 1, .int .i64 1, .bool true]) (fcall Tryz.prog noKs tab1 3000 135 ([txtWrite].map fun a => .string ⟨a.toArray⟩) .empty) = true := by kernel_rfl

theorem tab2_ok (base : Nat) : TabOK Tryz.prog base tab2 := by
  obtain ⟨h1, e1⟩ := isV_some search_k
  obtain ⟨h2, e2⟩ := isV_some arity_k
  exact .cons mixed exts noKs (.cons mixed exts noKs .nil e1) e2

end Go.Proofs.YthhhmmildgijhaaGreatDoorAI
