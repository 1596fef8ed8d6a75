/-
  No cell of these rows narrows 'for every input' (looked for: loops, veiled, ifaces, maps, wideKeys, modest, calm, conditions, laid).
  DERIVED. THE GIVEN ROWS OF THIS SEAT. 8 by the template 'for every input the law returns true; each argument reads behind the call as it read before'; 0 by the template 'total and deterministic' (their statements: YthkefkpmgleolabTotals.lean).
  GIVEN WITH THE SEED: the statements are not yours to turn. If you find one false, say at which input.
  Laid BY PROGRAM, IN A SANDBOX (cutbox-rows.mjs): the forced cells as the released guide's own fill.sh prints them over the translation f931a5b6f39b2ba2… (all of the seat's roots in one cut). By AI agents, Wed Nov 11 2026. No macro, syntax, notation, axiom, sorry.
-/
import Derived.Test.YthkefkpmgleolabChecked
import GoSem.Claim
import GoSem.ClaimJoined
import GoSem.ClaimMapViews
import Derived.JoinedTies
import Derived.KernelRfl
namespace Go.Proofs.Ythkefkpmgleolab
/- THE CELL 'sum', in the pinned program and in every row, IS THE sha256 OF THE DUMP (.gsa) THAT YthkefkpmgleolabProg.lean LOADS. Nothing in Lean hashes anything: it is a label: what it is worth is what the hold of that sum in a sandbox is worth. -/
noncomputable def Try.pinned : Pinned := { name := "ythkefkpmgleolab", sum := "f931a5b6f39b2ba262bfd0921eb387f18d63d953c0a1bec1f7e76873aa672595", checked := Try.checked }
namespace Rows
def none {H : Type} : Left H := { results := [], args := [] }

/-- 'sibyllaw10.BiasRanks': WHATEVER THE INPUT: true; the input reads as it did. -/
def biasRanksSpec : ChangeSpec := { name := "biasRanks", fn := fun _ => fun
  | [d] => { results := [.lit (.bool true)], args := [d] }
  | _ => none }
def biasRanksRow : OpenClaim := { program := "ythkefkpmgleolab", sum := "f931a5b6f39b2ba262bfd0921eb387f18d63d953c0a1bec1f7e76873aa672595", func := "sibyl/sibyllaw10.BiasRanks", spec := "biasRanks", inPlace := ["math.Float64frombits", "math.Float64bits"], unfollowed := true, recurses := true, apart := false }
def BiasRanksSaid : Prop := biasRanksRow.holds Try.pinned (OpenSpec.ofChange biasRanksSpec)

/-- ITS FALSE NEIGHBOUR: 'it returns false'. Refute it at one input. -/
def biasRanksWrong : ChangeSpec := { name := "biasRanks", fn := fun _ => fun
  | [d] => { results := [.lit (.bool false)], args := [d] }
  | _ => none }
def BiasRanksWrongFalsely : Prop := biasRanksRow.holds Try.pinned (OpenSpec.ofChange biasRanksWrong)

/-- 'sibyllaw10.BiasTurns': WHATEVER THE INPUT: true; the input reads as it did. -/
def biasTurnsSpec : ChangeSpec := { name := "biasTurns", fn := fun _ => fun
  | [d1, d2, d3] => { results := [.lit (.bool true)], args := [d1, d2, d3] }
  | _ => none }
def biasTurnsRow : OpenClaim := { program := "ythkefkpmgleolab", sum := "f931a5b6f39b2ba262bfd0921eb387f18d63d953c0a1bec1f7e76873aa672595", func := "sibyl/sibyllaw10.BiasTurns", spec := "biasTurns", inPlace := ["math.Float64frombits", "math.Float64bits"], unfollowed := true, recurses := true, apart := false }
def BiasTurnsSaid : Prop := biasTurnsRow.holds Try.pinned (OpenSpec.ofChange biasTurnsSpec)

/-- ITS FALSE NEIGHBOUR: 'it returns false'. Refute it at one input. -/
def biasTurnsWrong : ChangeSpec := { name := "biasTurns", fn := fun _ => fun
  | [d1, d2, d3] => { results := [.lit (.bool false)], args := [d1, d2, d3] }
  | _ => none }
def BiasTurnsWrongFalsely : Prop := biasTurnsRow.holds Try.pinned (OpenSpec.ofChange biasTurnsWrong)

/-- 'sibyllaw10.BiasPicks': WHATEVER THE INPUT: true; the input reads as it did. -/
def biasPicksSpec : ChangeSpec := { name := "biasPicks", fn := fun _ => fun
  | [d1, d2] => { results := [.lit (.bool true)], args := [d1, d2] }
  | _ => none }
def biasPicksRow : OpenClaim := { program := "ythkefkpmgleolab", sum := "f931a5b6f39b2ba262bfd0921eb387f18d63d953c0a1bec1f7e76873aa672595", func := "sibyl/sibyllaw10.BiasPicks", spec := "biasPicks", inPlace := ["math.Float64frombits", "math.Float64bits"], unfollowed := true, recurses := true, apart := false }
def BiasPicksSaid : Prop := biasPicksRow.holds Try.pinned (OpenSpec.ofChange biasPicksSpec)

/-- ITS FALSE NEIGHBOUR: 'it returns false'. Refute it at one input. -/
def biasPicksWrong : ChangeSpec := { name := "biasPicks", fn := fun _ => fun
  | [d1, d2] => { results := [.lit (.bool false)], args := [d1, d2] }
  | _ => none }
def BiasPicksWrongFalsely : Prop := biasPicksRow.holds Try.pinned (OpenSpec.ofChange biasPicksWrong)

/-- 'sibyllaw10.BiasTotal': WHATEVER THE INPUT: true; the input reads as it did. -/
def biasTotalSpec : ChangeSpec := { name := "biasTotal", fn := fun _ => fun
  | [d1, d2, d3] => { results := [.lit (.bool true)], args := [d1, d2, d3] }
  | _ => none }
def biasTotalRow : OpenClaim := { program := "ythkefkpmgleolab", sum := "f931a5b6f39b2ba262bfd0921eb387f18d63d953c0a1bec1f7e76873aa672595", func := "sibyl/sibyllaw10.BiasTotal", spec := "biasTotal", inPlace := ["math.Float64frombits", "math.Float64bits"], unfollowed := true, recurses := true, apart := false }
def BiasTotalSaid : Prop := biasTotalRow.holds Try.pinned (OpenSpec.ofChange biasTotalSpec)

/-- ITS FALSE NEIGHBOUR: 'it returns false'. Refute it at one input. -/
def biasTotalWrong : ChangeSpec := { name := "biasTotal", fn := fun _ => fun
  | [d1, d2, d3] => { results := [.lit (.bool false)], args := [d1, d2, d3] }
  | _ => none }
def BiasTotalWrongFalsely : Prop := biasTotalRow.holds Try.pinned (OpenSpec.ofChange biasTotalWrong)

/-- 'sibyllaw10.BiasNil': WHATEVER THE INPUT: true; the input reads as it did. -/
def biasNilSpec : ChangeSpec := { name := "biasNil", fn := fun _ => fun
  | [d] => { results := [.lit (.bool true)], args := [d] }
  | _ => none }
def biasNilRow : OpenClaim := { program := "ythkefkpmgleolab", sum := "f931a5b6f39b2ba262bfd0921eb387f18d63d953c0a1bec1f7e76873aa672595", func := "sibyl/sibyllaw10.BiasNil", spec := "biasNil", inPlace := ["math.Float64frombits", "math.Float64bits"], unfollowed := true, recurses := true, apart := false }
def BiasNilSaid : Prop := biasNilRow.holds Try.pinned (OpenSpec.ofChange biasNilSpec)

/-- ITS FALSE NEIGHBOUR: 'it returns false'. Refute it at one input. -/
def biasNilWrong : ChangeSpec := { name := "biasNil", fn := fun _ => fun
  | [d] => { results := [.lit (.bool false)], args := [d] }
  | _ => none }
def BiasNilWrongFalsely : Prop := biasNilRow.holds Try.pinned (OpenSpec.ofChange biasNilWrong)

/-- 'sibyllaw10.BiasOwn': WHATEVER THE INPUT: true; the input reads as it did. -/
def biasOwnSpec : ChangeSpec := { name := "biasOwn", fn := fun _ => fun
  | [d1, d2] => { results := [.lit (.bool true)], args := [d1, d2] }
  | _ => none }
def biasOwnRow : OpenClaim := { program := "ythkefkpmgleolab", sum := "f931a5b6f39b2ba262bfd0921eb387f18d63d953c0a1bec1f7e76873aa672595", func := "sibyl/sibyllaw10.BiasOwn", spec := "biasOwn", inPlace := ["math.Float64frombits", "math.Float64bits"], unfollowed := true, recurses := true, apart := false }
def BiasOwnSaid : Prop := biasOwnRow.holds Try.pinned (OpenSpec.ofChange biasOwnSpec)

/-- ITS FALSE NEIGHBOUR: 'it returns false'. Refute it at one input. -/
def biasOwnWrong : ChangeSpec := { name := "biasOwn", fn := fun _ => fun
  | [d1, d2] => { results := [.lit (.bool false)], args := [d1, d2] }
  | _ => none }
def BiasOwnWrongFalsely : Prop := biasOwnRow.holds Try.pinned (OpenSpec.ofChange biasOwnWrong)

/-- 'sibyllaw10.BiasOrders': WHATEVER THE INPUT: true; the input reads as it did. -/
def biasOrdersSpec : ChangeSpec := { name := "biasOrders", fn := fun _ => fun
  | [d1, d2] => { results := [.lit (.bool true)], args := [d1, d2] }
  | _ => none }
def biasOrdersRow : OpenClaim := { program := "ythkefkpmgleolab", sum := "f931a5b6f39b2ba262bfd0921eb387f18d63d953c0a1bec1f7e76873aa672595", func := "sibyl/sibyllaw10.BiasOrders", spec := "biasOrders", inPlace := ["math.Float64frombits", "math.Float64bits"], unfollowed := true, recurses := true, apart := false }
def BiasOrdersSaid : Prop := biasOrdersRow.holds Try.pinned (OpenSpec.ofChange biasOrdersSpec)

/-- ITS FALSE NEIGHBOUR: 'it returns false'. Refute it at one input. -/
def biasOrdersWrong : ChangeSpec := { name := "biasOrders", fn := fun _ => fun
  | [d1, d2] => { results := [.lit (.bool false)], args := [d1, d2] }
  | _ => none }
def BiasOrdersWrongFalsely : Prop := biasOrdersRow.holds Try.pinned (OpenSpec.ofChange biasOrdersWrong)

/-- 'sibyllaw10.BiasOracle': WHATEVER THE INPUT: true; the input reads as it did. -/
def biasOracleSpec : ChangeSpec := { name := "biasOracle", fn := fun _ => fun
  | [d1, d2] => { results := [.lit (.bool true)], args := [d1, d2] }
  | _ => none }
def biasOracleRow : OpenClaim := { program := "ythkefkpmgleolab", sum := "f931a5b6f39b2ba262bfd0921eb387f18d63d953c0a1bec1f7e76873aa672595", func := "sibyl/sibyllaw10.BiasOracle", spec := "biasOracle", inPlace := ["math.Float64frombits", "math.Float64bits"], unfollowed := true, recurses := true, apart := false }
def BiasOracleSaid : Prop := biasOracleRow.holds Try.pinned (OpenSpec.ofChange biasOracleSpec)

/-- ITS FALSE NEIGHBOUR: 'it returns false'. Refute it at one input. -/
def biasOracleWrong : ChangeSpec := { name := "biasOracle", fn := fun _ => fun
  | [d1, d2] => { results := [.lit (.bool false)], args := [d1, d2] }
  | _ => none }
def BiasOracleWrongFalsely : Prop := biasOracleRow.holds Try.pinned (OpenSpec.ofChange biasOracleWrong)

/- THE SECOND FORM. 'bulk': how many values and letters a reading holds, each counted each time it is reached (what is shared counts as often as it is met; a slice's spare places count too). A statement '..UptoSaid' is the law's where the arguments, and the package variables that the reading takes, are together of bulk at most 1048576: NARROWER than '..Said'. Prove '..Said' where nothing that the law and all that it calls make is longer than what came in: it says more and counts as full. Else prove '..UptoSaid'. A law counts once. -/
mutual
def uptoBulk {H : Type} : DataW H → Nat
  | .lit (.string bytes) => bytes.length + 1
  | .lit _ => 1
  | .nil => 1
  | .ptr d => uptoBulk d + 1
  | .slice elems spare => uptoBulkAll elems + uptoBulkAll spare + 1
  | .agg parts => uptoBulkAll parts + 1
  | .iface _ d => uptoBulk d + 1
  | .map entries => uptoBulkEntries entries + 1
  | .held _ => 1
def uptoBulkAll {H : Type} : List (DataW H) → Nat
  | [] => 0
  | d :: r => uptoBulk d + uptoBulkAll r
def uptoBulkEntries {H : Type} : List (Lit × DataW H) → Nat
  | [] => 0
  | x :: r => uptoBulkEntry x + uptoBulkEntries r
def uptoBulkEntry {H : Type} : Lit × DataW H → Nat
  | (.string bytes, d) => bytes.length + uptoBulk d + 1
  | (_, d) => uptoBulk d + 1
 end
def uptoSmall : (H : Type) → List (DataW H) → Bool := fun _ ds => decide (uptoBulkAll ds ≤ 1048576)
def OpenSpec.upto (s : _root_.Go.ChangeSpec) : _root_.Go.OpenSpec := { _root_.Go.OpenSpec.ofChange s with cond := some uptoSmall }

/-- 'sibyllaw10.BiasRanks', WHERE WHAT IT READS IS OF BULK AT MOST 1048576: true; the input reads as it did. -/
def biasRanksUptoRow : OpenClaim := { program := "ythkefkpmgleolab", sum := "f931a5b6f39b2ba262bfd0921eb387f18d63d953c0a1bec1f7e76873aa672595", func := "sibyl/sibyllaw10.BiasRanks", spec := "biasRanks", inPlace := ["math.Float64frombits", "math.Float64bits"], unfollowed := true, recurses := true, apart := false, narrowed := true }
def BiasRanksUptoSaid : Prop := biasRanksUptoRow.holds Try.pinned (OpenSpec.upto biasRanksSpec)

/-- 'sibyllaw10.BiasTurns', WHERE WHAT IT READS IS OF BULK AT MOST 1048576: true; the input reads as it did. -/
def biasTurnsUptoRow : OpenClaim := { program := "ythkefkpmgleolab", sum := "f931a5b6f39b2ba262bfd0921eb387f18d63d953c0a1bec1f7e76873aa672595", func := "sibyl/sibyllaw10.BiasTurns", spec := "biasTurns", inPlace := ["math.Float64frombits", "math.Float64bits"], unfollowed := true, recurses := true, apart := false, narrowed := true }
def BiasTurnsUptoSaid : Prop := biasTurnsUptoRow.holds Try.pinned (OpenSpec.upto biasTurnsSpec)

/-- 'sibyllaw10.BiasPicks', WHERE WHAT IT READS IS OF BULK AT MOST 1048576: true; the input reads as it did. -/
def biasPicksUptoRow : OpenClaim := { program := "ythkefkpmgleolab", sum := "f931a5b6f39b2ba262bfd0921eb387f18d63d953c0a1bec1f7e76873aa672595", func := "sibyl/sibyllaw10.BiasPicks", spec := "biasPicks", inPlace := ["math.Float64frombits", "math.Float64bits"], unfollowed := true, recurses := true, apart := false, narrowed := true }
def BiasPicksUptoSaid : Prop := biasPicksUptoRow.holds Try.pinned (OpenSpec.upto biasPicksSpec)

/-- 'sibyllaw10.BiasTotal', WHERE WHAT IT READS IS OF BULK AT MOST 1048576: true; the input reads as it did. -/
def biasTotalUptoRow : OpenClaim := { program := "ythkefkpmgleolab", sum := "f931a5b6f39b2ba262bfd0921eb387f18d63d953c0a1bec1f7e76873aa672595", func := "sibyl/sibyllaw10.BiasTotal", spec := "biasTotal", inPlace := ["math.Float64frombits", "math.Float64bits"], unfollowed := true, recurses := true, apart := false, narrowed := true }
def BiasTotalUptoSaid : Prop := biasTotalUptoRow.holds Try.pinned (OpenSpec.upto biasTotalSpec)

/-- 'sibyllaw10.BiasNil', WHERE WHAT IT READS IS OF BULK AT MOST 1048576: true; the input reads as it did. -/
def biasNilUptoRow : OpenClaim := { program := "ythkefkpmgleolab", sum := "f931a5b6f39b2ba262bfd0921eb387f18d63d953c0a1bec1f7e76873aa672595", func := "sibyl/sibyllaw10.BiasNil", spec := "biasNil", inPlace := ["math.Float64frombits", "math.Float64bits"], unfollowed := true, recurses := true, apart := false, narrowed := true }
def BiasNilUptoSaid : Prop := biasNilUptoRow.holds Try.pinned (OpenSpec.upto biasNilSpec)

/-- 'sibyllaw10.BiasOwn', WHERE WHAT IT READS IS OF BULK AT MOST 1048576: true; the input reads as it did. -/
def biasOwnUptoRow : OpenClaim := { program := "ythkefkpmgleolab", sum := "f931a5b6f39b2ba262bfd0921eb387f18d63d953c0a1bec1f7e76873aa672595", func := "sibyl/sibyllaw10.BiasOwn", spec := "biasOwn", inPlace := ["math.Float64frombits", "math.Float64bits"], unfollowed := true, recurses := true, apart := false, narrowed := true }
def BiasOwnUptoSaid : Prop := biasOwnUptoRow.holds Try.pinned (OpenSpec.upto biasOwnSpec)

/-- 'sibyllaw10.BiasOrders', WHERE WHAT IT READS IS OF BULK AT MOST 1048576: true; the input reads as it did. -/
def biasOrdersUptoRow : OpenClaim := { program := "ythkefkpmgleolab", sum := "f931a5b6f39b2ba262bfd0921eb387f18d63d953c0a1bec1f7e76873aa672595", func := "sibyl/sibyllaw10.BiasOrders", spec := "biasOrders", inPlace := ["math.Float64frombits", "math.Float64bits"], unfollowed := true, recurses := true, apart := false, narrowed := true }
def BiasOrdersUptoSaid : Prop := biasOrdersUptoRow.holds Try.pinned (OpenSpec.upto biasOrdersSpec)

/-- 'sibyllaw10.BiasOracle', WHERE WHAT IT READS IS OF BULK AT MOST 1048576: true; the input reads as it did. -/
def biasOracleUptoRow : OpenClaim := { program := "ythkefkpmgleolab", sum := "f931a5b6f39b2ba262bfd0921eb387f18d63d953c0a1bec1f7e76873aa672595", func := "sibyl/sibyllaw10.BiasOracle", spec := "biasOracle", inPlace := ["math.Float64frombits", "math.Float64bits"], unfollowed := true, recurses := true, apart := false, narrowed := true }
def BiasOracleUptoSaid : Prop := biasOracleUptoRow.holds Try.pinned (OpenSpec.upto biasOracleSpec)

end Rows
end Go.Proofs.Ythkefkpmgleolab
