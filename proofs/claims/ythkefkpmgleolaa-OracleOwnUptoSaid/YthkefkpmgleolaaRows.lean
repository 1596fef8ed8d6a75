/-
  No cell of these rows narrows 'for every input' (looked for: loops, veiled, ifaces, maps, wideKeys, modest, calm, conditions, laid).
  DERIVED. THE GIVEN ROWS OF THIS SEAT. 8 by the template 'for every input the law returns true; each argument reads behind the call as it read before'; 0 by the template 'total and deterministic' (their statements: YthkefkpmgleolaaTotals.lean).
  GIVEN WITH THE SEED: the statements are not yours to turn. If you find one false, say at which input.
  Laid BY PROGRAM, IN A SANDBOX (cutbox-rows.mjs): the forced cells as the released guide's own fill.sh prints them over the translation 07a85bf73f43efca… (all of the seat's roots in one cut). By AI agents, Wed Nov 11 2026. No macro, syntax, notation, axiom, sorry.
-/
import Derived.Test.YthkefkpmgleolaaChecked
import GoSem.Claim
import GoSem.ClaimJoined
import GoSem.ClaimMapViews
import Derived.JoinedTies
import Derived.KernelRfl
namespace Go.Proofs.Ythkefkpmgleolaa
/- THE CELL 'sum', in the pinned program and in every row, IS THE sha256 OF THE DUMP (.gsa) THAT YthkefkpmgleolaaProg.lean LOADS. Nothing in Lean hashes anything: it is a label: what it is worth is what the hold of that sum in a sandbox is worth. -/
noncomputable def Try.pinned : Pinned := { name := "ythkefkpmgleolaa", sum := "07a85bf73f43efcab901702c97b73afecad515099737ddbe7798afaec00628f8", checked := Try.checked }
namespace Rows
def none {H : Type} : Left H := { results := [], args := [] }

/-- 'sibyllaw09.OracleMods': WHATEVER THE INPUT: true; the input reads as it did. -/
def oracleModsSpec : ChangeSpec := { name := "oracleMods", fn := fun _ => fun
  | [d1, d2] => { results := [.lit (.bool true)], args := [d1, d2] }
  | _ => none }
def oracleModsRow : OpenClaim := { program := "ythkefkpmgleolaa", sum := "07a85bf73f43efcab901702c97b73afecad515099737ddbe7798afaec00628f8", func := "sibyl/sibyllaw09.OracleMods", spec := "oracleMods", apart := false }
def OracleModsSaid : Prop := oracleModsRow.holds Try.pinned (OpenSpec.ofChange oracleModsSpec)

/-- ITS FALSE NEIGHBOUR: 'it returns false'. Refute it at one input. -/
def oracleModsWrong : ChangeSpec := { name := "oracleMods", fn := fun _ => fun
  | [d1, d2] => { results := [.lit (.bool false)], args := [d1, d2] }
  | _ => none }
def OracleModsWrongFalsely : Prop := oracleModsRow.holds Try.pinned (OpenSpec.ofChange oracleModsWrong)

/-- 'sibyllaw09.OraclePicks': WHATEVER THE INPUT: true; the input reads as it did. -/
def oraclePicksSpec : ChangeSpec := { name := "oraclePicks", fn := fun _ => fun
  | [d1, d2] => { results := [.lit (.bool true)], args := [d1, d2] }
  | _ => none }
def oraclePicksRow : OpenClaim := { program := "ythkefkpmgleolaa", sum := "07a85bf73f43efcab901702c97b73afecad515099737ddbe7798afaec00628f8", func := "sibyl/sibyllaw09.OraclePicks", spec := "oraclePicks", apart := false }
def OraclePicksSaid : Prop := oraclePicksRow.holds Try.pinned (OpenSpec.ofChange oraclePicksSpec)

/-- ITS FALSE NEIGHBOUR: 'it returns false'. Refute it at one input. -/
def oraclePicksWrong : ChangeSpec := { name := "oraclePicks", fn := fun _ => fun
  | [d1, d2] => { results := [.lit (.bool false)], args := [d1, d2] }
  | _ => none }
def OraclePicksWrongFalsely : Prop := oraclePicksRow.holds Try.pinned (OpenSpec.ofChange oraclePicksWrong)

/-- 'sibyllaw09.OracleChooses': WHATEVER THE INPUT: true; the input reads as it did. -/
def oracleChoosesSpec : ChangeSpec := { name := "oracleChooses", fn := fun _ => fun
  | [d1, d2] => { results := [.lit (.bool true)], args := [d1, d2] }
  | _ => none }
def oracleChoosesRow : OpenClaim := { program := "ythkefkpmgleolaa", sum := "07a85bf73f43efcab901702c97b73afecad515099737ddbe7798afaec00628f8", func := "sibyl/sibyllaw09.OracleChooses", spec := "oracleChooses", unfollowed := true, recurses := true, apart := false }
def OracleChoosesSaid : Prop := oracleChoosesRow.holds Try.pinned (OpenSpec.ofChange oracleChoosesSpec)

/-- ITS FALSE NEIGHBOUR: 'it returns false'. Refute it at one input. -/
def oracleChoosesWrong : ChangeSpec := { name := "oracleChooses", fn := fun _ => fun
  | [d1, d2] => { results := [.lit (.bool false)], args := [d1, d2] }
  | _ => none }
def OracleChoosesWrongFalsely : Prop := oracleChoosesRow.holds Try.pinned (OpenSpec.ofChange oracleChoosesWrong)

/-- 'sibyllaw09.OracleForks': WHATEVER THE INPUT: true; the input reads as it did. -/
def oracleForksSpec : ChangeSpec := { name := "oracleForks", fn := fun _ => fun
  | [d1, d2, d3] => { results := [.lit (.bool true)], args := [d1, d2, d3] }
  | _ => none }
def oracleForksRow : OpenClaim := { program := "ythkefkpmgleolaa", sum := "07a85bf73f43efcab901702c97b73afecad515099737ddbe7798afaec00628f8", func := "sibyl/sibyllaw09.OracleForks", spec := "oracleForks", apart := false }
def OracleForksSaid : Prop := oracleForksRow.holds Try.pinned (OpenSpec.ofChange oracleForksSpec)

/-- ITS FALSE NEIGHBOUR: 'it returns false'. Refute it at one input. -/
def oracleForksWrong : ChangeSpec := { name := "oracleForks", fn := fun _ => fun
  | [d1, d2, d3] => { results := [.lit (.bool false)], args := [d1, d2, d3] }
  | _ => none }
def OracleForksWrongFalsely : Prop := oracleForksRow.holds Try.pinned (OpenSpec.ofChange oracleForksWrong)

/-- 'sibyllaw09.OracleNil': WHATEVER THE INPUT: true; the input reads as it did. -/
def oracleNilSpec : ChangeSpec := { name := "oracleNil", fn := fun _ => fun
  | [d] => { results := [.lit (.bool true)], args := [d] }
  | _ => none }
def oracleNilRow : OpenClaim := { program := "ythkefkpmgleolaa", sum := "07a85bf73f43efcab901702c97b73afecad515099737ddbe7798afaec00628f8", func := "sibyl/sibyllaw09.OracleNil", spec := "oracleNil", apart := false }
def OracleNilSaid : Prop := oracleNilRow.holds Try.pinned (OpenSpec.ofChange oracleNilSpec)

/-- ITS FALSE NEIGHBOUR: 'it returns false'. Refute it at one input. -/
def oracleNilWrong : ChangeSpec := { name := "oracleNil", fn := fun _ => fun
  | [d] => { results := [.lit (.bool false)], args := [d] }
  | _ => none }
def OracleNilWrongFalsely : Prop := oracleNilRow.holds Try.pinned (OpenSpec.ofChange oracleNilWrong)

/-- 'sibyllaw09.OracleOwn': WHATEVER THE INPUT: true; the input reads as it did. -/
def oracleOwnSpec : ChangeSpec := { name := "oracleOwn", fn := fun _ => fun
  | [d1, d2] => { results := [.lit (.bool true)], args := [d1, d2] }
  | _ => none }
def oracleOwnRow : OpenClaim := { program := "ythkefkpmgleolaa", sum := "07a85bf73f43efcab901702c97b73afecad515099737ddbe7798afaec00628f8", func := "sibyl/sibyllaw09.OracleOwn", spec := "oracleOwn", apart := false }
def OracleOwnSaid : Prop := oracleOwnRow.holds Try.pinned (OpenSpec.ofChange oracleOwnSpec)

/-- ITS FALSE NEIGHBOUR: 'it returns false'. Refute it at one input. -/
def oracleOwnWrong : ChangeSpec := { name := "oracleOwn", fn := fun _ => fun
  | [d1, d2] => { results := [.lit (.bool false)], args := [d1, d2] }
  | _ => none }
def OracleOwnWrongFalsely : Prop := oracleOwnRow.holds Try.pinned (OpenSpec.ofChange oracleOwnWrong)

/-- 'sibyllaw09.OracleOf': WHATEVER THE INPUT: true; the input reads as it did. -/
def oracleOfSpec : ChangeSpec := { name := "oracleOf", fn := fun _ => fun
  | [d] => { results := [.lit (.bool true)], args := [d] }
  | _ => none }
def oracleOfRow : OpenClaim := { program := "ythkefkpmgleolaa", sum := "07a85bf73f43efcab901702c97b73afecad515099737ddbe7798afaec00628f8", func := "sibyl/sibyllaw09.OracleOf", spec := "oracleOf", apart := false }
def OracleOfSaid : Prop := oracleOfRow.holds Try.pinned (OpenSpec.ofChange oracleOfSpec)

/-- ITS FALSE NEIGHBOUR: 'it returns false'. Refute it at one input. -/
def oracleOfWrong : ChangeSpec := { name := "oracleOf", fn := fun _ => fun
  | [d] => { results := [.lit (.bool false)], args := [d] }
  | _ => none }
def OracleOfWrongFalsely : Prop := oracleOfRow.holds Try.pinned (OpenSpec.ofChange oracleOfWrong)

/-- 'sibyllaw09.OracleAgain': WHATEVER THE INPUT: true; the input reads as it did. -/
def oracleAgainSpec : ChangeSpec := { name := "oracleAgain", fn := fun _ => fun
  | [d1, d2] => { results := [.lit (.bool true)], args := [d1, d2] }
  | _ => none }
def oracleAgainRow : OpenClaim := { program := "ythkefkpmgleolaa", sum := "07a85bf73f43efcab901702c97b73afecad515099737ddbe7798afaec00628f8", func := "sibyl/sibyllaw09.OracleAgain", spec := "oracleAgain", apart := false }
def OracleAgainSaid : Prop := oracleAgainRow.holds Try.pinned (OpenSpec.ofChange oracleAgainSpec)

/-- ITS FALSE NEIGHBOUR: 'it returns false'. Refute it at one input. -/
def oracleAgainWrong : ChangeSpec := { name := "oracleAgain", fn := fun _ => fun
  | [d1, d2] => { results := [.lit (.bool false)], args := [d1, d2] }
  | _ => none }
def OracleAgainWrongFalsely : Prop := oracleAgainRow.holds Try.pinned (OpenSpec.ofChange oracleAgainWrong)

/- THE SECOND FORM. 'bulk': how many values and letters a reading holds, each counted each time it is reached (what is shared counts as often as it is met; a slice's spare places count too). A statement '..UptoSaid' is the law's where the arguments, and the package variables that the reading takes, are together of bulk at most 1048576: NARROWER than '..Said'. Prove '..Said' where nothing that the law and all that it calls make is longer than what came in: it says more and counts as full. Else prove '..UptoSaid'. A law counts once. -/
mutual
def uptoBulk {H : Type} : DataW H → Nat
  | .lit (.string bytes) => bytes.length + 1
  | .lit _ => 1
  | .nil => 1
  | .ptr d => uptoBulk d + 1
  | .slice elems spare => uptoBulkAll elems + uptoBulkAll spare + 1
  | .agg parts => uptoBulkAll parts + 1
  | .iface _ d => uptoBulk d + 1
  | .map entries => uptoBulkEntries entries + 1
  | .held _ => 1
def uptoBulkAll {H : Type} : List (DataW H) → Nat
  | [] => 0
  | d :: r => uptoBulk d + uptoBulkAll r
def uptoBulkEntries {H : Type} : List (Lit × DataW H) → Nat
  | [] => 0
  | x :: r => uptoBulkEntry x + uptoBulkEntries r
def uptoBulkEntry {H : Type} : Lit × DataW H → Nat
  | (.string bytes, d) => bytes.length + uptoBulk d + 1
  | (_, d) => uptoBulk d + 1
 end
def uptoSmall : (H : Type) → List (DataW H) → Bool := fun _ ds => decide (uptoBulkAll ds ≤ 1048576)
def OpenSpec.upto (s : _root_.Go.ChangeSpec) : _root_.Go.OpenSpec := { _root_.Go.OpenSpec.ofChange s with cond := some uptoSmall }

/-- 'sibyllaw09.OracleMods', WHERE WHAT IT READS IS OF BULK AT MOST 1048576: true; the input reads as it did. -/
def oracleModsUptoRow : OpenClaim := { program := "ythkefkpmgleolaa", sum := "07a85bf73f43efcab901702c97b73afecad515099737ddbe7798afaec00628f8", func := "sibyl/sibyllaw09.OracleMods", spec := "oracleMods", apart := false, narrowed := true }
def OracleModsUptoSaid : Prop := oracleModsUptoRow.holds Try.pinned (OpenSpec.upto oracleModsSpec)

/-- 'sibyllaw09.OraclePicks', WHERE WHAT IT READS IS OF BULK AT MOST 1048576: true; the input reads as it did. -/
def oraclePicksUptoRow : OpenClaim := { program := "ythkefkpmgleolaa", sum := "07a85bf73f43efcab901702c97b73afecad515099737ddbe7798afaec00628f8", func := "sibyl/sibyllaw09.OraclePicks", spec := "oraclePicks", apart := false, narrowed := true }
def OraclePicksUptoSaid : Prop := oraclePicksUptoRow.holds Try.pinned (OpenSpec.upto oraclePicksSpec)

/-- 'sibyllaw09.OracleChooses', WHERE WHAT IT READS IS OF BULK AT MOST 1048576: true; the input reads as it did. -/
def oracleChoosesUptoRow : OpenClaim := { program := "ythkefkpmgleolaa", sum := "07a85bf73f43efcab901702c97b73afecad515099737ddbe7798afaec00628f8", func := "sibyl/sibyllaw09.OracleChooses", spec := "oracleChooses", unfollowed := true, recurses := true, apart := false, narrowed := true }
def OracleChoosesUptoSaid : Prop := oracleChoosesUptoRow.holds Try.pinned (OpenSpec.upto oracleChoosesSpec)

/-- 'sibyllaw09.OracleForks', WHERE WHAT IT READS IS OF BULK AT MOST 1048576: true; the input reads as it did. -/
def oracleForksUptoRow : OpenClaim := { program := "ythkefkpmgleolaa", sum := "07a85bf73f43efcab901702c97b73afecad515099737ddbe7798afaec00628f8", func := "sibyl/sibyllaw09.OracleForks", spec := "oracleForks", apart := false, narrowed := true }
def OracleForksUptoSaid : Prop := oracleForksUptoRow.holds Try.pinned (OpenSpec.upto oracleForksSpec)

/-- 'sibyllaw09.OracleNil', WHERE WHAT IT READS IS OF BULK AT MOST 1048576: true; the input reads as it did. -/
def oracleNilUptoRow : OpenClaim := { program := "ythkefkpmgleolaa", sum := "07a85bf73f43efcab901702c97b73afecad515099737ddbe7798afaec00628f8", func := "sibyl/sibyllaw09.OracleNil", spec := "oracleNil", apart := false, narrowed := true }
def OracleNilUptoSaid : Prop := oracleNilUptoRow.holds Try.pinned (OpenSpec.upto oracleNilSpec)

/-- 'sibyllaw09.OracleOwn', WHERE WHAT IT READS IS OF BULK AT MOST 1048576: true; the input reads as it did. -/
def oracleOwnUptoRow : OpenClaim := { program := "ythkefkpmgleolaa", sum := "07a85bf73f43efcab901702c97b73afecad515099737ddbe7798afaec00628f8", func := "sibyl/sibyllaw09.OracleOwn", spec := "oracleOwn", apart := false, narrowed := true }
def OracleOwnUptoSaid : Prop := oracleOwnUptoRow.holds Try.pinned (OpenSpec.upto oracleOwnSpec)

/-- 'sibyllaw09.OracleOf', WHERE WHAT IT READS IS OF BULK AT MOST 1048576: true; the input reads as it did. -/
def oracleOfUptoRow : OpenClaim := { program := "ythkefkpmgleolaa", sum := "07a85bf73f43efcab901702c97b73afecad515099737ddbe7798afaec00628f8", func := "sibyl/sibyllaw09.OracleOf", spec := "oracleOf", apart := false, narrowed := true }
def OracleOfUptoSaid : Prop := oracleOfUptoRow.holds Try.pinned (OpenSpec.upto oracleOfSpec)

/-- 'sibyllaw09.OracleAgain', WHERE WHAT IT READS IS OF BULK AT MOST 1048576: true; the input reads as it did. -/
def oracleAgainUptoRow : OpenClaim := { program := "ythkefkpmgleolaa", sum := "07a85bf73f43efcab901702c97b73afecad515099737ddbe7798afaec00628f8", func := "sibyl/sibyllaw09.OracleAgain", spec := "oracleAgain", apart := false, narrowed := true }
def OracleAgainUptoSaid : Prop := oracleAgainUptoRow.holds Try.pinned (OpenSpec.upto oracleAgainSpec)

end Rows
end Go.Proofs.Ythkefkpmgleolaa
