/-
  DERIVED. GIVEN WITH THE SEED: THE CARDS: each row of YthhhmmildgijhaaGreatDoorRows.lean that lists a variable, with what it lists TIED to the program's text (the seventh form; the later family's looks); each row that meets fmt, with fmt's text TOLD by the authors' own Lean function (tested against real Go, not proved from fmt's source: count such statements apart). THE CARD IS WHAT COUNTS. Prove the row's statement (the work); the ties are given (YthhhmmildgijhaaGreatDoorTie.lean); close each card by the builder's one call (the guide's Derived/Test/ToyasCard.lean, 'card_holds'). Laid BY PROGRAM, IN A SANDBOX (cutbox-door.mjs). By AI agents, Wed Nov 11 2026. No macro, syntax, notation, axiom, sorry.
-/
import Derived.Test.YthhhmmildgijhaaGreatDoorRows
import GoSem.ClaimSeven
namespace Go.Proofs.YthhhmmildgijhaaGreatDoor
namespace Rows

/-- THE TIED CARD OF 'sibyllaw20.ExploreNexts'. -/
def exploreNextsCard : Claim7 := { stood := { row := exploreNextsRow, standIns := [], harness := (true, "d85b08664e42e205c001adc4dbbe934cadcccaf5fb8c1f80d29fc87509ff0161"), looks := true }, kinds := [], alts := [], laidByText := true, laidKinds := [.data, .data, .data, .listed, .data], laidTests := true, laidLooks := .later }
def ExploreNextsCardSaid : Prop := Claim7.holds Tryz.pinned (.plain (OpenSpec.ofChange exploreNextsSpec)) exploreNextsCard

/-- THE TIED CARD OF 'sibyllaw17.MachineNil'. -/
def machineNilCard : Claim7 := { stood := { row := machineNilRow, standIns := [], harness := (true, "d85b08664e42e205c001adc4dbbe934cadcccaf5fb8c1f80d29fc87509ff0161"), looks := true }, kinds := [], alts := [], laidByText := true, laidKinds := [.data, .data, .data, .listed, .data], laidTests := true, laidLooks := .later }
def MachineNilCardSaid : Prop := Claim7.holds Tryz.pinned (.plain (OpenSpec.ofChange machineNilSpec)) machineNilCard

/-- THE SECOND FORM's CARD OF 'sibyllaw20.ExploreNexts'. -/
def exploreNextsUptoCard : Claim7 := { stood := { row := exploreNextsUptoRow, standIns := [], harness := (true, "d85b08664e42e205c001adc4dbbe934cadcccaf5fb8c1f80d29fc87509ff0161"), looks := true }, kinds := [], alts := [], laidByText := true, laidKinds := [.data, .data, .data, .listed, .data], laidTests := true, laidLooks := .later }
def ExploreNextsUptoCardSaid : Prop := Claim7.holds Tryz.pinned (.plain (OpenSpec.upto exploreNextsSpec)) exploreNextsUptoCard

/-- THE SECOND FORM's CARD OF 'sibyllaw17.MachineNil'. -/
def machineNilUptoCard : Claim7 := { stood := { row := machineNilUptoRow, standIns := [], harness := (true, "d85b08664e42e205c001adc4dbbe934cadcccaf5fb8c1f80d29fc87509ff0161"), looks := true }, kinds := [], alts := [], laidByText := true, laidKinds := [.data, .data, .data, .listed, .data], laidTests := true, laidLooks := .later }
def MachineNilUptoCardSaid : Prop := Claim7.holds Tryz.pinned (.plain (OpenSpec.upto machineNilSpec)) machineNilUptoCard
end Rows
end Go.Proofs.YthhhmmildgijhaaGreatDoor
