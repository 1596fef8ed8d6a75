/- The facts of the row of MachineNil, one by one. -/
import Derived.Test.YthhhmmildgijhaaGreatDoorRows
import Derived.JoinedOf
import Derived.KernelRfl
namespace Go.Proofs.YthhhmmildgijhaaGreatDoor.machineNil
open Go
theorem c0 : Rows.machineNilRow.wf (OpenSpec.ofChange Rows.machineNilSpec) = true := by kernel_rfl
theorem c1 : laidOutB Tryz.prog = true := by kernel_rfl
theorem c2 : mapsRowed Tryz.prog = true := by kernel_rfl
theorem c3 : Tryz.f4.params.all (Tryz.prog.readableRec ·) = true := by kernel_rfl
theorem c4 : namedTie Tryz.prog Rows.machineNilRow.named Rows.machineNilSpec.vars = true := by kernel_rfl
theorem c5 : (Rows.machineNilRow.stops == []) = true := by kernel_rfl
theorem c6 : (Tryz.prog.stops == []) = true := by kernel_rfl
theorem c7 : (Rows.machineNilRow.knobs == []) = true := by kernel_rfl
theorem c8 : (Tryz.prog.stopKnobs == []) = true := by kernel_rfl
theorem c9 : (Rows.machineNilRow.inPlace == Tryz.prog.inPlace 4) = true := by kernel_rfl
theorem c10 : (Rows.machineNilRow.unfollowed == Tryz.prog.unfollowed 4) = true := by kernel_rfl
theorem c11 : (Rows.machineNilRow.recurses == Tryz.prog.recurses 4) = true := by kernel_rfl
theorem c12 : (Rows.machineNilRow.named == Tryz.prog.varsNamed 4) = true := by kernel_rfl
theorem c13 : (Rows.machineNilRow.maps == (Tryz.f4.params.toList ++ Rows.machineNilSpec.plain.varTypes Tryz.prog).any (Tryz.prog.mapsRec ·)) = true := by kernel_rfl
theorem c14 : (Rows.machineNilRow.ifaces == (Tryz.f4.params.toList ++ Rows.machineNilSpec.plain.varTypes Tryz.prog).any (Tryz.prog.ifacesRec ·)) = true := by kernel_rfl
theorem c15 : (Rows.machineNilRow.mapsOut == Tryz.prog.mapsAmong Tryz.f4.resultTypes.toList) = true := by kernel_rfl
theorem c16 : (Rows.machineNilRow.loops == (Tryz.f4.params.toList ++ Rows.machineNilSpec.plain.varTypes Tryz.prog).any (Tryz.prog.loopsFrom ·)) = true := by kernel_rfl
theorem c17 : (Rows.machineNilRow.wideKeys == (Tryz.f4.params.toList ++ Rows.machineNilSpec.plain.varTypes Tryz.prog ++ Tryz.f4.resultTypes.toList).any (Tryz.prog.wideKeysFrom ·)) = true := by kernel_rfl
theorem c18 : Rows.machineNilSpec.vars.all (Tryz.prog.varReadable ·) = true := by kernel_rfl
theorem c19 : Tryz.f4.resultTypes.all (fun t => Tryz.prog.readableRec t && decide (t < Tryz.prog.types.size)) = true := by kernel_rfl
theorem c20 : (Rows.machineNilRow.ifacesOut == Tryz.f4.resultTypes.toList.any (Tryz.prog.ifacesRec ·)) = true := by kernel_rfl
theorem c21 : (Rows.machineNilRow.loopsOut == Tryz.f4.resultTypes.toList.any (Tryz.prog.loopsFrom ·)) = true := by kernel_rfl
theorem c22 : (Rows.machineNilRow.plainKeys == Tryz.prog.plainKeys) = true := by kernel_rfl
theorem c23 : Rows.machineNilRow.shortTexts.isNone = true := by kernel_rfl
theorem c24 : Tryz.prog.stopsHeard = true := by kernel_rfl
theorem c25 : Tryz.prog.mayEnter = true := by kernel_rfl
theorem c26 : (Rows.machineNilRow.lifted == Tryz.prog.liftsFinal) = true := by kernel_rfl
theorem c27 : (Tryz.prog.make == some Rows.machineNilRow.make) = true := by kernel_rfl
theorem c28 : (Rows.machineNilRow.kinds == (if Rows.machineNilRow.domain.isEmpty then [] else Tryz.f4.params.toList.map fun t => match Tryz.prog.underlying t with | some (.int k) => some k | _ => none)) = true := by kernel_rfl
theorem c29 : (Rows.machineNilRow.pinned == Rows.machineNilRow.pinnedBy) = true := by kernel_rfl
theorem c30 : (Rows.machineNilRow.veiled == (Tryz.f4.params.toList ++ Rows.machineNilSpec.plain.varTypes Tryz.prog ++ Tryz.f4.resultTypes.toList).any (Tryz.prog.veiledRec ·)) = true := by kernel_rfl
theorem c31 : Rows.machineNilRow.veiledFits Tryz.prog Tryz.f4.params.toList (Tryz.f4.params.toList ++ Rows.machineNilSpec.plain.varTypes Tryz.prog ++ Tryz.f4.resultTypes.toList) = true := by kernel_rfl
end Go.Proofs.YthhhmmildgijhaaGreatDoor.machineNil
