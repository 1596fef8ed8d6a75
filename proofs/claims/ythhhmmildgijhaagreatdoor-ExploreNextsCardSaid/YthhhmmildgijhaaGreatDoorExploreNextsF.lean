/- The facts of the row of ExploreNexts, one by one. -/
import Derived.Test.YthhhmmildgijhaaGreatDoorRows
import Derived.JoinedOf
import Derived.KernelRfl
namespace Go.Proofs.YthhhmmildgijhaaGreatDoor.exploreNexts
open Go
theorem c0 : Rows.exploreNextsRow.wf (OpenSpec.ofChange Rows.exploreNextsSpec) = true := by kernel_rfl
theorem c1 : laidOutB Tryz.prog = true := by kernel_rfl
theorem c2 : mapsRowed Tryz.prog = true := by kernel_rfl
theorem c3 : Tryz.f3.params.all (Tryz.prog.readableRec ·) = true := by kernel_rfl
theorem c4 : namedTie Tryz.prog Rows.exploreNextsRow.named Rows.exploreNextsSpec.vars = true := by kernel_rfl
theorem c5 : (Rows.exploreNextsRow.stops == []) = true := by kernel_rfl
theorem c6 : (Tryz.prog.stops == []) = true := by kernel_rfl
theorem c7 : (Rows.exploreNextsRow.knobs == []) = true := by kernel_rfl
theorem c8 : (Tryz.prog.stopKnobs == []) = true := by kernel_rfl
theorem c9 : (Rows.exploreNextsRow.inPlace == Tryz.prog.inPlace 3) = true := by kernel_rfl
theorem c10 : (Rows.exploreNextsRow.unfollowed == Tryz.prog.unfollowed 3) = true := by kernel_rfl
theorem c11 : (Rows.exploreNextsRow.recurses == Tryz.prog.recurses 3) = true := by kernel_rfl
theorem c12 : (Rows.exploreNextsRow.named == Tryz.prog.varsNamed 3) = true := by kernel_rfl
theorem c13 : (Rows.exploreNextsRow.maps == (Tryz.f3.params.toList ++ Rows.exploreNextsSpec.plain.varTypes Tryz.prog).any (Tryz.prog.mapsRec ·)) = true := by kernel_rfl
theorem c14 : (Rows.exploreNextsRow.ifaces == (Tryz.f3.params.toList ++ Rows.exploreNextsSpec.plain.varTypes Tryz.prog).any (Tryz.prog.ifacesRec ·)) = true := by kernel_rfl
theorem c15 : (Rows.exploreNextsRow.mapsOut == Tryz.prog.mapsAmong Tryz.f3.resultTypes.toList) = true := by kernel_rfl
theorem c16 : (Rows.exploreNextsRow.loops == (Tryz.f3.params.toList ++ Rows.exploreNextsSpec.plain.varTypes Tryz.prog).any (Tryz.prog.loopsFrom ·)) = true := by kernel_rfl
theorem c17 : (Rows.exploreNextsRow.wideKeys == (Tryz.f3.params.toList ++ Rows.exploreNextsSpec.plain.varTypes Tryz.prog ++ Tryz.f3.resultTypes.toList).any (Tryz.prog.wideKeysFrom ·)) = true := by kernel_rfl
theorem c18 : Rows.exploreNextsSpec.vars.all (Tryz.prog.varReadable ·) = true := by kernel_rfl
theorem c19 : Tryz.f3.resultTypes.all (fun t => Tryz.prog.readableRec t && decide (t < Tryz.prog.types.size)) = true := by kernel_rfl
theorem c20 : (Rows.exploreNextsRow.ifacesOut == Tryz.f3.resultTypes.toList.any (Tryz.prog.ifacesRec ·)) = true := by kernel_rfl
theorem c21 : (Rows.exploreNextsRow.loopsOut == Tryz.f3.resultTypes.toList.any (Tryz.prog.loopsFrom ·)) = true := by kernel_rfl
theorem c22 : (Rows.exploreNextsRow.plainKeys == Tryz.prog.plainKeys) = true := by kernel_rfl
theorem c23 : Rows.exploreNextsRow.shortTexts.isNone = true := by kernel_rfl
theorem c24 : Tryz.prog.stopsHeard = true := by kernel_rfl
theorem c25 : Tryz.prog.mayEnter = true := by kernel_rfl
theorem c26 : (Rows.exploreNextsRow.lifted == Tryz.prog.liftsFinal) = true := by kernel_rfl
theorem c27 : (Tryz.prog.make == some Rows.exploreNextsRow.make) = true := by kernel_rfl
theorem c28 : (Rows.exploreNextsRow.kinds == (if Rows.exploreNextsRow.domain.isEmpty then [] else Tryz.f3.params.toList.map fun t => match Tryz.prog.underlying t with | some (.int k) => some k | _ => none)) = true := by kernel_rfl
theorem c29 : (Rows.exploreNextsRow.pinned == Rows.exploreNextsRow.pinnedBy) = true := by kernel_rfl
theorem c30 : (Rows.exploreNextsRow.veiled == (Tryz.f3.params.toList ++ Rows.exploreNextsSpec.plain.varTypes Tryz.prog ++ Tryz.f3.resultTypes.toList).any (Tryz.prog.veiledRec ·)) = true := by kernel_rfl
theorem c31 : Rows.exploreNextsRow.veiledFits Tryz.prog Tryz.f3.params.toList (Tryz.f3.params.toList ++ Rows.exploreNextsSpec.plain.varTypes Tryz.prog ++ Tryz.f3.resultTypes.toList) = true := by kernel_rfl
end Go.Proofs.YthhhmmildgijhaaGreatDoor.exploreNexts
