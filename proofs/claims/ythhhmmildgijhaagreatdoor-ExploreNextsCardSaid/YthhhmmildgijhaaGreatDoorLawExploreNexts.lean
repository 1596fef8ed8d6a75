/- The row and the card of ExploreNexts. -/
import Derived.Test.YthhhmmildgijhaaGreatDoorExploreNextsL
import Derived.SevenTiedAt
namespace Go.Proofs.YthhhmmildgijhaaGreatDoor.exploreNexts
open Go.ChangeShapes Go.WideShapes Go.ChangeAt Go.RowKit
open Go.Proofs.YthhhmmildgijhaaGreatDoorAI
set_option linter.unusedVariables false
set_option maxRecDepth 100000 in
theorem said : Rows.ExploreNextsSaid :=
  OpenClaim.holds_of_wide 3 Tryz.f3 rfl rfl rfl rfl rfl rfl rfl ⟨rfl, rfl, rfl, rfl, rfl⟩ rfl rfl rfl rfl rfl (by kernel_rfl) Tryz.func3 closed
    (of_decide_eq_true (by kernel_rfl)) (by unfold Func.isWrapper; first | (rw [if_pos (by decide +kernel)]; kernel_rfl) | (rw [if_neg (by decide +kernel)]; exact ⟨rfl, rfl⟩))
    (fun os started H enc _ => by rw [OpenClaim.pre_eq_preRow]; exact lifted os started H enc (fun _ _ _ => 0))

/-- No parameter wants a stand-in; the program's own looks are on. -/
theorem plainly (f : FuncId) (fn : Func) (hf : Tryz.pinned.checked.prog.funcNamed "sibyl/sibyllaw20.ExploreNexts" = some f) (hfn : Tryz.pinned.checked.prog.funcs[f]? = some fn) :
    true = Tryz.pinned.checked.prog.looks [] ∧ ∀ (j : Nat) t, fn.params[j]? = some t → Tryz.pinned.checked.prog.wantsStandIn t = false := by
  obtain rfl : f = 3 := Option.some.inj ((show Tryz.prog.funcNamed "sibyl/sibyllaw20.ExploreNexts" = some 3 by kernel_rfl).symm.trans hf) |>.symm
  obtain rfl : fn = Tryz.f3 := (Option.some.inj (Tryz.func3.symm.trans hfn)).symm
  refine ⟨by kernel_rfl, fun j t ht => ?_⟩
  rw [Tryz.params3] at ht
  obtain rfl : t = 22 := by simpa using Array.mem_of_getElem? ht
  exact (show Tryz.prog.wantsStandIn 22 = false by kernel_rfl)

theorem card : Rows.ExploreNextsCardSaid :=
  Claim7.holds_tied_plain_at .later [] _ _ _ _ said (fun _ h => by cases h) (by kernel_rfl) (fun _ h => by cases h) exploreNexts_row_tie rfl ⟨rfl, rfl⟩ (by kernel_rfl) rfl plainly (by kernel_rfl)
end Go.Proofs.YthhhmmildgijhaaGreatDoor.exploreNexts
namespace Go.Proofs.YthhhmmildgijhaaGreatDoor
theorem exploreNexts_holds : Rows.ExploreNextsCardSaid := exploreNexts.card
end Go.Proofs.YthhhmmildgijhaaGreatDoor
