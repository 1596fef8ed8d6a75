/- The free names of the greater parts. -/
import Derived.Test.YthhhmmildgijhaaGreatDoorGE3
import Derived.Test.YthhhmmildgijhaaGreatDoorAF6
set_option linter.unusedVariables false
namespace Go.Proofs.YthhhmmildgijhaaGreatDoorAI
open Go

noncomputable def cL : Code → Code | .seq a _ => a | c => c
noncomputable def cR : Code → Code | .seq _ b => b | c => c
noncomputable def cB : Code → Code | .block _ b => b | .loop b => b | c => c
noncomputable def cOps : Code → Array Oper | .region _ ops _ => ops | _ => #[]
noncomputable def body_ (f : Func) : Code := f.body.getD .skip
noncomputable def b157 : Code := body_ Tryz.f157
noncomputable def l157 : Code := cB (cB (cR (cL (cR (cR (cR (cR b157)))))))
noncomputable def o157 : Oper := ((cOps (cL l157))[0]?).getD default

set_option maxRecDepth 1000000 in
theorem e157_k : forkRun Tryz.prog noKs (gcall Tryz.prog noKs K1 3000) 3000 e157 Tryz.f157 (cL b157) (cL (cR b157)) (cL (cR (cR b157))) (cL (cR (cR (cR b157)))) (cL (cL (cR (cR (cR (cR b157)))))) 0 5 (cOps (cL l157)) [1] o157 (.tmp 11) (cR l157) (cR (cR (cR (cR (cR b157))))) = true := by kernel_rfl

theorem body157 : Tryz.f157.body = some ((cL b157).seq ((cL (cR b157)).seq ((cL (cR (cR b157))).seq ((cL (cR (cR (cR b157)))).seq (((cL (cL (cR (cR (cR (cR b157)))))).seq (.block 0 (.loop (.seq (.region 5 (cOps (cL l157)) false) (cR l157))))).seq (cR (cR (cR (cR (cR b157)))))))))) := by kernel_rfl

theorem e157_ok (base : Nat) : EntOK Tryz.prog base e157 :=
  fork_sound mixed noKs (gcall_both mixed exts noKs (K1_ok base) 3000).1 (gcall_both mixed exts noKs (K1_ok base) 3000).2 (fn := Tryz.f157) Tryz.func157 body157 (o0 := o157) (by kernel_rfl) (by kernel_rfl) (by kernel_rfl) (by kernel_rfl) e157_k

end Go.Proofs.YthhhmmildgijhaaGreatDoorAI
set_option linter.unusedVariables false
namespace Go.Proofs.YthhhmmildgijhaaGreatDoorAI
open Go

noncomputable def K2 : Look := orL K1 (hlook [e157])
theorem K2_ok (base : Nat) : LookOK Tryz.prog base K2 := .or (K1_ok base) (.ents (.cons (e157_ok base) .nil))

set_option maxRecDepth 1000000 in
theorem e3_k : endsSo e127_3.v e127_3.cnt' e127_3.outs (gcall Tryz.prog noKs K2 3000 e127_3.g e127_3.args (mkH e127_3.cnt e127_3.ins)) = true := by kernel_rfl
set_option maxRecDepth 1000000 in
theorem e4_k : endsSo e127_4.v e127_4.cnt' e127_4.outs (gcall Tryz.prog noKs K1 3000 e127_4.g e127_4.args (mkH e127_4.cnt e127_4.ins)) = true := by kernel_rfl
set_option maxRecDepth 1000000 in
theorem e7_k : endsSo e127_7.v e127_7.cnt' e127_7.outs (gcall Tryz.prog noKs K1 3000 e127_7.g e127_7.args (mkH e127_7.cnt e127_7.ins)) = true := by kernel_rfl
set_option maxRecDepth 1000000 in
theorem e9_k : endsSo e127_9.v e127_9.cnt' e127_9.outs (gcall Tryz.prog noKs K1 3000 e127_9.g e127_9.args (mkH e127_9.cnt e127_9.ins)) = true := by kernel_rfl

end Go.Proofs.YthhhmmildgijhaaGreatDoorAI
