/- The exploration of a text in all orders, told. -/
import Derived.Test.YthhhmmildgijhaaGreatDoorGE9
import Derived.Test.YthhhmmildgijhaaGreatDoorGR0
import Derived.Test.YthhhmmildgijhaaGreatDoorGR1
import Derived.Test.YthhhmmildgijhaaGreatDoorGR2
import Derived.Test.YthhhmmildgijhaaGreatDoorAF9
set_option linter.unusedVariables false
namespace Go.Proofs.YthhhmmildgijhaaGreatDoorAI
open Go

noncomputable def K4 : Look := orL K1 (orL (flook [f66]) (hlook [e12_0, e12_1]))
theorem K4_ok (base : Nat) : LookOK Tryz.prog base K4 :=
  .or (K1_ok base) (.or (.fres (.cons (.run mixed exts noKs (K3_ok base) f66_k) .nil)) (.ents (.cons (.run mixed exts noKs (K1_ok base) r0_k) (.cons (.run mixed exts noKs (K1_ok base) r1_k) .nil))))

noncomputable def cAsg : Code → Code | .rangeFunc _ _ a _ => a | c => c
noncomputable def cBdy : Code → Code | .rangeFunc _ _ _ b => b | c => c
noncomputable def b21 : Code := body_ Tryz.f21
noncomputable def b63 : Code := body_ Tryz.f63
noncomputable def z21 : Code := cR (cR (cR (cR b21)))
noncomputable def l63 : Code := cB (cB (cR (cR b63)))
noncomputable def i63 : Code := cB (cR l63)
noncomputable def y63 : Code := cR (cR (cR i63))
noncomputable def R20 : Rng where
  gB := 63
  fnA := Tryz.f21
  fnB := Tryz.f63
  c0 := cL b21
  c1 := cL (cR b21)
  c2 := cL (cR (cR b21))
  c3 := cL (cR (cR (cR b21)))
  c4 := cL (cL z21)
  i := 0
  g := .tmp 31
  p1 := 32
  p2 := 33
  asg := cAsg (cB (cR (cL z21)))
  bdy := cBdy (cB (cR (cL z21)))
  Z := cR z21
  d0 := cL b63
  d1 := cL (cR b63)
  j := 0
  m := 1
  e0 := cL l63
  e1 := cL i63
  e2 := cL (cR i63)
  e3 := cL (cR (cR i63))
  e4 := cR y63
  id := 6
  ops := cOps (cL y63)
  is := [0, 1, 2]
  js := [4]
  iy := 3
  oy := ((cOps (cL y63))[3]?).getD default
  yf := .tmp 27
  x := .tmp 28
  y := .tmp 29

theorem body21 : Tryz.f21.body = some R20.bodyA := by kernel_rfl
theorem body63 : Tryz.f63.body = some R20.bodyB := by kernel_rfl

set_option maxRecDepth 1000000 in
theorem f21_k (l : Nat) : rngA Tryz.prog noKs (gcall Tryz.prog noKs K4 3000) 3000 f21 R20 l = some [l, l] := by kernel_rfl

theorem f21_ok (base : Nat) : FreOK Tryz.prog base f21 :=
  rng_sound (R := R20) (ty := #[37, 4]) mixed noKs (gcall_both mixed exts noKs (K4_ok base) 3000).1 (gcall_both mixed exts noKs (K4_ok base) 3000).2 (by kernel_rfl) (by kernel_rfl) (by kernel_rfl) (by kernel_rfl) (by kernel_rfl) Tryz.func21 body21 Tryz.func63 body63 f21_k

/-- The calls that are told of the closed run. -/
noncomputable def K5 : Look := orL K1 (orL (flook [f21, f66]) (hlook [e12_2]))
theorem K5_ok (base : Nat) : LookOK Tryz.prog base K5 :=
  .or (K1_ok base) (.or (.fres (.cons (f21_ok base) (.cons (.run mixed exts noKs (K3_ok base) f66_k) .nil))) (.ents (.cons (.run mixed exts noKs (K1_ok base) r2_k) .nil)))

set_option maxRecDepth 1000000 in
theorem wakes20_k : isV (.bool true) (gcall Tryz.prog noKs K5 3000 5 [] .empty) = true := by kernel_rfl

end Go.Proofs.YthhhmmildgijhaaGreatDoorAI
