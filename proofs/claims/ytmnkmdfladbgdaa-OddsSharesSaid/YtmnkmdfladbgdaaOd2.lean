/- Odds: light operations told as equations. -/
import Derived.Test.YtmnkmdfladbgdaaProg
import Derived.Test.YtmnkmdfladbgdaaAI18
import Derived.Test.YtmnkmdfladbgdaaFl1
import Derived.KernelRfl
import Derived.Below
import Derived.IntWalk
set_option linter.unusedVariables false
set_option linter.unusedSimpArgs false
namespace Go.Proofs.Ytmnkmdfladbgdaa.Od
open Go Go.Proofs Go.RowKit Go.Proofs.YtmnkmdfladbgdaaAI Go.Proofs.YtmnkmdfladbgdaaFl

theorem mix : Try.prog.follows .mixedOrders = true := by kernel_rfl
theorem wakes (s : Scr) (hs : s = fun _ _ => []) : ∃ h', run Try.prog s 9 [] .empty = some (.bool true, h') := by subst hs; exact run_closed 3000 (by kernel_rfl) rfl
theorem en (f : Nat) (h : enters Try.prog f = true) : enters Try.prog f = true := h
theorem en23 : enters Try.prog 23 = false := by kernel_rfl
theorem en18 : enters Try.prog 18 = false := by kernel_rfl
theorem bz {n : Nat} (h : n < 18446744073709551616) : Nat.blt n (2 ^ 64) = true := blt_t h
theorem pure_of {P : Program} {ρ : Operand → Value} {o : Oper} {v : Value} (h1 : isSelect o.op = false) (h2 : o.op.operands.toList.all (fun x => plain (ρ x)) = true) (h3 : pureRun P (execOp ρ o) = some (.value v)) (h4 : plain v = true) : purerule P ρ o = some v := by
  simp [purerule, h1, h2, h3, h4]
theorem plf {n : Nat} (h : n < 18446744073709551616) : plain (.float .f64 n) = true := by have := blt_t h; simp only [plain, plainN]; exact this
theorem pli (k : IntKind) (n : Int) : plain (.int k n) = true := rfl
theorem plb (b : Bool) : plain (.bool b) = true := rfl
theorem plF (f : FuncId) : plain (.func (.func f) #[] #[]) = true := rfl
theorem aF (t : Tm) (f : FuncId) : aeval t (.func f) = .func (.func f) #[] #[] := rfl
theorem fb23' (n : Nat) : pureRun Try.prog (do let d ← Deferred.ofValue (.func (.func 23) #[] #[]) #[.int .u64 n]; invoke d.target d.args) = some (.value (.float .f64 n)) := by kernel_rfl
theorem fb23 (t : Tm) (x : Operand) (n : Nat) (hx : aeval t x = .int .u64 n) (hn : n < 18446744073709551616) (d ty pos af gu) : purerule Try.prog (aeval t) ⟨d, .call ⟨.value (.func 23), #[x], #[37]⟩, ty, pos, af, gu⟩ = some (.float .f64 n) := by
  refine pure_of rfl ?_ ?_ (by first | exact plf hn | rfl)
  · simp [Op.operands, Call.operands, hx, plf hn, pli, aF, plF]
  · have : execOp (aeval t) ⟨d, .call ⟨.value (.func 23), #[x], #[37]⟩, ty, pos, af, gu⟩ = (do let d ← Deferred.ofValue (.func (.func 23) #[] #[]) #[aeval t x]; invoke d.target d.args) := by simp [execOp, resolve, aF]
    rw [this, hx]; exact fb23' n
theorem fb18' (n : Nat) : pureRun Try.prog (do let d ← Deferred.ofValue (.func (.func 18) #[] #[]) #[.float .f64 n]; invoke d.target d.args) = some (.value (.int .u64 n)) := by kernel_rfl
theorem fb18 (t : Tm) (x : Operand) (n : Nat) (hx : aeval t x = .float .f64 n) (hn : n < 18446744073709551616) (d ty pos af gu) : purerule Try.prog (aeval t) ⟨d, .call ⟨.value (.func 18), #[x], #[34]⟩, ty, pos, af, gu⟩ = some (.int .u64 n) := by
  refine pure_of rfl ?_ ?_ (by first | exact plf hn | rfl)
  · simp [Op.operands, Call.operands, hx, plf hn, pli, aF, plF]
  · have : execOp (aeval t) ⟨d, .call ⟨.value (.func 18), #[x], #[34]⟩, ty, pos, af, gu⟩ = (do let d ← Deferred.ofValue (.func (.func 18) #[] #[]) #[aeval t x]; invoke d.target d.args) := by simp [execOp, resolve, aF]
    rw [this, hx]; exact fb18' n
theorem fneq' (x y : Operand) (a b : Nat) : pureRun Try.prog (do let z ← (do eqGuard .neq 34 x y (.float .f64 a) (.float .f64 b); binOp .neq 34 (.float .f64 a) (.float .f64 b)); pure (Next.value z)) = some (.value (.bool (Ieee.double.order a b != some .eq))) := by kernel_rfl
theorem fneq (t : Tm) (x y : Operand) (a b : Nat) (hx : aeval t x = .float .f64 a) (hy : aeval t y = .float .f64 b) (ha : a < 18446744073709551616) (hb : b < 18446744073709551616) (d r ty pos af gu) : purerule Try.prog (aeval t) ⟨d, .binOp .neq 34 x y r, ty, pos, af, gu⟩ = some (.bool (Ieee.double.order a b != some .eq)) := by
  refine pure_of rfl ?_ ?_ rfl
  · simp [Op.operands, hx, hy, plf ha, plf hb]
  · have : execOp (aeval t) ⟨d, .binOp .neq 34 x y r, ty, pos, af, gu⟩ = (do let z ← (do eqGuard .neq 34 x y (aeval t x) (aeval t y); binOp .neq 34 (aeval t x) (aeval t y)); pure (Next.value z)) := by simp [execOp]
    rw [this, hx, hy]; exact fneq' x y a b
theorem flss' (x y : Operand) (a b : Nat) : pureRun Try.prog (do let z ← (do eqGuard .lss 34 x y (.float .f64 a) (.float .f64 b); binOp .lss 34 (.float .f64 a) (.float .f64 b)); pure (Next.value z)) = some (.value (.bool (Ieee.double.order a b == some .lt))) := by kernel_rfl
theorem flss (t : Tm) (x y : Operand) (a b : Nat) (hx : aeval t x = .float .f64 a) (hy : aeval t y = .float .f64 b) (ha : a < 18446744073709551616) (hb : b < 18446744073709551616) (d r ty pos af gu) : purerule Try.prog (aeval t) ⟨d, .binOp .lss 34 x y r, ty, pos, af, gu⟩ = some (.bool (Ieee.double.order a b == some .lt)) := by
  refine pure_of rfl ?_ ?_ rfl
  · simp [Op.operands, hx, hy, plf ha, plf hb]
  · have : execOp (aeval t) ⟨d, .binOp .lss 34 x y r, ty, pos, af, gu⟩ = (do let z ← (do eqGuard .lss 34 x y (aeval t x) (aeval t y); binOp .lss 34 (aeval t x) (aeval t y)); pure (Next.value z)) := by simp [execOp]
    rw [this, hx, hy]; exact flss' x y a b
theorem fgtr' (x y : Operand) (a b : Nat) : pureRun Try.prog (do let z ← (do eqGuard .gtr 34 x y (.float .f64 a) (.float .f64 b); binOp .gtr 34 (.float .f64 a) (.float .f64 b)); pure (Next.value z)) = some (.value (.bool (Ieee.double.order a b == some .gt))) := by kernel_rfl
theorem fgtr (t : Tm) (x y : Operand) (a b : Nat) (hx : aeval t x = .float .f64 a) (hy : aeval t y = .float .f64 b) (ha : a < 18446744073709551616) (hb : b < 18446744073709551616) (d r ty pos af gu) : purerule Try.prog (aeval t) ⟨d, .binOp .gtr 34 x y r, ty, pos, af, gu⟩ = some (.bool (Ieee.double.order a b == some .gt)) := by
  refine pure_of rfl ?_ ?_ rfl
  · simp [Op.operands, hx, hy, plf ha, plf hb]
  · have : execOp (aeval t) ⟨d, .binOp .gtr 34 x y r, ty, pos, af, gu⟩ = (do let z ← (do eqGuard .gtr 34 x y (aeval t x) (aeval t y); binOp .gtr 34 (aeval t x) (aeval t y)); pure (Next.value z)) := by simp [execOp]
    rw [this, hx, hy]; exact fgtr' x y a b
theorem neq4' (x y : Operand) (a b : Bool) : pureRun Try.prog (do let z ← (do eqGuard .neq 4 x y (.bool a) (.bool b); binOp .neq 4 (.bool a) (.bool b)); pure (Next.value z)) = some (.value (.bool (a != b))) := by kernel_rfl
theorem neq4 (t : Tm) (x y : Operand) (a b : Bool) (hx : aeval t x = .bool a) (hy : aeval t y = .bool b) (d r ty pos af gu) : purerule Try.prog (aeval t) ⟨d, .binOp .neq 4 x y r, ty, pos, af, gu⟩ = some (.bool (a != b)) := by
  refine pure_of rfl ?_ ?_ rfl
  · simp [Op.operands, hx, hy, plb, pli]
  · have : execOp (aeval t) ⟨d, .binOp .neq 4 x y r, ty, pos, af, gu⟩ = (do let z ← (do eqGuard .neq 4 x y (aeval t x) (aeval t y); binOp .neq 4 (aeval t x) (aeval t y)); pure (Next.value z)) := by simp [execOp]
    rw [this, hx, hy]; exact neq4' x y a b
theorem eql4' (x y : Operand) (a b : Bool) : pureRun Try.prog (do let z ← (do eqGuard .eql 4 x y (.bool a) (.bool b); binOp .eql 4 (.bool a) (.bool b)); pure (Next.value z)) = some (.value (.bool (a == b))) := by kernel_rfl
theorem eql4 (t : Tm) (x y : Operand) (a b : Bool) (hx : aeval t x = .bool a) (hy : aeval t y = .bool b) (d r ty pos af gu) : purerule Try.prog (aeval t) ⟨d, .binOp .eql 4 x y r, ty, pos, af, gu⟩ = some (.bool (a == b)) := by
  refine pure_of rfl ?_ ?_ rfl
  · simp [Op.operands, hx, hy, plb, pli]
  · have : execOp (aeval t) ⟨d, .binOp .eql 4 x y r, ty, pos, af, gu⟩ = (do let z ← (do eqGuard .eql 4 x y (aeval t x) (aeval t y); binOp .eql 4 (aeval t x) (aeval t y)); pure (Next.value z)) := by simp [execOp]
    rw [this, hx, hy]; exact eql4' x y a b
theorem cv37' (n : Int) : pureRun Try.prog (do let z ← convert 37 2 (.int .u64 n); pure (Next.value z)) = some (.value (.int .i64 (IntKind.i64.wrap n))) := by kernel_rfl
theorem cv37 (t : Tm) (x : Operand) (n : Int) (hx : aeval t x = .int .u64 n) (d ty pos af gu) : purerule Try.prog (aeval t) ⟨d, .convert 37 2 x, ty, pos, af, gu⟩ = some (.int .i64 (IntKind.i64.wrap n)) := by
  refine pure_of rfl ?_ ?_ rfl
  · simp [Op.operands, hx, pli]
  · have : execOp (aeval t) ⟨d, .convert 37 2 x, ty, pos, af, gu⟩ = (do let z ← convert 37 2 (aeval t x); pure (Next.value z)) := by simp [execOp]
    rw [this, hx]; exact cv37' n
theorem feql' (x y : Operand) (a b : Nat) : pureRun Try.prog (do let z ← (do eqGuard .eql 34 x y (.float .f64 a) (.float .f64 b); binOp .eql 34 (.float .f64 a) (.float .f64 b)); pure (Next.value z)) = some (.value (.bool (Ieee.double.order a b == some .eq))) := by kernel_rfl
theorem feql (t : Tm) (x y : Operand) (a b : Nat) (hx : aeval t x = .float .f64 a) (hy : aeval t y = .float .f64 b) (ha : a < 18446744073709551616) (hb : b < 18446744073709551616) (d r ty pos af gu) : purerule Try.prog (aeval t) ⟨d, .binOp .eql 34 x y r, ty, pos, af, gu⟩ = some (.bool (Ieee.double.order a b == some .eq)) := by
  refine pure_of rfl ?_ ?_ rfl
  · simp [Op.operands, hx, hy, plf ha, plf hb]
  · have : execOp (aeval t) ⟨d, .binOp .eql 34 x y r, ty, pos, af, gu⟩ = (do let z ← (do eqGuard .eql 34 x y (aeval t x) (aeval t y); binOp .eql 34 (aeval t x) (aeval t y)); pure (Next.value z)) := by simp [execOp]
    rw [this, hx, hy]; exact feql' x y a b
theorem fgeq' (x y : Operand) (a b : Nat) : pureRun Try.prog (do let z ← (do eqGuard .geq 34 x y (.float .f64 a) (.float .f64 b); binOp .geq 34 (.float .f64 a) (.float .f64 b)); pure (Next.value z)) = some (.value (.bool (Ieee.double.order a b == some .gt || Ieee.double.order a b == some .eq))) := by kernel_rfl
theorem fgeq (t : Tm) (x y : Operand) (a b : Nat) (hx : aeval t x = .float .f64 a) (hy : aeval t y = .float .f64 b) (ha : a < 18446744073709551616) (hb : b < 18446744073709551616) (d r ty pos af gu) : purerule Try.prog (aeval t) ⟨d, .binOp .geq 34 x y r, ty, pos, af, gu⟩ = some (.bool (Ieee.double.order a b == some .gt || Ieee.double.order a b == some .eq)) := by
  refine pure_of rfl ?_ ?_ rfl
  · simp [Op.operands, hx, hy, plf ha, plf hb]
  · have : execOp (aeval t) ⟨d, .binOp .geq 34 x y r, ty, pos, af, gu⟩ = (do let z ← (do eqGuard .geq 34 x y (aeval t x) (aeval t y); binOp .geq 34 (aeval t x) (aeval t y)); pure (Next.value z)) := by simp [execOp]
    rw [this, hx, hy]; exact fgeq' x y a b
def fop (r : Option Nat) (a b : Nat) : Sem Next := do
  let z ← (match r with | some r => pure (Value.float .f64 r) | none => do pure (Value.float .f64 (← choose (.nanBits .f64 a b))) : Sem Value)
  pure (Next.value z)
theorem fop_ok (a b c : Nat) : pureRun Try.prog (fop (some c) a b) = some (.value (.float .f64 c)) := by kernel_rfl
theorem fadd' (x y : Operand) (a b c : Nat) (h : Ieee.double.add a b = some c) : pureRun Try.prog (do let z ← (do eqGuard .add 34 x y (.float .f64 a) (.float .f64 b); binOp .add 34 (.float .f64 a) (.float .f64 b)); pure (Next.value z)) = some (.value (.float .f64 c)) := by
  have e : (do let z ← (do eqGuard .add 34 x y (.float .f64 a) (.float .f64 b); binOp .add 34 (.float .f64 a) (.float .f64 b)); pure (Next.value z) : Sem Next) = fop (Ieee.double.add a b) a b := by kernel_rfl
  rw [e, h]; exact fop_ok a b c
theorem fadd (t : Tm) (x y : Operand) (a b c : Nat) (hx : aeval t x = .float .f64 a) (hy : aeval t y = .float .f64 b) (ha : a < 18446744073709551616) (hb : b < 18446744073709551616) (hc : c < 18446744073709551616) (h : Ieee.double.add a b = some c) (d r ty pos af gu) : purerule Try.prog (aeval t) ⟨d, .binOp .add 34 x y r, ty, pos, af, gu⟩ = some (.float .f64 c) := by
  refine pure_of rfl ?_ ?_ (plf hc)
  · simp [Op.operands, hx, hy, plf ha, plf hb]
  · have : execOp (aeval t) ⟨d, .binOp .add 34 x y r, ty, pos, af, gu⟩ = (do let z ← (do eqGuard .add 34 x y (aeval t x) (aeval t y); binOp .add 34 (aeval t x) (aeval t y)); pure (Next.value z)) := by simp [execOp]
    rw [this, hx, hy]; exact fadd' x y a b c h
theorem fmul' (x y : Operand) (a b c : Nat) (h : Ieee.double.mul a b = some c) : pureRun Try.prog (do let z ← (do eqGuard .mul 34 x y (.float .f64 a) (.float .f64 b); binOp .mul 34 (.float .f64 a) (.float .f64 b)); pure (Next.value z)) = some (.value (.float .f64 c)) := by
  have e : (do let z ← (do eqGuard .mul 34 x y (.float .f64 a) (.float .f64 b); binOp .mul 34 (.float .f64 a) (.float .f64 b)); pure (Next.value z) : Sem Next) = fop (Ieee.double.mul a b) a b := by kernel_rfl
  rw [e, h]; exact fop_ok a b c
theorem fmul (t : Tm) (x y : Operand) (a b c : Nat) (hx : aeval t x = .float .f64 a) (hy : aeval t y = .float .f64 b) (ha : a < 18446744073709551616) (hb : b < 18446744073709551616) (hc : c < 18446744073709551616) (h : Ieee.double.mul a b = some c) (d r ty pos af gu) : purerule Try.prog (aeval t) ⟨d, .binOp .mul 34 x y r, ty, pos, af, gu⟩ = some (.float .f64 c) := by
  refine pure_of rfl ?_ ?_ (plf hc)
  · simp [Op.operands, hx, hy, plf ha, plf hb]
  · have : execOp (aeval t) ⟨d, .binOp .mul 34 x y r, ty, pos, af, gu⟩ = (do let z ← (do eqGuard .mul 34 x y (aeval t x) (aeval t y); binOp .mul 34 (aeval t x) (aeval t y)); pure (Next.value z)) := by simp [execOp]
    rw [this, hx, hy]; exact fmul' x y a b c h
theorem fquo' (x y : Operand) (a b c : Nat) (h : Ieee.double.div a b = some c) : pureRun Try.prog (do let z ← (do eqGuard .quo 34 x y (.float .f64 a) (.float .f64 b); binOp .quo 34 (.float .f64 a) (.float .f64 b)); pure (Next.value z)) = some (.value (.float .f64 c)) := by
  have e : (do let z ← (do eqGuard .quo 34 x y (.float .f64 a) (.float .f64 b); binOp .quo 34 (.float .f64 a) (.float .f64 b)); pure (Next.value z) : Sem Next) = fop (Ieee.double.div a b) a b := by kernel_rfl
  rw [e, h]; exact fop_ok a b c
theorem fquo (t : Tm) (x y : Operand) (a b c : Nat) (hx : aeval t x = .float .f64 a) (hy : aeval t y = .float .f64 b) (ha : a < 18446744073709551616) (hb : b < 18446744073709551616) (hc : c < 18446744073709551616) (h : Ieee.double.div a b = some c) (d r ty pos af gu) : purerule Try.prog (aeval t) ⟨d, .binOp .quo 34 x y r, ty, pos, af, gu⟩ = some (.float .f64 c) := by
  refine pure_of rfl ?_ ?_ (plf hc)
  · simp [Op.operands, hx, hy, plf ha, plf hb]
  · have : execOp (aeval t) ⟨d, .binOp .quo 34 x y r, ty, pos, af, gu⟩ = (do let z ← (do eqGuard .quo 34 x y (aeval t x) (aeval t y); binOp .quo 34 (aeval t x) (aeval t y)); pure (Next.value z)) := by simp [execOp]
    rw [this, hx, hy]; exact fquo' x y a b c h
theorem cv3f' (n : Nat) : pureRun Try.prog (do let z ← convert 3 34 (.int .i64 (n : Int)); pure (Next.value z)) = some (.value (.float .f64 (FloatKind.f64.nearest (n : Int)))) := by kernel_rfl
theorem cv3f (t : Tm) (x : Operand) (n : Nat) (hx : aeval t x = .int .i64 (n : Int)) (c : Nat) (hc : FloatKind.f64.nearest (n : Int) = c) (hb : c < 18446744073709551616) (d ty pos af gu) : purerule Try.prog (aeval t) ⟨d, .convert 3 34 x, ty, pos, af, gu⟩ = some (.float .f64 c) := by
  refine pure_of rfl ?_ ?_ (plf hb)
  · simp [Op.operands, hx, pli]
  · have : execOp (aeval t) ⟨d, .convert 3 34 x, ty, pos, af, gu⟩ = (do let z ← convert 3 34 (aeval t x); pure (Next.value z)) := by simp [execOp]
    rw [this, hx, ← hc]; exact cv3f' n
end Go.Proofs.Ytmnkmdfladbgdaa.Od
