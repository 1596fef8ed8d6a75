/- Layer 10 without memory: what the interpreter answers; and the order of two floats. -/
import Derived.Test.YthkefkpmgleolabProg
import Derived.Test.YthkefkpmgleolabAI18
import Derived.Test.YthkefkpmgleolabFl1
import Derived.KernelRfl
import Derived.Below
import Derived.IntWalk
set_option linter.unusedVariables false
set_option linter.unusedSimpArgs false
namespace Go.Proofs.Ythkefkpmgleolab.Bi
open Go Go.Proofs Go.RowKit Go.Proofs.YthkefkpmgleolabAI Go.Proofs.YthkefkpmgleolabFl

theorem mix : Try.prog.follows .mixedOrders = true := by kernel_rfl
theorem wakes (s : Scr) (hs : s = fun _ _ => []) : ∃ h', run Try.prog s 11 [] .empty = some (.bool true, h') := by subst hs; exact run_closed 1000 (by kernel_rfl) rfl
theorem en (f : Nat) (h : enters Try.prog f = true) : enters Try.prog f = true := h
theorem en25 : enters Try.prog 25 = false := by kernel_rfl
theorem en17 : enters Try.prog 17 = false := by kernel_rfl
theorem bz {n : Nat} (h : n < 18446744073709551616) : Nat.blt n (2 ^ 64) = true := blt_t h
theorem pure_of {P : Program} {ρ : Operand → Value} {o : Oper} {v : Value} (h1 : isSelect o.op = false) (h2 : o.op.operands.toList.all (fun x => plain (ρ x)) = true) (h3 : pureRun P (execOp ρ o) = some (.value v)) (h4 : plain v = true) : purerule P ρ o = some v := by
  simp [purerule, h1, h2, h3, h4]
theorem plf {n : Nat} (h : n < 18446744073709551616) : plain (.float .f64 n) = true := by have := blt_t h; simp only [plain, plainN]; exact this
theorem pli (k : IntKind) (n : Int) : plain (.int k n) = true := rfl
theorem plb (b : Bool) : plain (.bool b) = true := rfl
theorem plF (f : FuncId) : plain (.func (.func f) #[] #[]) = true := rfl
theorem aF (t : Tm) (f : FuncId) : aeval t (.func f) = .func (.func f) #[] #[] := rfl
theorem fb25' (n : Nat) : pureRun Try.prog (do let d ← Deferred.ofValue (.func (.func 25) #[] #[]) #[.int .u64 n]; invoke d.target d.args) = some (.value (.float .f64 n)) := by kernel_rfl
theorem fb25 (t : Tm) (x : Operand) (n : Nat) (hx : aeval t x = .int .u64 n) (hn : n < 18446744073709551616) (d ty pos af gu) : purerule Try.prog (aeval t) ⟨d, .call ⟨.value (.func 25), #[x], #[32]⟩, ty, pos, af, gu⟩ = some (.float .f64 n) := by
  refine pure_of rfl ?_ ?_ (by first | exact plf hn | rfl)
  · simp [Op.operands, Call.operands, hx, plf hn, pli, aF, plF]
  · have : execOp (aeval t) ⟨d, .call ⟨.value (.func 25), #[x], #[32]⟩, ty, pos, af, gu⟩ = (do let d ← Deferred.ofValue (.func (.func 25) #[] #[]) #[aeval t x]; invoke d.target d.args) := by simp [execOp, resolve, aF]
    rw [this, hx]; exact fb25' n
theorem fb17' (n : Nat) : pureRun Try.prog (do let d ← Deferred.ofValue (.func (.func 17) #[] #[]) #[.float .f64 n]; invoke d.target d.args) = some (.value (.int .u64 n)) := by kernel_rfl
theorem fb17 (t : Tm) (x : Operand) (n : Nat) (hx : aeval t x = .float .f64 n) (hn : n < 18446744073709551616) (d ty pos af gu) : purerule Try.prog (aeval t) ⟨d, .call ⟨.value (.func 17), #[x], #[34]⟩, ty, pos, af, gu⟩ = some (.int .u64 n) := by
  refine pure_of rfl ?_ ?_ (by first | exact plf hn | rfl)
  · simp [Op.operands, Call.operands, hx, plf hn, pli, aF, plF]
  · have : execOp (aeval t) ⟨d, .call ⟨.value (.func 17), #[x], #[34]⟩, ty, pos, af, gu⟩ = (do let d ← Deferred.ofValue (.func (.func 17) #[] #[]) #[aeval t x]; invoke d.target d.args) := by simp [execOp, resolve, aF]
    rw [this, hx]; exact fb17' n
theorem fneq' (x y : Operand) (a b : Nat) : pureRun Try.prog (do let z ← (do eqGuard .neq 34 x y (.float .f64 a) (.float .f64 b); binOp .neq 34 (.float .f64 a) (.float .f64 b)); pure (Next.value z)) = some (.value (.bool (Ieee.double.order a b != some .eq))) := by kernel_rfl
theorem fneq (t : Tm) (x y : Operand) (a b : Nat) (hx : aeval t x = .float .f64 a) (hy : aeval t y = .float .f64 b) (ha : a < 18446744073709551616) (hb : b < 18446744073709551616) (d r ty pos af gu) : purerule Try.prog (aeval t) ⟨d, .binOp .neq 34 x y r, ty, pos, af, gu⟩ = some (.bool (Ieee.double.order a b != some .eq)) := by
  refine pure_of rfl ?_ ?_ rfl
  · simp [Op.operands, hx, hy, plf ha, plf hb]
  · have : execOp (aeval t) ⟨d, .binOp .neq 34 x y r, ty, pos, af, gu⟩ = (do let z ← (do eqGuard .neq 34 x y (aeval t x) (aeval t y); binOp .neq 34 (aeval t x) (aeval t y)); pure (Next.value z)) := by simp [execOp]
    rw [this, hx, hy]; exact fneq' x y a b
theorem flss' (x y : Operand) (a b : Nat) : pureRun Try.prog (do let z ← (do eqGuard .lss 34 x y (.float .f64 a) (.float .f64 b); binOp .lss 34 (.float .f64 a) (.float .f64 b)); pure (Next.value z)) = some (.value (.bool (Ieee.double.order a b == some .lt))) := by kernel_rfl
theorem flss (t : Tm) (x y : Operand) (a b : Nat) (hx : aeval t x = .float .f64 a) (hy : aeval t y = .float .f64 b) (ha : a < 18446744073709551616) (hb : b < 18446744073709551616) (d r ty pos af gu) : purerule Try.prog (aeval t) ⟨d, .binOp .lss 34 x y r, ty, pos, af, gu⟩ = some (.bool (Ieee.double.order a b == some .lt)) := by
  refine pure_of rfl ?_ ?_ rfl
  · simp [Op.operands, hx, hy, plf ha, plf hb]
  · have : execOp (aeval t) ⟨d, .binOp .lss 34 x y r, ty, pos, af, gu⟩ = (do let z ← (do eqGuard .lss 34 x y (aeval t x) (aeval t y); binOp .lss 34 (aeval t x) (aeval t y)); pure (Next.value z)) := by simp [execOp]
    rw [this, hx, hy]; exact flss' x y a b
theorem fgtr' (x y : Operand) (a b : Nat) : pureRun Try.prog (do let z ← (do eqGuard .gtr 34 x y (.float .f64 a) (.float .f64 b); binOp .gtr 34 (.float .f64 a) (.float .f64 b)); pure (Next.value z)) = some (.value (.bool (Ieee.double.order a b == some .gt))) := by kernel_rfl
theorem fgtr (t : Tm) (x y : Operand) (a b : Nat) (hx : aeval t x = .float .f64 a) (hy : aeval t y = .float .f64 b) (ha : a < 18446744073709551616) (hb : b < 18446744073709551616) (d r ty pos af gu) : purerule Try.prog (aeval t) ⟨d, .binOp .gtr 34 x y r, ty, pos, af, gu⟩ = some (.bool (Ieee.double.order a b == some .gt)) := by
  refine pure_of rfl ?_ ?_ rfl
  · simp [Op.operands, hx, hy, plf ha, plf hb]
  · have : execOp (aeval t) ⟨d, .binOp .gtr 34 x y r, ty, pos, af, gu⟩ = (do let z ← (do eqGuard .gtr 34 x y (aeval t x) (aeval t y); binOp .gtr 34 (aeval t x) (aeval t y)); pure (Next.value z)) := by simp [execOp]
    rw [this, hx, hy]; exact fgtr' x y a b
theorem neq4' (x y : Operand) (a b : Bool) : pureRun Try.prog (do let z ← (do eqGuard .neq 4 x y (.bool a) (.bool b); binOp .neq 4 (.bool a) (.bool b)); pure (Next.value z)) = some (.value (.bool (a != b))) := by kernel_rfl
theorem neq4 (t : Tm) (x y : Operand) (a b : Bool) (hx : aeval t x = .bool a) (hy : aeval t y = .bool b) (d r ty pos af gu) : purerule Try.prog (aeval t) ⟨d, .binOp .neq 4 x y r, ty, pos, af, gu⟩ = some (.bool (a != b)) := by
  refine pure_of rfl ?_ ?_ rfl
  · simp [Op.operands, hx, hy, plb, pli]
  · have : execOp (aeval t) ⟨d, .binOp .neq 4 x y r, ty, pos, af, gu⟩ = (do let z ← (do eqGuard .neq 4 x y (aeval t x) (aeval t y); binOp .neq 4 (aeval t x) (aeval t y)); pure (Next.value z)) := by simp [execOp]
    rw [this, hx, hy]; exact neq4' x y a b
theorem eql4' (x y : Operand) (a b : Bool) : pureRun Try.prog (do let z ← (do eqGuard .eql 4 x y (.bool a) (.bool b); binOp .eql 4 (.bool a) (.bool b)); pure (Next.value z)) = some (.value (.bool (a == b))) := by kernel_rfl
theorem eql4 (t : Tm) (x y : Operand) (a b : Bool) (hx : aeval t x = .bool a) (hy : aeval t y = .bool b) (d r ty pos af gu) : purerule Try.prog (aeval t) ⟨d, .binOp .eql 4 x y r, ty, pos, af, gu⟩ = some (.bool (a == b)) := by
  refine pure_of rfl ?_ ?_ rfl
  · simp [Op.operands, hx, hy, plb, pli]
  · have : execOp (aeval t) ⟨d, .binOp .eql 4 x y r, ty, pos, af, gu⟩ = (do let z ← (do eqGuard .eql 4 x y (aeval t x) (aeval t y); binOp .eql 4 (aeval t x) (aeval t y)); pure (Next.value z)) := by simp [execOp]
    rw [this, hx, hy]; exact eql4' x y a b
theorem cv32' (n : Int) : pureRun Try.prog (do let z ← convert 32 2 (.int .u64 n); pure (Next.value z)) = some (.value (.int .i64 (IntKind.i64.wrap n))) := by kernel_rfl
theorem cv32 (t : Tm) (x : Operand) (n : Int) (hx : aeval t x = .int .u64 n) (d ty pos af gu) : purerule Try.prog (aeval t) ⟨d, .convert 32 2 x, ty, pos, af, gu⟩ = some (.int .i64 (IntKind.i64.wrap n)) := by
  refine pure_of rfl ?_ ?_ rfl
  · simp [Op.operands, hx, pli]
  · have : execOp (aeval t) ⟨d, .convert 32 2 x, ty, pos, af, gu⟩ = (do let z ← convert 32 2 (aeval t x); pure (Next.value z)) := by simp [execOp]
    rw [this, hx]; exact cv32' n
end Go.Proofs.Ythkefkpmgleolab.Bi
