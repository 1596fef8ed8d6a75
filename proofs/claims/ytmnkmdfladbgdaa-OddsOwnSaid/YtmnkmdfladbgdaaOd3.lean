/- Odds: functions without memory. -/
import Derived.Test.YtmnkmdfladbgdaaProg
import Derived.Test.YtmnkmdfladbgdaaAI18
import Derived.Test.YtmnkmdfladbgdaaFl1
import Derived.KernelRfl
import Derived.Below
import Derived.IntWalk
set_option linter.unusedVariables false
set_option linter.unusedSimpArgs false
namespace Go.Proofs.Ytmnkmdfladbgdaa.Od
open Go Go.Proofs Go.RowKit Go.Proofs.YtmnkmdfladbgdaaAI Go.Proofs.YtmnkmdfladbgdaaFl

theorem mix : Try.prog.follows .mixedOrders = true := by kernel_rfl
theorem en (f : Nat) (h : enters Try.prog f = true) : enters Try.prog f = true := h
theorem en23 : enters Try.prog 23 = false := by kernel_rfl
theorem en18 : enters Try.prog 18 = false := by kernel_rfl
theorem fl_2 : isFl Try.prog .add 2 = false := by kernel_rfl
theorem fl_3 : isFl Try.prog .add 3 = false := by kernel_rfl
theorem fl_34 : isFl Try.prog .add 34 = true := by kernel_rfl
theorem fl_37 : isFl Try.prog .add 37 = false := by kernel_rfl
theorem fl_101 : isFl Try.prog .add 101 = false := by kernel_rfl
theorem pure_of {P : Program} {ρ : Operand → Value} {o : Oper} {v : Value} (h1 : isSelect o.op = false) (h2 : o.op.operands.toList.all (fun x => plain (ρ x)) = true) (h3 : pureRun P (execOp ρ o) = some (.value v)) (h4 : plain v = true) : purerule P ρ o = some v := by
  simp [purerule,h1,h2,h3,h4]
theorem plf {n : Nat} (h : n < 18446744073709551616) : plain (.float .f64 n) = true := by have := blt_t h; simp only [plain,plainN]; exact this
theorem pli (k : IntKind) (n : Int) : plain (.int k n) = true := rfl
theorem plb (b : Bool) : plain (.bool b) = true := rfl
theorem plF (f : FuncId) : plain (.func (.func f) #[] #[]) = true := rfl
theorem aF (t : Tm) (f : FuncId) : aeval t (.func f) = .func (.func f) #[] #[] := rfl
theorem fb23' (n : Nat) : pureRun Try.prog (do let d ← Deferred.ofValue (.func (.func 23) #[] #[]) #[.int .u64 n]; invoke d.target d.args) = some (.value (.float .f64 n)) := by kernel_rfl
theorem fb23 (t : Tm) (x : Operand) (n : Nat) (hx : aeval t x = .int .u64 n) (hn : n < 18446744073709551616) (d ty pos af gu) : purerule Try.prog (aeval t) ⟨d,.call ⟨.value (.func 23),#[x],#[37]⟩,ty,pos,af,gu⟩ = some (.float .f64 n) := by
  refine pure_of rfl ?_ ?_ (by first | exact plf hn | rfl)
  · simp [Op.operands,Call.operands,hx,plf hn,pli,aF,plF]
  · have : execOp (aeval t) ⟨d,.call ⟨.value (.func 23),#[x],#[37]⟩,ty,pos,af,gu⟩ = (do let d ← Deferred.ofValue (.func (.func 23) #[] #[]) #[aeval t x]; invoke d.target d.args) := by simp [execOp,resolve,aF]
    rw [this,hx]; exact fb23' n
theorem fb18' (n : Nat) : pureRun Try.prog (do let d ← Deferred.ofValue (.func (.func 18) #[] #[]) #[.float .f64 n]; invoke d.target d.args) = some (.value (.int .u64 n)) := by kernel_rfl
theorem fb18 (t : Tm) (x : Operand) (n : Nat) (hx : aeval t x = .float .f64 n) (hn : n < 18446744073709551616) (d ty pos af gu) : purerule Try.prog (aeval t) ⟨d,.call ⟨.value (.func 18),#[x],#[34]⟩,ty,pos,af,gu⟩ = some (.int .u64 n) := by
  refine pure_of rfl ?_ ?_ (by first | exact plf hn | rfl)
  · simp [Op.operands,Call.operands,hx,plf hn,pli,aF,plF]
  · have : execOp (aeval t) ⟨d,.call ⟨.value (.func 18),#[x],#[34]⟩,ty,pos,af,gu⟩ = (do let d ← Deferred.ofValue (.func (.func 18) #[] #[]) #[aeval t x]; invoke d.target d.args) := by simp [execOp,resolve,aF]
    rw [this,hx]; exact fb18' n
theorem fneq' (x y : Operand) (a b : Nat) : pureRun Try.prog (do let z ← (do eqGuard .neq 34 x y (.float .f64 a) (.float .f64 b); binOp .neq 34 (.float .f64 a) (.float .f64 b)); pure (Next.value z)) = some (.value (.bool (Ieee.double.order a b != some .eq))) := by kernel_rfl
theorem fneq (t : Tm) (x y : Operand) (a b : Nat) (hx : aeval t x = .float .f64 a) (hy : aeval t y = .float .f64 b) (ha : a < 18446744073709551616) (hb : b < 18446744073709551616) (d r ty pos af gu) : purerule Try.prog (aeval t) ⟨d,.binOp .neq 34 x y r,ty,pos,af,gu⟩ = some (.bool (Ieee.double.order a b != some .eq)) := by
  refine pure_of rfl ?_ ?_ rfl
  · simp [Op.operands,hx,hy,plf ha,plf hb]
  · have : execOp (aeval t) ⟨d,.binOp .neq 34 x y r,ty,pos,af,gu⟩ = (do let z ← (do eqGuard .neq 34 x y (aeval t x) (aeval t y); binOp .neq 34 (aeval t x) (aeval t y)); pure (Next.value z)) := by simp [execOp]
    rw [this,hx,hy]; exact fneq' x y a b
theorem flss' (x y : Operand) (a b : Nat) : pureRun Try.prog (do let z ← (do eqGuard .lss 34 x y (.float .f64 a) (.float .f64 b); binOp .lss 34 (.float .f64 a) (.float .f64 b)); pure (Next.value z)) = some (.value (.bool (Ieee.double.order a b == some .lt))) := by kernel_rfl
theorem flss (t : Tm) (x y : Operand) (a b : Nat) (hx : aeval t x = .float .f64 a) (hy : aeval t y = .float .f64 b) (ha : a < 18446744073709551616) (hb : b < 18446744073709551616) (d r ty pos af gu) : purerule Try.prog (aeval t) ⟨d,.binOp .lss 34 x y r,ty,pos,af,gu⟩ = some (.bool (Ieee.double.order a b == some .lt)) := by
  refine pure_of rfl ?_ ?_ rfl
  · simp [Op.operands,hx,hy,plf ha,plf hb]
  · have : execOp (aeval t) ⟨d,.binOp .lss 34 x y r,ty,pos,af,gu⟩ = (do let z ← (do eqGuard .lss 34 x y (aeval t x) (aeval t y); binOp .lss 34 (aeval t x) (aeval t y)); pure (Next.value z)) := by simp [execOp]
    rw [this,hx,hy]; exact flss' x y a b
theorem fgtr' (x y : Operand) (a b : Nat) : pureRun Try.prog (do let z ← (do eqGuard .gtr 34 x y (.float .f64 a) (.float .f64 b); binOp .gtr 34 (.float .f64 a) (.float .f64 b)); pure (Next.value z)) = some (.value (.bool (Ieee.double.order a b == some .gt))) := by kernel_rfl
theorem fgtr (t : Tm) (x y : Operand) (a b : Nat) (hx : aeval t x = .float .f64 a) (hy : aeval t y = .float .f64 b) (ha : a < 18446744073709551616) (hb : b < 18446744073709551616) (d r ty pos af gu) : purerule Try.prog (aeval t) ⟨d,.binOp .gtr 34 x y r,ty,pos,af,gu⟩ = some (.bool (Ieee.double.order a b == some .gt)) := by
  refine pure_of rfl ?_ ?_ rfl
  · simp [Op.operands,hx,hy,plf ha,plf hb]
  · have : execOp (aeval t) ⟨d,.binOp .gtr 34 x y r,ty,pos,af,gu⟩ = (do let z ← (do eqGuard .gtr 34 x y (aeval t x) (aeval t y); binOp .gtr 34 (aeval t x) (aeval t y)); pure (Next.value z)) := by simp [execOp]
    rw [this,hx,hy]; exact fgtr' x y a b
theorem neq4' (x y : Operand) (a b : Bool) : pureRun Try.prog (do let z ← (do eqGuard .neq 4 x y (.bool a) (.bool b); binOp .neq 4 (.bool a) (.bool b)); pure (Next.value z)) = some (.value (.bool (a != b))) := by kernel_rfl
theorem neq4 (t : Tm) (x y : Operand) (a b : Bool) (hx : aeval t x = .bool a) (hy : aeval t y = .bool b) (d r ty pos af gu) : purerule Try.prog (aeval t) ⟨d,.binOp .neq 4 x y r,ty,pos,af,gu⟩ = some (.bool (a != b)) := by
  refine pure_of rfl ?_ ?_ rfl
  · simp [Op.operands,hx,hy,plb,pli]
  · have : execOp (aeval t) ⟨d,.binOp .neq 4 x y r,ty,pos,af,gu⟩ = (do let z ← (do eqGuard .neq 4 x y (aeval t x) (aeval t y); binOp .neq 4 (aeval t x) (aeval t y)); pure (Next.value z)) := by simp [execOp]
    rw [this,hx,hy]; exact neq4' x y a b
theorem eql4' (x y : Operand) (a b : Bool) : pureRun Try.prog (do let z ← (do eqGuard .eql 4 x y (.bool a) (.bool b); binOp .eql 4 (.bool a) (.bool b)); pure (Next.value z)) = some (.value (.bool (a == b))) := by kernel_rfl
theorem eql4 (t : Tm) (x y : Operand) (a b : Bool) (hx : aeval t x = .bool a) (hy : aeval t y = .bool b) (d r ty pos af gu) : purerule Try.prog (aeval t) ⟨d,.binOp .eql 4 x y r,ty,pos,af,gu⟩ = some (.bool (a == b)) := by
  refine pure_of rfl ?_ ?_ rfl
  · simp [Op.operands,hx,hy,plb,pli]
  · have : execOp (aeval t) ⟨d,.binOp .eql 4 x y r,ty,pos,af,gu⟩ = (do let z ← (do eqGuard .eql 4 x y (aeval t x) (aeval t y); binOp .eql 4 (aeval t x) (aeval t y)); pure (Next.value z)) := by simp [execOp]
    rw [this,hx,hy]; exact eql4' x y a b
theorem cv37' (n : Int) : pureRun Try.prog (do let z ← convert 37 2 (.int .u64 n); pure (Next.value z)) = some (.value (.int .i64 (IntKind.i64.wrap n))) := by kernel_rfl
theorem cv37 (t : Tm) (x : Operand) (n : Int) (hx : aeval t x = .int .u64 n) (d ty pos af gu) : purerule Try.prog (aeval t) ⟨d,.convert 37 2 x,ty,pos,af,gu⟩ = some (.int .i64 (IntKind.i64.wrap n)) := by
  refine pure_of rfl ?_ ?_ rfl
  · simp [Op.operands,hx,pli]
  · have : execOp (aeval t) ⟨d,.convert 37 2 x,ty,pos,af,gu⟩ = (do let z ← convert 37 2 (aeval t x); pure (Next.value z)) := by simp [execOp]
    rw [this,hx]; exact cv37' n
theorem feql' (x y : Operand) (a b : Nat) : pureRun Try.prog (do let z ← (do eqGuard .eql 34 x y (.float .f64 a) (.float .f64 b); binOp .eql 34 (.float .f64 a) (.float .f64 b)); pure (Next.value z)) = some (.value (.bool (Ieee.double.order a b == some .eq))) := by kernel_rfl
theorem feql (t : Tm) (x y : Operand) (a b : Nat) (hx : aeval t x = .float .f64 a) (hy : aeval t y = .float .f64 b) (ha : a < 18446744073709551616) (hb : b < 18446744073709551616) (d r ty pos af gu) : purerule Try.prog (aeval t) ⟨d,.binOp .eql 34 x y r,ty,pos,af,gu⟩ = some (.bool (Ieee.double.order a b == some .eq)) := by
  refine pure_of rfl ?_ ?_ rfl
  · simp [Op.operands,hx,hy,plf ha,plf hb]
  · have : execOp (aeval t) ⟨d,.binOp .eql 34 x y r,ty,pos,af,gu⟩ = (do let z ← (do eqGuard .eql 34 x y (aeval t x) (aeval t y); binOp .eql 34 (aeval t x) (aeval t y)); pure (Next.value z)) := by simp [execOp]
    rw [this,hx,hy]; exact feql' x y a b
def fop (r : Option Nat) (a b : Nat) : Sem Next := do
  let z ← (match r with | some r => pure (Value.float .f64 r) | none => do pure (Value.float .f64 (← choose (.nanBits .f64 a b))) : Sem Value)
  pure (Next.value z)
theorem fop_ok (a b c : Nat) : pureRun Try.prog (fop (some c) a b) = some (.value (.float .f64 c)) := by kernel_rfl
theorem fmul' (x y : Operand) (a b c : Nat) (h : Ieee.double.mul a b = some c) : pureRun Try.prog (do let z ← (do eqGuard .mul 34 x y (.float .f64 a) (.float .f64 b); binOp .mul 34 (.float .f64 a) (.float .f64 b)); pure (Next.value z)) = some (.value (.float .f64 c)) := by
  have e : (do let z ← (do eqGuard .mul 34 x y (.float .f64 a) (.float .f64 b); binOp .mul 34 (.float .f64 a) (.float .f64 b)); pure (Next.value z) : Sem Next) = fop (Ieee.double.mul a b) a b := by kernel_rfl
  rw [e,h]; exact fop_ok a b c
theorem fmul (t : Tm) (x y : Operand) (a b c : Nat) (hx : aeval t x = .float .f64 a) (hy : aeval t y = .float .f64 b) (ha : a < 18446744073709551616) (hb : b < 18446744073709551616) (hc : c < 18446744073709551616) (h : Ieee.double.mul a b = some c) (d r ty pos af gu) : purerule Try.prog (aeval t) ⟨d,.binOp .mul 34 x y r,ty,pos,af,gu⟩ = some (.float .f64 c) := by
  refine pure_of rfl ?_ ?_ (plf hc)
  · simp [Op.operands,hx,hy,plf ha,plf hb]
  · have : execOp (aeval t) ⟨d,.binOp .mul 34 x y r,ty,pos,af,gu⟩ = (do let z ← (do eqGuard .mul 34 x y (aeval t x) (aeval t y); binOp .mul 34 (aeval t x) (aeval t y)); pure (Next.value z)) := by simp [execOp]
    rw [this,hx,hy]; exact fmul' x y a b c h
theorem fquo' (x y : Operand) (a b c : Nat) (h : Ieee.double.div a b = some c) : pureRun Try.prog (do let z ← (do eqGuard .quo 34 x y (.float .f64 a) (.float .f64 b); binOp .quo 34 (.float .f64 a) (.float .f64 b)); pure (Next.value z)) = some (.value (.float .f64 c)) := by
  have e : (do let z ← (do eqGuard .quo 34 x y (.float .f64 a) (.float .f64 b); binOp .quo 34 (.float .f64 a) (.float .f64 b)); pure (Next.value z) : Sem Next) = fop (Ieee.double.div a b) a b := by kernel_rfl
  rw [e,h]; exact fop_ok a b c
theorem fquo (t : Tm) (x y : Operand) (a b c : Nat) (hx : aeval t x = .float .f64 a) (hy : aeval t y = .float .f64 b) (ha : a < 18446744073709551616) (hb : b < 18446744073709551616) (hc : c < 18446744073709551616) (h : Ieee.double.div a b = some c) (d r ty pos af gu) : purerule Try.prog (aeval t) ⟨d,.binOp .quo 34 x y r,ty,pos,af,gu⟩ = some (.float .f64 c) := by
  refine pure_of rfl ?_ ?_ (plf hc)
  · simp [Op.operands,hx,hy,plf ha,plf hb]
  · have : execOp (aeval t) ⟨d,.binOp .quo 34 x y r,ty,pos,af,gu⟩ = (do let z ← (do eqGuard .quo 34 x y (aeval t x) (aeval t y); binOp .quo 34 (aeval t x) (aeval t y)); pure (Next.value z)) := by simp [execOp]
    rw [this,hx,hy]; exact fquo' x y a b c h
theorem cv3f' (n : Nat) : pureRun Try.prog (do let z ← convert 3 34 (.int .i64 (n : Int)); pure (Next.value z)) = some (.value (.float .f64 (FloatKind.f64.nearest (n : Int)))) := by kernel_rfl
theorem cv3f (t : Tm) (x : Operand) (n : Nat) (hx : aeval t x = .int .i64 (n : Int)) (c : Nat) (hc : FloatKind.f64.nearest (n : Int) = c) (hb : c < 18446744073709551616) (d ty pos af gu) : purerule Try.prog (aeval t) ⟨d,.convert 3 34 x,ty,pos,af,gu⟩ = some (.float .f64 c) := by
  refine pure_of rfl ?_ ?_ (plf hb)
  · simp [Op.operands,hx,pli]
  · have : execOp (aeval t) ⟨d,.convert 3 34 x,ty,pos,af,gu⟩ = (do let z ← convert 3 34 (aeval t x); pure (Next.value z)) := by simp [execOp]
    rw [this,hx,← hc]; exact cv3f' n
end Go.Proofs.Ytmnkmdfladbgdaa.Od

set_option linter.unusedVariables false
set_option linter.unusedSimpArgs false
namespace Go.Proofs.Ytmnkmdfladbgdaa.Od
open Go Go.Proofs Go.RowKit Go.Proofs.YtmnkmdfladbgdaaAI Go.Proofs.YtmnkmdfladbgdaaFl

abbrev U (n : Nat) : Value := .int .u64 n
abbrev Fl (n : Nat) : Value := .float .f64 n
theorem u64_add {a b : Nat} (h : a + b < 18446744073709551616) : IntKind.u64.wrap ((a : Int) + b) = ((a + b : Nat) : Int) := by
  have : IntKind.u64.wrap ((a : Int) + b) = ((a : Int) + b) % 18446744073709551616 := rfl
  rw [this]; omega
theorem u64_sub {a b : Nat} (h : b ≤ a) (h2 : a < 18446744073709551616) : IntKind.u64.wrap ((a : Int) - b) = ((a - b : Nat) : Int) := by
  have : IntKind.u64.wrap ((a : Int) - b) = ((a : Int) - b) % 18446744073709551616 := rfl
  rw [this]; omega
theorem en28 : enters Try.prog 28 = true := by kernel_rfl
theorem en55 : enters Try.prog 55 = true := by kernel_rfl
theorem en58 : enters Try.prog 58 = true := by kernel_rfl
theorem en22 : enters Try.prog 22 = true := by kernel_rfl
theorem en54 : enters Try.prog 54 = true := by kernel_rfl
theorem en51 : enters Try.prog 51 = true := by kernel_rfl
theorem en29 : enters Try.prog 29 = true := by kernel_rfl
theorem en31 : enters Try.prog 31 = true := by kernel_rfl
theorem en33 : enters Try.prog 33 = true := by kernel_rfl
theorem en9 : enters Try.prog 9 = true := by kernel_rfl

theorem tm63 (b : Nat) : ((b : Int)).tmod 9223372036854775808 = ((b % 9223372036854775808 : Nat) : Int) := rfl
theorem size_run (s : Scr) (b : Nat) (h : Heap) : run Try.prog s 55 [U b] h = some (U (b % 9223372036854775808),h) := by
  refine run_fin Try.func55 rfl ?_
  simp [Try.f55,ax_skip,ax_label,ax_region,ax_draw,ax_seq,ax_cond,ax_block,ax_loop,ax_scope,ax_exit,ax_ret,aops,aop,cls,light,lightS,binE,aeq,intBin,goInt,pl_int,pl_bool,pl_ptr,pl_slice,aload,isAggT,aeval,tput,awanted,List.range_succ,fin,aresults,aresult,List.replicate,heavy,acallOp,aenter,ble_d,beq_d,firstRegion,adraw,readNames,Nxt,isAnc,readsOk,objEq_some,isFl_sub,isFl_mul,isFl_quo,isFl_rem,isFl_and,isFl_or,isFl_xor,isFl_andNot,isFl_shl,isFl_shr,isFl_eql,isFl_neq,isFl_lss,isFl_leq,isFl_gtr,isFl_geq,fl_2,fl_3,fl_34,fl_37,fl_101,cond_true,cond_false,plain,plainN,tm63]
theorem isnan_run (s : Scr) (b : Nat) (h : Heap) : run Try.prog s 28 [U b] h = some (.bool (isN b),h) := by
  refine run_fin Try.func28 rfl ?_
  simp [Try.f28,ax_skip,ax_label,ax_region,ax_draw,ax_seq,ax_cond,ax_block,ax_loop,ax_scope,ax_exit,ax_ret,aops,aop,cls,light,lightS,binE,aeq,intBin,goInt,pl_int,pl_bool,pl_ptr,pl_slice,aload,isAggT,aeval,tput,awanted,List.range_succ,fin,aresults,aresult,List.replicate,heavy,acallOp,aenter,ble_d,beq_d,firstRegion,adraw,readNames,Nxt,isAnc,readsOk,objEq_some,isFl_sub,isFl_mul,isFl_quo,isFl_rem,isFl_and,isFl_or,isFl_xor,isFl_andNot,isFl_shl,isFl_shr,isFl_eql,isFl_neq,isFl_lss,isFl_leq,isFl_gtr,isFl_geq,fl_2,fl_3,fl_34,fl_37,fl_101,cond_true,cond_false,plain,plainN,en55,size_run,isN]
  omega

def oneB (b : Nat) : Nat := if isN b then 9221120237041090561 else b
theorem oneB_lt {b : Nat} (h : b < 18446744073709551616) : oneB b < 18446744073709551616 := by unfold oneB; split <;> omega
theorem one_run (s : Scr) (b : Nat) (h : Heap) : run Try.prog s 59 [U b] h = some (U (oneB b),h) := by
  refine run_fin Try.func59 rfl ?_
  cases hn : isN b
  · simp [Try.f59,ax_skip,ax_label,ax_region,ax_draw,ax_seq,ax_cond,ax_block,ax_loop,ax_scope,ax_exit,ax_ret,aops,aop,cls,light,lightS,binE,aeq,intBin,goInt,pl_int,pl_bool,pl_ptr,pl_slice,aload,isAggT,aeval,tput,awanted,List.range_succ,fin,aresults,aresult,List.replicate,heavy,acallOp,aenter,ble_d,beq_d,firstRegion,adraw,readNames,Nxt,isAnc,readsOk,objEq_some,isFl_sub,isFl_mul,isFl_quo,isFl_rem,isFl_and,isFl_or,isFl_xor,isFl_andNot,isFl_shl,isFl_shr,isFl_eql,isFl_neq,isFl_lss,isFl_leq,isFl_gtr,isFl_geq,fl_2,fl_3,fl_34,fl_37,fl_101,cond_true,cond_false,plain,plainN,en28,isnan_run,hn,oneB]
  · simp [Try.f59,ax_skip,ax_label,ax_region,ax_draw,ax_seq,ax_cond,ax_block,ax_loop,ax_scope,ax_exit,ax_ret,aops,aop,cls,light,lightS,binE,aeq,intBin,goInt,pl_int,pl_bool,pl_ptr,pl_slice,aload,isAggT,aeval,tput,awanted,List.range_succ,fin,aresults,aresult,List.replicate,heavy,acallOp,aenter,ble_d,beq_d,firstRegion,adraw,readNames,Nxt,isAnc,readsOk,objEq_some,isFl_sub,isFl_mul,isFl_quo,isFl_rem,isFl_and,isFl_or,isFl_xor,isFl_andNot,isFl_shl,isFl_shr,isFl_eql,isFl_neq,isFl_lss,isFl_leq,isFl_gtr,isFl_geq,fl_2,fl_3,fl_34,fl_37,fl_101,cond_true,cond_false,plain,plainN,en28,isnan_run,hn,oneB]
theorem key_run (s : Scr) (b : Nat) (hb : b < 18446744073709551616) (h : Heap) : run Try.prog s 58 [U b] h = some (U (key b),h) := by
  refine run_fin Try.func58 rfl ?_
  cases hn : isN b
  · have h1 : ¬ 9218868437227405312 < b % 9223372036854775808 := by simpa [isN] using hn
    by_cases h2 : 9223372036854775808 ≤ b
    · have h3 : (9223372036854775808 : Int) ≤ (b : Int) := by omega
      have h5 : IntKind.u64.wrap (9218868437227405312 - ((b : Int) % 9223372036854775808)) = ((9218868437227405312 - b % 9223372036854775808 : Nat) : Int) := by
        have := @u64_sub 9218868437227405312 (b % 9223372036854775808) (by omega) (by omega)
        exact this
      have h6 : IntKind.u64.wrap (((9218868437227405312 - b % 9223372036854775808 : Nat) : Int) + 1) = ((9218868437227405312 - b % 9223372036854775808 + 1 : Nat) : Int) := @u64_add (9218868437227405312 - b % 9223372036854775808) 1 (by omega)
      simp [Try.f58,ax_skip,ax_label,ax_region,ax_draw,ax_seq,ax_cond,ax_block,ax_loop,ax_scope,ax_exit,ax_ret,aops,aop,cls,light,lightS,binE,aeq,intBin,goInt,pl_int,pl_bool,pl_ptr,pl_slice,aload,isAggT,aeval,tput,awanted,List.range_succ,fin,aresults,aresult,List.replicate,heavy,acallOp,aenter,ble_d,beq_d,firstRegion,adraw,readNames,Nxt,isAnc,readsOk,objEq_some,isFl_sub,isFl_mul,isFl_quo,isFl_rem,isFl_and,isFl_or,isFl_xor,isFl_andNot,isFl_shl,isFl_shr,isFl_eql,isFl_neq,isFl_lss,isFl_leq,isFl_gtr,isFl_geq,fl_2,fl_3,fl_34,fl_37,fl_101,cond_true,cond_false,plain,plainN,en28,en55,isnan_run,size_run,hn,h3,h5,h6]
      simp [key,h1,h2]
    · have h3 : ¬ (9223372036854775808 : Int) ≤ (b : Int) := by omega
      have h5 : IntKind.u64.wrap (9218868437227405312 + (b : Int)) = ((9218868437227405312 + b : Nat) : Int) := @u64_add 9218868437227405312 b (by omega)
      have h6 : IntKind.u64.wrap (9218868437227405312 + (b : Int) + 2) = 9218868437227405312 + (b : Int) + 2 := by have := @u64_add (9218868437227405312 + b) 2 (by omega); simpa using this
      simp [Try.f58,ax_skip,ax_label,ax_region,ax_draw,ax_seq,ax_cond,ax_block,ax_loop,ax_scope,ax_exit,ax_ret,aops,aop,cls,light,lightS,binE,aeq,intBin,goInt,pl_int,pl_bool,pl_ptr,pl_slice,aload,isAggT,aeval,tput,awanted,List.range_succ,fin,aresults,aresult,List.replicate,heavy,acallOp,aenter,ble_d,beq_d,firstRegion,adraw,readNames,Nxt,isAnc,readsOk,objEq_some,isFl_sub,isFl_mul,isFl_quo,isFl_rem,isFl_and,isFl_or,isFl_xor,isFl_andNot,isFl_shl,isFl_shr,isFl_eql,isFl_neq,isFl_lss,isFl_leq,isFl_gtr,isFl_geq,fl_2,fl_3,fl_34,fl_37,fl_101,cond_true,cond_false,plain,plainN,en28,en55,isnan_run,size_run,hn,h3,h5,h6]
      simp [key,h1,h2]
  · have h1 : 9218868437227405312 < b % 9223372036854775808 := by simpa [isN] using hn
    simp [Try.f58,ax_skip,ax_label,ax_region,ax_draw,ax_seq,ax_cond,ax_block,ax_loop,ax_scope,ax_exit,ax_ret,aops,aop,cls,light,lightS,binE,aeq,intBin,goInt,pl_int,pl_bool,pl_ptr,pl_slice,aload,isAggT,aeval,tput,awanted,List.range_succ,fin,aresults,aresult,List.replicate,heavy,acallOp,aenter,ble_d,beq_d,firstRegion,adraw,readNames,Nxt,isAnc,readsOk,objEq_some,isFl_sub,isFl_mul,isFl_quo,isFl_rem,isFl_and,isFl_or,isFl_xor,isFl_andNot,isFl_shl,isFl_shr,isFl_eql,isFl_neq,isFl_lss,isFl_leq,isFl_gtr,isFl_geq,fl_2,fl_3,fl_34,fl_37,fl_101,cond_true,cond_false,plain,plainN,en28,isnan_run,hn]
    simp [key,h1]
theorem rcmp_run (s : Scr) (a b : Nat) (ha : a < 18446744073709551616) (hb : b < 18446744073709551616) (h : Heap) : run Try.prog s 54 [U a,U b] h = some (.int .i64 (cmpK a b),h) := by
  refine run_fin Try.func54 rfl ?_
  by_cases h1 : key a < key b
  · simp [Try.f54,ax_skip,ax_label,ax_region,ax_draw,ax_seq,ax_cond,ax_block,ax_loop,ax_scope,ax_exit,ax_ret,aops,aop,cls,light,lightS,binE,aeq,intBin,goInt,pl_int,pl_bool,pl_ptr,pl_slice,aload,isAggT,aeval,tput,awanted,List.range_succ,fin,aresults,aresult,List.replicate,heavy,acallOp,aenter,ble_d,beq_d,firstRegion,adraw,readNames,Nxt,isAnc,readsOk,objEq_some,isFl_sub,isFl_mul,isFl_quo,isFl_rem,isFl_and,isFl_or,isFl_xor,isFl_andNot,isFl_shl,isFl_shr,isFl_eql,isFl_neq,isFl_lss,isFl_leq,isFl_gtr,isFl_geq,fl_2,fl_3,fl_34,fl_37,fl_101,cond_true,cond_false,plain,plainN,en58,key_run s a ha,key_run s b hb,h1,cmpK]
  · by_cases h2 : key b < key a
    · simp [Try.f54,ax_skip,ax_label,ax_region,ax_draw,ax_seq,ax_cond,ax_block,ax_loop,ax_scope,ax_exit,ax_ret,aops,aop,cls,light,lightS,binE,aeq,intBin,goInt,pl_int,pl_bool,pl_ptr,pl_slice,aload,isAggT,aeval,tput,awanted,List.range_succ,fin,aresults,aresult,List.replicate,heavy,acallOp,aenter,ble_d,beq_d,firstRegion,adraw,readNames,Nxt,isAnc,readsOk,objEq_some,isFl_sub,isFl_mul,isFl_quo,isFl_rem,isFl_and,isFl_or,isFl_xor,isFl_andNot,isFl_shl,isFl_shr,isFl_eql,isFl_neq,isFl_lss,isFl_leq,isFl_gtr,isFl_geq,fl_2,fl_3,fl_34,fl_37,fl_101,cond_true,cond_false,plain,plainN,en58,key_run s a ha,key_run s b hb,h1,h2,cmpK]
    · simp [Try.f54,ax_skip,ax_label,ax_region,ax_draw,ax_seq,ax_cond,ax_block,ax_loop,ax_scope,ax_exit,ax_ret,aops,aop,cls,light,lightS,binE,aeq,intBin,goInt,pl_int,pl_bool,pl_ptr,pl_slice,aload,isAggT,aeval,tput,awanted,List.range_succ,fin,aresults,aresult,List.replicate,heavy,acallOp,aenter,ble_d,beq_d,firstRegion,adraw,readNames,Nxt,isAnc,readsOk,objEq_some,isFl_sub,isFl_mul,isFl_quo,isFl_rem,isFl_and,isFl_or,isFl_xor,isFl_andNot,isFl_shl,isFl_shr,isFl_eql,isFl_neq,isFl_lss,isFl_leq,isFl_gtr,isFl_geq,fl_2,fl_3,fl_34,fl_37,fl_101,cond_true,cond_false,plain,plainN,en58,key_run s a ha,key_run s b hb,h1,h2,cmpK]
def worthB (b : Nat) : Nat := if 9218868437227405314 < key b then b else 0
theorem rworth_run (s : Scr) (b : Nat) (hb : b < 18446744073709551616) (h : Heap) : run Try.prog s 33 [U b] h = some (U (worthB b),h) := by
  refine run_fin Try.func33 rfl ?_
  by_cases h1 : 9218868437227405314 < key b
  · have h3 : (9218868437227405314 : Int) < (key b : Int) := by omega
    simp [Try.f33,ax_skip,ax_label,ax_region,ax_draw,ax_seq,ax_cond,ax_block,ax_loop,ax_scope,ax_exit,ax_ret,aops,aop,cls,light,lightS,binE,aeq,intBin,goInt,pl_int,pl_bool,pl_ptr,pl_slice,aload,isAggT,aeval,tput,awanted,List.range_succ,fin,aresults,aresult,List.replicate,heavy,acallOp,aenter,ble_d,beq_d,firstRegion,adraw,readNames,Nxt,isAnc,readsOk,objEq_some,isFl_sub,isFl_mul,isFl_quo,isFl_rem,isFl_and,isFl_or,isFl_xor,isFl_andNot,isFl_shl,isFl_shr,isFl_eql,isFl_neq,isFl_lss,isFl_leq,isFl_gtr,isFl_geq,fl_2,fl_3,fl_34,fl_37,fl_101,cond_true,cond_false,plain,plainN,en58,key_run s b hb,h3,h1,worthB]
  · have h3 : ¬ (9218868437227405314 : Int) < (key b : Int) := by omega
    simp [Try.f33,ax_skip,ax_label,ax_region,ax_draw,ax_seq,ax_cond,ax_block,ax_loop,ax_scope,ax_exit,ax_ret,aops,aop,cls,light,lightS,binE,aeq,intBin,goInt,pl_int,pl_bool,pl_ptr,pl_slice,aload,isAggT,aeval,tput,awanted,List.range_succ,fin,aresults,aresult,List.replicate,heavy,acallOp,aenter,ble_d,beq_d,firstRegion,adraw,readNames,Nxt,isAnc,readsOk,objEq_some,isFl_sub,isFl_mul,isFl_quo,isFl_rem,isFl_and,isFl_or,isFl_xor,isFl_andNot,isFl_shl,isFl_shr,isFl_eql,isFl_neq,isFl_lss,isFl_leq,isFl_gtr,isFl_geq,fl_2,fl_3,fl_34,fl_37,fl_101,cond_true,cond_false,plain,plainN,en58,key_run s b hb,h3,h1,worthB]
theorem worth_run (s : Scr) (b : Nat) (hb : b < 18446744073709551616) (h : Heap) : run Try.prog s 31 [Fl b] h = some (Fl (worthB b),h) := by
  refine run_fin Try.func31 rfl ?_
  have e : (Ieee.double.order b 0 == some .gt) = decide (9218868437227405314 < key b) := by
    rw [fgt b 0 hb (by omega)]
    have h0 : isN 0 = false := rfl
    have hs : sv 0 = 0 := rfl
    rw [h0,hs]
    by_cases h1 : 9218868437227405312 < b % 9223372036854775808
    · simp [isN,key,h1]
    · by_cases h2 : 9223372036854775808 ≤ b
      · have h3 : ¬ (0 : Int) < sv b := by unfold sv; rw [if_pos h2]; omega
        have h4 : ¬ 9218868437227405314 < key b := by unfold key; rw [if_neg h1,if_pos h2]; omega
        rw [decide_eq_false h3,decide_eq_false h4,Bool.and_false]
      · have h3 : (0 : Int) < sv b ↔ 9218868437227405314 < key b := by unfold sv key; rw [if_neg h2,if_neg h1,if_neg h2]; omega
        simp only [isN,h1,h3,decide_false,Bool.not_false,Bool.true_and]
  have p0 : plain (Fl 0) = true := rfl
  have pb : plain (Fl b) = true := plf hb
  by_cases h1 : 9218868437227405314 < key b
  · simp [Try.f31,ax_skip,ax_label,ax_region,ax_draw,ax_seq,ax_cond,ax_block,ax_loop,ax_scope,ax_exit,ax_ret,aops,aop,cls,light,lightS,binE,aeq,intBin,goInt,pl_int,pl_bool,pl_ptr,pl_slice,aload,isAggT,aeval,tput,awanted,List.range_succ,fin,aresults,aresult,List.replicate,heavy,acallOp,aenter,ble_d,beq_d,firstRegion,adraw,readNames,Nxt,isAnc,readsOk,objEq_some,isFl_sub,isFl_mul,isFl_quo,isFl_rem,isFl_and,isFl_or,isFl_xor,isFl_andNot,isFl_shl,isFl_shr,isFl_eql,isFl_neq,isFl_lss,isFl_leq,isFl_gtr,isFl_geq,fl_2,fl_3,fl_34,fl_37,fl_101,cond_true,cond_false,p0,nc0 hb (show 0 < 18446744073709551616 by omega),fgtr _ _ _ b 0 _ _ hb (by omega),e,h1,worthB]
  · simp [Try.f31,ax_skip,ax_label,ax_region,ax_draw,ax_seq,ax_cond,ax_block,ax_loop,ax_scope,ax_exit,ax_ret,aops,aop,cls,light,lightS,binE,aeq,intBin,goInt,pl_int,pl_bool,pl_ptr,pl_slice,aload,isAggT,aeval,tput,awanted,List.range_succ,fin,aresults,aresult,List.replicate,heavy,acallOp,aenter,ble_d,beq_d,firstRegion,adraw,readNames,Nxt,isAnc,readsOk,objEq_some,isFl_sub,isFl_mul,isFl_quo,isFl_rem,isFl_and,isFl_or,isFl_xor,isFl_andNot,isFl_shl,isFl_shr,isFl_eql,isFl_neq,isFl_lss,isFl_leq,isFl_gtr,isFl_geq,fl_2,fl_3,fl_34,fl_37,fl_101,cond_true,cond_false,p0,nc0 hb (show 0 < 18446744073709551616 by omega),fgtr _ _ _ b 0 _ _ hb (by omega),e,h1,worthB]
theorem fbnan (t : Tm) (d ty pos af gu) : purerule Try.prog (aeval t) ⟨d,.call ⟨.value (.func 23),#[.const (.int .u64 9221120237041090561)],#[37]⟩,ty,pos,af,gu⟩ = some (Fl 9221120237041090561) := fb23 t _ 9221120237041090561 (by rfl) (by omega) _ _ _ _ _
theorem nan_run (s : Scr) (h : Heap) : run Try.prog s 29 [] h = some (Fl 9221120237041090561,h) := by
  refine run_fin Try.func29 rfl ?_
  have p0 : plain (Fl 0) = true := rfl
  simp [Try.f29,ax_skip,ax_label,ax_region,ax_draw,ax_seq,ax_cond,ax_block,ax_loop,ax_scope,ax_exit,ax_ret,aops,aop,cls,light,lightS,binE,aeq,intBin,goInt,pl_int,pl_bool,pl_ptr,pl_slice,aload,isAggT,aeval,tput,awanted,List.range_succ,fin,aresults,aresult,List.replicate,heavy,acallOp,aenter,ble_d,beq_d,firstRegion,adraw,readNames,Nxt,isAnc,readsOk,objEq_some,isFl_sub,isFl_mul,isFl_quo,isFl_rem,isFl_and,isFl_or,isFl_xor,isFl_andNot,isFl_shl,isFl_shr,isFl_eql,isFl_neq,isFl_lss,isFl_leq,isFl_gtr,isFl_geq,fl_2,fl_3,fl_34,fl_37,fl_101,cond_true,cond_false,pli,en23,p0,fbnan]
theorem signbit_run (s : Scr) (b : Nat) (hb : b < 18446744073709551616) (h : Heap) : run Try.prog s 22 [Fl b] h = some (.bool (decide (9223372036854775808 ≤ b)),h) := by
  refine run_fin Try.func22 rfl ?_
  have e : IntKind.i64.wrap (b : Int) < 0 ↔ 9223372036854775808 ≤ b := by
    simp only [IntKind.wrap,IntKind.bits,IntKind.signed]
    simp only [Bool.true_and,decide_eq_true_eq,ge_iff_le]
    split <;> omega
  generalize hk : (9223372036854775808 : Nat) = K at *
  simp [Try.f22,ax_skip,ax_label,ax_region,ax_draw,ax_seq,ax_cond,ax_block,ax_loop,ax_scope,ax_exit,ax_ret,aops,aop,cls,light,lightS,binE,aeq,intBin,goInt,pl_int,pl_bool,pl_ptr,pl_slice,aload,isAggT,aeval,tput,awanted,List.range_succ,fin,aresults,aresult,List.replicate,heavy,acallOp,aenter,ble_d,beq_d,firstRegion,adraw,readNames,Nxt,isAnc,readsOk,objEq_some,isFl_sub,isFl_mul,isFl_quo,isFl_rem,isFl_and,isFl_or,isFl_xor,isFl_andNot,isFl_shl,isFl_shr,isFl_eql,isFl_neq,isFl_lss,isFl_leq,isFl_gtr,isFl_geq,fl_2,fl_3,fl_34,fl_37,fl_101,cond_true,cond_false,pli,en18,fb18 _ _ b,cv37 _ _ b,hb,e]
theorem cmp_run (s : Scr) (a b : Nat) (ha : a < 18446744073709551616) (hb : b < 18446744073709551616) (h : Heap) : run Try.prog s 51 [Fl a,Fl b] h = some (.int .i64 (cmpK a b),h) := by
  rw [← cmpP_eq a b ha hb]
  refine run_fin Try.func51 rfl ?_
  have nl := fneq_self a ha
  have nr := fneq_self b hb
  have lt := flt a b ha hb
  have gt := fgt a b ha hb
  have q1 := fneq (x := .tmp 8) (y := .tmp 9)
  cases h1 : isN a <;> cases h2 : isN b <;> simp only [h1,h2,Bool.not_true,Bool.not_false,Bool.and_true,Bool.true_and,Bool.and_false,Bool.false_and] at nl nr lt gt
  · by_cases h3 : sv a < sv b
    · simp [Try.f51,ax_skip,ax_label,ax_region,ax_draw,ax_seq,ax_cond,ax_block,ax_loop,ax_scope,ax_exit,ax_ret,aops,aop,cls,light,lightS,binE,aeq,intBin,goInt,pl_int,pl_bool,pl_ptr,pl_slice,aload,isAggT,aeval,tput,awanted,List.range_succ,fin,aresults,aresult,List.replicate,heavy,acallOp,aenter,ble_d,beq_d,firstRegion,adraw,readNames,Nxt,isAnc,readsOk,objEq_some,isFl_sub,isFl_mul,isFl_quo,isFl_rem,isFl_and,isFl_or,isFl_xor,isFl_andNot,isFl_shl,isFl_shr,isFl_eql,isFl_neq,isFl_lss,isFl_leq,isFl_gtr,isFl_geq,fl_2,fl_3,fl_34,fl_37,fl_101,cond_true,cond_false,nc0 ha ha,nc0 hb hb,nc0 ha hb,fneq _ _ _ a a _ _ ha ha,fneq _ _ _ b b _ _ hb hb,flss _ _ _ a b _ _ ha hb,nl,nr,lt,h3,cmpP,h1,h2]
    · by_cases h4 : sv b < sv a
      · simp [Try.f51,ax_skip,ax_label,ax_region,ax_draw,ax_seq,ax_cond,ax_block,ax_loop,ax_scope,ax_exit,ax_ret,aops,aop,cls,light,lightS,binE,aeq,intBin,goInt,pl_int,pl_bool,pl_ptr,pl_slice,aload,isAggT,aeval,tput,awanted,List.range_succ,fin,aresults,aresult,List.replicate,heavy,acallOp,aenter,ble_d,beq_d,firstRegion,adraw,readNames,Nxt,isAnc,readsOk,objEq_some,isFl_sub,isFl_mul,isFl_quo,isFl_rem,isFl_and,isFl_or,isFl_xor,isFl_andNot,isFl_shl,isFl_shr,isFl_eql,isFl_neq,isFl_lss,isFl_leq,isFl_gtr,isFl_geq,fl_2,fl_3,fl_34,fl_37,fl_101,cond_true,cond_false,nc0 ha ha,nc0 hb hb,nc0 ha hb,fneq _ _ _ a a _ _ ha ha,fneq _ _ _ b b _ _ hb hb,flss _ _ _ a b _ _ ha hb,fgtr _ _ _ a b _ _ ha hb,nl,nr,lt,gt,h3,h4,cmpP,h1,h2]
      · by_cases h5 : 9223372036854775808 ≤ a <;> by_cases h6 : 9223372036854775808 ≤ b
        all_goals simp [Try.f51,ax_skip,ax_label,ax_region,ax_draw,ax_seq,ax_cond,ax_block,ax_loop,ax_scope,ax_exit,ax_ret,aops,aop,cls,light,lightS,binE,aeq,intBin,goInt,pl_int,pl_bool,pl_ptr,pl_slice,aload,isAggT,aeval,tput,awanted,List.range_succ,fin,aresults,aresult,List.replicate,heavy,acallOp,aenter,ble_d,beq_d,firstRegion,adraw,readNames,Nxt,isAnc,readsOk,objEq_some,isFl_sub,isFl_mul,isFl_quo,isFl_rem,isFl_and,isFl_or,isFl_xor,isFl_andNot,isFl_shl,isFl_shr,isFl_eql,isFl_neq,isFl_lss,isFl_leq,isFl_gtr,isFl_geq,fl_2,fl_3,fl_34,fl_37,fl_101,cond_true,cond_false,nc0 ha ha,nc0 hb hb,nc0 ha hb,fneq _ _ _ a a _ _ ha ha,fneq _ _ _ b b _ _ hb hb,flss _ _ _ a b _ _ ha hb,fgtr _ _ _ a b _ _ ha hb,nl,nr,lt,gt,h3,h4,cmpP,h1,h2,en22,signbit_run s a ha,signbit_run s b hb,h5,h6,eql4]
  · simp [Try.f51,ax_skip,ax_label,ax_region,ax_draw,ax_seq,ax_cond,ax_block,ax_loop,ax_scope,ax_exit,ax_ret,aops,aop,cls,light,lightS,binE,aeq,intBin,goInt,pl_int,pl_bool,pl_ptr,pl_slice,aload,isAggT,aeval,tput,awanted,List.range_succ,fin,aresults,aresult,List.replicate,heavy,acallOp,aenter,ble_d,beq_d,firstRegion,adraw,readNames,Nxt,isAnc,readsOk,objEq_some,isFl_sub,isFl_mul,isFl_quo,isFl_rem,isFl_and,isFl_or,isFl_xor,isFl_andNot,isFl_shl,isFl_shr,isFl_eql,isFl_neq,isFl_lss,isFl_leq,isFl_gtr,isFl_geq,fl_2,fl_3,fl_34,fl_37,fl_101,cond_true,cond_false,nc0 ha ha,nc0 hb hb,nc0 ha hb,fneq _ _ _ a a _ _ ha ha,fneq _ _ _ b b _ _ hb hb,nl,nr,cmpP,h1,h2]
  · simp [Try.f51,ax_skip,ax_label,ax_region,ax_draw,ax_seq,ax_cond,ax_block,ax_loop,ax_scope,ax_exit,ax_ret,aops,aop,cls,light,lightS,binE,aeq,intBin,goInt,pl_int,pl_bool,pl_ptr,pl_slice,aload,isAggT,aeval,tput,awanted,List.range_succ,fin,aresults,aresult,List.replicate,heavy,acallOp,aenter,ble_d,beq_d,firstRegion,adraw,readNames,Nxt,isAnc,readsOk,objEq_some,isFl_sub,isFl_mul,isFl_quo,isFl_rem,isFl_and,isFl_or,isFl_xor,isFl_andNot,isFl_shl,isFl_shr,isFl_eql,isFl_neq,isFl_lss,isFl_leq,isFl_gtr,isFl_geq,fl_2,fl_3,fl_34,fl_37,fl_101,cond_true,cond_false,nc0 ha ha,nc0 hb hb,nc0 ha hb,fneq _ _ _ a a _ _ ha ha,fneq _ _ _ b b _ _ hb hb,nl,nr,cmpP,h1,h2]
  · simp [Try.f51,ax_skip,ax_label,ax_region,ax_draw,ax_seq,ax_cond,ax_block,ax_loop,ax_scope,ax_exit,ax_ret,aops,aop,cls,light,lightS,binE,aeq,intBin,goInt,pl_int,pl_bool,pl_ptr,pl_slice,aload,isAggT,aeval,tput,awanted,List.range_succ,fin,aresults,aresult,List.replicate,heavy,acallOp,aenter,ble_d,beq_d,firstRegion,adraw,readNames,Nxt,isAnc,readsOk,objEq_some,isFl_sub,isFl_mul,isFl_quo,isFl_rem,isFl_and,isFl_or,isFl_xor,isFl_andNot,isFl_shl,isFl_shr,isFl_eql,isFl_neq,isFl_lss,isFl_leq,isFl_gtr,isFl_geq,fl_2,fl_3,fl_34,fl_37,fl_101,cond_true,cond_false,nc0 ha ha,nc0 hb hb,nc0 ha hb,fneq _ _ _ a a _ _ ha ha,fneq _ _ _ b b _ _ hb hb,nl,nr,cmpP,h1,h2]
attribute [simp] px_skip px_label px_region px_draw qx_seq qx_cond px_block px_loop px_scope px_exit px_ret seqK_normal seqK_exit seqK_ret condK_true condK_false opsK_some wK_true wK_false itK_some aops_nil aops_cons lK_some aK_some hK_some dwK_true dwK_false diK_some dK_light dK_alloc dK_heavy adraw_nil adraw_cons aop cls light lightS binE aeq intBin goInt pl_int pl_bool pl_ptr pl_slice aload isAggT aeval tput awanted fin aresults aresult heavy acallOp aenter firstRegion readNames Nxt isAnc readsOk objEq_some isFl_sub isFl_mul isFl_quo isFl_rem isFl_and isFl_or isFl_xor isFl_andNot isFl_shl isFl_shr isFl_eql isFl_neq isFl_lss isFl_leq isFl_gtr isFl_geq nanCmp_quo nanCmp_mul nanCmp_sub fl_2 fl_3 fl_34 fl_37 fl_101
end Go.Proofs.Ytmnkmdfladbgdaa.Od
