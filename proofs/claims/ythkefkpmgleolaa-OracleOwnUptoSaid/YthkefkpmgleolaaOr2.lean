/- The oracle's functions at a nil oracle: what the interpreter answers. -/
import Derived.Test.YthkefkpmgleolaaOr1
set_option linter.unusedVariables false
set_option linter.unusedSimpArgs false
namespace Go.Proofs.Ythkefkpmgleolaa.Or
open Go Go.Proofs Go.RowKit Go.Proofs.YthkefkpmgleolaaAI

theorem en15 : enters Try.prog 15 = true := by kernel_rfl
theorem en17 : enters Try.prog 17 = true := by kernel_rfl
theorem en19 : enters Try.prog 19 = true := by kernel_rfl
theorem en20 : enters Try.prog 20 = true := by kernel_rfl

theorem pick_nil (s : Scr) (of : Value) (h : Heap) : run Try.prog s 15 [.pointer none, of] h = some (.tuple #[.int .i64 0, .int .i64 1], h) := by
  refine run_fin Try.func15 rfl ?_
  simp [Try.f15, aexec, aops, aop, cls, light, lightS, binE, aeq, pl_int, pl_bool, pl_ptr, pl_slice, Try.underlying30, intBin, aeval, tput, awanted, List.range_succ, fin, aresults, aresult, List.replicate]
theorem left_nil (s : Scr) (h : Heap) : run Try.prog s 17 [.pointer none] h = some (.int .i64 0, h) := by
  refine run_fin Try.func17 rfl ?_
  simp [Try.f17, aexec, aops, aop, cls, light, lightS, binE, aeq, pl_int, pl_bool, pl_ptr, pl_slice, Try.underlying30, intBin, aeval, tput, awanted, List.range_succ, fin, aresults, aresult, List.replicate]
theorem log_nil (s : Scr) (h : Heap) : run Try.prog s 19 [.pointer none] h = some (.slice none 0 0, h) := by
  refine run_fin Try.func19 rfl ?_
  simp [Try.f19, aexec, aops, aop, cls, light, lightS, binE, aeq, pl_int, pl_bool, pl_ptr, pl_slice, Try.underlying30, intBin, aeval, tput, awanted, List.range_succ, fin, aresults, aresult, List.replicate]
theorem fork_nil (s : Scr) (h : Heap) : run Try.prog s 20 [.pointer none] h = some (.pointer none, h) := by
  refine run_fin Try.func20 rfl ?_
  simp [Try.f20, aexec, aops, aop, cls, light, lightS, binE, aeq, pl_int, pl_bool, pl_ptr, pl_slice, Try.underlying30, intBin, aeval, tput, awanted, List.range_succ, fin, aresults, aresult, List.replicate]

theorem nils (of : Int) (h : Heap) : run Try.prog s0 7 [.int .i64 of] h = some (.bool true, h) := by
  refine run_fin Try.func7 rfl ?_
  obtain ⟨hw, w⟩ := wakes
  simp [Try.f7, aexec, aops, aop, cls, light, lightS, binE, aeq, pl_int, pl_bool, pl_ptr, pl_slice, goInt, Try.underlying30, Try.underlying32, intBin, aeval, tput, awanted, List.range_succ, fin, aresults, aresult, List.replicate, heavy, acallOp, en11, en15, en17, en19, en20, aenter, w, pick_nil, left_nil, log_nil, fork_nil]

theorem nil_calls {a0 : Int} (w0 : (Lit.int .i64 a0).wf = true) (W : World) :
    Calls Try.prog 7 #[.int .i64 a0] W fun e W' => e = .returned (.bool true) ∧ Below W.heap.size W W' :=
  law_plain mix (nils a0 _) rfl (by simp [plain, plainN]) W
end Go.Proofs.Ythkefkpmgleolaa.Or
