/- The oracle's functions without memory, and the wake call: what the interpreter answers. -/
import Derived.Test.YthkefkpmgleolaaProg
import Derived.Test.YthkefkpmgleolaaAI14
import Derived.KernelRfl
import Derived.Below
set_option linter.unusedVariables false
set_option linter.unusedSimpArgs false
namespace Go.Proofs.Ythkefkpmgleolaa.Or
open Go Go.Proofs Go.RowKit Go.Proofs.YthkefkpmgleolaaAI

/-- No slots are forgotten. -/
def s0 : Scr := fun _ _ => []

theorem mix : Try.prog.follows .mixedOrders = true := by kernel_rfl
theorem wakes : ∃ h', run Try.prog s0 11 [] .empty = some (.bool true, h') := run_closed 1000 (by kernel_rfl) rfl

/-- What a raw number comes to. -/
def modOf (raw of : Int) : Int := if raw.tmod of < 0 then IntKind.i64.wrap (raw.tmod of + of) else raw.tmod of

theorem mod_low (s : Scr) (raw of : Int) (h : Heap) (h1 : of < 1) : run Try.prog s 12 [.int .i64 raw, .int .i64 of] h = some (.tuple #[.int .i64 0, .int .i64 2], h) := by
  refine run_fin Try.func12 rfl ?_
  simp [Try.f12, aexec, aops, aop, cls, light, lightS, intBin, aeval, tput, awanted, plain, plainN, List.range_succ, h1, fin, aresults, aresult, List.replicate]

theorem mod_run (s : Scr) (raw of : Int) (h : Heap) (h1 : ¬ of < 1) : run Try.prog s 12 [.int .i64 raw, .int .i64 of] h = some (.tuple #[.int .i64 (modOf raw of), .int .i64 0], h) := by
  refine run_fin Try.func12 rfl ?_
  have h0 : ¬ of = 0 := by omega
  by_cases h2 : raw.tmod of < 0
  · simp [Try.f12, aexec, aops, aop, cls, light, lightS, intBin, aeval, tput, awanted, plain, plainN, List.range_succ, h1, h0, h2, fin, aresults, aresult, List.replicate, modOf]
  · simp [Try.f12, aexec, aops, aop, cls, light, lightS, intBin, aeval, tput, awanted, plain, plainN, List.range_succ, h1, h0, h2, fin, aresults, aresult, List.replicate, modOf]

theorem rmod_low (s : Scr) (raw of : Int) (h : Heap) (h1 : of < 1) : run Try.prog s 13 [.int .i64 raw, .int .i64 of] h = some (.tuple #[.int .i64 0, .int .i64 2], h) := by
  refine run_fin Try.func13 rfl ?_
  simp [Try.f13, aexec, aops, aop, cls, light, lightS, intBin, aeval, tput, awanted, plain, plainN, List.range_succ, h1, fin, aresults, aresult, List.replicate]

theorem rmod_run (s : Scr) (raw of : Int) (h : Heap) (h1 : ¬ of < 1) : run Try.prog s 13 [.int .i64 raw, .int .i64 of] h = some (.tuple #[.int .i64 (modOf raw of), .int .i64 0], h) := by
  refine run_fin Try.func13 rfl ?_
  have h0 : ¬ of = 0 := by omega
  by_cases h2 : raw.tmod of < 0
  · simp [Try.f13, aexec, aops, aop, cls, light, lightS, intBin, aeval, tput, awanted, plain, plainN, List.range_succ, h1, h0, h2, fin, aresults, aresult, List.replicate, modOf]
  · simp [Try.f13, aexec, aops, aop, cls, light, lightS, intBin, aeval, tput, awanted, plain, plainN, List.range_succ, h1, h0, h2, fin, aresults, aresult, List.replicate, modOf]

theorem en11 : enters Try.prog 11 = true := by kernel_rfl
theorem en12 : enters Try.prog 12 = true := by kernel_rfl
theorem en13 : enters Try.prog 13 = true := by kernel_rfl

theorem mods (raw of : Int) (h : Heap) : run Try.prog s0 3 [.int .i64 raw, .int .i64 of] h = some (.bool true, h) := by
  refine run_fin Try.func3 rfl ?_
  obtain ⟨hw, w⟩ := wakes
  by_cases h1 : of < 1
  · simp [Try.f3, aexec, aops, aop, cls, light, lightS, intBin, aeval, tput, awanted, plain, plainN, List.range_succ, h1, fin, aresults, aresult, List.replicate, heavy, acallOp, en11, en12, en13, aenter, w, mod_low, rmod_low]
  · simp [Try.f3, aexec, aops, aop, cls, light, lightS, intBin, aeval, tput, awanted, plain, plainN, List.range_succ, h1, fin, aresults, aresult, List.replicate, heavy, acallOp, en11, en12, en13, aenter, w, mod_run, rmod_run]

theorem mods_calls {a0 : Int} (w0 : (Lit.int .i64 a0).wf = true) {a1 : Int} (w1 : (Lit.int .i64 a1).wf = true) (W : World) :
    Calls Try.prog 3 #[.int .i64 a0, .int .i64 a1] W fun e W' => e = .returned (.bool true) ∧ Below W.heap.size W W' :=
  law_plain mix (mods a0 a1 _) rfl (by simp [plain, plainN]) W
end Go.Proofs.Ythkefkpmgleolaa.Or
