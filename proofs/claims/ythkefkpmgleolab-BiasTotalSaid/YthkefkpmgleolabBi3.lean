/- The laws BiasOrders and BiasNil. -/
import Derived.Test.YthkefkpmgleolabBi2
set_option linter.unusedVariables false
set_option linter.unusedSimpArgs false
namespace Go.Proofs.Ythkefkpmgleolab.Bi
open Go Go.Proofs Go.RowKit Go.Proofs.YthkefkpmgleolabAI Go.Proofs.YthkefkpmgleolabFl

def s0 : Scr := fun _ _ => []
theorem wakes0 : ∃ h', run Try.prog s0 11 [] .empty = some (.bool true, h') := wakes s0 rfl
theorem ibeq (a b : Int) : (a == b) = decide (a = b) := by by_cases h : a = b <;> simp [h]
theorem ibne (a b : Int) : (a != b) = decide (a ≠ b) := by by_cases h : a = b <;> simp [h]
theorem orders (a b : Nat) (ha : a < 18446744073709551616) (hb : b < 18446744073709551616) (h : Heap) : run Try.prog s0 9 [U a, U b] h = some (.bool true, h) := by
  refine run_finP (fun _ => ([], [])) Try.func9 rfl (by kernel_rfl) ?_
  obtain ⟨hw, w⟩ := wakes0
  simp (maxSteps := 2000000) -implicitDefEqProofs [Try.f9, px_skip, px_label, px_region, px_draw, qx_seq, qx_cond, px_block, px_loop, px_scope, px_exit, px_ret, seqK_normal, seqK_exit, seqK_ret, condK_true, condK_false, opsK_some, wK_true, wK_false, itK_some, aops_nil, aops_cons, lK_some, aK_some, hK_some, dwK_true, dwK_false, diK_some, dK_light, dK_alloc, dK_heavy, adraw_nil, adraw_cons, aop, cls, light, lightS, binE, aeq, intBin, goInt, pl_int, pl_bool, pl_ptr, pl_slice, aload, isAggT, aeval, tput, awanted, List.range_succ, fin, aresults, aresult, List.replicate, heavy, acallOp, aenter, ble_d, beq_d, firstRegion, readNames, Nxt, isAnc, readsOk, objEq_some, pli, ibeq, w, en11, en25, en26, en29, en30, en31, en17, fb25 _ _ a, fb25 _ _ b, fb17 _ _ (worthB a), ha, hb, worthB_lt ha, cmp_run s0 a b ha hb, cmp_run s0 b a hb ha, rcmp_run s0 a b ha hb, rcmp_run s0 b a hb ha, worth_run s0 a ha, rworth_run s0 a ha]
theorem en21 : enters Try.prog 21 = true := by kernel_rfl
theorem en24 : enters Try.prog 24 = true := by kernel_rfl
theorem pick_nil (s : Scr) (of : Int) (h : Heap) : run Try.prog s 21 [.pointer none, .int .i64 of] h = some (.tuple #[.int .i64 0, .int .i64 1], h) := by
  refine run_fin Try.func21 rfl ?_
  simp [Try.f21, ax_skip, ax_label, ax_region, ax_draw, ax_seq, ax_cond, ax_block, ax_loop, ax_scope, ax_exit, ax_ret, aops, aop, cls, light, lightS, binE, aeq, intBin, goInt, pl_int, pl_bool, pl_ptr, pl_slice, aload, isAggT, aeval, tput, awanted, List.range_succ, fin, aresults, aresult, List.replicate, heavy, acallOp, aenter, ble_d, beq_d, firstRegion, adraw, readNames, Nxt, isAnc, readsOk, objEq_some, Try.underlying38]
theorem log_nil (s : Scr) (h : Heap) : run Try.prog s 24 [.pointer none] h = some (.slice none 0 0, h) := by
  refine run_fin Try.func24 rfl ?_
  simp [Try.f24, ax_skip, ax_label, ax_region, ax_draw, ax_seq, ax_cond, ax_block, ax_loop, ax_scope, ax_exit, ax_ret, aops, aop, cls, light, lightS, binE, aeq, intBin, goInt, pl_int, pl_bool, pl_ptr, pl_slice, aload, isAggT, aeval, tput, awanted, List.range_succ, fin, aresults, aresult, List.replicate, heavy, acallOp, aenter, ble_d, beq_d, firstRegion, adraw, readNames, Nxt, isAnc, readsOk, objEq_some, Try.underlying38]
theorem nils (of : Int) (h : Heap) : run Try.prog s0 7 [.int .i64 of] h = some (.bool true, h) := by
  refine run_finP (fun _ => ([], [])) Try.func7 rfl (by kernel_rfl) ?_
  obtain ⟨hw, w⟩ := wakes0
  simp (maxSteps := 2000000) -implicitDefEqProofs [Try.f7, px_skip, px_label, px_region, px_draw, qx_seq, qx_cond, px_block, px_loop, px_scope, px_exit, px_ret, seqK_normal, seqK_exit, seqK_ret, condK_true, condK_false, opsK_some, wK_true, wK_false, itK_some, aops_nil, aops_cons, lK_some, aK_some, hK_some, dwK_true, dwK_false, diK_some, dK_light, dK_alloc, dK_heavy, adraw_nil, adraw_cons, aop, cls, light, lightS, binE, aeq, intBin, goInt, pl_int, pl_bool, pl_ptr, pl_slice, aload, isAggT, aeval, tput, awanted, List.range_succ, fin, aresults, aresult, List.replicate, heavy, acallOp, aenter, ble_d, beq_d, firstRegion, readNames, Nxt, isAnc, readsOk, objEq_some, ibeq, w, en11, en21, en24, pick_nil, log_nil, Try.underlying40]

theorem u64_of {a : Int} (w : (Lit.int .u64 a).wf = true) : ∃ n : Nat, n < 18446744073709551616 ∧ a = (n : Int) := by
  simp [Lit.wf, IntKind.min, IntKind.max, IntKind.signed, IntKind.bits] at w
  exact ⟨a.toNat, by omega, by omega⟩
theorem orders_calls (W : World) {a0 : Int} (w0 : (Lit.int .u64 a0).wf = true) {a1 : Int} (w1 : (Lit.int .u64 a1).wf = true) :
    Calls Try.prog 9 #[.int .u64 a0, .int .u64 a1] W fun e W' => e = .returned (.bool true) ∧ Below W.heap.size W W' := by
  obtain ⟨n, hn, rfl⟩ := u64_of w0
  obtain ⟨m, hm, rfl⟩ := u64_of w1
  exact law_plain mix (orders n m hn hm _) rfl (by simp [plain, plainN]) W
theorem nils_calls (W : World) {a0 : Int} (w0 : (Lit.int .i64 a0).wf = true) :
    Calls Try.prog 7 #[.int .i64 a0] W fun e W' => e = .returned (.bool true) ∧ Below W.heap.size W W' :=
  law_plain mix (nils a0 _) rfl (by simp [plain, plainN]) W
end Go.Proofs.Ythkefkpmgleolab.Bi
