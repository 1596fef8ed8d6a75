/- The law BiasTurns. -/
import Derived.Test.YthkefkpmgleolabBi5
set_option linter.unusedVariables false
set_option linter.unusedSimpArgs false
namespace Go.Proofs.Ythkefkpmgleolab.Bi
open Go Go.Proofs Go.RowKit Go.Proofs.YthkefkpmgleolabAI Go.Proofs.YthkefkpmgleolabFl

theorem pt4' : planned Try.prog (fun _ => ([], [])) (Try.f4.body.getD .skip) = true := by kernel_rfl
theorem turns {h : Heap} {v : Value} {ws : List Nat} (turn i : Int) (hv : Sl h v 1 ws.length (us ws)) (hw : W64 ws) (hk : ws.length * 8 ≤ 2 ^ 47) : ∃ h', run Try.prog sB 4 [v, .int .i64 turn, .int .i64 i] h = some (.bool true, h') := by
  obtain ⟨hw', w⟩ := wakesB
  obtain ⟨v1, h1, e1, l1, k1, n1⟩ := floats_run hv hw hk
  have e2 := at_run turn i l1.sl hw (by omega)
  have e3 := rat_run turn i (hv.keep k1 fun _ _ x => x) hw (by omega)
  have hf := fun t x hx => fb17 t x (atB ws turn i) hx (atB_lt hw turn i)
  obtain ⟨a, c, rfl⟩ := sl_form hv
  refine ⟨h1, run_finP _ Try.func4 rfl pt4' ?_⟩
  simp (maxSteps := 2000000) -implicitDefEqProofs [Try.f4, px_skip, px_label, px_region, px_draw, qx_seq, qx_cond, px_block, px_loop, px_scope, px_exit, px_ret, seqK_normal, seqK_exit, seqK_ret, condK_true, condK_false, opsK_some, wK_true, wK_false, itK_some, aops_nil, aops_cons, lK_some, aK_some, hK_some, dwK_true, dwK_false, diK_some, dK_light, dK_alloc, dK_heavy, adraw_nil, adraw_cons, aop, cls, light, lightS, binE, aeq, intBin, goInt, pl_int, pl_bool, pl_ptr, pl_slice, aload, isAggT, aeval, tput, awanted, List.range_succ, fin, aresults, aresult, List.replicate, heavy, acallOp, aenter, ble_d, beq_d, firstRegion, readNames, Nxt, isAnc, readsOk, objEq_some, ibeq, w, en11, en13, en17, en18, en19, e1, e2, e3, hf]
theorem turns_calls (W : World) {a0 : Option Addr} {len0 cap0 : Nat} {l0 : List Nat} (w0 : U64sAt W a0 len0 cap0 l0) (y0 : len0 * 8 ≤ 140737488351232) {a1 : Int} (w1 : (Lit.int .i64 a1).wf = true) {a2 : Int} (w2 : (Lit.int .i64 a2).wf = true) :
    Calls Try.prog 4 #[.slice a0 len0 cap0, .int .i64 a1, .int .i64 a2] W fun e W' => e = .returned (.bool true) ∧ Below W.heap.size W W' := by
  obtain ⟨h, σ, v, hr, hro, _, _, hv, hs, hu, _⟩ := arg_u64s (h := .empty) (σ := fun _ => ⟨0, 0, 0⟩) (Rep.none _ W (Nat.le_refl _) _) allRo_empty 32 w0
  have := u64s_len w0
  obtain ⟨h', e⟩ := turns a1 a2 hs w0.1 (by omega)
  exact law_calls mix hro e rfl hr (.cons hv (.cons (VRep.plain_refl 8 rfl) (.cons (VRep.plain_refl 8 rfl) .nil)))
end Go.Proofs.Ythkefkpmgleolab.Bi
