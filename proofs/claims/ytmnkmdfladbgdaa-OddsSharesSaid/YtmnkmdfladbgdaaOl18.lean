/- Odds: round: the loop. -/
import Derived.Test.YtmnkmdfladbgdaaOl12
set_option linter.unusedVariables false
set_option linter.unusedSimpArgs false
namespace Go.Proofs.Ytmnkmdfladbgdaa.Od
open Go Go.Proofs Go.RowKit Go.Proofs.YtmnkmdfladbgdaaAI Go.Proofs.YtmnkmdfladbgdaaFl Go.Proofs.YtmnkmdfladbgdaaRnd

def mq (Q L i : Nat) : Nat := Q / 4294967296 ^ (L - i)
set_option maxRecDepth 20000 in
set_option maxHeartbeats 6400000 in
theorem round1 {h0 : Heap} {v0 v2 v3 v9 : Value} {qa : Option Addr} {qc L : Nat} {a : List Nat} (hL : a.length = L) (wa : W32 a) (ka : L ≤ 1000) (hQ : nv a < 9223372036854775808) (hq : Sl h0 (.slice qa L qc) 1 L (u3 a)) (F : Step) (hFF : F = aexecP Try.prog (sO 64) (run Try.prog sO) loopω pt64 (lb64 0)) (t : Tm)
    (ht : forget [1, 4, 5, 6, 7, 8, 13, 14, 15, 16, 17, 18, 19, 20, 21, 22, 23, 24, 25, 26, 27, 28, 29, 30, 31, 32, 33, 34, 35, 36, 37, 38, 39, 40, 41, 42, 43, 44, 45, 46, 47, 48, 49, 50, 51, 52, 53, 54, 55, 56, 57, 58, 59, 60] t = [v0, unk, v2, v3, unk, unk, unk, unk, unk, v9, .slice qa L qc, .int .u64 (mq (nv a) L (0) : Nat), .int .i64 (lz L (0)), unk, unk, unk, unk, unk, unk, unk, unk, unk, unk, unk, unk, unk, unk, unk, unk, unk, unk, unk, unk, unk, unk, unk, unk, unk, unk, unk, unk, unk, unk, unk, unk, unk, unk, unk, unk, unk, unk, unk, unk, unk, unk, unk, unk, unk, unk, unk, unk]) (hI0 : h0 = h0) :
    ∃ h' x37 x38, loopω [1, 4, 5, 6, 7, 8, 13, 14, 15, 16, 17, 18, 19, 20, 21, 22, 23, 24, 25, 26, 27, 28, 29, 30, 31, 32, 33, 34, 35, 36, 37, 38, 39, 40, 41, 42, 43, 44, 45, 46, 47, 48, 49, 50, 51, 52, 53, 54, 55, 56, 57, 58, 59, 60] F t h0 = some (.exit 0, [v0, unk, v2, v3, unk, unk, unk, unk, unk, v9, .slice qa L qc, .int .u64 (mq (nv a) L (L) : Nat), .int .i64 (lz L (L)), unk, unk, unk, unk, unk, unk, unk, unk, unk, unk, unk, unk, unk, unk, unk, unk, unk, unk, unk, unk, unk, unk, unk, unk, x37, x38, unk, unk, unk, unk, unk, unk, unk, unk, unk, unk, unk, unk, unk, unk, unk, unk, unk, unk, unk, unk, unk, unk], h') ∧ h' = h0 := by
  subst hFF
  suffices hs : ∃ e t' h', loopω [1, 4, 5, 6, 7, 8, 13, 14, 15, 16, 17, 18, 19, 20, 21, 22, 23, 24, 25, 26, 27, 28, 29, 30, 31, 32, 33, 34, 35, 36, 37, 38, 39, 40, 41, 42, 43, 44, 45, 46, 47, 48, 49, 50, 51, 52, 53, 54, 55, 56, 57, 58, 59, 60] (aexecP Try.prog (sO 64) (run Try.prog sO) loopω pt64 (lb64 0)) t h0 = some (e, t', h') ∧ (e = .exit 0 ∧ ∃ x37 x38, t' = [v0, unk, v2, v3, unk, unk, unk, unk, unk, v9, .slice qa L qc, .int .u64 (mq (nv a) L (L) : Nat), .int .i64 (lz L (L)), unk, unk, unk, unk, unk, unk, unk, unk, unk, unk, unk, unk, unk, unk, unk, unk, unk, unk, unk, unk, unk, unk, unk, unk, x37, x38, unk, unk, unk, unk, unk, unk, unk, unk, unk, unk, unk, unk, unk, unk, unk, unk, unk, unk, unk, unk, unk, unk] ∧ h' = h0) by
    obtain ⟨e, t', h', q1, rfl, x37, x38, rfl, q2⟩ := hs
    exact ⟨h', x37, x38, q1, q2⟩
  simp only [lb64, Try.f64, loopsOf, Option.getD_some, List.nil_append, List.append_nil, List.cons_append, List.getD_cons_zero, List.getD_cons_succ]
  refine loop_by (fun k t h' => ∃ (i : Nat), i + k = L ∧ forget [1, 4, 5, 6, 7, 8, 13, 14, 15, 16, 17, 18, 19, 20, 21, 22, 23, 24, 25, 26, 27, 28, 29, 30, 31, 32, 33, 34, 35, 36, 37, 38, 39, 40, 41, 42, 43, 44, 45, 46, 47, 48, 49, 50, 51, 52, 53, 54, 55, 56, 57, 58, 59, 60] t = [v0, unk, v2, v3, unk, unk, unk, unk, unk, v9, .slice qa L qc, .int .u64 (mq (nv a) L (i) : Nat), .int .i64 (lz L (i)), unk, unk, unk, unk, unk, unk, unk, unk, unk, unk, unk, unk, unk, unk, unk, unk, unk, unk, unk, unk, unk, unk, unk, unk, unk, unk, unk, unk, unk, unk, unk, unk, unk, unk, unk, unk, unk, unk, unk, unk, unk, unk, unk, unk, unk, unk, unk, unk] ∧ h' = h0)
    (fun e t' h' => e = .exit 0 ∧ ∃ x37 x38, t' = [v0, unk, v2, v3, unk, unk, unk, unk, unk, v9, .slice qa L qc, .int .u64 (mq (nv a) L (L) : Nat), .int .i64 (lz L (L)), unk, unk, unk, unk, unk, unk, unk, unk, unk, unk, unk, unk, unk, unk, unk, unk, unk, unk, unk, unk, unk, unk, unk, unk, x37, x38, unk, unk, unk, unk, unk, unk, unk, unk, unk, unk, unk, unk, unk, unk, unk, unk, unk, unk, unk, unk, unk, unk] ∧ h' = h0) ?_ (L) _ _ ⟨0, by omega, ht, hI0⟩
  rintro k t h' ⟨i, hi, ht, hI⟩
  rw [ht]
  rcases Nat.lt_or_ge i (L) with h1 | h1
  · obtain ⟨p, hp⟩ : ∃ p : Nat, L - 1 - i = p := ⟨_, rfl⟩
    have hz1 : lz L i = (p : Int) := by unfold lz; omega
    have hz2 : IntKind.i64.wrap ((p : Int) - 1) = lz L (i + 1) := by rw [IntWalk.i64_in _ (by omega)]; unfold lz; omega
    have hm1 : mq (nv a) L i = nv a / 4294967296 ^ (p + 1) := by unfold mq; rw [show L - i = p + 1 by omega]
    have hm2 : mq (nv a) L (i + 1) = nv a / 4294967296 ^ p := by unfold mq; rw [show L - (i + 1) = p by omega]
    have hdv := nv_div wa p
    have hx4 := wa.get p
    have hle : nv a / 4294967296 ^ p ≤ nv a := Nat.div_le_self _ _
    rw [← hm1, ← hm2] at hdv
    rw [← hm2] at hle
    subst hI
    have hpL : p < L := by omega
    obtain ⟨qa, qc, C, ce, cs, gr, ro, eb, hg, hc⟩ := sl_u3 hq hpL
    simp only [Value.slice.injEq, true_and] at eb
    obtain ⟨rfl, rfl⟩ := eb
    rw [hz1]
    generalize a.getD p 0 = x at *
    generalize mq (nv a) L i = y at *
    obtain ⟨z, hzz⟩ : ∃ z, mq (nv a) L (i + 1) = z := ⟨_, rfl⟩
    rw [hzz] at hdv hle
    obtain ⟨y2, hy2⟩ : ∃ y2, y * 4294967296 = y2 := ⟨_, rfl⟩
    have w1 : IntKind.u64.wrap ((y : Int) * 4294967296) = (y2 : Int) := by
      have : (y : Int) * 4294967296 = ((y * 4294967296 : Nat) : Int) := by omega
      rw [this]; exact wu64 hy2 (by omega)
    have w2 := wu64 (a := x) rfl (by omega)
    have w3 := au64 (show y2 + x = z by omega) (by omega)
    simp (maxSteps := 2000000) -implicitDefEqProofs [px_skip, px_label, px_region, px_draw, qx_seq, qx_cond, px_block, px_loop, px_scope, px_exit, px_ret, seqK_normal, seqK_exit, seqK_ret, condK_true, condK_false, opsK_some, wK_true, wK_false, itK_some, aops_nil, aops_cons, lK_some, aK_some, hK_some, dwK_true, dwK_false, diK_some, dK_light, dK_alloc, dK_heavy, adraw_nil, adraw_cons, aop, cls, light, lightS, binE, aeq, intBin, goInt, pl_int, pl_bool, pl_ptr, pl_slice, aload, isAggT, aeval, tput, awanted, List.range_succ, fin, aresults, aresult, List.replicate, heavy, acallOp, aenter, ble_d, beq_d, firstRegion, readNames, Nxt, isAnc, readsOk, objEq_some, hpL, aindexAddr, sz101, Try.underlying40, hg, hc, hz2, w1, w2, w3, shl37, cv101_37, undef]
    exact ⟨k - 1, by omega, i + 1, by omega, by simp (maxSteps := 2000000) only [forget, List.set_cons_succ, List.set_cons_zero, hzz]⟩
  · obtain rfl : i = L := by omega
    have hz : lz i i = -1 := by unfold lz; omega
    rw [hz]
    simp (maxSteps := 2000000) -implicitDefEqProofs [px_skip, px_label, px_region, px_draw, qx_seq, qx_cond, px_block, px_loop, px_scope, px_exit, px_ret, seqK_normal, seqK_exit, seqK_ret, condK_true, condK_false, opsK_some, wK_true, wK_false, itK_some, aops_nil, aops_cons, lK_some, aK_some, hK_some, dwK_true, dwK_false, diK_some, dK_light, dK_alloc, dK_heavy, adraw_nil, adraw_cons, aop, cls, light, lightS, binE, aeq, intBin, goInt, pl_int, pl_bool, pl_ptr, pl_slice, aload, isAggT, aeval, tput, awanted, List.range_succ, fin, aresults, aresult, List.replicate, heavy, acallOp, aenter, ble_d, beq_d, firstRegion, readNames, Nxt, isAnc, readsOk, objEq_some, undef]
    exact hI
end Go.Proofs.Ytmnkmdfladbgdaa.Od
