/- The check of a log, and its raw numbers in the second writing. -/
import Derived.Test.YthkefkpmgleolaaOr8
import Derived.Test.YthkefkpmgleolaaAI18
set_option linter.unusedVariables false
set_option linter.unusedSimpArgs false
namespace Go.Proofs.Ythkefkpmgleolaa.Or
open Go Go.Proofs Go.RowKit Go.Proofs.YthkefkpmgleolaaAI

def bad (p : Int × Int) : Bool := decide (p.1 < 2) || (decide (p.2 < 0) || decide (p.2 ≥ p.1))
def goodB (l : List (Int × Int)) : Bool := l.all fun p => !bad p
theorem sT26 (r : Nat) : sT 26 r = [1, 4, 5, 6, 7, 8, 9, 10, 11, 12, 13, 14, 15, 16, 17, 18, 19, 20, 21, 22, 23, 24, 25, 26, 27, 28, 29, 30, 31, 32, 33, 34, 35, 36] := by rfl
theorem goodB_false {l : List (Int × Int)} {i : Nat} (hi : i < l.length) (hb : bad (l.getD i (0, 0)) = true) : goodB l = false := by
  unfold goodB
  rw [List.all_eq_false]
  refine ⟨l[i], List.getElem_mem hi, ?_⟩
  rw [List.getD_eq_getElem?_getD, List.getElem?_eq_getElem hi] at hb
  simp only [Option.getD_some] at hb
  simp [hb]
def pl26_4 : List Nat := [0, 1, 2, 3, 4, 5, 6, 7, 8, 9, 10, 11, 12, 13, 14, 15, 16, 17, 18, 19, 20, 21, 22, 23, 24, 25, 26]
def an26_4 : List (List Nat) := [[], [], [0, 1], [2, 0, 1], [3, 2, 0, 1], [4, 3, 2, 0, 1], [5, 4, 3, 2, 0, 1], [6, 5, 4, 3, 2, 0, 1], [6, 5, 4, 3, 2, 0, 1], [7, 6, 5, 4, 3, 2, 0, 1, 8], [9, 7, 6, 5, 4, 3, 2, 0, 1, 8], [10, 9, 7, 6, 5, 4, 3, 2, 0, 1, 8], [11, 10, 9, 7, 6, 5, 4, 3, 2, 0, 1, 8], [6, 5, 4, 3, 2, 0, 1, 12, 11, 10, 9, 7, 8], [13, 6, 5, 4, 3, 2, 0, 1, 12, 11, 10, 9, 7, 8], [14, 13, 6, 5, 4, 3, 2, 0, 1, 12, 11, 10, 9, 7, 8], [14, 13, 6, 5, 4, 3, 2, 0, 1, 12, 11, 10, 9, 7, 8], [15, 14, 13, 6, 5, 4, 3, 2, 0, 1, 12, 11, 10, 9, 7, 8, 16], [17, 15, 14, 13, 6, 5, 4, 3, 2, 0, 1, 12, 11, 10, 9, 7, 8, 16], [18, 17, 15, 14, 13, 6, 5, 4, 3, 2, 0, 1, 12, 11, 10, 9, 7, 8, 16], [14, 13, 6, 5, 4, 3, 2, 0, 1, 12, 11, 10, 9, 7, 8], [14, 13, 6, 5, 4, 3, 2, 0, 1, 12, 11, 10, 9, 7, 8], [20, 14, 13, 6, 5, 4, 3, 2, 0, 1, 12, 11, 10, 9, 7, 8, 21], [22, 20, 14, 13, 6, 5, 4, 3, 2, 0, 1, 12, 11, 10, 9, 7, 8, 21], [23, 22, 20, 14, 13, 6, 5, 4, 3, 2, 0, 1, 12, 11, 10, 9, 7, 8, 21], [19, 18, 17, 15, 14, 13, 6, 5, 4, 3, 2, 0, 1, 12, 11, 10, 9, 7, 8, 16, 24, 23, 22, 20, 21], [14, 13, 6, 5, 4, 3, 2, 0, 1, 12, 11, 10, 9, 7, 8, 25, 19, 18, 17, 15, 16, 24, 23, 22, 20, 21]]
def pt26 : PlanTab := fun _ => (pl26_4, an26_4)
theorem pt26_4 (i : Nat) : pt26 i = (pl26_4, an26_4) := rfl

set_option maxHeartbeats 800000 in
theorem good_run {h : Heap} {v : Value} {l : List (Int × Int)} (hv : Sl h v 2 l.length (picks l)) (hlen : l.length ≤ 2 ^ 47) : run Try.prog sT 26 [v] h = some (.bool (goodB l), h) := by
  refine run_finP pt26 Try.func26 rfl (by kernel_rfl) ?_
  obtain ⟨a, c, rfl⟩ : ∃ a c, v = .slice a l.length c := by
    rcases sl_cut hv with ⟨rfl, h0⟩ | ⟨a, c, rfl⟩
    · exact ⟨none, 0, by rw [h0]⟩
    · exact ⟨_, _, rfl⟩
  simp (maxSteps := 2000000) -implicitDefEqProofs [Try.f26, px_skip, px_label, px_region, px_draw, qx_seq, qx_cond, px_block, px_loop, px_scope, px_exit, px_ret, seqK_normal, seqK_exit, seqK_ret, condK_true, condK_false, opsK_some, wK_true, wK_false, itK_some, aops_nil, aops_cons, lK_some, aK_some, hK_some, dwK_true, dwK_false, diK_some, dK_light, dK_alloc, dK_heavy, adraw_nil, adraw_cons, aop, cls, light, lightS, binE, aeq, intBin, goInt, pl_int, pl_bool, pl_ptr, pl_slice, aload, isAggT, aeval, tput, awanted, List.range_succ, fin, aresults, aresult, List.replicate, heavy, acallOp, aenter, ble_d, beq_d, firstRegion, readNames, Nxt, isAnc, readsOk, objEq_some, sT26]
  generalize hl : loopω _ _ _ _ = r
  obtain ⟨e, t', h', hx, hh, hR⟩ : ∃ e t' h', r = some (e, t', h') ∧ h' = h ∧ ((e = .exit 0 ∧ goodB l = true ∧ ∃ x4 x5 x6 x7, t' = [.slice a l.length c, unk, .bool false, .int .i64 l.length, x4, x5, x6, x7, unk, unk, unk, unk, unk, unk, unk, unk, unk, unk, unk, unk, unk, unk, unk, unk, unk, unk, unk, unk, unk, unk, unk, unk, unk, unk, unk, unk, unk]) ∨ (e = .ret ∧ goodB l = false ∧ t'[2]?.getD undef = .bool false)) := by
    rw [← hl]
    refine loop_by (fun k t h' => ∃ i, i + k = l.length ∧ forget [1, 4, 5, 6, 7, 8, 9, 10, 11, 12, 13, 14, 15, 16, 17, 18, 19, 20, 21, 22, 23, 24, 25, 26, 27, 28, 29, 30, 31, 32, 33, 34, 35, 36] t = [.slice a l.length c, unk, .bool false, .int .i64 i, unk, unk, unk, unk, unk, unk, unk, unk, unk, unk, unk, unk, unk, unk, unk, unk, unk, unk, unk, unk, unk, unk, unk, unk, unk, unk, unk, unk, unk, unk, unk, unk, unk] ∧ h' = h ∧ ∀ j, j < i → bad (l.getD j (0, 0)) = false)
      (fun e t' h' => h' = h ∧ ((e = .exit 0 ∧ goodB l = true ∧ ∃ x4 x5 x6 x7, t' = [.slice a l.length c, unk, .bool false, .int .i64 l.length, x4, x5, x6, x7, unk, unk, unk, unk, unk, unk, unk, unk, unk, unk, unk, unk, unk, unk, unk, unk, unk, unk, unk, unk, unk, unk, unk, unk, unk, unk, unk, unk, unk]) ∨ (e = .ret ∧ goodB l = false ∧ t'[2]?.getD undef = .bool false))) ?_ l.length _ _ ⟨0, by omega, by kernel_rfl, rfl, fun j hj => by omega⟩
    rintro k t h' ⟨i, hi, ht, rfl, hg⟩
    rw [ht]
    rcases Nat.lt_or_ge i l.length with h1 | h1
    · obtain ⟨a, c, C, e, s, gr, ro, ea, hgt, hf, hd, p1, p2⟩ := sl_pick hv h1
      simp only [Value.slice.injEq, true_and] at ea
      obtain ⟨rfl, rfl⟩ := ea
      have hw : IntKind.i64.wrap ((i : Int) + 1) = ((i + 1 : Nat) : Int) := by rw [IntWalk.i64_in _ (by omega)]; omega
      have hii : ((i + 1 : Nat) : Int) = (i : Int) + 1 := by omega
      have hbad := @goodB_false l i h1
      have hnext : bad (l.getD i (0, 0)) = false → ∀ j, j < i + 1 → bad (l.getD j (0, 0)) = false := fun hb j hj => by
        rcases Nat.lt_or_ge j i with h2 | h2
        · exact hg j h2
        · have : j = i := by omega
          subst this; exact hb
      generalize hq : l.getD i (0, 0) = q at *
      obtain ⟨q1, q2⟩ := q
      simp only at p1 p2
      by_cases c1 : q1 < 2
      · have hb := hbad (by simp [bad, c1])
        simp (maxSteps := 2000000) -implicitDefEqProofs [px_skip, px_label, px_region, px_draw, qx_seq, qx_cond, px_block, px_loop, px_scope, px_exit, px_ret, seqK_normal, seqK_exit, seqK_ret, condK_true, condK_false, opsK_some, wK_true, wK_false, itK_some, aops_nil, aops_cons, lK_some, aK_some, hK_some, dwK_true, dwK_false, diK_some, dK_light, dK_alloc, dK_heavy, adraw_nil, adraw_cons, aop, cls, light, lightS, binE, aeq, intBin, goInt, pl_int, pl_bool, pl_ptr, pl_slice, aload, isAggT, aeval, tput, awanted, List.range_succ, fin, aresults, aresult, List.replicate, heavy, acallOp, aenter, ble_d, beq_d, firstRegion, readNames, Nxt, isAnc, readsOk, objEq_some, pt26_4, pl26_4, an26_4, Try.underlying32, Try.underlying3, h1, aindexAddr, sz49, hgt, p1, p2, fa49_0, fa49_1, c1, hb]
      by_cases c2 : q2 < 0
      · have hb := hbad (by simp [bad, c2])
        simp (maxSteps := 2000000) -implicitDefEqProofs [px_skip, px_label, px_region, px_draw, qx_seq, qx_cond, px_block, px_loop, px_scope, px_exit, px_ret, seqK_normal, seqK_exit, seqK_ret, condK_true, condK_false, opsK_some, wK_true, wK_false, itK_some, aops_nil, aops_cons, lK_some, aK_some, hK_some, dwK_true, dwK_false, diK_some, dK_light, dK_alloc, dK_heavy, adraw_nil, adraw_cons, aop, cls, light, lightS, binE, aeq, intBin, goInt, pl_int, pl_bool, pl_ptr, pl_slice, aload, isAggT, aeval, tput, awanted, List.range_succ, fin, aresults, aresult, List.replicate, heavy, acallOp, aenter, ble_d, beq_d, firstRegion, readNames, Nxt, isAnc, readsOk, objEq_some, pt26_4, pl26_4, an26_4, Try.underlying32, Try.underlying3, h1, aindexAddr, sz49, hgt, p1, p2, fa49_0, fa49_1, c1, c2, hb]
      by_cases c3 : q2 ≥ q1
      · have hb := hbad (by simp [bad, c3])
        have c3' : q1 ≤ q2 := c3
        simp (maxSteps := 2000000) -implicitDefEqProofs [px_skip, px_label, px_region, px_draw, qx_seq, qx_cond, px_block, px_loop, px_scope, px_exit, px_ret, seqK_normal, seqK_exit, seqK_ret, condK_true, condK_false, opsK_some, wK_true, wK_false, itK_some, aops_nil, aops_cons, lK_some, aK_some, hK_some, dwK_true, dwK_false, diK_some, dK_light, dK_alloc, dK_heavy, adraw_nil, adraw_cons, aop, cls, light, lightS, binE, aeq, intBin, goInt, pl_int, pl_bool, pl_ptr, pl_slice, aload, isAggT, aeval, tput, awanted, List.range_succ, fin, aresults, aresult, List.replicate, heavy, acallOp, aenter, ble_d, beq_d, firstRegion, readNames, Nxt, isAnc, readsOk, objEq_some, pt26_4, pl26_4, an26_4, Try.underlying32, Try.underlying3, h1, aindexAddr, sz49, hgt, p1, p2, fa49_0, fa49_1, c1, c2, c3', hb]
      · have hb := hnext (by simp [bad, c1, c2]; omega)
        have c3' : ¬ q1 ≤ q2 := c3
        simp (maxSteps := 2000000) -implicitDefEqProofs [px_skip, px_label, px_region, px_draw, qx_seq, qx_cond, px_block, px_loop, px_scope, px_exit, px_ret, seqK_normal, seqK_exit, seqK_ret, condK_true, condK_false, opsK_some, wK_true, wK_false, itK_some, aops_nil, aops_cons, lK_some, aK_some, hK_some, dwK_true, dwK_false, diK_some, dK_light, dK_alloc, dK_heavy, adraw_nil, adraw_cons, aop, cls, light, lightS, binE, aeq, intBin, goInt, pl_int, pl_bool, pl_ptr, pl_slice, aload, isAggT, aeval, tput, awanted, List.range_succ, fin, aresults, aresult, List.replicate, heavy, acallOp, aenter, ble_d, beq_d, firstRegion, readNames, Nxt, isAnc, readsOk, objEq_some, pt26_4, pl26_4, an26_4, Try.underlying32, Try.underlying3, h1, aindexAddr, sz49, hgt, p1, p2, fa49_0, fa49_1, c1, c2, c3', hw]
        exact ⟨k - 1, by omega, i + 1, by omega, by simp only [forget, List.set_cons_succ, List.set_cons_zero, hii], hb⟩
    · have hi' : i = l.length := by omega
      subst hi'
      have hall : goodB l = true := by
        unfold goodB
        rw [List.all_eq_true]
        intro p hp
        obtain ⟨j, hj, rfl⟩ := List.mem_iff_getElem.1 hp
        have := hg j hj
        rw [List.getD_eq_getElem?_getD, List.getElem?_eq_getElem hj] at this
        simp only [Option.getD_some] at this
        simp [this]
      simp (maxSteps := 2000000) -implicitDefEqProofs [px_skip, px_label, px_region, px_draw, qx_seq, qx_cond, px_block, px_loop, px_scope, px_exit, px_ret, seqK_normal, seqK_exit, seqK_ret, condK_true, condK_false, opsK_some, wK_true, wK_false, itK_some, aops_nil, aops_cons, lK_some, aK_some, hK_some, dwK_true, dwK_false, diK_some, dK_light, dK_alloc, dK_heavy, adraw_nil, adraw_cons, aop, cls, light, lightS, binE, aeq, intBin, goInt, pl_int, pl_bool, pl_ptr, pl_slice, aload, isAggT, aeval, tput, awanted, List.range_succ, fin, aresults, aresult, List.replicate, heavy, acallOp, aenter, ble_d, beq_d, firstRegion, readNames, Nxt, isAnc, readsOk, objEq_some, Try.underlying32, hall]
  subst hx hh
  rcases hR with ⟨rfl, hB, x4, x5, x6, x7, rfl⟩ | ⟨rfl, hB, ht⟩
  · simp (maxSteps := 2000000) -implicitDefEqProofs [px_skip, px_label, px_region, px_draw, qx_seq, qx_cond, px_block, px_loop, px_scope, px_exit, px_ret, seqK_normal, seqK_exit, seqK_ret, condK_true, condK_false, opsK_some, wK_true, wK_false, itK_some, aops_nil, aops_cons, lK_some, aK_some, hK_some, dwK_true, dwK_false, diK_some, dK_light, dK_alloc, dK_heavy, adraw_nil, adraw_cons, aop, cls, light, lightS, binE, aeq, intBin, goInt, pl_int, pl_bool, pl_ptr, pl_slice, aload, isAggT, aeval, tput, awanted, List.range_succ, fin, aresults, aresult, List.replicate, heavy, acallOp, aenter, ble_d, beq_d, firstRegion, readNames, Nxt, isAnc, readsOk, objEq_some, hB]
  · simp (maxSteps := 2000000) -implicitDefEqProofs [px_skip, px_label, px_region, px_draw, qx_seq, qx_cond, px_block, px_loop, px_scope, px_exit, px_ret, seqK_normal, seqK_exit, seqK_ret, condK_true, condK_false, opsK_some, wK_true, wK_false, itK_some, aops_nil, aops_cons, lK_some, aK_some, hK_some, dwK_true, dwK_false, diK_some, dK_light, dK_alloc, dK_heavy, adraw_nil, adraw_cons, aop, cls, light, lightS, binE, aeq, intBin, goInt, pl_int, pl_bool, pl_ptr, pl_slice, aload, isAggT, aeval, tput, awanted, List.range_succ, fin, aresults, aresult, List.replicate, heavy, acallOp, aenter, ble_d, beq_d, firstRegion, readNames, Nxt, isAnc, readsOk, objEq_some, hB, ht]
end Go.Proofs.Ythkefkpmgleolaa.Or
