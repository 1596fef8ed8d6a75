/- The best, and the rank. -/
import Derived.Test.YthkefkpmgleolabBi18
import Derived.Test.YthkefkpmgleolabBi19
set_option linter.unusedVariables false
set_option linter.unusedSimpArgs false
namespace Go.Proofs.Ythkefkpmgleolab.Bi
open Go Go.Proofs Go.RowKit Go.Proofs.YthkefkpmgleolabAI Go.Proofs.YthkefkpmgleolabFl Go.Proofs.YthkefkpmgleolabSrt

def wt (ws : List Nat) (x : Int) : Nat := ws.getD x.toNat 0
def rB (ws : List Nat) (x y : Int) : Int := cmpK (wt ws y) (wt ws x)
def loB (ws : List Nat) (x y : Int) : Prop := key (wt ws y) < key (wt ws x) ∨ (key (wt ws y) = key (wt ws x) ∧ x < y)
theorem loB_LO (ws : List Nat) : LO (loB ws) (fun x => x) (clo (rB ws)) := by
  refine ⟨fun x y z h1 h2 => ?_, fun x y h => ?_, fun x y h1 h2 => ?_, fun x y h => ?_⟩
  · unfold loB at *; omega
  · unfold loB; omega
  · unfold loB at *; omega
  · unfold loB clo rB cmpK
    rw [decide_eq_true_eq]
    split
    · omega
    · split <;> omega
/-- The comparison that Rank hands on. -/
theorem cmpB {h0 : Heap} {m bx : Nat} {ws : List Nat} {v : Value} (hw : W64 ws) (hb : h0.get bx = some (.cells [v] 25 1 false false)) (hbm : bx ≠ m) (hv : Sl h0 v 1 ws.length (fl ws)) (hvm : ∀ n, nm v = some n → n ≠ m) : CmpH h0 m (.pointer (some ⟨bx, 0, none⟩)) ws.length (rB ws) := by
  intro h hk x y x0 x1 y0 y1
  have hv' := hv.keep hk fun n e x => hvm n e x
  have hb' := hk.get hb hbm
  have o1 := Sl_one hv
  obtain ⟨a, c, rfl⟩ := sl_form hv
  obtain ⟨i, rfl⟩ := Int.eq_ofNat_of_zero_le x0
  obtain ⟨j, rfl⟩ := Int.eq_ofNat_of_zero_le y0
  have hi : i < ws.length := by omega
  have hj : j < ws.length := by omega
  obtain ⟨a', c', C, ce, cs, gr, ro, eb, hg, hci⟩ := sl_fl hv' hi
  obtain ⟨a2, c2, C2, ce2, cs2, gr2, ro2, eb2, hg2, hcj⟩ := sl_fl hv' hj
  simp only [Value.slice.injEq, true_and] at eb eb2
  obtain ⟨rfl, rfl⟩ := eb
  obtain ⟨e1, rfl⟩ := eb2
  cases e1
  rw [hg] at hg2
  cases hg2
  have l1 := hw.get i
  have l2 := hw.get j
  have ec := cmp_run sB (ws.getD j 0) (ws.getD i 0) l2 l1 h
  refine run_finP pt37 Try.func37 rfl planned37 ?_
  have e1 : rB ws (i : Int) (j : Int) = cmpK (ws.getD j 0) (ws.getD i 0) := rfl
  rw [e1]
  generalize ws.getD i 0 = A at *
  generalize ws.getD j 0 = B at *
  simp (maxSteps := 2000000) -implicitDefEqProofs [Try.f37, px_skip, px_label, px_region, px_draw, qx_seq, qx_cond, px_block, px_loop, px_scope, px_exit, px_ret, seqK_normal, seqK_exit, seqK_ret, condK_true, condK_false, opsK_some, wK_true, wK_false, itK_some, aops_nil, aops_cons, lK_some, aK_some, hK_some, dwK_true, dwK_false, diK_some, dK_light, dK_alloc, dK_heavy, adraw_nil, adraw_cons, aop, cls, light, lightS, binE, aeq, intBin, goInt, pl_int, pl_bool, pl_ptr, pl_slice, aload, isAggT, aeval, tput, awanted, List.range_succ, fin, aresults, aresult, List.replicate, heavy, acallOp, aenter, ble_d, beq_d, firstRegion, readNames, Nxt, isAnc, readsOk, objEq_some, pt37_1, pl37_1, an37_1, Try.underlying25, hb', aindexAddr, sz34, hi, hj, hg, hci, hcj, en26, ec]

/-! ### The best -/
def bsTo (ws : List Nat) : Nat → Int
  | 0 => -1
  | i + 1 => if bsTo ws i < 0 then i else if 0 < cmpK (ws.getD i 0) (wt ws (bsTo ws i)) then i else bsTo ws i
theorem bsTo_lt (ws : List Nat) (i : Nat) : -1 ≤ bsTo ws i ∧ bsTo ws i < i := by
  induction i with
  | zero => simp [bsTo]
  | succ i ih => simp only [bsTo]; split
                 · omega
                 · split <;> omega
theorem best_run {h : Heap} {v : Value} {ws : List Nat} (hv : Sl h v 1 ws.length (fl ws)) (hw : W64 ws) (hk : ws.length ≤ 2 ^ 47) : run Try.prog sB 12 [v] h = some (.int .i64 (bsTo ws ws.length), h) := by
  obtain ⟨a, c, rfl⟩ := sl_form hv
  suffices hx : ∃ y, fin Try.prog Try.f12 (aexecP Try.prog (sB 12) (run Try.prog sB) loopω pt12 (Try.f12.body.getD .skip) ([.slice a ws.length c] ++ List.replicate (Try.f12.ntmps - 1) undef) h) = some y ∧ y = (.int .i64 (bsTo ws ws.length), h) by
    obtain ⟨y, hy, rfl⟩ := hx
    exact run_finP pt12 Try.func12 rfl planned12 hy
  simp (maxSteps := 2000000) -implicitDefEqProofs [Try.f12, px_skip, px_label, px_region, px_draw, qx_seq, qx_cond, px_block, px_loop, px_scope, px_exit, px_ret, seqK_normal, seqK_exit, seqK_ret, condK_true, condK_false, opsK_some, wK_true, wK_false, itK_some, aops_nil, aops_cons, lK_some, aK_some, hK_some, dwK_true, dwK_false, diK_some, dK_light, dK_alloc, dK_heavy, adraw_nil, adraw_cons, aop, cls, light, lightS, binE, aeq, intBin, goInt, pl_int, pl_bool, pl_ptr, pl_slice, aload, isAggT, aeval, tput, awanted, List.range_succ, fin, aresults, aresult, List.replicate, heavy, acallOp, aenter, ble_d, beq_d, firstRegion, readNames, Nxt, isAnc, readsOk, objEq_some, Try.underlying25, sB12]
  generalize hl : loopω _ _ _ _ = rr
  obtain ⟨e, t', h', hx, he, rfl, x9, ht⟩ : ∃ e t' h', rr = some (e, t', h') ∧ e = .exit 0 ∧ h' = h ∧ ∃ x9, t' = [.slice a ws.length c, unk, unk, .int .i64 (bsTo ws ws.length), unk, unk, .slice a ws.length c, .int .i64 ws.length, .int .i64 ws.length, x9, unk, unk, unk, unk, unk, unk, unk, unk, unk, unk, unk, unk, unk, unk, unk, unk, unk] := by
    rw [← hl]
    refine loop_by (fun k t h' => ∃ i : Nat, i + k = ws.length ∧ forget [1, 2, 4, 5, 9, 10, 11, 12, 13, 14, 15, 16, 17, 18, 19, 20, 21, 22, 23, 24, 25, 26] t = [.slice a ws.length c, unk, unk, .int .i64 (bsTo ws i), unk, unk, .slice a ws.length c, .int .i64 ws.length, .int .i64 (i : Nat), unk, unk, unk, unk, unk, unk, unk, unk, unk, unk, unk, unk, unk, unk, unk, unk, unk, unk] ∧ h' = h)
      (fun e t' h' => e = .exit 0 ∧ h' = h ∧ ∃ x9, t' = [.slice a ws.length c, unk, unk, .int .i64 (bsTo ws ws.length), unk, unk, .slice a ws.length c, .int .i64 ws.length, .int .i64 ws.length, x9, unk, unk, unk, unk, unk, unk, unk, unk, unk, unk, unk, unk, unk, unk, unk, unk, unk]) ?_ ws.length _ _ ⟨0, by omega, by kernel_rfl, rfl⟩
    clear hl
    rintro k t h' ⟨i, hi, ht, rfl⟩
    rw [ht]
    rcases Nat.lt_or_ge i ws.length with h1 | h1
    · obtain ⟨a, c, C, ce, cs, gr, ro, eb, hg, hci⟩ := sl_fl hv h1
      simp only [Value.slice.injEq, true_and] at eb
      obtain ⟨rfl, rfl⟩ := eb
      obtain ⟨b1, b2⟩ := bsTo_lt ws i
      have hs : bsTo ws (i + 1) = if bsTo ws i < 0 then (i : Int) else if 0 < cmpK (ws.getD i 0) (wt ws (bsTo ws i)) then (i : Int) else bsTo ws i := rfl
      have hinc := @inc64 i (by omega)
      have hcs := cast_succ i
      by_cases h5 : bsTo ws i < 0
      · rw [if_pos h5] at hs
        generalize bsTo ws i = Z at *
        simp (maxSteps := 2000000) -implicitDefEqProofs [px_skip, px_label, px_region, px_draw, qx_seq, qx_cond, px_block, px_loop, px_scope, px_exit, px_ret, seqK_normal, seqK_exit, seqK_ret, condK_true, condK_false, opsK_some, wK_true, wK_false, itK_some, aops_nil, aops_cons, lK_some, aK_some, hK_some, dwK_true, dwK_false, diK_some, dK_light, dK_alloc, dK_heavy, adraw_nil, adraw_cons, aop, cls, light, lightS, binE, aeq, intBin, goInt, pl_int, pl_bool, pl_ptr, pl_slice, aload, isAggT, aeval, tput, awanted, List.range_succ, fin, aresults, aresult, List.replicate, heavy, acallOp, aenter, ble_d, beq_d, firstRegion, readNames, Nxt, isAnc, readsOk, objEq_some, h1, aindexAddr, sz34, Try.underlying25, hg, hci, h5, hinc]
        exact ⟨k - 1, by omega, i + 1, by omega, by simp (maxSteps := 2000000) only [forget, List.set_cons_succ, List.set_cons_zero, hs, hcs]⟩
      · rw [if_neg h5] at hs
        obtain ⟨q, hq⟩ : ∃ q : Nat, bsTo ws i = (q : Int) := ⟨(bsTo ws i).toNat, by omega⟩
        rw [hq] at hs h5
        have hwq : wt ws ((q : Nat) : Int) = ws.getD q 0 := rfl
        rw [hwq] at hs
        have h6 : q < ws.length := by omega
        obtain ⟨a2, c2, C2, ce2, cs2, gr2, ro2, eb2, hg2, hcj⟩ := sl_fl hv h6
        simp only [Value.slice.injEq, true_and, Option.some.injEq] at eb2
        obtain ⟨rfl, rfl⟩ := eb2
        rw [hg] at hg2
        cases hg2
        have ec := cmp_run sB (ws.getD i 0) (ws.getD q 0) (hw.get i) (hw.get q) h'
        rw [hq]
        generalize ws.getD i 0 = A at *
        generalize ws.getD q 0 = B at *
        by_cases h7 : 0 < cmpK A B
        · rw [if_pos h7] at hs
          simp (maxSteps := 2000000) -implicitDefEqProofs [px_skip, px_label, px_region, px_draw, qx_seq, qx_cond, px_block, px_loop, px_scope, px_exit, px_ret, seqK_normal, seqK_exit, seqK_ret, condK_true, condK_false, opsK_some, wK_true, wK_false, itK_some, aops_nil, aops_cons, lK_some, aK_some, hK_some, dwK_true, dwK_false, diK_some, dK_light, dK_alloc, dK_heavy, adraw_nil, adraw_cons, aop, cls, light, lightS, binE, aeq, intBin, goInt, pl_int, pl_bool, pl_ptr, pl_slice, aload, isAggT, aeval, tput, awanted, List.range_succ, fin, aresults, aresult, List.replicate, heavy, acallOp, aenter, ble_d, beq_d, firstRegion, readNames, Nxt, isAnc, readsOk, objEq_some, h1, aindexAddr, sz34, Try.underlying25, hg, hci, hcj, h6, en26, ec, h5, h7, hinc]
          exact ⟨k - 1, by omega, i + 1, by omega, by simp (maxSteps := 2000000) only [forget, List.set_cons_succ, List.set_cons_zero, hs, hcs]⟩
        · rw [if_neg h7] at hs
          simp (maxSteps := 2000000) -implicitDefEqProofs [px_skip, px_label, px_region, px_draw, qx_seq, qx_cond, px_block, px_loop, px_scope, px_exit, px_ret, seqK_normal, seqK_exit, seqK_ret, condK_true, condK_false, opsK_some, wK_true, wK_false, itK_some, aops_nil, aops_cons, lK_some, aK_some, hK_some, dwK_true, dwK_false, diK_some, dK_light, dK_alloc, dK_heavy, adraw_nil, adraw_cons, aop, cls, light, lightS, binE, aeq, intBin, goInt, pl_int, pl_bool, pl_ptr, pl_slice, aload, isAggT, aeval, tput, awanted, List.range_succ, fin, aresults, aresult, List.replicate, heavy, acallOp, aenter, ble_d, beq_d, firstRegion, readNames, Nxt, isAnc, readsOk, objEq_some, h1, aindexAddr, sz34, Try.underlying25, hg, hci, hcj, h6, en26, ec, h5, h7, hinc]
          exact ⟨k - 1, by omega, i + 1, by omega, by simp (maxSteps := 2000000) only [forget, List.set_cons_succ, List.set_cons_zero, hs, hcs]⟩
    · obtain rfl : i = ws.length := by omega
      simp (maxSteps := 2000000) -implicitDefEqProofs [px_skip, px_label, px_region, px_draw, qx_seq, qx_cond, px_block, px_loop, px_scope, px_exit, px_ret, seqK_normal, seqK_exit, seqK_ret, condK_true, condK_false, opsK_some, wK_true, wK_false, itK_some, aops_nil, aops_cons, lK_some, aK_some, hK_some, dwK_true, dwK_false, diK_some, dK_light, dK_alloc, dK_heavy, adraw_nil, adraw_cons, aop, cls, light, lightS, binE, aeq, intBin, goInt, pl_int, pl_bool, pl_ptr, pl_slice, aload, isAggT, aeval, tput, awanted, List.range_succ, fin, aresults, aresult, List.replicate, heavy, acallOp, aenter, ble_d, beq_d, firstRegion, readNames, Nxt, isAnc, readsOk, objEq_some]
  subst hx he ht
  simp (maxSteps := 2000000) -implicitDefEqProofs [px_skip, px_label, px_region, px_draw, qx_seq, qx_cond, px_block, px_loop, px_scope, px_exit, px_ret, seqK_normal, seqK_exit, seqK_ret, condK_true, condK_false, opsK_some, wK_true, wK_false, itK_some, aops_nil, aops_cons, lK_some, aK_some, hK_some, dwK_true, dwK_false, diK_some, dK_light, dK_alloc, dK_heavy, adraw_nil, adraw_cons, aop, cls, light, lightS, binE, aeq, intBin, goInt, pl_int, pl_bool, pl_ptr, pl_slice, aload, isAggT, aeval, tput, awanted, List.range_succ, fin, aresults, aresult, List.replicate, heavy, acallOp, aenter, ble_d, beq_d, firstRegion, readNames, Nxt, isAnc, readsOk, objEq_some]
theorem rbest_run {h : Heap} {v : Value} {ws : List Nat} (hv : Sl h v 1 ws.length (us ws)) (hw : W64 ws) (hk : ws.length ≤ 2 ^ 47) : run Try.prog sB 14 [v] h = some (.int .i64 (bsTo ws ws.length), h) := by
  obtain ⟨a, c, rfl⟩ := sl_form hv
  suffices hx : ∃ y, fin Try.prog Try.f14 (aexecP Try.prog (sB 14) (run Try.prog sB) loopω pt14 (Try.f14.body.getD .skip) ([.slice a ws.length c] ++ List.replicate (Try.f14.ntmps - 1) undef) h) = some y ∧ y = (.int .i64 (bsTo ws ws.length), h) by
    obtain ⟨y, hy, rfl⟩ := hx
    exact run_finP pt14 Try.func14 rfl planned14 hy
  simp (maxSteps := 2000000) -implicitDefEqProofs [Try.f14, px_skip, px_label, px_region, px_draw, qx_seq, qx_cond, px_block, px_loop, px_scope, px_exit, px_ret, seqK_normal, seqK_exit, seqK_ret, condK_true, condK_false, opsK_some, wK_true, wK_false, itK_some, aops_nil, aops_cons, lK_some, aK_some, hK_some, dwK_true, dwK_false, diK_some, dK_light, dK_alloc, dK_heavy, adraw_nil, adraw_cons, aop, cls, light, lightS, binE, aeq, intBin, goInt, pl_int, pl_bool, pl_ptr, pl_slice, aload, isAggT, aeval, tput, awanted, List.range_succ, fin, aresults, aresult, List.replicate, heavy, acallOp, aenter, ble_d, beq_d, firstRegion, readNames, Nxt, isAnc, readsOk, objEq_some, Try.underlying22, sB14]
  generalize hl : loopω _ _ _ _ = rr
  obtain ⟨e, t', h', hx, he, rfl, x5, x6, x7, x8, ht⟩ : ∃ e t' h', rr = some (e, t', h') ∧ e = .exit 0 ∧ h' = h ∧ ∃ x5 x6 x7 x8, t' = [.slice a ws.length c, unk, unk, .int .i64 (bsTo ws ws.length), .int .i64 ws.length, x5, x6, x7, x8, unk, unk, unk, unk, unk, unk, unk, unk, unk, unk, unk, unk, unk, unk, unk, unk, unk, unk] := by
    rw [← hl]
    refine loop_by (fun k t h' => ∃ i : Nat, i + k = ws.length ∧ forget [1, 2, 5, 6, 7, 8, 9, 10, 11, 12, 13, 14, 15, 16, 17, 18, 19, 20, 21, 22, 23, 24, 25, 26] t = [.slice a ws.length c, unk, unk, .int .i64 (bsTo ws i), .int .i64 (i : Nat), unk, unk, unk, unk, unk, unk, unk, unk, unk, unk, unk, unk, unk, unk, unk, unk, unk, unk, unk, unk, unk, unk] ∧ h' = h)
      (fun e t' h' => e = .exit 0 ∧ h' = h ∧ ∃ x5 x6 x7 x8, t' = [.slice a ws.length c, unk, unk, .int .i64 (bsTo ws ws.length), .int .i64 ws.length, x5, x6, x7, x8, unk, unk, unk, unk, unk, unk, unk, unk, unk, unk, unk, unk, unk, unk, unk, unk, unk, unk]) ?_ ws.length _ _ ⟨0, by omega, by kernel_rfl, rfl⟩
    clear hl
    rintro k t h' ⟨i, hi, ht, rfl⟩
    rw [ht]
    rcases Nat.lt_or_ge i ws.length with h1 | h1
    · obtain ⟨a, c, C, ce, cs, gr, ro, eb, hg, hci⟩ := sl_u64 hv h1
      simp only [Value.slice.injEq, true_and] at eb
      obtain ⟨rfl, rfl⟩ := eb
      obtain ⟨b1, b2⟩ := bsTo_lt ws i
      have hs : bsTo ws (i + 1) = if bsTo ws i < 0 then (i : Int) else if 0 < cmpK (ws.getD i 0) (wt ws (bsTo ws i)) then (i : Int) else bsTo ws i := rfl
      have hinc := @inc64 i (by omega)
      have hcs := cast_succ i
      by_cases h5 : bsTo ws i < 0
      · rw [if_pos h5] at hs
        generalize bsTo ws i = Z at *
        simp (maxSteps := 2000000) -implicitDefEqProofs [px_skip, px_label, px_region, px_draw, qx_seq, qx_cond, px_block, px_loop, px_scope, px_exit, px_ret, seqK_normal, seqK_exit, seqK_ret, condK_true, condK_false, opsK_some, wK_true, wK_false, itK_some, aops_nil, aops_cons, lK_some, aK_some, hK_some, dwK_true, dwK_false, diK_some, dK_light, dK_alloc, dK_heavy, adraw_nil, adraw_cons, aop, cls, light, lightS, binE, aeq, intBin, goInt, pl_int, pl_bool, pl_ptr, pl_slice, aload, isAggT, aeval, tput, awanted, List.range_succ, fin, aresults, aresult, List.replicate, heavy, acallOp, aenter, ble_d, beq_d, firstRegion, readNames, Nxt, isAnc, readsOk, objEq_some, h1, pt14_5, pl14_5, an14_5, aindexAddr, sz32, Try.underlying22, hg, hci, h5, hinc]
        exact ⟨k - 1, by omega, i + 1, by omega, by simp (maxSteps := 2000000) only [forget, List.set_cons_succ, List.set_cons_zero, hs, hcs]⟩
      · rw [if_neg h5] at hs
        obtain ⟨q, hq⟩ : ∃ q : Nat, bsTo ws i = (q : Int) := ⟨(bsTo ws i).toNat, by omega⟩
        rw [hq] at hs h5
        have hwq : wt ws ((q : Nat) : Int) = ws.getD q 0 := rfl
        rw [hwq] at hs
        have h6 : q < ws.length := by omega
        obtain ⟨a2, c2, C2, ce2, cs2, gr2, ro2, eb2, hg2, hcj⟩ := sl_u64 hv h6
        simp only [Value.slice.injEq, true_and, Option.some.injEq] at eb2
        obtain ⟨rfl, rfl⟩ := eb2
        rw [hg] at hg2
        cases hg2
        have ec := rcmp_run sB (ws.getD i 0) (ws.getD q 0) (hw.get i) (hw.get q) h'
        rw [hq]
        generalize ws.getD i 0 = A at *
        generalize ws.getD q 0 = B at *
        by_cases h7 : 0 < cmpK A B
        · rw [if_pos h7] at hs
          simp (maxSteps := 2000000) -implicitDefEqProofs [px_skip, px_label, px_region, px_draw, qx_seq, qx_cond, px_block, px_loop, px_scope, px_exit, px_ret, seqK_normal, seqK_exit, seqK_ret, condK_true, condK_false, opsK_some, wK_true, wK_false, itK_some, aops_nil, aops_cons, lK_some, aK_some, hK_some, dwK_true, dwK_false, diK_some, dK_light, dK_alloc, dK_heavy, adraw_nil, adraw_cons, aop, cls, light, lightS, binE, aeq, intBin, goInt, pl_int, pl_bool, pl_ptr, pl_slice, aload, isAggT, aeval, tput, awanted, List.range_succ, fin, aresults, aresult, List.replicate, heavy, acallOp, aenter, ble_d, beq_d, firstRegion, readNames, Nxt, isAnc, readsOk, objEq_some, h1, pt14_5, pl14_5, an14_5, aindexAddr, sz32, Try.underlying22, hg, hci, hcj, h6, en29, ec, h5, h7, hinc]
          exact ⟨k - 1, by omega, i + 1, by omega, by simp (maxSteps := 2000000) only [forget, List.set_cons_succ, List.set_cons_zero, hs, hcs]⟩
        · rw [if_neg h7] at hs
          simp (maxSteps := 2000000) -implicitDefEqProofs [px_skip, px_label, px_region, px_draw, qx_seq, qx_cond, px_block, px_loop, px_scope, px_exit, px_ret, seqK_normal, seqK_exit, seqK_ret, condK_true, condK_false, opsK_some, wK_true, wK_false, itK_some, aops_nil, aops_cons, lK_some, aK_some, hK_some, dwK_true, dwK_false, diK_some, dK_light, dK_alloc, dK_heavy, adraw_nil, adraw_cons, aop, cls, light, lightS, binE, aeq, intBin, goInt, pl_int, pl_bool, pl_ptr, pl_slice, aload, isAggT, aeval, tput, awanted, List.range_succ, fin, aresults, aresult, List.replicate, heavy, acallOp, aenter, ble_d, beq_d, firstRegion, readNames, Nxt, isAnc, readsOk, objEq_some, h1, pt14_5, pl14_5, an14_5, aindexAddr, sz32, Try.underlying22, hg, hci, hcj, h6, en29, ec, h5, h7, hinc]
          exact ⟨k - 1, by omega, i + 1, by omega, by simp (maxSteps := 2000000) only [forget, List.set_cons_succ, List.set_cons_zero, hs, hcs]⟩
    · obtain rfl : i = ws.length := by omega
      simp (maxSteps := 2000000) -implicitDefEqProofs [px_skip, px_label, px_region, px_draw, qx_seq, qx_cond, px_block, px_loop, px_scope, px_exit, px_ret, seqK_normal, seqK_exit, seqK_ret, condK_true, condK_false, opsK_some, wK_true, wK_false, itK_some, aops_nil, aops_cons, lK_some, aK_some, hK_some, dwK_true, dwK_false, diK_some, dK_light, dK_alloc, dK_heavy, adraw_nil, adraw_cons, aop, cls, light, lightS, binE, aeq, intBin, goInt, pl_int, pl_bool, pl_ptr, pl_slice, aload, isAggT, aeval, tput, awanted, List.range_succ, fin, aresults, aresult, List.replicate, heavy, acallOp, aenter, ble_d, beq_d, firstRegion, readNames, Nxt, isAnc, readsOk, objEq_some, Try.underlying22]
  subst hx he ht
  simp (maxSteps := 2000000) -implicitDefEqProofs [px_skip, px_label, px_region, px_draw, qx_seq, qx_cond, px_block, px_loop, px_scope, px_exit, px_ret, seqK_normal, seqK_exit, seqK_ret, condK_true, condK_false, opsK_some, wK_true, wK_false, itK_some, aops_nil, aops_cons, lK_some, aK_some, hK_some, dwK_true, dwK_false, diK_some, dK_light, dK_alloc, dK_heavy, adraw_nil, adraw_cons, aop, cls, light, lightS, binE, aeq, intBin, goInt, pl_int, pl_bool, pl_ptr, pl_slice, aload, isAggT, aeval, tput, awanted, List.range_succ, fin, aresults, aresult, List.replicate, heavy, acallOp, aenter, ble_d, beq_d, firstRegion, readNames, Nxt, isAnc, readsOk, objEq_some]
end Go.Proofs.Ythkefkpmgleolab.Bi
