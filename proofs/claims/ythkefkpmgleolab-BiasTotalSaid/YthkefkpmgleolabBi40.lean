/- BiasTotal: some of its cases. -/
import Derived.Test.YthkefkpmgleolabBi24
set_option linter.unusedVariables false
set_option linter.unusedSimpArgs false
namespace Go.Proofs.Ythkefkpmgleolab.Bi
open Go Go.Proofs Go.RowKit Go.Proofs.YthkefkpmgleolabAI Go.Proofs.YthkefkpmgleolabFl Go.Proofs.YthkefkpmgleolabSrt

set_option maxRecDepth 20000 in
set_option maxHeartbeats 12800000 in
theorem total_4 {h : Heap} {v : Value} {ws : List Nat} {x y : Nat} (hx64 : x < 18446744073709551616) (hy64 : y < 18446744073709551616) (hv : Sl h v 1 ws.length (us ws)) (hw : W64 ws) (hk : ws.length * 8 ≤ 2 ^ 47) (hc : ¬ cmpK x y = 0 ∧ isN x = false ∧ isN y = true) : ∃ h', run Try.prog sB 6 [U x, U y, v] h = some (.bool true, h') := by
  obtain ⟨hw0, w⟩ := wakesB
  obtain ⟨v1, h1, e13, l1, k1, n1⟩ := floats_run hv hw hk
  have eb := best_run l1.sl hw (by omega)
  obtain ⟨m, h3, l, e3, hll, hg3, k3, hm3, hR⟩ := rank_run l1.sl hw hk
  have hl3 := l1.sl.keep k3 fun _ _ x => x
  obtain ⟨va, vc, rfl⟩ := sl_form hv
  obtain ⟨a1, c1, rfl⟩ := sl_form l1.sl
  have cxy := cmp_run sB x y hx64 hy64 h
  have cyx := cmp_run sB y x hy64 hx64 h
  have fxx := feq_self x hx64
  have fyy := feq_self y hy64
  have fl_ := flt x y hx64 hy64
  have q1 := fun t X Y hx hy => feql t X Y x x hx hy hx64 hx64
  have q2 := fun t X Y hx hy => feql t X Y y y hx hy hy64 hy64
  have q3 := fun t X Y hx hy => flss t X Y x y hx hy hx64 hy64
  have q4 := fun t X hx => fb25 t X x hx hx64
  have q5 := fun t X hx => fb25 t X y hx hy64
  obtain ⟨r1, r2, r3, r4⟩ := cmpK_rng x y
  obtain ⟨r5, r6⟩ := neg_wrap r4
  have tl1 := fun F hF t => tot1F (x := x) (y := y) hx64 hy64 hw hk l1.sl F hF t
  rw [r3] at cyx
  clear r3
  suffices hxx : ∃ y', fin Try.prog Try.f6 (aexecP Try.prog (sB 6) (run Try.prog sB) loopω pt6 (Try.f6.body.getD .skip) ([U x, U y, .slice va ws.length vc] ++ List.replicate (Try.f6.ntmps - 3) undef) h) = some y' ∧ y'.1 = .bool true by
    obtain ⟨⟨y1, y2⟩, hy, rfl⟩ := hxx
    exact ⟨y2, run_finP pt6 Try.func6 rfl planned6 hy⟩
  generalize hC : cmpK x y = C at *
  clear r4
  obtain ⟨c0, nx, ny⟩ := hc
  rw [nx] at fxx
  rw [ny] at fyy
  simp (maxSteps := 2000000) -implicitDefEqProofs [Try.f6, px_skip, px_label, px_region, px_draw, qx_seq, qx_cond, px_block, px_loop, px_scope, px_exit, px_ret, seqK_normal, seqK_exit, seqK_ret, condK_true, condK_false, opsK_some, wK_true, wK_false, itK_some, aops_nil, aops_cons, lK_some, aK_some, hK_some, dwK_true, dwK_false, diK_some, dK_light, dK_alloc, dK_heavy, adraw_nil, adraw_cons, aop, cls, light, lightS, binE, aeq, intBin, goInt, pl_int, pl_bool, pl_ptr, pl_slice, aload, isAggT, aeval, tput, awanted, List.range_succ, fin, aresults, aresult, List.replicate, heavy, acallOp, aenter, ble_d, beq_d, firstRegion, readNames, Nxt, isAnc, readsOk, objEq_some, ibne, ibeq, w, en11, en13, en25, en26, q1, q2, q3, q4, q5, cxy, cyx, neg3, r1, r2, r5, r6, fxx, fyy, fl_, c0, e13, Try.underlying25, undef, sB6_9]
  generalize hl : loopω _ _ _ _ = rr
  obtain ⟨x86, hx⟩ := use1 hl (tl1 _ (by kernel_rfl) _ (by kernel_rfl))
  subst hx
  clear hl
  rcases Nat.eq_zero_or_pos ws.length with h0 | h0
  · have hb : bsTo ws ws.length = -1 := by rw [h0]; rfl
    rw [hb] at eb
    rw [h0] at e3 eb
    simp (maxSteps := 2000000) -implicitDefEqProofs [px_skip, px_label, px_region, px_draw, qx_seq, qx_cond, px_block, px_loop, px_scope, px_exit, px_ret, seqK_normal, seqK_exit, seqK_ret, condK_true, condK_false, opsK_some, wK_true, wK_false, itK_some, aops_nil, aops_cons, lK_some, aK_some, hK_some, dwK_true, dwK_false, diK_some, dK_light, dK_alloc, dK_heavy, adraw_nil, adraw_cons, aop, cls, light, lightS, binE, aeq, intBin, goInt, pl_int, pl_bool, pl_ptr, pl_slice, aload, isAggT, aeval, tput, awanted, List.range_succ, fin, aresults, aresult, List.replicate, heavy, acallOp, aenter, ble_d, beq_d, firstRegion, readNames, Nxt, isAnc, readsOk, objEq_some, ibeq, h0, en12, eb, en15, e3, Try.underlying25, Try.underlying28]
  · obtain ⟨q, hq⟩ : ∃ q : Nat, bsTo ws ws.length = (q : Int) := ⟨(bsTo ws ws.length).toNat, by have := (bs_best ws ws.length 0 h0).1; omega⟩
    have hqn : q < ws.length := by have := (bsTo_lt ws ws.length).2; omega
    rw [hq] at eb
    have h00 : ¬ ws.length = 0 := by omega
    have q0 : ¬ (q : Int) < 0 := by omega
    have qn : ¬ ws.length ≤ q := by omega
    have gz := ints_g (d := l) (i := 0) (by omega)
    rw [rank_first hR h0, hq] at gz
    have tl2 := fun F hF t => tot2F hq hqn hw hk l1.sl F hF t
    have tl3 := fun F hF t => tot3F (n := ws.length) rfl h0 hR hw hk hl3 hg3 F hF t
    simp (maxSteps := 2000000) -implicitDefEqProofs [px_skip, px_label, px_region, px_draw, qx_seq, qx_cond, px_block, px_loop, px_scope, px_exit, px_ret, seqK_normal, seqK_exit, seqK_ret, condK_true, condK_false, opsK_some, wK_true, wK_false, itK_some, aops_nil, aops_cons, lK_some, aK_some, hK_some, dwK_true, dwK_false, diK_some, dK_light, dK_alloc, dK_heavy, adraw_nil, adraw_cons, aop, cls, light, lightS, binE, aeq, intBin, goInt, pl_int, pl_bool, pl_ptr, pl_slice, aload, isAggT, aeval, tput, awanted, List.range_succ, fin, aresults, aresult, List.replicate, heavy, acallOp, aenter, ble_d, beq_d, firstRegion, readNames, Nxt, isAnc, readsOk, objEq_some, ibeq, ibne, h00, q0, qn, en12, eb, Try.underlying25, Try.underlying28, sB6_21]
    generalize hl : loopω _ _ _ _ = rr
    obtain ⟨x147, hx⟩ := use1 hl (tl2 _ (by kernel_rfl) _ (by kernel_rfl))
    subst hx
    clear hl
    simp (maxSteps := 2000000) -implicitDefEqProofs [px_skip, px_label, px_region, px_draw, qx_seq, qx_cond, px_block, px_loop, px_scope, px_exit, px_ret, seqK_normal, seqK_exit, seqK_ret, condK_true, condK_false, opsK_some, wK_true, wK_false, itK_some, aops_nil, aops_cons, lK_some, aK_some, hK_some, dwK_true, dwK_false, diK_some, dK_light, dK_alloc, dK_heavy, adraw_nil, adraw_cons, aop, cls, light, lightS, binE, aeq, intBin, goInt, pl_int, pl_bool, pl_ptr, pl_slice, aload, isAggT, aeval, tput, awanted, List.range_succ, fin, aresults, aresult, List.replicate, heavy, acallOp, aenter, ble_d, beq_d, firstRegion, readNames, Nxt, isAnc, readsOk, objEq_some, ibeq, ibne, h0, en15, e3, aindexAddr, sz3, hg3, gz, Try.underlying25, Try.underlying28, sB6_31]
    generalize hl : loopω _ _ _ _ = rr
    obtain ⟨x1, x2, x3, x4, hx⟩ := use4 hl (tl3 _ (by kernel_rfl) _ (by kernel_rfl))
    subst hx
    clear hl
    simp (maxSteps := 2000000) -implicitDefEqProofs [px_skip, px_label, px_region, px_draw, qx_seq, qx_cond, px_block, px_loop, px_scope, px_exit, px_ret, seqK_normal, seqK_exit, seqK_ret, condK_true, condK_false, opsK_some, wK_true, wK_false, itK_some, aops_nil, aops_cons, lK_some, aK_some, hK_some, dwK_true, dwK_false, diK_some, dK_light, dK_alloc, dK_heavy, adraw_nil, adraw_cons, aop, cls, light, lightS, binE, aeq, intBin, goInt, pl_int, pl_bool, pl_ptr, pl_slice, aload, isAggT, aeval, tput, awanted, List.range_succ, fin, aresults, aresult, List.replicate, heavy, acallOp, aenter, ble_d, beq_d, firstRegion, readNames, Nxt, isAnc, readsOk, objEq_some]
set_option maxRecDepth 20000 in
set_option maxHeartbeats 12800000 in
theorem total_5 {h : Heap} {v : Value} {ws : List Nat} {x y : Nat} (hx64 : x < 18446744073709551616) (hy64 : y < 18446744073709551616) (hv : Sl h v 1 ws.length (us ws)) (hw : W64 ws) (hk : ws.length * 8 ≤ 2 ^ 47) (hc : ¬ cmpK x y = 0 ∧ isN x = false ∧ isN y = false ∧ sv x < sv y ∧ cmpK x y = -1) : ∃ h', run Try.prog sB 6 [U x, U y, v] h = some (.bool true, h') := by
  obtain ⟨hw0, w⟩ := wakesB
  obtain ⟨v1, h1, e13, l1, k1, n1⟩ := floats_run hv hw hk
  have eb := best_run l1.sl hw (by omega)
  obtain ⟨m, h3, l, e3, hll, hg3, k3, hm3, hR⟩ := rank_run l1.sl hw hk
  have hl3 := l1.sl.keep k3 fun _ _ x => x
  obtain ⟨va, vc, rfl⟩ := sl_form hv
  obtain ⟨a1, c1, rfl⟩ := sl_form l1.sl
  have cxy := cmp_run sB x y hx64 hy64 h
  have cyx := cmp_run sB y x hy64 hx64 h
  have fxx := feq_self x hx64
  have fyy := feq_self y hy64
  have fl_ := flt x y hx64 hy64
  have q1 := fun t X Y hx hy => feql t X Y x x hx hy hx64 hx64
  have q2 := fun t X Y hx hy => feql t X Y y y hx hy hy64 hy64
  have q3 := fun t X Y hx hy => flss t X Y x y hx hy hx64 hy64
  have q4 := fun t X hx => fb25 t X x hx hx64
  have q5 := fun t X hx => fb25 t X y hx hy64
  obtain ⟨r1, r2, r3, r4⟩ := cmpK_rng x y
  obtain ⟨r5, r6⟩ := neg_wrap r4
  have tl1 := fun F hF t => tot1F (x := x) (y := y) hx64 hy64 hw hk l1.sl F hF t
  rw [r3] at cyx
  clear r3
  suffices hxx : ∃ y', fin Try.prog Try.f6 (aexecP Try.prog (sB 6) (run Try.prog sB) loopω pt6 (Try.f6.body.getD .skip) ([U x, U y, .slice va ws.length vc] ++ List.replicate (Try.f6.ntmps - 3) undef) h) = some y' ∧ y'.1 = .bool true by
    obtain ⟨⟨y1, y2⟩, hy, rfl⟩ := hxx
    exact ⟨y2, run_finP pt6 Try.func6 rfl planned6 hy⟩
  generalize hC : cmpK x y = C at *
  clear r4
  obtain ⟨c0, nx, ny, sv0, c1⟩ := hc
  have c1' : (C = -1) = True := eq_true c1
  rw [nx] at fxx
  rw [ny] at fyy
  rw [nx, ny] at fl_
  simp (maxSteps := 2000000) -implicitDefEqProofs [Try.f6, px_skip, px_label, px_region, px_draw, qx_seq, qx_cond, px_block, px_loop, px_scope, px_exit, px_ret, seqK_normal, seqK_exit, seqK_ret, condK_true, condK_false, opsK_some, wK_true, wK_false, itK_some, aops_nil, aops_cons, lK_some, aK_some, hK_some, dwK_true, dwK_false, diK_some, dK_light, dK_alloc, dK_heavy, adraw_nil, adraw_cons, aop, cls, light, lightS, binE, aeq, intBin, goInt, pl_int, pl_bool, pl_ptr, pl_slice, aload, isAggT, aeval, tput, awanted, List.range_succ, fin, aresults, aresult, List.replicate, heavy, acallOp, aenter, ble_d, beq_d, firstRegion, readNames, Nxt, isAnc, readsOk, objEq_some, ibne, ibeq, w, en11, en13, en25, en26, q1, q2, q3, q4, q5, cxy, cyx, neg3, r1, r2, r5, r6, fxx, fyy, fl_, c0, sv0, c1', e13, Try.underlying25, undef, sB6_9]
  generalize hl : loopω _ _ _ _ = rr
  obtain ⟨x86, hx⟩ := use1 hl (tl1 _ (by kernel_rfl) _ (by kernel_rfl))
  subst hx
  clear hl
  rcases Nat.eq_zero_or_pos ws.length with h0 | h0
  · have hb : bsTo ws ws.length = -1 := by rw [h0]; rfl
    rw [hb] at eb
    rw [h0] at e3 eb
    simp (maxSteps := 2000000) -implicitDefEqProofs [px_skip, px_label, px_region, px_draw, qx_seq, qx_cond, px_block, px_loop, px_scope, px_exit, px_ret, seqK_normal, seqK_exit, seqK_ret, condK_true, condK_false, opsK_some, wK_true, wK_false, itK_some, aops_nil, aops_cons, lK_some, aK_some, hK_some, dwK_true, dwK_false, diK_some, dK_light, dK_alloc, dK_heavy, adraw_nil, adraw_cons, aop, cls, light, lightS, binE, aeq, intBin, goInt, pl_int, pl_bool, pl_ptr, pl_slice, aload, isAggT, aeval, tput, awanted, List.range_succ, fin, aresults, aresult, List.replicate, heavy, acallOp, aenter, ble_d, beq_d, firstRegion, readNames, Nxt, isAnc, readsOk, objEq_some, ibeq, h0, en12, eb, en15, e3, Try.underlying25, Try.underlying28]
  · obtain ⟨q, hq⟩ : ∃ q : Nat, bsTo ws ws.length = (q : Int) := ⟨(bsTo ws ws.length).toNat, by have := (bs_best ws ws.length 0 h0).1; omega⟩
    have hqn : q < ws.length := by have := (bsTo_lt ws ws.length).2; omega
    rw [hq] at eb
    have h00 : ¬ ws.length = 0 := by omega
    have q0 : ¬ (q : Int) < 0 := by omega
    have qn : ¬ ws.length ≤ q := by omega
    have gz := ints_g (d := l) (i := 0) (by omega)
    rw [rank_first hR h0, hq] at gz
    have tl2 := fun F hF t => tot2F hq hqn hw hk l1.sl F hF t
    have tl3 := fun F hF t => tot3F (n := ws.length) rfl h0 hR hw hk hl3 hg3 F hF t
    simp (maxSteps := 2000000) -implicitDefEqProofs [px_skip, px_label, px_region, px_draw, qx_seq, qx_cond, px_block, px_loop, px_scope, px_exit, px_ret, seqK_normal, seqK_exit, seqK_ret, condK_true, condK_false, opsK_some, wK_true, wK_false, itK_some, aops_nil, aops_cons, lK_some, aK_some, hK_some, dwK_true, dwK_false, diK_some, dK_light, dK_alloc, dK_heavy, adraw_nil, adraw_cons, aop, cls, light, lightS, binE, aeq, intBin, goInt, pl_int, pl_bool, pl_ptr, pl_slice, aload, isAggT, aeval, tput, awanted, List.range_succ, fin, aresults, aresult, List.replicate, heavy, acallOp, aenter, ble_d, beq_d, firstRegion, readNames, Nxt, isAnc, readsOk, objEq_some, ibeq, ibne, h00, q0, qn, en12, eb, Try.underlying25, Try.underlying28, sB6_21]
    generalize hl : loopω _ _ _ _ = rr
    obtain ⟨x147, hx⟩ := use1 hl (tl2 _ (by kernel_rfl) _ (by kernel_rfl))
    subst hx
    clear hl
    simp (maxSteps := 2000000) -implicitDefEqProofs [px_skip, px_label, px_region, px_draw, qx_seq, qx_cond, px_block, px_loop, px_scope, px_exit, px_ret, seqK_normal, seqK_exit, seqK_ret, condK_true, condK_false, opsK_some, wK_true, wK_false, itK_some, aops_nil, aops_cons, lK_some, aK_some, hK_some, dwK_true, dwK_false, diK_some, dK_light, dK_alloc, dK_heavy, adraw_nil, adraw_cons, aop, cls, light, lightS, binE, aeq, intBin, goInt, pl_int, pl_bool, pl_ptr, pl_slice, aload, isAggT, aeval, tput, awanted, List.range_succ, fin, aresults, aresult, List.replicate, heavy, acallOp, aenter, ble_d, beq_d, firstRegion, readNames, Nxt, isAnc, readsOk, objEq_some, ibeq, ibne, h0, en15, e3, aindexAddr, sz3, hg3, gz, Try.underlying25, Try.underlying28, sB6_31]
    generalize hl : loopω _ _ _ _ = rr
    obtain ⟨x1, x2, x3, x4, hx⟩ := use4 hl (tl3 _ (by kernel_rfl) _ (by kernel_rfl))
    subst hx
    clear hl
    simp (maxSteps := 2000000) -implicitDefEqProofs [px_skip, px_label, px_region, px_draw, qx_seq, qx_cond, px_block, px_loop, px_scope, px_exit, px_ret, seqK_normal, seqK_exit, seqK_ret, condK_true, condK_false, opsK_some, wK_true, wK_false, itK_some, aops_nil, aops_cons, lK_some, aK_some, hK_some, dwK_true, dwK_false, diK_some, dK_light, dK_alloc, dK_heavy, adraw_nil, adraw_cons, aop, cls, light, lightS, binE, aeq, intBin, goInt, pl_int, pl_bool, pl_ptr, pl_slice, aload, isAggT, aeval, tput, awanted, List.range_succ, fin, aresults, aresult, List.replicate, heavy, acallOp, aenter, ble_d, beq_d, firstRegion, readNames, Nxt, isAnc, readsOk, objEq_some]
end Go.Proofs.Ythkefkpmgleolab.Bi
