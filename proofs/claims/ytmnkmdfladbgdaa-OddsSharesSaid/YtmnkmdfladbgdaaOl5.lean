/- Odds: Plus. -/
import Derived.Test.YtmnkmdfladbgdaaOl4
set_option linter.unusedVariables false
set_option linter.unusedSimpArgs false
namespace Go.Proofs.Ytmnkmdfladbgdaa.Od
open Go Go.Proofs Go.RowKit Go.Proofs.YtmnkmdfladbgdaaAI Go.Proofs.YtmnkmdfladbgdaaFl

noncomputable def lb66 (i : Nat) : Code := (loopsOf (Try.f66.body.getD .skip)).getD i .skip
theorem getD_out {a : List Nat} {i : Nat} (h : a.length ≤ i) : a.getD i 0 = 0 := by rw [List.getD_eq_getElem?_getD, List.getElem?_eq_none h]; rfl
theorem quo32' {a s : Nat} (h : a / 4294967296 = s) (hs : s < 18446744073709551616) : IntKind.u64.wrap ((a : Int) / 4294967296) = (s : Int) := by
  have : (a : Int) / 4294967296 = ((a / 4294967296 : Nat) : Int) := by omega
  rw [this]; exact wu64 h hs
def cy (a b : List Nat) (i : Nat) : Nat := (nv a + nv b) / 4294967296 ^ i - nv a / 4294967296 ^ i - nv b / 4294967296 ^ i
set_option maxRecDepth 20000 in
set_option maxHeartbeats 6400000 in
theorem plus1 {h0 : Heap} {va vb : Option Addr} {vca vcb La Lb M : Nat} {a b : List Nat} (hLa : a.length = La) (hLb : b.length = Lb) (wa : W32 a) (wb : W32 b) (ka : La ≤ 1000) (kb : Lb ≤ 1000) (hM : M = max La Lb) (hva : Sl h0 (.slice va La vca) 1 La (u3 a)) (hvb : Sl h0 (.slice vb Lb vcb) 1 Lb (u3 b)) (v0 : Value) (F : Step) (hFF : F = aexecP Try.prog (sO 66) (run Try.prog sO) loopω pt66 (lb66 0)) (t : Tm)
    (ht : forget [2, 3, 4, 8, 9, 10, 11, 12, 13, 14, 15, 16, 17, 18, 19, 20, 21, 22, 23, 24, 25, 26, 27, 28, 29, 30, 31, 32, 33, 34, 35, 36, 37, 38, 39, 40, 41, 42, 43, 44, 45, 46, 47, 48, 49, 50, 51, 52, 53, 54, 55, 56] t = [.slice va La vca, .slice vb Lb vcb, unk, unk, unk, v0, .int .u64 (cy a b (0) : Nat), .int .i64 (0 : Nat), unk, unk, unk, unk, unk, unk, unk, unk, unk, unk, unk, unk, unk, unk, unk, unk, unk, unk, unk, unk, unk, unk, unk, unk, unk, unk, unk, unk, unk, unk, unk, unk, unk, unk, unk, unk, unk, unk, unk, unk, unk, unk, unk, unk, unk, unk, unk, unk, unk]) (hI0 : (Lg h0 v0 101 1 (0) (u3 (dg (nv a + nv b) (0))) ∧ Keep No h0 h0 ∧ (∀ m, nm v0 = some m → h0.next ≤ m) ∧ (nv a + nv b) / 4294967296 ^ (0) = cy a b (0) + nv a / 4294967296 ^ (0) + nv b / 4294967296 ^ (0) ∧ cy a b (0) ≤ 1)) :
    ∃ h' v x8 x9 x10 x11 x12 x13 x14 x15 x16 x17, loopω [2, 3, 4, 8, 9, 10, 11, 12, 13, 14, 15, 16, 17, 18, 19, 20, 21, 22, 23, 24, 25, 26, 27, 28, 29, 30, 31, 32, 33, 34, 35, 36, 37, 38, 39, 40, 41, 42, 43, 44, 45, 46, 47, 48, 49, 50, 51, 52, 53, 54, 55, 56] F t h0 = some (.exit 0, [.slice va La vca, .slice vb Lb vcb, unk, unk, unk, v, .int .u64 (cy a b (M) : Nat), .int .i64 (M : Nat), x8, x9, x10, x11, x12, x13, x14, x15, x16, x17, unk, unk, unk, unk, unk, unk, unk, unk, unk, unk, unk, unk, unk, unk, unk, unk, unk, unk, unk, unk, unk, unk, unk, unk, unk, unk, unk, unk, unk, unk, unk, unk, unk, unk, unk, unk, unk, unk, unk], h') ∧ (Lg h' v 101 1 (M) (u3 (dg (nv a + nv b) (M))) ∧ Keep No h0 h' ∧ (∀ m, nm v = some m → h0.next ≤ m) ∧ (nv a + nv b) / 4294967296 ^ (M) = cy a b (M) + nv a / 4294967296 ^ (M) + nv b / 4294967296 ^ (M) ∧ cy a b (M) ≤ 1) := by
  subst hFF
  suffices hs : ∃ e t' h', loopω [2, 3, 4, 8, 9, 10, 11, 12, 13, 14, 15, 16, 17, 18, 19, 20, 21, 22, 23, 24, 25, 26, 27, 28, 29, 30, 31, 32, 33, 34, 35, 36, 37, 38, 39, 40, 41, 42, 43, 44, 45, 46, 47, 48, 49, 50, 51, 52, 53, 54, 55, 56] (aexecP Try.prog (sO 66) (run Try.prog sO) loopω pt66 (lb66 0)) t h0 = some (e, t', h') ∧ (e = .exit 0 ∧ ∃ v x8 x9 x10 x11 x12 x13 x14 x15 x16 x17, t' = [.slice va La vca, .slice vb Lb vcb, unk, unk, unk, v, .int .u64 (cy a b (M) : Nat), .int .i64 (M : Nat), x8, x9, x10, x11, x12, x13, x14, x15, x16, x17, unk, unk, unk, unk, unk, unk, unk, unk, unk, unk, unk, unk, unk, unk, unk, unk, unk, unk, unk, unk, unk, unk, unk, unk, unk, unk, unk, unk, unk, unk, unk, unk, unk, unk, unk, unk, unk, unk, unk] ∧ (Lg h' v 101 1 (M) (u3 (dg (nv a + nv b) (M))) ∧ Keep No h0 h' ∧ (∀ m, nm v = some m → h0.next ≤ m) ∧ (nv a + nv b) / 4294967296 ^ (M) = cy a b (M) + nv a / 4294967296 ^ (M) + nv b / 4294967296 ^ (M) ∧ cy a b (M) ≤ 1)) by
    obtain ⟨e, t', h', q1, rfl, v, x8, x9, x10, x11, x12, x13, x14, x15, x16, x17, rfl, q2⟩ := hs
    exact ⟨h', v, x8, x9, x10, x11, x12, x13, x14, x15, x16, x17, q1, q2⟩
  simp only [lb66, Try.f66, loopsOf, Option.getD_some, List.nil_append, List.append_nil, List.cons_append, List.getD_cons_zero, List.getD_cons_succ]
  refine loop_by (fun k t h' => ∃ (i : Nat) (v : Value), i + k = M ∧ forget [2, 3, 4, 8, 9, 10, 11, 12, 13, 14, 15, 16, 17, 18, 19, 20, 21, 22, 23, 24, 25, 26, 27, 28, 29, 30, 31, 32, 33, 34, 35, 36, 37, 38, 39, 40, 41, 42, 43, 44, 45, 46, 47, 48, 49, 50, 51, 52, 53, 54, 55, 56] t = [.slice va La vca, .slice vb Lb vcb, unk, unk, unk, v, .int .u64 (cy a b (i) : Nat), .int .i64 (i : Nat), unk, unk, unk, unk, unk, unk, unk, unk, unk, unk, unk, unk, unk, unk, unk, unk, unk, unk, unk, unk, unk, unk, unk, unk, unk, unk, unk, unk, unk, unk, unk, unk, unk, unk, unk, unk, unk, unk, unk, unk, unk, unk, unk, unk, unk, unk, unk, unk, unk] ∧ (Lg h' v 101 1 (i) (u3 (dg (nv a + nv b) (i))) ∧ Keep No h0 h' ∧ (∀ m, nm v = some m → h0.next ≤ m) ∧ (nv a + nv b) / 4294967296 ^ (i) = cy a b (i) + nv a / 4294967296 ^ (i) + nv b / 4294967296 ^ (i) ∧ cy a b (i) ≤ 1))
    (fun e t' h' => e = .exit 0 ∧ ∃ v x8 x9 x10 x11 x12 x13 x14 x15 x16 x17, t' = [.slice va La vca, .slice vb Lb vcb, unk, unk, unk, v, .int .u64 (cy a b (M) : Nat), .int .i64 (M : Nat), x8, x9, x10, x11, x12, x13, x14, x15, x16, x17, unk, unk, unk, unk, unk, unk, unk, unk, unk, unk, unk, unk, unk, unk, unk, unk, unk, unk, unk, unk, unk, unk, unk, unk, unk, unk, unk, unk, unk, unk, unk, unk, unk, unk, unk, unk, unk, unk, unk] ∧ (Lg h' v 101 1 (M) (u3 (dg (nv a + nv b) (M))) ∧ Keep No h0 h' ∧ (∀ m, nm v = some m → h0.next ≤ m) ∧ (nv a + nv b) / 4294967296 ^ (M) = cy a b (M) + nv a / 4294967296 ^ (M) + nv b / 4294967296 ^ (M) ∧ cy a b (M) ≤ 1)) ?_ (M) _ _ ⟨0, _, by omega, ht, hI0⟩
  rintro k t h' ⟨i, v, hi, ht, hI⟩
  rw [ht]
  rcases Nat.lt_or_ge i (M) with h1 | h1
  · obtain ⟨lg, kp, nw, hc1, hc2⟩ := hI
    have hinc := @inc64 i (by omega)
    have hcs := cast_succ i
    have hak := hva.keep kp fun _ _ x => x
    have hbk := hvb.keep kp fun _ _ x => x
    obtain ⟨p1, p2, p3⟩ := plus_step wa wb hc1 hc2
    have lga : a.getD i 0 < 4294967296 := wa.get i
    have lgb : b.getD i 0 < 4294967296 := wb.get i
    have hcy : cy a b (i + 1) = (cy a b i + a.getD i 0 + b.getD i 0) / 4294967296 := by
      have hd : cy a b (i + 1) = (nv a + nv b) / 4294967296 ^ (i + 1) - nv a / 4294967296 ^ (i + 1) - nv b / 4294967296 ^ (i + 1) := rfl
      omega
    have q1 : (nv a + nv b) / 4294967296 ^ (i + 1) = cy a b (i + 1) + nv a / 4294967296 ^ (i + 1) + nv b / 4294967296 ^ (i + 1) := by rw [hcy]; exact p3
    have q2 : cy a b (i + 1) ≤ 1 := by rw [hcy]; exact p2
    have hdl := dg_len (nv a + nv b) i
    have lg' : Lg h' v 101 1 (dg (nv a + nv b) i).length (u3 (dg (nv a + nv b) i)) := by rw [hdl]; exact lg
    obtain ⟨v8, h8, e8, lg8, kp8, nv8⟩ := app_u3 lg' (by omega) ((nv a + nv b) / 4294967296 ^ i % 4294967296)
    have kk := kp.also kp8 fun m hm x => by have := nw m x; omega
    have nn : ∀ m, nm v8 = some m → h0.next ≤ m := fun m e => by
      rcases nv8 m e with y | y
      · exact nw m y
      · have := kp.1; omega
    rw [← dg_succ, dg_len] at lg8
    have ga : a.length ≤ i → a.getD i 0 = 0 := getD_out
    have gb : b.length ≤ i → b.getD i 0 = 0 := getD_out
    rw [← p1] at e8
    by_cases i1 : i < La
    · by_cases i2 : i < Lb
      · obtain ⟨va, vca, C, ce, cs, gr, ro, eb, hg, hc⟩ := sl_u3 hak i1
        simp only [Value.slice.injEq, true_and] at eb
        obtain ⟨rfl, rfl⟩ := eb
        obtain ⟨vb, vcb, C2, ce2, cs2, gr2, ro2, eb, hg2, hc22⟩ := sl_u3 hbk i2
        simp only [Value.slice.injEq, true_and] at eb
        obtain ⟨rfl, rfl⟩ := eb
        generalize hxa : a.getD i 0 = x at *
        generalize hxb : b.getD i 0 = y at *
        generalize hcc : cy a b i = c at *
        obtain ⟨s2, hs2⟩ : ∃ s, c + x + y = s := ⟨_, rfl⟩
        obtain ⟨d, hd⟩ : ∃ d, s2 % 4294967296 = d := ⟨_, rfl⟩
        obtain ⟨c', hc'⟩ : ∃ d, s2 / 4294967296 = d := ⟨_, rfl⟩
        rw [hs2, hc'] at hcy
        rw [hs2, hd] at e8
        have w3 := mod32 hd
        have w4 := wu32 (a := d) rfl (by omega)
        have w5 := quo32' hc' (by omega)
        obtain ⟨s1, hs1⟩ : ∃ s, c + x = s := ⟨_, rfl⟩
        have w0 := wu64 (a := x) rfl (by omega)
        have w0' := wu64 (a := y) rfl (by omega)
        have w1 := au64 hs1 (by omega)
        have w2 := au64 (show s1 + y = s2 by omega) (by omega)
        simp (maxSteps := 2000000) -implicitDefEqProofs [px_skip, px_label, px_region, px_draw, qx_seq, qx_cond, px_block, px_loop, px_scope, px_exit, px_ret, seqK_normal, seqK_exit, seqK_ret, condK_true, condK_false, opsK_some, wK_true, wK_false, itK_some, aops_nil, aops_cons, lK_some, aK_some, hK_some, dwK_true, dwK_false, diK_some, dK_light, dK_alloc, dK_heavy, adraw_nil, adraw_cons, aop, cls, light, lightS, binE, aeq, intBin, goInt, pl_int, pl_bool, pl_ptr, pl_slice, aload, isAggT, aeval, tput, awanted, List.range_succ, fin, aresults, aresult, List.replicate, heavy, acallOp, aenter, ble_d, beq_d, firstRegion, readNames, Nxt, isAnc, readsOk, objEq_some, i1, i2, w0, w0', w1, w2, hg, hc, hg2, hc22, aindexAddr, sz101, Try.underlying40, cv101_37, cv37_101, w3, w4, w5, (fun ρ z hz => bs40_1 ρ z (d : Int) hz), e8, hinc, undef]
        exact ⟨k - 1, by omega, i + 1, by omega, v8, by simp (maxSteps := 2000000) only [forget, List.set_cons_succ, List.set_cons_zero, hcs, hcy], lg8, kk, nn, q1, q2⟩
      · obtain ⟨va, vca, C, ce, cs, gr, ro, eb, hg, hc⟩ := sl_u3 hak i1
        simp only [Value.slice.injEq, true_and] at eb
        obtain ⟨rfl, rfl⟩ := eb
        have z0 := gb (by omega)
        generalize hxa : a.getD i 0 = x at *
        generalize hxb : b.getD i 0 = y at *
        generalize hcc : cy a b i = c at *
        obtain ⟨s2, hs2⟩ : ∃ s, c + x + y = s := ⟨_, rfl⟩
        obtain ⟨d, hd⟩ : ∃ d, s2 % 4294967296 = d := ⟨_, rfl⟩
        obtain ⟨c', hc'⟩ : ∃ d, s2 / 4294967296 = d := ⟨_, rfl⟩
        rw [hs2, hc'] at hcy
        rw [hs2, hd] at e8
        have w3 := mod32 hd
        have w4 := wu32 (a := d) rfl (by omega)
        have w5 := quo32' hc' (by omega)
        have w0 := wu64 (a := x) rfl (by omega)
        have w1 := au64 (show c + x = s2 by omega) (by omega)
        simp (maxSteps := 2000000) -implicitDefEqProofs [px_skip, px_label, px_region, px_draw, qx_seq, qx_cond, px_block, px_loop, px_scope, px_exit, px_ret, seqK_normal, seqK_exit, seqK_ret, condK_true, condK_false, opsK_some, wK_true, wK_false, itK_some, aops_nil, aops_cons, lK_some, aK_some, hK_some, dwK_true, dwK_false, diK_some, dK_light, dK_alloc, dK_heavy, adraw_nil, adraw_cons, aop, cls, light, lightS, binE, aeq, intBin, goInt, pl_int, pl_bool, pl_ptr, pl_slice, aload, isAggT, aeval, tput, awanted, List.range_succ, fin, aresults, aresult, List.replicate, heavy, acallOp, aenter, ble_d, beq_d, firstRegion, readNames, Nxt, isAnc, readsOk, objEq_some, i1, i2, w0, w1, hg, hc, aindexAddr, sz101, Try.underlying40, cv101_37, cv37_101, w3, w4, w5, (fun ρ z hz => bs40_1 ρ z (d : Int) hz), e8, hinc, undef]
        exact ⟨k - 1, by omega, i + 1, by omega, v8, by simp (maxSteps := 2000000) only [forget, List.set_cons_succ, List.set_cons_zero, hcs, hcy], lg8, kk, nn, q1, q2⟩
    · have i2 : i < Lb := by omega
      obtain ⟨vb, vcb, C2, ce2, cs2, gr2, ro2, eb, hg2, hc22⟩ := sl_u3 hbk i2
      simp only [Value.slice.injEq, true_and] at eb
      obtain ⟨rfl, rfl⟩ := eb
      have z0 := ga (by omega)
      generalize hxa : a.getD i 0 = x at *
      generalize hxb : b.getD i 0 = y at *
      generalize hcc : cy a b i = c at *
      obtain ⟨s2, hs2⟩ : ∃ s, c + x + y = s := ⟨_, rfl⟩
      obtain ⟨d, hd⟩ : ∃ d, s2 % 4294967296 = d := ⟨_, rfl⟩
      obtain ⟨c', hc'⟩ : ∃ d, s2 / 4294967296 = d := ⟨_, rfl⟩
      rw [hs2, hc'] at hcy
      rw [hs2, hd] at e8
      have w3 := mod32 hd
      have w4 := wu32 (a := d) rfl (by omega)
      have w5 := quo32' hc' (by omega)
      have w0 := wu64 (a := y) rfl (by omega)
      have w1 := au64 (show c + y = s2 by omega) (by omega)
      simp (maxSteps := 2000000) -implicitDefEqProofs [px_skip, px_label, px_region, px_draw, qx_seq, qx_cond, px_block, px_loop, px_scope, px_exit, px_ret, seqK_normal, seqK_exit, seqK_ret, condK_true, condK_false, opsK_some, wK_true, wK_false, itK_some, aops_nil, aops_cons, lK_some, aK_some, hK_some, dwK_true, dwK_false, diK_some, dK_light, dK_alloc, dK_heavy, adraw_nil, adraw_cons, aop, cls, light, lightS, binE, aeq, intBin, goInt, pl_int, pl_bool, pl_ptr, pl_slice, aload, isAggT, aeval, tput, awanted, List.range_succ, fin, aresults, aresult, List.replicate, heavy, acallOp, aenter, ble_d, beq_d, firstRegion, readNames, Nxt, isAnc, readsOk, objEq_some, i1, i2, w0, w1, hg2, hc22, aindexAddr, sz101, Try.underlying40, cv101_37, cv37_101, w3, w4, w5, (fun ρ z hz => bs40_1 ρ z (d : Int) hz), e8, hinc, undef]
      exact ⟨k - 1, by omega, i + 1, by omega, v8, by simp (maxSteps := 2000000) only [forget, List.set_cons_succ, List.set_cons_zero, hcs, hcy], lg8, kk, nn, q1, q2⟩
  · obtain rfl : i = M := by omega
    have i1 : ¬ i < La := by omega
    have i2 : ¬ i < Lb := by omega
    simp (maxSteps := 2000000) -implicitDefEqProofs [px_skip, px_label, px_region, px_draw, qx_seq, qx_cond, px_block, px_loop, px_scope, px_exit, px_ret, seqK_normal, seqK_exit, seqK_ret, condK_true, condK_false, opsK_some, wK_true, wK_false, itK_some, aops_nil, aops_cons, lK_some, aK_some, hK_some, dwK_true, dwK_false, diK_some, dK_light, dK_alloc, dK_heavy, adraw_nil, adraw_cons, aop, cls, light, lightS, binE, aeq, intBin, goInt, pl_int, pl_bool, pl_ptr, pl_slice, aload, isAggT, aeval, tput, awanted, List.range_succ, fin, aresults, aresult, List.replicate, heavy, acallOp, aenter, ble_d, beq_d, firstRegion, readNames, Nxt, isAnc, readsOk, objEq_some, i1, i2, undef]
    exact hI

theorem plus_run {h : Heap} {v w : Value} {a b : List Nat} (ha : Na h v a) (hb : Na h w b) (ka : a.length ≤ 900) (kb : b.length ≤ 900) : ∃ v' h', run Try.prog sO 66 [v, w] h = some (v', h') ∧ Nt h h' v' (nv a + nv b) ∧ (lm (nv a + nv b)).length ≤ max a.length b.length + 1 := by
  obtain ⟨hv, wa, _⟩ := ha
  obtain ⟨hv2, wb, _⟩ := hb
  obtain ⟨va, vca, rfl⟩ := sl_form hv
  obtain ⟨vb, vcb, rfl⟩ := sl_form hv2
  obtain ⟨M, hM⟩ : ∃ M, M = max a.length b.length := ⟨_, rfl⟩
  have hz : cy a b 0 = 0 := by unfold cy; simp
  suffices hx : ∃ y, fin Try.prog Try.f66 (aexecP Try.prog (sO 66) (run Try.prog sO) loopω pt66 (Try.f66.body.getD .skip) ([.slice va a.length vca, .slice vb b.length vcb] ++ List.replicate (Try.f66.ntmps - 2) undef) h) = some y ∧ Nt h y.2 y.1 (nv a + nv b) ∧ (lm (nv a + nv b)).length ≤ M + 1 by
    obtain ⟨⟨y1, y2⟩, hy, q⟩ := hx
    exact ⟨y1, y2, run_finP pt66 Try.func66 rfl planned66 hy, q.1, by rw [← hM]; exact q.2⟩
  simp (maxSteps := 2000000) -implicitDefEqProofs [Try.f66, px_skip, px_label, px_region, px_draw, qx_seq, qx_cond, px_block, px_loop, px_scope, px_exit, px_ret, seqK_normal, seqK_exit, seqK_ret, condK_true, condK_false, opsK_some, wK_true, wK_false, itK_some, aops_nil, aops_cons, lK_some, aK_some, hK_some, dwK_true, dwK_false, diK_some, dK_light, dK_alloc, dK_heavy, adraw_nil, adraw_cons, aop, cls, light, lightS, binE, aeq, intBin, goInt, pl_int, pl_bool, pl_ptr, pl_slice, aload, isAggT, aeval, tput, awanted, List.range_succ, fin, aresults, aresult, List.replicate, heavy, acallOp, aenter, ble_d, beq_d, firstRegion, readNames, Nxt, isAnc, readsOk, objEq_some, Try.underlying40, sO66]
  generalize hl : loopω _ _ _ _ = r
  obtain ⟨hA, v5, x8, x9, x10, x11, x12, x13, x14, x15, x16, x17, hx, lg, kp, nw, hc1, hc2⟩ := useX11 hl (plus1 (h0 := h) (va := va) (vb := vb) (vca := vca) (vcb := vcb) (La := a.length) (Lb := b.length) (M := M) (a := a) (b := b) rfl rfl wa wb (by omega) (by omega) hM hv hv2 _ _ (by kernel_rfl) _ (by rw [hz]; kernel_rfl) ⟨Lg.nil _ _ _, Keep.refl _ _, fun m e => (by cases e), by rw [hz]; simp, by rw [hz]; omega⟩)
  subst hx
  clear hl
  have hnA := nv_div_len wa (i := M) (by omega)
  have hnB := nv_div_len wb (i := M) (by omega)
  rw [hnA, hnB] at hc1
  simp only [Nat.add_zero] at hc1
  have hdl := dg_len (nv a + nv b) M
  have lg' : Lg hA v5 101 1 (dg (nv a + nv b) M).length (u3 (dg (nv a + nv b) M)) := by rw [hdl]; exact lg
  obtain ⟨v8, h8, e8, lg8, kp8, nv8⟩ := app_u3 lg' (by omega) (cy a b M)
  have hdd : dg (nv a + nv b) M ++ [cy a b M] = dg (nv a + nv b) (M + 1) := by rw [dg_succ, hc1, Nat.mod_eq_of_lt (by omega)]
  rw [hdd, dg_len] at lg8
  have kk := kp.also kp8 fun m hm x => by have := nw m x; omega
  have hna : Na h8 v8 (dg (nv a + nv b) (M + 1)) := ⟨by rw [dg_len]; exact lg8.sl, dg_w _ _, by rw [dg_len]; omega⟩
  obtain ⟨v9, h9, e9, n9, k9⟩ := trim_run hna
  have hval : nv (dg (nv a + nv b) (M + 1)) = nv a + nv b := by
    rw [nv_dg, Nat.mod_eq_of_lt]
    have h1 := Nat.div_add_mod (nv a + nv b) (4294967296 ^ M)
    have h2 := Nat.mod_lt (nv a + nv b) (Nat.pow_pos (n := M) (show 0 < 4294967296 by omega))
    rw [hc1] at h1
    rw [Nat.pow_succ]
    generalize 4294967296 ^ M = P at *
    have : P * cy a b M ≤ P * 1 := Nat.mul_le_mul_left P hc2
    omega
  rw [hval] at n9 k9
  rw [dg_len] at k9
  generalize cy a b M = c at *
  have w4 := wu32 (a := c) rfl (by omega)
  simp (maxSteps := 2000000) -implicitDefEqProofs [px_skip, px_label, px_region, px_draw, qx_seq, qx_cond, px_block, px_loop, px_scope, px_exit, px_ret, seqK_normal, seqK_exit, seqK_ret, condK_true, condK_false, opsK_some, wK_true, wK_false, itK_some, aops_nil, aops_cons, lK_some, aK_some, hK_some, dwK_true, dwK_false, diK_some, dK_light, dK_alloc, dK_heavy, adraw_nil, adraw_cons, aop, cls, light, lightS, binE, aeq, intBin, goInt, pl_int, pl_bool, pl_ptr, pl_slice, aload, isAggT, aeval, tput, awanted, List.range_succ, fin, aresults, aresult, List.replicate, heavy, acallOp, aenter, ble_d, beq_d, firstRegion, readNames, Nxt, isAnc, readsOk, objEq_some, cv37_101, w4, (fun ρ z hz => bs40_1 ρ z (c : Int) hz), e8, Try.underlying40, en85, e9]
  exact ⟨_, _, ⟨rfl, rfl⟩, ⟨n9.1, kk.trans n9.2.1, fun m e => by have := n9.2.2 m e; have := kk.1; omega⟩, k9⟩
end Go.Proofs.Ytmnkmdfladbgdaa.Od
