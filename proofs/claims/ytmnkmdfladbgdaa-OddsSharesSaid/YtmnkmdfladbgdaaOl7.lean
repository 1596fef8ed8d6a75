/- Odds: Shr. -/
import Derived.Test.YtmnkmdfladbgdaaOl6
set_option linter.unusedVariables false
set_option linter.unusedSimpArgs false
namespace Go.Proofs.Ytmnkmdfladbgdaa.Od
open Go Go.Proofs Go.RowKit Go.Proofs.YtmnkmdfladbgdaaAI Go.Proofs.YtmnkmdfladbgdaaFl

noncomputable def lb87 (i : Nat) : Code := (loopsOf (Try.f87.body.getD .skip)).getD i .skip
def zi (z i : Nat) : Nat := z + i
theorem sl_u3_2 {h : Heap} {v : Value} {k : Nat} {l : List Nat} (hs : Sl h v 1 k (u3 l)) {i j : Nat} (hi : i < k) (hj : j < k) :
    ∃ a n c e s gr ro, v = .slice (some a) k n ∧ h.get a.block = some (.cells c e s gr ro) ∧ c[a.off + i]? = some (.int .u32 (l.getD i 0 : Nat)) ∧ c[a.off + j]? = some (.int .u32 (l.getD j 0 : Nat)) := by
  obtain ⟨a, n, c, e, s, gr, ro, rfl, hg, h1⟩ := sl_u3 hs hi
  obtain ⟨a', n', c', e', s', gr', ro', eb, hg', h2⟩ := sl_u3 hs hj
  cases eb
  rw [hg] at hg'
  cases hg'
  exact ⟨a, n, c, e, s, gr, ro, rfl, hg, h1, h2⟩
theorem shr_small {a n z L : Nat} (hz : z = n / 32) (h : a < 4294967296 ^ L) : a / 2 ^ n < 4294967296 ^ (L - z) := by
  refine Nat.div_lt_of_lt_mul (Nat.lt_of_lt_of_le h ?_)
  have h1 : 4294967296 ^ z ≤ 2 ^ n := by
    rw [show (4294967296 : Nat) = 2 ^ 32 from rfl, ← Nat.pow_mul]
    exact Nat.pow_le_pow_right (by omega) (by omega)
  exact Nat.le_trans (Nat.pow_le_pow_right (by omega) (show L ≤ z + (L - z) by omega)) (by rw [Nat.pow_add]; exact Nat.mul_le_mul_right _ h1)
set_option maxRecDepth 20000 in
set_option maxHeartbeats 6400000 in
theorem shr1 {h0 : Heap} {va : Option Addr} {vca La n z s : Nat} {a : List Nat} (hLa : a.length = La) (wa : W32 a) (ka : La ≤ 1000) (hn : n ≤ 100000) (hz : z = n / 32) (hs : s = n % 32) (hva : Sl h0 (.slice va La vca) 1 La (u3 a)) (v0 : Value) (F : Step) (hFF : F = aexecP Try.prog (sO 87) (run Try.prog sO) loopω pt87 (lb87 0)) (t : Tm)
    (ht : forget [2, 3, 4, 7, 8, 9, 10, 11, 12, 13, 14, 15, 16, 17, 18, 19, 20, 21, 22, 23, 24, 25, 26, 27, 28, 29, 30, 31, 32, 33, 34, 35, 36, 37, 38, 39, 40, 41, 42, 43, 44, 45, 46] t = [.slice va La vca, .int .i64 (n : Nat), unk, unk, unk, v0, .int .i64 (zi z (0) : Nat), unk, unk, unk, unk, unk, unk, unk, unk, unk, unk, unk, unk, unk, unk, unk, unk, unk, unk, unk, unk, unk, unk, unk, unk, unk, unk, unk, unk, unk, unk, unk, unk, unk, unk, unk, unk, unk, unk, unk, unk]) (hI0 : (Lg h0 v0 101 1 (0) (u3 (dg (nv a / 2 ^ n) (0))) ∧ Keep No h0 h0 ∧ ∀ m, nm v0 = some m → h0.next ≤ m)) :
    ∃ h' v x10 x11 x12 x13, loopω [2, 3, 4, 7, 8, 9, 10, 11, 12, 13, 14, 15, 16, 17, 18, 19, 20, 21, 22, 23, 24, 25, 26, 27, 28, 29, 30, 31, 32, 33, 34, 35, 36, 37, 38, 39, 40, 41, 42, 43, 44, 45, 46] F t h0 = some (.exit 0, [.slice va La vca, .int .i64 (n : Nat), unk, unk, unk, v, .int .i64 (zi z (La - z) : Nat), unk, unk, unk, x10, x11, x12, x13, unk, unk, unk, unk, unk, unk, unk, unk, unk, unk, unk, unk, unk, unk, unk, unk, unk, unk, unk, unk, unk, unk, unk, unk, unk, unk, unk, unk, unk, unk, unk, unk, unk], h') ∧ (Lg h' v 101 1 (La - z) (u3 (dg (nv a / 2 ^ n) (La - z))) ∧ Keep No h0 h' ∧ ∀ m, nm v = some m → h0.next ≤ m) := by
  subst hFF
  suffices hs : ∃ e t' h', loopω [2, 3, 4, 7, 8, 9, 10, 11, 12, 13, 14, 15, 16, 17, 18, 19, 20, 21, 22, 23, 24, 25, 26, 27, 28, 29, 30, 31, 32, 33, 34, 35, 36, 37, 38, 39, 40, 41, 42, 43, 44, 45, 46] (aexecP Try.prog (sO 87) (run Try.prog sO) loopω pt87 (lb87 0)) t h0 = some (e, t', h') ∧ (e = .exit 0 ∧ ∃ v x10 x11 x12 x13, t' = [.slice va La vca, .int .i64 (n : Nat), unk, unk, unk, v, .int .i64 (zi z (La - z) : Nat), unk, unk, unk, x10, x11, x12, x13, unk, unk, unk, unk, unk, unk, unk, unk, unk, unk, unk, unk, unk, unk, unk, unk, unk, unk, unk, unk, unk, unk, unk, unk, unk, unk, unk, unk, unk, unk, unk, unk, unk] ∧ (Lg h' v 101 1 (La - z) (u3 (dg (nv a / 2 ^ n) (La - z))) ∧ Keep No h0 h' ∧ ∀ m, nm v = some m → h0.next ≤ m)) by
    obtain ⟨e, t', h', q1, rfl, v, x10, x11, x12, x13, rfl, q2⟩ := hs
    exact ⟨h', v, x10, x11, x12, x13, q1, q2⟩
  simp only [lb87, Try.f87, loopsOf, Option.getD_some, List.nil_append, List.append_nil, List.cons_append, List.getD_cons_zero, List.getD_cons_succ]
  refine loop_by (fun k t h' => ∃ (i : Nat) (v : Value), i + k = La - z ∧ forget [2, 3, 4, 7, 8, 9, 10, 11, 12, 13, 14, 15, 16, 17, 18, 19, 20, 21, 22, 23, 24, 25, 26, 27, 28, 29, 30, 31, 32, 33, 34, 35, 36, 37, 38, 39, 40, 41, 42, 43, 44, 45, 46] t = [.slice va La vca, .int .i64 (n : Nat), unk, unk, unk, v, .int .i64 (zi z (i) : Nat), unk, unk, unk, unk, unk, unk, unk, unk, unk, unk, unk, unk, unk, unk, unk, unk, unk, unk, unk, unk, unk, unk, unk, unk, unk, unk, unk, unk, unk, unk, unk, unk, unk, unk, unk, unk, unk, unk, unk, unk] ∧ (Lg h' v 101 1 (i) (u3 (dg (nv a / 2 ^ n) (i))) ∧ Keep No h0 h' ∧ ∀ m, nm v = some m → h0.next ≤ m))
    (fun e t' h' => e = .exit 0 ∧ ∃ v x10 x11 x12 x13, t' = [.slice va La vca, .int .i64 (n : Nat), unk, unk, unk, v, .int .i64 (zi z (La - z) : Nat), unk, unk, unk, x10, x11, x12, x13, unk, unk, unk, unk, unk, unk, unk, unk, unk, unk, unk, unk, unk, unk, unk, unk, unk, unk, unk, unk, unk, unk, unk, unk, unk, unk, unk, unk, unk, unk, unk, unk, unk] ∧ (Lg h' v 101 1 (La - z) (u3 (dg (nv a / 2 ^ n) (La - z))) ∧ Keep No h0 h' ∧ ∀ m, nm v = some m → h0.next ≤ m)) ?_ (La - z) _ _ ⟨0, _, by omega, ht, hI0⟩
  rintro k t h' ⟨i, v, hi, ht, hI⟩
  rw [ht]
  rcases Nat.lt_or_ge i (La - z) with h1 | h1
  · obtain ⟨lg, kp, nw⟩ := hI
    have hak := hva.keep kp fun _ _ x => x
    have hs32 : s < 32 := by omega
    obtain ⟨p, hp⟩ : ∃ p, zi z i = p := ⟨_, rfl⟩
    have hp' : z + i = p := hp
    obtain ⟨r, hr⟩ : ∃ r, p + 1 = r := ⟨_, rfl⟩
    have hp2 : zi z (i + 1) = r := by unfold zi; omega
    have i1 : p < La := by omega
    have p1 := @shr_step a wa p s hs32
    rw [hr] at p1
    have p2 := @shr_pos n z s i (by omega) (nv a)
    rw [hp'] at p2
    have lga : a.getD p 0 < 4294967296 := wa.get p
    have lgb : a.getD r 0 < 4294967296 := wa.get r
    have hinc : IntKind.i64.wrap ((p : Int) + 1) = (r : Int) := by have := @inc64 p (by omega); rw [this, hr]
    have hdl := dg_len (nv a / 2 ^ n) i
    have lg' : Lg h' v 101 1 (dg (nv a / 2 ^ n) i).length (u3 (dg (nv a / 2 ^ n) i)) := by rw [hdl]; exact lg
    obtain ⟨v8, h8, e8, lg8, kp8, nv8⟩ := app_u3 lg' (by omega) (nv a / 2 ^ n / 4294967296 ^ i % 4294967296)
    rw [← dg_succ, dg_len] at lg8
    rw [p2, ← p1] at e8
    have kk := kp.also kp8 fun m hm x => by have := nw m x; omega
    have nn : ∀ m, nm v8 = some m → h0.next ≤ m := fun m e => by
      rcases nv8 m e with y | y
      · exact nw m y
      · have := kp.1; omega
    rw [hp]
    have m1 : (n : Int).tmod 32 = (s : Int) := by rw [hs]; rfl
    have m1' : (n : Int) % 32 = (s : Int) := by omega
    have w1 := wu64 (a := s) rfl (by omega)
    by_cases i2 : r < La
    · obtain ⟨va, vca, C, ce, cs, gr, ro, eb, hg, hc, hc'⟩ := sl_u3_2 hak i1 i2
      simp only [Value.slice.injEq, true_and] at eb
      obtain ⟨rfl, rfl⟩ := eb
      generalize a.getD p 0 = x at *
      generalize a.getD r 0 = y at *
      obtain ⟨s1, hs1⟩ : ∃ q, y * 4294967296 = q := ⟨_, rfl⟩
      obtain ⟨s2, hs2⟩ : ∃ q, x + s1 = q := ⟨_, rfl⟩
      obtain ⟨e, he⟩ : ∃ q, s2 / 2 ^ s = q := ⟨_, rfl⟩
      obtain ⟨d, hd⟩ : ∃ q, e % 4294967296 = q := ⟨_, rfl⟩
      rw [hs1, hs2, he, hd] at e8
      have w0 := wu64 (a := x) rfl (by omega)
      have w0' := wu64 (a := y) rfl (by omega)
      have w2 : IntKind.u64.wrap ((y : Int) * 4294967296) = (s1 : Int) := by
        have : (y : Int) * 4294967296 = ((y * 4294967296 : Nat) : Int) := by omega
        rw [this]; exact wu64 hs1 (by omega)
      have w3 := au64 hs2 (by omega)
      have w4 := shr64 (a := s2) (k := s) he (by omega)
      have w5 := mod32 hd
      have w6 := wu32 (a := d) rfl (by omega)
      simp (maxSteps := 2000000) -implicitDefEqProofs [px_skip, px_label, px_region, px_draw, qx_seq, qx_cond, px_block, px_loop, px_scope, px_exit, px_ret, seqK_normal, seqK_exit, seqK_ret, condK_true, condK_false, opsK_some, wK_true, wK_false, itK_some, aops_nil, aops_cons, lK_some, aK_some, hK_some, dwK_true, dwK_false, diK_some, dK_light, dK_alloc, dK_heavy, adraw_nil, adraw_cons, aop, cls, light, lightS, binE, aeq, intBin, goInt, pl_int, pl_bool, pl_ptr, pl_slice, aload, isAggT, aeval, tput, awanted, List.range_succ, fin, aresults, aresult, List.replicate, heavy, acallOp, aenter, ble_d, beq_d, firstRegion, readNames, Nxt, isAnc, readsOk, objEq_some, i1, i2, hg, hc, hc', m1, m1', w0, w0', w1, w2, w3, w4, w5, w6, shl37, shr37, aindexAddr, sz101, Try.underlying40, cv101_37, cv37_101, cv3_117, (fun ρ z hz => bs40_1 ρ z (d : Int) hz), e8, hinc, undef]
      exact ⟨k - 1, by omega, i + 1, by omega, v8, by simp (maxSteps := 2000000) only [forget, List.set_cons_succ, List.set_cons_zero, hp2], lg8, kk, nn⟩
    · have z0 : a.getD r 0 = 0 := getD_out (by omega)
      obtain ⟨va, vca, C, ce, cs, gr, ro, eb, hg, hc⟩ := sl_u3 hak i1
      simp only [Value.slice.injEq, true_and] at eb
      obtain ⟨rfl, rfl⟩ := eb
      rw [z0] at e8
      generalize a.getD p 0 = x at *
      obtain ⟨e, he⟩ : ∃ q, x / 2 ^ s = q := ⟨_, rfl⟩
      obtain ⟨d, hd⟩ : ∃ q, e % 4294967296 = q := ⟨_, rfl⟩
      rw [Nat.zero_mul, Nat.add_zero, he, hd] at e8
      have w0 := wu64 (a := x) rfl (by omega)
      have w4 := shr64 (a := x) (k := s) he (by omega)
      have w5 := mod32 hd
      have w6 := wu32 (a := d) rfl (by omega)
      simp (maxSteps := 2000000) -implicitDefEqProofs [px_skip, px_label, px_region, px_draw, qx_seq, qx_cond, px_block, px_loop, px_scope, px_exit, px_ret, seqK_normal, seqK_exit, seqK_ret, condK_true, condK_false, opsK_some, wK_true, wK_false, itK_some, aops_nil, aops_cons, lK_some, aK_some, hK_some, dwK_true, dwK_false, diK_some, dK_light, dK_alloc, dK_heavy, adraw_nil, adraw_cons, aop, cls, light, lightS, binE, aeq, intBin, goInt, pl_int, pl_bool, pl_ptr, pl_slice, aload, isAggT, aeval, tput, awanted, List.range_succ, fin, aresults, aresult, List.replicate, heavy, acallOp, aenter, ble_d, beq_d, firstRegion, readNames, Nxt, isAnc, readsOk, objEq_some, i1, i2, hg, hc, m1, m1', w0, w1, w4, w5, w6, shl37, shr37, aindexAddr, sz101, Try.underlying40, cv101_37, cv37_101, cv3_117, (fun ρ z hz => bs40_1 ρ z (d : Int) hz), e8, hinc, undef]
      exact ⟨k - 1, by omega, i + 1, by omega, v8, by simp (maxSteps := 2000000) only [forget, List.set_cons_succ, List.set_cons_zero, hp2], lg8, kk, nn⟩
  · obtain rfl : i = La - z := by omega
    obtain ⟨p, hp⟩ : ∃ p, zi z (La - z) = p := ⟨_, rfl⟩
    have hp' : z + (La - z) = p := hp
    rw [hp]
    have i1 : ¬ p < La := by omega
    simp (maxSteps := 2000000) -implicitDefEqProofs [px_skip, px_label, px_region, px_draw, qx_seq, qx_cond, px_block, px_loop, px_scope, px_exit, px_ret, seqK_normal, seqK_exit, seqK_ret, condK_true, condK_false, opsK_some, wK_true, wK_false, itK_some, aops_nil, aops_cons, lK_some, aK_some, hK_some, dwK_true, dwK_false, diK_some, dK_light, dK_alloc, dK_heavy, adraw_nil, adraw_cons, aop, cls, light, lightS, binE, aeq, intBin, goInt, pl_int, pl_bool, pl_ptr, pl_slice, aload, isAggT, aeval, tput, awanted, List.range_succ, fin, aresults, aresult, List.replicate, heavy, acallOp, aenter, ble_d, beq_d, firstRegion, readNames, Nxt, isAnc, readsOk, objEq_some, i1, undef]
    exact hI

theorem shr_run {h : Heap} {v : Value} {a : List Nat} (n : Nat) (ha : Na h v a) (hn : n ≤ 100000) : ∃ v' h', run Try.prog sO 87 [v, .int .i64 (n : Nat)] h = some (v', h') ∧ Nt h h' v' (nv a / 2 ^ n) ∧ (lm (nv a / 2 ^ n)).length ≤ a.length := by
  obtain ⟨hv, wa, ka⟩ := ha
  obtain ⟨va, vca, rfl⟩ := sl_form hv
  obtain ⟨z, hz⟩ : ∃ z, z = n / 32 := ⟨_, rfl⟩
  obtain ⟨s, hs⟩ : ∃ s, s = n % 32 := ⟨_, rfl⟩
  suffices hx : ∃ y, fin Try.prog Try.f87 (aexecP Try.prog (sO 87) (run Try.prog sO) loopω pt87 (Try.f87.body.getD .skip) ([.slice va a.length vca, .int .i64 (n : Nat)] ++ List.replicate (Try.f87.ntmps - 2) undef) h) = some y ∧ Nt h y.2 y.1 (nv a / 2 ^ n) ∧ (lm (nv a / 2 ^ n)).length ≤ a.length by
    obtain ⟨⟨y1, y2⟩, hy, q⟩ := hx
    exact ⟨y1, y2, run_finP pt87 Try.func87 rfl planned87 hy, q⟩
  have d1 : IntKind.i64.wrap ((n : Int).tdiv 32) = (z : Int) := by
    have : (n : Int).tdiv 32 = ((n / 32 : Nat) : Int) := rfl
    rw [this]; exact wi64 hz.symm (by omega)
  have d1' : IntKind.i64.wrap ((n : Int) / 32) = (z : Int) := by
    have : (n : Int) / 32 = ((n / 32 : Nat) : Int) := by omega
    rw [this]; exact wi64 hz.symm (by omega)
  simp (maxSteps := 2000000) -implicitDefEqProofs [Try.f87, px_skip, px_label, px_region, px_draw, qx_seq, qx_cond, px_block, px_loop, px_scope, px_exit, px_ret, seqK_normal, seqK_exit, seqK_ret, condK_true, condK_false, opsK_some, wK_true, wK_false, itK_some, aops_nil, aops_cons, lK_some, aK_some, hK_some, dwK_true, dwK_false, diK_some, dK_light, dK_alloc, dK_heavy, adraw_nil, adraw_cons, aop, cls, light, lightS, binE, aeq, intBin, goInt, pl_int, pl_bool, pl_ptr, pl_slice, aload, isAggT, aeval, tput, awanted, List.range_succ, fin, aresults, aresult, List.replicate, heavy, acallOp, aenter, ble_d, beq_d, firstRegion, readNames, Nxt, isAnc, readsOk, objEq_some, Try.underlying40, d1, d1', sO87]
  generalize hl : loopω _ _ _ _ = r
  obtain ⟨hB, v5, x12, x13, x14, x15, hx, lg, kp, nw⟩ := useX5 hl (shr1 (h0 := h) (va := va) (vca := vca) (La := a.length) (n := n) (z := z) (s := s) (a := a) rfl wa ka hn hz hs hv _ _ (by kernel_rfl) _ (by kernel_rfl) ⟨Lg.nil _ _ _, Keep.refl _ _, fun m e => by cases e⟩)
  subst hx
  clear hl
  have hval : nv (dg (nv a / 2 ^ n) (a.length - z)) = nv a / 2 ^ n := by rw [nv_dg, Nat.mod_eq_of_lt (shr_small hz (nv_lt wa))]
  have hna : Na hB v5 (dg (nv a / 2 ^ n) (a.length - z)) := ⟨by rw [dg_len]; exact lg.sl, dg_w _ _, by rw [dg_len]; omega⟩
  obtain ⟨v9, h9, e9, n9, k9⟩ := trim_run hna
  rw [hval] at n9 k9
  rw [dg_len] at k9
  simp (maxSteps := 2000000) -implicitDefEqProofs [px_skip, px_label, px_region, px_draw, qx_seq, qx_cond, px_block, px_loop, px_scope, px_exit, px_ret, seqK_normal, seqK_exit, seqK_ret, condK_true, condK_false, opsK_some, wK_true, wK_false, itK_some, aops_nil, aops_cons, lK_some, aK_some, hK_some, dwK_true, dwK_false, diK_some, dK_light, dK_alloc, dK_heavy, adraw_nil, adraw_cons, aop, cls, light, lightS, binE, aeq, intBin, goInt, pl_int, pl_bool, pl_ptr, pl_slice, aload, isAggT, aeval, tput, awanted, List.range_succ, fin, aresults, aresult, List.replicate, heavy, acallOp, aenter, ble_d, beq_d, firstRegion, readNames, Nxt, isAnc, readsOk, objEq_some, Try.underlying40, en85, e9]
  exact ⟨_, _, ⟨rfl, rfl⟩, ⟨n9.1, kp.trans n9.2.1, fun m e => by have := n9.2.2 m e; have := kp.1; omega⟩, by omega⟩
end Go.Proofs.Ytmnkmdfladbgdaa.Od
