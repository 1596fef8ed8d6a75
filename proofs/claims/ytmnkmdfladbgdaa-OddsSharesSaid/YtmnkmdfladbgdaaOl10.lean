/- Odds: Bits, Bit, natural. -/
import Derived.Test.YtmnkmdfladbgdaaOl7
set_option linter.unusedVariables false
set_option linter.unusedSimpArgs false
namespace Go.Proofs.Ytmnkmdfladbgdaa.Od
open Go Go.Proofs Go.RowKit Go.Proofs.YtmnkmdfladbgdaaAI Go.Proofs.YtmnkmdfladbgdaaFl

noncomputable def lb86 (i : Nat) : Code := (loopsOf (Try.f86.body.getD .skip)).getD i .skip

theorem log2_of {n k : Nat} (h1 : 2 ^ k ≤ n) (h2 : n < 2 ^ (k + 1)) : n.log2 = k := by
  have h0 : n ≠ 0 := by have := Nat.two_pow_pos k; omega
  exact (Nat.log2_eq_iff h0).2 ⟨h1, h2⟩
theorem log2_up {lo x j : Nat} (hlo : lo < 2 ^ j) (hx : 0 < x) : (lo + 2 ^ j * x).log2 = j + x.log2 := by
  have h1 : 2 ^ x.log2 ≤ x := Nat.log2_self_le (by omega)
  have h2 : x < 2 ^ (x.log2 + 1) := Nat.lt_log2_self
  refine log2_of ?_ ?_
  · rw [Nat.pow_add]
    have := Nat.mul_le_mul_left (2 ^ j) h1
    omega
  · rw [Nat.add_assoc, Nat.pow_add]
    have := Nat.mul_le_mul_left (2 ^ j) (Nat.succ_le_of_lt h2)
    rw [Nat.mul_succ] at this
    omega
def dv (x i : Nat) : Nat := x / 2 ^ i
def bl (n : Nat) : Nat := if n = 0 then 0 else n.log2 + 1
theorem bl_lm {n : Nat} (h : 0 < n) : 0 < (lm n).length ∧ 0 < (lm n).getD ((lm n).length - 1) 0 ∧ bl n = 32 * ((lm n).length - 1) + ((lm n).getD ((lm n).length - 1) 0).log2 + 1 := by
  obtain ⟨h1, h2⟩ := lm_last h
  refine ⟨h1, by omega, ?_⟩
  have hw := lm_w n
  obtain ⟨j, hj⟩ : ∃ j, (lm n).length - 1 = j := ⟨_, rfl⟩
  rw [hj] at h2 ⊢
  have h3 := nv_take (l := lm n) (i := j) (by omega)
  rw [show j + 1 = (lm n).length by omega, List.take_length, nv_lm] at h3
  have h4 : nv ((lm n).take j) < 4294967296 ^ j := by
    have := nv_lt (l := (lm n).take j) fun x hx => hw x (List.mem_of_mem_take hx)
    rw [List.length_take, Nat.min_eq_left (by omega)] at this
    exact this
  have h5 : (4294967296 : Nat) ^ j = 2 ^ (32 * j) := by rw [show (4294967296 : Nat) = 2 ^ 32 from rfl, ← Nat.pow_mul]
  rw [h5] at h3 h4
  unfold bl
  rw [if_neg (by omega)]
  conv => lhs; rw [h3]
  rw [log2_up h4 (by omega)]
set_option maxRecDepth 20000 in
set_option maxHeartbeats 6400000 in
theorem bits1 {h0 : Heap} {b x : Nat} (hb : b ≤ 100000) (hx : 0 < x) (hx2 : x < 4294967296) (F : Step) (hFF : F = aexecP Try.prog (sO 86) (run Try.prog sO) loopω pt86 (lb86 0)) (t : Tm)
    (ht : forget [0, 1, 2, 3, 6, 7, 8, 9, 10, 11, 12, 13, 14, 15, 16, 17, 18, 19, 20, 21, 22, 23, 24, 25, 26, 27] t = [unk, unk, unk, unk, .int .i64 (zi b (0) : Nat), .int .u32 (dv x (0) : Nat), unk, unk, unk, unk, unk, unk, unk, unk, unk, unk, unk, unk, unk, unk, unk, unk, unk, unk, unk, unk, unk, unk]) (hI0 : h0 = h0) :
    ∃ h' x21 x22, loopω [0, 1, 2, 3, 6, 7, 8, 9, 10, 11, 12, 13, 14, 15, 16, 17, 18, 19, 20, 21, 22, 23, 24, 25, 26, 27] F t h0 = some (.exit 0, [unk, unk, unk, unk, .int .i64 (zi b (x.log2 + 1) : Nat), .int .u32 (dv x (x.log2 + 1) : Nat), unk, unk, unk, unk, unk, unk, unk, unk, unk, unk, unk, unk, unk, unk, unk, x21, x22, unk, unk, unk, unk, unk], h') ∧ h' = h0 := by
  subst hFF
  suffices hs : ∃ e t' h', loopω [0, 1, 2, 3, 6, 7, 8, 9, 10, 11, 12, 13, 14, 15, 16, 17, 18, 19, 20, 21, 22, 23, 24, 25, 26, 27] (aexecP Try.prog (sO 86) (run Try.prog sO) loopω pt86 (lb86 0)) t h0 = some (e, t', h') ∧ (e = .exit 0 ∧ ∃ x21 x22, t' = [unk, unk, unk, unk, .int .i64 (zi b (x.log2 + 1) : Nat), .int .u32 (dv x (x.log2 + 1) : Nat), unk, unk, unk, unk, unk, unk, unk, unk, unk, unk, unk, unk, unk, unk, unk, x21, x22, unk, unk, unk, unk, unk] ∧ h' = h0) by
    obtain ⟨e, t', h', q1, rfl, x21, x22, rfl, q2⟩ := hs
    exact ⟨h', x21, x22, q1, q2⟩
  simp only [lb86, Try.f86, loopsOf, Option.getD_some, List.nil_append, List.append_nil, List.cons_append, List.getD_cons_zero, List.getD_cons_succ]
  refine loop_by (fun k t h' => ∃ (i : Nat), i + k = x.log2 + 1 ∧ forget [0, 1, 2, 3, 6, 7, 8, 9, 10, 11, 12, 13, 14, 15, 16, 17, 18, 19, 20, 21, 22, 23, 24, 25, 26, 27] t = [unk, unk, unk, unk, .int .i64 (zi b (i) : Nat), .int .u32 (dv x (i) : Nat), unk, unk, unk, unk, unk, unk, unk, unk, unk, unk, unk, unk, unk, unk, unk, unk, unk, unk, unk, unk, unk, unk] ∧ h' = h0)
    (fun e t' h' => e = .exit 0 ∧ ∃ x21 x22, t' = [unk, unk, unk, unk, .int .i64 (zi b (x.log2 + 1) : Nat), .int .u32 (dv x (x.log2 + 1) : Nat), unk, unk, unk, unk, unk, unk, unk, unk, unk, unk, unk, unk, unk, unk, unk, x21, x22, unk, unk, unk, unk, unk] ∧ h' = h0) ?_ (x.log2 + 1) _ _ ⟨0, by omega, ht, hI0⟩
  rintro k t h' ⟨i, hi, ht, hI⟩
  rw [ht]
  rcases Nat.lt_or_ge i (x.log2 + 1) with h1 | h1
  · have hlg : x.log2 < 32 := by
      rcases Nat.lt_or_ge x.log2 32 with h | h
      · exact h
      · have h3 : 2 ^ x.log2 ≤ x := Nat.log2_self_le (by omega)
        have h4 := Nat.pow_le_pow_right (show 0 < 2 by omega) h
        omega
    obtain ⟨p, hp⟩ : ∃ p, zi b i = p := ⟨_, rfl⟩
    obtain ⟨r, hr⟩ : ∃ r, zi b (i + 1) = r := ⟨_, rfl⟩
    obtain ⟨q, hq0'⟩ : ∃ q, dv x i = q := ⟨_, rfl⟩
    have hq : x / 2 ^ i = q := hq0'
    have hpi : b + i = p := hp
    have hri : b + (i + 1) = r := hr
    have hq0 : 0 < q := by
      rw [← hq]
      have h3 : 2 ^ x.log2 ≤ x := Nat.log2_self_le (by omega)
      have h4 : 2 ^ i ≤ 2 ^ x.log2 := Nat.pow_le_pow_right (by omega) (by omega)
      exact Nat.div_pos (by omega) (Nat.two_pow_pos i)
    have hql : q < 4294967296 := by rw [← hq]; exact Nat.lt_of_le_of_lt (Nat.div_le_self _ _) hx2
    obtain ⟨q2, hq2⟩ : ∃ y, q / 2 = y := ⟨_, rfl⟩
    have hq3 : dv x (i + 1) = q2 := by unfold dv; rw [← hq2, ← hq, Nat.pow_succ, Nat.div_div_eq_div_mul]
    have w1 : IntKind.i64.wrap ((p : Int) + 1) = (r : Int) := by rw [IntWalk.i64_in _ (by omega)]; omega
    have w2 : IntKind.u32.wrap ((q : Int).tdiv 2) = (q2 : Int) := by
      have : (q : Int).tdiv 2 = ((q / 2 : Nat) : Int) := rfl
      rw [this]; exact wu32 hq2 (by omega)
    have w2' : IntKind.u32.wrap ((q : Int) / 2) = (q2 : Int) := by
      have : (q : Int) / 2 = ((q / 2 : Nat) : Int) := by omega
      rw [this]; exact wu32 hq2 (by omega)
    subst hI
    rw [hp, hq0']
    simp (maxSteps := 2000000) -implicitDefEqProofs [px_skip, px_label, px_region, px_draw, qx_seq, qx_cond, px_block, px_loop, px_scope, px_exit, px_ret, seqK_normal, seqK_exit, seqK_ret, condK_true, condK_false, opsK_some, wK_true, wK_false, itK_some, aops_nil, aops_cons, lK_some, aK_some, hK_some, dwK_true, dwK_false, diK_some, dK_light, dK_alloc, dK_heavy, adraw_nil, adraw_cons, aop, cls, light, lightS, binE, aeq, intBin, goInt, pl_int, pl_bool, pl_ptr, pl_slice, aload, isAggT, aeval, tput, awanted, List.range_succ, fin, aresults, aresult, List.replicate, heavy, acallOp, aenter, ble_d, beq_d, firstRegion, readNames, Nxt, isAnc, readsOk, objEq_some, hq0, w1, w2, w2', undef]
    exact ⟨k - 1, by omega, i + 1, by omega, by simp (maxSteps := 2000000) only [forget, List.set_cons_succ, List.set_cons_zero, hr, hq3]⟩
  · obtain rfl : i = x.log2 + 1 := by omega
    have hq : dv x (x.log2 + 1) = 0 := Nat.div_eq_of_lt Nat.lt_log2_self
    rw [hq]
    simp (maxSteps := 2000000) -implicitDefEqProofs [px_skip, px_label, px_region, px_draw, qx_seq, qx_cond, px_block, px_loop, px_scope, px_exit, px_ret, seqK_normal, seqK_exit, seqK_ret, condK_true, condK_false, opsK_some, wK_true, wK_false, itK_some, aops_nil, aops_cons, lK_some, aK_some, hK_some, dwK_true, dwK_false, diK_some, dK_light, dK_alloc, dK_heavy, adraw_nil, adraw_cons, aop, cls, light, lightS, binE, aeq, intBin, goInt, pl_int, pl_bool, pl_ptr, pl_slice, aload, isAggT, aeval, tput, awanted, List.range_succ, fin, aresults, aresult, List.replicate, heavy, acallOp, aenter, ble_d, beq_d, firstRegion, readNames, Nxt, isAnc, readsOk, objEq_some, undef]
    exact hI

theorem bits_run {h : Heap} {v : Value} {a : List Nat} (ha : Na h v a) : ∃ h', run Try.prog sO 86 [v] h = some (.int .i64 (bl (nv a) : Nat), h') ∧ Keep No h h' := by
  obtain ⟨v1, h1, e1, ⟨l1, k1, n1⟩, b1⟩ := trim_run ha
  have ka := ha.2.2
  have s1 := l1.sl
  obtain ⟨va0, vc0, rfl⟩ := sl_form ha.1
  obtain ⟨va, vca, rfl⟩ := sl_form s1
  suffices hx : ∃ y, fin Try.prog Try.f86 (aexecP Try.prog (sO 86) (run Try.prog sO) loopω pt86 (Try.f86.body.getD .skip) ([.slice va0 a.length vc0] ++ List.replicate (Try.f86.ntmps - 1) undef) h) = some y ∧ y.1 = .int .i64 (bl (nv a) : Nat) ∧ Keep No h y.2 by
    obtain ⟨⟨y1, y2⟩, hy, rfl, q⟩ := hx
    exact ⟨y2, run_finP pt86 Try.func86 rfl planned86 hy, q⟩
  rcases Nat.eq_zero_or_pos (nv a) with h0 | h0
  · have hz : (lm (nv a)).length = 0 := by rw [h0, lm_zero]; rfl
    have hv : bl (nv a) = 0 := by unfold bl; rw [if_pos h0]
    rw [hv]
    rw [hz] at e1
    simp (maxSteps := 2000000) -implicitDefEqProofs [Try.f86, px_skip, px_label, px_region, px_draw, qx_seq, qx_cond, px_block, px_loop, px_scope, px_exit, px_ret, seqK_normal, seqK_exit, seqK_ret, condK_true, condK_false, opsK_some, wK_true, wK_false, itK_some, aops_nil, aops_cons, lK_some, aK_some, hK_some, dwK_true, dwK_false, diK_some, dK_light, dK_alloc, dK_heavy, adraw_nil, adraw_cons, aop, cls, light, lightS, binE, aeq, intBin, goInt, pl_int, pl_bool, pl_ptr, pl_slice, aload, isAggT, aeval, tput, awanted, List.range_succ, fin, aresults, aresult, List.replicate, heavy, acallOp, aenter, ble_d, beq_d, firstRegion, readNames, Nxt, isAnc, readsOk, objEq_some, Try.underlying40, en85, e1]
    exact k1
  · obtain ⟨c1, c2, c3⟩ := bl_lm h0
    obtain ⟨j, hj⟩ : ∃ j, (lm (nv a)).length - 1 = j := ⟨_, rfl⟩
    have hj1 : (lm (nv a)).length = j + 1 := by omega
    rw [hj] at c2 c3
    have hxl : (lm (nv a)).getD j 0 < 4294967296 := (lm_w (nv a)).get j
    have hjlt : j < j + 1 := by omega
    rw [hj1] at s1 e1
    obtain ⟨va, vca, C, ce, cs, gr, ro, eb, hg, hc⟩ := sl_u3 s1 hjlt
    simp only [Value.slice.injEq, true_and] at eb
    obtain ⟨rfl, rfl⟩ := eb
    generalize (lm (nv a)).getD j 0 = x at *
    obtain ⟨L, hL⟩ : ∃ L, j + 1 = L := ⟨_, rfl⟩
    rw [hL] at e1 hjlt
    have w1 : IntKind.i64.wrap ((L : Int) - 1) = (j : Int) := by rw [IntWalk.i64_in _ (by omega)]; omega
    obtain ⟨b, hb⟩ : ∃ b, 32 * j = b := ⟨_, rfl⟩
    have w2 : IntKind.i64.wrap (32 * (j : Int)) = (b : Int) := by rw [IntWalk.i64_in _ (by omega)]; omega
    have n0 : ¬ L = 0 := by omega
    simp (maxSteps := 2000000) -implicitDefEqProofs [Try.f86, px_skip, px_label, px_region, px_draw, qx_seq, qx_cond, px_block, px_loop, px_scope, px_exit, px_ret, seqK_normal, seqK_exit, seqK_ret, condK_true, condK_false, opsK_some, wK_true, wK_false, itK_some, aops_nil, aops_cons, lK_some, aK_some, hK_some, dwK_true, dwK_false, diK_some, dK_light, dK_alloc, dK_heavy, adraw_nil, adraw_cons, aop, cls, light, lightS, binE, aeq, intBin, goInt, pl_int, pl_bool, pl_ptr, pl_slice, aload, isAggT, aeval, tput, awanted, List.range_succ, fin, aresults, aresult, List.replicate, heavy, acallOp, aenter, ble_d, beq_d, firstRegion, readNames, Nxt, isAnc, readsOk, objEq_some, Try.underlying40, en85, e1, w1, w2, n0, ibeq, hjlt, aindexAddr, sz101, hg, hc, sO86]
    generalize hl : loopω _ _ _ _ = r
    have hz0 : zi b 0 = b := rfl
    have hd0 : dv x 0 = x := by unfold dv; simp
    obtain ⟨h3, x21, x22, hx, hh⟩ := useX2 hl (bits1 (h0 := h1) (b := b) (x := x) (by omega) c2 hxl _ (by kernel_rfl) _ (by rw [hz0, hd0]; kernel_rfl) rfl)
    subst hx
    subst hh
    have hfin : zi b (x.log2 + 1) = bl (nv a) := by unfold zi; rw [c3]; omega
    rw [hfin]
    simp (maxSteps := 2000000) -implicitDefEqProofs [px_skip, px_label, px_region, px_draw, qx_seq, qx_cond, px_block, px_loop, px_scope, px_exit, px_ret, seqK_normal, seqK_exit, seqK_ret, condK_true, condK_false, opsK_some, wK_true, wK_false, itK_some, aops_nil, aops_cons, lK_some, aK_some, hK_some, dwK_true, dwK_false, diK_some, dK_light, dK_alloc, dK_heavy, adraw_nil, adraw_cons, aop, cls, light, lightS, binE, aeq, intBin, goInt, pl_int, pl_bool, pl_ptr, pl_slice, aload, isAggT, aeval, tput, awanted, List.range_succ, fin, aresults, aresult, List.replicate, heavy, acallOp, aenter, ble_d, beq_d, firstRegion, readNames, Nxt, isAnc, readsOk, objEq_some]
    exact ⟨_, _, ⟨rfl, rfl⟩, rfl, k1⟩
theorem bit_eq {a : List Nat} (ha : W32 a) {n z s : Nat} (hz : n = 32 * z + s) (hs : s < 32) : a.getD z 0 / 2 ^ s % 2 = nv a / 2 ^ n % 2 := by
  have h1 := nv_div ha z
  obtain ⟨q, hq⟩ : ∃ q, 4294967296 = 2 ^ s * (2 * q) := ⟨2 ^ (31 - s), by rw [← Nat.pow_succ', ← Nat.pow_add, show s + (31 - s).succ = 32 by omega]⟩
  have h2 : nv a / 2 ^ n = nv a / 4294967296 ^ z / 2 ^ s := by
    rw [Nat.div_div_eq_div_mul, hz, show (4294967296 : Nat) = 2 ^ 32 from rfl, ← Nat.pow_mul, ← Nat.pow_add]
  have h3 : nv a / 4294967296 ^ z = a.getD z 0 + 2 ^ s * (2 * (q * (nv a / 4294967296 ^ (z + 1)))) := by
    rw [h1, ← Nat.mul_assoc, ← Nat.mul_assoc, Nat.mul_assoc (2 ^ s) 2 q, ← hq]
  rw [h2, h3, Nat.add_mul_div_left _ _ (Nat.two_pow_pos s)]
  omega
theorem bit_run {h : Heap} {v : Value} {a : List Nat} (n : Nat) (ha : Na h v a) (hn : n ≤ 100000) : run Try.prog sO 88 [v, .int .i64 (n : Nat)] h = some (.bool (decide (nv a / 2 ^ n % 2 = 1)), h) := by
  obtain ⟨hv, wa, ka⟩ := ha
  obtain ⟨va, vca, rfl⟩ := sl_form hv
  obtain ⟨z, hz⟩ : ∃ z, z = n / 32 := ⟨_, rfl⟩
  obtain ⟨s, hs⟩ : ∃ s, s = n % 32 := ⟨_, rfl⟩
  have d1 : IntKind.i64.wrap ((n : Int).tdiv 32) = (z : Int) := by
    have : (n : Int).tdiv 32 = ((n / 32 : Nat) : Int) := rfl
    rw [this]; exact wi64 hz.symm (by omega)
  have d1' : IntKind.i64.wrap ((n : Int) / 32) = (z : Int) := by
    have : (n : Int) / 32 = ((n / 32 : Nat) : Int) := by omega
    rw [this]; exact wi64 hz.symm (by omega)
  have m1 : (n : Int).tmod 32 = (s : Int) := by rw [hs]; rfl
  have m1' : (n : Int) % 32 = (s : Int) := by omega
  refine run_finP pt88 Try.func88 rfl planned88 ?_
  have n0 : ¬ ((n : Int) < 0) := by omega
  have hbe := @bit_eq a wa n z s (by omega) (by omega)
  by_cases c1 : a.length ≤ z
  · rw [getD_out c1, Nat.zero_div] at hbe
    have hv0 : decide (nv a / 2 ^ n % 2 = 1) = false := by rw [← hbe]; rfl
    rw [hv0]
    simp (maxSteps := 2000000) -implicitDefEqProofs [Try.f88, px_skip, px_label, px_region, px_draw, qx_seq, qx_cond, px_block, px_loop, px_scope, px_exit, px_ret, seqK_normal, seqK_exit, seqK_ret, condK_true, condK_false, opsK_some, wK_true, wK_false, itK_some, aops_nil, aops_cons, lK_some, aK_some, hK_some, dwK_true, dwK_false, diK_some, dK_light, dK_alloc, dK_heavy, adraw_nil, adraw_cons, aop, cls, light, lightS, binE, aeq, intBin, goInt, pl_int, pl_bool, pl_ptr, pl_slice, aload, isAggT, aeval, tput, awanted, List.range_succ, fin, aresults, aresult, List.replicate, heavy, acallOp, aenter, ble_d, beq_d, firstRegion, readNames, Nxt, isAnc, readsOk, objEq_some, n0, Try.underlying40, d1, d1', c1, undef]
  · have c2 : z < a.length := by omega
    obtain ⟨va, vca, C, ce, cs, gr, ro, eb, hg, hc⟩ := sl_u3 hv c2
    simp only [Value.slice.injEq, true_and] at eb
    obtain ⟨rfl, rfl⟩ := eb
    rw [← hbe]
    generalize a.getD z 0 = x at *
    obtain ⟨f, hf⟩ : ∃ f, x / 2 ^ s = f := ⟨_, rfl⟩
    obtain ⟨g, hgg⟩ : ∃ g, f % 2 = g := ⟨_, rfl⟩
    rw [hf, hgg]
    have w1 := wu64 (a := s) rfl (by omega)
    have w2 := shr32 (a := x) (k := s) hf (by omega)
    have w3 : (f : Int).tmod 2 = (g : Int) := by rw [← hgg]; rfl
    have w3' : (f : Int) % 2 = (g : Int) := by omega
    have hgi : ((g : Int) = 1) = (g = 1) := by rw [eq_iff_iff]; omega
    simp (maxSteps := 2000000) -implicitDefEqProofs [Try.f88, px_skip, px_label, px_region, px_draw, qx_seq, qx_cond, px_block, px_loop, px_scope, px_exit, px_ret, seqK_normal, seqK_exit, seqK_ret, condK_true, condK_false, opsK_some, wK_true, wK_false, itK_some, aops_nil, aops_cons, lK_some, aK_some, hK_some, dwK_true, dwK_false, diK_some, dK_light, dK_alloc, dK_heavy, adraw_nil, adraw_cons, aop, cls, light, lightS, binE, aeq, intBin, goInt, pl_int, pl_bool, pl_ptr, pl_slice, aload, isAggT, aeval, tput, awanted, List.range_succ, fin, aresults, aresult, List.replicate, heavy, acallOp, aenter, ble_d, beq_d, firstRegion, readNames, Nxt, isAnc, readsOk, objEq_some, n0, Try.underlying40, d1, d1', m1, m1', c1, c2, w1, w2, w3, w3', ibeq, hgi, shr101, cv3_117, aindexAddr, sz101, hg, hc, undef]
theorem bs40_2' (a b : Int) (d ty pos af gu) : aalloc Try.prog (fun x => match x with | .tmp 0 => .int .u32 a | _ => .int .u32 b) ⟨d, .buildSlice 40 2 #[(0, .tmp 0), (1, .tmp 1)], ty, pos, af, gu⟩ = some (.cells [.int .u32 a, .int .u32 b] 101 1 false false, fun n => .slice (some ⟨n, 0, none⟩) 2 2) := by kernel_rfl
theorem bs40_2 (ρ : Operand → Value) (x y) (a b : Int) (hx : ρ x = .int .u32 a) (hy : ρ y = .int .u32 b) (d ty pos af gu) : aalloc Try.prog ρ ⟨d, .buildSlice 40 2 #[(0, x), (1, y)], ty, pos, af, gu⟩ = some (.cells [.int .u32 a, .int .u32 b] 101 1 false false, fun n => .slice (some ⟨n, 0, none⟩) 2 2) := by
  have h1 : aalloc Try.prog ρ ⟨d, .buildSlice 40 2 #[(0, x), (1, y)], ty, pos, af, gu⟩ = aalloc Try.prog (fun x => match x with | .tmp 0 => .int .u32 a | _ => .int .u32 b) ⟨d, .buildSlice 40 2 #[(0, .tmp 0), (1, .tmp 1)], ty, pos, af, gu⟩ := by simp [aalloc, hx, hy]
  rw [h1]; exact bs40_2' _ _ _ _ _ _ _
theorem nat_run {h : Heap} {m : Nat} (hm : m < 18446744073709551616) : ∃ v h', run Try.prog sO 62 [U m] h = some (v, h') ∧ Na h' v [m % 4294967296, m / 4294967296] ∧ Keep No h h' := by
  obtain ⟨x, hx⟩ : ∃ x, m % 4294967296 = x := ⟨_, rfl⟩
  obtain ⟨y, hy⟩ : ∃ x, m / 4294967296 = x := ⟨_, rfl⟩
  have w1 := mod32 hx
  have w2 := quo32' hy (by omega)
  have w3 := wu32 (a := x) rfl (by omega)
  have w4 := wu32 (a := y) rfl (by omega)
  refine ⟨.slice (some ⟨h.next, 0, none⟩) 2 2, h.new (.cells [.int .u32 (x : Nat), .int .u32 (y : Nat)] 101 1 false false), run_finP pt62 Try.func62 rfl planned62 ?_, ?_, Keep.new _ _ _⟩
  · simp (maxSteps := 2000000) -implicitDefEqProofs [Try.f62, px_skip, px_label, px_region, px_draw, qx_seq, qx_cond, px_block, px_loop, px_scope, px_exit, px_ret, seqK_normal, seqK_exit, seqK_ret, condK_true, condK_false, opsK_some, wK_true, wK_false, itK_some, aops_nil, aops_cons, lK_some, aK_some, hK_some, dwK_true, dwK_false, diK_some, dK_light, dK_alloc, dK_heavy, adraw_nil, adraw_cons, aop, cls, light, lightS, binE, aeq, intBin, goInt, pl_int, pl_bool, pl_ptr, pl_slice, aload, isAggT, aeval, tput, awanted, List.range_succ, fin, aresults, aresult, List.replicate, heavy, acallOp, aenter, ble_d, beq_d, firstRegion, readNames, Nxt, isAnc, readsOk, objEq_some, Try.underlying40, w1, w2, w3, w4, cv37_101, (fun ρ a b hx hy => bs40_2 ρ a b (x : Int) (y : Int) hx hy)]
  · rw [hx, hy]
    refine ⟨⟨by simp [u3], .inr ⟨_, _, rfl, fun _ => ⟨_, _, _, _, _, by rw [Heap.get_new, if_pos rfl], by simp [u3]⟩⟩⟩, fun z hz => ?_, by simp⟩
    simp only [List.mem_cons, List.not_mem_nil, or_false] at hz
    omega
theorem nv_two (m : Nat) : nv [m % 4294967296, m / 4294967296] = m := by simp only [nv]; omega
end Go.Proofs.Ytmnkmdfladbgdaa.Od
