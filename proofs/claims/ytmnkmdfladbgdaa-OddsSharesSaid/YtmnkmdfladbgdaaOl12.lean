/- Odds: length, Parts. -/
import Derived.Test.YtmnkmdfladbgdaaOl11
set_option linter.unusedVariables false
set_option linter.unusedSimpArgs false
namespace Go.Proofs.Ytmnkmdfladbgdaa.Od
open Go Go.Proofs Go.RowKit Go.Proofs.YtmnkmdfladbgdaaAI Go.Proofs.YtmnkmdfladbgdaaFl Go.Proofs.YtmnkmdfladbgdaaRnd

noncomputable def lb89 (i : Nat) : Code := (loopsOf (Try.f89.body.getD .skip)).getD i .skip
noncomputable def lb60 (i : Nat) : Code := (loopsOf (Try.f60.body.getD .skip)).getD i .skip
theorem dv_succ (x i : Nat) : dv x (i + 1) = dv x i / 2 := by unfold dv; rw [Nat.pow_succ, Nat.div_div_eq_div_mul]
theorem dv_le (x i : Nat) : dv x i ≤ x := Nat.div_le_self _ _
theorem dv_zero (x : Nat) : dv x 0 = x := by unfold dv; simp
theorem dv_pos {x i : Nat} (h : i < bl x) : 0 < dv x i := by
  unfold bl at h
  split at h
  · omega
  · rename_i h0
    have h3 : 2 ^ x.log2 ≤ x := Nat.log2_self_le h0
    have h4 : 2 ^ i ≤ 2 ^ x.log2 := Nat.pow_le_pow_right (by omega) (by omega)
    exact Nat.div_pos (by omega) (Nat.two_pow_pos i)
theorem q2u {q r : Nat} (h : q / 2 = r) (hq : q < 18446744073709551616) : IntKind.u64.wrap ((q : Int).tdiv 2) = (r : Int) ∧ IntKind.u64.wrap ((q : Int) / 2) = (r : Int) := by
  constructor
  · have : (q : Int).tdiv 2 = ((q / 2 : Nat) : Int) := rfl
    rw [this]; exact wu64 h (by omega)
  · have : (q : Int) / 2 = ((q / 2 : Nat) : Int) := by omega
    rw [this]; exact wu64 h (by omega)
set_option maxRecDepth 20000 in
set_option maxHeartbeats 6400000 in
theorem len1 {h0 : Heap} {x : Nat} (hx : x < 18446744073709551616) (F : Step) (hFF : F = aexecP Try.prog (sO 89) (run Try.prog sO) loopω pt89 (lb89 0)) (t : Tm)
    (ht : forget [1, 2, 4, 5, 6, 7, 8, 9, 10] t = [.int .u64 (dv x (0) : Nat), unk, unk, .int .i64 (0 : Nat), unk, unk, unk, unk, unk, unk, unk]) (hI0 : h0 = h0) :
    ∃ h' x4 x5, loopω [1, 2, 4, 5, 6, 7, 8, 9, 10] F t h0 = some (.exit 0, [.int .u64 (dv x (bl x) : Nat), unk, unk, .int .i64 (bl x : Nat), x4, x5, unk, unk, unk, unk, unk], h') ∧ h' = h0 := by
  subst hFF
  suffices hs : ∃ e t' h', loopω [1, 2, 4, 5, 6, 7, 8, 9, 10] (aexecP Try.prog (sO 89) (run Try.prog sO) loopω pt89 (lb89 0)) t h0 = some (e, t', h') ∧ (e = .exit 0 ∧ ∃ x4 x5, t' = [.int .u64 (dv x (bl x) : Nat), unk, unk, .int .i64 (bl x : Nat), x4, x5, unk, unk, unk, unk, unk] ∧ h' = h0) by
    obtain ⟨e, t', h', q1, rfl, x4, x5, rfl, q2⟩ := hs
    exact ⟨h', x4, x5, q1, q2⟩
  simp only [lb89, Try.f89, loopsOf, Option.getD_some, List.nil_append, List.append_nil, List.cons_append, List.getD_cons_zero, List.getD_cons_succ]
  refine loop_by (fun k t h' => ∃ (i : Nat), i + k = bl x ∧ forget [1, 2, 4, 5, 6, 7, 8, 9, 10] t = [.int .u64 (dv x (i) : Nat), unk, unk, .int .i64 (i : Nat), unk, unk, unk, unk, unk, unk, unk] ∧ h' = h0)
    (fun e t' h' => e = .exit 0 ∧ ∃ x4 x5, t' = [.int .u64 (dv x (bl x) : Nat), unk, unk, .int .i64 (bl x : Nat), x4, x5, unk, unk, unk, unk, unk] ∧ h' = h0) ?_ (bl x) _ _ ⟨0, by omega, ht, hI0⟩
  rintro k t h' ⟨i, hi, ht, hI⟩
  rw [ht]
  rcases Nat.lt_or_ge i (bl x) with h1 | h1
  · have hq0 := dv_pos h1
    have hle := dv_le x i
    have hsc := dv_succ x i
    obtain ⟨q, hq⟩ : ∃ q, dv x i = q := ⟨_, rfl⟩
    obtain ⟨r, hr⟩ : ∃ r, dv x (i + 1) = r := ⟨_, rfl⟩
    rw [hq] at hq0 hle hsc
    obtain ⟨w1, w2⟩ := q2u (q := q) (r := r) (by rw [← hr]; exact hsc.symm) (by omega)
    have hbl : bl x ≤ 64 := bl_le (by omega)
    have hinc := @inc64 i (by omega)
    have hcs := cast_succ i
    subst hI
    rw [hq]
    simp (maxSteps := 2000000) -implicitDefEqProofs [px_skip, px_label, px_region, px_draw, qx_seq, qx_cond, px_block, px_loop, px_scope, px_exit, px_ret, seqK_normal, seqK_exit, seqK_ret, condK_true, condK_false, opsK_some, wK_true, wK_false, itK_some, aops_nil, aops_cons, lK_some, aK_some, hK_some, dwK_true, dwK_false, diK_some, dK_light, dK_alloc, dK_heavy, adraw_nil, adraw_cons, aop, cls, light, lightS, binE, aeq, intBin, goInt, pl_int, pl_bool, pl_ptr, pl_slice, aload, isAggT, aeval, tput, awanted, List.range_succ, fin, aresults, aresult, List.replicate, heavy, acallOp, aenter, ble_d, beq_d, firstRegion, readNames, Nxt, isAnc, readsOk, objEq_some, hq0, w1, w2, hinc, undef]
    exact ⟨k - 1, by omega, i + 1, by omega, by simp (maxSteps := 2000000) only [forget, List.set_cons_succ, List.set_cons_zero, hr, hcs]⟩
  · obtain rfl : i = bl x := by omega
    have hq : dv x (bl x) = 0 := Nat.div_eq_of_lt (lt_bl x)
    rw [hq]
    simp (maxSteps := 2000000) -implicitDefEqProofs [px_skip, px_label, px_region, px_draw, qx_seq, qx_cond, px_block, px_loop, px_scope, px_exit, px_ret, seqK_normal, seqK_exit, seqK_ret, condK_true, condK_false, opsK_some, wK_true, wK_false, itK_some, aops_nil, aops_cons, lK_some, aK_some, hK_some, dwK_true, dwK_false, diK_some, dK_light, dK_alloc, dK_heavy, adraw_nil, adraw_cons, aop, cls, light, lightS, binE, aeq, intBin, goInt, pl_int, pl_bool, pl_ptr, pl_slice, aload, isAggT, aeval, tput, awanted, List.range_succ, fin, aresults, aresult, List.replicate, heavy, acallOp, aenter, ble_d, beq_d, firstRegion, readNames, Nxt, isAnc, readsOk, objEq_some, undef]
    exact hI

theorem length_run {h : Heap} {x : Nat} (hx : x < 18446744073709551616) : run Try.prog sO 89 [U x] h = some (.int .i64 (bl x : Nat), h) := by
  suffices hs : ∃ y, fin Try.prog Try.f89 (aexecP Try.prog (sO 89) (run Try.prog sO) loopω pt89 (Try.f89.body.getD .skip) ([U x] ++ List.replicate (Try.f89.ntmps - 1) undef) h) = some y ∧ y.1 = .int .i64 (bl x : Nat) ∧ y.2 = h by
    obtain ⟨⟨y1, y2⟩, hy, rfl, rfl⟩ := hs
    exact run_finP pt89 Try.func89 rfl planned89 hy
  simp (maxSteps := 2000000) -implicitDefEqProofs [Try.f89, px_skip, px_label, px_region, px_draw, qx_seq, qx_cond, px_block, px_loop, px_scope, px_exit, px_ret, seqK_normal, seqK_exit, seqK_ret, condK_true, condK_false, opsK_some, wK_true, wK_false, itK_some, aops_nil, aops_cons, lK_some, aK_some, hK_some, dwK_true, dwK_false, diK_some, dK_light, dK_alloc, dK_heavy, adraw_nil, adraw_cons, aop, cls, light, lightS, binE, aeq, intBin, goInt, pl_int, pl_bool, pl_ptr, pl_slice, aload, isAggT, aeval, tput, awanted, List.range_succ, fin, aresults, aresult, List.replicate, heavy, acallOp, aenter, ble_d, beq_d, firstRegion, readNames, Nxt, isAnc, readsOk, objEq_some, sO89]
  generalize hl : loopω _ _ _ _ = r
  have hd0 := dv_zero x
  obtain ⟨h3, x4, x5, hx, hh⟩ := useX2 hl (len1 (h0 := h) (x := x) hx _ (by kernel_rfl) _ (by rw [hd0]; kernel_rfl) rfl)
  subst hx
  subst hh
  simp (maxSteps := 2000000) -implicitDefEqProofs [px_skip, px_label, px_region, px_draw, qx_seq, qx_cond, px_block, px_loop, px_scope, px_exit, px_ret, seqK_normal, seqK_exit, seqK_ret, condK_true, condK_false, opsK_some, wK_true, wK_false, itK_some, aops_nil, aops_cons, lK_some, aK_some, hK_some, dwK_true, dwK_false, diK_some, dK_light, dK_alloc, dK_heavy, adraw_nil, adraw_cons, aop, cls, light, lightS, binE, aeq, intBin, goInt, pl_int, pl_bool, pl_ptr, pl_slice, aload, isAggT, aeval, tput, awanted, List.range_succ, fin, aresults, aresult, List.replicate, heavy, acallOp, aenter, ble_d, beq_d, firstRegion, readNames, Nxt, isAnc, readsOk, objEq_some]
/-- How many twos. -/
def tz (m : Nat) : Nat := if h : m = 0 then 0 else if m % 2 = 0 then tz (m / 2) + 1 else 0
termination_by m
decreasing_by omega
theorem tz_spec (m : Nat) (h : 0 < m) : (∀ i, i < tz m → dv m i % 2 = 0) ∧ dv m (tz m) % 2 = 1 ∧ m = dv m (tz m) * 2 ^ tz m := by
  induction m using Nat.strongRecOn with
  | _ m ih =>
    by_cases h2 : m % 2 = 0
    · have hz : tz m = tz (m / 2) + 1 := by rw [tz, dif_neg (by omega), if_pos h2]
      obtain ⟨i1, i2, i3⟩ := ih (m / 2) (by omega) (by omega)
      have hs : ∀ i, dv m (i + 1) = dv (m / 2) i := fun i => by unfold dv; rw [Nat.pow_succ', Nat.div_div_eq_div_mul]
      rw [hz]
      refine ⟨fun i hi => ?_, by rw [hs]; exact i2, ?_⟩
      · cases i with
        | zero => rw [dv_zero]; exact h2
        | succ i => rw [hs]; exact i1 i (by omega)
      · rw [hs, Nat.pow_succ, ← Nat.mul_assoc, ← i3]; omega
    · have hz : tz m = 0 := by rw [tz, dif_neg (by omega), if_neg h2]
      rw [hz]
      refine ⟨fun i hi => by omega, by rw [dv_zero]; omega, by rw [dv_zero]; simp⟩
theorem tz_le {m : Nat} (h : 0 < m) (hm : m < 2 ^ 53) : tz m ≤ 53 := by
  obtain ⟨_, h2, h3⟩ := tz_spec m h
  rcases Nat.lt_or_ge 53 (tz m) with h4 | h4
  · have h5 : 2 ^ 53 ≤ 2 ^ tz m := Nat.pow_le_pow_right (by omega) (by omega)
    have h6 : 1 * 2 ^ tz m ≤ dv m (tz m) * 2 ^ tz m := Nat.mul_le_mul_right _ (by omega)
    omega
  · exact h4
def ez (e : Int) (i : Nat) : Int := e + i
set_option maxRecDepth 20000 in
set_option maxHeartbeats 6400000 in
theorem parts1 {h0 : Heap} {b m : Nat} {e0 : Int} (hm0 : 0 < m) (hm : m < 9007199254740992) (he : -100000 ≤ e0) (he2 : e0 ≤ 100000) (F : Step) (hFF : F = aexecP Try.prog (sO 60) (run Try.prog sO) loopω pt60 (lb60 0)) (t : Tm)
    (ht : forget [1, 2, 3, 4, 5, 6, 9, 10, 11, 12, 13, 14, 15, 16, 17, 18, 19, 20, 21, 22, 23, 24, 25, 26, 27, 28, 29, 30, 31, 32, 33, 34, 35, 36, 37, 38] t = [U b, unk, unk, unk, unk, unk, unk, .int .u64 (dv m (0) : Nat), .int .i64 (ez e0 (0)), unk, unk, unk, unk, unk, unk, unk, unk, unk, unk, unk, unk, unk, unk, unk, unk, unk, unk, unk, unk, unk, unk, unk, unk, unk, unk, unk, unk, unk, unk]) (hI0 : h0 = h0) :
    ∃ h' x28 x29 x30, loopω [1, 2, 3, 4, 5, 6, 9, 10, 11, 12, 13, 14, 15, 16, 17, 18, 19, 20, 21, 22, 23, 24, 25, 26, 27, 28, 29, 30, 31, 32, 33, 34, 35, 36, 37, 38] F t h0 = some (.exit 0, [U b, unk, unk, unk, unk, unk, unk, .int .u64 (dv m (tz m) : Nat), .int .i64 (ez e0 (tz m)), unk, unk, unk, unk, unk, unk, unk, unk, unk, unk, unk, unk, unk, unk, unk, unk, unk, unk, unk, x28, x29, x30, unk, unk, unk, unk, unk, unk, unk, unk], h') ∧ h' = h0 := by
  subst hFF
  suffices hs : ∃ e t' h', loopω [1, 2, 3, 4, 5, 6, 9, 10, 11, 12, 13, 14, 15, 16, 17, 18, 19, 20, 21, 22, 23, 24, 25, 26, 27, 28, 29, 30, 31, 32, 33, 34, 35, 36, 37, 38] (aexecP Try.prog (sO 60) (run Try.prog sO) loopω pt60 (lb60 0)) t h0 = some (e, t', h') ∧ (e = .exit 0 ∧ ∃ x28 x29 x30, t' = [U b, unk, unk, unk, unk, unk, unk, .int .u64 (dv m (tz m) : Nat), .int .i64 (ez e0 (tz m)), unk, unk, unk, unk, unk, unk, unk, unk, unk, unk, unk, unk, unk, unk, unk, unk, unk, unk, unk, x28, x29, x30, unk, unk, unk, unk, unk, unk, unk, unk] ∧ h' = h0) by
    obtain ⟨e, t', h', q1, rfl, x28, x29, x30, rfl, q2⟩ := hs
    exact ⟨h', x28, x29, x30, q1, q2⟩
  simp only [lb60, Try.f60, loopsOf, Option.getD_some, List.nil_append, List.append_nil, List.cons_append, List.getD_cons_zero, List.getD_cons_succ]
  refine loop_by (fun k t h' => ∃ (i : Nat), i + k = tz m ∧ forget [1, 2, 3, 4, 5, 6, 9, 10, 11, 12, 13, 14, 15, 16, 17, 18, 19, 20, 21, 22, 23, 24, 25, 26, 27, 28, 29, 30, 31, 32, 33, 34, 35, 36, 37, 38] t = [U b, unk, unk, unk, unk, unk, unk, .int .u64 (dv m (i) : Nat), .int .i64 (ez e0 (i)), unk, unk, unk, unk, unk, unk, unk, unk, unk, unk, unk, unk, unk, unk, unk, unk, unk, unk, unk, unk, unk, unk, unk, unk, unk, unk, unk, unk, unk, unk] ∧ h' = h0)
    (fun e t' h' => e = .exit 0 ∧ ∃ x28 x29 x30, t' = [U b, unk, unk, unk, unk, unk, unk, .int .u64 (dv m (tz m) : Nat), .int .i64 (ez e0 (tz m)), unk, unk, unk, unk, unk, unk, unk, unk, unk, unk, unk, unk, unk, unk, unk, unk, unk, unk, unk, x28, x29, x30, unk, unk, unk, unk, unk, unk, unk, unk] ∧ h' = h0) ?_ (tz m) _ _ ⟨0, by omega, ht, hI0⟩
  rintro k t h' ⟨i, hi, ht, hI⟩
  rw [ht]
  rcases Nat.lt_or_ge i (tz m) with h1 | h1
  · have htz := tz_le hm0 hm
    have hev := (tz_spec m hm0).1 i h1
    have hle := dv_le m i
    have hsc := dv_succ m i
    obtain ⟨q, hq⟩ : ∃ q, dv m i = q := ⟨_, rfl⟩
    obtain ⟨r, hr⟩ : ∃ r, dv m (i + 1) = r := ⟨_, rfl⟩
    rw [hq] at hev hle hsc
    obtain ⟨w1, w2⟩ := q2u (q := q) (r := r) (by rw [← hr]; exact hsc.symm) (by omega)
    have w3 : (q : Int).tmod 2 = 0 := by
      have : (q : Int).tmod 2 = ((q % 2 : Nat) : Int) := rfl
      rw [this, hev]; rfl
    have w3' : (q : Int) % 2 = 0 := by omega
    have w4 : IntKind.i64.wrap (ez e0 i + 1) = ez e0 (i + 1) := by rw [IntWalk.i64_in _ (by unfold ez; omega)]; unfold ez; omega
    generalize hez : ez e0 i = f at *
    subst hI
    rw [hq]
    simp (maxSteps := 2000000) -implicitDefEqProofs [px_skip, px_label, px_region, px_draw, qx_seq, qx_cond, px_block, px_loop, px_scope, px_exit, px_ret, seqK_normal, seqK_exit, seqK_ret, condK_true, condK_false, opsK_some, wK_true, wK_false, itK_some, aops_nil, aops_cons, lK_some, aK_some, hK_some, dwK_true, dwK_false, diK_some, dK_light, dK_alloc, dK_heavy, adraw_nil, adraw_cons, aop, cls, light, lightS, binE, aeq, intBin, goInt, pl_int, pl_bool, pl_ptr, pl_slice, aload, isAggT, aeval, tput, awanted, List.range_succ, fin, aresults, aresult, List.replicate, heavy, acallOp, aenter, ble_d, beq_d, firstRegion, readNames, Nxt, isAnc, readsOk, objEq_some, ibeq, w1, w2, w3, w3', w4, undef]
    exact ⟨k - 1, by omega, i + 1, by omega, by simp (maxSteps := 2000000) only [forget, List.set_cons_succ, List.set_cons_zero, hr]⟩
  · obtain rfl : i = tz m := by omega
    have hod := (tz_spec m hm0).2.1
    obtain ⟨q, hq⟩ : ∃ q, dv m (tz m) = q := ⟨_, rfl⟩
    rw [hq] at hod
    have w3 : (q : Int).tmod 2 = 1 := by
      have : (q : Int).tmod 2 = ((q % 2 : Nat) : Int) := rfl
      rw [this, hod]; rfl
    have w3' : (q : Int) % 2 = 1 := by omega
    rw [hq]
    simp (maxSteps := 2000000) -implicitDefEqProofs [px_skip, px_label, px_region, px_draw, qx_seq, qx_cond, px_block, px_loop, px_scope, px_exit, px_ret, seqK_normal, seqK_exit, seqK_ret, condK_true, condK_false, opsK_some, wK_true, wK_false, itK_some, aops_nil, aops_cons, lK_some, aK_some, hK_some, dwK_true, dwK_false, diK_some, dK_light, dK_alloc, dK_heavy, adraw_nil, adraw_cons, aop, cls, light, lightS, binE, aeq, intBin, goInt, pl_int, pl_bool, pl_ptr, pl_slice, aload, isAggT, aeval, tput, awanted, List.range_succ, fin, aresults, aresult, List.replicate, heavy, acallOp, aenter, ble_d, beq_d, firstRegion, readNames, Nxt, isAnc, readsOk, objEq_some, ibeq, w3, w3', undef]
    exact hI

def pm0 (s : Nat) : Nat := if s / 4503599627370496 = 0 then s % 4503599627370496 else s % 4503599627370496 + 4503599627370496
def pe0 (s : Nat) : Int := (if s / 4503599627370496 = 0 then 1 else (s / 4503599627370496 : Nat)) - 1075
def pmB (s : Nat) : Nat := if s = 0 then 0 else dv (pm0 s) (tz (pm0 s))
def peB (s : Nat) : Int := if s = 0 then 0 else pe0 s + tz (pm0 s)
theorem pm0_pos {s : Nat} (h : 0 < s) (hs : s < 9218868437227405312) : 0 < pm0 s ∧ pm0 s < 9007199254740992 ∧ -1074 ≤ pe0 s ∧ pe0 s ≤ 971 := by
  unfold pm0 pe0; split <;> omega
/-- What Parts tells. -/
theorem parts_val {s : Nat} (hs : s < 9218868437227405312) : Vr s = pmB s * 2 ^ (peB s + 1074).toNat ∧ (0 < s → -1074 ≤ peB s) ∧ pmB s < 9007199254740992 ∧ -1074 ≤ peB s ∧ peB s ≤ 1100 ∧ (0 < s → 0 < pmB s) := by
  rcases Nat.eq_zero_or_pos s with h0 | h0
  · subst h0
    have h1 : pmB 0 = 0 := rfl
    have h2 : peB 0 = 0 := rfl
    have h3 : Vr 0 = 0 := by unfold Vr; rw [if_pos (by omega)]
    rw [h1, h2, h3]
    exact ⟨by rw [Nat.zero_mul], fun _ => by omega, by omega, by omega, by omega, fun h => by omega⟩
  · obtain ⟨a1, a2, a3, a4⟩ := pm0_pos h0 hs
    obtain ⟨_, t2, t3⟩ := tz_spec _ a1
    have t4 := tz_le a1 a2
    have e1 : pmB s = dv (pm0 s) (tz (pm0 s)) := by unfold pmB; rw [if_neg (by omega)]
    have e2 : peB s = pe0 s + tz (pm0 s) := by unfold peB; rw [if_neg (by omega)]
    have hv : Vr s = pm0 s * 2 ^ (pe0 s + 1074).toNat := by
      unfold Vr pm0 pe0
      rw [show (2 : Nat) ^ 52 = 4503599627370496 from rfl]
      by_cases h : s < 4503599627370496
      · rw [if_pos h, if_pos (by omega), if_pos (by omega)]
        rw [show (((1 : Nat) : Int) - 1075 + 1074).toNat = 0 by decide, Nat.pow_zero, Nat.mul_one, Nat.mod_eq_of_lt h]
      · rw [if_neg h, if_neg (by omega), if_neg (by omega), Nat.add_comm]
        congr 2
        omega
    have hle := dv_le (pm0 s) (tz (pm0 s))
    rw [e1, e2]
    refine ⟨?_, fun _ => by omega, by omega, by omega, by omega, fun _ => by omega⟩
    rw [hv]
    conv => lhs; rw [t3]
    rw [Nat.mul_assoc, ← Nat.pow_add]
    congr 2
    omega
theorem parts_run {h : Heap} {b : Nat} (hb : b < 18446744073709551616) (hs : b % 9223372036854775808 < 9218868437227405312) :
    run Try.prog sO 60 [U b] h = some (.tuple #[.bool (decide (9223372036854775808 ≤ b)), U (pmB (b % 9223372036854775808)), .int .i64 (peB (b % 9223372036854775808)), .int .i64 0], h) := by
  suffices hx : ∃ y, fin Try.prog Try.f60 (aexecP Try.prog (sO 60) (run Try.prog sO) loopω pt60 (Try.f60.body.getD .skip) ([U b] ++ List.replicate (Try.f60.ntmps - 1) undef) h) = some y ∧ y.1 = .tuple #[.bool (decide (9223372036854775808 ≤ b)), U (pmB (b % 9223372036854775808)), .int .i64 (peB (b % 9223372036854775808)), .int .i64 0] ∧ y.2 = h by
    obtain ⟨⟨y1, y2⟩, hy, rfl, rfl⟩ := hx
    exact run_finP pt60 Try.func60 rfl planned60 hy
  have e1 := size_run sO b h
  generalize hss : b % 9223372036854775808 = s at *
  have c1 : ¬ 9218868437227405312 ≤ s := by omega
  have c1' : ¬ (9218868437227405312 : Int) ≤ (s : Int) := by omega
  have hbi : ((9223372036854775808 : Int) ≤ (b : Int)) = (9223372036854775808 ≤ b) := by rw [eq_iff_iff]; omega
  rcases Nat.eq_zero_or_pos s with h0 | h0
  · have p1 : pmB s = 0 := by rw [h0]; rfl
    have p2 : peB s = 0 := by rw [h0]; rfl
    rw [p1, p2]
    subst h0
    simp (maxSteps := 2000000) -implicitDefEqProofs [Try.f60, px_skip, px_label, px_region, px_draw, qx_seq, qx_cond, px_block, px_loop, px_scope, px_exit, px_ret, seqK_normal, seqK_exit, seqK_ret, condK_true, condK_false, opsK_some, wK_true, wK_false, itK_some, aops_nil, aops_cons, lK_some, aK_some, hK_some, dwK_true, dwK_false, diK_some, dK_light, dK_alloc, dK_heavy, adraw_nil, adraw_cons, aop, cls, light, lightS, binE, aeq, intBin, goInt, pl_int, pl_bool, pl_ptr, pl_slice, aload, isAggT, aeval, tput, awanted, List.range_succ, fin, aresults, aresult, List.replicate, heavy, acallOp, aenter, ble_d, beq_d, firstRegion, readNames, Nxt, isAnc, readsOk, objEq_some, en55, e1, ibeq, hbi]
  · obtain ⟨a1, a2, a3, a4⟩ := pm0_pos h0 hs
    have q1 : pmB s = dv (pm0 s) (tz (pm0 s)) := by unfold pmB; rw [if_neg (by omega)]
    have q2 : peB s = ez (pe0 s) (tz (pm0 s)) := by unfold peB ez; rw [if_neg (by omega)]
    have c2 : ¬ s = 0 := by omega
    obtain ⟨x, hx⟩ : ∃ x, s % 4503599627370496 = x := ⟨_, rfl⟩
    obtain ⟨y, hy⟩ : ∃ x, s / 4503599627370496 = x := ⟨_, rfl⟩
    have w1 : (s : Int).tmod 4503599627370496 = (x : Int) := by rw [← hx]; rfl
    have w1' : (s : Int) % 4503599627370496 = (x : Int) := by omega
    have w2 : (s : Int).fdiv 4503599627370496 = (y : Int) := by rw [← hy]; exact fdivn s 52
    have w2' : (s : Int).fdiv (2 ^ 52) = (y : Int) := by rw [← hy]; exact fdivn s 52
    have w3 := wi64 (a := y) rfl (by omega)
    have hd0 := dv_zero (pm0 s)
    have hz0 : ez (pe0 s) 0 = pe0 s := by unfold ez; omega
    rw [q1, q2]
    by_cases c3 : y = 0
    · have r1 : pm0 s = x := by unfold pm0; rw [hy, hx, if_pos c3]
      have r2 : pe0 s = -1074 := by unfold pe0; rw [hy, if_pos c3]; omega
      have w4 : IntKind.i64.wrap (1 - 1075) = -1074 := rfl
      have w5 : IntKind.i64.wrap (-1074) = -1074 := rfl
      have w6 : IntKind.i64.wrap 0 = 0 := rfl
      subst c3
      simp (maxSteps := 2000000) -implicitDefEqProofs [Try.f60, px_skip, px_label, px_region, px_draw, qx_seq, qx_cond, px_block, px_loop, px_scope, px_exit, px_ret, seqK_normal, seqK_exit, seqK_ret, condK_true, condK_false, opsK_some, wK_true, wK_false, itK_some, aops_nil, aops_cons, lK_some, aK_some, hK_some, dwK_true, dwK_false, diK_some, dK_light, dK_alloc, dK_heavy, adraw_nil, adraw_cons, aop, cls, light, lightS, binE, aeq, intBin, goInt, pl_int, pl_bool, pl_ptr, pl_slice, aload, isAggT, aeval, tput, awanted, List.range_succ, fin, aresults, aresult, List.replicate, heavy, acallOp, aenter, ble_d, beq_d, firstRegion, readNames, Nxt, isAnc, readsOk, objEq_some, en55, e1, ibeq, hbi, c1, c1', c2, w1, w1', w2, w2', w3, w4, w5, w6, shr37, cv37_3, sO60]
      generalize hl : loopω _ _ _ _ = r
      obtain ⟨h3, x28, x29, x30, hx', hh⟩ := useX3 hl (parts1 (h0 := h) (b := b) (m := pm0 s) (e0 := pe0 s) a1 a2 (by omega) (by omega) _ (by kernel_rfl) _ (by rw [hd0, hz0, r1, r2]; kernel_rfl) rfl)
      subst hx'
      subst hh
      clear hl
      generalize dv (pm0 s) (tz (pm0 s)) = u at *
      generalize ez (pe0 s) (tz (pm0 s)) = f at *
      simp (maxSteps := 2000000) -implicitDefEqProofs [px_skip, px_label, px_region, px_draw, qx_seq, qx_cond, px_block, px_loop, px_scope, px_exit, px_ret, seqK_normal, seqK_exit, seqK_ret, condK_true, condK_false, opsK_some, wK_true, wK_false, itK_some, aops_nil, aops_cons, lK_some, aK_some, hK_some, dwK_true, dwK_false, diK_some, dK_light, dK_alloc, dK_heavy, adraw_nil, adraw_cons, aop, cls, light, lightS, binE, aeq, intBin, goInt, pl_int, pl_bool, pl_ptr, pl_slice, aload, isAggT, aeval, tput, awanted, List.range_succ, fin, aresults, aresult, List.replicate, heavy, acallOp, aenter, ble_d, beq_d, firstRegion, readNames, Nxt, isAnc, readsOk, objEq_some, hbi]
    · have r1 : pm0 s = x + 4503599627370496 := by unfold pm0; rw [hy, hx, if_neg c3]
      have r2 : pe0 s = (y : Int) - 1075 := by unfold pe0; rw [hy, if_neg c3]
      have w4 : IntKind.i64.wrap ((y : Int) - 1075) = pe0 s := by rw [IntWalk.i64_in _ (by omega)]; omega
      have w5 : IntKind.u64.wrap ((x : Int) + 4503599627370496) = ((pm0 s : Nat) : Int) := by
        have := @au64 x 4503599627370496 (pm0 s) r1.symm (by omega)
        exact this
      simp (maxSteps := 2000000) -implicitDefEqProofs [Try.f60, px_skip, px_label, px_region, px_draw, qx_seq, qx_cond, px_block, px_loop, px_scope, px_exit, px_ret, seqK_normal, seqK_exit, seqK_ret, condK_true, condK_false, opsK_some, wK_true, wK_false, itK_some, aops_nil, aops_cons, lK_some, aK_some, hK_some, dwK_true, dwK_false, diK_some, dK_light, dK_alloc, dK_heavy, adraw_nil, adraw_cons, aop, cls, light, lightS, binE, aeq, intBin, goInt, pl_int, pl_bool, pl_ptr, pl_slice, aload, isAggT, aeval, tput, awanted, List.range_succ, fin, aresults, aresult, List.replicate, heavy, acallOp, aenter, ble_d, beq_d, firstRegion, readNames, Nxt, isAnc, readsOk, objEq_some, en55, e1, ibeq, hbi, c1, c1', c2, c3, w1, w1', w2, w2', w3, w4, w5, shr37, cv37_3, sO60]
      generalize hl : loopω _ _ _ _ = r
      obtain ⟨h3, x28, x29, x30, hx', hh⟩ := useX3 hl (parts1 (h0 := h) (b := b) (m := pm0 s) (e0 := pe0 s) a1 a2 (by omega) (by omega) _ (by kernel_rfl) _ (by rw [hd0, hz0]; kernel_rfl) rfl)
      subst hx'
      subst hh
      clear hl
      generalize dv (pm0 s) (tz (pm0 s)) = u at *
      generalize ez (pe0 s) (tz (pm0 s)) = f at *
      simp (maxSteps := 2000000) -implicitDefEqProofs [px_skip, px_label, px_region, px_draw, qx_seq, qx_cond, px_block, px_loop, px_scope, px_exit, px_ret, seqK_normal, seqK_exit, seqK_ret, condK_true, condK_false, opsK_some, wK_true, wK_false, itK_some, aops_nil, aops_cons, lK_some, aK_some, hK_some, dwK_true, dwK_false, diK_some, dK_light, dK_alloc, dK_heavy, adraw_nil, adraw_cons, aop, cls, light, lightS, binE, aeq, intBin, goInt, pl_int, pl_bool, pl_ptr, pl_slice, aload, isAggT, aeval, tput, awanted, List.range_succ, fin, aresults, aresult, List.replicate, heavy, acallOp, aenter, ble_d, beq_d, firstRegion, readNames, Nxt, isAnc, readsOk, objEq_some, hbi]
end Go.Proofs.Ytmnkmdfladbgdaa.Od
