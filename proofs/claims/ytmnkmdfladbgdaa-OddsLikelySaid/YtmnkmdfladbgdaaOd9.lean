/- Odds: the loops of the law OddsLikely. -/
import Derived.Test.YtmnkmdfladbgdaaOd8
set_option linter.unusedVariables false
set_option linter.unusedSimpArgs false
namespace Go.Proofs.Ytmnkmdfladbgdaa.Od
open Go Go.Proofs Go.RowKit Go.Proofs.YtmnkmdfladbgdaaAI Go.Proofs.YtmnkmdfladbgdaaFl Go.Proofs.YtmnkmdfladbgdaaRnd

theorem pos_ge {a : Nat} (ha : Pos a) : (Ieee.double.order a 0 == some .gt || Ieee.double.order a 0 == some .eq) = true := by
  rw [pos_gt ha (by unfold Pos; omega), pos_eq ha (by unfold Pos; omega)]
  rcases Nat.eq_zero_or_pos a with h | h <;> simp [h]
theorem gt_worth {x y : Nat} (hx : x < 18446744073709551616) (hy : y < 18446744073709551616) (h1 : (Ieee.double.order x y == some .gt) = true) (h2 : (Ieee.double.order x 0 == some .gt) = true) : worthB (oneB y) ≤ worthB (oneB x) := by
  rw [fgt x y hx hy] at h1
  rw [fgt x 0 hx (by omega)] at h2
  simp only [Bool.and_eq_true, Bool.not_eq_true', decide_eq_true_eq] at h1 h2
  obtain ⟨⟨nx, ny⟩, hs⟩ := h1
  have hp := h2.2
  have s0 : sv 0 = 0 := rfl
  rw [s0] at hp
  have e1 : oneB x = x := by unfold oneB; rw [nx]; rfl
  have e2 : oneB y = y := by unfold oneB; rw [ny]; rfl
  rw [e1, e2]
  have mx : ¬ 9218868437227405312 < x % 9223372036854775808 := by simpa [isN] using nx
  have my : ¬ 9218868437227405312 < y % 9223372036854775808 := by simpa [isN] using ny
  unfold sv at hs hp
  unfold worthB key
  rw [if_neg mx, if_neg my]
  have hx' : ¬ 9223372036854775808 ≤ x := fun p1 => by rw [if_pos p1] at hp; omega
  rw [if_neg hx'] at hs hp
  rw [if_neg hx']
  rw [if_pos (show 9218868437227405314 < 9218868437227405312 + x + 2 by omega)]
  by_cases p2 : 9223372036854775808 ≤ y
  · rw [if_pos p2, if_neg (by omega)]; omega
  · rw [if_neg p2] at hs
    rw [if_neg p2]
    split <;> omega
theorem sl_u64_2 {h : Heap} {v : Value} {k : Nat} {l : List Nat} (hs : Sl h v 1 k (us l)) {i j : Nat} (hi : i < k) (hj : j < k) :
    ∃ a n c e s gr ro, v = .slice (some a) k n ∧ h.get a.block = some (.cells c e s gr ro) ∧ c[a.off + i]? = some (.int .u64 (l.getD i 0 : Nat)) ∧ c[a.off + j]? = some (.int .u64 (l.getD j 0 : Nat)) := by
  obtain ⟨a, n, c, e, s, gr, ro, rfl, hg, h1⟩ := sl_u64 hs hi
  obtain ⟨a', n', c', e', s', gr', ro', eb, hg', h2⟩ := sl_u64 hs hj
  cases eb
  rw [hg] at hg'
  cases hg'
  exact ⟨a, n, c, e, s, gr, ro, rfl, hg, h1, h2⟩
theorem wt_at {ws : List Nat} {turn : Int} {i : Nat} (h0 : ws.length ≠ 0) (h1 : 0 ≤ turn) (hi : i < ws.length) : wt ws turn i = worthB (oneB (ws.getD ((turn.toNat % ws.length + i) % ws.length) 0)) := by
  unfold wt atB
  rw [if_neg h0, if_neg (by omega), if_neg (by omega), Int.toNat_natCast, Nat.mod_eq_of_lt hi]
theorem ix_law {turn : Int} {n i : Nat} (h1 : 0 ≤ turn) (hn : n ≤ 2 ^ 47) (hi : i < n) :
    IntKind.i64.wrap (((turn.toNat % n : Nat) : Int) + (i : Int)) = ((turn.toNat % n + i : Nat) : Int) ∧ ((turn.toNat % n + i : Nat) : Int).tmod n = (((turn.toNat % n + i) % n : Nat) : Int) := by
  obtain ⟨_, _, e3, e4⟩ := @at_ix turn i n h1 (by omega) hn (by omega)
  rw [Int.toNat_natCast, Nat.mod_eq_of_lt hi] at e3 e4
  exact ⟨e3, e4⟩

set_option maxRecDepth 20000 in
set_option maxHeartbeats 6400000 in
theorem lk1 {h0 : Heap} {va : Option Addr} {vc m n k0 : Nat} {ws : List Nat} (turn : Int) (hn : n ≤ 4096) (hw : W64 ws) (hg : h0.get m = some (.cells (fl (sharesL ws turn n)) 34 1 false false)) (F : Step) (hFF : F = aexecP Try.prog (sO 6) (run Try.prog sO) loopω pt6 (lb6 0)) (t : Tm)
    (ht : forget [3, 4, 5, 6, 8, 9, 10, 11, 12, 13, 14, 15, 16, 17, 18, 19, 20, 21, 22, 23, 24, 25, 26, 27, 28, 29, 30, 31, 32, 33, 34, 35, 36, 37, 38, 39, 40, 41, 42, 43, 44, 45, 48, 49, 50, 51, 52, 53, 54, 55, 56, 57, 58, 59, 60, 61, 62, 63, 64, 65, 66, 67, 68, 69, 70, 71, 72, 73, 74, 75, 76, 77, 78, 79, 80, 81, 82, 83, 84, 85, 86, 87, 88, 89, 90, 91, 92, 93, 94, 95, 96, 97, 98, 99, 100, 101, 102, 103, 104, 105, 106, 107, 108, 109, 110, 111, 112, 113, 114, 115, 116, 117, 118, 119, 120, 121, 122, 123, 124, 125, 126, 127, 128, 129, 130, 131, 132, 133, 134, 135, 136, 137, 138, 139, 140, 141, 142, 143, 144] t = [.slice va k0 vc, .int .i64 turn, .int .i64 n, unk, unk, unk, unk, .slice (some ⟨m, 0, none⟩) n n, unk, unk, unk, unk, unk, unk, unk, unk, unk, unk, unk, unk, unk, unk, unk, unk, unk, unk, unk, unk, unk, unk, unk, unk, unk, unk, unk, unk, unk, unk, unk, unk, unk, unk, unk, unk, unk, unk, .int .i64 n, .int .i64 (0 : Nat), unk, unk, unk, unk, unk, unk, unk, unk, unk, unk, unk, unk, unk, unk, unk, unk, unk, unk, unk, unk, unk, unk, unk, unk, unk, unk, unk, unk, unk, unk, unk, unk, unk, unk, unk, unk, unk, unk, unk, unk, unk, unk, unk, unk, unk, unk, unk, unk, unk, unk, unk, unk, unk, unk, unk, unk, unk, unk, unk, unk, unk, unk, unk, unk, unk, unk, unk, unk, unk, unk, unk, unk, unk, unk, unk, unk, unk, unk, unk, unk, unk, unk, unk, unk, unk, unk, unk, unk, unk, unk, unk, unk, unk, unk, unk, unk, unk]) (hI0 : h0 = h0) :
    ∃ h' x48, loopω [3, 4, 5, 6, 8, 9, 10, 11, 12, 13, 14, 15, 16, 17, 18, 19, 20, 21, 22, 23, 24, 25, 26, 27, 28, 29, 30, 31, 32, 33, 34, 35, 36, 37, 38, 39, 40, 41, 42, 43, 44, 45, 48, 49, 50, 51, 52, 53, 54, 55, 56, 57, 58, 59, 60, 61, 62, 63, 64, 65, 66, 67, 68, 69, 70, 71, 72, 73, 74, 75, 76, 77, 78, 79, 80, 81, 82, 83, 84, 85, 86, 87, 88, 89, 90, 91, 92, 93, 94, 95, 96, 97, 98, 99, 100, 101, 102, 103, 104, 105, 106, 107, 108, 109, 110, 111, 112, 113, 114, 115, 116, 117, 118, 119, 120, 121, 122, 123, 124, 125, 126, 127, 128, 129, 130, 131, 132, 133, 134, 135, 136, 137, 138, 139, 140, 141, 142, 143, 144] F t h0 = some (.exit 0, [.slice va k0 vc, .int .i64 turn, .int .i64 n, unk, unk, unk, unk, .slice (some ⟨m, 0, none⟩) n n, unk, unk, unk, unk, unk, unk, unk, unk, unk, unk, unk, unk, unk, unk, unk, unk, unk, unk, unk, unk, unk, unk, unk, unk, unk, unk, unk, unk, unk, unk, unk, unk, unk, unk, unk, unk, unk, unk, .int .i64 n, .int .i64 (n : Nat), x48, unk, unk, unk, unk, unk, unk, unk, unk, unk, unk, unk, unk, unk, unk, unk, unk, unk, unk, unk, unk, unk, unk, unk, unk, unk, unk, unk, unk, unk, unk, unk, unk, unk, unk, unk, unk, unk, unk, unk, unk, unk, unk, unk, unk, unk, unk, unk, unk, unk, unk, unk, unk, unk, unk, unk, unk, unk, unk, unk, unk, unk, unk, unk, unk, unk, unk, unk, unk, unk, unk, unk, unk, unk, unk, unk, unk, unk, unk, unk, unk, unk, unk, unk, unk, unk, unk, unk, unk, unk, unk, unk, unk, unk, unk, unk, unk], h') ∧ h' = h0 := by
  subst hFF
  suffices hs : ∃ e t' h', loopω [3, 4, 5, 6, 8, 9, 10, 11, 12, 13, 14, 15, 16, 17, 18, 19, 20, 21, 22, 23, 24, 25, 26, 27, 28, 29, 30, 31, 32, 33, 34, 35, 36, 37, 38, 39, 40, 41, 42, 43, 44, 45, 48, 49, 50, 51, 52, 53, 54, 55, 56, 57, 58, 59, 60, 61, 62, 63, 64, 65, 66, 67, 68, 69, 70, 71, 72, 73, 74, 75, 76, 77, 78, 79, 80, 81, 82, 83, 84, 85, 86, 87, 88, 89, 90, 91, 92, 93, 94, 95, 96, 97, 98, 99, 100, 101, 102, 103, 104, 105, 106, 107, 108, 109, 110, 111, 112, 113, 114, 115, 116, 117, 118, 119, 120, 121, 122, 123, 124, 125, 126, 127, 128, 129, 130, 131, 132, 133, 134, 135, 136, 137, 138, 139, 140, 141, 142, 143, 144] (aexecP Try.prog (sO 6) (run Try.prog sO) loopω pt6 (lb6 0)) t h0 = some (e, t', h') ∧ (e = .exit 0 ∧ (∃ x48, t' = [.slice va k0 vc, .int .i64 turn, .int .i64 n, unk, unk, unk, unk, .slice (some ⟨m, 0, none⟩) n n, unk, unk, unk, unk, unk, unk, unk, unk, unk, unk, unk, unk, unk, unk, unk, unk, unk, unk, unk, unk, unk, unk, unk, unk, unk, unk, unk, unk, unk, unk, unk, unk, unk, unk, unk, unk, unk, unk, .int .i64 n, .int .i64 (n : Nat), x48, unk, unk, unk, unk, unk, unk, unk, unk, unk, unk, unk, unk, unk, unk, unk, unk, unk, unk, unk, unk, unk, unk, unk, unk, unk, unk, unk, unk, unk, unk, unk, unk, unk, unk, unk, unk, unk, unk, unk, unk, unk, unk, unk, unk, unk, unk, unk, unk, unk, unk, unk, unk, unk, unk, unk, unk, unk, unk, unk, unk, unk, unk, unk, unk, unk, unk, unk, unk, unk, unk, unk, unk, unk, unk, unk, unk, unk, unk, unk, unk, unk, unk, unk, unk, unk, unk, unk, unk, unk, unk, unk, unk, unk, unk, unk, unk]) ∧ h' = h0) by
    obtain ⟨e, t', h', q1, rfl, ⟨x48, rfl⟩, q2⟩ := hs
    exact ⟨h', x48, q1, q2⟩
  simp only [lb6, Try.f6, loopsOf, Option.getD_some, List.nil_append, List.append_nil, List.cons_append, List.getD_cons_zero, List.getD_cons_succ]
  refine loop_by (fun k t h' => ∃ i : Nat, i + k = n ∧ forget [3, 4, 5, 6, 8, 9, 10, 11, 12, 13, 14, 15, 16, 17, 18, 19, 20, 21, 22, 23, 24, 25, 26, 27, 28, 29, 30, 31, 32, 33, 34, 35, 36, 37, 38, 39, 40, 41, 42, 43, 44, 45, 48, 49, 50, 51, 52, 53, 54, 55, 56, 57, 58, 59, 60, 61, 62, 63, 64, 65, 66, 67, 68, 69, 70, 71, 72, 73, 74, 75, 76, 77, 78, 79, 80, 81, 82, 83, 84, 85, 86, 87, 88, 89, 90, 91, 92, 93, 94, 95, 96, 97, 98, 99, 100, 101, 102, 103, 104, 105, 106, 107, 108, 109, 110, 111, 112, 113, 114, 115, 116, 117, 118, 119, 120, 121, 122, 123, 124, 125, 126, 127, 128, 129, 130, 131, 132, 133, 134, 135, 136, 137, 138, 139, 140, 141, 142, 143, 144] t = [.slice va k0 vc, .int .i64 turn, .int .i64 n, unk, unk, unk, unk, .slice (some ⟨m, 0, none⟩) n n, unk, unk, unk, unk, unk, unk, unk, unk, unk, unk, unk, unk, unk, unk, unk, unk, unk, unk, unk, unk, unk, unk, unk, unk, unk, unk, unk, unk, unk, unk, unk, unk, unk, unk, unk, unk, unk, unk, .int .i64 n, .int .i64 (i : Nat), unk, unk, unk, unk, unk, unk, unk, unk, unk, unk, unk, unk, unk, unk, unk, unk, unk, unk, unk, unk, unk, unk, unk, unk, unk, unk, unk, unk, unk, unk, unk, unk, unk, unk, unk, unk, unk, unk, unk, unk, unk, unk, unk, unk, unk, unk, unk, unk, unk, unk, unk, unk, unk, unk, unk, unk, unk, unk, unk, unk, unk, unk, unk, unk, unk, unk, unk, unk, unk, unk, unk, unk, unk, unk, unk, unk, unk, unk, unk, unk, unk, unk, unk, unk, unk, unk, unk, unk, unk, unk, unk, unk, unk, unk, unk, unk, unk] ∧ h' = h0)
    (fun e t' h' => e = .exit 0 ∧ (∃ x48, t' = [.slice va k0 vc, .int .i64 turn, .int .i64 n, unk, unk, unk, unk, .slice (some ⟨m, 0, none⟩) n n, unk, unk, unk, unk, unk, unk, unk, unk, unk, unk, unk, unk, unk, unk, unk, unk, unk, unk, unk, unk, unk, unk, unk, unk, unk, unk, unk, unk, unk, unk, unk, unk, unk, unk, unk, unk, unk, unk, .int .i64 n, .int .i64 (n : Nat), x48, unk, unk, unk, unk, unk, unk, unk, unk, unk, unk, unk, unk, unk, unk, unk, unk, unk, unk, unk, unk, unk, unk, unk, unk, unk, unk, unk, unk, unk, unk, unk, unk, unk, unk, unk, unk, unk, unk, unk, unk, unk, unk, unk, unk, unk, unk, unk, unk, unk, unk, unk, unk, unk, unk, unk, unk, unk, unk, unk, unk, unk, unk, unk, unk, unk, unk, unk, unk, unk, unk, unk, unk, unk, unk, unk, unk, unk, unk, unk, unk, unk, unk, unk, unk, unk, unk, unk, unk, unk, unk, unk, unk, unk, unk, unk, unk]) ∧ h' = h0) ?_ (n) _ _ ⟨0, by omega, ht, hI0⟩
  rintro k t h' ⟨i, hi, ht, hI⟩
  rw [ht]
  rcases Nat.lt_or_ge i (n) with h1 | h1
  · have hinc := @inc64 i (by omega)
    have hcs := cast_succ i
    subst hI
    have hsl := sharesL_len ws turn n
    have hLi := fl_g (L := sharesL ws turn n) (i := i) (by omega)
    rw [sharesL_get h1] at hLi
    have hle := shB_le hw turn h1 hn
    generalize shB ws turn n i = r at *
    have rp : Pos r := by unfold Pos; omega
    have b1 := pos_ge rp
    have b2 : (Ieee.double.order r 4607182418800017408 == some .gt) = false := by rw [pos_gt rp (by unfold Pos; omega)]; exact decide_eq_false (by omega)
    have b3 : decide (9223372036854775808 ≤ r) = false := decide_eq_false (by omega)
    have hq1 := fun t x y hx hy => fgeq t x y r 0 hx hy rp.lt (by omega)
    have hq2 := fun t x y hx hy => fgtr t x y r 4607182418800017408 hx hy rp.lt (by omega)
    have hsb := signbit_run sO r rp.lt h'
    rw [b3] at hsb
    generalize sharesL ws turn n = L at *
    simp (maxSteps := 2000000) -implicitDefEqProofs [px_skip, px_label, px_region, px_draw, qx_seq, qx_cond, px_block, px_loop, px_scope, px_exit, px_ret, seqK_normal, seqK_exit, seqK_ret, condK_true, condK_false, opsK_some, wK_true, wK_false, itK_some, aops_nil, aops_cons, lK_some, aK_some, hK_some, dwK_true, dwK_false, diK_some, dK_light, dK_alloc, dK_heavy, adraw_nil, adraw_cons, aop, cls, light, lightS, binE, aeq, intBin, goInt, pl_int, pl_bool, pl_ptr, pl_slice, aload, isAggT, aeval, tput, awanted, List.range_succ, fin, aresults, aresult, List.replicate, heavy, acallOp, aenter, ble_d, beq_d, firstRegion, readNames, Nxt, isAnc, readsOk, objEq_some, h1, hLi, aindexAddr, sz34, Try.underlying24, hg, hq1, hq2, b1, b2, en22, hsb, pOne, pZero, undef, hinc]
    exact ⟨k - 1, by omega, i + 1, by omega, by simp (maxSteps := 2000000) only [forget, List.set_cons_succ, List.set_cons_zero, hcs]⟩
  · obtain rfl : i = n := by omega
    simp (maxSteps := 2000000) -implicitDefEqProofs [px_skip, px_label, px_region, px_draw, qx_seq, qx_cond, px_block, px_loop, px_scope, px_exit, px_ret, seqK_normal, seqK_exit, seqK_ret, condK_true, condK_false, opsK_some, wK_true, wK_false, itK_some, aops_nil, aops_cons, lK_some, aK_some, hK_some, dwK_true, dwK_false, diK_some, dK_light, dK_alloc, dK_heavy, adraw_nil, adraw_cons, aop, cls, light, lightS, binE, aeq, intBin, goInt, pl_int, pl_bool, pl_ptr, pl_slice, aload, isAggT, aeval, tput, awanted, List.range_succ, fin, aresults, aresult, List.replicate, heavy, acallOp, aenter, ble_d, beq_d, firstRegion, readNames, Nxt, isAnc, readsOk, objEq_some]
    exact hI
set_option maxRecDepth 20000 in
set_option maxHeartbeats 6400000 in
theorem lk3 {h0 : Heap} {va : Option Addr} {vc m n k0 b p : Nat} {ws : List Nat} (turn : Int) (ht0 : 0 ≤ turn) (hn : n ≤ 4096) (hw : W64 ws) (hk0 : ws.length = k0) (hk : k0 ≤ 2 ^ 47) (hb : b = min (min n k0) 50) (hp : p < b) (hv : Sl h0 (.slice va k0 vc) 1 k0 (us ws)) (hg : h0.get m = some (.cells (fl (sharesL ws turn n)) 34 1 false false)) (F : Step) (hFF : F = aexecP Try.prog (sO 6) (run Try.prog sO) loopω pt6 (lb6 2)) (t : Tm)
    (ht : forget [3, 4, 5, 6, 8, 9, 12, 13, 14, 15, 16, 17, 18, 19, 20, 21, 22, 23, 24, 25, 26, 27, 28, 29, 30, 31, 32, 33, 34, 35, 36, 37, 38, 39, 40, 41, 42, 43, 44, 45, 46, 47, 48, 49, 50, 51, 52, 53, 54, 55, 56, 57, 58, 59, 60, 61, 62, 63, 64, 65, 66, 67, 68, 69, 70, 71, 72, 73, 74, 75, 76, 77, 78, 79, 80, 81, 82, 83, 84, 85, 86, 87, 88, 89, 90, 91, 92, 93, 94, 95, 96, 97, 98, 99, 100, 101, 102, 103, 104, 105, 106, 107, 108, 109, 110, 111, 112, 113, 114, 115, 116, 117, 118, 119, 120, 121, 122, 123, 124, 125, 126, 127, 128, 129, 130, 131, 132, 133, 134, 135, 136, 137, 138, 139, 140, 141, 142, 143, 144] t = [.slice va k0 vc, .int .i64 turn, .int .i64 n, unk, unk, unk, unk, .slice (some ⟨m, 0, none⟩) n n, unk, unk, .int .i64 (p : Nat), .int .i64 (0 : Nat), unk, unk, unk, unk, unk, unk, unk, unk, unk, unk, unk, unk, unk, unk, unk, unk, unk, unk, unk, unk, unk, unk, unk, unk, unk, unk, unk, unk, unk, unk, unk, unk, unk, unk, unk, unk, unk, unk, unk, unk, unk, unk, unk, unk, unk, unk, unk, unk, unk, unk, unk, unk, unk, unk, unk, unk, unk, unk, unk, unk, unk, unk, unk, unk, unk, unk, unk, unk, unk, unk, unk, unk, unk, unk, unk, unk, unk, unk, unk, unk, unk, unk, unk, unk, unk, unk, unk, unk, unk, unk, unk, unk, unk, unk, unk, unk, unk, unk, unk, unk, unk, unk, unk, unk, unk, unk, unk, unk, unk, unk, unk, unk, unk, unk, unk, unk, unk, unk, unk, unk, unk, unk, unk, unk, unk, unk, unk, unk, unk, unk, unk, unk, unk]) (hI0 : h0 = h0) :
    ∃ h' x86 x87 x88 x89 x90 x91 x92 x93 x94 x95 x96 x97 x98, loopω [3, 4, 5, 6, 8, 9, 12, 13, 14, 15, 16, 17, 18, 19, 20, 21, 22, 23, 24, 25, 26, 27, 28, 29, 30, 31, 32, 33, 34, 35, 36, 37, 38, 39, 40, 41, 42, 43, 44, 45, 46, 47, 48, 49, 50, 51, 52, 53, 54, 55, 56, 57, 58, 59, 60, 61, 62, 63, 64, 65, 66, 67, 68, 69, 70, 71, 72, 73, 74, 75, 76, 77, 78, 79, 80, 81, 82, 83, 84, 85, 86, 87, 88, 89, 90, 91, 92, 93, 94, 95, 96, 97, 98, 99, 100, 101, 102, 103, 104, 105, 106, 107, 108, 109, 110, 111, 112, 113, 114, 115, 116, 117, 118, 119, 120, 121, 122, 123, 124, 125, 126, 127, 128, 129, 130, 131, 132, 133, 134, 135, 136, 137, 138, 139, 140, 141, 142, 143, 144] F t h0 = some (.exit 4, [.slice va k0 vc, .int .i64 turn, .int .i64 n, unk, unk, unk, unk, .slice (some ⟨m, 0, none⟩) n n, unk, unk, .int .i64 (p : Nat), .int .i64 (b : Nat), unk, unk, unk, unk, unk, unk, unk, unk, unk, unk, unk, unk, unk, unk, unk, unk, unk, unk, unk, unk, unk, unk, unk, unk, unk, unk, unk, unk, unk, unk, unk, unk, unk, unk, unk, unk, unk, unk, unk, unk, unk, unk, unk, unk, unk, unk, unk, unk, unk, unk, unk, unk, unk, unk, unk, unk, unk, unk, unk, unk, unk, unk, unk, unk, unk, unk, unk, unk, unk, unk, unk, unk, unk, unk, x86, x87, x88, x89, x90, x91, x92, x93, x94, x95, x96, x97, x98, unk, unk, unk, unk, unk, unk, unk, unk, unk, unk, unk, unk, unk, unk, unk, unk, unk, unk, unk, unk, unk, unk, unk, unk, unk, unk, unk, unk, unk, unk, unk, unk, unk, unk, unk, unk, unk, unk, unk, unk, unk, unk, unk, unk, unk, unk], h') ∧ h' = h0 := by
  subst hFF
  suffices hs : ∃ e t' h', loopω [3, 4, 5, 6, 8, 9, 12, 13, 14, 15, 16, 17, 18, 19, 20, 21, 22, 23, 24, 25, 26, 27, 28, 29, 30, 31, 32, 33, 34, 35, 36, 37, 38, 39, 40, 41, 42, 43, 44, 45, 46, 47, 48, 49, 50, 51, 52, 53, 54, 55, 56, 57, 58, 59, 60, 61, 62, 63, 64, 65, 66, 67, 68, 69, 70, 71, 72, 73, 74, 75, 76, 77, 78, 79, 80, 81, 82, 83, 84, 85, 86, 87, 88, 89, 90, 91, 92, 93, 94, 95, 96, 97, 98, 99, 100, 101, 102, 103, 104, 105, 106, 107, 108, 109, 110, 111, 112, 113, 114, 115, 116, 117, 118, 119, 120, 121, 122, 123, 124, 125, 126, 127, 128, 129, 130, 131, 132, 133, 134, 135, 136, 137, 138, 139, 140, 141, 142, 143, 144] (aexecP Try.prog (sO 6) (run Try.prog sO) loopω pt6 (lb6 2)) t h0 = some (e, t', h') ∧ (e = .exit 4 ∧ (∃ x86 x87 x88 x89 x90 x91 x92 x93 x94 x95 x96 x97 x98, t' = [.slice va k0 vc, .int .i64 turn, .int .i64 n, unk, unk, unk, unk, .slice (some ⟨m, 0, none⟩) n n, unk, unk, .int .i64 (p : Nat), .int .i64 (b : Nat), unk, unk, unk, unk, unk, unk, unk, unk, unk, unk, unk, unk, unk, unk, unk, unk, unk, unk, unk, unk, unk, unk, unk, unk, unk, unk, unk, unk, unk, unk, unk, unk, unk, unk, unk, unk, unk, unk, unk, unk, unk, unk, unk, unk, unk, unk, unk, unk, unk, unk, unk, unk, unk, unk, unk, unk, unk, unk, unk, unk, unk, unk, unk, unk, unk, unk, unk, unk, unk, unk, unk, unk, unk, unk, x86, x87, x88, x89, x90, x91, x92, x93, x94, x95, x96, x97, x98, unk, unk, unk, unk, unk, unk, unk, unk, unk, unk, unk, unk, unk, unk, unk, unk, unk, unk, unk, unk, unk, unk, unk, unk, unk, unk, unk, unk, unk, unk, unk, unk, unk, unk, unk, unk, unk, unk, unk, unk, unk, unk, unk, unk, unk, unk]) ∧ h' = h0) by
    obtain ⟨e, t', h', q1, rfl, ⟨x86, x87, x88, x89, x90, x91, x92, x93, x94, x95, x96, x97, x98, rfl⟩, q2⟩ := hs
    exact ⟨h', x86, x87, x88, x89, x90, x91, x92, x93, x94, x95, x96, x97, x98, q1, q2⟩
  simp only [lb6, Try.f6, loopsOf, Option.getD_some, List.nil_append, List.append_nil, List.cons_append, List.getD_cons_zero, List.getD_cons_succ]
  refine loop_by (fun k t h' => ∃ i : Nat, i + k = b ∧ forget [3, 4, 5, 6, 8, 9, 12, 13, 14, 15, 16, 17, 18, 19, 20, 21, 22, 23, 24, 25, 26, 27, 28, 29, 30, 31, 32, 33, 34, 35, 36, 37, 38, 39, 40, 41, 42, 43, 44, 45, 46, 47, 48, 49, 50, 51, 52, 53, 54, 55, 56, 57, 58, 59, 60, 61, 62, 63, 64, 65, 66, 67, 68, 69, 70, 71, 72, 73, 74, 75, 76, 77, 78, 79, 80, 81, 82, 83, 84, 85, 86, 87, 88, 89, 90, 91, 92, 93, 94, 95, 96, 97, 98, 99, 100, 101, 102, 103, 104, 105, 106, 107, 108, 109, 110, 111, 112, 113, 114, 115, 116, 117, 118, 119, 120, 121, 122, 123, 124, 125, 126, 127, 128, 129, 130, 131, 132, 133, 134, 135, 136, 137, 138, 139, 140, 141, 142, 143, 144] t = [.slice va k0 vc, .int .i64 turn, .int .i64 n, unk, unk, unk, unk, .slice (some ⟨m, 0, none⟩) n n, unk, unk, .int .i64 (p : Nat), .int .i64 (i : Nat), unk, unk, unk, unk, unk, unk, unk, unk, unk, unk, unk, unk, unk, unk, unk, unk, unk, unk, unk, unk, unk, unk, unk, unk, unk, unk, unk, unk, unk, unk, unk, unk, unk, unk, unk, unk, unk, unk, unk, unk, unk, unk, unk, unk, unk, unk, unk, unk, unk, unk, unk, unk, unk, unk, unk, unk, unk, unk, unk, unk, unk, unk, unk, unk, unk, unk, unk, unk, unk, unk, unk, unk, unk, unk, unk, unk, unk, unk, unk, unk, unk, unk, unk, unk, unk, unk, unk, unk, unk, unk, unk, unk, unk, unk, unk, unk, unk, unk, unk, unk, unk, unk, unk, unk, unk, unk, unk, unk, unk, unk, unk, unk, unk, unk, unk, unk, unk, unk, unk, unk, unk, unk, unk, unk, unk, unk, unk, unk, unk, unk, unk, unk, unk] ∧ h' = h0)
    (fun e t' h' => e = .exit 4 ∧ (∃ x86 x87 x88 x89 x90 x91 x92 x93 x94 x95 x96 x97 x98, t' = [.slice va k0 vc, .int .i64 turn, .int .i64 n, unk, unk, unk, unk, .slice (some ⟨m, 0, none⟩) n n, unk, unk, .int .i64 (p : Nat), .int .i64 (b : Nat), unk, unk, unk, unk, unk, unk, unk, unk, unk, unk, unk, unk, unk, unk, unk, unk, unk, unk, unk, unk, unk, unk, unk, unk, unk, unk, unk, unk, unk, unk, unk, unk, unk, unk, unk, unk, unk, unk, unk, unk, unk, unk, unk, unk, unk, unk, unk, unk, unk, unk, unk, unk, unk, unk, unk, unk, unk, unk, unk, unk, unk, unk, unk, unk, unk, unk, unk, unk, unk, unk, unk, unk, unk, unk, x86, x87, x88, x89, x90, x91, x92, x93, x94, x95, x96, x97, x98, unk, unk, unk, unk, unk, unk, unk, unk, unk, unk, unk, unk, unk, unk, unk, unk, unk, unk, unk, unk, unk, unk, unk, unk, unk, unk, unk, unk, unk, unk, unk, unk, unk, unk, unk, unk, unk, unk, unk, unk, unk, unk, unk, unk, unk, unk]) ∧ h' = h0) ?_ (b) _ _ ⟨0, by omega, ht, hI0⟩
  rintro k t h' ⟨i, hi, ht, hI⟩
  rw [ht]
  rcases Nat.lt_or_ge i (b) with h1 | h1
  · have hinc := @inc64 i (by omega)
    have hcs := cast_succ i
    subst hI
    have hsl := sharesL_len ws turn n
    have pn : p < n := by omega
    have pk : p < k0 := by omega
    have i1 : i < n := by omega
    have i2 : i < k0 := by omega
    have i3 : (i : Int) < 50 := by omega
    have hLi := fl_g (L := sharesL ws turn n) (i := i) (by omega)
    rw [sharesL_get i1] at hLi
    have hLp := fl_g (L := sharesL ws turn n) (i := p) (by omega)
    rw [sharesL_get pn] at hLp
    obtain ⟨e1, _, _, _⟩ := @at_ix turn 0 k0 ht0 (by omega) hk (by omega)
    obtain ⟨e2, e3⟩ := @ix_law turn k0 p ht0 hk pk
    obtain ⟨f2, f3⟩ := @ix_law turn k0 i ht0 hk i2
    have m1 := Nat.mod_lt (turn.toNat % k0 + p) (show 0 < k0 by omega)
    have m2 := Nat.mod_lt (turn.toNat % k0 + i) (show 0 < k0 by omega)
    have w1 := @wt_at ws turn p (by omega) ht0 (by omega)
    have w2 := @wt_at ws turn i (by omega) ht0 (by omega)
    rw [hk0] at w1 w2
    have hmono := @share_mono ws hw turn n p i pn i1 hn
    have lp := shB_le hw turn pn hn
    have li := shB_le hw turn i1 hn
    have ep : shareB ws turn n (wt ws turn p) = shB ws turn n p := rfl
    have ei : shareB ws turn n (wt ws turn i) = shB ws turn n i := rfl
    rw [ep, ei, w1, w2] at hmono
    generalize turn.toNat % k0 = q at *
    have e2' : IntKind.i64.wrap ((q : Int) + (p : Int)) = (q : Int) + (p : Int) := by rw [e2]; omega
    have f2' : IntKind.i64.wrap ((q : Int) + (i : Int)) = (q : Int) + (i : Int) := by rw [f2]; omega
    generalize hu : (q + p) % k0 = u at *
    generalize hz : (q + i) % k0 = z at *
    have e3' : ((q : Int) + (p : Int)).tmod k0 = (u : Int) := by rw [← e3]; congr 1
    have f3' : ((q : Int) + (i : Int)).tmod k0 = (z : Int) := by rw [← f3]; congr 1
    obtain ⟨va, vc, C, ce, cs, gr, ro, eb, hgv, g1, g2⟩ := sl_u64_2 hv m1 m2
    simp only [Value.slice.injEq, true_and] at eb
    obtain ⟨rfl, rfl⟩ := eb
    have hx := hw.get u
    have hy := hw.get z
    generalize ws.getD u 0 = x at *
    generalize ws.getD z 0 = y at *
    generalize shB ws turn n p = rp at *
    generalize shB ws turn n i = ri at *
    have prp : Pos rp := by unfold Pos; omega
    have pri : Pos ri := by unfold Pos; omega
    have kz : ¬ (k0 = 0) := by omega
    have hf1 := fun t o ho => fb23 t o x ho hx
    have hf2 := fun t o ho => fb23 t o y ho hy
    have q1 := fun t a b ha hb => fgtr t a b x y ha hb hx hy
    have q2 := fun t a b ha hb => fgtr t a b x 0 ha hb hx (by omega)
    have q3 := fun t a b ha hb => flss t a b rp ri ha hb prp.lt pri.lt
    have hL3 := pos_lt prp pri
    generalize sharesL ws turn n = L at *
    by_cases c1 : (Ieee.double.order x y == some .gt) = true
    · by_cases c2 : (Ieee.double.order x 0 == some .gt) = true
      · have c3 : (Ieee.double.order rp ri == some .lt) = false := by
          rw [hL3]; exact decide_eq_false (by have := hmono (gt_worth hx hy c1 c2); omega)
        simp (maxSteps := 2000000) -implicitDefEqProofs [px_skip, px_label, px_region, px_draw, qx_seq, qx_cond, px_block, px_loop, px_scope, px_exit, px_ret, seqK_normal, seqK_exit, seqK_ret, condK_true, condK_false, opsK_some, wK_true, wK_false, itK_some, aops_nil, aops_cons, lK_some, aK_some, hK_some, dwK_true, dwK_false, diK_some, dK_light, dK_alloc, dK_heavy, adraw_nil, adraw_cons, aop, cls, light, lightS, binE, aeq, intBin, goInt, pl_int, pl_bool, pl_ptr, pl_slice, aload, isAggT, aeval, tput, awanted, List.range_succ, fin, aresults, aresult, List.replicate, heavy, acallOp, aenter, ble_d, beq_d, firstRegion, readNames, Nxt, isAnc, readsOk, objEq_some, i1, i2, i3, pn, pk, ibeq, kz, hLi, hLp, pt6_20, pl6_20, an6_20, pt6_21, pl6_21, an6_21, e1, e2', e3', f2', f3', m1, m2, g1, g2, hgv, aindexAddr, sz37, sz34, Try.underlying24, Try.underlying22, hg, en23, hf1, hf2, q1, q2, q3, c1, c2, c3, pZero, undef, hinc]
        exact ⟨k - 1, by omega, i + 1, by omega, by simp (maxSteps := 2000000) only [forget, List.set_cons_succ, List.set_cons_zero, hcs]⟩
      · rw [Bool.not_eq_true] at c2
        simp (maxSteps := 2000000) -implicitDefEqProofs [px_skip, px_label, px_region, px_draw, qx_seq, qx_cond, px_block, px_loop, px_scope, px_exit, px_ret, seqK_normal, seqK_exit, seqK_ret, condK_true, condK_false, opsK_some, wK_true, wK_false, itK_some, aops_nil, aops_cons, lK_some, aK_some, hK_some, dwK_true, dwK_false, diK_some, dK_light, dK_alloc, dK_heavy, adraw_nil, adraw_cons, aop, cls, light, lightS, binE, aeq, intBin, goInt, pl_int, pl_bool, pl_ptr, pl_slice, aload, isAggT, aeval, tput, awanted, List.range_succ, fin, aresults, aresult, List.replicate, heavy, acallOp, aenter, ble_d, beq_d, firstRegion, readNames, Nxt, isAnc, readsOk, objEq_some, i1, i2, i3, pn, pk, ibeq, kz, hLi, hLp, pt6_20, pl6_20, an6_20, pt6_21, pl6_21, an6_21, e1, e2', e3', f2', f3', m1, m2, g1, g2, hgv, aindexAddr, sz37, sz34, Try.underlying24, Try.underlying22, hg, en23, hf1, hf2, q1, q2, c1, c2, pZero, undef, hinc]
        exact ⟨k - 1, by omega, i + 1, by omega, by simp (maxSteps := 2000000) only [forget, List.set_cons_succ, List.set_cons_zero, hcs]⟩
    · rw [Bool.not_eq_true] at c1
      simp (maxSteps := 2000000) -implicitDefEqProofs [px_skip, px_label, px_region, px_draw, qx_seq, qx_cond, px_block, px_loop, px_scope, px_exit, px_ret, seqK_normal, seqK_exit, seqK_ret, condK_true, condK_false, opsK_some, wK_true, wK_false, itK_some, aops_nil, aops_cons, lK_some, aK_some, hK_some, dwK_true, dwK_false, diK_some, dK_light, dK_alloc, dK_heavy, adraw_nil, adraw_cons, aop, cls, light, lightS, binE, aeq, intBin, goInt, pl_int, pl_bool, pl_ptr, pl_slice, aload, isAggT, aeval, tput, awanted, List.range_succ, fin, aresults, aresult, List.replicate, heavy, acallOp, aenter, ble_d, beq_d, firstRegion, readNames, Nxt, isAnc, readsOk, objEq_some, i1, i2, i3, pn, pk, ibeq, kz, hLi, hLp, pt6_20, pl6_20, an6_20, pt6_21, pl6_21, an6_21, e1, e2', e3', f2', f3', m1, m2, g1, g2, hgv, aindexAddr, sz37, sz34, Try.underlying24, Try.underlying22, hg, en23, hf1, hf2, q1, c1, pZero, undef, hinc]
      exact ⟨k - 1, by omega, i + 1, by omega, by simp (maxSteps := 2000000) only [forget, List.set_cons_succ, List.set_cons_zero, hcs]⟩
  · obtain rfl : i = b := by omega
    by_cases t1 : i < n
    · by_cases t2 : i < k0
      · have t3 : ¬ ((i : Int) < 50) := by omega
        simp (maxSteps := 2000000) -implicitDefEqProofs [px_skip, px_label, px_region, px_draw, qx_seq, qx_cond, px_block, px_loop, px_scope, px_exit, px_ret, seqK_normal, seqK_exit, seqK_ret, condK_true, condK_false, opsK_some, wK_true, wK_false, itK_some, aops_nil, aops_cons, lK_some, aK_some, hK_some, dwK_true, dwK_false, diK_some, dK_light, dK_alloc, dK_heavy, adraw_nil, adraw_cons, aop, cls, light, lightS, binE, aeq, intBin, goInt, pl_int, pl_bool, pl_ptr, pl_slice, aload, isAggT, aeval, tput, awanted, List.range_succ, fin, aresults, aresult, List.replicate, heavy, acallOp, aenter, ble_d, beq_d, firstRegion, readNames, Nxt, isAnc, readsOk, objEq_some, t1, t2, t3, undef]
        exact hI
      · simp (maxSteps := 2000000) -implicitDefEqProofs [px_skip, px_label, px_region, px_draw, qx_seq, qx_cond, px_block, px_loop, px_scope, px_exit, px_ret, seqK_normal, seqK_exit, seqK_ret, condK_true, condK_false, opsK_some, wK_true, wK_false, itK_some, aops_nil, aops_cons, lK_some, aK_some, hK_some, dwK_true, dwK_false, diK_some, dK_light, dK_alloc, dK_heavy, adraw_nil, adraw_cons, aop, cls, light, lightS, binE, aeq, intBin, goInt, pl_int, pl_bool, pl_ptr, pl_slice, aload, isAggT, aeval, tput, awanted, List.range_succ, fin, aresults, aresult, List.replicate, heavy, acallOp, aenter, ble_d, beq_d, firstRegion, readNames, Nxt, isAnc, readsOk, objEq_some, t1, t2, undef]
        exact hI
    · simp (maxSteps := 2000000) -implicitDefEqProofs [px_skip, px_label, px_region, px_draw, qx_seq, qx_cond, px_block, px_loop, px_scope, px_exit, px_ret, seqK_normal, seqK_exit, seqK_ret, condK_true, condK_false, opsK_some, wK_true, wK_false, itK_some, aops_nil, aops_cons, lK_some, aK_some, hK_some, dwK_true, dwK_false, diK_some, dK_light, dK_alloc, dK_heavy, adraw_nil, adraw_cons, aop, cls, light, lightS, binE, aeq, intBin, goInt, pl_int, pl_bool, pl_ptr, pl_slice, aload, isAggT, aeval, tput, awanted, List.range_succ, fin, aresults, aresult, List.replicate, heavy, acallOp, aenter, ble_d, beq_d, firstRegion, readNames, Nxt, isAnc, readsOk, objEq_some, t1, undef]
      exact hI
end Go.Proofs.Ytmnkmdfladbgdaa.Od
