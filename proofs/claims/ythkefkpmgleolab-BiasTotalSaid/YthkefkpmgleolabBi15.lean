/- The library's sort: the merge. -/
import Derived.Test.YthkefkpmgleolabBi14
set_option linter.unusedVariables false
set_option linter.unusedSimpArgs false
namespace Go.Proofs.Ythkefkpmgleolab.Bi
open Go Go.Proofs Go.RowKit Go.Proofs.YthkefkpmgleolabAI Go.Proofs.YthkefkpmgleolabFl Go.Proofs.YthkefkpmgleolabSrt

theorem cvu' (n : Int) : pureRun Try.prog (do let z ← convert 3 88 (.int .i64 n); pure (Next.value z)) = some (.value (.int .u64 (IntKind.u64.wrap n))) := by kernel_rfl
theorem u64_nat {n : Nat} (h : n < 18446744073709551616) : IntKind.u64.wrap (n : Int) = (n : Int) := by
  simp only [IntKind.wrap, IntKind.bits, IntKind.signed]
  simp only [Bool.false_and, Bool.false_eq_true, if_false]
  omega
theorem cvu (t : Tm) (x : Operand) (n : Nat) (hx : aeval t x = .int .i64 n) (hn : n < 9223372036854775808) (d ty pos af gu) : purerule Try.prog (aeval t) ⟨d, .convert 3 88 x, ty, pos, af, gu⟩ = some (.int .u64 n) := by
  refine pure_of rfl ?_ ?_ rfl
  · simp [Op.operands, hx, pli]
  · have : execOp (aeval t) ⟨d, .convert 3 88 x, ty, pos, af, gu⟩ = (do let z ← convert 3 88 (aeval t x); pure (Next.value z)) := by simp [execOp]
    rw [this, hx, cvu', u64_nat (by omega)]
theorem cvi' (n : Int) : pureRun Try.prog (do let z ← convert 88 3 (.int .u64 n); pure (Next.value z)) = some (.value (.int .i64 (IntKind.i64.wrap n))) := by kernel_rfl
theorem cvi (t : Tm) (x : Operand) (n : Nat) (hx : aeval t x = .int .u64 n) (hn : n < 9223372036854775808) (d ty pos af gu) : purerule Try.prog (aeval t) ⟨d, .convert 88 3 x, ty, pos, af, gu⟩ = some (.int .i64 n) := by
  refine pure_of rfl ?_ ?_ rfl
  · simp [Op.operands, hx, pli]
  · have : execOp (aeval t) ⟨d, .convert 88 3 x, ty, pos, af, gu⟩ = (do let z ← convert 88 3 (aeval t x); pure (Next.value z)) := by simp [execOp]
    rw [this, hx, cvi', IntWalk.i64_in _ (by omega)]
theorem shu' (x y : Operand) (n : Int) : pureRun Try.prog (do let z ← (do eqGuard .shr 88 x y (.int .u64 n) (.int .u64 1); binOp .shr 88 (.int .u64 n) (.int .u64 1)); pure (Next.value z)) = some (.value (.int .u64 (n.fdiv (2 ^ 1)))) := by kernel_rfl
theorem shu (t : Tm) (x y : Operand) (n c : Nat) (hx : aeval t x = .int .u64 n) (hy : aeval t y = .int .u64 1) (hc : n / 2 = c) (d r ty pos af gu) : purerule Try.prog (aeval t) ⟨d, .binOp .shr 88 x y r, ty, pos, af, gu⟩ = some (.int .u64 c) := by
  refine pure_of rfl ?_ ?_ rfl
  · simp [Op.operands, hx, hy, pli]
  · have : execOp (aeval t) ⟨d, .binOp .shr 88 x y r, ty, pos, af, gu⟩ = (do let z ← (do eqGuard .shr 88 x y (aeval t x) (aeval t y); binOp .shr 88 (aeval t x) (aeval t y)); pure (Next.value z)) := by simp [execOp]
    have e : (n : Int).fdiv (2 ^ 1) = (c : Int) := by
      rw [Int.fdiv_eq_ediv_of_nonneg _ (by omega)]; omega
    rw [this, hx, hy, shu', e]

variable {lo : Int → Int → Prop} {tag : Int → Int} {r : Int → Int → Int} {h0 : Heap} {m : Nat} {cap : Value} {N : Int}
set_option maxRecDepth 20000 in
set_option maxHeartbeats 3200000 in
/-- One element, merged with the row behind it. -/
theorem sym1 (hL : LO lo tag (clo r)) (hC : CmpH h0 m cap N r) {h : Heap} {a c b : Nat} {d : List Int} (hd : DH h0 m h d) (hdom : Dom N d) (h1 : c = a + 1) (h2 : c < b) (h3 : b ≤ d.length) (hN : d.length ≤ 2 ^ 47) (s2 : Srt lo c b d) (ht : Tag tag a c b d) :
    ∃ h' d', run Try.prog sB 50 [V m d.length, .int .i64 (a : Nat), .int .i64 (c : Nat), .int .i64 (b : Nat), CV cap] h = some (.tuple #[], h') ∧ DH h0 m h' d' ∧ Im a b d d' ∧ Srt lo a b d' := by
  suffices hx : ∃ y, fin Try.prog Try.f50 (aexecP Try.prog (sB 50) (run Try.prog sB) loopω pt50 (Try.f50.body.getD .skip) ([V m d.length, .int .i64 (a : Nat), .int .i64 (c : Nat), .int .i64 (b : Nat), CV cap] ++ List.replicate (Try.f50.ntmps - 5) undef) h) = some y ∧ y.1 = .tuple #[] ∧ ∃ d', DH h0 m y.2 d' ∧ Im a b d d' ∧ Srt lo a b d' by
    obtain ⟨⟨y1, y2⟩, hy, rfl, d', q1, q2⟩ := hx
    exact ⟨y2, d', run_finP pt50 Try.func50 rfl planned50 hy, q1, q2⟩
  have w1 : IntKind.i64.wrap ((c : Int) - (a : Int)) = 1 := by rw [IntWalk.i64_in _ (by omega)]; omega
  subst h1
  have ca := cast_succ a
  rw [ca] at w1
  simp (maxSteps := 2000000) -implicitDefEqProofs [Try.f50, px_skip, px_label, px_region, px_draw, qx_seq, qx_cond, px_block, px_loop, px_scope, px_exit, px_ret, seqK_normal, seqK_exit, seqK_ret, condK_true, condK_false, opsK_some, wK_true, wK_false, itK_some, aops_nil, aops_cons, lK_some, aK_some, hK_some, dwK_true, dwK_false, diK_some, dK_light, dK_alloc, dK_heavy, adraw_nil, adraw_cons, aop, cls, light, lightS, binE, aeq, intBin, goInt, pl_int, pl_bool, pl_ptr, pl_slice, aload, isAggT, aeval, tput, awanted, List.range_succ, fin, aresults, aresult, List.replicate, heavy, acallOp, aenter, ble_d, beq_d, firstRegion, readNames, Nxt, isAnc, readsOk, objEq_some, ibeq, ca, w1, sB50_3]
  generalize hl : loopω _ _ _ _ = rr
  obtain ⟨e, t', h', hx, he, i, x31, x32, x33, htt, rfl, hB⟩ : ∃ e t' h', rr = some (e, t', h') ∧ e = .exit 0 ∧ ∃ (i : Nat), ∃ x31 x32 x33, t' = [V m d.length, .int .i64 (a : Nat), unk, unk, CV cap, unk, unk, unk, unk, unk, .int .i64 (i : Nat), .int .i64 (i : Nat), unk, unk, unk, unk, unk, unk, unk, unk, unk, unk, unk, unk, unk, unk, unk, unk, unk, unk, unk, x31, x32, x33, unk, unk, unk, unk, unk, unk, unk, unk, unk, unk, unk, unk, unk, unk, unk, unk, unk, unk, unk, unk, unk, unk, unk, unk, unk, unk, unk, unk, unk, unk, unk, unk, unk, unk, unk, unk, unk, unk, unk, unk, unk, unk, unk, unk, unk, unk, unk, unk, unk, unk, unk, unk, unk, unk, unk, unk, unk, unk, unk, unk, unk, unk, unk, unk, unk, unk, unk, unk, unk, unk, unk, unk, unk, unk, unk, unk, unk, unk, unk, unk, unk, unk, unk, unk, unk, unk, unk, unk, unk, unk, unk, unk, unk, unk, unk, unk, unk, unk, unk, unk, unk, unk, unk, unk, unk, unk, unk, unk, unk, unk, unk, unk, unk, unk, unk, unk, unk, unk, unk, unk, unk, unk, unk, unk, unk, unk, unk, unk, unk, unk, unk, unk, unk, unk, unk, unk, unk, unk, unk, unk, unk, unk, unk, unk, unk, unk, unk, unk, unk, unk, unk, unk, unk, unk, unk, unk, unk, unk, unk, unk, unk, unk, unk, unk, unk, unk, unk, unk, unk, unk, unk, unk, unk, unk, unk, unk, unk, unk, unk, unk, unk, unk, unk, unk, unk, unk] ∧ h' = h ∧ B1 lo a b i i d := by
    rw [← hl]
    refine loop_by (fun k t h' => ∃ i j : Nat, j - i = k ∧ forget [2, 3, 5, 6, 7, 8, 9, 12, 13, 14, 15, 16, 17, 18, 19, 20, 21, 22, 23, 24, 25, 26, 27, 28, 29, 30, 31, 32, 33, 34, 35, 36, 37, 38, 39, 40, 41, 42, 43, 44, 45, 46, 47, 48, 49, 50, 51, 52, 53, 54, 55, 56, 57, 58, 59, 60, 61, 62, 63, 64, 65, 66, 67, 68, 69, 70, 71, 72, 73, 74, 75, 76, 77, 78, 79, 80, 81, 82, 83, 84, 85, 86, 87, 88, 89, 90, 91, 92, 93, 94, 95, 96, 97, 98, 99, 100, 101, 102, 103, 104, 105, 106, 107, 108, 109, 110, 111, 112, 113, 114, 115, 116, 117, 118, 119, 120, 121, 122, 123, 124, 125, 126, 127, 128, 129, 130, 131, 132, 133, 134, 135, 136, 137, 138, 139, 140, 141, 142, 143, 144, 145, 146, 147, 148, 149, 150, 151, 152, 153, 154, 155, 156, 157, 158, 159, 160, 161, 162, 163, 164, 165, 166, 167, 168, 169, 170, 171, 172, 173, 174, 175, 176, 177, 178, 179, 180, 181, 182, 183, 184, 185, 186, 187, 188, 189, 190, 191, 192, 193, 194, 195, 196, 197, 198, 199, 200, 201, 202, 203, 204, 205, 206, 207, 208, 209, 210, 211, 212, 213, 214, 215, 216, 217, 218, 219] t = [V m d.length, .int .i64 (a : Nat), unk, unk, CV cap, unk, unk, unk, unk, unk, .int .i64 (i : Nat), .int .i64 (j : Nat), unk, unk, unk, unk, unk, unk, unk, unk, unk, unk, unk, unk, unk, unk, unk, unk, unk, unk, unk, unk, unk, unk, unk, unk, unk, unk, unk, unk, unk, unk, unk, unk, unk, unk, unk, unk, unk, unk, unk, unk, unk, unk, unk, unk, unk, unk, unk, unk, unk, unk, unk, unk, unk, unk, unk, unk, unk, unk, unk, unk, unk, unk, unk, unk, unk, unk, unk, unk, unk, unk, unk, unk, unk, unk, unk, unk, unk, unk, unk, unk, unk, unk, unk, unk, unk, unk, unk, unk, unk, unk, unk, unk, unk, unk, unk, unk, unk, unk, unk, unk, unk, unk, unk, unk, unk, unk, unk, unk, unk, unk, unk, unk, unk, unk, unk, unk, unk, unk, unk, unk, unk, unk, unk, unk, unk, unk, unk, unk, unk, unk, unk, unk, unk, unk, unk, unk, unk, unk, unk, unk, unk, unk, unk, unk, unk, unk, unk, unk, unk, unk, unk, unk, unk, unk, unk, unk, unk, unk, unk, unk, unk, unk, unk, unk, unk, unk, unk, unk, unk, unk, unk, unk, unk, unk, unk, unk, unk, unk, unk, unk, unk, unk, unk, unk, unk, unk, unk, unk, unk, unk, unk, unk, unk, unk, unk, unk, unk, unk, unk, unk, unk, unk, unk, unk, unk, unk, unk, unk] ∧ h' = h ∧ B1 lo a b i j d)
      (fun e t' h' => e = .exit 0 ∧ ∃ (i : Nat), ∃ x31 x32 x33, t' = [V m d.length, .int .i64 (a : Nat), unk, unk, CV cap, unk, unk, unk, unk, unk, .int .i64 (i : Nat), .int .i64 (i : Nat), unk, unk, unk, unk, unk, unk, unk, unk, unk, unk, unk, unk, unk, unk, unk, unk, unk, unk, unk, x31, x32, x33, unk, unk, unk, unk, unk, unk, unk, unk, unk, unk, unk, unk, unk, unk, unk, unk, unk, unk, unk, unk, unk, unk, unk, unk, unk, unk, unk, unk, unk, unk, unk, unk, unk, unk, unk, unk, unk, unk, unk, unk, unk, unk, unk, unk, unk, unk, unk, unk, unk, unk, unk, unk, unk, unk, unk, unk, unk, unk, unk, unk, unk, unk, unk, unk, unk, unk, unk, unk, unk, unk, unk, unk, unk, unk, unk, unk, unk, unk, unk, unk, unk, unk, unk, unk, unk, unk, unk, unk, unk, unk, unk, unk, unk, unk, unk, unk, unk, unk, unk, unk, unk, unk, unk, unk, unk, unk, unk, unk, unk, unk, unk, unk, unk, unk, unk, unk, unk, unk, unk, unk, unk, unk, unk, unk, unk, unk, unk, unk, unk, unk, unk, unk, unk, unk, unk, unk, unk, unk, unk, unk, unk, unk, unk, unk, unk, unk, unk, unk, unk, unk, unk, unk, unk, unk, unk, unk, unk, unk, unk, unk, unk, unk, unk, unk, unk, unk, unk, unk, unk, unk, unk, unk, unk, unk, unk, unk, unk, unk, unk, unk, unk, unk, unk, unk, unk, unk] ∧ h' = h ∧ B1 lo a b i i d) ?_ (b - (a + 1)) _ _ ⟨a + 1, b, rfl, by rw [ca]; kernel_rfl, rfl, by omega, by omega, by omega, .inl rfl, .inl rfl⟩
    rintro k t h' ⟨i, j, rfl, htt, rfl, hB⟩
    rw [htt]
    have q1 := hB.mi
    have q2 := hB.ij
    have q3 := hB.jb
    rcases Nat.lt_or_ge i j with h5 | h5
    · obtain ⟨s, hs⟩ : ∃ s, s = i + j := ⟨_, rfl⟩
      obtain ⟨hm, hhm⟩ : ∃ hm, s / 2 = hm := ⟨_, rfl⟩
      have ws : IntKind.i64.wrap ((i : Int) + (j : Int)) = (s : Int) := by rw [IntWalk.i64_in _ (by omega)]; omega
      have k1 := fun t x hx => cvu t x s hx (by omega)
      have k2 := fun t x y hx hy => shu t x y s hm hx hy hhm
      have k3 := fun t x hx => cvi t x hm hx (by omega)
      have gx := ints_g (d := d) (i := hm) (by omega)
      have gy := ints_g (d := d) (i := a) (by omega)
      have dx := hdom.g (i := hm) (by omega)
      have dy := hdom.g (i := a) (by omega)
      have ec := hC h' hd.1 (g d hm) (g d a) dx.1 dx.2 dy.1 dy.2
      have l1 : hm < d.length := by omega
      have l2 : a < d.length := by omega
      have hg := hd.2
      have hinc := @inc64 hm (by omega)
      have hcs := cast_succ hm
      cases hcl : clo r (g d hm) (g d a) with
      | true =>
        have hr : r (g d hm) (g d a) < 0 := by simpa [clo] using hcl
        have hB2 := b1_up hL hB (h := hm) (by omega) (by omega) ht hcl
        generalize g d hm = X at *
        generalize g d a = Y at *
        simp (maxSteps := 2000000) -implicitDefEqProofs [px_skip, px_label, px_region, px_draw, qx_seq, qx_cond, px_block, px_loop, px_scope, px_exit, px_ret, seqK_normal, seqK_exit, seqK_ret, condK_true, condK_false, opsK_some, wK_true, wK_false, itK_some, aops_nil, aops_cons, lK_some, aK_some, hK_some, dwK_true, dwK_false, diK_some, dK_light, dK_alloc, dK_heavy, adraw_nil, adraw_cons, aop, cls, light, lightS, binE, aeq, intBin, goInt, pl_int, pl_bool, pl_ptr, pl_slice, aload, isAggT, aeval, tput, awanted, List.range_succ, fin, aresults, aresult, List.replicate, heavy, acallOp, aenter, ble_d, beq_d, firstRegion, readNames, Nxt, isAnc, readsOk, objEq_some, h5, pt50_5, pl50_5, an50_5, ws, k1, k2, k3, aindexAddr, sz3, Try.underlying28, hg, gx, gy, l1, l2, en37, ec, hr, hinc]
        exact ⟨j - (hm + 1), by omega, hm + 1, j, rfl, by simp (maxSteps := 2000000) only [forget, List.set_cons_succ, List.set_cons_zero, hcs], hB2⟩
      | false =>
        have hr : ¬ r (g d hm) (g d a) < 0 := by simpa [clo] using hcl
        have hB2 := b1_down hL hB (h := hm) (by omega) (by omega) ht hcl
        generalize g d hm = X at *
        generalize g d a = Y at *
        simp (maxSteps := 2000000) -implicitDefEqProofs [px_skip, px_label, px_region, px_draw, qx_seq, qx_cond, px_block, px_loop, px_scope, px_exit, px_ret, seqK_normal, seqK_exit, seqK_ret, condK_true, condK_false, opsK_some, wK_true, wK_false, itK_some, aops_nil, aops_cons, lK_some, aK_some, hK_some, dwK_true, dwK_false, diK_some, dK_light, dK_alloc, dK_heavy, adraw_nil, adraw_cons, aop, cls, light, lightS, binE, aeq, intBin, goInt, pl_int, pl_bool, pl_ptr, pl_slice, aload, isAggT, aeval, tput, awanted, List.range_succ, fin, aresults, aresult, List.replicate, heavy, acallOp, aenter, ble_d, beq_d, firstRegion, readNames, Nxt, isAnc, readsOk, objEq_some, h5, pt50_5, pl50_5, an50_5, ws, k1, k2, k3, aindexAddr, sz3, Try.underlying28, hg, gx, gy, l1, l2, en37, ec, hr]
        exact ⟨hm - i, by omega, i, hm, rfl, by simp (maxSteps := 2000000) only [forget, List.set_cons_succ, List.set_cons_zero], hB2⟩
    · obtain rfl : i = j := by omega
      simp (maxSteps := 2000000) -implicitDefEqProofs [px_skip, px_label, px_region, px_draw, qx_seq, qx_cond, px_block, px_loop, px_scope, px_exit, px_ret, seqK_normal, seqK_exit, seqK_ret, condK_true, condK_false, opsK_some, wK_true, wK_false, itK_some, aops_nil, aops_cons, lK_some, aK_some, hK_some, dwK_true, dwK_false, diK_some, dK_light, dK_alloc, dK_heavy, adraw_nil, adraw_cons, aop, cls, light, lightS, binE, aeq, intBin, goInt, pl_int, pl_bool, pl_ptr, pl_slice, aload, isAggT, aeval, tput, awanted, List.range_succ, fin, aresults, aresult, List.replicate, heavy, acallOp, aenter, ble_d, beq_d, firstRegion, readNames, Nxt, isAnc, readsOk, objEq_some]
      exact ⟨i, rfl, hB⟩
  subst hx he htt
  clear hl
  have q1 := hB.mi
  have q3 := hB.jb
  simp (maxSteps := 2000000) -implicitDefEqProofs [px_skip, px_label, px_region, px_draw, qx_seq, qx_cond, px_block, px_loop, px_scope, px_exit, px_ret, seqK_normal, seqK_exit, seqK_ret, condK_true, condK_false, opsK_some, wK_true, wK_false, itK_some, aops_nil, aops_cons, lK_some, aK_some, hK_some, dwK_true, dwK_false, diK_some, dK_light, dK_alloc, dK_heavy, adraw_nil, adraw_cons, aop, cls, light, lightS, binE, aeq, intBin, goInt, pl_int, pl_bool, pl_ptr, pl_slice, aload, isAggT, aeval, tput, awanted, List.range_succ, fin, aresults, aresult, List.replicate, heavy, acallOp, aenter, ble_d, beq_d, firstRegion, readNames, Nxt, isAnc, readsOk, objEq_some, sB50_9]
  generalize hl : loopω _ _ _ _ = rr
  obtain ⟨e, t', h2', hx, he, x55, x56, x57, x58, htt, d2, hd2, hS⟩ : ∃ e t' h', rr = some (e, t', h') ∧ e = .exit 2 ∧ ∃ x55 x56 x57 x58, t' = [V m d.length, unk, unk, unk, unk, unk, unk, unk, unk, unk, .int .i64 (i : Nat), unk, unk, .int .i64 (i - 1 : Nat), unk, unk, unk, unk, unk, unk, unk, unk, unk, unk, unk, unk, unk, unk, unk, unk, unk, unk, unk, unk, unk, unk, unk, unk, unk, unk, unk, unk, unk, unk, unk, unk, unk, unk, unk, unk, unk, unk, unk, unk, unk, x55, x56, x57, x58, unk, unk, unk, unk, unk, unk, unk, unk, unk, unk, unk, unk, unk, unk, unk, unk, unk, unk, unk, unk, unk, unk, unk, unk, unk, unk, unk, unk, unk, unk, unk, unk, unk, unk, unk, unk, unk, unk, unk, unk, unk, unk, unk, unk, unk, unk, unk, unk, unk, unk, unk, unk, unk, unk, unk, unk, unk, unk, unk, unk, unk, unk, unk, unk, unk, unk, unk, unk, unk, unk, unk, unk, unk, unk, unk, unk, unk, unk, unk, unk, unk, unk, unk, unk, unk, unk, unk, unk, unk, unk, unk, unk, unk, unk, unk, unk, unk, unk, unk, unk, unk, unk, unk, unk, unk, unk, unk, unk, unk, unk, unk, unk, unk, unk, unk, unk, unk, unk, unk, unk, unk, unk, unk, unk, unk, unk, unk, unk, unk, unk, unk, unk, unk, unk, unk, unk, unk, unk, unk, unk, unk, unk, unk, unk, unk, unk, unk, unk, unk, unk, unk, unk, unk, unk, unk, unk, unk, unk, unk, unk, unk] ∧ ∃ d', DH h0 m h' d' ∧ S1 a b (i - 1) d d' := by
    rw [← hl]
    refine loop_by (fun k t h' => ∃ q : Nat, q + k = i - 1 ∧ a ≤ q ∧ forget [1, 2, 3, 4, 5, 6, 7, 8, 9, 11, 12, 14, 15, 16, 17, 18, 19, 20, 21, 22, 23, 24, 25, 26, 27, 28, 29, 30, 31, 32, 33, 34, 35, 36, 37, 38, 39, 40, 41, 42, 43, 44, 45, 46, 47, 48, 49, 50, 51, 52, 53, 54, 55, 56, 57, 58, 59, 60, 61, 62, 63, 64, 65, 66, 67, 68, 69, 70, 71, 72, 73, 74, 75, 76, 77, 78, 79, 80, 81, 82, 83, 84, 85, 86, 87, 88, 89, 90, 91, 92, 93, 94, 95, 96, 97, 98, 99, 100, 101, 102, 103, 104, 105, 106, 107, 108, 109, 110, 111, 112, 113, 114, 115, 116, 117, 118, 119, 120, 121, 122, 123, 124, 125, 126, 127, 128, 129, 130, 131, 132, 133, 134, 135, 136, 137, 138, 139, 140, 141, 142, 143, 144, 145, 146, 147, 148, 149, 150, 151, 152, 153, 154, 155, 156, 157, 158, 159, 160, 161, 162, 163, 164, 165, 166, 167, 168, 169, 170, 171, 172, 173, 174, 175, 176, 177, 178, 179, 180, 181, 182, 183, 184, 185, 186, 187, 188, 189, 190, 191, 192, 193, 194, 195, 196, 197, 198, 199, 200, 201, 202, 203, 204, 205, 206, 207, 208, 209, 210, 211, 212, 213, 214, 215, 216, 217, 218, 219] t = [V m d.length, unk, unk, unk, unk, unk, unk, unk, unk, unk, .int .i64 (i : Nat), unk, unk, .int .i64 (q : Nat), unk, unk, unk, unk, unk, unk, unk, unk, unk, unk, unk, unk, unk, unk, unk, unk, unk, unk, unk, unk, unk, unk, unk, unk, unk, unk, unk, unk, unk, unk, unk, unk, unk, unk, unk, unk, unk, unk, unk, unk, unk, unk, unk, unk, unk, unk, unk, unk, unk, unk, unk, unk, unk, unk, unk, unk, unk, unk, unk, unk, unk, unk, unk, unk, unk, unk, unk, unk, unk, unk, unk, unk, unk, unk, unk, unk, unk, unk, unk, unk, unk, unk, unk, unk, unk, unk, unk, unk, unk, unk, unk, unk, unk, unk, unk, unk, unk, unk, unk, unk, unk, unk, unk, unk, unk, unk, unk, unk, unk, unk, unk, unk, unk, unk, unk, unk, unk, unk, unk, unk, unk, unk, unk, unk, unk, unk, unk, unk, unk, unk, unk, unk, unk, unk, unk, unk, unk, unk, unk, unk, unk, unk, unk, unk, unk, unk, unk, unk, unk, unk, unk, unk, unk, unk, unk, unk, unk, unk, unk, unk, unk, unk, unk, unk, unk, unk, unk, unk, unk, unk, unk, unk, unk, unk, unk, unk, unk, unk, unk, unk, unk, unk, unk, unk, unk, unk, unk, unk, unk, unk, unk, unk, unk, unk, unk, unk, unk, unk, unk, unk, unk, unk, unk, unk, unk, unk] ∧ ∃ d', DH h0 m h' d' ∧ S1 a b q d d')
      (fun e t' h' => e = .exit 2 ∧ ∃ x55 x56 x57 x58, t' = [V m d.length, unk, unk, unk, unk, unk, unk, unk, unk, unk, .int .i64 (i : Nat), unk, unk, .int .i64 (i - 1 : Nat), unk, unk, unk, unk, unk, unk, unk, unk, unk, unk, unk, unk, unk, unk, unk, unk, unk, unk, unk, unk, unk, unk, unk, unk, unk, unk, unk, unk, unk, unk, unk, unk, unk, unk, unk, unk, unk, unk, unk, unk, unk, x55, x56, x57, x58, unk, unk, unk, unk, unk, unk, unk, unk, unk, unk, unk, unk, unk, unk, unk, unk, unk, unk, unk, unk, unk, unk, unk, unk, unk, unk, unk, unk, unk, unk, unk, unk, unk, unk, unk, unk, unk, unk, unk, unk, unk, unk, unk, unk, unk, unk, unk, unk, unk, unk, unk, unk, unk, unk, unk, unk, unk, unk, unk, unk, unk, unk, unk, unk, unk, unk, unk, unk, unk, unk, unk, unk, unk, unk, unk, unk, unk, unk, unk, unk, unk, unk, unk, unk, unk, unk, unk, unk, unk, unk, unk, unk, unk, unk, unk, unk, unk, unk, unk, unk, unk, unk, unk, unk, unk, unk, unk, unk, unk, unk, unk, unk, unk, unk, unk, unk, unk, unk, unk, unk, unk, unk, unk, unk, unk, unk, unk, unk, unk, unk, unk, unk, unk, unk, unk, unk, unk, unk, unk, unk, unk, unk, unk, unk, unk, unk, unk, unk, unk, unk, unk, unk, unk, unk, unk, unk, unk, unk, unk, unk, unk] ∧ ∃ d', DH h0 m h' d' ∧ S1 a b (i - 1) d d') ?_ (i - 1 - a) _ _ ⟨a, by omega, by omega, by kernel_rfl, d, hd, s1_start _ _ _⟩
    rintro k t h2' ⟨q, hq, haq, htt, d2, hd2, hS⟩
    rw [htt]
    have hlen := hS.im.len
    have wi : IntKind.i64.wrap ((i : Int) - 1) = ((i - 1 : Nat) : Int) := by rw [IntWalk.i64_in _ (by omega)]; omega
    rcases Nat.lt_or_ge q (i - 1) with h5 | h5
    · have hst := s1_step hS haq (by omega) h3
      obtain ⟨z1, z2, e1, e2, g1, n1, n2, dd⟩ := swap_mem hd2 (i := q) (j := q + 1) (by omega) (by omega)
      have gx := ints_g (d := d2) (i := q) (by omega)
      have gy := ints_g (d := d2) (i := q + 1) (by omega)
      have hg := hd2.2
      have l1 : (q : Int) + 1 < (d.length : Int) := by omega
      have l0 : (0 : Int) ≤ (q : Int) + 1 := by omega
      have l2 : q < d.length := by omega
      have cb : q + 1 ≤ (ints d2).length := by rw [ints_len]; omega
      have sa := ints_set (d := d2) (i := q) (by omega) (g d2 (q + 1))
      have ca2 : q + 1 + 1 ≤ (ints (d2.set q (g d2 (q + 1)))).length := by rw [ints_len, List.length_set]; omega
      have sb := ints_set (d := d2.set q (g d2 (q + 1))) (i := q + 1) (by rw [List.length_set]; omega) (g d2 q)
      have hinc := @inc64 q (by omega)
      have hcs := cast_succ q
      generalize hI : i - 1 = I at *
      generalize g d2 q = X at *
      generalize g d2 (q + 1) = Y at *
      simp (maxSteps := 2000000) -implicitDefEqProofs [px_skip, px_label, px_region, px_draw, qx_seq, qx_cond, px_block, px_loop, px_scope, px_exit, px_ret, seqK_normal, seqK_exit, seqK_ret, condK_true, condK_false, opsK_some, wK_true, wK_false, itK_some, aops_nil, aops_cons, lK_some, aK_some, hK_some, dwK_true, dwK_false, diK_some, dK_light, dK_alloc, dK_heavy, adraw_nil, adraw_cons, aop, cls, light, lightS, binE, aeq, intBin, goInt, pl_int, pl_bool, pl_ptr, pl_slice, aload, isAggT, aeval, tput, awanted, List.range_succ, fin, aresults, aresult, List.replicate, heavy, acallOp, aenter, ble_d, beq_d, firstRegion, readNames, Nxt, isAnc, readsOk, objEq_some, h5, wi, pt50_11, pl50_11, an50_11, hinc, l0, l1, l2, aindexAddr, sz3, Try.underlying28, hg, gx, gy, cb, ca2, sa, sb, astore, oki, g1, ← e1, ← e2, n1, n2]
      exact ⟨k - 1, by omega, q + 1, by omega, by omega, by simp (maxSteps := 2000000) only [forget, List.set_cons_succ, List.set_cons_zero, hcs], _, dd, hst⟩
    · obtain rfl : q = i - 1 := by omega
      generalize hI : i - 1 = I at *
      simp (maxSteps := 2000000) -implicitDefEqProofs [px_skip, px_label, px_region, px_draw, qx_seq, qx_cond, px_block, px_loop, px_scope, px_exit, px_ret, seqK_normal, seqK_exit, seqK_ret, condK_true, condK_false, opsK_some, wK_true, wK_false, itK_some, aops_nil, aops_cons, lK_some, aK_some, hK_some, dwK_true, dwK_false, diK_some, dK_light, dK_alloc, dK_heavy, adraw_nil, adraw_cons, aop, cls, light, lightS, binE, aeq, intBin, goInt, pl_int, pl_bool, pl_ptr, pl_slice, aload, isAggT, aeval, tput, awanted, List.range_succ, fin, aresults, aresult, List.replicate, heavy, acallOp, aenter, ble_d, beq_d, firstRegion, readNames, Nxt, isAnc, readsOk, objEq_some, wi]
      exact ⟨d2, hd2, hS⟩
  subst hx he htt
  have hdn := m1_done hL hB s2 hS
  simp (maxSteps := 2000000) -implicitDefEqProofs [px_skip, px_label, px_region, px_draw, qx_seq, qx_cond, px_block, px_loop, px_scope, px_exit, px_ret, seqK_normal, seqK_exit, seqK_ret, condK_true, condK_false, opsK_some, wK_true, wK_false, itK_some, aops_nil, aops_cons, lK_some, aK_some, hK_some, dwK_true, dwK_false, diK_some, dK_light, dK_alloc, dK_heavy, adraw_nil, adraw_cons, aop, cls, light, lightS, binE, aeq, intBin, goInt, pl_int, pl_bool, pl_ptr, pl_slice, aload, isAggT, aeval, tput, awanted, List.range_succ, fin, aresults, aresult, List.replicate, heavy, acallOp, aenter, ble_d, beq_d, firstRegion, readNames, Nxt, isAnc, readsOk, objEq_some]
  exact ⟨_, _, ⟨rfl, rfl⟩, rfl, d2, hd2, hdn⟩

set_option maxRecDepth 20000 in
set_option maxHeartbeats 3200000 in
/-- A row, and one element behind it. -/
theorem sym2 (hL : LO lo tag (clo r)) (hC : CmpH h0 m cap N r) {h : Heap} {a c : Nat} {d : List Int} (hd : DH h0 m h d) (hdom : Dom N d) (h1 : a + 1 < c) (h3 : c + 1 ≤ d.length) (hN : d.length ≤ 2 ^ 47) (s1 : Srt lo a c d) (ht : Tag tag a c (c + 1) d) :
    ∃ h' d', run Try.prog sB 50 [V m d.length, .int .i64 (a : Nat), .int .i64 (c : Nat), .int .i64 (c + 1 : Nat), CV cap] h = some (.tuple #[], h') ∧ DH h0 m h' d' ∧ Im a (c + 1) d d' ∧ Srt lo a (c + 1) d' := by
  suffices hx : ∃ y, fin Try.prog Try.f50 (aexecP Try.prog (sB 50) (run Try.prog sB) loopω pt50 (Try.f50.body.getD .skip) ([V m d.length, .int .i64 (a : Nat), .int .i64 (c : Nat), .int .i64 (c + 1 : Nat), CV cap] ++ List.replicate (Try.f50.ntmps - 5) undef) h) = some y ∧ y.1 = .tuple #[] ∧ ∃ d', DH h0 m y.2 d' ∧ Im a (c + 1) d d' ∧ Srt lo a (c + 1) d' by
    obtain ⟨⟨y1, y2⟩, hy, rfl, d', q1, q2⟩ := hx
    exact ⟨y2, d', run_finP pt50 Try.func50 rfl planned50 hy, q1, q2⟩
  obtain ⟨L, hLL⟩ : ∃ L, L = c - a := ⟨_, rfl⟩
  have w1 : IntKind.i64.wrap ((c : Int) - (a : Int)) = (L : Int) := by rw [IntWalk.i64_in _ (by omega)]; omega
  have w1' : ¬ L = 1 := by omega
  have w1'' : ¬ (L : Int) = 1 := by omega
  have w2 : IntKind.i64.wrap (((c + 1 : Nat) : Int) - (c : Int)) = 1 := by rw [IntWalk.i64_in _ (by omega)]; omega
  have cc := cast_succ c
  rw [cc] at w2
  simp (maxSteps := 2000000) -implicitDefEqProofs [Try.f50, px_skip, px_label, px_region, px_draw, qx_seq, qx_cond, px_block, px_loop, px_scope, px_exit, px_ret, seqK_normal, seqK_exit, seqK_ret, condK_true, condK_false, opsK_some, wK_true, wK_false, itK_some, aops_nil, aops_cons, lK_some, aK_some, hK_some, dwK_true, dwK_false, diK_some, dK_light, dK_alloc, dK_heavy, adraw_nil, adraw_cons, aop, cls, light, lightS, binE, aeq, intBin, goInt, pl_int, pl_bool, pl_ptr, pl_slice, aload, isAggT, aeval, tput, awanted, List.range_succ, fin, aresults, aresult, List.replicate, heavy, acallOp, aenter, ble_d, beq_d, firstRegion, readNames, Nxt, isAnc, readsOk, objEq_some, ibeq, w1, w1', w1'', cc, w2, sB50_15]
  generalize hl : loopω _ _ _ _ = rr
  obtain ⟨e, t', h', hx, he, i, x83, x84, x85, htt, rfl, hB⟩ : ∃ e t' h', rr = some (e, t', h') ∧ e = .exit 4 ∧ ∃ (i : Nat), ∃ x83 x84 x85, t' = [V m d.length, unk, .int .i64 (c : Nat), unk, CV cap, unk, unk, unk, unk, unk, unk, unk, unk, unk, .int .i64 (i : Nat), .int .i64 (i : Nat), unk, unk, unk, unk, unk, unk, unk, unk, unk, unk, unk, unk, unk, unk, unk, unk, unk, unk, unk, unk, unk, unk, unk, unk, unk, unk, unk, unk, unk, unk, unk, unk, unk, unk, unk, unk, unk, unk, unk, unk, unk, unk, unk, unk, unk, unk, unk, unk, unk, unk, unk, unk, unk, unk, unk, unk, unk, unk, unk, unk, unk, unk, unk, unk, unk, unk, unk, x83, x84, x85, unk, unk, unk, unk, unk, unk, unk, unk, unk, unk, unk, unk, unk, unk, unk, unk, unk, unk, unk, unk, unk, unk, unk, unk, unk, unk, unk, unk, unk, unk, unk, unk, unk, unk, unk, unk, unk, unk, unk, unk, unk, unk, unk, unk, unk, unk, unk, unk, unk, unk, unk, unk, unk, unk, unk, unk, unk, unk, unk, unk, unk, unk, unk, unk, unk, unk, unk, unk, unk, unk, unk, unk, unk, unk, unk, unk, unk, unk, unk, unk, unk, unk, unk, unk, unk, unk, unk, unk, unk, unk, unk, unk, unk, unk, unk, unk, unk, unk, unk, unk, unk, unk, unk, unk, unk, unk, unk, unk, unk, unk, unk, unk, unk, unk, unk, unk, unk, unk, unk, unk, unk, unk, unk, unk, unk, unk, unk, unk, unk, unk, unk, unk, unk, unk] ∧ h' = h ∧ B2 lo a c i i d := by
    rw [← hl]
    refine loop_by (fun k t h' => ∃ i j : Nat, j - i = k ∧ forget [1, 3, 5, 6, 7, 8, 9, 10, 11, 12, 13, 16, 17, 18, 19, 20, 21, 22, 23, 24, 25, 26, 27, 28, 29, 30, 31, 32, 33, 34, 35, 36, 37, 38, 39, 40, 41, 42, 43, 44, 45, 46, 47, 48, 49, 50, 51, 52, 53, 54, 55, 56, 57, 58, 59, 60, 61, 62, 63, 64, 65, 66, 67, 68, 69, 70, 71, 72, 73, 74, 75, 76, 77, 78, 79, 80, 81, 82, 83, 84, 85, 86, 87, 88, 89, 90, 91, 92, 93, 94, 95, 96, 97, 98, 99, 100, 101, 102, 103, 104, 105, 106, 107, 108, 109, 110, 111, 112, 113, 114, 115, 116, 117, 118, 119, 120, 121, 122, 123, 124, 125, 126, 127, 128, 129, 130, 131, 132, 133, 134, 135, 136, 137, 138, 139, 140, 141, 142, 143, 144, 145, 146, 147, 148, 149, 150, 151, 152, 153, 154, 155, 156, 157, 158, 159, 160, 161, 162, 163, 164, 165, 166, 167, 168, 169, 170, 171, 172, 173, 174, 175, 176, 177, 178, 179, 180, 181, 182, 183, 184, 185, 186, 187, 188, 189, 190, 191, 192, 193, 194, 195, 196, 197, 198, 199, 200, 201, 202, 203, 204, 205, 206, 207, 208, 209, 210, 211, 212, 213, 214, 215, 216, 217, 218, 219] t = [V m d.length, unk, .int .i64 (c : Nat), unk, CV cap, unk, unk, unk, unk, unk, unk, unk, unk, unk, .int .i64 (i : Nat), .int .i64 (j : Nat), unk, unk, unk, unk, unk, unk, unk, unk, unk, unk, unk, unk, unk, unk, unk, unk, unk, unk, unk, unk, unk, unk, unk, unk, unk, unk, unk, unk, unk, unk, unk, unk, unk, unk, unk, unk, unk, unk, unk, unk, unk, unk, unk, unk, unk, unk, unk, unk, unk, unk, unk, unk, unk, unk, unk, unk, unk, unk, unk, unk, unk, unk, unk, unk, unk, unk, unk, unk, unk, unk, unk, unk, unk, unk, unk, unk, unk, unk, unk, unk, unk, unk, unk, unk, unk, unk, unk, unk, unk, unk, unk, unk, unk, unk, unk, unk, unk, unk, unk, unk, unk, unk, unk, unk, unk, unk, unk, unk, unk, unk, unk, unk, unk, unk, unk, unk, unk, unk, unk, unk, unk, unk, unk, unk, unk, unk, unk, unk, unk, unk, unk, unk, unk, unk, unk, unk, unk, unk, unk, unk, unk, unk, unk, unk, unk, unk, unk, unk, unk, unk, unk, unk, unk, unk, unk, unk, unk, unk, unk, unk, unk, unk, unk, unk, unk, unk, unk, unk, unk, unk, unk, unk, unk, unk, unk, unk, unk, unk, unk, unk, unk, unk, unk, unk, unk, unk, unk, unk, unk, unk, unk, unk, unk, unk, unk, unk, unk, unk, unk, unk, unk, unk, unk, unk] ∧ h' = h ∧ B2 lo a c i j d)
      (fun e t' h' => e = .exit 4 ∧ ∃ (i : Nat), ∃ x83 x84 x85, t' = [V m d.length, unk, .int .i64 (c : Nat), unk, CV cap, unk, unk, unk, unk, unk, unk, unk, unk, unk, .int .i64 (i : Nat), .int .i64 (i : Nat), unk, unk, unk, unk, unk, unk, unk, unk, unk, unk, unk, unk, unk, unk, unk, unk, unk, unk, unk, unk, unk, unk, unk, unk, unk, unk, unk, unk, unk, unk, unk, unk, unk, unk, unk, unk, unk, unk, unk, unk, unk, unk, unk, unk, unk, unk, unk, unk, unk, unk, unk, unk, unk, unk, unk, unk, unk, unk, unk, unk, unk, unk, unk, unk, unk, unk, unk, x83, x84, x85, unk, unk, unk, unk, unk, unk, unk, unk, unk, unk, unk, unk, unk, unk, unk, unk, unk, unk, unk, unk, unk, unk, unk, unk, unk, unk, unk, unk, unk, unk, unk, unk, unk, unk, unk, unk, unk, unk, unk, unk, unk, unk, unk, unk, unk, unk, unk, unk, unk, unk, unk, unk, unk, unk, unk, unk, unk, unk, unk, unk, unk, unk, unk, unk, unk, unk, unk, unk, unk, unk, unk, unk, unk, unk, unk, unk, unk, unk, unk, unk, unk, unk, unk, unk, unk, unk, unk, unk, unk, unk, unk, unk, unk, unk, unk, unk, unk, unk, unk, unk, unk, unk, unk, unk, unk, unk, unk, unk, unk, unk, unk, unk, unk, unk, unk, unk, unk, unk, unk, unk, unk, unk, unk, unk, unk, unk, unk, unk, unk, unk, unk, unk, unk, unk] ∧ h' = h ∧ B2 lo a c i i d) ?_ (c - a) _ _ ⟨a, c, rfl, by kernel_rfl, rfl, by omega, by omega, by omega, .inl rfl, .inl rfl⟩
    rintro k t h' ⟨i, j, rfl, htt, rfl, hB⟩
    rw [htt]
    have q1 := hB.mi
    have q2 := hB.ij
    have q3 := hB.jb
    rcases Nat.lt_or_ge i j with h5 | h5
    · obtain ⟨s, hs⟩ : ∃ s, s = i + j := ⟨_, rfl⟩
      obtain ⟨hm, hhm⟩ : ∃ hm, s / 2 = hm := ⟨_, rfl⟩
      have ws : IntKind.i64.wrap ((i : Int) + (j : Int)) = (s : Int) := by rw [IntWalk.i64_in _ (by omega)]; omega
      have k1 := fun t x hx => cvu t x s hx (by omega)
      have k2 := fun t x y hx hy => shu t x y s hm hx hy hhm
      have k3 := fun t x hx => cvi t x hm hx (by omega)
      have gx := ints_g (d := d) (i := c) (by omega)
      have gy := ints_g (d := d) (i := hm) (by omega)
      have dx := hdom.g (i := c) (by omega)
      have dy := hdom.g (i := hm) (by omega)
      have ec := hC h' hd.1 (g d c) (g d hm) dx.1 dx.2 dy.1 dy.2
      have l1 : c < d.length := by omega
      have l2 : hm < d.length := by omega
      have hg := hd.2
      have hinc := @inc64 hm (by omega)
      have hcs := cast_succ hm
      cases hcl : clo r (g d c) (g d hm) with
      | true =>
        have hr : r (g d c) (g d hm) < 0 := by simpa [clo] using hcl
        have hB2 := b2_down hL hB (h := hm) (by omega) (by omega) ht hcl
        generalize g d hm = X at *
        generalize g d c = Y at *
        simp (maxSteps := 2000000) -implicitDefEqProofs [px_skip, px_label, px_region, px_draw, qx_seq, qx_cond, px_block, px_loop, px_scope, px_exit, px_ret, seqK_normal, seqK_exit, seqK_ret, condK_true, condK_false, opsK_some, wK_true, wK_false, itK_some, aops_nil, aops_cons, lK_some, aK_some, hK_some, dwK_true, dwK_false, diK_some, dK_light, dK_alloc, dK_heavy, adraw_nil, adraw_cons, aop, cls, light, lightS, binE, aeq, intBin, goInt, pl_int, pl_bool, pl_ptr, pl_slice, aload, isAggT, aeval, tput, awanted, List.range_succ, fin, aresults, aresult, List.replicate, heavy, acallOp, aenter, ble_d, beq_d, firstRegion, readNames, Nxt, isAnc, readsOk, objEq_some, h5, pt50_17, pl50_17, an50_17, ws, k1, k2, k3, aindexAddr, sz3, Try.underlying28, hg, gx, gy, l1, l2, en37, ec, hr, hinc]
        exact ⟨hm - i, by omega, i, hm, rfl, by simp (maxSteps := 2000000) only [forget, List.set_cons_succ, List.set_cons_zero], hB2⟩
      | false =>
        have hr : ¬ r (g d c) (g d hm) < 0 := by simpa [clo] using hcl
        have hB2 := b2_up hL hB (h := hm) (by omega) (by omega) ht hcl
        generalize g d hm = X at *
        generalize g d c = Y at *
        simp (maxSteps := 2000000) -implicitDefEqProofs [px_skip, px_label, px_region, px_draw, qx_seq, qx_cond, px_block, px_loop, px_scope, px_exit, px_ret, seqK_normal, seqK_exit, seqK_ret, condK_true, condK_false, opsK_some, wK_true, wK_false, itK_some, aops_nil, aops_cons, lK_some, aK_some, hK_some, dwK_true, dwK_false, diK_some, dK_light, dK_alloc, dK_heavy, adraw_nil, adraw_cons, aop, cls, light, lightS, binE, aeq, intBin, goInt, pl_int, pl_bool, pl_ptr, pl_slice, aload, isAggT, aeval, tput, awanted, List.range_succ, fin, aresults, aresult, List.replicate, heavy, acallOp, aenter, ble_d, beq_d, firstRegion, readNames, Nxt, isAnc, readsOk, objEq_some, h5, pt50_17, pl50_17, an50_17, ws, k1, k2, k3, aindexAddr, sz3, Try.underlying28, hg, gx, gy, l1, l2, en37, ec, hr, hinc]
        exact ⟨j - (hm + 1), by omega, hm + 1, j, rfl, by simp (maxSteps := 2000000) only [forget, List.set_cons_succ, List.set_cons_zero, hcs], hB2⟩
    · obtain rfl : i = j := by omega
      simp (maxSteps := 2000000) -implicitDefEqProofs [px_skip, px_label, px_region, px_draw, qx_seq, qx_cond, px_block, px_loop, px_scope, px_exit, px_ret, seqK_normal, seqK_exit, seqK_ret, condK_true, condK_false, opsK_some, wK_true, wK_false, itK_some, aops_nil, aops_cons, lK_some, aK_some, hK_some, dwK_true, dwK_false, diK_some, dK_light, dK_alloc, dK_heavy, adraw_nil, adraw_cons, aop, cls, light, lightS, binE, aeq, intBin, goInt, pl_int, pl_bool, pl_ptr, pl_slice, aload, isAggT, aeval, tput, awanted, List.range_succ, fin, aresults, aresult, List.replicate, heavy, acallOp, aenter, ble_d, beq_d, firstRegion, readNames, Nxt, isAnc, readsOk, objEq_some]
      exact ⟨i, rfl, hB⟩
  subst hx he htt
  clear hl
  have q1 := hB.mi
  have q3 := hB.jb
  simp (maxSteps := 2000000) -implicitDefEqProofs [px_skip, px_label, px_region, px_draw, qx_seq, qx_cond, px_block, px_loop, px_scope, px_exit, px_ret, seqK_normal, seqK_exit, seqK_ret, condK_true, condK_false, opsK_some, wK_true, wK_false, itK_some, aops_nil, aops_cons, lK_some, aK_some, hK_some, dwK_true, dwK_false, diK_some, dK_light, dK_alloc, dK_heavy, adraw_nil, adraw_cons, aop, cls, light, lightS, binE, aeq, intBin, goInt, pl_int, pl_bool, pl_ptr, pl_slice, aload, isAggT, aeval, tput, awanted, List.range_succ, fin, aresults, aresult, List.replicate, heavy, acallOp, aenter, ble_d, beq_d, firstRegion, readNames, Nxt, isAnc, readsOk, objEq_some, sB50_21]
  generalize hl : loopω _ _ _ _ = rr
  obtain ⟨e, t', h2', hx, he, x108, x109, x110, htt, d2, hd2, hS⟩ : ∃ e t' h', rr = some (e, t', h') ∧ e = .exit 6 ∧ ∃ x108 x109 x110, t' = [V m d.length, unk, unk, unk, unk, unk, unk, unk, unk, unk, unk, unk, unk, unk, .int .i64 (i : Nat), unk, unk, .int .i64 (i : Nat), unk, unk, unk, unk, unk, unk, unk, unk, unk, unk, unk, unk, unk, unk, unk, unk, unk, unk, unk, unk, unk, unk, unk, unk, unk, unk, unk, unk, unk, unk, unk, unk, unk, unk, unk, unk, unk, unk, unk, unk, unk, unk, unk, unk, unk, unk, unk, unk, unk, unk, unk, unk, unk, unk, unk, unk, unk, unk, unk, unk, unk, unk, unk, unk, unk, unk, unk, unk, unk, unk, unk, unk, unk, unk, unk, unk, unk, unk, unk, unk, unk, unk, unk, unk, unk, unk, unk, unk, unk, unk, x108, x109, x110, unk, unk, unk, unk, unk, unk, unk, unk, unk, unk, unk, unk, unk, unk, unk, unk, unk, unk, unk, unk, unk, unk, unk, unk, unk, unk, unk, unk, unk, unk, unk, unk, unk, unk, unk, unk, unk, unk, unk, unk, unk, unk, unk, unk, unk, unk, unk, unk, unk, unk, unk, unk, unk, unk, unk, unk, unk, unk, unk, unk, unk, unk, unk, unk, unk, unk, unk, unk, unk, unk, unk, unk, unk, unk, unk, unk, unk, unk, unk, unk, unk, unk, unk, unk, unk, unk, unk, unk, unk, unk, unk, unk, unk, unk, unk, unk, unk, unk, unk, unk, unk, unk, unk, unk, unk, unk, unk, unk, unk] ∧ ∃ d', DH h0 m h' d' ∧ S2 a c i d d' := by
    rw [← hl]
    refine loop_by (fun k t h' => forget [1, 2, 3, 4, 5, 6, 7, 8, 9, 10, 11, 12, 13, 15, 16, 18, 19, 20, 21, 22, 23, 24, 25, 26, 27, 28, 29, 30, 31, 32, 33, 34, 35, 36, 37, 38, 39, 40, 41, 42, 43, 44, 45, 46, 47, 48, 49, 50, 51, 52, 53, 54, 55, 56, 57, 58, 59, 60, 61, 62, 63, 64, 65, 66, 67, 68, 69, 70, 71, 72, 73, 74, 75, 76, 77, 78, 79, 80, 81, 82, 83, 84, 85, 86, 87, 88, 89, 90, 91, 92, 93, 94, 95, 96, 97, 98, 99, 100, 101, 102, 103, 104, 105, 106, 107, 108, 109, 110, 111, 112, 113, 114, 115, 116, 117, 118, 119, 120, 121, 122, 123, 124, 125, 126, 127, 128, 129, 130, 131, 132, 133, 134, 135, 136, 137, 138, 139, 140, 141, 142, 143, 144, 145, 146, 147, 148, 149, 150, 151, 152, 153, 154, 155, 156, 157, 158, 159, 160, 161, 162, 163, 164, 165, 166, 167, 168, 169, 170, 171, 172, 173, 174, 175, 176, 177, 178, 179, 180, 181, 182, 183, 184, 185, 186, 187, 188, 189, 190, 191, 192, 193, 194, 195, 196, 197, 198, 199, 200, 201, 202, 203, 204, 205, 206, 207, 208, 209, 210, 211, 212, 213, 214, 215, 216, 217, 218, 219] t = [V m d.length, unk, unk, unk, unk, unk, unk, unk, unk, unk, unk, unk, unk, unk, .int .i64 (i : Nat), unk, unk, .int .i64 (k : Nat), unk, unk, unk, unk, unk, unk, unk, unk, unk, unk, unk, unk, unk, unk, unk, unk, unk, unk, unk, unk, unk, unk, unk, unk, unk, unk, unk, unk, unk, unk, unk, unk, unk, unk, unk, unk, unk, unk, unk, unk, unk, unk, unk, unk, unk, unk, unk, unk, unk, unk, unk, unk, unk, unk, unk, unk, unk, unk, unk, unk, unk, unk, unk, unk, unk, unk, unk, unk, unk, unk, unk, unk, unk, unk, unk, unk, unk, unk, unk, unk, unk, unk, unk, unk, unk, unk, unk, unk, unk, unk, unk, unk, unk, unk, unk, unk, unk, unk, unk, unk, unk, unk, unk, unk, unk, unk, unk, unk, unk, unk, unk, unk, unk, unk, unk, unk, unk, unk, unk, unk, unk, unk, unk, unk, unk, unk, unk, unk, unk, unk, unk, unk, unk, unk, unk, unk, unk, unk, unk, unk, unk, unk, unk, unk, unk, unk, unk, unk, unk, unk, unk, unk, unk, unk, unk, unk, unk, unk, unk, unk, unk, unk, unk, unk, unk, unk, unk, unk, unk, unk, unk, unk, unk, unk, unk, unk, unk, unk, unk, unk, unk, unk, unk, unk, unk, unk, unk, unk, unk, unk, unk, unk, unk, unk, unk, unk, unk, unk, unk, unk, unk, unk] ∧ i ≤ k ∧ k ≤ c ∧ ∃ d', DH h0 m h' d' ∧ S2 a c k d d')
      (fun e t' h' => e = .exit 6 ∧ ∃ x108 x109 x110, t' = [V m d.length, unk, unk, unk, unk, unk, unk, unk, unk, unk, unk, unk, unk, unk, .int .i64 (i : Nat), unk, unk, .int .i64 (i : Nat), unk, unk, unk, unk, unk, unk, unk, unk, unk, unk, unk, unk, unk, unk, unk, unk, unk, unk, unk, unk, unk, unk, unk, unk, unk, unk, unk, unk, unk, unk, unk, unk, unk, unk, unk, unk, unk, unk, unk, unk, unk, unk, unk, unk, unk, unk, unk, unk, unk, unk, unk, unk, unk, unk, unk, unk, unk, unk, unk, unk, unk, unk, unk, unk, unk, unk, unk, unk, unk, unk, unk, unk, unk, unk, unk, unk, unk, unk, unk, unk, unk, unk, unk, unk, unk, unk, unk, unk, unk, unk, x108, x109, x110, unk, unk, unk, unk, unk, unk, unk, unk, unk, unk, unk, unk, unk, unk, unk, unk, unk, unk, unk, unk, unk, unk, unk, unk, unk, unk, unk, unk, unk, unk, unk, unk, unk, unk, unk, unk, unk, unk, unk, unk, unk, unk, unk, unk, unk, unk, unk, unk, unk, unk, unk, unk, unk, unk, unk, unk, unk, unk, unk, unk, unk, unk, unk, unk, unk, unk, unk, unk, unk, unk, unk, unk, unk, unk, unk, unk, unk, unk, unk, unk, unk, unk, unk, unk, unk, unk, unk, unk, unk, unk, unk, unk, unk, unk, unk, unk, unk, unk, unk, unk, unk, unk, unk, unk, unk, unk, unk, unk, unk] ∧ ∃ d', DH h0 m h' d' ∧ S2 a c i d d') ?_ c _ _ ⟨by kernel_rfl, by omega, by omega, d, hd, s2_start _ _ _⟩
    rintro k t h2' ⟨htt, hik, hkc, d2, hd2, hS⟩
    rw [htt]
    have hlen := hS.im.len
    rcases Nat.lt_or_ge i k with h5 | h5
    · obtain ⟨q, rfl⟩ : ∃ q, k = q + 1 := ⟨k - 1, by omega⟩
      have hst := s2_step hS (by omega) hkc (by omega)
      obtain ⟨z1, z2, e1, e2, g1, n1, n2, dd⟩ := swap_mem hd2 (i := q + 1) (j := q) (by omega) (by omega)
      have gx := ints_g (d := d2) (i := q) (by omega)
      have gy := ints_g (d := d2) (i := q + 1) (by omega)
      have hg := hd2.2
      have l1 : (q : Int) + 1 < (d.length : Int) := by omega
      have l0 : (0 : Int) ≤ (q : Int) + 1 := by omega
      have l2 : q < d.length := by omega
      have l3 : (i : Int) < (q : Int) + 1 := by omega
      have cb : q + 1 + 1 ≤ (ints d2).length := by rw [ints_len]; omega
      have sa := ints_set (d := d2) (i := q + 1) (by omega) (g d2 q)
      have ca2 : q + 1 ≤ (ints (d2.set (q + 1) (g d2 q))).length := by rw [ints_len, List.length_set]; omega
      have sb := ints_set (d := d2.set (q + 1) (g d2 q)) (i := q) (by rw [List.length_set]; omega) (g d2 (q + 1))
      have w3 : IntKind.i64.wrap (q : Int) = (q : Int) := IntWalk.i64_in _ (by omega)
      have cq := cast_succ q
      generalize g d2 q = X at *
      generalize g d2 (q + 1) = Y at *
      simp (maxSteps := 2000000) -implicitDefEqProofs [px_skip, px_label, px_region, px_draw, qx_seq, qx_cond, px_block, px_loop, px_scope, px_exit, px_ret, seqK_normal, seqK_exit, seqK_ret, condK_true, condK_false, opsK_some, wK_true, wK_false, itK_some, aops_nil, aops_cons, lK_some, aK_some, hK_some, dwK_true, dwK_false, diK_some, dK_light, dK_alloc, dK_heavy, adraw_nil, adraw_cons, aop, cls, light, lightS, binE, aeq, intBin, goInt, pl_int, pl_bool, pl_ptr, pl_slice, aload, isAggT, aeval, tput, awanted, List.range_succ, fin, aresults, aresult, List.replicate, heavy, acallOp, aenter, ble_d, beq_d, firstRegion, readNames, Nxt, isAnc, readsOk, objEq_some, cq, l3, w3, pt50_23, pl50_23, an50_23, l0, l1, l2, aindexAddr, sz3, Try.underlying28, hg, gx, gy, cb, ca2, sa, sb, astore, oki, g1, ← e1, ← e2, n1, n2]
      exact ⟨q, by omega, by simp (maxSteps := 2000000) only [forget, List.set_cons_succ, List.set_cons_zero], by omega, by omega, _, dd, hst⟩
    · obtain rfl : k = i := by omega
      simp (maxSteps := 2000000) -implicitDefEqProofs [px_skip, px_label, px_region, px_draw, qx_seq, qx_cond, px_block, px_loop, px_scope, px_exit, px_ret, seqK_normal, seqK_exit, seqK_ret, condK_true, condK_false, opsK_some, wK_true, wK_false, itK_some, aops_nil, aops_cons, lK_some, aK_some, hK_some, dwK_true, dwK_false, diK_some, dK_light, dK_alloc, dK_heavy, adraw_nil, adraw_cons, aop, cls, light, lightS, binE, aeq, intBin, goInt, pl_int, pl_bool, pl_ptr, pl_slice, aload, isAggT, aeval, tput, awanted, List.range_succ, fin, aresults, aresult, List.replicate, heavy, acallOp, aenter, ble_d, beq_d, firstRegion, readNames, Nxt, isAnc, readsOk, objEq_some]
      exact ⟨d2, hd2, hS⟩
  subst hx he htt
  have hdn := m2_done hL hB s1 hS
  simp (maxSteps := 2000000) -implicitDefEqProofs [px_skip, px_label, px_region, px_draw, qx_seq, qx_cond, px_block, px_loop, px_scope, px_exit, px_ret, seqK_normal, seqK_exit, seqK_ret, condK_true, condK_false, opsK_some, wK_true, wK_false, itK_some, aops_nil, aops_cons, lK_some, aK_some, hK_some, dwK_true, dwK_false, diK_some, dK_light, dK_alloc, dK_heavy, adraw_nil, adraw_cons, aop, cls, light, lightS, binE, aeq, intBin, goInt, pl_int, pl_bool, pl_ptr, pl_slice, aload, isAggT, aeval, tput, awanted, List.range_succ, fin, aresults, aresult, List.replicate, heavy, acallOp, aenter, ble_d, beq_d, firstRegion, readNames, Nxt, isAnc, readsOk, objEq_some]
  exact ⟨_, _, ⟨rfl, rfl⟩, rfl, d2, hd2, hdn⟩
/-- What the merge is asked, and what it answers. -/
def SymAt (lo : Int → Int → Prop) (tag : Int → Int) (h0 : Heap) (m : Nat) (cap : Value) (N : Int) (a c b : Nat) : Prop :=
  ∀ (h : Heap) (d : List Int), DH h0 m h d → Dom N d → b ≤ d.length → d.length ≤ 2 ^ 47 → Srt lo a c d → Srt lo c b d → Tag tag a c b d →
    ∃ h' d', run Try.prog sB 50 [V m d.length, .int .i64 (a : Nat), .int .i64 (c : Nat), .int .i64 (b : Nat), CV cap] h = some (.tuple #[], h') ∧ DH h0 m h' d' ∧ Im a b d d' ∧ Srt lo a b d'

end Go.Proofs.Ythkefkpmgleolab.Bi
