/- The library's stable sort. -/
import Derived.Test.YthkefkpmgleolabBi15
set_option linter.unusedVariables false
set_option linter.unusedSimpArgs false
namespace Go.Proofs.Ythkefkpmgleolab.Bi
open Go Go.Proofs Go.RowKit Go.Proofs.YthkefkpmgleolabAI Go.Proofs.YthkefkpmgleolabFl Go.Proofs.YthkefkpmgleolabSrt

variable {lo : Int → Int → Prop} {tag : Int → Int} {r : Int → Int → Int} {h0 : Heap} {m : Nat} {cap : Value} {N : Int}
/-- Equal (so that simp leaves it). -/
def EqN (a b : Nat) : Prop := a = b
set_option maxRecDepth 20000 in
set_option maxHeartbeats 3200000 in
theorem stable_run (hL : LO lo tag (clo r)) (hC : CmpH h0 m cap N r) (hS : ∀ a c b, a < c → c < b → SymAt lo tag h0 m cap N a c b) {h : Heap} {d : List Int} (hd : DH h0 m h d) (hdom : Dom N d) (hN : d.length ≤ 2 ^ 47) (ha : Asc tag 0 d.length d) :
    ∃ h' d', run Try.prog sB 47 [V m d.length, .int .i64 (d.length : Nat), CV cap] h = some (.tuple #[], h') ∧ DH h0 m h' d' ∧ Im 0 d.length d d' ∧ Srt lo 0 d.length d' := by
  suffices hx : ∃ y, fin Try.prog Try.f47 (aexecP Try.prog (sB 47) (run Try.prog sB) loopω pt47 (Try.f47.body.getD .skip) ([V m d.length, .int .i64 (d.length : Nat), CV cap] ++ List.replicate (Try.f47.ntmps - 3) undef) h) = some y ∧ y.1 = .tuple #[] ∧ ∃ d', DH h0 m y.2 d' ∧ Im 0 d.length d d' ∧ Srt lo 0 d.length d' by
    obtain ⟨⟨y1, y2⟩, hy, rfl, d', q1, q2⟩ := hx
    exact ⟨y2, d', run_finP pt47 Try.func47 rfl planned47 hy, q1, q2⟩
  generalize hn : d.length = n at *
  simp (maxSteps := 2000000) -implicitDefEqProofs [Try.f47, px_skip, px_label, px_region, px_draw, qx_seq, qx_cond, px_block, px_loop, px_scope, px_exit, px_ret, seqK_normal, seqK_exit, seqK_ret, condK_true, condK_false, opsK_some, wK_true, wK_false, itK_some, aops_nil, aops_cons, lK_some, aK_some, hK_some, dwK_true, dwK_false, diK_some, dK_light, dK_alloc, dK_heavy, adraw_nil, adraw_cons, aop, cls, light, lightS, binE, aeq, intBin, goInt, pl_int, pl_bool, pl_ptr, pl_slice, aload, isAggT, aeval, tput, awanted, List.range_succ, fin, aresults, aresult, List.replicate, heavy, acallOp, aenter, ble_d, beq_d, firstRegion, readNames, Nxt, isAnc, readsOk, objEq_some, sB47_2]
  generalize hl : loopω _ _ _ _ = rr
  obtain ⟨e, t', h', hx, he, p, B, hB, x11, x12, x13, ht, hpn, d1, hd1, hF⟩ : ∃ e t' h', rr = some (e, t', h') ∧ e = .exit 0 ∧ ∃ (p B : Nat), EqN B (p + 20) ∧ ∃ x11 x12 x13, t' = [V m n, .int .i64 (n : Nat), CV cap, unk, unk, unk, .int .i64 20, .int .i64 (p : Nat), .int .i64 (B : Nat), unk, unk, x11, x12, x13, unk, unk, unk, unk, unk, unk, unk, unk, unk, unk, unk, unk, unk, unk, unk, unk, unk, unk, unk, unk, unk, unk, unk, unk, unk, unk, unk, unk, unk, unk, unk, unk, unk, unk, unk, unk, unk, unk, unk, unk, unk, unk, unk, unk, unk, unk, unk, unk, unk] ∧ n < p + 20 ∧ ∃ d', DH h0 m h' d' ∧ Fi lo tag n p d d' := by
    rw [← hl]
    refine loop_by (fun k t h' => ∃ p B : Nat, EqN B (p + 20) ∧ n - p = k ∧ forget [3, 4, 5, 9, 10, 11, 12, 13, 14, 15, 16, 17, 18, 19, 20, 21, 22, 23, 24, 25, 26, 27, 28, 29, 30, 31, 32, 33, 34, 35, 36, 37, 38, 39, 40, 41, 42, 43, 44, 45, 46, 47, 48, 49, 50, 51, 52, 53, 54, 55, 56, 57, 58, 59, 60, 61, 62] t = [V m n, .int .i64 (n : Nat), CV cap, unk, unk, unk, .int .i64 20, .int .i64 (p : Nat), .int .i64 (B : Nat), unk, unk, unk, unk, unk, unk, unk, unk, unk, unk, unk, unk, unk, unk, unk, unk, unk, unk, unk, unk, unk, unk, unk, unk, unk, unk, unk, unk, unk, unk, unk, unk, unk, unk, unk, unk, unk, unk, unk, unk, unk, unk, unk, unk, unk, unk, unk, unk, unk, unk, unk, unk, unk, unk] ∧ ∃ d', DH h0 m h' d' ∧ Fi lo tag n p d d')
      (fun e t' h' => e = .exit 0 ∧ ∃ (p B : Nat), EqN B (p + 20) ∧ ∃ x11 x12 x13, t' = [V m n, .int .i64 (n : Nat), CV cap, unk, unk, unk, .int .i64 20, .int .i64 (p : Nat), .int .i64 (B : Nat), unk, unk, x11, x12, x13, unk, unk, unk, unk, unk, unk, unk, unk, unk, unk, unk, unk, unk, unk, unk, unk, unk, unk, unk, unk, unk, unk, unk, unk, unk, unk, unk, unk, unk, unk, unk, unk, unk, unk, unk, unk, unk, unk, unk, unk, unk, unk, unk, unk, unk, unk, unk, unk, unk] ∧ n < p + 20 ∧ ∃ d', DH h0 m h' d' ∧ Fi lo tag n p d d') ?_ n _ _ ⟨0, 20, rfl, by omega, by kernel_rfl, d, hd, fi_start ha⟩
    rintro k t h' ⟨p, B, hB, rfl, ht, d1, hd1, hF⟩
    have hB' : B = p + 20 := hB
    replace hB := hB'
    clear hB'
    rw [ht]
    have hlen := hF.im.len
    by_cases h1 : B ≤ n
    · obtain ⟨h2, d2, e49, hd2, him, hs⟩ := ins_run hL hC hd1 (hdom.perm hF.im.perm) (a := p) (b := B) (by omega) (by omega) (by omega) (fi_asc hF ha (by omega))
      rw [hlen, hn] at e49
      have hF2 := fi_step hF (by omega) (by rw [← hB]; exact him) (by rw [← hB]; exact hs)
      rw [← hB] at hF2
      have w1 : IntKind.i64.wrap ((B : Int) + 20) = ((B + 20 : Nat) : Int) := by rw [IntWalk.i64_in _ (by omega)]; omega
      have c1 : ((B + 20 : Nat) : Int) = (B : Int) + 20 := by omega
      simp (maxSteps := 2000000) -implicitDefEqProofs [px_skip, px_label, px_region, px_draw, qx_seq, qx_cond, px_block, px_loop, px_scope, px_exit, px_ret, seqK_normal, seqK_exit, seqK_ret, condK_true, condK_false, opsK_some, wK_true, wK_false, itK_some, aops_nil, aops_cons, lK_some, aK_some, hK_some, dwK_true, dwK_false, diK_some, dK_light, dK_alloc, dK_heavy, adraw_nil, adraw_cons, aop, cls, light, lightS, binE, aeq, intBin, goInt, pl_int, pl_bool, pl_ptr, pl_slice, aload, isAggT, aeval, tput, awanted, List.range_succ, fin, aresults, aresult, List.replicate, heavy, acallOp, aenter, ble_d, beq_d, firstRegion, readNames, Nxt, isAnc, readsOk, objEq_some, h1, en49, e49, w1]
      exact ⟨n - B, by omega, B, B + 20, rfl, rfl, by simp (maxSteps := 2000000) only [forget, List.set_cons_succ, List.set_cons_zero, c1], d2, hd2, hF2⟩
    · simp (maxSteps := 2000000) -implicitDefEqProofs [px_skip, px_label, px_region, px_draw, qx_seq, qx_cond, px_block, px_loop, px_scope, px_exit, px_ret, seqK_normal, seqK_exit, seqK_ret, condK_true, condK_false, opsK_some, wK_true, wK_false, itK_some, aops_nil, aops_cons, lK_some, aK_some, hK_some, dwK_true, dwK_false, diK_some, dK_light, dK_alloc, dK_heavy, adraw_nil, adraw_cons, aop, cls, light, lightS, binE, aeq, intBin, goInt, pl_int, pl_bool, pl_ptr, pl_slice, aload, isAggT, aeval, tput, awanted, List.range_succ, fin, aresults, aresult, List.replicate, heavy, acallOp, aenter, ble_d, beq_d, firstRegion, readNames, Nxt, isAnc, readsOk, objEq_some, h1]
      exact ⟨p, B, hB, ⟨rfl, rfl⟩, by omega, d1, hd1, hF⟩
  subst hx he ht
  clear hl
  have hB' : B = p + 20 := hB
  have hlen := hF.im.len
  have hpn2 := hF.pn
  obtain ⟨h2, d2, e49, hd2, him, hs⟩ := ins_run hL hC hd1 (hdom.perm hF.im.perm) (a := p) (b := n) hpn2 (by omega) (by omega) (fi_asc hF ha (by omega))
  rw [hlen, hn] at e49
  have hK := fi_done hF hpn him hs
  have e49' := e49
  simp (maxSteps := 2000000) -implicitDefEqProofs [px_skip, px_label, px_region, px_draw, qx_seq, qx_cond, px_block, px_loop, px_scope, px_exit, px_ret, seqK_normal, seqK_exit, seqK_ret, condK_true, condK_false, opsK_some, wK_true, wK_false, itK_some, aops_nil, aops_cons, lK_some, aK_some, hK_some, dwK_true, dwK_false, diK_some, dK_light, dK_alloc, dK_heavy, adraw_nil, adraw_cons, aop, cls, light, lightS, binE, aeq, intBin, goInt, pl_int, pl_bool, pl_ptr, pl_slice, aload, isAggT, aeval, tput, awanted, List.range_succ, fin, aresults, aresult, List.replicate, heavy, acallOp, aenter, ble_d, beq_d, firstRegion, readNames, Nxt, isAnc, readsOk, objEq_some, en49, e49', sB47_7]
  clear hF him hs hd1 e49 e49'
  generalize hl : loopω _ _ _ _ = rr
  obtain ⟨e, t', h', hx, he, bs, x28, x29, x30, ht, hbn, d1, hd1, hK⟩ : ∃ e t' h', rr = some (e, t', h') ∧ e = .exit 2 ∧ ∃ (bs : Nat), ∃ x28 x29 x30, t' = [V m n, .int .i64 (n : Nat), CV cap, unk, unk, unk, .int .i64 (bs : Nat), unk, unk, unk, unk, unk, unk, unk, unk, unk, unk, unk, unk, unk, unk, unk, unk, unk, unk, unk, unk, unk, x28, x29, x30, unk, unk, unk, unk, unk, unk, unk, unk, unk, unk, unk, unk, unk, unk, unk, unk, unk, unk, unk, unk, unk, unk, unk, unk, unk, unk, unk, unk, unk, unk, unk, unk] ∧ n ≤ bs ∧ ∃ d', DH h0 m h' d' ∧ Bk lo tag n bs 0 d d' := by
    rw [← hl]
    refine loop_by (fun k t h' => ∃ bs : Nat, 0 < bs ∧ bs ≤ 2 * n + 20 ∧ 2 * n + 20 - bs = k ∧ forget [3, 4, 5, 7, 8, 9, 10, 11, 12, 13, 14, 15, 16, 17, 18, 19, 20, 21, 22, 23, 24, 25, 26, 27, 28, 29, 30, 31, 32, 33, 34, 35, 36, 37, 38, 39, 40, 41, 42, 43, 44, 45, 46, 47, 48, 49, 50, 51, 52, 53, 54, 55, 56, 57, 58, 59, 60, 61, 62] t = [V m n, .int .i64 (n : Nat), CV cap, unk, unk, unk, .int .i64 (bs : Nat), unk, unk, unk, unk, unk, unk, unk, unk, unk, unk, unk, unk, unk, unk, unk, unk, unk, unk, unk, unk, unk, unk, unk, unk, unk, unk, unk, unk, unk, unk, unk, unk, unk, unk, unk, unk, unk, unk, unk, unk, unk, unk, unk, unk, unk, unk, unk, unk, unk, unk, unk, unk, unk, unk, unk, unk] ∧ ∃ d', DH h0 m h' d' ∧ Bk lo tag n bs 0 d d')
      (fun e t' h' => e = .exit 2 ∧ ∃ (bs : Nat), ∃ x28 x29 x30, t' = [V m n, .int .i64 (n : Nat), CV cap, unk, unk, unk, .int .i64 (bs : Nat), unk, unk, unk, unk, unk, unk, unk, unk, unk, unk, unk, unk, unk, unk, unk, unk, unk, unk, unk, unk, unk, x28, x29, x30, unk, unk, unk, unk, unk, unk, unk, unk, unk, unk, unk, unk, unk, unk, unk, unk, unk, unk, unk, unk, unk, unk, unk, unk, unk, unk, unk, unk, unk, unk, unk, unk] ∧ n ≤ bs ∧ ∃ d', DH h0 m h' d' ∧ Bk lo tag n bs 0 d d') ?_ (2 * n + 20 - 20) _ _ ⟨20, by omega, by omega, rfl, by kernel_rfl, d2, hd2, hK⟩
    clear hl
    rintro k t h' ⟨bs, hb0, hb2, rfl, ht, d1, hd1, hK⟩
    rw [ht]
    by_cases h1 : bs < n
    · obtain ⟨b2, hbb⟩ : ∃ x, x = 2 * bs := ⟨_, rfl⟩
      have w1 : IntKind.i64.wrap (2 * (bs : Int)) = (b2 : Int) := by rw [IntWalk.i64_in _ (by omega)]; omega
      have w2 : IntKind.i64.wrap ((bs : Int) * 2) = (b2 : Int) := by rw [IntWalk.i64_in _ (by omega)]; omega
      simp (maxSteps := 2000000) -implicitDefEqProofs [px_skip, px_label, px_region, px_draw, qx_seq, qx_cond, px_block, px_loop, px_scope, px_exit, px_ret, seqK_normal, seqK_exit, seqK_ret, condK_true, condK_false, opsK_some, wK_true, wK_false, itK_some, aops_nil, aops_cons, lK_some, aK_some, hK_some, dwK_true, dwK_false, diK_some, dK_light, dK_alloc, dK_heavy, adraw_nil, adraw_cons, aop, cls, light, lightS, binE, aeq, intBin, goInt, pl_int, pl_bool, pl_ptr, pl_slice, aload, isAggT, aeval, tput, awanted, List.range_succ, fin, aresults, aresult, List.replicate, heavy, acallOp, aenter, ble_d, beq_d, firstRegion, readNames, Nxt, isAnc, readsOk, objEq_some, h1, w1, sB47_9]
      generalize hl2 : loopω _ _ _ _ = r2
      obtain ⟨e, t2, h2', hx2, he2, p, B, hB, x33, x34, x35, ht2, hpn, d3, hd3, hK3⟩ : ∃ e t' h', r2 = some (e, t', h') ∧ e = .exit 4 ∧ ∃ (p B : Nat), EqN B (p + b2) ∧ ∃ x33 x34 x35, t' = [V m n, .int .i64 (n : Nat), CV cap, unk, unk, unk, .int .i64 (bs : Nat), .int .i64 (p : Nat), .int .i64 (B : Nat), unk, unk, unk, unk, unk, unk, unk, unk, unk, unk, unk, unk, unk, unk, unk, unk, unk, unk, unk, unk, unk, unk, unk, unk, x33, x34, x35, unk, unk, unk, unk, unk, unk, unk, unk, unk, unk, unk, unk, unk, unk, unk, unk, unk, unk, unk, unk, unk, unk, unk, unk, unk, unk, unk] ∧ n < p + b2 ∧ ∃ d', DH h0 m h' d' ∧ Bk lo tag n bs p d d' := by
        rw [← hl2]
        refine loop_by (fun k t h' => ∃ p B : Nat, EqN B (p + b2) ∧ n - p = k ∧ forget [3, 4, 5, 9, 10, 11, 12, 13, 14, 15, 16, 17, 18, 19, 20, 21, 22, 23, 24, 25, 26, 27, 28, 29, 30, 31, 32, 33, 34, 35, 36, 37, 38, 39, 40, 41, 42, 43, 44, 45, 46, 47, 48, 49, 50, 51, 52, 53, 54, 55, 56, 57, 58, 59, 60, 61, 62] t = [V m n, .int .i64 (n : Nat), CV cap, unk, unk, unk, .int .i64 (bs : Nat), .int .i64 (p : Nat), .int .i64 (B : Nat), unk, unk, unk, unk, unk, unk, unk, unk, unk, unk, unk, unk, unk, unk, unk, unk, unk, unk, unk, unk, unk, unk, unk, unk, unk, unk, unk, unk, unk, unk, unk, unk, unk, unk, unk, unk, unk, unk, unk, unk, unk, unk, unk, unk, unk, unk, unk, unk, unk, unk, unk, unk, unk, unk] ∧ ∃ d', DH h0 m h' d' ∧ Bk lo tag n bs p d d')
          (fun e t' h' => e = .exit 4 ∧ ∃ (p B : Nat), EqN B (p + b2) ∧ ∃ x33 x34 x35, t' = [V m n, .int .i64 (n : Nat), CV cap, unk, unk, unk, .int .i64 (bs : Nat), .int .i64 (p : Nat), .int .i64 (B : Nat), unk, unk, unk, unk, unk, unk, unk, unk, unk, unk, unk, unk, unk, unk, unk, unk, unk, unk, unk, unk, unk, unk, unk, unk, x33, x34, x35, unk, unk, unk, unk, unk, unk, unk, unk, unk, unk, unk, unk, unk, unk, unk, unk, unk, unk, unk, unk, unk, unk, unk, unk, unk, unk, unk] ∧ n < p + b2 ∧ ∃ d', DH h0 m h' d' ∧ Bk lo tag n bs p d d') ?_ n _ _ ⟨0, b2, by unfold EqN; omega, by omega, by kernel_rfl, d1, hd1, hK⟩
        clear hl2
        rintro k t h2' ⟨p, B, hB, rfl, ht, d3, hd3, hK3⟩
        have hB' : B = p + b2 := hB
        replace hB := hB'
        clear hB'
        rw [ht]
        have hlen := hK3.im.len
        by_cases h3 : B ≤ n
        · obtain ⟨c, hc⟩ : ∃ x, x = p + bs := ⟨_, rfl⟩
          obtain ⟨z1, z2, z3⟩ := bk_pre hK3 (b := B) (by omega) (by omega) (by omega)
          rw [← hc] at z1 z2 z3
          obtain ⟨h4, d4, e50, hd4, him, hs⟩ := hS p c B (by omega) (by omega) h2' d3 hd3 (hdom.perm hK3.im.perm) (by omega) (by omega) z1 z2 z3
          rw [hlen, hn] at e50
          have eB : B = p + 2 * bs := by omega
          have hK4 := bk_step hK3 hb0 (by omega) (by rw [← eB]; exact him) (by rw [← eB]; exact hs)
          rw [← eB] at hK4
          obtain ⟨B', hB'⟩ : ∃ x, x = B + b2 := ⟨_, rfl⟩
          have w3 : IntKind.i64.wrap ((p : Int) + (bs : Int)) = (c : Int) := by rw [IntWalk.i64_in _ (by omega)]; omega
          have w4 : IntKind.i64.wrap ((B : Int) + (b2 : Int)) = (B' : Int) := by rw [IntWalk.i64_in _ (by omega)]; omega
          simp (maxSteps := 2000000) -implicitDefEqProofs [px_skip, px_label, px_region, px_draw, qx_seq, qx_cond, px_block, px_loop, px_scope, px_exit, px_ret, seqK_normal, seqK_exit, seqK_ret, condK_true, condK_false, opsK_some, wK_true, wK_false, itK_some, aops_nil, aops_cons, lK_some, aK_some, hK_some, dwK_true, dwK_false, diK_some, dK_light, dK_alloc, dK_heavy, adraw_nil, adraw_cons, aop, cls, light, lightS, binE, aeq, intBin, goInt, pl_int, pl_bool, pl_ptr, pl_slice, aload, isAggT, aeval, tput, awanted, List.range_succ, fin, aresults, aresult, List.replicate, heavy, acallOp, aenter, ble_d, beq_d, firstRegion, readNames, Nxt, isAnc, readsOk, objEq_some, h3, w1, w3, w4, en50, e50]
          exact ⟨n - B, by omega, B, B', hB', rfl, by simp (maxSteps := 2000000) only [forget, List.set_cons_succ, List.set_cons_zero], d4, hd4, hK4⟩
        · simp (maxSteps := 2000000) -implicitDefEqProofs [px_skip, px_label, px_region, px_draw, qx_seq, qx_cond, px_block, px_loop, px_scope, px_exit, px_ret, seqK_normal, seqK_exit, seqK_ret, condK_true, condK_false, opsK_some, wK_true, wK_false, itK_some, aops_nil, aops_cons, lK_some, aK_some, hK_some, dwK_true, dwK_false, diK_some, dK_light, dK_alloc, dK_heavy, adraw_nil, adraw_cons, aop, cls, light, lightS, binE, aeq, intBin, goInt, pl_int, pl_bool, pl_ptr, pl_slice, aload, isAggT, aeval, tput, awanted, List.range_succ, fin, aresults, aresult, List.replicate, heavy, acallOp, aenter, ble_d, beq_d, firstRegion, readNames, Nxt, isAnc, readsOk, objEq_some, h3]
          exact ⟨p, B, hB, ⟨rfl, rfl⟩, by omega, d3, hd3, hK3⟩
      subst hx2 he2 ht2
      clear hl2
      have hlen := hK3.im.len
      have hpn3 := hK3.pn
      obtain ⟨c, hc⟩ : ∃ x, x = p + bs := ⟨_, rfl⟩
      have w3 : IntKind.i64.wrap ((p : Int) + (bs : Int)) = (c : Int) := by rw [IntWalk.i64_in _ (by omega)]; omega
      by_cases h5 : c < n
      · obtain ⟨z1, z2, z3⟩ := bk_pre hK3 (b := n) (by omega) (by omega) (by omega)
        rw [← hc] at z1 z2 z3
        obtain ⟨h4, d4, e50, hd4, him, hs⟩ := hS p c n (by omega) (by omega) h2' d3 hd3 (hdom.perm hK3.im.perm) (by omega) (by omega) z1 z2 z3
        rw [hlen, hn] at e50
        have hK4 := bk_done hK3 hb0 (by omega) him hs
        rw [← hbb] at hK4
        simp (maxSteps := 2000000) -implicitDefEqProofs [px_skip, px_label, px_region, px_draw, qx_seq, qx_cond, px_block, px_loop, px_scope, px_exit, px_ret, seqK_normal, seqK_exit, seqK_ret, condK_true, condK_false, opsK_some, wK_true, wK_false, itK_some, aops_nil, aops_cons, lK_some, aK_some, hK_some, dwK_true, dwK_false, diK_some, dK_light, dK_alloc, dK_heavy, adraw_nil, adraw_cons, aop, cls, light, lightS, binE, aeq, intBin, goInt, pl_int, pl_bool, pl_ptr, pl_slice, aload, isAggT, aeval, tput, awanted, List.range_succ, fin, aresults, aresult, List.replicate, heavy, acallOp, aenter, ble_d, beq_d, firstRegion, readNames, Nxt, isAnc, readsOk, objEq_some, w2, w3, h5, en50, e50]
        exact ⟨_, _, _, ⟨rfl, rfl, rfl⟩, 2 * n + 20 - b2, by omega, b2, by omega, by omega, rfl, by simp (maxSteps := 2000000) only [forget, List.set_cons_succ, List.set_cons_zero], d4, hd4, hK4⟩
      · have hs := bk_rest hK3 (by omega)
        have hK4 := bk_done hK3 hb0 (by omega) (Im.refl _ _ _) hs
        rw [← hbb] at hK4
        simp (maxSteps := 2000000) -implicitDefEqProofs [px_skip, px_label, px_region, px_draw, qx_seq, qx_cond, px_block, px_loop, px_scope, px_exit, px_ret, seqK_normal, seqK_exit, seqK_ret, condK_true, condK_false, opsK_some, wK_true, wK_false, itK_some, aops_nil, aops_cons, lK_some, aK_some, hK_some, dwK_true, dwK_false, diK_some, dK_light, dK_alloc, dK_heavy, adraw_nil, adraw_cons, aop, cls, light, lightS, binE, aeq, intBin, goInt, pl_int, pl_bool, pl_ptr, pl_slice, aload, isAggT, aeval, tput, awanted, List.range_succ, fin, aresults, aresult, List.replicate, heavy, acallOp, aenter, ble_d, beq_d, firstRegion, readNames, Nxt, isAnc, readsOk, objEq_some, w2, w3, h5]
        exact ⟨_, _, _, ⟨rfl, rfl, rfl⟩, 2 * n + 20 - b2, by omega, b2, by omega, by omega, rfl, by simp (maxSteps := 2000000) only [forget, List.set_cons_succ, List.set_cons_zero], d3, hd3, hK4⟩
    · simp (maxSteps := 2000000) -implicitDefEqProofs [px_skip, px_label, px_region, px_draw, qx_seq, qx_cond, px_block, px_loop, px_scope, px_exit, px_ret, seqK_normal, seqK_exit, seqK_ret, condK_true, condK_false, opsK_some, wK_true, wK_false, itK_some, aops_nil, aops_cons, lK_some, aK_some, hK_some, dwK_true, dwK_false, diK_some, dK_light, dK_alloc, dK_heavy, adraw_nil, adraw_cons, aop, cls, light, lightS, binE, aeq, intBin, goInt, pl_int, pl_bool, pl_ptr, pl_slice, aload, isAggT, aeval, tput, awanted, List.range_succ, fin, aresults, aresult, List.replicate, heavy, acallOp, aenter, ble_d, beq_d, firstRegion, readNames, Nxt, isAnc, readsOk, objEq_some, h1]
      exact ⟨bs, rfl, by omega, d1, hd1, hK⟩
  subst hx he ht
  have hE := bk_end hK hbn
  simp (maxSteps := 2000000) -implicitDefEqProofs [px_skip, px_label, px_region, px_draw, qx_seq, qx_cond, px_block, px_loop, px_scope, px_exit, px_ret, seqK_normal, seqK_exit, seqK_ret, condK_true, condK_false, opsK_some, wK_true, wK_false, itK_some, aops_nil, aops_cons, lK_some, aK_some, hK_some, dwK_true, dwK_false, diK_some, dK_light, dK_alloc, dK_heavy, adraw_nil, adraw_cons, aop, cls, light, lightS, binE, aeq, intBin, goInt, pl_int, pl_bool, pl_ptr, pl_slice, aload, isAggT, aeval, tput, awanted, List.range_succ, fin, aresults, aresult, List.replicate, heavy, acallOp, aenter, ble_d, beq_d, firstRegion, readNames, Nxt, isAnc, readsOk, objEq_some]
  exact ⟨_, _, ⟨rfl, rfl⟩, rfl, d1, hd1, hE⟩
theorem sort_run (hL : LO lo tag (clo r)) (hC : CmpH h0 m cap N r) (hS : ∀ a c b, a < c → c < b → SymAt lo tag h0 m cap N a c b) {h : Heap} {d : List Int} (hd : DH h0 m h d) (hdom : Dom N d) (hN : d.length ≤ 2 ^ 47) (ha : Asc tag 0 d.length d) :
    ∃ h' d', run Try.prog sB 36 [V m d.length, CV cap] h = some (.tuple #[], h') ∧ DH h0 m h' d' ∧ Im 0 d.length d d' ∧ Srt lo 0 d.length d' := by
  obtain ⟨h', d', e, q1, q2, q3⟩ := stable_run hL hC hS hd hdom hN ha
  refine ⟨h', d', run_finP (fun _ => ([], [])) Try.func36 rfl (by kernel_rfl) ?_, q1, q2, q3⟩
  simp (maxSteps := 2000000) -implicitDefEqProofs [Try.f36, px_skip, px_label, px_region, px_draw, qx_seq, qx_cond, px_block, px_loop, px_scope, px_exit, px_ret, seqK_normal, seqK_exit, seqK_ret, condK_true, condK_false, opsK_some, wK_true, wK_false, itK_some, aops_nil, aops_cons, lK_some, aK_some, hK_some, dwK_true, dwK_false, diK_some, dK_light, dK_alloc, dK_heavy, adraw_nil, adraw_cons, aop, cls, light, lightS, binE, aeq, intBin, goInt, pl_int, pl_bool, pl_ptr, pl_slice, aload, isAggT, aeval, tput, awanted, List.range_succ, fin, aresults, aresult, List.replicate, heavy, acallOp, aenter, ble_d, beq_d, firstRegion, readNames, Nxt, isAnc, readsOk, objEq_some, Try.underlying28, en47, e]
end Go.Proofs.Ythkefkpmgleolab.Bi
