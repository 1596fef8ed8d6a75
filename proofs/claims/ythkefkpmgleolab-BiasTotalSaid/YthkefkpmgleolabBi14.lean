/- The library's sort: insertion. -/
import Derived.Test.YthkefkpmgleolabBi13
set_option linter.unusedVariables false
set_option linter.unusedSimpArgs false
namespace Go.Proofs.Ythkefkpmgleolab.Bi
open Go Go.Proofs Go.RowKit Go.Proofs.YthkefkpmgleolabAI Go.Proofs.YthkefkpmgleolabFl Go.Proofs.YthkefkpmgleolabSrt

/-- The comparison that is handed on: what it answers, whatever the row holds. -/
def CmpH (h0 : Heap) (m : Nat) (cap : Value) (N : Int) (r : Int → Int → Int) : Prop := ∀ h, Keep (fun x => x = m) h0 h → ∀ x y : Int, 0 ≤ x → x < N → 0 ≤ y → y < N → run Try.prog sB 37 [.int .i64 x, .int .i64 y, cap] h = some (.int .i64 (r x y), h)
def clo (r : Int → Int → Int) (x y : Int) : Bool := decide (r x y < 0)
def Dom (N : Int) (d : List Int) : Prop := ∀ x ∈ d, 0 ≤ x ∧ x < N
theorem Dom.g {N : Int} {d : List Int} (h : Dom N d) {i : Nat} (hi : i < d.length) : 0 ≤ g d i ∧ g d i < N := by
  rw [g_eq d hi]; exact h _ (List.getElem_mem hi)
theorem Dom.perm {N : Int} {d d' : List Int} (h : Dom N d) (hp : d'.Perm d) : Dom N d' := fun x hx => h x (hp.mem_iff.1 hx)
abbrev CV (cap : Value) : Value := .func (.func 37) #[] #[cap]

variable {lo : Int → Int → Prop} {tag : Int → Int} {r : Int → Int → Int} {h0 : Heap} {m : Nat} {cap : Value} {N : Int}
set_option maxHeartbeats 1600000 in
theorem ins_run (hL : LO lo tag (clo r)) (hC : CmpH h0 m cap N r) {h : Heap} {a b : Nat} {d : List Int} (hd : DH h0 m h d) (hdom : Dom N d) (h1 : a ≤ b) (h2 : b ≤ d.length) (hN : d.length ≤ 2 ^ 47) (ha : Asc tag a b d) :
    ∃ h' d', run Try.prog sB 49 [V m d.length, .int .i64 (a : Nat), .int .i64 (b : Nat), CV cap] h = some (.tuple #[], h') ∧ DH h0 m h' d' ∧ Im a b d d' ∧ Srt lo a b d' := by
  suffices hx : ∃ y, fin Try.prog Try.f49 (aexecP Try.prog (sB 49) (run Try.prog sB) loopω pt49 (Try.f49.body.getD .skip) ([V m d.length, .int .i64 (a : Nat), .int .i64 (b : Nat), CV cap] ++ List.replicate (Try.f49.ntmps - 4) undef) h) = some y ∧ y.1 = .tuple #[] ∧ ∃ d', DH h0 m y.2 d' ∧ Im a b d d' ∧ Srt lo a b d' by
    obtain ⟨⟨y1, y2⟩, hy, rfl, d', q1, q2⟩ := hx
    exact ⟨y2, d', run_finP pt49 Try.func49 rfl planned49 hy, q1, q2⟩
  have w1 := @inc64 a (by omega)
  have ca := cast_succ a
  simp (maxSteps := 2000000) -implicitDefEqProofs [Try.f49, px_skip, px_label, px_region, px_draw, qx_seq, qx_cond, px_block, px_loop, px_scope, px_exit, px_ret, seqK_normal, seqK_exit, seqK_ret, condK_true, condK_false, opsK_some, wK_true, wK_false, itK_some, aops_nil, aops_cons, lK_some, aK_some, hK_some, dwK_true, dwK_false, diK_some, dK_light, dK_alloc, dK_heavy, adraw_nil, adraw_cons, aop, cls, light, lightS, binE, aeq, intBin, goInt, pl_int, pl_bool, pl_ptr, pl_slice, aload, isAggT, aeval, tput, awanted, List.range_succ, fin, aresults, aresult, List.replicate, heavy, acallOp, aenter, ble_d, beq_d, firstRegion, readNames, Nxt, isAnc, readsOk, objEq_some, w1, sB49_1]
  generalize hl : loopω _ _ _ _ = rr
  obtain ⟨e, t', h', hx, he, i, x12, x13, x14, ht, d', hI⟩ : ∃ e t' h', rr = some (e, t', h') ∧ e = .exit 0 ∧ ∃ (i : Nat), ∃ x12 x13 x14, t' = [V m d.length, .int .i64 (a : Nat), .int .i64 (b : Nat), CV cap, unk, unk, unk, unk, .int .i64 (i : Nat), unk, unk, unk, x12, x13, x14, unk, unk, unk, unk, unk, unk, unk, unk, unk, unk, unk, unk, unk, unk, unk, unk, unk, unk, unk, unk, unk, unk, unk, unk, unk, unk, unk, unk, unk, unk, unk, unk, unk, unk, unk, unk, unk, unk] ∧ ∃ d', DH h0 m h' d' ∧ Im a b d d' ∧ Srt lo a b d' := by
    rw [← hl]
    refine loop_by (fun k t h' => ∃ i : Nat, i + k = b + 1 ∧ forget [4, 5, 6, 7, 9, 10, 11, 12, 13, 14, 15, 16, 17, 18, 19, 20, 21, 22, 23, 24, 25, 26, 27, 28, 29, 30, 31, 32, 33, 34, 35, 36, 37, 38, 39, 40, 41, 42, 43, 44, 45, 46, 47, 48, 49, 50, 51, 52] t = [V m d.length, .int .i64 (a : Nat), .int .i64 (b : Nat), CV cap, unk, unk, unk, unk, .int .i64 (i : Nat), unk, unk, unk, unk, unk, unk, unk, unk, unk, unk, unk, unk, unk, unk, unk, unk, unk, unk, unk, unk, unk, unk, unk, unk, unk, unk, unk, unk, unk, unk, unk, unk, unk, unk, unk, unk, unk, unk, unk, unk, unk, unk, unk, unk] ∧ a + 1 ≤ i ∧ ∃ d', DH h0 m h' d' ∧ Im a (min i b) d d' ∧ Srt lo a (min i b) d')
      (fun e t' h' => e = .exit 0 ∧ ∃ (i : Nat), ∃ x12 x13 x14, t' = [V m d.length, .int .i64 (a : Nat), .int .i64 (b : Nat), CV cap, unk, unk, unk, unk, .int .i64 (i : Nat), unk, unk, unk, x12, x13, x14, unk, unk, unk, unk, unk, unk, unk, unk, unk, unk, unk, unk, unk, unk, unk, unk, unk, unk, unk, unk, unk, unk, unk, unk, unk, unk, unk, unk, unk, unk, unk, unk, unk, unk, unk, unk, unk, unk] ∧ ∃ d', DH h0 m h' d' ∧ Im a b d d' ∧ Srt lo a b d') ?_ (b - a) _ _ ⟨a + 1, by omega, by simp only [ca]; kernel_rfl, by omega, d, hd, Im.refl _ _ _, fun x y q1 q2 q3 => by omega⟩
    rintro k t h' ⟨i, hi, ht, hai, d1, hd1, him, hs⟩
    rw [ht]
    rcases Nat.lt_or_ge i b with h3 | h3
    · have emin : min i b = i := by omega
      rw [emin] at him hs
      have hst := ins_start (tag := tag) h3 (by omega) ha him hs
      have hinc := @inc64 i (by omega)
      have hii := cast_succ i
      simp (maxSteps := 2000000) -implicitDefEqProofs [px_skip, px_label, px_region, px_draw, qx_seq, qx_cond, px_block, px_loop, px_scope, px_exit, px_ret, seqK_normal, seqK_exit, seqK_ret, condK_true, condK_false, opsK_some, wK_true, wK_false, itK_some, aops_nil, aops_cons, lK_some, aK_some, hK_some, dwK_true, dwK_false, diK_some, dK_light, dK_alloc, dK_heavy, adraw_nil, adraw_cons, aop, cls, light, lightS, binE, aeq, intBin, goInt, pl_int, pl_bool, pl_ptr, pl_slice, aload, isAggT, aeval, tput, awanted, List.range_succ, fin, aresults, aresult, List.replicate, heavy, acallOp, aenter, ble_d, beq_d, firstRegion, readNames, Nxt, isAnc, readsOk, objEq_some, h3, sB49_4]
      generalize hl2 : loopω _ _ _ _ = r2
      obtain ⟨e, t2, h2', hx2, he2, j, x18, x19, x20, x21, x22, x23, x24, x25, x26, x27, x28, x29, x30, x31, x32, x33, x34, ht2, d2, hd2, him2, hs2⟩ : ∃ e t' h', r2 = some (e, t', h') ∧ e = .exit 2 ∧ ∃ (j : Nat), ∃ x18 x19 x20 x21 x22 x23 x24 x25 x26 x27 x28 x29 x30 x31 x32 x33 x34, t' = [V m d.length, .int .i64 (a : Nat), .int .i64 (b : Nat), CV cap, unk, unk, unk, unk, .int .i64 (i : Nat), .int .i64 (j : Nat), unk, unk, unk, unk, unk, unk, unk, unk, x18, x19, x20, x21, x22, x23, x24, x25, x26, x27, x28, x29, x30, x31, x32, x33, x34, unk, unk, unk, unk, unk, unk, unk, unk, unk, unk, unk, unk, unk, unk, unk, unk, unk, unk] ∧ ∃ d', DH h0 m h' d' ∧ Im a (i + 1) d d' ∧ Srt lo a (i + 1) d' := by
        rw [← hl2]
        refine loop_by (fun k t h' => forget [4, 5, 6, 7, 10, 11, 12, 13, 14, 15, 16, 17, 18, 19, 20, 21, 22, 23, 24, 25, 26, 27, 28, 29, 30, 31, 32, 33, 34, 35, 36, 37, 38, 39, 40, 41, 42, 43, 44, 45, 46, 47, 48, 49, 50, 51, 52] t = [V m d.length, .int .i64 (a : Nat), .int .i64 (b : Nat), CV cap, unk, unk, unk, unk, .int .i64 (i : Nat), .int .i64 (k : Nat), unk, unk, unk, unk, unk, unk, unk, unk, unk, unk, unk, unk, unk, unk, unk, unk, unk, unk, unk, unk, unk, unk, unk, unk, unk, unk, unk, unk, unk, unk, unk, unk, unk, unk, unk, unk, unk, unk, unk, unk, unk, unk, unk] ∧ ∃ d', DH h0 m h' d' ∧ InsI lo tag d a i k d')
          (fun e t' h' => e = .exit 2 ∧ ∃ (j : Nat), ∃ x18 x19 x20 x21 x22 x23 x24 x25 x26 x27 x28 x29 x30 x31 x32 x33 x34, t' = [V m d.length, .int .i64 (a : Nat), .int .i64 (b : Nat), CV cap, unk, unk, unk, unk, .int .i64 (i : Nat), .int .i64 (j : Nat), unk, unk, unk, unk, unk, unk, unk, unk, x18, x19, x20, x21, x22, x23, x24, x25, x26, x27, x28, x29, x30, x31, x32, x33, x34, unk, unk, unk, unk, unk, unk, unk, unk, unk, unk, unk, unk, unk, unk, unk, unk, unk, unk] ∧ ∃ d', DH h0 m h' d' ∧ Im a (i + 1) d d' ∧ Srt lo a (i + 1) d') ?_ i _ _ ⟨by kernel_rfl, d1, hd1, hst⟩
        rintro j t h2' ⟨ht, d2, hd2, hin⟩
        rw [ht]
        have haj := hin.aj
        have hji := hin.ji
        have hlen := hin.im.len
        by_cases hja : j = a
        · have hdn := ins_done hL hin (.inl hja)
          subst hja
          simp (maxSteps := 2000000) -implicitDefEqProofs [px_skip, px_label, px_region, px_draw, qx_seq, qx_cond, px_block, px_loop, px_scope, px_exit, px_ret, seqK_normal, seqK_exit, seqK_ret, condK_true, condK_false, opsK_some, wK_true, wK_false, itK_some, aops_nil, aops_cons, lK_some, aK_some, hK_some, dwK_true, dwK_false, diK_some, dK_light, dK_alloc, dK_heavy, adraw_nil, adraw_cons, aop, cls, light, lightS, binE, aeq, intBin, goInt, pl_int, pl_bool, pl_ptr, pl_slice, aload, isAggT, aeval, tput, awanted, List.range_succ, fin, aresults, aresult, List.replicate, heavy, acallOp, aenter, ble_d, beq_d, firstRegion, readNames, Nxt, isAnc, readsOk, objEq_some, pt49_4, pl49_4, an49_4]
          exact ⟨⟨j, rfl⟩, d2, hd2, hdn⟩
        · obtain ⟨q, rfl⟩ : ∃ q, j = q + 1 := ⟨j - 1, by omega⟩
          have hq : a < q + 1 := by omega
          have hg := hd2.2
          have gx := ints_g (d := d2) (i := q + 1) (by omega)
          have gy := ints_g (d := d2) (i := q) (by omega)
          have dm := hdom.perm hin.im.perm
          have dx := dm.g (i := q + 1) (by omega)
          have dy := dm.g (i := q) (by omega)
          have ec := hC h2' hd2.1 (g d2 (q + 1)) (g d2 q) dx.1 dx.2 dy.1 dy.2
          have w2 : IntKind.i64.wrap (q : Int) = (q : Int) := IntWalk.i64_in _ (by omega)
          have cq := cast_succ q
          have l1 : (q : Int) + 1 < (d.length : Int) := by omega
          have l2 : q < d.length := by omega
          have l0 : (0 : Int) ≤ (q : Int) + 1 := by omega
          have l3 : (a : Int) < (q : Int) + 1 := by omega
          cases hcl : clo r (g d2 (q + 1)) (g d2 q) with
          | false =>
            have hdn := ins_done hL hin (.inr ⟨hq, by rw [Nat.add_sub_cancel]; exact hcl⟩)
            have hr : ¬ r (g d2 (q + 1)) (g d2 q) < 0 := by simpa [clo] using hcl
            generalize hgx : g d2 (q + 1) = X at *
            generalize hgy : g d2 q = Y at *
            simp (maxSteps := 2000000) -implicitDefEqProofs [px_skip, px_label, px_region, px_draw, qx_seq, qx_cond, px_block, px_loop, px_scope, px_exit, px_ret, seqK_normal, seqK_exit, seqK_ret, condK_true, condK_false, opsK_some, wK_true, wK_false, itK_some, aops_nil, aops_cons, lK_some, aK_some, hK_some, dwK_true, dwK_false, diK_some, dK_light, dK_alloc, dK_heavy, adraw_nil, adraw_cons, aop, cls, light, lightS, binE, aeq, intBin, goInt, pl_int, pl_bool, pl_ptr, pl_slice, aload, isAggT, aeval, tput, awanted, List.range_succ, fin, aresults, aresult, List.replicate, heavy, acallOp, aenter, ble_d, beq_d, firstRegion, readNames, Nxt, isAnc, readsOk, objEq_some, pt49_4, pl49_4, an49_4, cq, l0, l1, l2, l3, w2, aindexAddr, sz3, Try.underlying28, hg, gx, gy, en37, ec, hr]
            exact ⟨⟨q + 1, cq.symm⟩, d2, hd2, hdn⟩
          | true =>
            have hr : r (g d2 (q + 1)) (g d2 q) < 0 := by simpa [clo] using hcl
            have hst2 := ins_step hL (by omega) hin hq hcl
            obtain ⟨q1, q2, e1, e2, g1, n1, n2, dd⟩ := swap_mem hd2 (i := q + 1) (j := q) (by omega) (by omega)
            have cb : q + 1 + 1 ≤ (ints d2).length := by rw [ints_len]; omega
            have sa := ints_set (d := d2) (i := q + 1) (by omega) (g d2 q)
            have ca2 : q + 1 ≤ (ints (d2.set (q + 1) (g d2 q))).length := by rw [ints_len, List.length_set]; omega
            have sb := ints_set (d := d2.set (q + 1) (g d2 q)) (i := q) (by rw [List.length_set]; omega) (g d2 (q + 1))
            generalize hgx : g d2 (q + 1) = X at *
            generalize hgy : g d2 q = Y at *
            simp (maxSteps := 2000000) -implicitDefEqProofs [px_skip, px_label, px_region, px_draw, qx_seq, qx_cond, px_block, px_loop, px_scope, px_exit, px_ret, seqK_normal, seqK_exit, seqK_ret, condK_true, condK_false, opsK_some, wK_true, wK_false, itK_some, aops_nil, aops_cons, lK_some, aK_some, hK_some, dwK_true, dwK_false, diK_some, dK_light, dK_alloc, dK_heavy, adraw_nil, adraw_cons, aop, cls, light, lightS, binE, aeq, intBin, goInt, pl_int, pl_bool, pl_ptr, pl_slice, aload, isAggT, aeval, tput, awanted, List.range_succ, fin, aresults, aresult, List.replicate, heavy, acallOp, aenter, ble_d, beq_d, firstRegion, readNames, Nxt, isAnc, readsOk, objEq_some, pt49_4, pl49_4, an49_4, pt49_6, pl49_6, an49_6, cq, l0, l1, l2, l3, w2, aindexAddr, sz3, Try.underlying28, hg, gx, gy, en37, ec, hr, cb, ca2, sa, sb, astore, oki, g1, ← e1, ← e2, n1, n2]
            exact ⟨q, by omega, by simp (maxSteps := 2000000) only [forget, List.set_cons_succ, List.set_cons_zero], _, dd, hst2⟩
      subst hx2 he2 ht2
      simp (maxSteps := 2000000) -implicitDefEqProofs [px_skip, px_label, px_region, px_draw, qx_seq, qx_cond, px_block, px_loop, px_scope, px_exit, px_ret, seqK_normal, seqK_exit, seqK_ret, condK_true, condK_false, opsK_some, wK_true, wK_false, itK_some, aops_nil, aops_cons, lK_some, aK_some, hK_some, dwK_true, dwK_false, diK_some, dK_light, dK_alloc, dK_heavy, adraw_nil, adraw_cons, aop, cls, light, lightS, binE, aeq, intBin, goInt, pl_int, pl_bool, pl_ptr, pl_slice, aload, isAggT, aeval, tput, awanted, List.range_succ, fin, aresults, aresult, List.replicate, heavy, acallOp, aenter, ble_d, beq_d, firstRegion, readNames, Nxt, isAnc, readsOk, objEq_some, hinc]
      exact ⟨_, _, _, ⟨rfl, rfl, rfl⟩, k - 1, by omega, i + 1, by omega, by simp (maxSteps := 2000000) only [forget, List.set_cons_succ, List.set_cons_zero, hii], by omega, d2, hd2, by rw [show min (i + 1) b = i + 1 by omega]; exact him2, by rw [show min (i + 1) b = i + 1 by omega]; exact hs2⟩
    · have emin : min i b = b := by omega
      rw [emin] at him hs
      have h3' : ¬ i < b := by omega
      simp (maxSteps := 2000000) -implicitDefEqProofs [px_skip, px_label, px_region, px_draw, qx_seq, qx_cond, px_block, px_loop, px_scope, px_exit, px_ret, seqK_normal, seqK_exit, seqK_ret, condK_true, condK_false, opsK_some, wK_true, wK_false, itK_some, aops_nil, aops_cons, lK_some, aK_some, hK_some, dwK_true, dwK_false, diK_some, dK_light, dK_alloc, dK_heavy, adraw_nil, adraw_cons, aop, cls, light, lightS, binE, aeq, intBin, goInt, pl_int, pl_bool, pl_ptr, pl_slice, aload, isAggT, aeval, tput, awanted, List.range_succ, fin, aresults, aresult, List.replicate, heavy, acallOp, aenter, ble_d, beq_d, firstRegion, readNames, Nxt, isAnc, readsOk, objEq_some, h3']
      exact ⟨⟨i, rfl⟩, d1, hd1, him, hs⟩
  subst hx he ht
  simp (maxSteps := 2000000) -implicitDefEqProofs [px_skip, px_label, px_region, px_draw, qx_seq, qx_cond, px_block, px_loop, px_scope, px_exit, px_ret, seqK_normal, seqK_exit, seqK_ret, condK_true, condK_false, opsK_some, wK_true, wK_false, itK_some, aops_nil, aops_cons, lK_some, aK_some, hK_some, dwK_true, dwK_false, diK_some, dK_light, dK_alloc, dK_heavy, adraw_nil, adraw_cons, aop, cls, light, lightS, binE, aeq, intBin, goInt, pl_int, pl_bool, pl_ptr, pl_slice, aload, isAggT, aeval, tput, awanted, List.range_succ, fin, aresults, aresult, List.replicate, heavy, acallOp, aenter, ble_d, beq_d, firstRegion, readNames, Nxt, isAnc, readsOk, objEq_some]
  exact ⟨_, _, ⟨rfl, rfl⟩, rfl, d', hI⟩
end Go.Proofs.Ythkefkpmgleolab.Bi
