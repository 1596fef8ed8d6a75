/- The library's sort: ranges are swapped, rotated. -/
import Derived.Test.YthkefkpmgleolabBi12
import Derived.Test.YthkefkpmgleolabSrt2
set_option linter.unusedVariables false
set_option linter.unusedSimpArgs false
namespace Go.Proofs.Ythkefkpmgleolab.Bi
open Go Go.Proofs Go.RowKit Go.Proofs.YthkefkpmgleolabAI Go.Proofs.YthkefkpmgleolabFl Go.Proofs.YthkefkpmgleolabSrt

/-- The row that is sorted: its block, and all else as it was. -/
def DH (h0 : Heap) (m : Nat) (h : Heap) (d : List Int) : Prop := Keep (fun x => x = m) h0 h ∧ h.get m = some (.cells (ints d) 3 1 false false)
abbrev V (m n : Nat) : Value := .slice (some ⟨m, 0, none⟩) n n
theorem ints_set {d : List Int} {i : Nat} (hi : i < d.length) (v : Int) : List.take i (ints d) ++ Value.int .i64 v :: List.drop (i + 1) (ints d) = ints (d.set i v) := by
  unfold ints
  rw [List.map_set, List.set_eq_take_append_cons_drop, if_pos (by simpa using hi)]
theorem ints_g {d : List Int} {i : Nat} (hi : i < d.length) : (ints d)[i]? = some (.int .i64 (g d i)) := by
  simp [ints, g, List.getElem?_eq_getElem hi]
theorem ints_len (d : List Int) : (ints d).length = d.length := by simp [ints]
theorem swap_mem {h0 h : Heap} {m i j : Nat} {d : List Int} (hd : DH h0 m h d) (hi : i < d.length) (hj : j < d.length) :
    ∃ h1 h2, h1 = h.put m (some (.cells (ints (d.set i (g d j))) 3 1 false false)) ∧ h2 = h1.put m (some (.cells (ints ((d.set i (g d j)).set j (g d i))) 3 1 false false)) ∧
      h1.get m = some (.cells (ints (d.set i (g d j))) 3 1 false false) ∧ h1.next = h.next ∧ h2.next = h.next ∧ DH h0 m h2 (swp d i j) := by
  obtain ⟨hk, hg⟩ := hd
  have hlt := Heap.get_lt hg
  refine ⟨_, _, rfl, rfl, by rw [Heap.get_put hlt, if_pos rfl], rfl, rfl, ?_, ?_⟩
  · exact (hk.trans (Keep.put (S := fun x => x = m) hlt rfl _)).trans (Keep.put (S := fun x => x = m) (by rw [Heap.next_put]; exact hlt) rfl _)
  · rw [Heap.get_put (by rw [Heap.next_put]; exact hlt), if_pos rfl]; rfl

theorem swr_run {h0 h : Heap} {m a b n : Nat} {d : List Int} (cv : Value) (hd : DH h0 m h d) (h1 : a + n ≤ b) (h2 : b + n ≤ d.length) (hN : d.length ≤ 2 ^ 47) :
    ∃ h' d', run Try.prog sB 52 [V m d.length, .int .i64 (a : Nat), .int .i64 (b : Nat), .int .i64 (n : Nat), cv] h = some (.tuple #[], h') ∧ DH h0 m h' d' ∧ SwrI a b n d d' := by
  suffices hx : ∃ y, fin Try.prog Try.f52 (aexecP Try.prog (sB 52) (run Try.prog sB) loopω pt52 (Try.f52.body.getD .skip) ([V m d.length, .int .i64 (a : Nat), .int .i64 (b : Nat), .int .i64 (n : Nat), cv] ++ List.replicate (Try.f52.ntmps - 5) undef) h) = some y ∧ y.1 = .tuple #[] ∧ ∃ d', DH h0 m y.2 d' ∧ SwrI a b n d d' by
    obtain ⟨⟨y1, y2⟩, hy, rfl, d', q1, q2⟩ := hx
    exact ⟨y2, d', run_finP pt52 Try.func52 rfl planned52 hy, q1, q2⟩
  simp (maxSteps := 2000000) -implicitDefEqProofs [Try.f52, px_skip, px_label, px_region, px_draw, qx_seq, qx_cond, px_block, px_loop, px_scope, px_exit, px_ret, seqK_normal, seqK_exit, seqK_ret, condK_true, condK_false, opsK_some, wK_true, wK_false, itK_some, aops_nil, aops_cons, lK_some, aK_some, hK_some, dwK_true, dwK_false, diK_some, dK_light, dK_alloc, dK_heavy, adraw_nil, adraw_cons, aop, cls, light, lightS, binE, aeq, intBin, goInt, pl_int, pl_bool, pl_ptr, pl_slice, aload, isAggT, aeval, tput, awanted, List.range_succ, fin, aresults, aresult, List.replicate, heavy, acallOp, aenter, ble_d, beq_d, firstRegion, readNames, Nxt, isAnc, readsOk, objEq_some, sB52]
  generalize hl : loopω _ _ _ _ = r
  obtain ⟨e, t', h', hx, he, x11, x12, x13, ht, hI⟩ : ∃ e t' h', r = some (e, t', h') ∧ e = .exit 0 ∧ ∃ x11 x12 x13, t' = [V m d.length, .int .i64 (a : Nat), .int .i64 (b : Nat), .int .i64 (n : Nat), unk, unk, unk, unk, unk, unk, .int .i64 (n : Nat), x11, x12, x13, unk, unk, unk, unk, unk, unk, unk, unk, unk, unk, unk, unk, unk, unk, unk, unk, unk, unk, unk, unk, unk, unk, unk, unk] ∧ ∃ d', DH h0 m h' d' ∧ SwrI a b n d d' := by
    rw [← hl]
    refine loop_by (fun k t h' => ∃ i, i + k = n ∧ forget [4, 5, 6, 7, 8, 9, 11, 12, 13, 14, 15, 16, 17, 18, 19, 20, 21, 22, 23, 24, 25, 26, 27, 28, 29, 30, 31, 32, 33, 34, 35, 36, 37] t = [V m d.length, .int .i64 (a : Nat), .int .i64 (b : Nat), .int .i64 (n : Nat), unk, unk, unk, unk, unk, unk, .int .i64 (i : Nat), unk, unk, unk, unk, unk, unk, unk, unk, unk, unk, unk, unk, unk, unk, unk, unk, unk, unk, unk, unk, unk, unk, unk, unk, unk, unk, unk] ∧ ∃ d', DH h0 m h' d' ∧ SwrI a b i d d')
      (fun e t' h' => e = .exit 0 ∧ ∃ x11 x12 x13, t' = [V m d.length, .int .i64 (a : Nat), .int .i64 (b : Nat), .int .i64 (n : Nat), unk, unk, unk, unk, unk, unk, .int .i64 (n : Nat), x11, x12, x13, unk, unk, unk, unk, unk, unk, unk, unk, unk, unk, unk, unk, unk, unk, unk, unk, unk, unk, unk, unk, unk, unk, unk, unk] ∧ ∃ d', DH h0 m h' d' ∧ SwrI a b n d d') ?_ n _ _ ⟨0, by omega, by kernel_rfl, d, hd, swr_start _ _ _⟩
    rintro k t h' ⟨i, hi, ht, d', hd', hs⟩
    rw [ht]
    rcases Nat.lt_or_ge i n with h3 | h3
    · have hl := hs.len
      obtain ⟨q1, q2, e1, e2, g1, n1, n2, dd⟩ := swap_mem hd' (i := a + i) (j := b + i) (by omega) (by omega)
      have hst := swr_step hs (by omega) (by omega)
      have wa : IntKind.i64.wrap ((a : Int) + (i : Int)) = ((a + i : Nat) : Int) := by rw [IntWalk.i64_in _ (by omega)]; omega
      have wb : IntKind.i64.wrap ((b : Int) + (i : Int)) = ((b + i : Nat) : Int) := by rw [IntWalk.i64_in _ (by omega)]; omega
      have ga := ints_g (d := d') (i := a + i) (by omega)
      have gb := ints_g (d := d') (i := b + i) (by omega)
      have la : a + i < d.length := by omega
      have lb : b + i < d.length := by omega
      have ca : a + i + 1 ≤ (ints d').length := by rw [ints_len]; omega
      have sa := ints_set (d := d') (i := a + i) (by omega) (g d' (b + i))
      have cb : b + i + 1 ≤ (ints (d'.set (a + i) (g d' (b + i)))).length := by rw [ints_len, List.length_set]; omega
      have sb := ints_set (d := d'.set (a + i) (g d' (b + i))) (i := b + i) (by rw [List.length_set]; omega) (g d' (a + i))
      have hg := hd'.2
      have hinc := @inc64 i (by omega)
      have hii := cast_succ i
      have hgt := Heap.get_lt hg
      generalize hga : g d' (a + i) = A at *
      generalize hgb : g d' (b + i) = B at *
      generalize hai : a + i = ai at *
      generalize hbi : b + i = bi at *
      simp (maxSteps := 2000000) -implicitDefEqProofs [px_skip, px_label, px_region, px_draw, qx_seq, qx_cond, px_block, px_loop, px_scope, px_exit, px_ret, seqK_normal, seqK_exit, seqK_ret, condK_true, condK_false, opsK_some, wK_true, wK_false, itK_some, aops_nil, aops_cons, lK_some, aK_some, hK_some, dwK_true, dwK_false, diK_some, dK_light, dK_alloc, dK_heavy, adraw_nil, adraw_cons, aop, cls, light, lightS, binE, aeq, intBin, goInt, pl_int, pl_bool, pl_ptr, pl_slice, aload, isAggT, aeval, tput, awanted, List.range_succ, fin, aresults, aresult, List.replicate, heavy, acallOp, aenter, ble_d, beq_d, firstRegion, readNames, Nxt, isAnc, readsOk, objEq_some, h3, pt52_3, pl52_3, an52_3, wa, wb, aindexAddr, sz3, Try.underlying28, hg, ga, gb, la, lb, ca, cb, sa, sb, astore, oki, g1, ← e1, ← e2, n1, n2, hinc]
      exact ⟨k - 1, by omega, i + 1, by omega, by simp (maxSteps := 2000000) only [forget, List.set_cons_succ, List.set_cons_zero, hii], _, dd, hst⟩
    · obtain rfl : i = n := by omega
      simp (maxSteps := 2000000) -implicitDefEqProofs [px_skip, px_label, px_region, px_draw, qx_seq, qx_cond, px_block, px_loop, px_scope, px_exit, px_ret, seqK_normal, seqK_exit, seqK_ret, condK_true, condK_false, opsK_some, wK_true, wK_false, itK_some, aops_nil, aops_cons, lK_some, aK_some, hK_some, dwK_true, dwK_false, diK_some, dK_light, dK_alloc, dK_heavy, adraw_nil, adraw_cons, aop, cls, light, lightS, binE, aeq, intBin, goInt, pl_int, pl_bool, pl_ptr, pl_slice, aload, isAggT, aeval, tput, awanted, List.range_succ, fin, aresults, aresult, List.replicate, heavy, acallOp, aenter, ble_d, beq_d, firstRegion, readNames, Nxt, isAnc, readsOk, objEq_some]
      exact ⟨d', hd', hs⟩
  subst hx he ht
  simp (maxSteps := 2000000) -implicitDefEqProofs [px_skip, px_label, px_region, px_draw, qx_seq, qx_cond, px_block, px_loop, px_scope, px_exit, px_ret, seqK_normal, seqK_exit, seqK_ret, condK_true, condK_false, opsK_some, wK_true, wK_false, itK_some, aops_nil, aops_cons, lK_some, aK_some, hK_some, dwK_true, dwK_false, diK_some, dK_light, dK_alloc, dK_heavy, adraw_nil, adraw_cons, aop, cls, light, lightS, binE, aeq, intBin, goInt, pl_int, pl_bool, pl_ptr, pl_slice, aload, isAggT, aeval, tput, awanted, List.range_succ, fin, aresults, aresult, List.replicate, heavy, acallOp, aenter, ble_d, beq_d, firstRegion, readNames, Nxt, isAnc, readsOk, objEq_some]
  exact ⟨_, _, ⟨rfl, rfl⟩, rfl, hI⟩
/-- A rotation. -/
theorem rot_run {h0 h : Heap} {m a c b : Nat} {d : List Int} (cv : Value) (hd : DH h0 m h d) (h1 : a < c) (h2 : c < b) (h3 : b ≤ d.length) (hN : d.length ≤ 2 ^ 47) :
    ∃ h' d', run Try.prog sB 51 [V m d.length, .int .i64 (a : Nat), .int .i64 (c : Nat), .int .i64 (b : Nat), cv] h = some (.tuple #[], h') ∧ DH h0 m h' d' ∧ d'.length = d.length ∧ d'.Perm d ∧ ∀ k, g d' k = rotT a c b d k := by
  suffices hx : ∃ y, fin Try.prog Try.f51 (aexecP Try.prog (sB 51) (run Try.prog sB) loopω pt51 (Try.f51.body.getD .skip) ([V m d.length, .int .i64 (a : Nat), .int .i64 (c : Nat), .int .i64 (b : Nat), cv] ++ List.replicate (Try.f51.ntmps - 5) undef) h) = some y ∧ y.1 = .tuple #[] ∧ ∃ d', DH h0 m y.2 d' ∧ d'.length = d.length ∧ d'.Perm d ∧ ∀ k, g d' k = rotT a c b d k by
    obtain ⟨⟨y1, y2⟩, hy, rfl, d', q1, q2⟩ := hx
    exact ⟨y2, d', run_finP pt51 Try.func51 rfl planned51 hy, q1, q2⟩
  have w1 : IntKind.i64.wrap ((c : Int) - (a : Int)) = ((c - a : Nat) : Int) := by rw [IntWalk.i64_in _ (by omega)]; omega
  have w2 : IntKind.i64.wrap ((b : Int) - (c : Int)) = ((b - c : Nat) : Int) := by rw [IntWalk.i64_in _ (by omega)]; omega
  simp (maxSteps := 2000000) -implicitDefEqProofs [Try.f51, px_skip, px_label, px_region, px_draw, qx_seq, qx_cond, px_block, px_loop, px_scope, px_exit, px_ret, seqK_normal, seqK_exit, seqK_ret, condK_true, condK_false, opsK_some, wK_true, wK_false, itK_some, aops_nil, aops_cons, lK_some, aK_some, hK_some, dwK_true, dwK_false, diK_some, dK_light, dK_alloc, dK_heavy, adraw_nil, adraw_cons, aop, cls, light, lightS, binE, aeq, intBin, goInt, pl_int, pl_bool, pl_ptr, pl_slice, aload, isAggT, aeval, tput, awanted, List.range_succ, fin, aresults, aresult, List.replicate, heavy, acallOp, aenter, ble_d, beq_d, firstRegion, readNames, Nxt, isAnc, readsOk, objEq_some, w1, w2, sB51]
  generalize hl : loopω _ _ _ _ = r
  obtain ⟨e, t', h', hx, he, i, hic, x18, x19, x20, ht, d', hd', hR⟩ : ∃ e t' h', r = some (e, t', h') ∧ e = .exit 0 ∧ ∃ i : Nat, i ≤ c ∧ ∃ x18 x19 x20, t' = [V m d.length, unk, .int .i64 (c : Nat), unk, cv, unk, unk, unk, unk, unk, .int .i64 (i : Nat), .int .i64 (i : Nat), unk, unk, unk, unk, unk, unk, x18, x19, x20, unk, unk, unk, unk, unk, unk, unk, unk, unk, unk, unk, unk, unk, unk, unk, unk, unk, unk, unk, unk, unk, unk, unk, unk, unk, unk, unk, unk, unk, unk, unk, unk, unk, unk, unk, unk, unk] ∧ ∃ d', DH h0 m h' d' ∧ RotI a c b i i d d' := by
    rw [← hl]
    refine loop_by (fun k t h' => ∃ i j : Nat, i + j = k ∧ forget [1, 3, 5, 6, 7, 8, 9, 12, 13, 14, 15, 16, 17, 18, 19, 20, 21, 22, 23, 24, 25, 26, 27, 28, 29, 30, 31, 32, 33, 34, 35, 36, 37, 38, 39, 40, 41, 42, 43, 44, 45, 46, 47, 48, 49, 50, 51, 52, 53, 54, 55, 56, 57] t = [V m d.length, unk, .int .i64 (c : Nat), unk, cv, unk, unk, unk, unk, unk, .int .i64 (i : Nat), .int .i64 (j : Nat), unk, unk, unk, unk, unk, unk, unk, unk, unk, unk, unk, unk, unk, unk, unk, unk, unk, unk, unk, unk, unk, unk, unk, unk, unk, unk, unk, unk, unk, unk, unk, unk, unk, unk, unk, unk, unk, unk, unk, unk, unk, unk, unk, unk, unk, unk] ∧ ∃ d', DH h0 m h' d' ∧ RotI a c b i j d d')
      (fun e t' h' => e = .exit 0 ∧ ∃ i : Nat, i ≤ c ∧ ∃ x18 x19 x20, t' = [V m d.length, unk, .int .i64 (c : Nat), unk, cv, unk, unk, unk, unk, unk, .int .i64 (i : Nat), .int .i64 (i : Nat), unk, unk, unk, unk, unk, unk, x18, x19, x20, unk, unk, unk, unk, unk, unk, unk, unk, unk, unk, unk, unk, unk, unk, unk, unk, unk, unk, unk, unk, unk, unk, unk, unk, unk, unk, unk, unk, unk, unk, unk, unk, unk, unk, unk, unk, unk] ∧ ∃ d', DH h0 m h' d' ∧ RotI a c b i i d d') ?_ ((c - a) + (b - c)) _ _ ⟨c - a, b - c, rfl, by kernel_rfl, d, hd, rot_start d h1 h2⟩
    rintro k t h' ⟨i, j, rfl, ht, d', hd', hR⟩
    rw [ht]
    have hlen := hR.len
    have e1 := hR.lo_
    have e2 := hR.hi_
    have e3 := hR.pi
    have e4 := hR.pj
    have w3 : IntKind.i64.wrap ((c : Int) - (i : Int)) = ((c - i : Nat) : Int) := by rw [IntWalk.i64_in _ (by omega)]; omega
    rcases Nat.lt_trichotomy i j with hij | hij | hij
    · obtain ⟨h2', d2, e52, hd2, hs2⟩ := swr_run (a := c - i) (b := c + j - i) (n := i) cv hd' (by omega) (by omega) (by omega)
      have hR2 := rot_lt hR hij hs2
      rw [hlen] at e52
      have n1 : ¬ (i : Int) = (j : Int) := by omega
      have n2 : ¬ j < i := by omega
      have w4 : IntKind.i64.wrap ((c : Int) + (j : Int)) = (c : Int) + (j : Int) := by rw [IntWalk.i64_in _ (by omega)]
      have w5 : IntKind.i64.wrap ((c : Int) + (j : Int) - (i : Int)) = ((c + j - i : Nat) : Int) := by rw [IntWalk.i64_in _ (by omega)]; omega
      have w6 : IntKind.i64.wrap ((j : Int) - (i : Int)) = ((j - i : Nat) : Int) := by rw [IntWalk.i64_in _ (by omega)]; omega
      simp (maxSteps := 2000000) -implicitDefEqProofs [px_skip, px_label, px_region, px_draw, qx_seq, qx_cond, px_block, px_loop, px_scope, px_exit, px_ret, seqK_normal, seqK_exit, seqK_ret, condK_true, condK_false, opsK_some, wK_true, wK_false, itK_some, aops_nil, aops_cons, lK_some, aK_some, hK_some, dwK_true, dwK_false, diK_some, dK_light, dK_alloc, dK_heavy, adraw_nil, adraw_cons, aop, cls, light, lightS, binE, aeq, intBin, goInt, pl_int, pl_bool, pl_ptr, pl_slice, aload, isAggT, aeval, tput, awanted, List.range_succ, fin, aresults, aresult, List.replicate, heavy, acallOp, aenter, ble_d, beq_d, firstRegion, readNames, Nxt, isAnc, readsOk, objEq_some, ibne, n1, n2, Nat.ne_of_lt hij, w3, w4, w5, w6, en52, e52]
      exact ⟨i + (j - i), by omega, i, j - i, rfl, by simp (maxSteps := 2000000) only [forget, List.set_cons_succ, List.set_cons_zero], d2, hd2, hR2⟩
    · subst hij
      simp (maxSteps := 2000000) -implicitDefEqProofs [px_skip, px_label, px_region, px_draw, qx_seq, qx_cond, px_block, px_loop, px_scope, px_exit, px_ret, seqK_normal, seqK_exit, seqK_ret, condK_true, condK_false, opsK_some, wK_true, wK_false, itK_some, aops_nil, aops_cons, lK_some, aK_some, hK_some, dwK_true, dwK_false, diK_some, dK_light, dK_alloc, dK_heavy, adraw_nil, adraw_cons, aop, cls, light, lightS, binE, aeq, intBin, goInt, pl_int, pl_bool, pl_ptr, pl_slice, aload, isAggT, aeval, tput, awanted, List.range_succ, fin, aresults, aresult, List.replicate, heavy, acallOp, aenter, ble_d, beq_d, firstRegion, readNames, Nxt, isAnc, readsOk, objEq_some, ibne]
      exact ⟨i, by omega, rfl, d', hd', hR⟩
    · obtain ⟨h2', d2, e52, hd2, hs2⟩ := swr_run (a := c - i) (b := c) (n := j) cv hd' (by omega) (by omega) (by omega)
      have hR2 := rot_gt hR hij hs2
      rw [hlen] at e52
      have n1 : ¬ (i : Int) = (j : Int) := by omega
      have w6 : IntKind.i64.wrap ((i : Int) - (j : Int)) = ((i - j : Nat) : Int) := by rw [IntWalk.i64_in _ (by omega)]; omega
      simp (maxSteps := 2000000) -implicitDefEqProofs [px_skip, px_label, px_region, px_draw, qx_seq, qx_cond, px_block, px_loop, px_scope, px_exit, px_ret, seqK_normal, seqK_exit, seqK_ret, condK_true, condK_false, opsK_some, wK_true, wK_false, itK_some, aops_nil, aops_cons, lK_some, aK_some, hK_some, dwK_true, dwK_false, diK_some, dK_light, dK_alloc, dK_heavy, adraw_nil, adraw_cons, aop, cls, light, lightS, binE, aeq, intBin, goInt, pl_int, pl_bool, pl_ptr, pl_slice, aload, isAggT, aeval, tput, awanted, List.range_succ, fin, aresults, aresult, List.replicate, heavy, acallOp, aenter, ble_d, beq_d, firstRegion, readNames, Nxt, isAnc, readsOk, objEq_some, ibne, n1, hij, Nat.ne_of_gt hij, w3, w6, en52, e52]
      exact ⟨(i - j) + j, by omega, i - j, j, rfl, by simp (maxSteps := 2000000) only [forget, List.set_cons_succ, List.set_cons_zero], d2, hd2, hR2⟩
  subst hx he ht
  have hlen := hR.len
  have e1 := hR.lo_
  have e2 := hR.hi_
  obtain ⟨h2', d2, e52, hd2, hs2⟩ := swr_run (a := c - i) (b := c) (n := i) cv hd' (by omega) (by omega) (by omega)
  obtain ⟨f1, f2, f3⟩ := rot_done hR hs2
  rw [hlen] at e52
  have w3 : IntKind.i64.wrap ((c : Int) - (i : Int)) = ((c - i : Nat) : Int) := by rw [IntWalk.i64_in _ (by omega)]; omega
  simp (maxSteps := 2000000) -implicitDefEqProofs [px_skip, px_label, px_region, px_draw, qx_seq, qx_cond, px_block, px_loop, px_scope, px_exit, px_ret, seqK_normal, seqK_exit, seqK_ret, condK_true, condK_false, opsK_some, wK_true, wK_false, itK_some, aops_nil, aops_cons, lK_some, aK_some, hK_some, dwK_true, dwK_false, diK_some, dK_light, dK_alloc, dK_heavy, adraw_nil, adraw_cons, aop, cls, light, lightS, binE, aeq, intBin, goInt, pl_int, pl_bool, pl_ptr, pl_slice, aload, isAggT, aeval, tput, awanted, List.range_succ, fin, aresults, aresult, List.replicate, heavy, acallOp, aenter, ble_d, beq_d, firstRegion, readNames, Nxt, isAnc, readsOk, objEq_some, w3, en52, e52]
  exact ⟨_, _, ⟨rfl, rfl⟩, rfl, d2, hd2, f1, f2, f3⟩
end Go.Proofs.Ythkefkpmgleolab.Bi
