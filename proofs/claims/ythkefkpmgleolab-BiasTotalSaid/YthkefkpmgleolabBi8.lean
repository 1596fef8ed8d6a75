/- The picks of a bias, in both writings. -/
import Derived.Test.YthkefkpmgleolabBi7
set_option linter.unusedVariables false
set_option linter.unusedSimpArgs false
namespace Go.Proofs.Ythkefkpmgleolab.Bi
open Go Go.Proofs Go.RowKit Go.Proofs.YthkefkpmgleolabAI Go.Proofs.YthkefkpmgleolabFl

theorem min3' (a b : Int) (t fl) : pureRun Try.prog (builtin .min #[3, 3] t fl #[.int .i64 a, .int .i64 b]) = some (.value (.int .i64 (if b < a then b else a))) := by kernel_rfl
theorem min3 (t : Tm) (x y : Operand) (a b : Int) (hx : aeval t x = .int .i64 a) (hy : aeval t y = .int .i64 b) (d ty pos af gu) : purerule Try.prog (aeval t) ⟨d, .call ⟨.builtin .min, #[x, y], #[3, 3]⟩, ty, pos, af, gu⟩ = some (.int .i64 (if b < a then b else a)) := by
  refine pure_of rfl ?_ ?_ rfl
  · simp [Op.operands, Call.operands, hx, hy, pli]
  · obtain ⟨fl, this⟩ : ∃ fl, execOp (aeval t) ⟨d, .call ⟨.builtin .min, #[x, y], #[3, 3]⟩, ty, pos, af, gu⟩ = builtin .min #[3, 3] ty fl #[aeval t x, aeval t y] := ⟨_, by simp [execOp, resolve, invoke]; rfl⟩
    rw [this, hx, hy]; exact min3' a b _ _

/-- The best place so far. -/
def pkTo (ws : List Nat) (turn : Int) : Nat → Nat
  | 0 => 0
  | i + 1 => if 0 < cmpK (atB ws turn (i + 1 : Nat)) (atB ws turn (pkTo ws turn i : Nat)) then i + 1 else pkTo ws turn i
theorem pkTo_le (ws : List Nat) (turn : Int) (i : Nat) : pkTo ws turn i ≤ i := by
  induction i with
  | zero => simp [pkTo]
  | succ i ih => simp only [pkTo]; split <;> omega
/-- How far the places are tried. -/
def lim (ws : List Nat) (of : Int) : Nat := (if (ws.length : Int) < of then ws.length else of.toNat) - 1
def bK (ws : List Nat) (turn : Int) (of : Int) : Int := if of < 2 then 0 else pkTo ws turn (lim ws of)
def bE (of : Int) : Int := if of < 1 then 2 else 0
def bT (turn : Nat) (of : Int) : Nat := if of < 2 then turn else turn + 1
def bL (ws : List Nat) (turn : Nat) (log : List (Int × Int)) (of : Int) : List (Int × Int) := if of < 2 then log else log ++ [(of, ((pkTo ws turn (lim ws of) : Nat) : Int))]

theorem bpick_run {h : Heap} {n : Nat} {F : Nat → Prop} {ws : List Nat} {turn : Nat} {log : List (Int × Int)} (of : Int) (ho : Bis h n F ws turn log) (hw : W64 ws) (hk : ws.length ≤ 2 ^ 47) (ht : turn ≤ 2 ^ 47) (hb : (log.length + 1) * 16 ≤ 2 ^ 47) :
    ∃ h' F', run Try.prog sB 21 [.pointer (some ⟨n, 0, none⟩), .int .i64 of] h = some (.tuple #[.int .i64 (bK ws turn of), .int .i64 (bE of)], h') ∧ Bis h' n F' ws (bT turn of) (bL ws turn log of) ∧ Keep F h h' ∧ ∀ m, F' m → m < h.next → F m := by
  by_cases h1 : of < 1
  · refine ⟨h, F, run_finP pt21 Try.func21 rfl planned21 ?_, ?_, Keep.refl _ _, fun _ x _ => x⟩
    · simp (maxSteps := 2000000) -implicitDefEqProofs [Try.f21, px_skip, px_label, px_region, px_draw, qx_seq, qx_cond, px_block, px_loop, px_scope, px_exit, px_ret, seqK_normal, seqK_exit, seqK_ret, condK_true, condK_false, opsK_some, wK_true, wK_false, itK_some, aops_nil, aops_cons, lK_some, aK_some, hK_some, dwK_true, dwK_false, diK_some, dK_light, dK_alloc, dK_heavy, adraw_nil, adraw_cons, aop, cls, light, lightS, binE, aeq, intBin, goInt, pl_int, pl_bool, pl_ptr, pl_slice, aload, isAggT, aeval, tput, awanted, List.range_succ, fin, aresults, aresult, List.replicate, heavy, acallOp, aenter, ble_d, beq_d, firstRegion, readNames, Nxt, isAnc, readsOk, objEq_some, Try.underlying38, h1, bK, bE, show of < 2 by omega]
    · simpa [bT, bL, show of < 2 by omega] using ho
  by_cases h2 : of = 1
  · refine ⟨h, F, run_finP pt21 Try.func21 rfl planned21 ?_, ?_, Keep.refl _ _, fun _ x _ => x⟩
    · simp (maxSteps := 2000000) -implicitDefEqProofs [Try.f21, px_skip, px_label, px_region, px_draw, qx_seq, qx_cond, px_block, px_loop, px_scope, px_exit, px_ret, seqK_normal, seqK_exit, seqK_ret, condK_true, condK_false, opsK_some, wK_true, wK_false, itK_some, aops_nil, aops_cons, lK_some, aK_some, hK_some, dwK_true, dwK_false, diK_some, dK_light, dK_alloc, dK_heavy, adraw_nil, adraw_cons, aop, cls, light, lightS, binE, aeq, intBin, goInt, pl_int, pl_bool, pl_ptr, pl_slice, aload, isAggT, aeval, tput, awanted, List.range_succ, fin, aresults, aresult, List.replicate, heavy, acallOp, aenter, ble_d, beq_d, firstRegion, readNames, Nxt, isAnc, readsOk, objEq_some, ibeq, Try.underlying38, h1, h2, bK, bE]
    · simpa [bT, bL, show of < 2 by omega] using ho
  have h3 : ¬ of < 2 := by omega
  obtain ⟨g, lv, wv, hn, hg, hl, hw1, fn, fg, hgn, hlf, hwf, hF, hT, hX⟩ := ho
  obtain ⟨wa, wc, rfl⟩ := sl_form hw1
  have hnlt := Heap.get_lt hn
  have hglt := Heap.get_lt hg
  -- the turn goes on
  obtain ⟨hA, hAe⟩ : ∃ x, x = h.put n (some (.cells [.pointer (some ⟨g, 0, none⟩), .slice wa ws.length wc, .int .i64 ((turn + 1 : Nat) : Int)] 77 3 false false)) := ⟨_, rfl⟩
  have kA : Keep (fun m => m = n) h hA := hAe ▸ Keep.put (S := fun m => m = n) hnlt rfl _
  have gA := kA.get hg (by omega)
  have nA : hA.get n = some (.cells [.pointer (some ⟨g, 0, none⟩), .slice wa ws.length wc, .int .i64 ((turn + 1 : Nat) : Int)] 77 3 false false) := by rw [hAe, Heap.get_put hnlt, if_pos rfl]
  have lA := hl.keep kA fun m e x => (hlf m e).2.1 x
  have hne : nm lv ≠ some g := fun e => (hlf g e).2.2 rfl
  obtain ⟨lv', h', e40, gB, lB, kB, nB⟩ := note_run sB of (pkTo ws turn (lim ws of) : Nat) gA lA hne hb
  have hAn : hA.next = h.next := by rw [hAe]; rfl
  have nB1 : h'.get n = some (.cells [.pointer (some ⟨g, 0, none⟩), .slice wa ws.length wc, .int .i64 ((turn + 1 : Nat) : Int)] 77 3 false false) := kB.get nA (fun x => by rcases x with x | x; omega; exact (hlf n x).2.1 rfl)
  have kAll : Keep F h h' := (kA.mono fun m _ x => by rw [show m = n from x]; exact fn).also kB fun m hm x => by
    rcases x with x | x
    · rw [x]; exact fg
    · exact (hlf m x).1
  refine ⟨h', fun m => m = n ∨ m = g ∨ nm lv' = some m, ?_, ⟨g, lv', .slice wa ws.length wc, ?_, gB, ?_, hw1.keep kAll hwf, .inl rfl, .inr (.inl rfl), hgn, fun m e => ⟨.inr (.inr e), ?_, ?_⟩, fun m e => ?_, ?_, fun m e => ?_, fun _ x => x⟩, kAll, ?_⟩
  rotate_left
  · simpa [bT, h3] using nB1
  · simpa [bL, h3, picks_app] using lB
  · have := nB m e; omega
  · have := nB m e; omega
  · rintro (x | x | x)
    · exact hwf m e (x ▸ fn)
    · exact hwf m e (x ▸ fg)
    · have := nB m x; have := hw1.lt e; omega
  · rintro m (x | x | x)
    · have := kAll.1; omega
    · have := kAll.1; omega
    · exact lB.sl.lt x
  · obtain ⟨c, s, gr, ro, hm⟩ := hT m e
    exact ⟨c, s, gr, ro, kAll.get hm (hwf m e)⟩
  · rintro m (x | x | x) hm
    · exact x ▸ fn
    · exact x ▸ fg
    · have := nB m x; omega
  -- the walk
  refine run_finP pt21 Try.func21 rfl planned21 ?_
  simp (maxSteps := 2000000) -implicitDefEqProofs [Try.f21, px_skip, px_label, px_region, px_draw, qx_seq, qx_cond, px_block, px_loop, px_scope, px_exit, px_ret, seqK_normal, seqK_exit, seqK_ret, condK_true, condK_false, opsK_some, wK_true, wK_false, itK_some, aops_nil, aops_cons, lK_some, aK_some, hK_some, dwK_true, dwK_false, diK_some, dK_light, dK_alloc, dK_heavy, adraw_nil, adraw_cons, aop, cls, light, lightS, binE, aeq, intBin, goInt, pl_int, pl_bool, pl_ptr, pl_slice, aload, isAggT, aeval, tput, awanted, List.range_succ, fin, aresults, aresult, List.replicate, heavy, acallOp, aenter, ble_d, beq_d, firstRegion, readNames, Nxt, isAnc, readsOk, objEq_some, ibeq, Try.underlying38, h1, h2, sB21]
  generalize hl : loopω _ _ _ _ = r
  obtain ⟨e, t', hh, hx, he, hhe, x14, x15, x16, x17, x18, x19, x20, x21, x22, htt⟩ : ∃ e t' hh, r = some (e, t', hh) ∧ e = .exit 0 ∧ hh = h ∧ ∃ x14 x15 x16 x17 x18 x19 x20 x21 x22, t' = [.pointer (some ⟨n, 0, none⟩), .int .i64 of, unk, unk, unk, unk, .int .i64 (pkTo ws turn (lim ws of) : Nat), .int .i64 ((lim ws of : Nat) + 1 : Int), unk, unk, unk, unk, unk, unk, x14, x15, x16, x17, x18, x19, x20, x21, x22, unk, unk, unk, unk, unk, unk, unk, unk, unk, unk, unk, unk, unk, unk, unk, unk, unk, unk, unk, unk, unk, unk, unk, unk, unk, unk, unk, unk, unk, unk, unk, unk, unk, unk, unk, unk, unk, unk, unk, unk] := by
    rw [← hl]
    refine loop_by (fun k t hh => ∃ j, j + k = lim ws of ∧ forget [2, 3, 4, 5, 8, 9, 10, 11, 12, 13, 14, 15, 16, 17, 18, 19, 20, 21, 22, 23, 24, 25, 26, 27, 28, 29, 30, 31, 32, 33, 34, 35, 36, 37, 38, 39, 40, 41, 42, 43, 44, 45, 46, 47, 48, 49, 50, 51, 52, 53, 54, 55, 56, 57, 58, 59, 60, 61, 62] t = [.pointer (some ⟨n, 0, none⟩), .int .i64 of, unk, unk, unk, unk, .int .i64 (pkTo ws turn j : Nat), .int .i64 ((j : Nat) + 1 : Int), unk, unk, unk, unk, unk, unk, unk, unk, unk, unk, unk, unk, unk, unk, unk, unk, unk, unk, unk, unk, unk, unk, unk, unk, unk, unk, unk, unk, unk, unk, unk, unk, unk, unk, unk, unk, unk, unk, unk, unk, unk, unk, unk, unk, unk, unk, unk, unk, unk, unk, unk, unk, unk, unk, unk] ∧ hh = h)
      (fun e t' hh => e = .exit 0 ∧ hh = h ∧ ∃ x14 x15 x16 x17 x18 x19 x20 x21 x22, t' = [.pointer (some ⟨n, 0, none⟩), .int .i64 of, unk, unk, unk, unk, .int .i64 (pkTo ws turn (lim ws of) : Nat), .int .i64 ((lim ws of : Nat) + 1 : Int), unk, unk, unk, unk, unk, unk, x14, x15, x16, x17, x18, x19, x20, x21, x22, unk, unk, unk, unk, unk, unk, unk, unk, unk, unk, unk, unk, unk, unk, unk, unk, unk, unk, unk, unk, unk, unk, unk, unk, unk, unk, unk, unk, unk, unk, unk, unk, unk, unk, unk, unk, unk, unk, unk, unk]) ?_ (lim ws of) _ _ ⟨0, by omega, by kernel_rfl, rfl⟩
    rintro k t hh ⟨j, hj, ht, rfl⟩
    rw [ht]
    have hmn : ∃ m : Nat, (if (ws.length : Int) < of then (ws.length : Int) else of) = (m : Int) ∧ lim ws of = m - 1 := by
      unfold lim
      by_cases hq : (ws.length : Int) < of
      · exact ⟨ws.length, by rw [if_pos hq], by rw [if_pos hq]⟩
      · exact ⟨of.toNat, by rw [if_neg hq]; omega, by rw [if_neg hq]⟩
    obtain ⟨m, hm, hlm⟩ := hmn
    have hmk : m ≤ ws.length + 2 := by
      by_cases hq : (ws.length : Int) < of
      · rw [if_pos hq] at hm; omega
      · rw [if_neg hq] at hm; omega
    rcases Nat.lt_or_ge j (lim ws of) with h5 | h5
    · have hc : (j : Int) + 1 < (m : Int) := by omega
      have hp := pkTo_le ws turn j
      have eA := at_run (turn : Int) ((j : Int) + 1) hw1 hw hk
      have eB := at_run (turn : Int) ((pkTo ws turn j : Nat) : Int) hw1 hw hk
      have lA := atB_lt hw (turn : Int) ((j : Int) + 1)
      have lB := atB_lt hw (turn : Int) ((pkTo ws turn j : Nat) : Int)
      have eC := cmp_run sB _ _ lA lB hh
      have hwr : IntKind.i64.wrap ((j : Int) + 1 + 1) = ((j : Int) + 1 + 1) := IntWalk.i64_in _ (by omega)
      have hs : pkTo ws turn (j + 1) = if 0 < cmpK (atB ws turn ((j : Int) + 1)) (atB ws turn ((pkTo ws turn j : Nat) : Int)) then j + 1 else pkTo ws turn j := rfl
      have hjj : ((j + 1 : Nat) : Int) + 1 = (j : Int) + 1 + 1 := by omega
      have hj1 : ((j + 1 : Nat) : Int) = (j : Int) + 1 := by omega
      generalize atB ws turn ((j : Int) + 1) = A at *
      generalize atB ws turn ((pkTo ws turn j : Nat) : Int) = B at *
      by_cases hcmp : 0 < cmpK A B
      · rw [if_pos hcmp] at hs
        simp (maxSteps := 2000000) -implicitDefEqProofs [px_skip, px_label, px_region, px_draw, qx_seq, qx_cond, px_block, px_loop, px_scope, px_exit, px_ret, seqK_normal, seqK_exit, seqK_ret, condK_true, condK_false, opsK_some, wK_true, wK_false, itK_some, aops_nil, aops_cons, lK_some, aK_some, hK_some, dwK_true, dwK_false, diK_some, dK_light, dK_alloc, dK_heavy, adraw_nil, adraw_cons, aop, cls, light, lightS, binE, aeq, intBin, goInt, pl_int, pl_bool, pl_ptr, pl_slice, aload, isAggT, aeval, tput, awanted, List.range_succ, fin, aresults, aresult, List.replicate, heavy, acallOp, aenter, ble_d, beq_d, firstRegion, readNames, Nxt, isAnc, readsOk, objEq_some, pt21_11, pl21_11, an21_11, min3, hm, hc, fa77_1, fa77_2, hn, Try.underlying25, Try.underlying3, en18, en26, eA, eB, eC, hcmp, hwr]
        exact ⟨k - 1, by omega, j + 1, by omega, by simp (maxSteps := 2000000) only [forget, List.set_cons_succ, List.set_cons_zero, hs, hjj, hj1]⟩
      · rw [if_neg hcmp] at hs
        simp (maxSteps := 2000000) -implicitDefEqProofs [px_skip, px_label, px_region, px_draw, qx_seq, qx_cond, px_block, px_loop, px_scope, px_exit, px_ret, seqK_normal, seqK_exit, seqK_ret, condK_true, condK_false, opsK_some, wK_true, wK_false, itK_some, aops_nil, aops_cons, lK_some, aK_some, hK_some, dwK_true, dwK_false, diK_some, dK_light, dK_alloc, dK_heavy, adraw_nil, adraw_cons, aop, cls, light, lightS, binE, aeq, intBin, goInt, pl_int, pl_bool, pl_ptr, pl_slice, aload, isAggT, aeval, tput, awanted, List.range_succ, fin, aresults, aresult, List.replicate, heavy, acallOp, aenter, ble_d, beq_d, firstRegion, readNames, Nxt, isAnc, readsOk, objEq_some, pt21_11, pl21_11, an21_11, min3, hm, hc, fa77_1, fa77_2, hn, Try.underlying25, Try.underlying3, en18, en26, eA, eB, eC, hcmp, hwr]
        exact ⟨k - 1, by omega, j + 1, by omega, by simp (maxSteps := 2000000) only [forget, List.set_cons_succ, List.set_cons_zero, hs, hjj, hj1]⟩
    · obtain rfl : j = lim ws of := by omega
      have hc : ¬ (lim ws of : Int) + 1 < (m : Int) := by omega
      simp (maxSteps := 2000000) -implicitDefEqProofs [px_skip, px_label, px_region, px_draw, qx_seq, qx_cond, px_block, px_loop, px_scope, px_exit, px_ret, seqK_normal, seqK_exit, seqK_ret, condK_true, condK_false, opsK_some, wK_true, wK_false, itK_some, aops_nil, aops_cons, lK_some, aK_some, hK_some, dwK_true, dwK_false, diK_some, dK_light, dK_alloc, dK_heavy, adraw_nil, adraw_cons, aop, cls, light, lightS, binE, aeq, intBin, goInt, pl_int, pl_bool, pl_ptr, pl_slice, aload, isAggT, aeval, tput, awanted, List.range_succ, fin, aresults, aresult, List.replicate, heavy, acallOp, aenter, ble_d, beq_d, firstRegion, readNames, Nxt, isAnc, readsOk, objEq_some, min3, hm, hc, fa77_1, hn, Try.underlying25]
  subst hx he hhe htt
  have hwr : IntKind.i64.wrap ((turn : Int) + 1) = (turn : Int) + 1 := IntWalk.i64_in _ (by omega)
  have hcs : ((turn + 1 : Nat) : Int) = (turn : Int) + 1 := by omega
  rw [hcs] at hAe
  simp (maxSteps := 2000000) -implicitDefEqProofs [px_skip, px_label, px_region, px_draw, qx_seq, qx_cond, px_block, px_loop, px_scope, px_exit, px_ret, seqK_normal, seqK_exit, seqK_ret, condK_true, condK_false, opsK_some, wK_true, wK_false, itK_some, aops_nil, aops_cons, lK_some, aK_some, hK_some, dwK_true, dwK_false, diK_some, dK_light, dK_alloc, dK_heavy, adraw_nil, adraw_cons, aop, cls, light, lightS, binE, aeq, intBin, goInt, pl_int, pl_bool, pl_ptr, pl_slice, aload, isAggT, aeval, tput, awanted, List.range_succ, fin, aresults, aresult, List.replicate, heavy, acallOp, aenter, ble_d, beq_d, firstRegion, readNames, Nxt, isAnc, readsOk, objEq_some, fa77_0, fa77_2, hn, nA, Try.underlying25, Try.underlying3, Try.underlying72, sz3, okCells, one, astore, hwr, hcs, ← hAe, en40, e40, bK, bE, h1, h3]
end Go.Proofs.Ythkefkpmgleolab.Bi
