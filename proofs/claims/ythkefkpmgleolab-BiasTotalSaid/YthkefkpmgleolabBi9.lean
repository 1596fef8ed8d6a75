/- The second writing's picks. -/
import Derived.Test.YthkefkpmgleolabBi8
set_option linter.unusedVariables false
set_option linter.unusedSimpArgs false
namespace Go.Proofs.Ythkefkpmgleolab.Bi
open Go Go.Proofs Go.RowKit Go.Proofs.YthkefkpmgleolabAI Go.Proofs.YthkefkpmgleolabFl

/-- A log's copy, with one pick more. -/
theorem more_run {h : Heap} {lv : Value} {k : Nat} {cs : List Value} (a b : Int) (hv : Sl h lv 2 k cs) (h1 : cs.all one = true) (hk : (k + 1) * 16 ≤ 2 ^ 47) :
    ∃ v1 h1 v2 h2, aappend Try.prog 40 40 (.slice (some ⟨h.next, 0, none⟩) 0 0) lv (h.new (.cells [] 58 2 false false)) = some (v1, h1) ∧
      aappend Try.prog 40 40 v1 (.slice (some ⟨h1.next, 0, none⟩) 1 1) (h1.new (.cells [.int .i64 a, .int .i64 b] 58 2 false false)) = some (v2, h2) ∧ Lg h2 v2 58 2 (k + 1) (cs ++ [.int .i64 a, .int .i64 b]) ∧ Keep No h h2 ∧ ∀ m, nm v2 = some m → h.next ≤ m := by
  have hv' := hv.keep (Keep.new No h (.cells [] 58 2 false false)) (fun _ _ x => x)
  obtain ⟨v1, h2, e, hl, hkp, hn, _, hf⟩ := append_lg (t := 40) (xt := 40) Try.underlying40 Try.underlying40 rfl el58 (Lg.empty (h.new (.cells [] 58 2 false false)) 58 2 h.next 0) hv' (by omega) (by omega) h1
  have hk1 : Keep No h h2 := (Keep.new No h (.cells [] 58 2 false false)).also hkp fun m hm x => by have := (nm_eq x).1; omega
  have hn1 : ∀ m, nm v1 = some m → h.next ≤ m := fun m hm => by
    rcases Nat.lt_or_ge m h.next with h2 | h2
    · have := hn m hm (by rw [Heap.next_new]; omega)
      have := (nm_eq this).1; omega
    · exact h2
  have hx : Sl (h2.new (.cells [.int .i64 a, .int .i64 b] 58 2 false false)) (.slice (some ⟨h2.next, 0, none⟩) 1 1) 2 1 [.int .i64 a, .int .i64 b] :=
    ⟨rfl, .inr ⟨_, _, rfl, fun _ => ⟨_, _, _, _, _, by rw [Heap.get_new, if_pos rfl], rfl⟩⟩⟩
  rw [Nat.zero_add, List.nil_append] at hl
  obtain ⟨v2, h3, e3, hl3, hkp3, hn3, _, hf3⟩ := append_lg (t := 40) (xt := 40) Try.underlying40 Try.underlying40 rfl el58 (hl.keep (Keep.new No h2 _) (fun _ _ x => x)) hx (by omega) (by omega) rfl
  obtain ⟨m', em, hm'⟩ := hf3 (by omega)
  rw [Heap.next_new] at hm'
  refine ⟨v1, h2, v2, h3, e, e3, hl3, (hk1.trans (Keep.new No h2 _)).also hkp3 fun m hm x => ?_, fun m e1 => ?_⟩
  · have := hn1 m x; omega
  · rw [em] at e1; cases e1; have := hk1.1; omega


theorem oki (k : IntKind) (n : Int) : okCells (.int k n) = some [.int k n] := rfl
theorem rbpick_run {h : Heap} {wv lv : Value} {ws : List Nat} {turn : Nat} {log : List (Int × Int)} (of : Int) (hw1 : Sl h wv 1 ws.length (us ws)) (hl : Sl h lv 2 log.length (picks log)) (hw : W64 ws) (hk : ws.length ≤ 2 ^ 47) (ht : turn ≤ 2 ^ 47) (hb : (log.length + 1) * 16 ≤ 2 ^ 47) :
    ∃ lv' h', run Try.prog sB 22 [.agg #[wv, .int .i64 (turn : Nat), lv], .int .i64 of] h = some (.tuple #[.agg #[wv, .int .i64 (bT turn of : Nat), lv'], .int .i64 (bK ws turn of), .int .i64 (bE of)], h') ∧
      Sl h' lv' 2 (bL ws turn log of).length (picks (bL ws turn log of)) ∧ Keep No h h' ∧ ∀ m, nm lv' = some m → nm lv = some m ∨ h.next ≤ m := by
  have o1 := Sl_one hw1
  have o2 := Sl_one hl
  have o3 : one (.int .i64 (turn : Nat)) = true := rfl
  obtain ⟨wa, wc, rfl⟩ := sl_form hw1
  obtain ⟨hh, hhe⟩ : ∃ x, x = (h.new (.cells [.slice wa ws.length wc, .int .i64 (turn : Nat), lv] 42 3 false false)).new (.cells [.slice none 0 0, .int .i64 0, .slice none 0 0] 42 3 false false) := ⟨_, rfl⟩
  have k0 : Keep No h hh := hhe ▸ (Keep.new No h _).trans (Keep.new No _ _)
  have g2 : hh.get h.next = some (.cells [.slice wa ws.length wc, .int .i64 (turn : Nat), lv] 42 3 false false) := by rw [hhe, Heap.get_new, Heap.next_new, if_neg (by omega), Heap.get_new, if_pos rfl]
  have g4 : hh.get (h.next + 1) = some (.cells [.slice none 0 0, .int .i64 0, .slice none 0 0] 42 3 false false) := by rw [hhe, Heap.get_new, Heap.next_new, if_pos rfl]
  have hnx : hh.next = h.next + 2 := by rw [hhe]; rfl
  have okA := okc3 o1 o3 o2
  have bxx := fun ρ x hx => bx 42 3 sz42 ρ x [.slice wa ws.length wc, .int .i64 (turn : Nat), lv] (by rw [show ρ x = .agg #[.slice wa ws.length wc, .int .i64 (turn : Nat), lv] from hx]; exact okA)
  have k1 : Keep No h (hh.put (h.next + 1) (some (.cells [.slice wa ws.length wc, .int .i64 (turn : Nat), lv] 42 3 false false))) := k0.also (Keep.put (S := fun m => m = h.next + 1) (by omega) rfl _) fun m hm e => by omega
  have g5 : (hh.put (h.next + 1) (some (.cells [.slice wa ws.length wc, .int .i64 (turn : Nat), lv] 42 3 false false))).get (h.next + 1) = some (.cells [.slice wa ws.length wc, .int .i64 (turn : Nat), lv] 42 3 false false) := by rw [Heap.get_put (by omega), if_pos rfl]
  by_cases h1 : of < 1
  · refine ⟨lv, hh.put (h.next + 1) (some (.cells [.slice wa ws.length wc, .int .i64 (turn : Nat), lv] 42 3 false false)), run_finP pt22 Try.func22 rfl planned22 ?_, ?_, k1, fun _ x => .inl x⟩
    · simp (maxSteps := 2000000) -implicitDefEqProofs [Try.f22, px_skip, px_label, px_region, px_draw, qx_seq, qx_cond, px_block, px_loop, px_scope, px_exit, px_ret, seqK_normal, seqK_exit, seqK_ret, condK_true, condK_false, opsK_some, wK_true, wK_false, itK_some, aops_nil, aops_cons, lK_some, aK_some, hK_some, dwK_true, dwK_false, diK_some, dK_light, dK_alloc, dK_heavy, adraw_nil, adraw_cons, aop, cls, light, lightS, binE, aeq, intBin, goInt, pl_int, pl_bool, pl_ptr, pl_slice, aload, isAggT, aeval, tput, awanted, List.range_succ, fin, aresults, aresult, List.replicate, heavy, acallOp, aenter, ble_d, beq_d, firstRegion, readNames, Nxt, isAnc, readsOk, objEq_some, bxx, okA, sz42, Try.underlying42, al42, ← hhe, Heap.next_new, g2, g4, g5, astore, h1, bK, bE, bT, show of < 2 by omega]
    · simpa [bL, show of < 2 by omega] using hl.keep k1 (fun _ _ x => x)
  by_cases h2 : of = 1
  · refine ⟨lv, hh.put (h.next + 1) (some (.cells [.slice wa ws.length wc, .int .i64 (turn : Nat), lv] 42 3 false false)), run_finP pt22 Try.func22 rfl planned22 ?_, ?_, k1, fun _ x => .inl x⟩
    · simp (maxSteps := 2000000) -implicitDefEqProofs [Try.f22, px_skip, px_label, px_region, px_draw, qx_seq, qx_cond, px_block, px_loop, px_scope, px_exit, px_ret, seqK_normal, seqK_exit, seqK_ret, condK_true, condK_false, opsK_some, wK_true, wK_false, itK_some, aops_nil, aops_cons, lK_some, aK_some, hK_some, dwK_true, dwK_false, diK_some, dK_light, dK_alloc, dK_heavy, adraw_nil, adraw_cons, aop, cls, light, lightS, binE, aeq, intBin, goInt, pl_int, pl_bool, pl_ptr, pl_slice, aload, isAggT, aeval, tput, awanted, List.range_succ, fin, aresults, aresult, List.replicate, heavy, acallOp, aenter, ble_d, beq_d, firstRegion, readNames, Nxt, isAnc, readsOk, objEq_some, ibeq, bxx, okA, sz42, Try.underlying42, al42, ← hhe, Heap.next_new, g2, g4, g5, astore, h1, h2, bK, bE, bT]
    · simpa [bL, show of < 2 by omega] using hl.keep k1 (fun _ _ x => x)
  have h3 : ¬ of < 2 := by omega
  have hw2 := hw1.keep k0 (fun _ _ x => x)
  -- behind the loop
  obtain ⟨hC, hCe⟩ : ∃ y, y = hh.put h.next (some (.cells [.slice wa ws.length wc, .int .i64 ((turn + 1 : Nat) : Int), lv] 42 3 false false)) := ⟨_, rfl⟩
  have kC : Keep (fun m => m = h.next) hh hC := hCe ▸ Keep.put (S := fun m => m = h.next) (by omega) rfl _
  have nC : hC.next = hh.next := by rw [hCe]; rfl
  have gC2 : hC.get h.next = some (.cells [.slice wa ws.length wc, .int .i64 ((turn + 1 : Nat) : Int), lv] 42 3 false false) := by rw [hCe, Heap.get_put (by omega), if_pos rfl]
  have gC4 := kC.get g4 (by omega)
  have gh := (Keep.new No hC (.cells [] 58 2 false false)).get gC2 (fun x => x)
  obtain ⟨v1, hA, v2, hB, e1, e2, hl2, hk2, hf2⟩ := more_run of ((pkTo ws turn (lim ws of) : Nat) : Int) ((hl.keep k0 (fun _ _ x => x)).keep kC (fun m e e' => by have := hl.lt e; omega)) (picks_one _) hb
  have hkn := hk2.1
  have gB2 := hk2.get gC2 (fun x => x)
  have gB4 := hk2.get gC4 (fun x => x)
  have ok2 := hl2.sl.okc
  have o4 := Sl_one hl2.sl
  have okX : okCells (.agg #[.slice wa ws.length wc, .int .i64 ((turn + 1 : Nat) : Int), v2]) = some [.slice wa ws.length wc, .int .i64 ((turn + 1 : Nat) : Int), v2] := okc3 rfl rfl o4
  obtain ⟨hD, hDe⟩ : ∃ y, y = hB.put h.next (some (.cells [.slice wa ws.length wc, .int .i64 ((turn + 1 : Nat) : Int), v2] 42 3 false false)) := ⟨_, rfl⟩
  have kD : Keep (fun m => m = h.next) hB hD := hDe ▸ Keep.put (S := fun m => m = h.next) (by omega) rfl _
  have gD2 : hD.get h.next = some (.cells [.slice wa ws.length wc, .int .i64 ((turn + 1 : Nat) : Int), v2] 42 3 false false) := by rw [hDe, Heap.get_put (by omega), if_pos rfl]
  have gD4 := kD.get gB4 (by omega)
  have nD : hD.next = hB.next := by rw [hDe]; rfl
  obtain ⟨hE, hEe⟩ : ∃ y, y = hD.put (h.next + 1) (some (.cells [.slice wa ws.length wc, .int .i64 ((turn + 1 : Nat) : Int), v2] 42 3 false false)) := ⟨_, rfl⟩
  have kE : Keep (fun m => m = h.next + 1) hD hE := hEe ▸ Keep.put (S := fun m => m = h.next + 1) (by omega) rfl _
  have gE4 : hE.get (h.next + 1) = some (.cells [.slice wa ws.length wc, .int .i64 ((turn + 1 : Nat) : Int), v2] 42 3 false false) := by rw [hEe, Heap.get_put (by omega), if_pos rfl]
  have kk : Keep No h hE := (((k0.also kC fun m hm e => by omega).trans hk2).also kD fun m hm e => by omega).also kE fun m hm e => by omega
  have hl3 := (hl2.keep kD (fun m e e' => by have := hf2 m e; omega)).keep kE (fun m e e' => by have := hf2 m e; omega)
  refine ⟨v2, hE, run_finP pt22 Try.func22 rfl planned22 ?_, ?_, kk, fun m e => .inr (by have := hf2 m e; omega)⟩
  rotate_left
  · simpa [bL, h3, picks_app] using hl3.sl
  simp (maxSteps := 2000000) -implicitDefEqProofs [Try.f22, px_skip, px_label, px_region, px_draw, qx_seq, qx_cond, px_block, px_loop, px_scope, px_exit, px_ret, seqK_normal, seqK_exit, seqK_ret, condK_true, condK_false, opsK_some, wK_true, wK_false, itK_some, aops_nil, aops_cons, lK_some, aK_some, hK_some, dwK_true, dwK_false, diK_some, dK_light, dK_alloc, dK_heavy, adraw_nil, adraw_cons, aop, cls, light, lightS, binE, aeq, intBin, goInt, pl_int, pl_bool, pl_ptr, pl_slice, aload, isAggT, aeval, tput, awanted, List.range_succ, fin, aresults, aresult, List.replicate, heavy, acallOp, aenter, ble_d, beq_d, firstRegion, readNames, Nxt, isAnc, readsOk, objEq_some, ibeq, bxx, okA, sz42, Try.underlying42, al42, ← hhe, Heap.next_new, h1, h2, sB22]
  generalize hl : loopω _ _ _ _ = r
  obtain ⟨e, t', hx', hx, he, hhe', x15, x16, x17, x18, x19, x20, x21, x22, x23, x24, htt⟩ : ∃ e t' hx', r = some (e, t', hx') ∧ e = .exit 0 ∧ hx' = hh ∧ ∃ x15 x16 x17 x18 x19 x20 x21 x22 x23 x24, t' = [unk, .int .i64 of, .pointer (some ⟨h.next, 0, none⟩), unk, .pointer (some ⟨h.next + 1, 0, none⟩), unk, unk, .int .i64 (pkTo ws turn (lim ws of) : Nat), .int .i64 ((lim ws of : Nat) + 1 : Int), unk, unk, unk, unk, unk, unk, x15, x16, x17, x18, x19, x20, x21, x22, x23, x24, unk, unk, unk, unk, unk, unk, unk, unk, unk, unk, unk, unk, unk, unk, unk, unk, unk, unk, unk, unk, unk, unk, unk, unk, unk, unk, unk, unk, unk, unk, unk, unk, unk] := by
    rw [← hl]
    refine loop_by (fun k t hx' => ∃ j, j + k = lim ws of ∧ forget [0, 3, 5, 6, 9, 10, 11, 12, 13, 14, 15, 16, 17, 18, 19, 20, 21, 22, 23, 24, 25, 26, 27, 28, 29, 30, 31, 32, 33, 34, 35, 36, 37, 38, 39, 40, 41, 42, 43, 44, 45, 46, 47, 48, 49, 50, 51, 52, 53, 54, 55, 56, 57] t = [unk, .int .i64 of, .pointer (some ⟨h.next, 0, none⟩), unk, .pointer (some ⟨h.next + 1, 0, none⟩), unk, unk, .int .i64 (pkTo ws turn j : Nat), .int .i64 ((j : Nat) + 1 : Int), unk, unk, unk, unk, unk, unk, unk, unk, unk, unk, unk, unk, unk, unk, unk, unk, unk, unk, unk, unk, unk, unk, unk, unk, unk, unk, unk, unk, unk, unk, unk, unk, unk, unk, unk, unk, unk, unk, unk, unk, unk, unk, unk, unk, unk, unk, unk, unk, unk] ∧ hx' = hh)
      (fun e t' hx' => e = .exit 0 ∧ hx' = hh ∧ ∃ x15 x16 x17 x18 x19 x20 x21 x22 x23 x24, t' = [unk, .int .i64 of, .pointer (some ⟨h.next, 0, none⟩), unk, .pointer (some ⟨h.next + 1, 0, none⟩), unk, unk, .int .i64 (pkTo ws turn (lim ws of) : Nat), .int .i64 ((lim ws of : Nat) + 1 : Int), unk, unk, unk, unk, unk, unk, x15, x16, x17, x18, x19, x20, x21, x22, x23, x24, unk, unk, unk, unk, unk, unk, unk, unk, unk, unk, unk, unk, unk, unk, unk, unk, unk, unk, unk, unk, unk, unk, unk, unk, unk, unk, unk, unk, unk, unk, unk, unk, unk]) ?_ (lim ws of) _ _ ⟨0, by omega, by kernel_rfl, rfl⟩
    rintro k t hx' ⟨j, hj, ht, rfl⟩
    rw [ht]
    have hmn : (j < lim ws of ↔ (j : Int) + 1 < of ∧ (j : Int) + 1 < ws.length) := by
      unfold lim; split <;> omega
    rcases Nat.lt_or_ge j (lim ws of) with h5 | h5
    · obtain ⟨hc1, hc2⟩ := hmn.1 h5
      have hp := pkTo_le ws turn j
      have eA := rat_run (turn : Int) ((j : Int) + 1) hw2 hw hk
      have eB := rat_run (turn : Int) ((pkTo ws turn j : Nat) : Int) hw2 hw hk
      have lA := atB_lt hw (turn : Int) ((j : Int) + 1)
      have lB := atB_lt hw (turn : Int) ((pkTo ws turn j : Nat) : Int)
      have eC := rcmp_run sB _ _ lA lB hx'
      have hwr : IntKind.i64.wrap ((j : Int) + 1 + 1) = ((j : Int) + 1 + 1) := IntWalk.i64_in _ (by omega)
      have hs : pkTo ws turn (j + 1) = if 0 < cmpK (atB ws turn ((j : Int) + 1)) (atB ws turn ((pkTo ws turn j : Nat) : Int)) then j + 1 else pkTo ws turn j := rfl
      have hjj : ((j + 1 : Nat) : Int) + 1 = (j : Int) + 1 + 1 := by omega
      have hj1 : ((j + 1 : Nat) : Int) = (j : Int) + 1 := by omega
      generalize atB ws turn ((j : Int) + 1) = A at *
      generalize atB ws turn ((pkTo ws turn j : Nat) : Int) = B at *
      by_cases hcmp : 0 < cmpK A B
      · rw [if_pos hcmp] at hs
        simp (maxSteps := 2000000) -implicitDefEqProofs [px_skip, px_label, px_region, px_draw, qx_seq, qx_cond, px_block, px_loop, px_scope, px_exit, px_ret, seqK_normal, seqK_exit, seqK_ret, condK_true, condK_false, opsK_some, wK_true, wK_false, itK_some, aops_nil, aops_cons, lK_some, aK_some, hK_some, dwK_true, dwK_false, diK_some, dK_light, dK_alloc, dK_heavy, adraw_nil, adraw_cons, aop, cls, light, lightS, binE, aeq, intBin, goInt, pl_int, pl_bool, pl_ptr, pl_slice, aload, isAggT, aeval, tput, awanted, List.range_succ, fin, aresults, aresult, List.replicate, heavy, acallOp, aenter, ble_d, beq_d, firstRegion, readNames, Nxt, isAnc, readsOk, objEq_some, pt22_9, pl22_9, an22_9, hc1, hc2, fa42_0, fa42_1, g2, Try.underlying22, Try.underlying3, en19, en29, eA, eB, eC, hcmp, hwr]
        exact ⟨k - 1, by omega, j + 1, by omega, by simp (maxSteps := 2000000) only [forget, List.set_cons_succ, List.set_cons_zero, hs, hjj, hj1]⟩
      · rw [if_neg hcmp] at hs
        simp (maxSteps := 2000000) -implicitDefEqProofs [px_skip, px_label, px_region, px_draw, qx_seq, qx_cond, px_block, px_loop, px_scope, px_exit, px_ret, seqK_normal, seqK_exit, seqK_ret, condK_true, condK_false, opsK_some, wK_true, wK_false, itK_some, aops_nil, aops_cons, lK_some, aK_some, hK_some, dwK_true, dwK_false, diK_some, dK_light, dK_alloc, dK_heavy, adraw_nil, adraw_cons, aop, cls, light, lightS, binE, aeq, intBin, goInt, pl_int, pl_bool, pl_ptr, pl_slice, aload, isAggT, aeval, tput, awanted, List.range_succ, fin, aresults, aresult, List.replicate, heavy, acallOp, aenter, ble_d, beq_d, firstRegion, readNames, Nxt, isAnc, readsOk, objEq_some, pt22_9, pl22_9, an22_9, hc1, hc2, fa42_0, fa42_1, g2, Try.underlying22, Try.underlying3, en19, en29, eA, eB, eC, hcmp, hwr]
        exact ⟨k - 1, by omega, j + 1, by omega, by simp (maxSteps := 2000000) only [forget, List.set_cons_succ, List.set_cons_zero, hs, hjj, hj1]⟩
    · obtain rfl : j = lim ws of := by omega
      by_cases hc1 : (lim ws of : Int) + 1 < of
      · have hc2 : ¬ (lim ws of : Int) + 1 < ws.length := by omega
        simp (maxSteps := 2000000) -implicitDefEqProofs [px_skip, px_label, px_region, px_draw, qx_seq, qx_cond, px_block, px_loop, px_scope, px_exit, px_ret, seqK_normal, seqK_exit, seqK_ret, condK_true, condK_false, opsK_some, wK_true, wK_false, itK_some, aops_nil, aops_cons, lK_some, aK_some, hK_some, dwK_true, dwK_false, diK_some, dK_light, dK_alloc, dK_heavy, adraw_nil, adraw_cons, aop, cls, light, lightS, binE, aeq, intBin, goInt, pl_int, pl_bool, pl_ptr, pl_slice, aload, isAggT, aeval, tput, awanted, List.range_succ, fin, aresults, aresult, List.replicate, heavy, acallOp, aenter, ble_d, beq_d, firstRegion, readNames, Nxt, isAnc, readsOk, objEq_some, hc1, hc2, fa42_0, g2, Try.underlying22]
      · simp (maxSteps := 2000000) -implicitDefEqProofs [px_skip, px_label, px_region, px_draw, qx_seq, qx_cond, px_block, px_loop, px_scope, px_exit, px_ret, seqK_normal, seqK_exit, seqK_ret, condK_true, condK_false, opsK_some, wK_true, wK_false, itK_some, aops_nil, aops_cons, lK_some, aK_some, hK_some, dwK_true, dwK_false, diK_some, dK_light, dK_alloc, dK_heavy, adraw_nil, adraw_cons, aop, cls, light, lightS, binE, aeq, intBin, goInt, pl_int, pl_bool, pl_ptr, pl_slice, aload, isAggT, aeval, tput, awanted, List.range_succ, fin, aresults, aresult, List.replicate, heavy, acallOp, aenter, ble_d, beq_d, firstRegion, readNames, Nxt, isAnc, readsOk, objEq_some, hc1, fa42_0, g2, Try.underlying22]
  subst hx he hhe' htt
  have hwr : IntKind.i64.wrap ((turn : Int) + 1) = (turn : Int) + 1 := IntWalk.i64_in _ (by omega)
  have hcs : ((turn + 1 : Nat) : Int) = (turn : Int) + 1 := by omega
  rw [hcs] at hCe hDe hEe gC2 gB2 gh okX gD2 gE4
  simp (maxSteps := 2000000) -implicitDefEqProofs [px_skip, px_label, px_region, px_draw, qx_seq, qx_cond, px_block, px_loop, px_scope, px_exit, px_ret, seqK_normal, seqK_exit, seqK_ret, condK_true, condK_false, opsK_some, wK_true, wK_false, itK_some, aops_nil, aops_cons, lK_some, aK_some, hK_some, dwK_true, dwK_false, diK_some, dK_light, dK_alloc, dK_heavy, adraw_nil, adraw_cons, aop, cls, light, lightS, binE, aeq, intBin, goInt, pl_int, pl_bool, pl_ptr, pl_slice, aload, isAggT, aeval, tput, awanted, List.range_succ, fin, aresults, aresult, List.replicate, heavy, acallOp, aenter, ble_d, beq_d, firstRegion, readNames, Nxt, isAnc, readsOk, objEq_some, fa42_0, fa42_1, fa42_2, g2, g4, gC2, gC4, gh, gB2, gB4, gD2, gD4, gE4, Try.underlying42, Try.underlying40, Try.underlying3, sz3, sz40, sz42, oki, astore, hwr, hcs, ← hCe, bs40, e1, build58, (fun ρ x => bs40_1 ρ x of ((pkTo ws turn (lim ws of) : Nat) : Int)), e2, ok2, ← hDe, okX, ← hEe, bK, bE, bT, h1, h3]
end Go.Proofs.Ythkefkpmgleolab.Bi
