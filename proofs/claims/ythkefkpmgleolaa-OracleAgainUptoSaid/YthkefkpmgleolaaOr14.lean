/- What an oracle picked picks it again: bounds, and the first loop.  -/
import Derived.Test.YthkefkpmgleolaaOr12
import Derived.Test.YthkefkpmgleolaaOr9
set_option linter.unusedVariables false
set_option linter.unusedSimpArgs false
namespace Go.Proofs.Ythkefkpmgleolaa.Or
open Go Go.Proofs Go.RowKit Go.Proofs.YthkefkpmgleolaaAI

/-- A reduced number is in its range. -/
theorem modOf_in (raw of : Int) (h : 2 ≤ of) (hb : of ≤ 9223372036854775807) : 0 ≤ modOf raw of ∧ modOf raw of < of := by
  have h1 : raw.tmod of < of := Int.tmod_lt_of_pos raw (by omega)
  have h2 : -of < raw.tmod of := by
    have := Int.lt_tmod_of_pos raw (show 0 < of by omega)
    omega
  unfold modOf
  split
  · rw [IntWalk.i64_in _ (by omega)]; omega
  · omega
/-- A number in its range stays. -/
theorem modOf_same (took of : Int) (h : 0 ≤ took) (h2 : took < of) : modOf took of = took := by
  unfold modOf
  rw [Int.tmod_eq_of_lt h h2, if_neg (by omega)]
theorem resK_in (raw : List Int) (of : Int) (h : 1 ≤ of) (hb : of ≤ 9223372036854775807) : 0 ≤ resK raw of ∧ resK raw of < of := by
  unfold resK
  split
  · omega
  · split
    · omega
    · unfold pk
      split
      · omega
      · exact modOf_in _ _ (by omega) hb
theorem goodB_more (raw : List Int) (log : List (Int × Int)) (of : Int) (hl : goodB log = true) (hb : of ≤ 9223372036854775807) : goodB (logN raw log of) = true := by
  unfold logN
  split
  · exact hl
  · unfold goodB at *
    rw [List.all_append, hl]
    have h1 := resK_in raw of (by omega) hb
    have h2 : resK raw of = pk raw of := by unfold resK; rw [if_neg (by omega), if_neg (by omega)]
    rw [h2] at h1
    simp only [List.all_cons, List.all_nil, Bool.and_true, Bool.true_and, bad, Bool.not_eq_true', Bool.or_eq_false_iff, decide_eq_false_iff_not]
    omega

theorem sT10 (r : Nat) : sT 10 r = [2, 3, 6, 7, 8, 10, 11, 13, 14, 15, 16, 17, 18, 19, 20, 21, 22, 23, 24, 27, 28, 29, 30, 31, 32, 33, 34, 35, 36, 37, 38, 39, 40, 41, 42, 43, 44, 45, 46, 47, 48, 49, 50, 51, 52, 53, 54, 55, 56, 57, 58, 59, 60, 61, 62, 63, 64, 65, 66, 67, 68, 69, 70, 71, 72, 73, 74, 75, 78, 79, 80, 81, 82, 83, 84, 85, 86, 87, 88, 89, 90, 91, 92, 93, 94, 95, 96, 97, 98, 99, 100, 101, 102, 103, 104, 105, 106, 107, 108, 109, 110] := by rfl
theorem neq4' (b1 b2 : Bool) (d r ty pos af gu) : purerule Try.prog (fun o => match o with | .tmp 0 => .bool b1 | _ => .bool b2) ⟨d, .binOp .neq 4 (.tmp 0) (.tmp 1) r, ty, pos, af, gu⟩ = some (.bool (b1 != b2)) := by kernel_rfl
theorem neq4 (ρ : Operand → Value) (x y : Operand) (b1 b2 : Bool) (hx : ρ x = .bool b1) (hy : ρ y = .bool b2) (d r ty pos af gu) : purerule Try.prog ρ ⟨d, .binOp .neq 4 x y r, ty, pos, af, gu⟩ = some (.bool (b1 != b2)) := by
  rw [← neq4' b1 b2 d r ty pos af gu]
  simp [purerule, isSelect, Op.operands, hx, hy, execOp, eqGuard]

theorem good_at {l : List (Int × Int)} (hg : goodB l = true) {i : Nat} (hi : i < l.length) : 2 ≤ (l.getD i (0, 0)).1 ∧ 0 ≤ (l.getD i (0, 0)).2 ∧ (l.getD i (0, 0)).2 < (l.getD i (0, 0)).1 := by
  unfold goodB at hg
  rw [List.all_eq_true] at hg
  have := hg _ (List.getElem_mem hi)
  rw [List.getD_eq_getElem?_getD, List.getElem?_eq_getElem hi]
  simp only [Option.getD_some]
  simp only [bad, Bool.not_eq_true', Bool.or_eq_false_iff, decide_eq_false_iff_not] at this
  omega
theorem drop_tooks (l : List (Int × Int)) {i : Nat} (hi : i < l.length) : (tooks l).drop i = (l.getD i (0, 0)).2 :: (tooks l).drop (i + 1) := by
  have h1 : i < (tooks l).length := by simpa [tooks] using hi
  rw [List.drop_eq_getElem_cons h1]
  simp [tooks, List.getD_eq_getElem?_getD, List.getElem?_eq_getElem hi]
theorem take_log (l : List (Int × Int)) {i : Nat} (hi : i < l.length) : l.take (i + 1) = l.take i ++ [l.getD i (0, 0)] := by
  rw [List.take_add_one, List.getElem?_eq_getElem hi]
  simp [List.getD_eq_getElem?_getD, List.getElem?_eq_getElem hi]

set_option maxRecDepth 20000 in
set_option maxHeartbeats 1600000 in
theorem againLaw {h : Heap} {va vb : Value} {raw ofs : List Int} (hv : Sl h va 1 raw.length (ints raw)) (hvb : Sl h vb 1 ofs.length (ints ofs)) (hwf : ∀ x ∈ ofs, x ≤ 9223372036854775807) (hk : raw.length ≤ 2 ^ 20) (hk2 : ofs.length ≤ 2 ^ 20) : ∃ h', run Try.prog sT 10 [va, vb] h = some (.bool true, h') := by
  obtain ⟨hw, w⟩ := wakesT
  obtain ⟨v1, hA, e1, hl1, k1, f1⟩ := fresh_ints hv (ints_one _) (by omega)
  obtain ⟨n, F, hB, e2, ho, k2, f2⟩ := new_orc sT hl1.sl (by omega)
  obtain ⟨a, c, rfl⟩ : ∃ a c, va = .slice a raw.length c := by
    rcases sl_cut hv with ⟨rfl, h0⟩ | ⟨a, c, rfl⟩
    · exact ⟨none, 0, by rw [h0]⟩
    · exact ⟨_, _, rfl⟩
  obtain ⟨b, d, rfl⟩ : ∃ a c, vb = .slice a ofs.length c := by
    rcases sl_cut hvb with ⟨rfl, h0⟩ | ⟨a, c, rfl⟩
    · exact ⟨none, 0, by rw [h0]⟩
    · exact ⟨_, _, rfl⟩
  have hvB := (hvb.keep k1 (fun _ _ x => x)).keep k2 (fun _ _ x => x)
  have nF : ∀ m, nm (.slice b ofs.length d) = some m → ¬ F m := fun m e x => by have := f2 m x; have := hvb.lt e; have := k1.1; omega
  suffices hx : ∃ y, fin Try.prog Try.f10 (aexecP Try.prog (sT 10) (run Try.prog sT) loopω (fun _ => ([], [])) (Try.f10.body.getD .skip) ([.slice a raw.length c, .slice b ofs.length d] ++ List.replicate (Try.f10.ntmps - 2) undef) h) = some y ∧ y.1 = .bool true by
    obtain ⟨⟨y1, y2⟩, hy, rfl⟩ := hx
    exact ⟨y2, run_finP _ Try.func10 rfl (by kernel_rfl) hy⟩
  simp (maxSteps := 2000000) -implicitDefEqProofs [Try.f10, px_skip, px_label, px_region, px_draw, qx_seq, qx_cond, px_block, px_loop, px_scope, px_exit, px_ret, seqK_normal, seqK_exit, seqK_ret, condK_true, condK_false, opsK_some, wK_true, wK_false, itK_some, aops_nil, aops_cons, lK_some, aK_some, hK_some, dwK_true, dwK_false, diK_some, dK_light, dK_alloc, dK_heavy, adraw_nil, adraw_cons, aop, cls, light, lightS, binE, aeq, intBin, goInt, pl_int, pl_bool, pl_ptr, pl_slice, aload, isAggT, aeval, tput, awanted, List.range_succ, fin, aresults, aresult, List.replicate, heavy, acallOp, aenter, ble_d, beq_d, firstRegion, readNames, Nxt, isAnc, readsOk, objEq_some, w, en11, en14, bs29, e1, e2, Try.underlying30, Try.underlying29, sT10]
  generalize hl : loopω _ _ _ _ = r
  obtain ⟨e, t', h', hx, he, ⟨raw', log', F', hll, hgd, ho'⟩, x27, ht⟩ : ∃ e t' h', r = some (e, t', h') ∧ e = .exit 0 ∧ (∃ raw' log' F', log'.length ≤ ofs.length ∧ goodB log' = true ∧ Orc h' n F' raw' log') ∧ ∃ x27, t' = [.slice a raw.length c, .slice b ofs.length d, unk, unk, .bool false, .pointer (some ⟨n, 0, none⟩), unk, unk, unk, undef, unk, unk, undef, unk, unk, unk, unk, unk, unk, unk, unk, unk, unk, unk, unk, .int .i64 ofs.length, .int .i64 ofs.length, x27, unk, unk, unk, unk, unk, unk, unk, unk, unk, unk, unk, unk, unk, unk, unk, unk, unk, unk, unk, unk, unk, unk, unk, unk, unk, unk, unk, unk, unk, unk, unk, unk, unk, unk, unk, unk, unk, unk, unk, unk, unk, unk, unk, unk, unk, unk, unk, unk, undef, undef, unk, unk, unk, unk, unk, unk, unk, unk, unk, unk, unk, unk, unk, unk, unk, unk, unk, unk, unk, unk, unk, unk, unk, unk, unk, unk, unk, unk, unk, unk, unk, unk, unk] := by
    rw [← hl]
    refine loop_by (fun k t h' => ∃ i, i + k = ofs.length ∧ forget [2, 3, 6, 7, 8, 10, 11, 13, 14, 15, 16, 17, 18, 19, 20, 21, 22, 23, 24, 27, 28, 29, 30, 31, 32, 33, 34, 35, 36, 37, 38, 39, 40, 41, 42, 43, 44, 45, 46, 47, 48, 49, 50, 51, 52, 53, 54, 55, 56, 57, 58, 59, 60, 61, 62, 63, 64, 65, 66, 67, 68, 69, 70, 71, 72, 73, 74, 75, 78, 79, 80, 81, 82, 83, 84, 85, 86, 87, 88, 89, 90, 91, 92, 93, 94, 95, 96, 97, 98, 99, 100, 101, 102, 103, 104, 105, 106, 107, 108, 109, 110] t = [.slice a raw.length c, .slice b ofs.length d, unk, unk, .bool false, .pointer (some ⟨n, 0, none⟩), unk, unk, unk, undef, unk, unk, undef, unk, unk, unk, unk, unk, unk, unk, unk, unk, unk, unk, unk, .int .i64 ofs.length, .int .i64 i, unk, unk, unk, unk, unk, unk, unk, unk, unk, unk, unk, unk, unk, unk, unk, unk, unk, unk, unk, unk, unk, unk, unk, unk, unk, unk, unk, unk, unk, unk, unk, unk, unk, unk, unk, unk, unk, unk, unk, unk, unk, unk, unk, unk, unk, unk, unk, unk, unk, undef, undef, unk, unk, unk, unk, unk, unk, unk, unk, unk, unk, unk, unk, unk, unk, unk, unk, unk, unk, unk, unk, unk, unk, unk, unk, unk, unk, unk, unk, unk, unk, unk, unk, unk] ∧ ∃ raw' log' F', log'.length ≤ i ∧ goodB log' = true ∧ Orc h' n F' raw' log' ∧ Sl h' (.slice b ofs.length d) 1 ofs.length (ints ofs) ∧ ∀ m, nm (.slice b ofs.length d) = some m → ¬ F' m)
      (fun e t' h' => e = .exit 0 ∧ (∃ raw' log' F', log'.length ≤ ofs.length ∧ goodB log' = true ∧ Orc h' n F' raw' log') ∧ ∃ x27, t' = [.slice a raw.length c, .slice b ofs.length d, unk, unk, .bool false, .pointer (some ⟨n, 0, none⟩), unk, unk, unk, undef, unk, unk, undef, unk, unk, unk, unk, unk, unk, unk, unk, unk, unk, unk, unk, .int .i64 ofs.length, .int .i64 ofs.length, x27, unk, unk, unk, unk, unk, unk, unk, unk, unk, unk, unk, unk, unk, unk, unk, unk, unk, unk, unk, unk, unk, unk, unk, unk, unk, unk, unk, unk, unk, unk, unk, unk, unk, unk, unk, unk, unk, unk, unk, unk, unk, unk, unk, unk, unk, unk, unk, unk, undef, undef, unk, unk, unk, unk, unk, unk, unk, unk, unk, unk, unk, unk, unk, unk, unk, unk, unk, unk, unk, unk, unk, unk, unk, unk, unk, unk, unk, unk, unk, unk, unk, unk, unk]) ?_ ofs.length _ _ ⟨0, by omega, by kernel_rfl, raw, [], F, by simp, rfl, ho, hvB, nF⟩
    rintro k t h' ⟨i, hi, ht, raw', log', F', hll, hgd, ho', hsb, hnb⟩
    rw [ht]
    rcases Nat.lt_or_ge i ofs.length with h1 | h1
    · obtain ⟨hh1, F1, e3, o1, q1, g1⟩ := pick_run sT (ofs.getD i 0) ho' (by omega)
      have hofwf : ofs.getD i 0 ≤ 9223372036854775807 := by rw [List.getD_eq_getElem?_getD, List.getElem?_eq_getElem h1]; exact hwf _ (List.getElem_mem h1)
      obtain ⟨b, d, C, ce, cs, gr, ro, eb, hgb, hcb⟩ := sl_index hsb h1
      simp only [Value.slice.injEq, true_and] at eb
      obtain ⟨rfl, rfl⟩ := eb
      have hgb1 := q1.get hgb (hnb b.block (nm_pos (by omega)))
      have hsb1 := hsb.keep q1 hnb
      have hnb1 : ∀ m, nm (.slice (some b) ofs.length d) = some m → ¬ F1 m := fun m e x => hnb m e (g1 m x (hsb.lt e))
      have hgd1 := goodB_more raw' log' _ hgd hofwf
      have hll1 : (logN raw' log' (ofs.getD i 0)).length ≤ i + 1 := by
        unfold logN; split
        · omega
        · rw [List.length_append]; simp only [List.length_cons, List.length_nil]; omega
      have hin := resK_in raw' (ofs.getD i 0)
      have hw : IntKind.i64.wrap ((i : Int) + 1) = ((i + 1 : Nat) : Int) := by rw [IntWalk.i64_in _ (by omega)]; omega
      have hii : ((i + 1 : Nat) : Int) = (i : Int) + 1 := by omega
      generalize ofs.getD i 0 = of at *
      by_cases c1 : of < 1
      · have r2 : resE of = 2 := by simp [resE, c1]
        have c1' : ¬ 1 ≤ of := by omega
        simp (maxSteps := 2000000) -implicitDefEqProofs [px_skip, px_label, px_region, px_draw, qx_seq, qx_cond, px_block, px_loop, px_scope, px_exit, px_ret, seqK_normal, seqK_exit, seqK_ret, condK_true, condK_false, opsK_some, wK_true, wK_false, itK_some, aops_nil, aops_cons, lK_some, aK_some, hK_some, dwK_true, dwK_false, diK_some, dK_light, dK_alloc, dK_heavy, adraw_nil, adraw_cons, aop, cls, light, lightS, binE, aeq, intBin, goInt, pl_int, pl_bool, pl_ptr, pl_slice, aload, isAggT, aeval, tput, awanted, List.range_succ, fin, aresults, aresult, List.replicate, heavy, acallOp, aenter, ble_d, beq_d, firstRegion, readNames, Nxt, isAnc, readsOk, objEq_some, ibeq, h1, aindexAddr, sz3, Try.underlying29, Try.underlying3, Try.underlying4, hgb, hgb1, hcb, en15, e3, r2, neq4, c1', hw, undef]
        first | exact ⟨k - 1, by omega, i + 1, by omega, by simp only [forget, List.set_cons_succ, List.set_cons_zero, hii], rawN raw' of, logN raw' log' of, hll1, hgd1, F1, o1, hsb1, hnb1⟩ | exact ⟨_, _, _, ⟨rfl, rfl, rfl⟩, k - 1, by omega, i + 1, by omega, by simp only [forget, List.set_cons_succ, List.set_cons_zero, hii], rawN raw' of, logN raw' log' of, hll1, hgd1, F1, o1, hsb1, hnb1⟩
      · have r2 : resE of = 0 := by simp [resE, c1]
        have c1' : 1 ≤ of := by omega
        obtain ⟨i1, i2⟩ := hin c1' hofwf
        have i1' : ¬ resK raw' of < 0 := by omega
        have i2' : ¬ of ≤ resK raw' of := by omega
        simp (maxSteps := 2000000) -implicitDefEqProofs [px_skip, px_label, px_region, px_draw, qx_seq, qx_cond, px_block, px_loop, px_scope, px_exit, px_ret, seqK_normal, seqK_exit, seqK_ret, condK_true, condK_false, opsK_some, wK_true, wK_false, itK_some, aops_nil, aops_cons, lK_some, aK_some, hK_some, dwK_true, dwK_false, diK_some, dK_light, dK_alloc, dK_heavy, adraw_nil, adraw_cons, aop, cls, light, lightS, binE, aeq, intBin, goInt, pl_int, pl_bool, pl_ptr, pl_slice, aload, isAggT, aeval, tput, awanted, List.range_succ, fin, aresults, aresult, List.replicate, heavy, acallOp, aenter, ble_d, beq_d, firstRegion, readNames, Nxt, isAnc, readsOk, objEq_some, ibeq, h1, aindexAddr, sz3, Try.underlying29, Try.underlying3, Try.underlying4, hgb, hgb1, hcb, en15, e3, r2, neq4, c1', i1', i2', hw]
        first | exact ⟨k - 1, by omega, i + 1, by omega, by simp only [forget, List.set_cons_succ, List.set_cons_zero, hii], rawN raw' of, logN raw' log' of, hll1, hgd1, F1, o1, hsb1, hnb1⟩ | exact ⟨_, _, _, ⟨rfl, rfl, rfl⟩, k - 1, by omega, i + 1, by omega, by simp only [forget, List.set_cons_succ, List.set_cons_zero, hii], rawN raw' of, logN raw' log' of, hll1, hgd1, F1, o1, hsb1, hnb1⟩
    · have hi' : i = ofs.length := by omega
      subst hi'
      simp (maxSteps := 2000000) -implicitDefEqProofs [px_skip, px_label, px_region, px_draw, qx_seq, qx_cond, px_block, px_loop, px_scope, px_exit, px_ret, seqK_normal, seqK_exit, seqK_ret, condK_true, condK_false, opsK_some, wK_true, wK_false, itK_some, aops_nil, aops_cons, lK_some, aK_some, hK_some, dwK_true, dwK_false, diK_some, dK_light, dK_alloc, dK_heavy, adraw_nil, adraw_cons, aop, cls, light, lightS, binE, aeq, intBin, goInt, pl_int, pl_bool, pl_ptr, pl_slice, aload, isAggT, aeval, tput, awanted, List.range_succ, fin, aresults, aresult, List.replicate, heavy, acallOp, aenter, ble_d, beq_d, firstRegion, readNames, Nxt, isAnc, readsOk, objEq_some]
      exact ⟨raw', log', hll, hgd, F', ho'⟩
  subst hx he ht
  obtain ⟨v9, h1, e9, l9, q9, n9⟩ := log_run sT ho' (by omega)
  have o1 := ho'.keep q9 (fun _ _ x => x) (fun _ x => x.elim)
  obtain ⟨v67, h2, e67, l67, q67, n67⟩ := log_run sT o1 (by omega)
  obtain ⟨v10, h3, e10, q10, s10, _⟩ := of_run l67.sl (by omega)
  rw [hgd] at e10
  have s10 := s10 hgd
  have htl : (tooks log').length = log'.length := by simp [tooks]
  rw [← htl] at s10
  obtain ⟨n2, F2, h4, e12, o4, q12, f12⟩ := new_orc sT s10 (by omega)
  have s9 := ((l9.sl.keep q67 (fun _ _ x => x)).keep q10 (fun _ _ x => x)).keep q12 (fun _ _ x => x)
  have nF2 : ∀ m, nm v9 = some m → ¬ F2 m := fun m e x => by have := f12 m x; have := l9.sl.lt e; have := q67.1; have := q10.1; omega
  obtain ⟨a9, c9, rfl⟩ : ∃ a c, v9 = .slice a log'.length c := by
    rcases sl_cut s9 with ⟨rfl, h0⟩ | ⟨a, c, rfl⟩
    · exact ⟨none, 0, by rw [h0]⟩
    · exact ⟨_, _, rfl⟩
  simp (maxSteps := 2000000) -implicitDefEqProofs [px_skip, px_label, px_region, px_draw, qx_seq, qx_cond, px_block, px_loop, px_scope, px_exit, px_ret, seqK_normal, seqK_exit, seqK_ret, condK_true, condK_false, opsK_some, wK_true, wK_false, itK_some, aops_nil, aops_cons, lK_some, aK_some, hK_some, dwK_true, dwK_false, diK_some, dK_light, dK_alloc, dK_heavy, adraw_nil, adraw_cons, aop, cls, light, lightS, binE, aeq, intBin, goInt, pl_int, pl_bool, pl_ptr, pl_slice, aload, isAggT, aeval, tput, awanted, List.range_succ, fin, aresults, aresult, List.replicate, heavy, acallOp, aenter, ble_d, beq_d, firstRegion, readNames, Nxt, isAnc, readsOk, objEq_some, ibne, en19, en21, en14, e9, e67, e10, e12, Try.underlying29, Try.underlying32, sT10]
  clear hl
  generalize hl : loopω _ _ _ _ = r
  obtain ⟨e, t', h', hx, he, ⟨F2', o5, s5⟩, x78, ht⟩ : ∃ e t' h', r = some (e, t', h') ∧ e = .exit 2 ∧ (∃ F2', Orc h' n2 F2' [] log' ∧ Sl h' (.slice a9 log'.length c9) 2 log'.length (picks log')) ∧ ∃ x78, t' = [.slice a raw.length c, .slice b ofs.length d, unk, unk, .bool false, .pointer (some ⟨n, 0, none⟩), unk, unk, unk, .slice a9 log'.length c9, unk, unk, .pointer (some ⟨n2, 0, none⟩), unk, unk, unk, unk, unk, unk, unk, unk, unk, unk, unk, unk, .int .i64 ofs.length, .int .i64 ofs.length, unk, unk, unk, unk, unk, unk, unk, unk, unk, unk, unk, unk, unk, unk, unk, unk, unk, unk, unk, unk, unk, unk, unk, unk, unk, unk, unk, unk, unk, unk, unk, unk, unk, unk, unk, unk, unk, unk, unk, unk, unk, unk, unk, unk, unk, unk, unk, unk, unk, .int .i64 log'.length, .int .i64 log'.length, x78, unk, unk, unk, unk, unk, unk, unk, unk, unk, unk, unk, unk, unk, unk, unk, unk, unk, unk, unk, unk, unk, unk, unk, unk, unk, unk, unk, unk, unk, unk, unk, unk] := by
    rw [← hl]
    refine loop_by (fun k t h' => ∃ i, i + k = log'.length ∧ forget [2, 3, 6, 7, 8, 10, 11, 13, 14, 15, 16, 17, 18, 19, 20, 21, 22, 23, 24, 27, 28, 29, 30, 31, 32, 33, 34, 35, 36, 37, 38, 39, 40, 41, 42, 43, 44, 45, 46, 47, 48, 49, 50, 51, 52, 53, 54, 55, 56, 57, 58, 59, 60, 61, 62, 63, 64, 65, 66, 67, 68, 69, 70, 71, 72, 73, 74, 75, 78, 79, 80, 81, 82, 83, 84, 85, 86, 87, 88, 89, 90, 91, 92, 93, 94, 95, 96, 97, 98, 99, 100, 101, 102, 103, 104, 105, 106, 107, 108, 109, 110] t = [.slice a raw.length c, .slice b ofs.length d, unk, unk, .bool false, .pointer (some ⟨n, 0, none⟩), unk, unk, unk, .slice a9 log'.length c9, unk, unk, .pointer (some ⟨n2, 0, none⟩), unk, unk, unk, unk, unk, unk, unk, unk, unk, unk, unk, unk, .int .i64 ofs.length, .int .i64 ofs.length, unk, unk, unk, unk, unk, unk, unk, unk, unk, unk, unk, unk, unk, unk, unk, unk, unk, unk, unk, unk, unk, unk, unk, unk, unk, unk, unk, unk, unk, unk, unk, unk, unk, unk, unk, unk, unk, unk, unk, unk, unk, unk, unk, unk, unk, unk, unk, unk, unk, .int .i64 log'.length, .int .i64 i, unk, unk, unk, unk, unk, unk, unk, unk, unk, unk, unk, unk, unk, unk, unk, unk, unk, unk, unk, unk, unk, unk, unk, unk, unk, unk, unk, unk, unk, unk, unk, unk, unk] ∧ ∃ F2', Orc h' n2 F2' ((tooks log').drop i) (log'.take i) ∧ Sl h' (.slice a9 log'.length c9) 2 log'.length (picks log') ∧ ∀ m, nm (.slice a9 log'.length c9) = some m → ¬ F2' m)
      (fun e t' h' => e = .exit 2 ∧ (∃ F2', Orc h' n2 F2' [] log' ∧ Sl h' (.slice a9 log'.length c9) 2 log'.length (picks log')) ∧ ∃ x78, t' = [.slice a raw.length c, .slice b ofs.length d, unk, unk, .bool false, .pointer (some ⟨n, 0, none⟩), unk, unk, unk, .slice a9 log'.length c9, unk, unk, .pointer (some ⟨n2, 0, none⟩), unk, unk, unk, unk, unk, unk, unk, unk, unk, unk, unk, unk, .int .i64 ofs.length, .int .i64 ofs.length, unk, unk, unk, unk, unk, unk, unk, unk, unk, unk, unk, unk, unk, unk, unk, unk, unk, unk, unk, unk, unk, unk, unk, unk, unk, unk, unk, unk, unk, unk, unk, unk, unk, unk, unk, unk, unk, unk, unk, unk, unk, unk, unk, unk, unk, unk, unk, unk, unk, .int .i64 log'.length, .int .i64 log'.length, x78, unk, unk, unk, unk, unk, unk, unk, unk, unk, unk, unk, unk, unk, unk, unk, unk, unk, unk, unk, unk, unk, unk, unk, unk, unk, unk, unk, unk, unk, unk, unk, unk]) ?_ log'.length _ _ ⟨0, by omega, by kernel_rfl, F2, o4, s9, nF2⟩
    rintro k t h' ⟨i, hi, ht, F2', o5, s5, nf5⟩
    rw [ht]
    rcases Nat.lt_or_ge i log'.length with hlt | hge
    · have hq := good_at hgd hlt
      have hd := drop_tooks log' hlt
      have htk := take_log log' hlt
      obtain ⟨a9, c9, C, ce, cs, gr, ro, eb, hg, _, _, p1, p2⟩ := sl_pick s5 hlt
      simp only [Value.slice.injEq, true_and] at eb
      obtain ⟨rfl, rfl⟩ := eb
      rw [hd] at o5
      generalize hqq : log'.getD i (0, 0) = q at *
      obtain ⟨q1, q2⟩ := q
      simp only at p1 p2 hq o5 htk
      obtain ⟨hh1, F1, e3, o6, k6, g6⟩ := pick_run sT q1 o5 (by rw [List.length_take]; omega)
      have hK : resK (q2 :: (tooks log').drop (i + 1)) q1 = q2 := by
        unfold resK; rw [if_neg (by omega), if_neg (by omega)]; exact modOf_same _ _ (by omega) (by omega)
      have hE : resE q1 = 0 := by unfold resE; rw [if_neg (by omega)]
      have hR : rawN (q2 :: (tooks log').drop (i + 1)) q1 = (tooks log').drop (i + 1) := by unfold rawN; rw [if_neg (by omega)]; rfl
      have hL : logN (q2 :: (tooks log').drop (i + 1)) (log'.take i) q1 = log'.take (i + 1) := by
        unfold logN; rw [if_neg (by omega), htk]
        show _ ++ [(q1, modOf q2 q1)] = _
        rw [modOf_same _ _ (by omega) (by omega)]
      rw [hK, hE] at e3
      rw [hR, hL] at o6
      have hg1 := k6.get hg (nf5 a9.block (nm_pos (by omega)))
      have s6 := s5.keep k6 nf5
      have nf6 : ∀ m, nm (.slice (some a9) log'.length c9) = some m → ¬ F1 m := fun m e x => nf5 m e (g6 m x (s5.lt e))
      have hw : IntKind.i64.wrap ((i : Int) + 1) = ((i + 1 : Nat) : Int) := by rw [IntWalk.i64_in _ (by omega)]; omega
      have hii : ((i + 1 : Nat) : Int) = (i : Int) + 1 := by omega
      simp (maxSteps := 2000000) -implicitDefEqProofs [px_skip, px_label, px_region, px_draw, qx_seq, qx_cond, px_block, px_loop, px_scope, px_exit, px_ret, seqK_normal, seqK_exit, seqK_ret, condK_true, condK_false, opsK_some, wK_true, wK_false, itK_some, aops_nil, aops_cons, lK_some, aK_some, hK_some, dwK_true, dwK_false, diK_some, dK_light, dK_alloc, dK_heavy, adraw_nil, adraw_cons, aop, cls, light, lightS, binE, aeq, intBin, goInt, pl_int, pl_bool, pl_ptr, pl_slice, aload, isAggT, aeval, tput, awanted, List.range_succ, fin, aresults, aresult, List.replicate, heavy, acallOp, aenter, ble_d, beq_d, firstRegion, readNames, Nxt, isAnc, readsOk, objEq_some, ibne, hlt, aindexAddr, sz49, fa49_0, fa49_1, Try.underlying32, Try.underlying3, hg, hg1, p1, p2, en15, e3, hw]
      exact ⟨k - 1, by omega, i + 1, by omega, by simp only [forget, List.set_cons_succ, List.set_cons_zero, hii], F1, o6, s6, nf6⟩
    · have hi' : i = log'.length := by omega
      subst hi'
      have hd : (tooks log').drop log'.length = [] := List.drop_eq_nil_of_le (by omega)
      rw [hd, List.take_length] at o5
      simp (maxSteps := 2000000) -implicitDefEqProofs [px_skip, px_label, px_region, px_draw, qx_seq, qx_cond, px_block, px_loop, px_scope, px_exit, px_ret, seqK_normal, seqK_exit, seqK_ret, condK_true, condK_false, opsK_some, wK_true, wK_false, itK_some, aops_nil, aops_cons, lK_some, aK_some, hK_some, dwK_true, dwK_false, diK_some, dK_light, dK_alloc, dK_heavy, adraw_nil, adraw_cons, aop, cls, light, lightS, binE, aeq, intBin, goInt, pl_int, pl_bool, pl_ptr, pl_slice, aload, isAggT, aeval, tput, awanted, List.range_succ, fin, aresults, aresult, List.replicate, heavy, acallOp, aenter, ble_d, beq_d, firstRegion, readNames, Nxt, isAnc, readsOk, objEq_some]
      first | exact ⟨F2', o5, s5⟩ | exact ⟨⟨F2', o5⟩, s5⟩
  subst hx he ht
  have el := left_run sT o5
  obtain ⟨v7, h7, e7, l7, k7, n7⟩ := log_run sT o5 (by omega)
  have es := same_run l7.sl (s5.keep k7 (fun _ _ x => x)) (by omega)
  simp only [List.length_nil, goInt] at el
  simp (maxSteps := 2000000) -implicitDefEqProofs [px_skip, px_label, px_region, px_draw, qx_seq, qx_cond, px_block, px_loop, px_scope, px_exit, px_ret, seqK_normal, seqK_exit, seqK_ret, condK_true, condK_false, opsK_some, wK_true, wK_false, itK_some, aops_nil, aops_cons, lK_some, aK_some, hK_some, dwK_true, dwK_false, diK_some, dK_light, dK_alloc, dK_heavy, adraw_nil, adraw_cons, aop, cls, light, lightS, binE, aeq, intBin, goInt, pl_int, pl_bool, pl_ptr, pl_slice, aload, isAggT, aeval, tput, awanted, List.range_succ, fin, aresults, aresult, List.replicate, heavy, acallOp, aenter, ble_d, beq_d, firstRegion, readNames, Nxt, isAnc, readsOk, objEq_some, ibeq, en17, en18, en19, el, e7, es]

theorem again_calls (W : World) {a0 : Option Addr} {len0 cap0 : Nat} {l0 : List Int} (w0 : IntsAt W a0 len0 cap0 l0) (y0 : len0 * 8 ≤ 140737488351232) (c0 : len0 ≤ 1048576) {a1 : Option Addr} {len1 cap1 : Nat} {l1 : List Int} (w1 : IntsAt W a1 len1 cap1 l1) (y1 : len1 * 8 ≤ 140737488351232) (c1 : len1 ≤ 1048576) :
    Calls Try.prog 10 #[.slice a0 len0 cap0, .slice a1 len1 cap1] W fun e W' => e = .returned (.bool true) ∧ Below W.heap.size W W' := by
  obtain ⟨h, σ, v, hr, hro, _, _, hv, hs, hu, _⟩ := arg_ints (h := .empty) (σ := fun _ => ⟨0, 0, 0⟩) (Rep.none _ W (Nat.le_refl _) _) allRo_empty 3 w0
  obtain ⟨h', σ', v', hr', hro', hk, hσ, hv', hs', hu', _⟩ := arg_ints hr hro 3 w1
  have := w0.1
  have := w1.1
  obtain ⟨h2, e⟩ := againLaw (hs.keep hk (fun _ _ x => x)) hs' (fun x hx => by have := w1.2.1 x hx; simp [Lit.wf, IntKind.min, IntKind.max, IntKind.signed, IntKind.bits] at this; omega) (by omega) (by omega)
  exact law_calls mix hro' e rfl hr' (.cons (hv.mono (fun n hn => Nat.lt_of_lt_of_le hn hk.1) (fun n hn => hσ n hn)) (.cons hv' .nil))
end Go.Proofs.Ythkefkpmgleolaa.Or
