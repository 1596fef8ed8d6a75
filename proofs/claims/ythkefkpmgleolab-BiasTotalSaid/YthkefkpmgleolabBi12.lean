/- The law BiasOracle. -/
import Derived.Test.YthkefkpmgleolabBi11
set_option linter.unusedVariables false
set_option linter.unusedSimpArgs false
namespace Go.Proofs.Ythkefkpmgleolab.Bi
open Go Go.Proofs Go.RowKit Go.Proofs.YthkefkpmgleolabAI Go.Proofs.YthkefkpmgleolabFl

/-- A bias' log: what it is. -/
def LogB (ws : List Nat) (log : List (Int × Int)) : Prop := ∀ i, i < log.length → 2 ≤ (log.getD i (0, 0)).1 ∧ (log.getD i (0, 0)).2 = ((pkTo ws (i : Nat) (lim ws (log.getD i (0, 0)).1) : Nat) : Int)
theorem logB_more {ws : List Nat} {log : List (Int × Int)} (of : Int) (h : LogB ws log) : LogB ws (bL ws log.length log of) ∧ bT log.length of = (bL ws log.length log of).length := by
  unfold bL bT
  by_cases h1 : of < 2
  · rw [if_pos h1, if_pos h1]; exact ⟨h, rfl⟩
  · rw [if_neg h1, if_neg h1]
    refine ⟨fun i hi => ?_, by rw [List.length_append]; rfl⟩
    rw [List.length_append] at hi
    simp only [List.length_cons, List.length_nil] at hi
    rcases Nat.lt_or_ge i log.length with h2 | h2
    · have e : (log ++ [(of, ((pkTo ws log.length (lim ws of) : Nat) : Int))]).getD i (0, 0) = log.getD i (0, 0) := by
        rw [List.getD_eq_getElem?_getD, List.getElem?_append_left h2, List.getD_eq_getElem?_getD]
      rw [e]; exact h i h2
    · obtain rfl : i = log.length := by omega
      have e : (log ++ [(of, ((pkTo ws log.length (lim ws of) : Nat) : Int))]).getD log.length (0, 0) = (of, ((pkTo ws log.length (lim ws of) : Nat) : Int)) := by
        rw [List.getD_eq_getElem?_getD, List.getElem?_append_right (Nat.le_refl _)]; simp
      rw [e]; exact ⟨by omega, rfl⟩
theorem lim_lt (ws : List Nat) (of : Int) (h : 2 ≤ of) : (lim ws of : Int) < of := by unfold lim; split <;> omega
theorem logB_good {ws : List Nat} {log : List (Int × Int)} (h : LogB ws log) : goodB log = true := by
  unfold goodB
  rw [List.all_eq_true]
  intro p hp
  obtain ⟨i, hi, rfl⟩ := List.getElem_of_mem hp
  obtain ⟨h1, h2⟩ := h i hi
  rw [List.getD_eq_getElem?_getD, List.getElem?_eq_getElem hi] at h1 h2
  simp only [Option.getD_some] at h1 h2
  have h3 := pkTo_le ws i (lim ws (log[i]).1)
  have h4 := lim_lt ws _ h1
  simp only [bad, Bool.not_eq_true', Bool.or_eq_false_iff, decide_eq_false_iff_not]
  omega
theorem bis_foot {F : Nat → Prop} {h : Heap} {n : Nat} {ws : List Nat} {turn : Nat} {log : List (Int × Int)} (ho : Bis h n F ws turn log) : ∀ m, F m → ∀ c s gr ro, h.get m ≠ some (.cells c 3 s gr ro) := by
  obtain ⟨g, lv, wv, hn, hg, hl, hw, fn, fg, hgn, hlf, hwf, hF, hT, hX⟩ := ho
  intro m hm c s gr ro e
  rcases hX m hm with rfl | rfl | e'
  · rw [hn] at e; cases e
  · rw [hg] at e; cases e
  · rw [Lg_obj hl e'] at e; cases e
theorem orc_foot {F : Nat → Prop} {h : Heap} {n : Nat} {raw : List Int} {log : List (Int × Int)} (ho : Orc h n F raw log) : ∀ m, F m → ∀ c s gr ro, h.get m ≠ some (.cells c 34 s gr ro) := by
  obtain ⟨lv, rv, hg, hl, hr, hu, hn, hlf, hrf, hF, hT, hX⟩ := ho
  intro m hm c s gr ro e
  rcases hX m hm with rfl | e'
  · rw [hg] at e; cases e
  · rw [Lg_obj hl e'] at e; cases e
theorem orc_lt {F : Nat → Prop} {h : Heap} {n : Nat} {raw : List Int} {log : List (Int × Int)} (ho : Orc h n F raw log) : ∀ m, F m → m < h.next := by
  obtain ⟨_, _, _, _, _, _, _, _, _, hF, _⟩ := ho; exact hF
theorem bis_lt {F : Nat → Prop} {h : Heap} {n : Nat} {ws : List Nat} {turn : Nat} {log : List (Int × Int)} (ho : Bis h n F ws turn log) : ∀ m, F m → m < h.next := by
  obtain ⟨_, _, _, _, _, _, _, _, _, _, _, _, hF, _⟩ := ho; exact hF

noncomputable def i38 := (Try.prog.info? 38).get (by kernel_rfl)
theorem in38 : Try.prog.info? 38 = some i38 := by kernel_rfl
noncomputable def m38 := (i38.methods.find? (fun x => x.name == "Pick")).get (by kernel_rfl)
theorem fi38 : i38.methods.find? (fun x => x.name == "Pick") = some m38 := by kernel_rfl
theorem pa38 : m38.path = #[] := by kernel_rfl
theorem fu38 : m38.func = some (21, true) := by kernel_rfl
theorem mh38 (v : Value) : methodHere Try.prog "Pick" #[.iface 38 v] = true := by kernel_rfl

/-- The first loop. -/
def O1 (h : Heap) (i n : Nat) (ws : List Nat) (va vb : Value) (ofs : List Int) : Prop := ∃ log F, log.length ≤ i ∧ Bis h n F ws log.length log ∧ LogB ws log ∧ Sl h vb 1 ofs.length (ints ofs) ∧ (∀ m, nm vb = some m → ¬ F m) ∧ Sl h va 1 ws.length (us ws) ∧ ∀ m, nm va = some m → ¬ F m
/-- The second. -/
def O2 (h : Heap) (i n2 n3 : Nat) (ws : List Nat) (log : List (Int × Int)) (v7 : Value) : Prop := ∃ F2 F3, Orc h n2 F2 ((tooks log).drop i) (log.take i) ∧ Bis h n3 F3 ws i (log.take i) ∧ (∀ m, F2 m → ¬ F3 m) ∧ Sl h v7 2 log.length (picks log) ∧ ∀ m, nm v7 = some m → ¬ F2 m ∧ ¬ F3 m

set_option maxRecDepth 20000 in
set_option maxHeartbeats 3200000 in
theorem oracleLaw {h : Heap} {va vb : Value} {ws : List Nat} {ofs : List Int} (hv : Sl h va 1 ws.length (us ws)) (hw : W64 ws) (hvb : Sl h vb 1 ofs.length (ints ofs)) (hk : ws.length ≤ 2 ^ 20) (hk2 : ofs.length ≤ 2 ^ 20) : ∃ h', run Try.prog sB 10 [va, vb] h = some (.bool true, h') := by
  obtain ⟨hw0, w⟩ := wakesB
  obtain ⟨v1, hA, e1, l1, k1, f1⟩ := floats_run hv hw (by omega)
  obtain ⟨n, F, hB, e2, ho, k2, f2⟩ := bnew_run l1.sl (by omega)
  obtain ⟨a, c, rfl⟩ := sl_form hv
  obtain ⟨b, d, rfl⟩ := sl_form hvb
  have k12 := k1.trans k2
  have st0 : O1 hB 0 n ws (.slice a ws.length c) (.slice b ofs.length d) ofs := by
    refine ⟨[], F, by simp, ho, fun i hi => by simp at hi, hvb.keep k12 (fun _ _ x => x), fun m e x => ?_, hv.keep k12 (fun _ _ x => x), fun m e x => ?_⟩
    · have := f2 m x; have := hvb.lt e; have := k1.1; omega
    · have := f2 m x; have := hv.lt e; have := k1.1; omega
  suffices hx : ∃ y, fin Try.prog Try.f10 (aexecP Try.prog (sB 10) (run Try.prog sB) loopω pt10 (Try.f10.body.getD .skip) ([.slice a ws.length c, .slice b ofs.length d] ++ List.replicate (Try.f10.ntmps - 2) undef) h) = some y ∧ y.1 = .bool true by
    obtain ⟨⟨y1, y2⟩, hy, rfl⟩ := hx
    exact ⟨y2, run_finP pt10 Try.func10 rfl planned10 hy⟩
  simp (maxSteps := 2000000) -implicitDefEqProofs [Try.f10, px_skip, px_label, px_region, px_draw, qx_seq, qx_cond, px_block, px_loop, px_scope, px_exit, px_ret, seqK_normal, seqK_exit, seqK_ret, condK_true, condK_false, opsK_some, wK_true, wK_false, itK_some, aops_nil, aops_cons, lK_some, aK_some, hK_some, dwK_true, dwK_false, diK_some, dK_light, dK_alloc, dK_heavy, adraw_nil, adraw_cons, aop, cls, light, lightS, binE, aeq, intBin, goInt, pl_int, pl_bool, pl_ptr, pl_slice, aload, isAggT, aeval, tput, awanted, List.range_succ, fin, aresults, aresult, List.replicate, heavy, acallOp, aenter, ble_d, beq_d, firstRegion, readNames, Nxt, isAnc, readsOk, objEq_some, w, en11, en13, en20, en21, e1, e2, Try.underlying38, Try.underlying28, sB10_7]
  generalize hl : loopω _ _ _ _ = r
  obtain ⟨e, t', h', hx, he, x27, ht, log, F1, hll, ho1, hlb, _, _, hv1, nv1⟩ : ∃ e t' h', r = some (e, t', h') ∧ e = .exit 0 ∧ ∃ x27, t' = [.slice a ws.length c, .slice b ofs.length d, unk, unk, .bool false, .pointer (some ⟨n, 0, none⟩), unk, unk, unk, unk, unk, unk, unk, unk, unk, unk, unk, unk, unk, unk, unk, unk, unk, unk, unk, .int .i64 ofs.length, .int .i64 ofs.length, x27, unk, unk, unk, unk, unk, unk, unk, unk, unk, unk, unk, unk, unk, unk, unk, unk, unk, unk, unk, unk, unk, unk, unk, unk, unk, unk, unk, unk, unk, unk, unk, unk, unk, unk, unk, unk, unk, unk, unk, unk, unk, unk, unk, unk, unk, unk, unk, unk, unk, unk, unk, unk, unk, unk, unk, unk, unk, unk, unk, unk, unk, unk, unk, unk, unk, unk, unk, unk, unk, unk, unk, unk, unk] ∧ O1 h' ofs.length n ws (.slice a ws.length c) (.slice b ofs.length d) ofs := by
    rw [← hl]
    refine loop_by (fun k t h' => ∃ i, i + k = ofs.length ∧ forget [2, 3, 6, 7, 8, 9, 10, 11, 12, 13, 14, 15, 16, 17, 18, 19, 20, 21, 22, 23, 24, 27, 28, 29, 30, 31, 32, 33, 34, 35, 36, 37, 38, 39, 40, 41, 42, 43, 44, 45, 46, 47, 48, 49, 50, 51, 52, 53, 54, 55, 56, 57, 58, 59, 60, 61, 62, 63, 64, 65, 66, 67, 68, 69, 70, 71, 72, 73, 74, 75, 76, 77, 78, 79, 80, 81, 82, 83, 84, 85, 86, 87, 88, 89, 90, 91, 92, 93, 94, 95, 96, 97, 98, 99, 100] t = [.slice a ws.length c, .slice b ofs.length d, unk, unk, .bool false, .pointer (some ⟨n, 0, none⟩), unk, unk, unk, unk, unk, unk, unk, unk, unk, unk, unk, unk, unk, unk, unk, unk, unk, unk, unk, .int .i64 ofs.length, .int .i64 (i : Nat), unk, unk, unk, unk, unk, unk, unk, unk, unk, unk, unk, unk, unk, unk, unk, unk, unk, unk, unk, unk, unk, unk, unk, unk, unk, unk, unk, unk, unk, unk, unk, unk, unk, unk, unk, unk, unk, unk, unk, unk, unk, unk, unk, unk, unk, unk, unk, unk, unk, unk, unk, unk, unk, unk, unk, unk, unk, unk, unk, unk, unk, unk, unk, unk, unk, unk, unk, unk, unk, unk, unk, unk, unk, unk] ∧ O1 h' i n ws (.slice a ws.length c) (.slice b ofs.length d) ofs)
      (fun e t' h' => e = .exit 0 ∧ ∃ x27, t' = [.slice a ws.length c, .slice b ofs.length d, unk, unk, .bool false, .pointer (some ⟨n, 0, none⟩), unk, unk, unk, unk, unk, unk, unk, unk, unk, unk, unk, unk, unk, unk, unk, unk, unk, unk, unk, .int .i64 ofs.length, .int .i64 ofs.length, x27, unk, unk, unk, unk, unk, unk, unk, unk, unk, unk, unk, unk, unk, unk, unk, unk, unk, unk, unk, unk, unk, unk, unk, unk, unk, unk, unk, unk, unk, unk, unk, unk, unk, unk, unk, unk, unk, unk, unk, unk, unk, unk, unk, unk, unk, unk, unk, unk, unk, unk, unk, unk, unk, unk, unk, unk, unk, unk, unk, unk, unk, unk, unk, unk, unk, unk, unk, unk, unk, unk, unk, unk, unk] ∧ O1 h' ofs.length n ws (.slice a ws.length c) (.slice b ofs.length d) ofs) ?_ ofs.length _ _ ⟨0, by omega, by kernel_rfl, st0⟩
    rintro k t h' ⟨i, hi, ht, log, F1, hll, ho1, hlb, hvb1, nvb1, hv1, nv1⟩
    rw [ht]
    rcases Nat.lt_or_ge i ofs.length with h1 | h1
    · obtain ⟨hh1, F3, e3, o3, q1, f3⟩ := bpick_run (ofs.getD i 0) ho1 hw (by omega) (by omega) (by omega)
      obtain ⟨hlb3, hbt⟩ := logB_more (ofs.getD i 0) hlb
      rw [hbt] at o3
      have hll3 := bL_len ws log.length log (ofs.getD i 0)
      obtain ⟨b, d, C, ce, cs, gr, ro, eb, hgb, hcb⟩ := sl_index hvb1 h1
      simp only [Value.slice.injEq, true_and] at eb
      obtain ⟨rfl, rfl⟩ := eb
      have hinc := @inc64 i (by omega)
      have hii := cast_succ i
      have hcb' : C[b.off + i]? = some (.int .i64 (ofs.getD i 0)) := hcb
      have p5 : O1 hh1 (i + 1) n ws (.slice a ws.length c) (.slice (some b) ofs.length d) ofs :=
        ⟨_, F3, by omega, o3, hlb3, hvb1.keep q1 nvb1, fun m e x => nvb1 m e (f3 m x (hvb1.lt e)), hv1.keep q1 nv1, fun m e x => nv1 m e (f3 m x (hv1.lt e))⟩
      generalize ofs.getD i 0 = of at *
      simp (maxSteps := 2000000) -implicitDefEqProofs [px_skip, px_label, px_region, px_draw, qx_seq, qx_cond, px_block, px_loop, px_scope, px_exit, px_ret, seqK_normal, seqK_exit, seqK_ret, condK_true, condK_false, opsK_some, wK_true, wK_false, itK_some, aops_nil, aops_cons, lK_some, aK_some, hK_some, dwK_true, dwK_false, diK_some, dK_light, dK_alloc, dK_heavy, adraw_nil, adraw_cons, aop, cls, light, lightS, binE, aeq, intBin, goInt, pl_int, pl_bool, pl_ptr, pl_slice, aload, isAggT, aeval, tput, awanted, List.range_succ, fin, aresults, aresult, List.replicate, heavy, acallOp, aenter, ble_d, beq_d, firstRegion, readNames, Nxt, isAnc, readsOk, objEq_some, h1, aindexAddr, sz3, Try.underlying28, Try.underlying3, hgb, hcb', en21, e3, hinc]
      exact ⟨k - 1, by omega, i + 1, by omega, by simp (maxSteps := 2000000) only [forget, List.set_cons_succ, List.set_cons_zero, hii], p5⟩
    · have hi' : i = ofs.length := by omega
      subst hi'
      simp (maxSteps := 2000000) -implicitDefEqProofs [px_skip, px_label, px_region, px_draw, qx_seq, qx_cond, px_block, px_loop, px_scope, px_exit, px_ret, seqK_normal, seqK_exit, seqK_ret, condK_true, condK_false, opsK_some, wK_true, wK_false, itK_some, aops_nil, aops_cons, lK_some, aK_some, hK_some, dwK_true, dwK_false, diK_some, dK_light, dK_alloc, dK_heavy, adraw_nil, adraw_cons, aop, cls, light, lightS, binE, aeq, intBin, goInt, pl_int, pl_bool, pl_ptr, pl_slice, aload, isAggT, aeval, tput, awanted, List.range_succ, fin, aresults, aresult, List.replicate, heavy, acallOp, aenter, ble_d, beq_d, firstRegion, readNames, Nxt, isAnc, readsOk, objEq_some]
      exact ⟨log, F1, hll, ho1, hlb, hvb1, nvb1, hv1, nv1⟩
  subst hx he ht
  clear hl
  have hgd := logB_good hlb
  obtain ⟨v7, h1, e7, l7, q7, n7⟩ := blog_run ho1 (by omega)
  have o1 := ho1.keep q7 (fun _ _ x => x) (fun _ x => x.elim)
  obtain ⟨v40, h2, e40, l40, q40, n40⟩ := blog_run o1 (by omega)
  obtain ⟨v8, h3, e8, q8, s8, _⟩ := of_run l40.sl (by omega)
  rw [hgd] at e8
  have s8 := s8 hgd
  have htl : (tooks log).length = log.length := by simp [tooks]
  rw [← htl] at s8
  obtain ⟨n2, F2, h4, e33, o4, q33, f33⟩ := new_orc sB s8 (by omega)
  have hv4 := (((hv1.keep q7 (fun _ _ x => x)).keep q40 (fun _ _ x => x)).keep q8 (fun _ _ x => x)).keep q33 (fun _ _ x => x)
  obtain ⟨v49, h5, e49, l49, q49, n49⟩ := floats_run hv4 hw (by omega)
  obtain ⟨n3, F3, h6, e50, o6, q50, f50⟩ := bnew_run l49.sl (by omega)
  have o46 := (o4.keep q49 (fun _ _ x => x) (fun _ x => x.elim)).keep q50 (fun _ _ x => x) (fun _ x => x.elim)
  have s76 := (((((l7.sl.keep q40 (fun _ _ x => x)).keep q8 (fun _ _ x => x)).keep q33 (fun _ _ x => x)).keep q49 (fun _ _ x => x)).keep q50 (fun _ _ x => x))
  have m40 := q40.1
  have m8 := q8.1
  have m33 := q33.1
  have m49 := q49.1
  have st1 : O2 h6 0 n2 n3 ws log v7 := by
    refine ⟨F2, F3, o46, o6, fun m x y => ?_, s76, fun m e => ⟨fun x => ?_, fun x => ?_⟩⟩
    · have := f50 m y; have := orc_lt o4 m x; omega
    · have := f33 m x; have := l7.sl.lt e; omega
    · have := f50 m x; have := l7.sl.lt e; omega
  obtain ⟨a7, c7, rfl⟩ := sl_form l7.sl
  simp (maxSteps := 2000000) -implicitDefEqProofs [px_skip, px_label, px_region, px_draw, qx_seq, qx_cond, px_block, px_loop, px_scope, px_exit, px_ret, seqK_normal, seqK_exit, seqK_ret, condK_true, condK_false, opsK_some, wK_true, wK_false, itK_some, aops_nil, aops_cons, lK_some, aK_some, hK_some, dwK_true, dwK_false, diK_some, dK_light, dK_alloc, dK_heavy, adraw_nil, adraw_cons, aop, cls, light, lightS, binE, aeq, intBin, goInt, pl_int, pl_bool, pl_ptr, pl_slice, aload, isAggT, aeval, tput, awanted, List.range_succ, fin, aresults, aresult, List.replicate, heavy, acallOp, aenter, ble_d, beq_d, firstRegion, readNames, Nxt, isAnc, readsOk, objEq_some, ibne, en24, en32, en33, en13, en20, e7, e40, e8, e33, e49, e50, Try.underlying38, Try.underlying28, Try.underlying40, sB10_18]
  generalize hl : loopω _ _ _ _ = r
  obtain ⟨e, t', h', hx, he, x55, ht⟩ : ∃ e t' h', r = some (e, t', h') ∧ e = .exit 2 ∧ ∃ x55, t' = [.slice a ws.length c, unk, unk, unk, .bool false, unk, unk, .slice a7 log.length c7, unk, unk, .pointer (some ⟨n2, 0, none⟩), .iface 38 (.pointer (some ⟨n3, 0, none⟩)), unk, unk, unk, unk, unk, unk, unk, unk, unk, unk, unk, unk, unk, unk, unk, unk, unk, unk, unk, unk, unk, unk, unk, unk, unk, unk, unk, unk, unk, unk, unk, unk, unk, unk, unk, unk, unk, unk, unk, unk, unk, .int .i64 log.length, .int .i64 log.length, x55, unk, unk, unk, unk, unk, unk, unk, unk, unk, unk, unk, unk, unk, unk, unk, unk, unk, unk, unk, unk, unk, unk, unk, unk, unk, unk, unk, unk, unk, unk, unk, unk, unk, unk, unk, unk, unk, unk, unk, unk, unk, unk, unk, unk, unk] := by
    rw [← hl]
    refine loop_by (fun k t h' => ∃ i, i + k = log.length ∧ forget [1, 2, 3, 5, 6, 8, 9, 12, 13, 14, 15, 16, 17, 18, 19, 20, 21, 22, 23, 24, 25, 26, 27, 28, 29, 30, 31, 32, 33, 34, 35, 36, 37, 38, 39, 40, 41, 42, 43, 44, 45, 46, 47, 48, 49, 50, 51, 52, 55, 56, 57, 58, 59, 60, 61, 62, 63, 64, 65, 66, 67, 68, 69, 70, 71, 72, 73, 74, 75, 76, 77, 78, 79, 80, 81, 82, 83, 84, 85, 86, 87, 88, 89, 90, 91, 92, 93, 94, 95, 96, 97, 98, 99, 100] t = [.slice a ws.length c, unk, unk, unk, .bool false, unk, unk, .slice a7 log.length c7, unk, unk, .pointer (some ⟨n2, 0, none⟩), .iface 38 (.pointer (some ⟨n3, 0, none⟩)), unk, unk, unk, unk, unk, unk, unk, unk, unk, unk, unk, unk, unk, unk, unk, unk, unk, unk, unk, unk, unk, unk, unk, unk, unk, unk, unk, unk, unk, unk, unk, unk, unk, unk, unk, unk, unk, unk, unk, unk, unk, .int .i64 log.length, .int .i64 (i : Nat), unk, unk, unk, unk, unk, unk, unk, unk, unk, unk, unk, unk, unk, unk, unk, unk, unk, unk, unk, unk, unk, unk, unk, unk, unk, unk, unk, unk, unk, unk, unk, unk, unk, unk, unk, unk, unk, unk, unk, unk, unk, unk, unk, unk, unk, unk] ∧ O2 h' i n2 n3 ws log (.slice a7 log.length c7))
      (fun e t' h' => e = .exit 2 ∧ ∃ x55, t' = [.slice a ws.length c, unk, unk, unk, .bool false, unk, unk, .slice a7 log.length c7, unk, unk, .pointer (some ⟨n2, 0, none⟩), .iface 38 (.pointer (some ⟨n3, 0, none⟩)), unk, unk, unk, unk, unk, unk, unk, unk, unk, unk, unk, unk, unk, unk, unk, unk, unk, unk, unk, unk, unk, unk, unk, unk, unk, unk, unk, unk, unk, unk, unk, unk, unk, unk, unk, unk, unk, unk, unk, unk, unk, .int .i64 log.length, .int .i64 log.length, x55, unk, unk, unk, unk, unk, unk, unk, unk, unk, unk, unk, unk, unk, unk, unk, unk, unk, unk, unk, unk, unk, unk, unk, unk, unk, unk, unk, unk, unk, unk, unk, unk, unk, unk, unk, unk, unk, unk, unk, unk, unk, unk, unk, unk, unk]) ?_ log.length _ _ ⟨0, by omega, by kernel_rfl, st1⟩
    rintro k t h' ⟨i, hi, ht, F2, F3, o2, o3, hdis, s7, n7⟩
    rw [ht]
    rcases Nat.lt_or_ge i log.length with hlt | hge
    · have hq := good_at hgd hlt
      have hd := drop_tooks log hlt
      have htk := take_log log hlt
      obtain ⟨hb1, hb2⟩ := hlb i hlt
      obtain ⟨a7, c7, C, ce, cs, gr, ro, eb, hg, _, _, p1, p2⟩ := sl_pick s7 hlt
      simp only [Value.slice.injEq, true_and] at eb
      obtain ⟨rfl, rfl⟩ := eb
      rw [hd] at o2
      generalize hqq : log.getD i (0, 0) = q at *
      obtain ⟨q1, q2⟩ := q
      simp only at p1 p2 hq o2 htk hb1 hb2
      have hlen : (log.take i).length = i := by rw [List.length_take]; omega
      obtain ⟨hh1, G2, e3, o4, k4, g4⟩ := pick_run sB q1 o2 (by omega)
      have hK : resK (q2 :: (tooks log).drop (i + 1)) q1 = q2 := by
        unfold resK; rw [if_neg (by omega), if_neg (by omega)]; exact modOf_same _ _ (by omega) (by omega)
      have hE : resE q1 = 0 := by unfold resE; rw [if_neg (by omega)]
      have hR : rawN (q2 :: (tooks log).drop (i + 1)) q1 = (tooks log).drop (i + 1) := by unfold rawN; rw [if_neg (by omega)]; rfl
      have hL : logN (q2 :: (tooks log).drop (i + 1)) (log.take i) q1 = log.take (i + 1) := by
        unfold logN; rw [if_neg (by omega), htk]
        show _ ++ [(q1, modOf q2 q1)] = _
        rw [modOf_same _ _ (by omega) (by omega)]
      rw [hK, hE] at e3
      rw [hR, hL] at o4
      have o34 := o3.keep k4 (fun m x y => hdis m y x) (orc_foot o2)
      obtain ⟨hh2, G3, e5, o5, k5, g5⟩ := bpick_run q1 o34 hw (by omega) (by omega) (by omega)
      have hbK : bK ws i q1 = q2 := by unfold bK; rw [if_neg (by omega), hb2]
      have hbE : bE q1 = 0 := by unfold bE; rw [if_neg (by omega)]
      have hbT : bT i q1 = i + 1 := by unfold bT; rw [if_neg (by omega)]
      have hbL : bL ws i (log.take i) q1 = log.take (i + 1) := by unfold bL; rw [if_neg (by omega), htk, hb2]
      rw [hbK, hbE] at e5
      rw [hbT, hbL] at o5
      have lt3 := bis_lt o3
      have d24 : ∀ m, G2 m → ¬ F3 m := fun m x y => hdis m (g4 m x (lt3 m y)) y
      have o45 := o4.keep k5 d24 (bis_foot o34)
      have d25 : ∀ m, G2 m → ¬ G3 m := fun m x y => d24 m x (g5 m y (orc_lt o4 m x))
      have s71 := s7.keep k4 (fun m e => (n7 m e).1)
      have s72 := s71.keep k5 (fun m e => (n7 m e).2)
      have hg1 := k4.get hg (n7 a7.block (nm_pos (by omega))).1
      have hg2 := k5.get hg1 (n7 a7.block (nm_pos (by omega))).2
      have p5 : O2 hh2 (i + 1) n2 n3 ws log (.slice (some a7) log.length c7) := ⟨G2, G3, o45, o5, d25, s72, fun m e => ⟨fun x => (n7 m e).1 (g4 m x (s7.lt e)), fun x => (n7 m e).2 (g5 m x (s71.lt e))⟩⟩
      have n45 := k5.1
      have hinc := @inc64 i (by omega)
      have hii := cast_succ i
      simp (maxSteps := 2000000) -implicitDefEqProofs [px_skip, px_label, px_region, px_draw, qx_seq, qx_cond, px_block, px_loop, px_scope, px_exit, px_ret, seqK_normal, seqK_exit, seqK_ret, condK_true, condK_false, opsK_some, wK_true, wK_false, itK_some, aops_nil, aops_cons, lK_some, aK_some, hK_some, dwK_true, dwK_false, diK_some, dK_light, dK_alloc, dK_heavy, adraw_nil, adraw_cons, aop, cls, light, lightS, binE, aeq, intBin, goInt, pl_int, pl_bool, pl_ptr, pl_slice, aload, isAggT, aeval, tput, awanted, List.range_succ, fin, aresults, aresult, List.replicate, heavy, acallOp, aenter, ble_d, beq_d, firstRegion, readNames, Nxt, isAnc, readsOk, objEq_some, pt10_21, pl10_21, an10_21, ibne, hlt, aindexAddr, sz58, fa58_0, fa58_1, Try.underlying40, Try.underlying3, hg, hg1, hg2, p1, p2, en34, en21, e3, mh38, in38, fi38, pa38, fu38, Try.underlying38, e5, n45, hinc]
      exact ⟨k - 1, by omega, i + 1, by omega, by simp (maxSteps := 2000000) only [forget, List.set_cons_succ, List.set_cons_zero, hii], p5⟩
    · have hi' : i = log.length := by omega
      subst hi'
      simp (maxSteps := 2000000) -implicitDefEqProofs [px_skip, px_label, px_region, px_draw, qx_seq, qx_cond, px_block, px_loop, px_scope, px_exit, px_ret, seqK_normal, seqK_exit, seqK_ret, condK_true, condK_false, opsK_some, wK_true, wK_false, itK_some, aops_nil, aops_cons, lK_some, aK_some, hK_some, dwK_true, dwK_false, diK_some, dK_light, dK_alloc, dK_heavy, adraw_nil, adraw_cons, aop, cls, light, lightS, binE, aeq, intBin, goInt, pl_int, pl_bool, pl_ptr, pl_slice, aload, isAggT, aeval, tput, awanted, List.range_succ, fin, aresults, aresult, List.replicate, heavy, acallOp, aenter, ble_d, beq_d, firstRegion, readNames, Nxt, isAnc, readsOk, objEq_some]
  subst hx he ht
  simp (maxSteps := 2000000) -implicitDefEqProofs [px_skip, px_label, px_region, px_draw, qx_seq, qx_cond, px_block, px_loop, px_scope, px_exit, px_ret, seqK_normal, seqK_exit, seqK_ret, condK_true, condK_false, opsK_some, wK_true, wK_false, itK_some, aops_nil, aops_cons, lK_some, aK_some, hK_some, dwK_true, dwK_false, diK_some, dK_light, dK_alloc, dK_heavy, adraw_nil, adraw_cons, aop, cls, light, lightS, binE, aeq, intBin, goInt, pl_int, pl_bool, pl_ptr, pl_slice, aload, isAggT, aeval, tput, awanted, List.range_succ, fin, aresults, aresult, List.replicate, heavy, acallOp, aenter, ble_d, beq_d, firstRegion, readNames, Nxt, isAnc, readsOk, objEq_some]

theorem oracle_calls (W : World) {a0 : Option Addr} {len0 cap0 : Nat} {l0 : List Nat} (w0 : U64sAt W a0 len0 cap0 l0) (y0 : len0 * 8 ≤ 140737488351232) (c0 : len0 ≤ 1048576) {a1 : Option Addr} {len1 cap1 : Nat} {l1 : List Int} (w1 : IntsAt W a1 len1 cap1 l1) (y1 : len1 * 8 ≤ 140737488351232) (c1 : len1 ≤ 1048576) :
    Calls Try.prog 10 #[.slice a0 len0 cap0, .slice a1 len1 cap1] W fun e W' => e = .returned (.bool true) ∧ Below W.heap.size W W' := by
  obtain ⟨h, σ, v, hr, hro, _, _, hv, hs, hu, _⟩ := arg_u64s (h := .empty) (σ := fun _ => ⟨0, 0, 0⟩) (Rep.none _ W (Nat.le_refl _) _) allRo_empty 32 w0
  obtain ⟨h', σ', v', hr', hro', hk, hσ, hv', hs', hu', _⟩ := arg_ints hr hro 3 w1
  have := u64s_len w0
  have := w1.1
  obtain ⟨h2, e⟩ := oracleLaw (hs.keep hk (fun _ _ x => x)) w0.1 hs' (by omega) (by omega)
  exact law_calls mix hro' e rfl hr' (.cons (hv.mono (fun n hn => Nat.lt_of_lt_of_le hn hk.1) (fun n hn => hσ n hn)) (.cons hv' .nil))
end Go.Proofs.Ythkefkpmgleolab.Bi
