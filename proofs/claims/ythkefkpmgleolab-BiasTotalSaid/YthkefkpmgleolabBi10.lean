/- The law BiasPicks. -/
import Derived.Test.YthkefkpmgleolabBi9
set_option linter.unusedVariables false
set_option linter.unusedSimpArgs false
namespace Go.Proofs.Ythkefkpmgleolab.Bi
open Go Go.Proofs Go.RowKit Go.Proofs.YthkefkpmgleolabAI Go.Proofs.YthkefkpmgleolabFl

/-- A bias' object n beside the second writing's state in w. -/
def BSt (h : Heap) (n w : Nat) (F : Nat → Prop) (ws : List Nat) (turn : Nat) (log : List (Int × Int)) (wv lv : Value) : Prop :=
  Bis h n F ws turn log ∧ h.get w = some (.cells [wv, .int .i64 (turn : Nat), lv] 42 3 false false) ∧ ¬ F w ∧ Sl h wv 1 ws.length (us ws) ∧ Sl h lv 2 log.length (picks log) ∧ (∀ m, nm wv = some m → ¬ F m ∧ m ≠ w) ∧ (∀ m, nm lv = some m → ¬ F m ∧ m ≠ w)
/-- A row that nobody writes. -/
def Arg (h : Heap) (v : Value) (l : List Int) (F : Nat → Prop) (w : Nat) : Prop := Sl h v 1 l.length (ints l) ∧ ∀ m, nm v = some m → ¬ F m ∧ m ≠ w
theorem Arg.keep {h h' : Heap} {v : Value} {l : List Int} {F F' : Nat → Prop} {w : Nat} (ha : Arg h v l F w) (hk : Keep (fun m => F m ∨ m = w) h h') (hF : ∀ m, F' m → m < h.next → F m) : Arg h' v l F' w :=
  ⟨ha.1.keep hk fun m e => by rintro (x | x); exact (ha.2 m e).1 x; exact (ha.2 m e).2 x, fun m e => ⟨fun x => (ha.2 m e).1 (hF m x (ha.1.lt e)), (ha.2 m e).2⟩⟩

theorem bround {h : Heap} {n w : Nat} {F : Nat → Prop} {ws : List Nat} {turn : Nat} {log : List (Int × Int)} {wv lv : Value} (of : Int) (hs : BSt h n w F ws turn log wv lv) (hw : W64 ws) (hk : ws.length ≤ 2 ^ 47) (ht : turn ≤ 2 ^ 47) (hb : (log.length + 1) * 16 ≤ 2 ^ 47) :
    ∃ h1 F1 h2 lv2, run Try.prog sB 21 [.pointer (some ⟨n, 0, none⟩), .int .i64 of] h = some (.tuple #[.int .i64 (bK ws turn of), .int .i64 (bE of)], h1) ∧
      run Try.prog sB 22 [.agg #[wv, .int .i64 (turn : Nat), lv], .int .i64 of] h1 = some (.tuple #[.agg #[wv, .int .i64 (bT turn of : Nat), lv2], .int .i64 (bK ws turn of), .int .i64 (bE of)], h2) ∧
      h1.get w = some (.cells [wv, .int .i64 (turn : Nat), lv] 42 3 false false) ∧ Keep F h h1 ∧ Keep No h1 h2 ∧ one lv2 = true ∧ (∀ m, F1 m → m < h.next → F m) ∧
      ∀ h3, Keep No h2 h3 → h3.get w = some (.cells [wv, .int .i64 (turn : Nat), lv] 42 3 false false) ∧ BSt (h3.put w (some (.cells [wv, .int .i64 (bT turn of : Nat), lv2] 42 3 false false))) n w F1 ws (bT turn of) (bL ws turn log of) wv lv2 ∧ Keep (fun m => F m ∨ m = w) h (h3.put w (some (.cells [wv, .int .i64 (bT turn of : Nat), lv2] 42 3 false false))) := by
  obtain ⟨ho, hww, hFw, hr, hl, nr, nl⟩ := hs
  obtain ⟨h1, F1, e1, ho1, k1, f1⟩ := bpick_run of ho hw hk ht hb
  have hw1 := k1.get hww hFw
  obtain ⟨lv2, h2, e2, hl2, k2, m2⟩ := rbpick_run (turn := turn) of (hr.keep k1 fun m e => (nr m e).1) (hl.keep k1 fun m e => (nl m e).1) hw hk ht hb
  have hwlt := Heap.get_lt hww
  have hF1w : ¬ F1 w := fun x => hFw (f1 w x hwlt)
  refine ⟨h1, F1, h2, lv2, e1, e2, hw1, k1, k2, Sl_one hl2, f1, fun h3 k3 => ?_⟩
  have hw3 := (k2.trans k3).get hw1 (fun x => x)
  have kp : Keep (fun m => m = w) h3 (h3.put w (some (.cells [wv, .int .i64 (bT turn of : Nat), lv2] 42 3 false false))) := Keep.put (S := fun m => m = w) (Heap.get_lt hw3) rfl _
  have q1 : ∀ m, nm wv = some m → ¬ F1 m ∧ m ≠ w := fun m e => ⟨fun x => (nr m e).1 (f1 m x (hr.lt e)), (nr m e).2⟩
  have q2 : ∀ m, nm lv2 = some m → ¬ F1 m ∧ m ≠ w := fun m e => by
    rcases m2 m e with e' | e'
    · exact ⟨fun x => (nl m e').1 (f1 m x (hl.lt e')), (nl m e').2⟩
    · obtain ⟨_, _, _, _, _, _, _, _, _, _, _, _, hF1, _⟩ := ho1
      refine ⟨fun x => ?_, ?_⟩
      · have := hF1 m x; omega
      · have := k1.1; omega
  refine ⟨hw3, ⟨((ho1.keep (k2.trans k3) (fun _ _ x => x) (fun _ x => x.elim)).keep kp (fun m x e => hF1w (e ▸ x)) fun m e c s gr ro hc => ?_), by rw [Heap.get_put (Heap.get_lt hw3), if_pos rfl], hF1w, ((hr.keep k1 fun m e => (nr m e).1).keep (k2.trans k3) (fun _ _ x => x)).keep kp fun m e => (q1 m e).2, (hl2.keep k3 (fun _ _ x => x)).keep kp fun m e => (q2 m e).2, q1, q2⟩, ?_⟩
  · rw [show m = w from e, hw3] at hc; cases hc
  · exact ((k1.mono fun m _ x => .inl x).also (k2.trans k3) fun m _ x => x.elim).also kp fun m _ x => .inr x
theorem bL_len (ws : List Nat) (turn : Nat) (log : List (Int × Int)) (of : Int) : (bL ws turn log of).length ≤ log.length + 1 := by
  unfold bL; split
  · omega
  · rw [List.length_append]; simp only [List.length_cons, List.length_nil]; omega
theorem bT_le (turn : Nat) (of : Int) : bT turn of ≤ turn + 1 := by unfold bT; split <;> omega
/-- What the loop keeps. -/
def PkI (h : Heap) (i n w : Nat) (ws : List Nat) (vb : Value) (ofs : List Int) : Prop := ∃ turn log F wv lv, log.length ≤ i ∧ turn ≤ i ∧ BSt h n w F ws turn log wv lv ∧ Arg h vb ofs F w

set_option maxRecDepth 20000 in
set_option maxHeartbeats 3200000 in
theorem picksLaw {h : Heap} {va vb : Value} {ws : List Nat} {ofs : List Int} (hv : Sl h va 1 ws.length (us ws)) (hw : W64 ws) (hvb : Sl h vb 1 ofs.length (ints ofs)) (hk : ws.length ≤ 2 ^ 20) (hk2 : ofs.length ≤ 2 ^ 20) : ∃ h', run Try.prog sB 5 [va, vb] h = some (.bool true, h') := by
  obtain ⟨hw0, w⟩ := wakesB
  obtain ⟨v1, hA, e1, l1, k1, f1⟩ := floats_run hv hw (by omega)
  obtain ⟨n, F, hB, e2, ho, k2, f2⟩ := bnew_run l1.sl (by omega)
  obtain ⟨a, c, rfl⟩ := sl_form hv
  obtain ⟨b, d, rfl⟩ := sl_form hvb
  have k12 := k1.trans k2
  obtain ⟨hC, hCe⟩ : ∃ x, x = (hB.new (.cells [.slice none 0 0, .int .i64 0, .slice none 0 0] 42 3 false false)).put hB.next (some (.cells [.slice a ws.length c, .int .i64 0, .slice none 0 0] 42 3 false false)) := ⟨_, rfl⟩
  have gB : (hB.new (.cells [.slice none 0 0, .int .i64 0, .slice none 0 0] 42 3 false false)).get hB.next = some (.cells [.slice none 0 0, .int .i64 0, .slice none 0 0] 42 3 false false) := by rw [Heap.get_new, if_pos rfl]
  have kC : Keep No hB hC := hCe ▸ (Keep.new No hB _).also (Keep.put (S := fun m => m = hB.next) (Heap.get_lt gB) rfl _) fun m hm e => by omega
  have gC : hC.get hB.next = some (.cells [.slice a ws.length c, .int .i64 0, .slice none 0 0] 42 3 false false) := by rw [hCe, Heap.get_put (Heap.get_lt gB), if_pos rfl]
  have hFlt : ∀ m, F m → m < hB.next := by obtain ⟨_, _, _, _, _, _, _, _, _, _, _, _, hF, _⟩ := ho; exact hF
  have st0 : BSt hC n hB.next F ws 0 [] (.slice a ws.length c) (.slice none 0 0) := by
    refine ⟨ho.keep kC (fun _ _ x => x) (fun _ x => x.elim), gC, fun x => by have := hFlt _ x; omega, (hv.keep k12 (fun _ _ x => x)).keep kC (fun _ _ x => x), (Lg.nil hC 58 2).sl, fun m e => ⟨fun x => ?_, ?_⟩, fun m e => by cases e⟩
    · have := f2 m x; have := hv.lt e; have := k1.1; omega
    · have := hv.lt e; have := k12.1; omega
  have ar0 : Arg hC (.slice b ofs.length d) ofs F hB.next := by
    refine ⟨(hvb.keep k12 (fun _ _ x => x)).keep kC (fun _ _ x => x), fun m e => ⟨fun x => ?_, ?_⟩⟩
    · have := f2 m x; have := hvb.lt e; have := k1.1; omega
    · have := hvb.lt e; have := k12.1; omega
  have okX : okCells (.agg #[.slice a ws.length c, .int .i64 0, .slice none 0 0]) = some [.slice a ws.length c, .int .i64 0, .slice none 0 0] := rfl
  suffices hx : ∃ y, fin Try.prog Try.f5 (aexecP Try.prog (sB 5) (run Try.prog sB) loopω pt5 (Try.f5.body.getD .skip) ([.slice a ws.length c, .slice b ofs.length d] ++ List.replicate (Try.f5.ntmps - 2) undef) h) = some y ∧ y.1 = .bool true by
    obtain ⟨⟨y1, y2⟩, hy, rfl⟩ := hx
    exact ⟨y2, run_finP pt5 Try.func5 rfl planned5 hy⟩
  simp (maxSteps := 2000000) -implicitDefEqProofs [Try.f5, px_skip, px_label, px_region, px_draw, qx_seq, qx_cond, px_block, px_loop, px_scope, px_exit, px_ret, seqK_normal, seqK_exit, seqK_ret, condK_true, condK_false, opsK_some, wK_true, wK_false, itK_some, aops_nil, aops_cons, lK_some, aK_some, hK_some, dwK_true, dwK_false, diK_some, dK_light, dK_alloc, dK_heavy, adraw_nil, adraw_cons, aop, cls, light, lightS, binE, aeq, intBin, goInt, pl_int, pl_bool, pl_ptr, pl_slice, aload, isAggT, aeval, tput, awanted, List.range_succ, fin, aresults, aresult, List.replicate, heavy, acallOp, aenter, ble_d, beq_d, firstRegion, readNames, Nxt, isAnc, readsOk, objEq_some, w, en11, en13, en20, en21, en22, e1, e2, build42, al42, Try.underlying38, Try.underlying28, gB, astore, okX, sz42, ← hCe, sB5]
  generalize hl : loopω _ _ _ _ = r
  obtain ⟨e, t', h', hx, he, x25, ht, turn, log, F', wv, lv, hlog, htn, hst, _⟩ : ∃ e t' h', r = some (e, t', h') ∧ e = .exit 0 ∧ ∃ x25, t' = [.slice a ws.length c, .slice b ofs.length d, unk, unk, .bool false, .pointer (some ⟨n, 0, none⟩), .pointer (some ⟨hB.next, 0, none⟩), unk, unk, unk, unk, unk, unk, unk, unk, unk, unk, unk, unk, unk, unk, unk, unk, .int .i64 ofs.length, .int .i64 ofs.length, x25, unk, unk, unk, unk, unk, unk, unk, unk, unk, unk, unk, unk, unk, unk, unk, unk, unk, unk, unk, unk, unk, unk, unk, unk, unk, unk, unk, unk, unk, unk, unk, unk, unk, unk, unk] ∧ PkI h' ofs.length n hB.next ws (.slice b ofs.length d) ofs := by
    rw [← hl]
    refine loop_by (fun k t h' => ∃ i, i + k = ofs.length ∧ forget [2, 3, 7, 8, 9, 10, 11, 12, 13, 14, 15, 16, 17, 18, 19, 20, 21, 22, 25, 26, 27, 28, 29, 30, 31, 32, 33, 34, 35, 36, 37, 38, 39, 40, 41, 42, 43, 44, 45, 46, 47, 48, 49, 50, 51, 52, 53, 54, 55, 56, 57, 58, 59, 60] t = [.slice a ws.length c, .slice b ofs.length d, unk, unk, .bool false, .pointer (some ⟨n, 0, none⟩), .pointer (some ⟨hB.next, 0, none⟩), unk, unk, unk, unk, unk, unk, unk, unk, unk, unk, unk, unk, unk, unk, unk, unk, .int .i64 ofs.length, .int .i64 (i : Nat), unk, unk, unk, unk, unk, unk, unk, unk, unk, unk, unk, unk, unk, unk, unk, unk, unk, unk, unk, unk, unk, unk, unk, unk, unk, unk, unk, unk, unk, unk, unk, unk, unk, unk, unk, unk] ∧ PkI h' i n hB.next ws (.slice b ofs.length d) ofs)
      (fun e t' h' => e = .exit 0 ∧ ∃ x25, t' = [.slice a ws.length c, .slice b ofs.length d, unk, unk, .bool false, .pointer (some ⟨n, 0, none⟩), .pointer (some ⟨hB.next, 0, none⟩), unk, unk, unk, unk, unk, unk, unk, unk, unk, unk, unk, unk, unk, unk, unk, unk, .int .i64 ofs.length, .int .i64 ofs.length, x25, unk, unk, unk, unk, unk, unk, unk, unk, unk, unk, unk, unk, unk, unk, unk, unk, unk, unk, unk, unk, unk, unk, unk, unk, unk, unk, unk, unk, unk, unk, unk, unk, unk, unk, unk] ∧ PkI h' ofs.length n hB.next ws (.slice b ofs.length d) ofs) ?_ ofs.length _ _ ⟨0, by omega, by kernel_rfl, 0, [], F, _, _, by simp, by omega, st0, ar0⟩
    rintro k t h' ⟨i, hi, ht, turn, log, F', wv, lv, hlog, htn, hst, har⟩
    rw [ht]
    rcases Nat.lt_or_ge i ofs.length with h1 | h1
    · obtain ⟨hh1, F1, hh2, lv2, e3, e4, g1, q1, q2, o2, f3, fin3⟩ := bround (ofs.getD i 0) hst hw (by omega) (by omega) (by omega)
      have o1 := Sl_one hst.2.2.2.1
      obtain ⟨b, d, C, ce, cs, gr, ro, eb, hgb, hcb⟩ := sl_index har.1 h1
      simp only [Value.slice.injEq, true_and] at eb
      obtain ⟨rfl, rfl⟩ := eb
      have hgb1 := q1.get hgb (fun x => (har.2 b.block (nm_pos (by omega))).1 x)
      have gz : (hh2.new (.cells [.slice none 0 0, .int .i64 0, .slice none 0 0] 42 3 false false)).get hh2.next = some (.cells [.slice none 0 0, .int .i64 0, .slice none 0 0] 42 3 false false) := by rw [Heap.get_new, if_pos rfl]
      have hll := bL_len ws turn log (ofs.getD i 0)
      have htl := bT_le turn (ofs.getD i 0)
      have hinc := @inc64 i (by omega)
      have hii := cast_succ i
      have hcb' : C[b.off + i]? = some (.int .i64 (ofs.getD i 0)) := hcb
      generalize ofs.getD i 0 = of at *
      obtain ⟨h4, h4e⟩ : ∃ x, x = (hh2.new (.cells [.slice none 0 0, .int .i64 0, .slice none 0 0] 42 3 false false)).put hh2.next (some (.cells [wv, .int .i64 (bT turn of : Nat), lv2] 42 3 false false)) := ⟨_, rfl⟩
      have k4 : Keep No hh2 h4 := h4e ▸ (Keep.new No hh2 _).also (Keep.put (S := fun m => m = hh2.next) (Heap.get_lt gz) rfl _) fun m hm e => by omega
      have g4 : h4.get hh2.next = some (.cells [wv, .int .i64 (bT turn of : Nat), lv2] 42 3 false false) := by rw [h4e, Heap.get_put (Heap.get_lt gz), if_pos rfl]
      obtain ⟨g4w, st5, k5⟩ := fin3 h4 k4
      obtain ⟨h5, h5e⟩ : ∃ x, x = h4.put hB.next (some (.cells [wv, .int .i64 (bT turn of : Nat), lv2] 42 3 false false)) := ⟨_, rfl⟩
      rw [← h5e] at st5 k5
      have ar5 := har.keep k5 f3
      have okR : okCells (.agg #[wv, .int .i64 (bT turn of : Nat), lv2]) = some [wv, .int .i64 (bT turn of : Nat), lv2] := okc3 o1 rfl o2
      have n24 : (hh2.new (.cells [.slice none 0 0, .int .i64 0, .slice none 0 0] 42 3 false false)).next ≤ h4.next := by rw [h4e]; exact Nat.le_refl _
      have n12 := q2.1
      have p5 : PkI h5 (i + 1) n hB.next ws (.slice (some b) ofs.length d) ofs := ⟨_, _, F1, _, _, by omega, by omega, st5, ar5⟩
      simp (maxSteps := 2000000) -implicitDefEqProofs [px_skip, px_label, px_region, px_draw, qx_seq, qx_cond, px_block, px_loop, px_scope, px_exit, px_ret, seqK_normal, seqK_exit, seqK_ret, condK_true, condK_false, opsK_some, wK_true, wK_false, itK_some, aops_nil, aops_cons, lK_some, aK_some, hK_some, dwK_true, dwK_false, diK_some, dK_light, dK_alloc, dK_heavy, adraw_nil, adraw_cons, aop, cls, light, lightS, binE, aeq, intBin, goInt, pl_int, pl_bool, pl_ptr, pl_slice, aload, isAggT, aeval, tput, awanted, List.range_succ, fin, aresults, aresult, List.replicate, heavy, acallOp, aenter, ble_d, beq_d, firstRegion, readNames, Nxt, isAnc, readsOk, objEq_some, pt5_10, pl5_10, an5_10, ibne, h1, aindexAddr, sz3, sz42, Try.underlying42, Try.underlying28, Try.underlying3, hgb, hgb1, hcb', en21, en22, e3, e4, g1, al42, gz, ← h4e, astore, okR, g4, g4w, ← h5e, n12, n24, hinc]
      exact ⟨k - 1, by omega, i + 1, by omega, by simp (maxSteps := 2000000) only [forget, List.set_cons_succ, List.set_cons_zero, hii], p5⟩
    · have hi' : i = ofs.length := by omega
      subst hi'
      simp (maxSteps := 2000000) -implicitDefEqProofs [px_skip, px_label, px_region, px_draw, qx_seq, qx_cond, px_block, px_loop, px_scope, px_exit, px_ret, seqK_normal, seqK_exit, seqK_ret, condK_true, condK_false, opsK_some, wK_true, wK_false, itK_some, aops_nil, aops_cons, lK_some, aK_some, hK_some, dwK_true, dwK_false, diK_some, dK_light, dK_alloc, dK_heavy, adraw_nil, adraw_cons, aop, cls, light, lightS, binE, aeq, intBin, goInt, pl_int, pl_bool, pl_ptr, pl_slice, aload, isAggT, aeval, tput, awanted, List.range_succ, fin, aresults, aresult, List.replicate, heavy, acallOp, aenter, ble_d, beq_d, firstRegion, readNames, Nxt, isAnc, readsOk, objEq_some]
      exact ⟨turn, log, F', wv, lv, hlog, htn, hst, har⟩
  subst hx he ht
  obtain ⟨o5, g5, nF5, r5, l5, nr5, nl5⟩ := hst
  obtain ⟨v6, h6, e6, l6, k6, n6⟩ := blog_run o5 (by omega)
  have g6 := k6.get g5 (fun x => x)
  have es := same_run l6.sl (l5.keep k6 (fun _ _ x => x)) (by omega)
  have n56 := k6.1
  simp (maxSteps := 2000000) -implicitDefEqProofs [px_skip, px_label, px_region, px_draw, qx_seq, qx_cond, px_block, px_loop, px_scope, px_exit, px_ret, seqK_normal, seqK_exit, seqK_ret, condK_true, condK_false, opsK_some, wK_true, wK_false, itK_some, aops_nil, aops_cons, lK_some, aK_some, hK_some, dwK_true, dwK_false, diK_some, dK_light, dK_alloc, dK_heavy, adraw_nil, adraw_cons, aop, cls, light, lightS, binE, aeq, intBin, goInt, pl_int, pl_bool, pl_ptr, pl_slice, aload, isAggT, aeval, tput, awanted, List.range_succ, fin, aresults, aresult, List.replicate, heavy, acallOp, aenter, ble_d, beq_d, firstRegion, readNames, Nxt, isAnc, readsOk, objEq_some, pt5_15, pl5_15, an5_15, sz42, Try.underlying42, Try.underlying40, en23, en24, fa42_2, g5, g6, e6, es, n56]

theorem picks_calls (W : World) {a0 : Option Addr} {len0 cap0 : Nat} {l0 : List Nat} (w0 : U64sAt W a0 len0 cap0 l0) (y0 : len0 * 8 ≤ 140737488351232) (c0 : len0 ≤ 1048576) {a1 : Option Addr} {len1 cap1 : Nat} {l1 : List Int} (w1 : IntsAt W a1 len1 cap1 l1) (y1 : len1 * 8 ≤ 140737488351232) (c1 : len1 ≤ 1048576) :
    Calls Try.prog 5 #[.slice a0 len0 cap0, .slice a1 len1 cap1] W fun e W' => e = .returned (.bool true) ∧ Below W.heap.size W W' := by
  obtain ⟨h, σ, v, hr, hro, _, _, hv, hs, hu, _⟩ := arg_u64s (h := .empty) (σ := fun _ => ⟨0, 0, 0⟩) (Rep.none _ W (Nat.le_refl _) _) allRo_empty 32 w0
  obtain ⟨h', σ', v', hr', hro', hk, hσ, hv', hs', hu', _⟩ := arg_ints hr hro 3 w1
  have := u64s_len w0
  have := w1.1
  obtain ⟨h2, e⟩ := picksLaw (hs.keep hk (fun _ _ x => x)) w0.1 hs' (by omega) (by omega)
  exact law_calls mix hro' e rfl hr' (.cons (hv.mono (fun n hn => Nat.lt_of_lt_of_le hn hk.1) (fun n hn => hσ n hn)) (.cons hv' .nil))
end Go.Proofs.Ythkefkpmgleolab.Bi
