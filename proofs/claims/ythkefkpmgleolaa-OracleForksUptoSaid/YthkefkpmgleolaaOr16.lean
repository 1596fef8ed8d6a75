/- An oracle and its fork go on apart: the law. -/
import Derived.Test.YthkefkpmgleolaaOr15
set_option linter.unusedVariables false
set_option linter.unusedSimpArgs false
namespace Go.Proofs.Ythkefkpmgleolaa.Or
open Go Go.Proofs Go.RowKit Go.Proofs.YthkefkpmgleolaaAI

theorem sT6 (r : Nat) : sT 6 r = [3, 4, 5, 9, 12, 13, 14, 15, 16, 18, 19, 20, 21, 22, 23, 24, 25, 26, 27, 28, 29, 30, 31, 32, 35, 36, 37, 38, 39, 40, 41, 42, 43, 44, 45, 46, 47, 48, 49, 50, 51, 52, 53, 54, 55, 56, 57, 58, 59, 60, 61, 62, 63, 64, 65, 66, 67, 68, 69, 70, 71, 72, 73, 74, 75, 78, 79, 80, 81, 82, 83, 84, 85, 86, 87, 88, 89, 90, 91, 92, 93, 94, 95, 96, 97, 98, 99, 100, 101, 102, 103, 104, 105, 106, 107, 108, 109, 110, 111, 112, 113, 114, 115, 116, 117, 118, 119, 120, 121, 122, 123, 124, 125, 126, 127, 128, 129, 130, 131, 132, 133, 134, 135, 136, 137, 138, 139, 140, 141, 142, 143, 144, 145, 146, 147, 148, 149, 150, 151, 152, 153, 154, 155, 156, 157, 158, 159, 160, 161, 162, 163, 164, 165, 166, 167, 168, 169] := by rfl
def pt6 : PlanTab := fun i => if i = 10 then (pl6_10, an6_10) else if i = 13 then (pl6_13, an6_13) else if i = 21 then (pl6_21, an6_21) else if i = 30 then (pl6_30, an6_30) else (pl6_33, an6_33)
theorem pt6_10 : pt6 10 = (pl6_10, an6_10) := rfl
theorem pt6_13 : pt6 13 = (pl6_13, an6_13) := rfl
theorem pt6_21 : pt6 21 = (pl6_21, an6_21) := rfl
theorem pt6_30 : pt6 30 = (pl6_30, an6_30) := rfl
theorem pt6_33 : pt6 33 = (pl6_33, an6_33) := rfl
theorem planned6 : planned Try.prog pt6 (Try.f6.body.getD .skip) = true := by kernel_rfl

/-- The third loop: the second oracle goes on, the first stays. -/
def Fk (k M : Nat) (h : Heap) (n w : Nat) (F1 : Nat → Prop) (raw1 : List Int) (log1 : List (Int × Int)) (rv1 lv1 : Value) (n2 w2 : Nat) (v : Value) (aft : List Int) : Prop :=
  ∃ raw2 log2 F4 rv2 lv2, log2.length + k ≤ M ∧ St h n w F1 raw1 log1 rv1 lv1 ∧ St h n2 w2 F4 raw2 log2 rv2 lv2 ∧ Sep F1 w F4 w2 rv2 lv2 ∧ Sep F4 w2 F1 w rv1 lv1 ∧ Arg h v aft F1 w ∧ Arg h v aft F4 w2

set_option maxRecDepth 20000 in
set_option maxHeartbeats 3200000 in
theorem forksLaw {h : Heap} {va vb vc : Value} {raw bef aft : List Int} (hv : Sl h va 1 raw.length (ints raw)) (hu : Un va 1) (hvb : Sl h vb 1 bef.length (ints bef)) (hvc : Sl h vc 1 aft.length (ints aft)) (hk : raw.length ≤ 2 ^ 20) (hk2 : bef.length ≤ 2 ^ 20) (hk3 : aft.length ≤ 2 ^ 20) : ∃ h', run Try.prog sT 6 [va, vb, vc] h = some (.bool true, h') := by
  obtain ⟨hw, w⟩ := wakesT
  obtain ⟨v1, hA, e1, hl1, k1, f1⟩ := fresh_ints hv (ints_one _) (by omega)
  obtain ⟨n, F, hB, e2, ho, k2, f2⟩ := new_orc sT hl1.sl (by omega)
  obtain ⟨a, c, rfl⟩ := sl_form hv
  obtain ⟨b, d, rfl⟩ := sl_form hvb
  obtain ⟨b2, d2, rfl⟩ := sl_form hvc
  have k12 := k1.trans k2
  obtain ⟨hC, hCe⟩ : ∃ x, x = (hB.new (.cells [.slice none 0 0, .slice none 0 0] 34 2 false false)).put hB.next (some (.cells [.slice a raw.length c, .slice none 0 0] 34 2 false false)) := ⟨_, rfl⟩
  have gB : (hB.new (.cells [.slice none 0 0, .slice none 0 0] 34 2 false false)).get hB.next = some (.cells [.slice none 0 0, .slice none 0 0] 34 2 false false) := by rw [Heap.get_new, if_pos rfl]
  have kC : Keep No hB hC := hCe ▸ (Keep.new No hB _).also (Keep.put (S := fun m => m = hB.next) (Heap.get_lt gB) rfl _) fun m hm e => by omega
  have gC : hC.get hB.next = some (.cells [.slice a raw.length c, .slice none 0 0] 34 2 false false) := by rw [hCe, Heap.get_put (Heap.get_lt gB), if_pos rfl]
  have hFlt : ∀ m, F m → m < hB.next := by obtain ⟨_, _, _, _, _, _, _, _, _, hF, _⟩ := ho; exact hF
  have st0 : St hC n hB.next F raw [] (.slice a raw.length c) (.slice none 0 0) := by
    refine ⟨ho.keep kC (fun _ _ x => x) (fun _ x => x.elim), gC, fun x => by have := hFlt _ x; omega, (hv.keep k12 (fun _ _ x => x)).keep kC (fun _ _ x => x), hu, (Lg.nil hC 49 2).sl, fun m e => ⟨fun x => ?_, ?_⟩, fun m e => by cases e⟩
    · have := f2 m x; have := hv.lt e; have := k1.1; omega
    · have := hv.lt e; have := k12.1; omega
  have ar0 : Arg hC (.slice b bef.length d) bef F hB.next := by
    refine ⟨(hvb.keep k12 (fun _ _ x => x)).keep kC (fun _ _ x => x), fun m e => ⟨fun x => ?_, ?_⟩⟩
    · have := f2 m x; have := hvb.lt e; have := k1.1; omega
    · have := hvb.lt e; have := k12.1; omega
  have br0 : Arg hC (.slice b2 aft.length d2) aft F hB.next := by
    refine ⟨(hvc.keep k12 (fun _ _ x => x)).keep kC (fun _ _ x => x), fun m e => ⟨fun x => ?_, ?_⟩⟩
    · have := f2 m x; have := hvc.lt e; have := k1.1; omega
    · have := hvc.lt e; have := k12.1; omega
  have okX : okCells (.agg #[.slice a raw.length c, .slice none 0 0]) = some [.slice a raw.length c, .slice none 0 0] := rfl
  suffices hx : ∃ y, fin Try.prog Try.f6 (aexecP Try.prog (sT 6) (run Try.prog sT) loopω pt6 (Try.f6.body.getD .skip) ([.slice a raw.length c, .slice b bef.length d, .slice b2 aft.length d2] ++ List.replicate (Try.f6.ntmps - 3) undef) h) = some y ∧ y.1 = .bool true by
    obtain ⟨⟨y1, y2⟩, hy, rfl⟩ := hx
    exact ⟨y2, run_finP pt6 Try.func6 rfl planned6 hy⟩
  simp (maxSteps := 2000000) -implicitDefEqProofs [Try.f6, px_skip, px_label, px_region, px_draw, qx_seq, qx_cond, px_block, px_loop, px_scope, px_exit, px_ret, seqK_normal, seqK_exit, seqK_ret, condK_true, condK_false, opsK_some, wK_true, wK_false, itK_some, aops_nil, aops_cons, lK_some, aK_some, hK_some, dwK_true, dwK_false, diK_some, dK_light, dK_alloc, dK_heavy, adraw_nil, adraw_cons, aop, cls, light, lightS, binE, aeq, intBin, goInt, pl_int, pl_bool, pl_ptr, pl_slice, aload, isAggT, aeval, tput, awanted, List.range_succ, fin, aresults, aresult, List.replicate, heavy, acallOp, aenter, ble_d, beq_d, firstRegion, readNames, Nxt, isAnc, readsOk, objEq_some, w, en11, en14, en15, en16, bs29, e1, e2, build34, al34, Try.underlying30, Try.underlying29, gB, astore, okX, sz34, ← hCe, sT6]
  generalize hl : loopω _ _ _ _ = r
  obtain ⟨e, t', h', hx, he, ⟨raw', log', F', rv, lv, hlog, hraw, hst, hbr⟩, x35, ht⟩ : ∃ e t' h', r = some (e, t', h') ∧ e = .exit 0 ∧ (∃ raw' log' F' rv lv, log'.length ≤ bef.length ∧ raw'.length ≤ raw.length ∧ St h' n hB.next F' raw' log' rv lv ∧ Arg h' (.slice b2 aft.length d2) aft F' hB.next) ∧ ∃ x35, t' = [.slice a raw.length c, .slice b bef.length d, .slice b2 aft.length d2, unk, unk, unk, .bool false, .pointer (some ⟨n, 0, none⟩), .pointer (some ⟨hB.next, 0, none⟩), unk, undef, undef, unk, unk, unk, unk, unk, undef, unk, unk, unk, unk, unk, unk, unk, unk, unk, unk, unk, unk, unk, unk, unk, .int .i64 bef.length, .int .i64 bef.length, x35, unk, unk, unk, unk, unk, unk, unk, unk, unk, unk, unk, unk, unk, unk, unk, unk, unk, unk, unk, unk, unk, unk, unk, unk, unk, unk, unk, unk, unk, unk, unk, unk, unk, unk, unk, unk, unk, unk, unk, unk, undef, undef, unk, unk, unk, unk, unk, unk, unk, unk, unk, unk, unk, unk, unk, unk, unk, unk, unk, unk, unk, unk, unk, unk, unk, unk, unk, unk, unk, unk, unk, unk, unk, unk, unk, unk, unk, unk, unk, unk, unk, unk, unk, unk, unk, unk, unk, unk, unk, unk, unk, unk, unk, unk, unk, unk, unk, unk, unk, unk, unk, unk, unk, unk, unk, unk, unk, unk, unk, unk, unk, unk, unk, unk, unk, unk, unk, unk, unk, unk, unk, unk, unk, unk, unk, unk, unk, unk, unk, unk, unk, unk, unk, unk] := by
    rw [← hl]
    refine loop_by (fun k t h' => ∃ i, i + k = bef.length ∧ forget [3, 4, 5, 9, 12, 13, 14, 15, 16, 18, 19, 20, 21, 22, 23, 24, 25, 26, 27, 28, 29, 30, 31, 32, 35, 36, 37, 38, 39, 40, 41, 42, 43, 44, 45, 46, 47, 48, 49, 50, 51, 52, 53, 54, 55, 56, 57, 58, 59, 60, 61, 62, 63, 64, 65, 66, 67, 68, 69, 70, 71, 72, 73, 74, 75, 78, 79, 80, 81, 82, 83, 84, 85, 86, 87, 88, 89, 90, 91, 92, 93, 94, 95, 96, 97, 98, 99, 100, 101, 102, 103, 104, 105, 106, 107, 108, 109, 110, 111, 112, 113, 114, 115, 116, 117, 118, 119, 120, 121, 122, 123, 124, 125, 126, 127, 128, 129, 130, 131, 132, 133, 134, 135, 136, 137, 138, 139, 140, 141, 142, 143, 144, 145, 146, 147, 148, 149, 150, 151, 152, 153, 154, 155, 156, 157, 158, 159, 160, 161, 162, 163, 164, 165, 166, 167, 168, 169] t = [.slice a raw.length c, .slice b bef.length d, .slice b2 aft.length d2, unk, unk, unk, .bool false, .pointer (some ⟨n, 0, none⟩), .pointer (some ⟨hB.next, 0, none⟩), unk, undef, undef, unk, unk, unk, unk, unk, undef, unk, unk, unk, unk, unk, unk, unk, unk, unk, unk, unk, unk, unk, unk, unk, .int .i64 bef.length, .int .i64 i, unk, unk, unk, unk, unk, unk, unk, unk, unk, unk, unk, unk, unk, unk, unk, unk, unk, unk, unk, unk, unk, unk, unk, unk, unk, unk, unk, unk, unk, unk, unk, unk, unk, unk, unk, unk, unk, unk, unk, unk, unk, undef, undef, unk, unk, unk, unk, unk, unk, unk, unk, unk, unk, unk, unk, unk, unk, unk, unk, unk, unk, unk, unk, unk, unk, unk, unk, unk, unk, unk, unk, unk, unk, unk, unk, unk, unk, unk, unk, unk, unk, unk, unk, unk, unk, unk, unk, unk, unk, unk, unk, unk, unk, unk, unk, unk, unk, unk, unk, unk, unk, unk, unk, unk, unk, unk, unk, unk, unk, unk, unk, unk, unk, unk, unk, unk, unk, unk, unk, unk, unk, unk, unk, unk, unk, unk, unk, unk, unk, unk, unk, unk, unk, unk, unk] ∧ ∃ raw' log' F' rv lv, log'.length ≤ i ∧ raw'.length ≤ raw.length ∧ St h' n hB.next F' raw' log' rv lv ∧ Arg h' (.slice b bef.length d) bef F' hB.next ∧ Arg h' (.slice b2 aft.length d2) aft F' hB.next)
      (fun e t' h' => e = .exit 0 ∧ (∃ raw' log' F' rv lv, log'.length ≤ bef.length ∧ raw'.length ≤ raw.length ∧ St h' n hB.next F' raw' log' rv lv ∧ Arg h' (.slice b2 aft.length d2) aft F' hB.next) ∧ ∃ x35, t' = [.slice a raw.length c, .slice b bef.length d, .slice b2 aft.length d2, unk, unk, unk, .bool false, .pointer (some ⟨n, 0, none⟩), .pointer (some ⟨hB.next, 0, none⟩), unk, undef, undef, unk, unk, unk, unk, unk, undef, unk, unk, unk, unk, unk, unk, unk, unk, unk, unk, unk, unk, unk, unk, unk, .int .i64 bef.length, .int .i64 bef.length, x35, unk, unk, unk, unk, unk, unk, unk, unk, unk, unk, unk, unk, unk, unk, unk, unk, unk, unk, unk, unk, unk, unk, unk, unk, unk, unk, unk, unk, unk, unk, unk, unk, unk, unk, unk, unk, unk, unk, unk, unk, undef, undef, unk, unk, unk, unk, unk, unk, unk, unk, unk, unk, unk, unk, unk, unk, unk, unk, unk, unk, unk, unk, unk, unk, unk, unk, unk, unk, unk, unk, unk, unk, unk, unk, unk, unk, unk, unk, unk, unk, unk, unk, unk, unk, unk, unk, unk, unk, unk, unk, unk, unk, unk, unk, unk, unk, unk, unk, unk, unk, unk, unk, unk, unk, unk, unk, unk, unk, unk, unk, unk, unk, unk, unk, unk, unk, unk, unk, unk, unk, unk, unk, unk, unk, unk, unk, unk, unk, unk, unk, unk, unk, unk, unk]) ?_ bef.length _ _ ⟨0, by omega, by kernel_rfl, raw, [], F, _, _, by simp, by omega, st0, ar0, br0⟩
    rintro k t h' ⟨i, hi, ht, raw', log', F', rv, lv, hlog, hraw, hst, har, hbr⟩
    rw [ht]
    rcases Nat.lt_or_ge i bef.length with h1 | h1
    · obtain ⟨hh1, F1, hh2, rv2, lv2, e3, e4, g1, q1, q2, o1, o2, f3, _, _, fin3⟩ := round_mem sT (bef.getD i 0) hst (by omega)
      obtain ⟨b, d, C, ce, cs, gr, ro, eb, hgb, hcb⟩ := sl_index har.1 h1
      simp only [Value.slice.injEq, true_and] at eb
      obtain ⟨rfl, rfl⟩ := eb
      have hgb1 := q1.get hgb (fun x => (har.2 b.block (nm_pos (by omega))).1 x)
      obtain ⟨g4w, st5, k5⟩ := fin3 hh2 (Keep.refl _ _)
      obtain ⟨h5, h5e⟩ : ∃ x, x = hh2.put hB.next (some (.cells [rv2, lv2] 34 2 false false)) := ⟨_, rfl⟩
      rw [← h5e] at st5 k5
      have ar5 := har.keep k5 f3
      have br5 := hbr.keep k5 f3
      have hll := logN_len raw' log' (bef.getD i 0)
      have hrl := rawN_len raw' (bef.getD i 0)
      have okR := okc_agg o1 o2
      have n12 := q2.1
      have n25 : hh2.next ≤ h5.next := by rw [h5e]; exact Nat.le_refl _
      have hw : IntKind.i64.wrap ((i : Int) + 1) = ((i + 1 : Nat) : Int) := by rw [IntWalk.i64_in _ (by omega)]; omega
      have hii : ((i + 1 : Nat) : Int) = (i : Int) + 1 := by omega
      have hcb' : C[b.off + i]? = some (.int .i64 (bef.getD i 0)) := hcb
      generalize bef.getD i 0 = of at *
      simp (maxSteps := 2000000) -implicitDefEqProofs [px_skip, px_label, px_region, px_draw, qx_seq, qx_cond, px_block, px_loop, px_scope, px_exit, px_ret, seqK_normal, seqK_exit, seqK_ret, condK_true, condK_false, opsK_some, wK_true, wK_false, itK_some, aops_nil, aops_cons, lK_some, aK_some, hK_some, dwK_true, dwK_false, diK_some, dK_light, dK_alloc, dK_heavy, adraw_nil, adraw_cons, aop, cls, light, lightS, binE, aeq, intBin, goInt, pl_int, pl_bool, pl_ptr, pl_slice, aload, isAggT, aeval, tput, awanted, List.range_succ, fin, aresults, aresult, List.replicate, heavy, acallOp, aenter, ble_d, beq_d, firstRegion, readNames, Nxt, isAnc, readsOk, objEq_some, pt6_10, pl6_10, an6_10, ibne, h1, aindexAddr, sz3, sz34, Try.underlying34, Try.underlying29, Try.underlying32, hgb, hgb1, hcb', en15, en16, e3, e4, g1, astore, okR, g4w, ← h5e, n12, n25, hw]
      exact ⟨k - 1, by omega, i + 1, by omega, by simp (maxSteps := 2000000) only [forget, List.set_cons_succ, List.set_cons_zero, hii], rawN raw' of, logN raw' log' of, by omega, by omega, F1, ⟨_, _, st5⟩, ar5, br5⟩
    · have hi' : i = bef.length := by omega
      subst hi'
      simp (maxSteps := 2000000) -implicitDefEqProofs [px_skip, px_label, px_region, px_draw, qx_seq, qx_cond, px_block, px_loop, px_scope, px_exit, px_ret, seqK_normal, seqK_exit, seqK_ret, condK_true, condK_false, opsK_some, wK_true, wK_false, itK_some, aops_nil, aops_cons, lK_some, aK_some, hK_some, dwK_true, dwK_false, diK_some, dK_light, dK_alloc, dK_heavy, adraw_nil, adraw_cons, aop, cls, light, lightS, binE, aeq, intBin, goInt, pl_int, pl_bool, pl_ptr, pl_slice, aload, isAggT, aeval, tput, awanted, List.range_succ, fin, aresults, aresult, List.replicate, heavy, acallOp, aenter, ble_d, beq_d, firstRegion, readNames, Nxt, isAnc, readsOk, objEq_some]
      exact ⟨raw', log', hlog, hraw, F', ⟨rv, lv, hst⟩, hbr⟩
  subst hx he ht
  clear hl
  have hst' := hst
  obtain ⟨o5, g5, nF5, r5, u5, l5, nr5, nl5⟩ := hst'
  obtain ⟨ra, rc, rfl⟩ := sl_form r5
  obtain ⟨lF, lw, lr, ll⟩ := hst.lt
  obtain ⟨n2, F2, h2, e20, p2, k20, f20⟩ := fork_run sT o5 (by omega) (by omega)
  have g2 := k20.get g5 (fun x => x)
  have el := left_run sT p2
  obtain ⟨v3, h3, e3, l3, k3, n3⟩ := log_run sT p2 (by omega)
  have g3 := k3.get g2 (fun x => x)
  have es := same_run l3.sl ((l5.keep k20 (fun _ _ x => x)).keep k3 (fun _ _ x => x)) (by omega)
  have n23 := k3.1
  obtain ⟨hD, hDe⟩ : ∃ x, x = (h3.new (.cells [.slice none 0 0, .slice none 0 0] 34 2 false false)).put h3.next (some (.cells [.slice ra raw'.length rc, lv] 34 2 false false)) := ⟨_, rfl⟩
  have gz : (h3.new (.cells [.slice none 0 0, .slice none 0 0] 34 2 false false)).get h3.next = some (.cells [.slice none 0 0, .slice none 0 0] 34 2 false false) := by rw [Heap.get_new, if_pos rfl]
  have kD : Keep No h3 hD := hDe ▸ (Keep.new No h3 _).also (Keep.put (S := fun m => m = h3.next) (Heap.get_lt gz) rfl _) fun m hm e => by omega
  have gD : hD.get h3.next = some (.cells [.slice ra raw'.length rc, lv] 34 2 false false) := by rw [hDe, Heap.get_put (Heap.get_lt gz), if_pos rfl]
  have kk : Keep No h' hD := (k20.trans k3).trans kD
  have okD : okCells (.agg #[.slice ra raw'.length rc, lv]) = some [.slice ra raw'.length rc, lv] := okc_agg rfl (Sl_one l5)
  have stA : St hD n hB.next F' raw' log' (.slice ra raw'.length rc) lv := hst.keep kk (fun _ _ x => x) (fun _ x => x.elim) (fun x => x) (fun _ _ x => x) (fun _ _ x => x)
  have p2D : Orc hD n2 F2 raw' log' := (p2.keep k3 (fun _ _ x => x) (fun _ x => x.elim)).keep kD (fun _ _ x => x) (fun _ x => x.elim)
  have hF2lt : ∀ m, F2 m → m < h2.next := by obtain ⟨_, _, _, _, _, _, _, _, _, hF, _⟩ := p2; exact hF
  have k1l := k20.1
  have stB : St hD n2 h3.next F2 raw' log' (.slice ra raw'.length rc) lv := by
    refine ⟨p2D, gD, fun x => by have := hF2lt _ x; omega, r5.keep kk (fun _ _ x => x), u5, l5.keep kk (fun _ _ x => x), fun m e => ⟨fun x => ?_, ?_⟩, fun m e => ⟨fun x => ?_, ?_⟩⟩
    · have := f20 m x; have := lr m e; omega
    · have := lr m e; omega
    · have := f20 m x; have := ll m e; omega
    · have := ll m e; omega
  have sepA : Sep F' hB.next F2 h3.next (.slice ra raw'.length rc) lv := by
    refine ⟨fun m x => ⟨fun y => ?_, ?_⟩, fun x => ?_, ?_, nr5, nl5⟩
    · have := f20 m x; have := lF m y; omega
    · have := f20 m x; omega
    · have := lF _ x; omega
    · omega
  have sepB : Sep F2 h3.next F' hB.next (.slice ra raw'.length rc) lv := by
    refine ⟨fun m x => ⟨fun y => ?_, ?_⟩, fun x => ?_, ?_, fun m e => ⟨fun x => ?_, ?_⟩, fun m e => ⟨fun x => ?_, ?_⟩⟩
    · have := f20 m y; have := lF m x; omega
    · have := lF m x; omega
    · have := f20 _ x; omega
    · omega
    · have := f20 m x; have := lr m e; omega
    · have := lr m e; omega
    · have := f20 m x; have := ll m e; omega
    · have := ll m e; omega
  have arA : Arg hD (.slice b2 aft.length d2) aft F' hB.next := ⟨hbr.1.keep kk (fun _ _ x => x), hbr.2⟩
  have arB : Arg hD (.slice b2 aft.length d2) aft F2 h3.next := ⟨arA.1, fun m e => ⟨fun x => by have := f20 m x; have := hbr.1.lt e; omega, by have := hbr.1.lt e; omega⟩⟩
  simp (maxSteps := 2000000) -implicitDefEqProofs [px_skip, px_label, px_region, px_draw, qx_seq, qx_cond, px_block, px_loop, px_scope, px_exit, px_ret, seqK_normal, seqK_exit, seqK_ret, condK_true, condK_false, opsK_some, wK_true, wK_false, itK_some, aops_nil, aops_cons, lK_some, aK_some, hK_some, dwK_true, dwK_false, diK_some, dK_light, dK_alloc, dK_heavy, adraw_nil, adraw_cons, aop, cls, light, lightS, binE, aeq, intBin, goInt, pl_int, pl_bool, pl_ptr, pl_slice, aload, isAggT, aeval, tput, awanted, List.range_succ, fin, aresults, aresult, List.replicate, heavy, acallOp, aenter, ble_d, beq_d, firstRegion, readNames, Nxt, isAnc, readsOk, objEq_some, pt6_13, pl6_13, an6_13, ibne, sz34, Try.underlying34, Try.underlying29, Try.underlying30, Try.underlying32, en17, en18, en19, en20, e20, el, fa34_0, fa34_1, g2, g3, e3, es, n23, al34, gz, astore, okD, ← hDe, sT6]
  generalize hl : loopω _ _ _ _ = r
  obtain ⟨e, t', h', hx, he, ⟨raw1, log1, F1, rv1, lv1, hlog1, st1, st2, sp1, sp2, ar1, ar2⟩, x78, ht⟩ : ∃ e t' h', r = some (e, t', h') ∧ e = .exit 2 ∧ (∃ raw1 log1 F1 rv1 lv1, log1.length ≤ bef.length + aft.length ∧ St h' n hB.next F1 raw1 log1 rv1 lv1 ∧ St h' n2 h3.next F2 raw' log' (.slice ra raw'.length rc) lv ∧ Sep F1 hB.next F2 h3.next (.slice ra raw'.length rc) lv ∧ Sep F2 h3.next F1 hB.next rv1 lv1 ∧ Arg h' (.slice b2 aft.length d2) aft F1 hB.next ∧ Arg h' (.slice b2 aft.length d2) aft F2 h3.next) ∧ ∃ x78, t' = [.slice a raw.length c, .slice b bef.length d, .slice b2 aft.length d2, unk, unk, unk, .bool false, .pointer (some ⟨n, 0, none⟩), .pointer (some ⟨hB.next, 0, none⟩), unk, .pointer (some ⟨n2, 0, none⟩), .pointer (some ⟨h3.next, 0, none⟩), unk, unk, unk, unk, unk, undef, unk, unk, unk, unk, unk, unk, unk, unk, unk, unk, unk, unk, unk, unk, unk, .int .i64 bef.length, .int .i64 bef.length, unk, unk, unk, unk, unk, unk, unk, unk, unk, unk, unk, unk, unk, unk, unk, unk, unk, unk, unk, unk, unk, unk, unk, unk, unk, unk, unk, unk, unk, unk, unk, unk, unk, unk, unk, unk, unk, unk, unk, unk, unk, .int .i64 aft.length, .int .i64 aft.length, x78, unk, unk, unk, unk, unk, unk, unk, unk, unk, unk, unk, unk, unk, unk, unk, unk, unk, unk, unk, unk, unk, unk, unk, unk, unk, unk, unk, unk, unk, unk, unk, unk, unk, unk, unk, unk, unk, unk, unk, unk, unk, unk, unk, unk, unk, unk, unk, unk, unk, unk, unk, unk, unk, unk, unk, unk, unk, unk, unk, unk, unk, unk, unk, unk, unk, unk, unk, unk, unk, unk, unk, unk, unk, unk, unk, unk, unk, unk, unk, unk, unk, unk, unk, unk, unk, unk, unk, unk, unk, unk, unk] := by
    rw [← hl]
    refine loop_by (fun k t h' => ∃ i, i + k = aft.length ∧ forget [3, 4, 5, 9, 12, 13, 14, 15, 16, 18, 19, 20, 21, 22, 23, 24, 25, 26, 27, 28, 29, 30, 31, 32, 35, 36, 37, 38, 39, 40, 41, 42, 43, 44, 45, 46, 47, 48, 49, 50, 51, 52, 53, 54, 55, 56, 57, 58, 59, 60, 61, 62, 63, 64, 65, 66, 67, 68, 69, 70, 71, 72, 73, 74, 75, 78, 79, 80, 81, 82, 83, 84, 85, 86, 87, 88, 89, 90, 91, 92, 93, 94, 95, 96, 97, 98, 99, 100, 101, 102, 103, 104, 105, 106, 107, 108, 109, 110, 111, 112, 113, 114, 115, 116, 117, 118, 119, 120, 121, 122, 123, 124, 125, 126, 127, 128, 129, 130, 131, 132, 133, 134, 135, 136, 137, 138, 139, 140, 141, 142, 143, 144, 145, 146, 147, 148, 149, 150, 151, 152, 153, 154, 155, 156, 157, 158, 159, 160, 161, 162, 163, 164, 165, 166, 167, 168, 169] t = [.slice a raw.length c, .slice b bef.length d, .slice b2 aft.length d2, unk, unk, unk, .bool false, .pointer (some ⟨n, 0, none⟩), .pointer (some ⟨hB.next, 0, none⟩), unk, .pointer (some ⟨n2, 0, none⟩), .pointer (some ⟨h3.next, 0, none⟩), unk, unk, unk, unk, unk, undef, unk, unk, unk, unk, unk, unk, unk, unk, unk, unk, unk, unk, unk, unk, unk, .int .i64 bef.length, .int .i64 bef.length, unk, unk, unk, unk, unk, unk, unk, unk, unk, unk, unk, unk, unk, unk, unk, unk, unk, unk, unk, unk, unk, unk, unk, unk, unk, unk, unk, unk, unk, unk, unk, unk, unk, unk, unk, unk, unk, unk, unk, unk, unk, .int .i64 aft.length, .int .i64 i, unk, unk, unk, unk, unk, unk, unk, unk, unk, unk, unk, unk, unk, unk, unk, unk, unk, unk, unk, unk, unk, unk, unk, unk, unk, unk, unk, unk, unk, unk, unk, unk, unk, unk, unk, unk, unk, unk, unk, unk, unk, unk, unk, unk, unk, unk, unk, unk, unk, unk, unk, unk, unk, unk, unk, unk, unk, unk, unk, unk, unk, unk, unk, unk, unk, unk, unk, unk, unk, unk, unk, unk, unk, unk, unk, unk, unk, unk, unk, unk, unk, unk, unk, unk, unk, unk, unk, unk, unk, unk, unk, unk] ∧ ∃ raw1 log1 F1 rv1 lv1, log1.length ≤ bef.length + i ∧ St h' n hB.next F1 raw1 log1 rv1 lv1 ∧ St h' n2 h3.next F2 raw' log' (.slice ra raw'.length rc) lv ∧ Sep F1 hB.next F2 h3.next (.slice ra raw'.length rc) lv ∧ Sep F2 h3.next F1 hB.next rv1 lv1 ∧ Arg h' (.slice b2 aft.length d2) aft F1 hB.next ∧ Arg h' (.slice b2 aft.length d2) aft F2 h3.next)
      (fun e t' h' => e = .exit 2 ∧ (∃ raw1 log1 F1 rv1 lv1, log1.length ≤ bef.length + aft.length ∧ St h' n hB.next F1 raw1 log1 rv1 lv1 ∧ St h' n2 h3.next F2 raw' log' (.slice ra raw'.length rc) lv ∧ Sep F1 hB.next F2 h3.next (.slice ra raw'.length rc) lv ∧ Sep F2 h3.next F1 hB.next rv1 lv1 ∧ Arg h' (.slice b2 aft.length d2) aft F1 hB.next ∧ Arg h' (.slice b2 aft.length d2) aft F2 h3.next) ∧ ∃ x78, t' = [.slice a raw.length c, .slice b bef.length d, .slice b2 aft.length d2, unk, unk, unk, .bool false, .pointer (some ⟨n, 0, none⟩), .pointer (some ⟨hB.next, 0, none⟩), unk, .pointer (some ⟨n2, 0, none⟩), .pointer (some ⟨h3.next, 0, none⟩), unk, unk, unk, unk, unk, undef, unk, unk, unk, unk, unk, unk, unk, unk, unk, unk, unk, unk, unk, unk, unk, .int .i64 bef.length, .int .i64 bef.length, unk, unk, unk, unk, unk, unk, unk, unk, unk, unk, unk, unk, unk, unk, unk, unk, unk, unk, unk, unk, unk, unk, unk, unk, unk, unk, unk, unk, unk, unk, unk, unk, unk, unk, unk, unk, unk, unk, unk, unk, unk, .int .i64 aft.length, .int .i64 aft.length, x78, unk, unk, unk, unk, unk, unk, unk, unk, unk, unk, unk, unk, unk, unk, unk, unk, unk, unk, unk, unk, unk, unk, unk, unk, unk, unk, unk, unk, unk, unk, unk, unk, unk, unk, unk, unk, unk, unk, unk, unk, unk, unk, unk, unk, unk, unk, unk, unk, unk, unk, unk, unk, unk, unk, unk, unk, unk, unk, unk, unk, unk, unk, unk, unk, unk, unk, unk, unk, unk, unk, unk, unk, unk, unk, unk, unk, unk, unk, unk, unk, unk, unk, unk, unk, unk, unk, unk, unk, unk, unk, unk]) ?_ aft.length _ _ ⟨0, by omega, by kernel_rfl, raw', log', F', _, _, by omega, stA, stB, sepA, sepB, arA, arB⟩
    rintro k t h' ⟨i, hi, ht, raw1, log1, F1, rv1, lv1, hlog1, st1, st2, sp1, sp2, ar1, ar2⟩
    rw [ht]
    rcases Nat.lt_or_ge i aft.length with h1 | h1
    · obtain ⟨hh1, F3, hh2, rv2, lv2, e3, e4, g1, g4w, q1, n12, o1, o2, f3, st3, st4, sp3, sp4, k5⟩ := round_two sT (aft.getD i 0) st1 st2 sp1 sp2 (by omega)
      obtain ⟨b2, d2, C, ce, cs, gr, ro, eb, hgb, hcb⟩ := sl_index ar1.1 h1
      simp only [Value.slice.injEq, true_and] at eb
      obtain ⟨rfl, rfl⟩ := eb
      have hgb1 := q1.get hgb (fun x => (ar1.2 b2.block (nm_pos (by omega))).1 x)
      obtain ⟨h5, h5e⟩ : ∃ x, x = hh2.put hB.next (some (.cells [rv2, lv2] 34 2 false false)) := ⟨_, rfl⟩
      rw [← h5e] at st3 st4 k5
      have ar3 := ar1.keep k5 f3
      have ar4 : Arg h5 (.slice (some b2) aft.length d2) aft F2 h3.next := ⟨ar3.1, ar2.2⟩
      have hll := logN_len raw1 log1 (aft.getD i 0)
      have okR := okc_agg o1 o2
      have n25 : hh2.next ≤ h5.next := by rw [h5e]; exact Nat.le_refl _
      have hw : IntKind.i64.wrap ((i : Int) + 1) = ((i + 1 : Nat) : Int) := by rw [IntWalk.i64_in _ (by omega)]; omega
      have hii : ((i + 1 : Nat) : Int) = (i : Int) + 1 := by omega
      have hcb' : C[b2.off + i]? = some (.int .i64 (aft.getD i 0)) := hcb
      generalize aft.getD i 0 = of at *
      simp (maxSteps := 2000000) -implicitDefEqProofs [px_skip, px_label, px_region, px_draw, qx_seq, qx_cond, px_block, px_loop, px_scope, px_exit, px_ret, seqK_normal, seqK_exit, seqK_ret, condK_true, condK_false, opsK_some, wK_true, wK_false, itK_some, aops_nil, aops_cons, lK_some, aK_some, hK_some, dwK_true, dwK_false, diK_some, dK_light, dK_alloc, dK_heavy, adraw_nil, adraw_cons, aop, cls, light, lightS, binE, aeq, intBin, goInt, pl_int, pl_bool, pl_ptr, pl_slice, aload, isAggT, aeval, tput, awanted, List.range_succ, fin, aresults, aresult, List.replicate, heavy, acallOp, aenter, ble_d, beq_d, firstRegion, readNames, Nxt, isAnc, readsOk, objEq_some, pt6_21, pl6_21, an6_21, ibne, h1, aindexAddr, sz3, sz34, Try.underlying34, Try.underlying29, Try.underlying3, Try.underlying32, hgb, hgb1, hcb', en15, en16, e3, e4, g1, astore, okR, g4w, ← h5e, n12, n25, hw]
      exact ⟨k - 1, by omega, i + 1, by omega, by simp (maxSteps := 2000000) only [forget, List.set_cons_succ, List.set_cons_zero, hii], rawN raw1 of, logN raw1 log1 of, by omega, F3, rv2, lv2, st3, st4, sp3, sp4, ar3, ar4⟩
    · have hi' : i = aft.length := by omega
      subst hi'
      simp (maxSteps := 2000000) -implicitDefEqProofs [px_skip, px_label, px_region, px_draw, qx_seq, qx_cond, px_block, px_loop, px_scope, px_exit, px_ret, seqK_normal, seqK_exit, seqK_ret, condK_true, condK_false, opsK_some, wK_true, wK_false, itK_some, aops_nil, aops_cons, lK_some, aK_some, hK_some, dwK_true, dwK_false, diK_some, dK_light, dK_alloc, dK_heavy, adraw_nil, adraw_cons, aop, cls, light, lightS, binE, aeq, intBin, goInt, pl_int, pl_bool, pl_ptr, pl_slice, aload, isAggT, aeval, tput, awanted, List.range_succ, fin, aresults, aresult, List.replicate, heavy, acallOp, aenter, ble_d, beq_d, firstRegion, readNames, Nxt, isAnc, readsOk, objEq_some]
      exact ⟨raw1, log1, hlog1, F1, rv1, lv1, st1, st2, sp1, sp2, ar1, ar2⟩
  subst hx he ht
  clear hl
  have hw3 : IntKind.i64.wrap ((aft.length : Int) - 1) = (aft.length : Int) - 1 := IntWalk.i64_in _ (by omega)
  simp (maxSteps := 2000000) -implicitDefEqProofs [px_skip, px_label, px_region, px_draw, qx_seq, qx_cond, px_block, px_loop, px_scope, px_exit, px_ret, seqK_normal, seqK_exit, seqK_ret, condK_true, condK_false, opsK_some, wK_true, wK_false, itK_some, aops_nil, aops_cons, lK_some, aK_some, hK_some, dwK_true, dwK_false, diK_some, dK_light, dK_alloc, dK_heavy, adraw_nil, adraw_cons, aop, cls, light, lightS, binE, aeq, intBin, goInt, pl_int, pl_bool, pl_ptr, pl_slice, aload, isAggT, aeval, tput, awanted, List.range_succ, fin, aresults, aresult, List.replicate, heavy, acallOp, aenter, ble_d, beq_d, firstRegion, readNames, Nxt, isAnc, readsOk, objEq_some, Try.underlying29, hw3, sT6]
  generalize hl : loopω _ _ _ _ = r
  obtain ⟨e, t', h', hx, he, ⟨raw2, log2, F4, rv2, lv2, hlog2, st1, st2, sp1, sp2, _, _⟩, x111, x112, ht⟩ : ∃ e t' h', r = some (e, t', h') ∧ e = .exit 4 ∧ Fk 0 (bef.length + aft.length) h' n hB.next F1 raw1 log1 rv1 lv1 n2 h3.next (.slice b2 aft.length d2) aft ∧ ∃ x111 x112, t' = [.slice a raw.length c, .slice b bef.length d, .slice b2 aft.length d2, unk, unk, unk, .bool false, .pointer (some ⟨n, 0, none⟩), .pointer (some ⟨hB.next, 0, none⟩), unk, .pointer (some ⟨n2, 0, none⟩), .pointer (some ⟨h3.next, 0, none⟩), unk, unk, unk, unk, unk, .int .i64 (-1), unk, unk, unk, unk, unk, unk, unk, unk, unk, unk, unk, unk, unk, unk, unk, .int .i64 bef.length, .int .i64 bef.length, unk, unk, unk, unk, unk, unk, unk, unk, unk, unk, unk, unk, unk, unk, unk, unk, unk, unk, unk, unk, unk, unk, unk, unk, unk, unk, unk, unk, unk, unk, unk, unk, unk, unk, unk, unk, unk, unk, unk, unk, unk, .int .i64 aft.length, .int .i64 aft.length, unk, unk, unk, unk, unk, unk, unk, unk, unk, unk, unk, unk, unk, unk, unk, unk, unk, unk, unk, unk, unk, unk, unk, unk, unk, unk, unk, unk, unk, unk, unk, unk, unk, x111, x112, unk, unk, unk, unk, unk, unk, unk, unk, unk, unk, unk, unk, unk, unk, unk, unk, unk, unk, unk, unk, unk, unk, unk, unk, unk, unk, unk, unk, unk, unk, unk, unk, unk, unk, unk, unk, unk, unk, unk, unk, unk, unk, unk, unk, unk, unk, unk, unk, unk, unk, unk, unk, unk, unk, unk, unk, unk] := by
    rw [← hl]
    refine loop_by (fun k t h' => ∃ z : Int, z = (k : Int) - 1 ∧ k ≤ aft.length ∧ forget [3, 4, 5, 9, 12, 13, 14, 15, 16, 18, 19, 20, 21, 22, 23, 24, 25, 26, 27, 28, 29, 30, 31, 32, 35, 36, 37, 38, 39, 40, 41, 42, 43, 44, 45, 46, 47, 48, 49, 50, 51, 52, 53, 54, 55, 56, 57, 58, 59, 60, 61, 62, 63, 64, 65, 66, 67, 68, 69, 70, 71, 72, 73, 74, 75, 78, 79, 80, 81, 82, 83, 84, 85, 86, 87, 88, 89, 90, 91, 92, 93, 94, 95, 96, 97, 98, 99, 100, 101, 102, 103, 104, 105, 106, 107, 108, 109, 110, 111, 112, 113, 114, 115, 116, 117, 118, 119, 120, 121, 122, 123, 124, 125, 126, 127, 128, 129, 130, 131, 132, 133, 134, 135, 136, 137, 138, 139, 140, 141, 142, 143, 144, 145, 146, 147, 148, 149, 150, 151, 152, 153, 154, 155, 156, 157, 158, 159, 160, 161, 162, 163, 164, 165, 166, 167, 168, 169] t = [.slice a raw.length c, .slice b bef.length d, .slice b2 aft.length d2, unk, unk, unk, .bool false, .pointer (some ⟨n, 0, none⟩), .pointer (some ⟨hB.next, 0, none⟩), unk, .pointer (some ⟨n2, 0, none⟩), .pointer (some ⟨h3.next, 0, none⟩), unk, unk, unk, unk, unk, .int .i64 z, unk, unk, unk, unk, unk, unk, unk, unk, unk, unk, unk, unk, unk, unk, unk, .int .i64 bef.length, .int .i64 bef.length, unk, unk, unk, unk, unk, unk, unk, unk, unk, unk, unk, unk, unk, unk, unk, unk, unk, unk, unk, unk, unk, unk, unk, unk, unk, unk, unk, unk, unk, unk, unk, unk, unk, unk, unk, unk, unk, unk, unk, unk, unk, .int .i64 aft.length, .int .i64 aft.length, unk, unk, unk, unk, unk, unk, unk, unk, unk, unk, unk, unk, unk, unk, unk, unk, unk, unk, unk, unk, unk, unk, unk, unk, unk, unk, unk, unk, unk, unk, unk, unk, unk, unk, unk, unk, unk, unk, unk, unk, unk, unk, unk, unk, unk, unk, unk, unk, unk, unk, unk, unk, unk, unk, unk, unk, unk, unk, unk, unk, unk, unk, unk, unk, unk, unk, unk, unk, unk, unk, unk, unk, unk, unk, unk, unk, unk, unk, unk, unk, unk, unk, unk, unk, unk, unk, unk, unk, unk, unk, unk, unk] ∧ Fk k (bef.length + aft.length) h' n hB.next F1 raw1 log1 rv1 lv1 n2 h3.next (.slice b2 aft.length d2) aft)
      (fun e t' h' => e = .exit 4 ∧ Fk 0 (bef.length + aft.length) h' n hB.next F1 raw1 log1 rv1 lv1 n2 h3.next (.slice b2 aft.length d2) aft ∧ ∃ x111 x112, t' = [.slice a raw.length c, .slice b bef.length d, .slice b2 aft.length d2, unk, unk, unk, .bool false, .pointer (some ⟨n, 0, none⟩), .pointer (some ⟨hB.next, 0, none⟩), unk, .pointer (some ⟨n2, 0, none⟩), .pointer (some ⟨h3.next, 0, none⟩), unk, unk, unk, unk, unk, .int .i64 (-1), unk, unk, unk, unk, unk, unk, unk, unk, unk, unk, unk, unk, unk, unk, unk, .int .i64 bef.length, .int .i64 bef.length, unk, unk, unk, unk, unk, unk, unk, unk, unk, unk, unk, unk, unk, unk, unk, unk, unk, unk, unk, unk, unk, unk, unk, unk, unk, unk, unk, unk, unk, unk, unk, unk, unk, unk, unk, unk, unk, unk, unk, unk, unk, .int .i64 aft.length, .int .i64 aft.length, unk, unk, unk, unk, unk, unk, unk, unk, unk, unk, unk, unk, unk, unk, unk, unk, unk, unk, unk, unk, unk, unk, unk, unk, unk, unk, unk, unk, unk, unk, unk, unk, unk, x111, x112, unk, unk, unk, unk, unk, unk, unk, unk, unk, unk, unk, unk, unk, unk, unk, unk, unk, unk, unk, unk, unk, unk, unk, unk, unk, unk, unk, unk, unk, unk, unk, unk, unk, unk, unk, unk, unk, unk, unk, unk, unk, unk, unk, unk, unk, unk, unk, unk, unk, unk, unk, unk, unk, unk, unk, unk, unk]) ?_ aft.length _ _ ⟨(aft.length : Int) - 1, rfl, by omega, by kernel_rfl, raw', log', F2, _, _, by omega, st1, st2, sp1, sp2, ar1, ar2⟩
    rintro k t h' ⟨z, hz, hka, ht, raw2, log2, F4, rv2, lv2, hlog2, st1, st2, sp1, sp2, ar1, ar2⟩
    rw [ht]
    cases k with
    | succ j =>
      obtain rfl : z = (j : Int) := by omega
      have h1 : j < aft.length := by omega
      obtain ⟨hh1, F3, hh2, rv3, lv3, e3, e4, g1, g4w, q1, n12, o1, o2, f3, st3, st4, sp3, sp4, k5⟩ := round_two sT (aft.getD j 0) st2 st1 sp2 sp1 (by omega)
      obtain ⟨b2, d2, C, ce, cs, gr, ro, eb, hgb, hcb⟩ := sl_index ar2.1 h1
      simp only [Value.slice.injEq, true_and] at eb
      obtain ⟨rfl, rfl⟩ := eb
      have hgb1 := q1.get hgb (fun x => (ar2.2 b2.block (nm_pos (by omega))).1 x)
      obtain ⟨h5, h5e⟩ : ∃ x, x = hh2.put h3.next (some (.cells [rv3, lv3] 34 2 false false)) := ⟨_, rfl⟩
      rw [← h5e] at st3 st4 k5
      have ar3 := ar2.keep k5 f3
      have ar4 : Arg h5 (.slice (some b2) aft.length d2) aft F1 hB.next := ⟨ar3.1, ar1.2⟩
      have hll := logN_len raw2 log2 (aft.getD j 0)
      have okR := okc_agg o1 o2
      have n25 : hh2.next ≤ h5.next := by rw [h5e]; exact Nat.le_refl _
      have hw : IntKind.i64.wrap ((j : Int) - 1) = (j : Int) - 1 := IntWalk.i64_in _ (by omega)
      have hj0 : (0 : Int) ≤ (j : Int) := by omega
      have hcb' : C[b2.off + j]? = some (.int .i64 (aft.getD j 0)) := hcb
      generalize aft.getD j 0 = of at *
      simp (maxSteps := 2000000) -implicitDefEqProofs [px_skip, px_label, px_region, px_draw, qx_seq, qx_cond, px_block, px_loop, px_scope, px_exit, px_ret, seqK_normal, seqK_exit, seqK_ret, condK_true, condK_false, opsK_some, wK_true, wK_false, itK_some, aops_nil, aops_cons, lK_some, aK_some, hK_some, dwK_true, dwK_false, diK_some, dK_light, dK_alloc, dK_heavy, adraw_nil, adraw_cons, aop, cls, light, lightS, binE, aeq, intBin, goInt, pl_int, pl_bool, pl_ptr, pl_slice, aload, isAggT, aeval, tput, awanted, List.range_succ, fin, aresults, aresult, List.replicate, heavy, acallOp, aenter, ble_d, beq_d, firstRegion, readNames, Nxt, isAnc, readsOk, objEq_some, pt6_30, pl6_30, an6_30, ibne, h1, hj0, aindexAddr, sz3, sz34, Try.underlying34, Try.underlying29, Try.underlying3, Try.underlying32, hgb, hgb1, hcb', en15, en16, e3, e4, g1, astore, okR, g4w, ← h5e, n12, n25, hw]
      exact ⟨j, by omega, by omega, by simp (maxSteps := 2000000) only [forget, List.set_cons_succ, List.set_cons_zero], rawN raw2 of, logN raw2 log2 of, F3, rv3, lv3, by omega, st4, st3, sp4, sp3, ar4, ar3⟩
    | zero =>
      obtain rfl : z = -1 := by omega
      simp (maxSteps := 2000000) -implicitDefEqProofs [px_skip, px_label, px_region, px_draw, qx_seq, qx_cond, px_block, px_loop, px_scope, px_exit, px_ret, seqK_normal, seqK_exit, seqK_ret, condK_true, condK_false, opsK_some, wK_true, wK_false, itK_some, aops_nil, aops_cons, lK_some, aK_some, hK_some, dwK_true, dwK_false, diK_some, dK_light, dK_alloc, dK_heavy, adraw_nil, adraw_cons, aop, cls, light, lightS, binE, aeq, intBin, goInt, pl_int, pl_bool, pl_ptr, pl_slice, aload, isAggT, aeval, tput, awanted, List.range_succ, fin, aresults, aresult, List.replicate, heavy, acallOp, aenter, ble_d, beq_d, firstRegion, readNames, Nxt, isAnc, readsOk, objEq_some]
      exact ⟨raw2, log2, F4, rv2, lv2, by omega, st1, st2, sp1, sp2, ar1, ar2⟩
  subst hx he ht
  clear hl
  obtain ⟨o5, g5, nF5, r5, u5, l5, nr5, nl5⟩ := st1
  obtain ⟨o8, g8, nF8, r8, u8, l8, nr8, nl8⟩ := st2
  obtain ⟨rb, rd, rfl⟩ := sl_form r5
  obtain ⟨rb2, rd2, rfl⟩ := sl_form r8
  obtain ⟨v6, h6, e6, l6, k6, n6⟩ := log_run sT o5 (by omega)
  have g6 := k6.get g5 (fun x => x)
  have g86 := k6.get g8 (fun x => x)
  have es6 := same_run l6.sl (l5.keep k6 (fun _ _ x => x)) (by omega)
  have o86 := o8.keep k6 (fun _ _ x => x) (fun _ x => x.elim)
  have o56 := o5.keep k6 (fun _ _ x => x) (fun _ x => x.elim)
  obtain ⟨v7, h7, e7, l7, k7, n7⟩ := log_run sT o86 (by omega)
  have g7 := k7.get g6 (fun x => x)
  have g87 := k7.get g86 (fun x => x)
  have es7 := same_run l7.sl ((l8.keep k6 (fun _ _ x => x)).keep k7 (fun _ _ x => x)) (by omega)
  have o87 := o86.keep k7 (fun _ _ x => x) (fun _ x => x.elim)
  have o57 := o56.keep k7 (fun _ _ x => x) (fun _ x => x.elim)
  have el5 := left_run sT o57
  have el8 := left_run sT o87
  have n66 := k6.1
  have n77 := k7.1
  simp (maxSteps := 2000000) -implicitDefEqProofs [px_skip, px_label, px_region, px_draw, qx_seq, qx_cond, px_block, px_loop, px_scope, px_exit, px_ret, seqK_normal, seqK_exit, seqK_ret, condK_true, condK_false, opsK_some, wK_true, wK_false, itK_some, aops_nil, aops_cons, lK_some, aK_some, hK_some, dwK_true, dwK_false, diK_some, dK_light, dK_alloc, dK_heavy, adraw_nil, adraw_cons, aop, cls, light, lightS, binE, aeq, intBin, goInt, pl_int, pl_bool, pl_ptr, pl_slice, aload, isAggT, aeval, tput, awanted, List.range_succ, fin, aresults, aresult, List.replicate, heavy, acallOp, aenter, ble_d, beq_d, firstRegion, readNames, Nxt, isAnc, readsOk, objEq_some, pt6_33, pl6_33, an6_33, ibeq, sz34, Try.underlying34, Try.underlying29, Try.underlying32, en17, en18, en19, el5, el8, fa34_0, fa34_1, g5, g6, g7, g8, g86, g87, e6, e7, es6, es7, n66, n77]

theorem forks_calls (W : World) {a0 : Option Addr} {len0 cap0 : Nat} {l0 : List Int} (w0 : IntsAt W a0 len0 cap0 l0) (y0 : len0 * 8 ≤ 140737488351232) (c0 : len0 ≤ 1048576) {a1 : Option Addr} {len1 cap1 : Nat} {l1 : List Int} (w1 : IntsAt W a1 len1 cap1 l1) (y1 : len1 * 8 ≤ 140737488351232) (c1 : len1 ≤ 1048576)
    {a2 : Option Addr} {len2 cap2 : Nat} {l2 : List Int} (w2 : IntsAt W a2 len2 cap2 l2) (y2 : len2 * 8 ≤ 140737488351232) (c2 : len2 ≤ 1048576) :
    Calls Try.prog 6 #[.slice a0 len0 cap0, .slice a1 len1 cap1, .slice a2 len2 cap2] W fun e W' => e = .returned (.bool true) ∧ Below W.heap.size W W' := by
  obtain ⟨h, σ, v, hr, hro, _, _, hv, hs, hu, _⟩ := arg_ints (h := .empty) (σ := fun _ => ⟨0, 0, 0⟩) (Rep.none _ W (Nat.le_refl _) _) allRo_empty 3 w0
  obtain ⟨h', σ', v', hr', hro', hk, hσ, hv', hs', hu', _⟩ := arg_ints hr hro 3 w1
  obtain ⟨h'', σ'', v'', hr'', hro'', hk', hσ', hv'', hs'', hu'', _⟩ := arg_ints hr' hro' 3 w2
  have := w0.1
  have := w1.1
  have := w2.1
  obtain ⟨h2, e⟩ := forksLaw ((hs.keep hk (fun _ _ x => x)).keep hk' (fun _ _ x => x)) hu (hs'.keep hk' (fun _ _ x => x)) hs'' (by omega) (by omega) (by omega)
  exact law_calls mix hro'' e rfl hr'' (.cons ((hv.mono (fun n hn => Nat.lt_of_lt_of_le hn hk.1) (fun n hn => hσ n hn)).mono (fun n hn => Nat.lt_of_lt_of_le hn hk'.1) (fun n hn => hσ' n hn)) (.cons (hv'.mono (fun n hn => Nat.lt_of_lt_of_le hn hk'.1) (fun n hn => hσ' n hn)) (.cons hv'' .nil)))
end Go.Proofs.Ythkefkpmgleolaa.Or
