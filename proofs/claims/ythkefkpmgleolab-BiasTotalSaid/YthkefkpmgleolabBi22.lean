/- Rank, the second writing; the law BiasRanks. -/
import Derived.Test.YthkefkpmgleolabBi21
set_option linter.unusedVariables false
set_option linter.unusedSimpArgs false
namespace Go.Proofs.Ythkefkpmgleolab.Bi
open Go Go.Proofs Go.RowKit Go.Proofs.YthkefkpmgleolabAI Go.Proofs.YthkefkpmgleolabFl Go.Proofs.YthkefkpmgleolabSrt

theorem insG_len (ws : List Nat) (i : Int) (l : List Int) : (insG ws i false l).length = l.length + 1 := by rw [(insG_perm ws i l).length_eq]; rfl
/-- One more behind a row of one's own. -/
theorem push1 {h0 h : Heap} {v : Value} {l : List Int} (x : Int) (lg : Lg h v 3 1 l.length (ints l)) (kp : Keep No h0 h) (hf : ∀ m, nm v = some m → h0.next ≤ m) (hb : (l.length + 1) * 8 ≤ 2 ^ 47) :
    ∃ v' h', aappend Try.prog 28 28 v (.slice (some ⟨h.next, 0, none⟩) 1 1) (h.new (.cells [.int .i64 x] 3 1 false false)) = some (v', h') ∧ Lg h' v' 3 1 (l ++ [x]).length (ints (l ++ [x])) ∧ Keep No h0 h' ∧ ∀ m, nm v' = some m → h0.next ≤ m := by
  have hx : Sl (h.new (.cells [.int .i64 x] 3 1 false false)) (.slice (some ⟨h.next, 0, none⟩) 1 1) 1 1 [.int .i64 x] :=
    ⟨rfl, .inr ⟨_, _, rfl, fun _ => ⟨_, _, _, _, _, by rw [Heap.get_new, if_pos rfl], rfl⟩⟩⟩
  obtain ⟨v', h', e, lg', kp', nv', _, nf'⟩ := append_lg (t := 28) (xt := 28) Try.underlying28 Try.underlying28 rfl el3 (lg.keep (Keep.new No h _) (fun _ _ y => y)) hx (by omega) (by omega) rfl
  have e1 : ints (l ++ [x]) = ints l ++ [.int .i64 x] := by simp [ints]
  have h1 := kp.1
  refine ⟨v', h', e, by rw [e1, List.length_append]; exact lg', (kp.trans (Keep.new No h _)).also kp' fun m hm y => by have := hf m y; omega, fun m hm => ?_⟩
  rcases Nat.lt_or_ge m (h.next + 1) with y | y
  · exact hf m (nv' m hm (by rw [Heap.next_new]; omega))
  · omega
/-- The inner loop: what is done, what is still to come. -/
def RkI (h0 h : Heap) (ws : List Nat) (i : Int) (out : List Int) (k : Nat) (D : Bool) (v : Value) : Prop :=
  ∃ N, N ++ insG ws i D (out.drop k) = insG ws i false out ∧ Lg h v 3 1 N.length (ints N) ∧ Keep No h0 h ∧ ∀ m, nm v = some m → h0.next ≤ m
/-- The outer one. -/
def RkO (h0 h : Heap) (ws : List Nat) (i : Nat) (v : Value) : Prop := Lg h v 3 1 i (ints (rkTo ws i)) ∧ Keep No h0 h ∧ ∀ m, nm v = some m → h0.next ≤ m

set_option maxRecDepth 20000 in
set_option maxHeartbeats 3200000 in
theorem rrank_run {h : Heap} {v : Value} {ws : List Nat} (hv : Sl h v 1 ws.length (us ws)) (hw : W64 ws) (hk : ws.length * 8 ≤ 2 ^ 47) :
    ∃ v' h', run Try.prog sB 16 [v] h = some (v', h') ∧ Lg h' v' 3 1 ws.length (ints (rkTo ws ws.length)) ∧ Keep No h h' ∧ ∀ m, nm v' = some m → h.next ≤ m := by
  obtain ⟨a, c, rfl⟩ := sl_form hv
  suffices hx : ∃ y, fin Try.prog Try.f16 (aexecP Try.prog (sB 16) (run Try.prog sB) loopω pt16 (Try.f16.body.getD .skip) ([.slice a ws.length c] ++ List.replicate (Try.f16.ntmps - 1) undef) h) = some y ∧ RkO h y.2 ws ws.length y.1 by
    obtain ⟨⟨y1, y2⟩, hy, q1, q2, q3⟩ := hx
    exact ⟨y1, y2, run_finP pt16 Try.func16 rfl planned16 hy, q1, q2, q3⟩
  simp (maxSteps := 2000000) -implicitDefEqProofs [Try.f16, px_skip, px_label, px_region, px_draw, qx_seq, qx_cond, px_block, px_loop, px_scope, px_exit, px_ret, seqK_normal, seqK_exit, seqK_ret, condK_true, condK_false, opsK_some, wK_true, wK_false, itK_some, aops_nil, aops_cons, lK_some, aK_some, hK_some, dwK_true, dwK_false, diK_some, dK_light, dK_alloc, dK_heavy, adraw_nil, adraw_cons, aop, cls, light, lightS, binE, aeq, intBin, goInt, pl_int, pl_bool, pl_ptr, pl_slice, aload, isAggT, aeval, tput, awanted, List.range_succ, fin, aresults, aresult, List.replicate, heavy, acallOp, aenter, ble_d, beq_d, firstRegion, readNames, Nxt, isAnc, readsOk, objEq_some, sB16_3]
  generalize hl : loopω _ _ _ _ = rr
  obtain ⟨e, t', h', hx, he, v', x8, x9, x10, x11, ht, hI⟩ : ∃ e t' h', rr = some (e, t', h') ∧ e = .exit 0 ∧ ∃ v' x8 x9 x10 x11, t' = [.slice a ws.length c, unk, unk, v', .int .i64 ws.length, unk, unk, unk, x8, x9, x10, x11, unk, unk, unk, unk, unk, unk, unk, unk, unk, unk, unk, unk, unk, unk, unk, unk, unk, unk, unk, unk, unk, unk, unk, unk, unk, unk, unk, unk, unk, unk, unk, unk, unk, unk, unk, unk, unk, unk, unk, unk, unk, unk, unk, unk] ∧ RkO h h' ws ws.length v' := by
    rw [← hl]
    refine loop_by (fun k t h' => ∃ (i : Nat) (v' : Value), EqN (i + k) ws.length ∧ forget [1, 2, 5, 6, 7, 8, 9, 10, 11, 12, 13, 14, 15, 16, 17, 18, 19, 20, 21, 22, 23, 24, 25, 26, 27, 28, 29, 30, 31, 32, 33, 34, 35, 36, 37, 38, 39, 40, 41, 42, 43, 44, 45, 46, 47, 48, 49, 50, 51, 52, 53, 54, 55] t = [.slice a ws.length c, unk, unk, v', .int .i64 (i : Nat), unk, unk, unk, unk, unk, unk, unk, unk, unk, unk, unk, unk, unk, unk, unk, unk, unk, unk, unk, unk, unk, unk, unk, unk, unk, unk, unk, unk, unk, unk, unk, unk, unk, unk, unk, unk, unk, unk, unk, unk, unk, unk, unk, unk, unk, unk, unk, unk, unk, unk, unk] ∧ RkO h h' ws i v')
      (fun e t' h' => e = .exit 0 ∧ ∃ v' x8 x9 x10 x11, t' = [.slice a ws.length c, unk, unk, v', .int .i64 ws.length, unk, unk, unk, x8, x9, x10, x11, unk, unk, unk, unk, unk, unk, unk, unk, unk, unk, unk, unk, unk, unk, unk, unk, unk, unk, unk, unk, unk, unk, unk, unk, unk, unk, unk, unk, unk, unk, unk, unk, unk, unk, unk, unk, unk, unk, unk, unk, unk, unk, unk, unk] ∧ RkO h h' ws ws.length v') ?_ ws.length _ _ ⟨0, _, Nat.zero_add _, by kernel_rfl, Lg.nil _ _ _, Keep.refl _ _, fun m e => by cases e⟩
    clear hl
    rintro k t h' ⟨i, vO, hi', ht, lgO, kpO, nvO⟩
    have hi : i + k = ws.length := hi'
    rw [ht]
    rcases Nat.lt_or_ge i ws.length with h1 | h1
    · have hvO := hv.keep kpO fun _ _ x => x
      obtain ⟨a, c, C, ce, cs, gr, ro, eb, hg, hci⟩ := sl_u64 hvO h1
      simp only [Value.slice.injEq, true_and] at eb
      obtain ⟨rfl, rfl⟩ := eb
      have hol := rkTo_len ws i
      have hod := rkTo_dom ws i
      have hsucc : rkTo ws (i + 1) = insG ws (i : Nat) false (rkTo ws i) := rfl
      have hlsucc := rkTo_len ws (i + 1)
      obtain ⟨oa, oc, rfl⟩ := sl_form lgO.sl
      generalize hout : rkTo ws i = out at *
      simp (maxSteps := 2000000) -implicitDefEqProofs [px_skip, px_label, px_region, px_draw, qx_seq, qx_cond, px_block, px_loop, px_scope, px_exit, px_ret, seqK_normal, seqK_exit, seqK_ret, condK_true, condK_false, opsK_some, wK_true, wK_false, itK_some, aops_nil, aops_cons, lK_some, aK_some, hK_some, dwK_true, dwK_false, diK_some, dK_light, dK_alloc, dK_heavy, adraw_nil, adraw_cons, aop, cls, light, lightS, binE, aeq, intBin, goInt, pl_int, pl_bool, pl_ptr, pl_slice, aload, isAggT, aeval, tput, awanted, List.range_succ, fin, aresults, aresult, List.replicate, heavy, acallOp, aenter, ble_d, beq_d, firstRegion, readNames, Nxt, isAnc, readsOk, objEq_some, h1, Try.underlying22, sB16_8]
      generalize hl2 : loopω _ _ _ _ = r2
      obtain ⟨e, t2, h2, hx2, he2, D, vN, x14, x15, x16, x17, ht2, hR⟩ : ∃ e t' h2, r2 = some (e, t', h2) ∧ e = .exit 2 ∧ ∃ (D : Bool), ∃ (vN : Value), ∃ x14 x15 x16 x17, t' = [.slice (some a) ws.length c, unk, unk, .slice oa i oc, .int .i64 (i : Nat), vN, .bool D, .int .i64 (i : Nat), unk, unk, unk, unk, unk, unk, x14, x15, x16, x17, unk, unk, unk, unk, unk, unk, unk, unk, unk, unk, unk, unk, unk, unk, unk, unk, unk, unk, unk, unk, unk, unk, unk, unk, unk, unk, unk, unk, unk, unk, unk, unk, unk, unk, unk, unk, unk, unk] ∧ RkI h' h2 ws i out i D vN := by
        rw [← hl2]
        refine loop_by (fun k t h2 => ∃ (q : Nat) (D : Bool) (vN : Value), EqN (q + k) i ∧ forget [1, 2, 8, 9, 10, 11, 12, 13, 14, 15, 16, 17, 18, 19, 20, 21, 22, 23, 24, 25, 26, 27, 28, 29, 30, 31, 32, 33, 34, 35, 36, 37, 38, 39, 40, 41, 42, 43, 44, 45, 46, 47, 48, 49, 50, 51, 52, 53, 54, 55] t = [.slice (some a) ws.length c, unk, unk, .slice oa i oc, .int .i64 (i : Nat), vN, .bool D, .int .i64 (q : Nat), unk, unk, unk, unk, unk, unk, unk, unk, unk, unk, unk, unk, unk, unk, unk, unk, unk, unk, unk, unk, unk, unk, unk, unk, unk, unk, unk, unk, unk, unk, unk, unk, unk, unk, unk, unk, unk, unk, unk, unk, unk, unk, unk, unk, unk, unk, unk, unk] ∧ RkI h' h2 ws i out q D vN)
          (fun e t' h2 => e = .exit 2 ∧ ∃ (D : Bool), ∃ (vN : Value), ∃ x14 x15 x16 x17, t' = [.slice (some a) ws.length c, unk, unk, .slice oa i oc, .int .i64 (i : Nat), vN, .bool D, .int .i64 (i : Nat), unk, unk, unk, unk, unk, unk, x14, x15, x16, x17, unk, unk, unk, unk, unk, unk, unk, unk, unk, unk, unk, unk, unk, unk, unk, unk, unk, unk, unk, unk, unk, unk, unk, unk, unk, unk, unk, unk, unk, unk, unk, unk, unk, unk, unk, unk, unk, unk] ∧ RkI h' h2 ws i out i D vN) ?_ i _ _ ⟨0, false, _, Nat.zero_add _, by kernel_rfl, [], by simp, Lg.nil _ _ _, Keep.refl _ _, fun m e => by cases e⟩
        clear hl2
        rintro k2 t h2 ⟨q, D, vN, hq', ht, N, hN, lgN, kpN, nvN⟩
        have hq : q + k2 = i := hq'
        rw [ht]
        rcases Nat.lt_or_ge q i with h5 | h5
        · have hO2 := lgO.sl
          rw [← hol] at hO2
          obtain ⟨a2, c2, C2, ce2, cs2, gr2, ro2, eb2, hgO, hcj⟩ := sl_index hO2 (i := q) (by omega)
          have hg2 := kpN.get hgO (fun x => x)
          simp only [Value.slice.injEq, hol, true_and] at eb2
          obtain ⟨rfl, rfl⟩ := eb2
          have hdr : out.drop q = out.getD q 0 :: out.drop (q + 1) := by
            rw [List.drop_eq_getElem_cons (by omega)]; simp [List.getElem?_eq_getElem (show q < out.length by omega)]
          rw [hdr] at hN
          have hxq : 0 ≤ out.getD q 0 ∧ out.getD q 0 < i := by have := hod.g (i := q) (by omega); exact this
          obtain ⟨x, hx⟩ : ∃ x : Nat, out.getD q 0 = (x : Int) := ⟨(out.getD q 0).toNat, by omega⟩
          rw [hx] at hN hxq hcj
          have hlx : x < ws.length := by omega
          have hv2 := hvO.keep kpN fun _ _ x => x
          obtain ⟨a3, c3, C3, ce3, cs3, gr3, ro3, eb3, hg3, hcx⟩ := sl_u64 hv2 hlx
          simp only [Value.slice.injEq, true_and, Option.some.injEq] at eb3
          obtain ⟨rfl, rfl⟩ := eb3
          have hg2v := kpN.get hg (fun x => x)
          rw [hg2v] at hg3
          cases hg3
          have ec := rcmp_run sB (ws.getD i 0) (ws.getD x 0) (hw.get i) (hw.get x) h2
          have hins : insG ws (i : Nat) D ((x : Int) :: out.drop (q + 1)) = if D = false ∧ 0 < cmpK (ws.getD i 0) (ws.getD x 0) then (i : Int) :: (x : Int) :: insG ws (i : Nat) true (out.drop (q + 1)) else (x : Int) :: insG ws (i : Nat) D (out.drop (q + 1)) := rfl
          rw [hins] at hN
          have hNl : N.length + 1 ≤ i + 1 := by
            have := congrArg List.length hN
            rw [List.length_append, insG_len] at this
            split at this <;> simp only [List.length_cons] at this <;> omega
          have hinc := @inc64 q (by omega)
          have hcs := cast_succ q
          cases D with
          | true =>
            simp only [Bool.true_eq_false, false_and, if_false] at hN
            obtain ⟨v8, h8, e8, lg8, kp8, nv8⟩ := push1 (x : Int) lgN kpN nvN (by omega)
            have o5 : RkI h' h8 ws i out (q + 1) true v8 := ⟨N ++ [(x : Int)], by rw [List.append_assoc]; exact hN, lg8, kp8, nv8⟩
            generalize ws.getD i 0 = A at *
            generalize ws.getD x 0 = B at *
            simp (maxSteps := 2000000) -implicitDefEqProofs [px_skip, px_label, px_region, px_draw, qx_seq, qx_cond, px_block, px_loop, px_scope, px_exit, px_ret, seqK_normal, seqK_exit, seqK_ret, condK_true, condK_false, opsK_some, wK_true, wK_false, itK_some, aops_nil, aops_cons, lK_some, aK_some, hK_some, dwK_true, dwK_false, diK_some, dK_light, dK_alloc, dK_heavy, adraw_nil, adraw_cons, aop, cls, light, lightS, binE, aeq, intBin, goInt, pl_int, pl_bool, pl_ptr, pl_slice, aload, isAggT, aeval, tput, awanted, List.range_succ, fin, aresults, aresult, List.replicate, heavy, acallOp, aenter, ble_d, beq_d, firstRegion, readNames, Nxt, isAnc, readsOk, objEq_some, h5, pt16_10, pl16_10, an16_10, aindexAddr, sz3, sz32, Try.underlying28, Try.underlying22, hg2v, hci, hg2, hcj, hcx, h1, hlx, en29, (fun ρ y => bs28_1 ρ y (x : Nat)), e8, hinc]
            exact ⟨k2 - 1, by omega, q + 1, by unfold EqN; omega, .inr ⟨v8, by simp (maxSteps := 2000000) only [forget, List.set_cons_succ, List.set_cons_zero, hcs], o5⟩⟩
          | false =>
            simp only [true_and] at hN
            by_cases h7 : 0 < cmpK (ws.getD i 0) (ws.getD x 0)
            · rw [if_pos h7] at hN
              have hNl2 : N.length + 2 ≤ i + 1 := by
                have := congrArg List.length hN
                rw [List.length_append, insG_len] at this
                simp only [List.length_cons] at this; omega
              obtain ⟨v7, h7', e7, lg7, kp7, nv7⟩ := push1 (i : Int) lgN kpN nvN (by omega)
              obtain ⟨v8, h8, e8, lg8, kp8, nv8⟩ := push1 (x : Int) lg7 kp7 nv7 (by rw [List.length_append]; simp only [List.length_cons, List.length_nil]; omega)
              have hg27 := kp7.get hgO (fun x => x)
              have o5 : RkI h' h8 ws i out (q + 1) true v8 := ⟨N ++ [(i : Int)] ++ [(x : Int)], by rw [List.append_assoc, List.append_assoc]; exact hN, lg8, kp8, nv8⟩
              generalize ws.getD i 0 = A at *
              generalize ws.getD x 0 = B at *
              simp (maxSteps := 2000000) -implicitDefEqProofs [px_skip, px_label, px_region, px_draw, qx_seq, qx_cond, px_block, px_loop, px_scope, px_exit, px_ret, seqK_normal, seqK_exit, seqK_ret, condK_true, condK_false, opsK_some, wK_true, wK_false, itK_some, aops_nil, aops_cons, lK_some, aK_some, hK_some, dwK_true, dwK_false, diK_some, dK_light, dK_alloc, dK_heavy, adraw_nil, adraw_cons, aop, cls, light, lightS, binE, aeq, intBin, goInt, pl_int, pl_bool, pl_ptr, pl_slice, aload, isAggT, aeval, tput, awanted, List.range_succ, fin, aresults, aresult, List.replicate, heavy, acallOp, aenter, ble_d, beq_d, firstRegion, readNames, Nxt, isAnc, readsOk, objEq_some, h5, pt16_10, pl16_10, an16_10, aindexAddr, sz3, sz32, Try.underlying28, Try.underlying22, hg2v, hci, hg2, hg27, hcj, hcx, h1, hlx, en29, ec, h7, (fun ρ y => bs28_1 ρ y (i : Nat)), e7, (fun ρ y => bs28_1 ρ y (x : Nat)), e8, hinc]
              exact ⟨k2 - 1, by omega, q + 1, by unfold EqN; omega, .inr ⟨v8, by simp (maxSteps := 2000000) only [forget, List.set_cons_succ, List.set_cons_zero, hcs], o5⟩⟩
            · rw [if_neg h7] at hN
              obtain ⟨v8, h8, e8, lg8, kp8, nv8⟩ := push1 (x : Int) lgN kpN nvN (by omega)
              have o5 : RkI h' h8 ws i out (q + 1) false v8 := ⟨N ++ [(x : Int)], by rw [List.append_assoc]; exact hN, lg8, kp8, nv8⟩
              generalize ws.getD i 0 = A at *
              generalize ws.getD x 0 = B at *
              simp (maxSteps := 2000000) -implicitDefEqProofs [px_skip, px_label, px_region, px_draw, qx_seq, qx_cond, px_block, px_loop, px_scope, px_exit, px_ret, seqK_normal, seqK_exit, seqK_ret, condK_true, condK_false, opsK_some, wK_true, wK_false, itK_some, aops_nil, aops_cons, lK_some, aK_some, hK_some, dwK_true, dwK_false, diK_some, dK_light, dK_alloc, dK_heavy, adraw_nil, adraw_cons, aop, cls, light, lightS, binE, aeq, intBin, goInt, pl_int, pl_bool, pl_ptr, pl_slice, aload, isAggT, aeval, tput, awanted, List.range_succ, fin, aresults, aresult, List.replicate, heavy, acallOp, aenter, ble_d, beq_d, firstRegion, readNames, Nxt, isAnc, readsOk, objEq_some, h5, pt16_10, pl16_10, an16_10, aindexAddr, sz3, sz32, Try.underlying28, Try.underlying22, hg2v, hci, hg2, hcj, hcx, h1, hlx, en29, ec, h7, (fun ρ y => bs28_1 ρ y (x : Nat)), e8, hinc]
              exact ⟨k2 - 1, by omega, q + 1, by unfold EqN; omega, .inl ⟨v8, by simp (maxSteps := 2000000) only [forget, List.set_cons_succ, List.set_cons_zero, hcs], o5⟩⟩
        · obtain rfl : q = i := by omega
          simp (maxSteps := 2000000) -implicitDefEqProofs [px_skip, px_label, px_region, px_draw, qx_seq, qx_cond, px_block, px_loop, px_scope, px_exit, px_ret, seqK_normal, seqK_exit, seqK_ret, condK_true, condK_false, opsK_some, wK_true, wK_false, itK_some, aops_nil, aops_cons, lK_some, aK_some, hK_some, dwK_true, dwK_false, diK_some, dK_light, dK_alloc, dK_heavy, adraw_nil, adraw_cons, aop, cls, light, lightS, binE, aeq, intBin, goInt, pl_int, pl_bool, pl_ptr, pl_slice, aload, isAggT, aeval, tput, awanted, List.range_succ, fin, aresults, aresult, List.replicate, heavy, acallOp, aenter, ble_d, beq_d, firstRegion, readNames, Nxt, isAnc, readsOk, objEq_some, Try.underlying28]
          cases D with
          | false => exact .inl ⟨vN, ⟨rfl, rfl⟩, N, hN, lgN, kpN, nvN⟩
          | true => exact .inr ⟨vN, ⟨rfl, rfl⟩, N, hN, lgN, kpN, nvN⟩
      subst hx2 he2 ht2
      clear hl2
      obtain ⟨N, hN, lgN, kpN, nvN⟩ := hR
      rw [List.drop_eq_nil_of_le (by omega)] at hN
      have hinc := @inc64 i (by omega)
      have hcs := cast_succ i
      cases D with
      | true =>
        have hN' : N = rkTo ws (i + 1) := by rw [hsucc, ← hN]; simp [insG]
        have o5 : RkO h h2 ws (i + 1) vN := by
          refine ⟨by rw [← hN']; have := hlsucc; rw [← hN'] at this; rw [← this]; exact lgN, kpO.trans kpN, fun m e => by have := nvN m e; have := kpO.1; omega⟩
        simp (maxSteps := 2000000) -implicitDefEqProofs [px_skip, px_label, px_region, px_draw, qx_seq, qx_cond, px_block, px_loop, px_scope, px_exit, px_ret, seqK_normal, seqK_exit, seqK_ret, condK_true, condK_false, opsK_some, wK_true, wK_false, itK_some, aops_nil, aops_cons, lK_some, aK_some, hK_some, dwK_true, dwK_false, diK_some, dK_light, dK_alloc, dK_heavy, adraw_nil, adraw_cons, aop, cls, light, lightS, binE, aeq, intBin, goInt, pl_int, pl_bool, pl_ptr, pl_slice, aload, isAggT, aeval, tput, awanted, List.range_succ, fin, aresults, aresult, List.replicate, heavy, acallOp, aenter, ble_d, beq_d, firstRegion, readNames, Nxt, isAnc, readsOk, objEq_some, hinc]
        exact ⟨_, _, _, ⟨rfl, rfl, rfl⟩, k - 1, by omega, i + 1, by unfold EqN; omega, vN, by simp (maxSteps := 2000000) only [forget, List.set_cons_succ, List.set_cons_zero, hcs], o5⟩
      | false =>
        have hNl : N.length = i := by
          have := congrArg List.length hN
          rw [List.length_append] at this
          simp only [insG_len, List.length_nil] at this; omega
        obtain ⟨v8, h8, e8, lg8, kp8, nv8⟩ := push1 (i : Int) lgN kpN nvN (by rw [hNl]; omega)
        have hN' : N ++ [(i : Int)] = rkTo ws (i + 1) := by rw [hsucc, ← hN]; simp [insG]
        rw [hN', hlsucc] at lg8
        have o5 : RkO h h8 ws (i + 1) v8 := ⟨lg8, kpO.trans kp8, fun m e => by have := nv8 m e; have := kpO.1; omega⟩
        simp (maxSteps := 2000000) -implicitDefEqProofs [px_skip, px_label, px_region, px_draw, qx_seq, qx_cond, px_block, px_loop, px_scope, px_exit, px_ret, seqK_normal, seqK_exit, seqK_ret, condK_true, condK_false, opsK_some, wK_true, wK_false, itK_some, aops_nil, aops_cons, lK_some, aK_some, hK_some, dwK_true, dwK_false, diK_some, dK_light, dK_alloc, dK_heavy, adraw_nil, adraw_cons, aop, cls, light, lightS, binE, aeq, intBin, goInt, pl_int, pl_bool, pl_ptr, pl_slice, aload, isAggT, aeval, tput, awanted, List.range_succ, fin, aresults, aresult, List.replicate, heavy, acallOp, aenter, ble_d, beq_d, firstRegion, readNames, Nxt, isAnc, readsOk, objEq_some, (fun ρ y => bs28_1 ρ y (i : Nat)), e8, hinc]
        exact ⟨_, _, _, ⟨rfl, rfl, rfl⟩, k - 1, by omega, i + 1, by unfold EqN; omega, v8, by simp (maxSteps := 2000000) only [forget, List.set_cons_succ, List.set_cons_zero, hcs], o5⟩
    · obtain rfl : i = ws.length := by omega
      simp (maxSteps := 2000000) -implicitDefEqProofs [px_skip, px_label, px_region, px_draw, qx_seq, qx_cond, px_block, px_loop, px_scope, px_exit, px_ret, seqK_normal, seqK_exit, seqK_ret, condK_true, condK_false, opsK_some, wK_true, wK_false, itK_some, aops_nil, aops_cons, lK_some, aK_some, hK_some, dwK_true, dwK_false, diK_some, dK_light, dK_alloc, dK_heavy, adraw_nil, adraw_cons, aop, cls, light, lightS, binE, aeq, intBin, goInt, pl_int, pl_bool, pl_ptr, pl_slice, aload, isAggT, aeval, tput, awanted, List.range_succ, fin, aresults, aresult, List.replicate, heavy, acallOp, aenter, ble_d, beq_d, firstRegion, readNames, Nxt, isAnc, readsOk, objEq_some, Try.underlying22]
      exact ⟨lgO, kpO, nvO⟩
  subst hx he ht
  simp (maxSteps := 2000000) -implicitDefEqProofs [px_skip, px_label, px_region, px_draw, qx_seq, qx_cond, px_block, px_loop, px_scope, px_exit, px_ret, seqK_normal, seqK_exit, seqK_ret, condK_true, condK_false, opsK_some, wK_true, wK_false, itK_some, aops_nil, aops_cons, lK_some, aK_some, hK_some, dwK_true, dwK_false, diK_some, dK_light, dK_alloc, dK_heavy, adraw_nil, adraw_cons, aop, cls, light, lightS, binE, aeq, intBin, goInt, pl_int, pl_bool, pl_ptr, pl_slice, aload, isAggT, aeval, tput, awanted, List.range_succ, fin, aresults, aresult, List.replicate, heavy, acallOp, aenter, ble_d, beq_d, firstRegion, readNames, Nxt, isAnc, readsOk, objEq_some]
  exact ⟨_, _, ⟨rfl, rfl⟩, hI⟩

set_option maxRecDepth 20000 in
/-- The best, and all in their order. -/
theorem ranks {h : Heap} {v : Value} {ws : List Nat} (hv : Sl h v 1 ws.length (us ws)) (hw : W64 ws) (hk : ws.length * 8 ≤ 2 ^ 47) : ∃ h', run Try.prog sB 3 [v] h = some (.bool true, h') := by
  obtain ⟨hw0, w⟩ := wakesB
  obtain ⟨v1, h1, e1, l1, k1, n1⟩ := floats_run hv hw hk
  have eb := best_run l1.sl hw (by omega)
  have er := rbest_run (hv.keep k1 fun _ _ x => x) hw (by omega)
  have hv1 := hv.keep k1 fun _ _ x => x
  obtain ⟨v2, h2, e2, l2, k2, n2⟩ := floats_run hv1 hw hk
  obtain ⟨m, h3, l, e3, hll, hg3, k3, hm3, hR⟩ := rank_run l2.sl hw hk
  obtain ⟨v4, h4, e4, l4, k4, n4⟩ := rrank_run ((hv1.keep k2 fun _ _ x => x).keep k3 fun _ _ x => x) hw hk
  have heq := rank_uniq hR (rkTo_rank ws)
  rw [← heq] at l4
  have hg4 := k4.get hg3 (fun x => x)
  have s4 := l4.sl
  rw [← hll] at s4
  obtain ⟨a, c, rfl⟩ := sl_form hv
  obtain ⟨b, d, rfl⟩ := sl_form l4.sl
  suffices hx : ∃ y, fin Try.prog Try.f3 (aexecP Try.prog (sB 3) (run Try.prog sB) loopω pt3 (Try.f3.body.getD .skip) ([.slice a ws.length c] ++ List.replicate (Try.f3.ntmps - 1) undef) h) = some y ∧ y.1 = .bool true by
    obtain ⟨⟨y1, y2⟩, hy, rfl⟩ := hx
    exact ⟨y2, run_finP pt3 Try.func3 rfl planned3 hy⟩
  simp (maxSteps := 2000000) -implicitDefEqProofs [Try.f3, px_skip, px_label, px_region, px_draw, qx_seq, qx_cond, px_block, px_loop, px_scope, px_exit, px_ret, seqK_normal, seqK_exit, seqK_ret, condK_true, condK_false, opsK_some, wK_true, wK_false, itK_some, aops_nil, aops_cons, lK_some, aK_some, hK_some, dwK_true, dwK_false, diK_some, dK_light, dK_alloc, dK_heavy, adraw_nil, adraw_cons, aop, cls, light, lightS, binE, aeq, intBin, goInt, pl_int, pl_bool, pl_ptr, pl_slice, aload, isAggT, aeval, tput, awanted, List.range_succ, fin, aresults, aresult, List.replicate, heavy, acallOp, aenter, ble_d, beq_d, firstRegion, readNames, Nxt, isAnc, readsOk, objEq_some, ibne, w, en11, en12, en13, en14, en15, en16, e1, eb, er, e2, e3, e4, Try.underlying28, sB3]
  generalize hl : loopω _ _ _ _ = rr
  obtain ⟨e, t', h', hx, he, x, ht⟩ : ∃ e t' h', rr = some (e, t', h') ∧ e = .exit 0 ∧ ∃ x27, t' = [unk, unk, unk, V m ws.length, .slice b ws.length d, unk, unk, unk, unk, unk, unk, unk, unk, unk, unk, unk, unk, unk, unk, unk, unk, unk, unk, unk, unk, .int .i64 ws.length, .int .i64 ws.length, x27, unk, unk, unk, unk, unk, unk, unk, unk, unk, unk, unk] := by
    rw [← hl]
    refine loop_by (fun k t h' => ∃ i : Nat, i + k = ws.length ∧ forget [0, 1, 2, 5, 6, 7, 8, 9, 10, 11, 12, 13, 14, 15, 16, 17, 18, 19, 20, 21, 22, 23, 24, 27, 28, 29, 30, 31, 32, 33, 34, 35, 36, 37, 38] t = [unk, unk, unk, V m ws.length, .slice b ws.length d, unk, unk, unk, unk, unk, unk, unk, unk, unk, unk, unk, unk, unk, unk, unk, unk, unk, unk, unk, unk, .int .i64 ws.length, .int .i64 (i : Nat), unk, unk, unk, unk, unk, unk, unk, unk, unk, unk, unk, unk] ∧ h' = h4)
      (fun e t' h' => e = .exit 0 ∧ ∃ x27, t' = [unk, unk, unk, V m ws.length, .slice b ws.length d, unk, unk, unk, unk, unk, unk, unk, unk, unk, unk, unk, unk, unk, unk, unk, unk, unk, unk, unk, unk, .int .i64 ws.length, .int .i64 ws.length, x27, unk, unk, unk, unk, unk, unk, unk, unk, unk, unk, unk]) ?_ ws.length _ _ ⟨0, by omega, by kernel_rfl, rfl⟩
    clear hl
    rintro k t h' ⟨i, hi, ht, rfl⟩
    rw [ht]
    rcases Nat.lt_or_ge i ws.length with h5 | h5
    · obtain ⟨b, d, C, ce, cs, gr, ro, eb, hg, hci⟩ := sl_index s4 (i := i) (by omega)
      simp only [Value.slice.injEq, hll, true_and] at eb
      obtain ⟨rfl, rfl⟩ := eb
      have gx := ints_g (d := l) (i := i) (by omega)
      have hg0 : g l i = l.getD i 0 := rfl
      rw [hg0] at gx
      generalize l.getD i 0 = Z at *
      have hinc := @inc64 i (by omega)
      have hcs := cast_succ i
      simp (maxSteps := 2000000) -implicitDefEqProofs [px_skip, px_label, px_region, px_draw, qx_seq, qx_cond, px_block, px_loop, px_scope, px_exit, px_ret, seqK_normal, seqK_exit, seqK_ret, condK_true, condK_false, opsK_some, wK_true, wK_false, itK_some, aops_nil, aops_cons, lK_some, aK_some, hK_some, dwK_true, dwK_false, diK_some, dK_light, dK_alloc, dK_heavy, adraw_nil, adraw_cons, aop, cls, light, lightS, binE, aeq, intBin, goInt, pl_int, pl_bool, pl_ptr, pl_slice, aload, isAggT, aeval, tput, awanted, List.range_succ, fin, aresults, aresult, List.replicate, heavy, acallOp, aenter, ble_d, beq_d, firstRegion, readNames, Nxt, isAnc, readsOk, objEq_some, ibne, h5, pt3_11, pl3_11, an3_11, aindexAddr, sz3, Try.underlying28, hg4, hg, hci, gx, hinc]
      exact ⟨k - 1, by omega, i + 1, by omega, by simp (maxSteps := 2000000) only [forget, List.set_cons_succ, List.set_cons_zero, hcs]⟩
    · obtain rfl : i = ws.length := by omega
      simp (maxSteps := 2000000) -implicitDefEqProofs [px_skip, px_label, px_region, px_draw, qx_seq, qx_cond, px_block, px_loop, px_scope, px_exit, px_ret, seqK_normal, seqK_exit, seqK_ret, condK_true, condK_false, opsK_some, wK_true, wK_false, itK_some, aops_nil, aops_cons, lK_some, aK_some, hK_some, dwK_true, dwK_false, diK_some, dK_light, dK_alloc, dK_heavy, adraw_nil, adraw_cons, aop, cls, light, lightS, binE, aeq, intBin, goInt, pl_int, pl_bool, pl_ptr, pl_slice, aload, isAggT, aeval, tput, awanted, List.range_succ, fin, aresults, aresult, List.replicate, heavy, acallOp, aenter, ble_d, beq_d, firstRegion, readNames, Nxt, isAnc, readsOk, objEq_some]
  subst hx he ht
  simp (maxSteps := 2000000) -implicitDefEqProofs [px_skip, px_label, px_region, px_draw, qx_seq, qx_cond, px_block, px_loop, px_scope, px_exit, px_ret, seqK_normal, seqK_exit, seqK_ret, condK_true, condK_false, opsK_some, wK_true, wK_false, itK_some, aops_nil, aops_cons, lK_some, aK_some, hK_some, dwK_true, dwK_false, diK_some, dK_light, dK_alloc, dK_heavy, adraw_nil, adraw_cons, aop, cls, light, lightS, binE, aeq, intBin, goInt, pl_int, pl_bool, pl_ptr, pl_slice, aload, isAggT, aeval, tput, awanted, List.range_succ, fin, aresults, aresult, List.replicate, heavy, acallOp, aenter, ble_d, beq_d, firstRegion, readNames, Nxt, isAnc, readsOk, objEq_some]
theorem ranks_calls (W : World) {a0 : Option Addr} {len0 cap0 : Nat} {l0 : List Nat} (w0 : U64sAt W a0 len0 cap0 l0) (y0 : len0 * 8 ≤ 140737488351232) :
    Calls Try.prog 3 #[.slice a0 len0 cap0] W fun e W' => e = .returned (.bool true) ∧ Below W.heap.size W W' := by
  obtain ⟨h, σ, v, hr, hro, _, _, hv, hs, hu, _⟩ := arg_u64s (h := .empty) (σ := fun _ => ⟨0, 0, 0⟩) (Rep.none _ W (Nat.le_refl _) _) allRo_empty 32 w0
  have := u64s_len w0
  obtain ⟨h', e⟩ := ranks hs w0.1 (by omega)
  exact law_calls mix hro e rfl hr (.cons hv .nil)
end Go.Proofs.Ythkefkpmgleolab.Bi
