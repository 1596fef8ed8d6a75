/- A log's raw numbers: the program's. -/
import Derived.Test.YthkefkpmgleolaaOr11
set_option linter.unusedVariables false
set_option linter.unusedSimpArgs false
namespace Go.Proofs.Ythkefkpmgleolaa.Or
open Go Go.Proofs Go.RowKit Go.Proofs.YthkefkpmgleolaaAI

theorem sT21 (r : Nat) : sT 21 r = [1, 5, 6, 7, 8, 9, 13, 14, 15, 16, 17, 18, 19, 20, 21, 22, 23, 24, 25, 26, 27, 28, 29, 30, 31, 32, 33, 34, 35, 36, 37] := by rfl
theorem zr3 : (Try.prog.info? 3).bind (fun i => i.zero) = some (.int .i64 0) := by kernel_rfl
theorem ms29 (ρ : Operand → Value) (a b : Operand) (k : Nat) (ha : ρ a = .int .i64 0) (hb : ρ b = .int .i64 k) (hk : k * 8 ≤ 2 ^ 47) (d ty pos af gu) :
    aalloc Try.prog ρ ⟨d, .makeSlice 29 a b, ty, pos, af, gu⟩ = some (.cells (List.replicate k (.int .i64 0)) 3 1 false false, fun n => .slice (some ⟨n, 0, none⟩) 0 k) := by
  obtain ⟨i, z, hi, hz, hp, hzc, hz1, hsz, hby, h0⟩ := elTy el3
  have hzz := zr3
  rw [hi] at hzz
  simp only [Option.bind_some, hz, Option.some.injEq] at hzz
  subst hzz
  unfold aalloc
  simp only [ha, hb, Try.underlying29, hi, hz, hsz, hby]
  have : (bif plain (Value.int .i64 0) && Nat.beq (Value.int .i64 0).cells.size 1 && (Value.int .i64 0).cells.toList.all one && Nat.blt 0 1 then (1 : Nat) else 0) = 1 := by kernel_rfl
  simp [plain, plainN, one, Value.cells, beq_d, Nat.blt, ble_d]
  omega

theorem al49 (ρ : Operand → Value) (d ty pos af gu) : aalloc Try.prog ρ ⟨d, .alloc 49, ty, pos, af, gu⟩ = some (.cells [.int .i64 0, .int .i64 0] 49 2 false false, fun n => .pointer (some ⟨n, 0, none⟩)) := by kernel_rfl

theorem append_in {h : Heap} {m : Nat} {xs rest : List Value} {y x : Value} {gr : Bool} (hg : h.get m = some (.cells (xs ++ rest) 3 1 gr false)) (hx : Sl h x 1 1 [y]) (hy : one y = true) (hr : 0 < rest.length) (hb : (xs.length + 1) * 8 ≤ 2 ^ 47) :
    aappend Try.prog 29 29 (.slice (some ⟨m, 0, none⟩) xs.length (xs.length + rest.length)) x h = some (.slice (some ⟨m, 0, none⟩) (xs.length + 1) (xs.length + rest.length), h.put m (some (.cells (xs ++ y :: rest.tail) 3 1 gr false))) := by
  obtain ⟨i, z, hi, hz, hp, hzc, hz1, hsz, hby, h0⟩ := elTy el3
  have hxa := hx.acells (by omega)
  have hcond : (Nat.blt 0 1 && plain z && Nat.beq z.cells.size 1 && z.cells.toList.all one) = true := by rw [hp, hzc, hz1]; rfl
  have hbb : (Nat.ble ((xs.length + 1) * 8) (2 ^ 47) && Nat.ble (xs.length + 1) (2 ^ 47)) = true := by rw [ble_t hb, ble_t (by omega)]; rfl
  have hap : aappend Try.prog 29 29 (.slice (some ⟨m, 0, none⟩) xs.length (xs.length + rest.length)) x h = aappendE Try.prog 3 (.slice (some ⟨m, 0, none⟩) xs.length (xs.length + rest.length)) x h := by
    unfold aappend; rw [Try.underlying29]; rfl
  rw [hap]
  unfold aappendE
  rw [hi]
  simp only [hz, hsz, hby, hxa, hcond, cond_true, hbb, hg]
  have h1 : Nat.ble (xs.length + 1) (xs.length + rest.length) = true := ble_t (by omega)
  have h2 : Nat.ble (0 + (xs.length + 1) * 1) (xs ++ rest).length = true := ble_t (by rw [List.length_append]; omega)
  have h3 : [y].all one = true := by simp [hy]
  simp only [h1, h2, h3, cond_true, Bool.and_self, show Nat.beq 1 0 = false from rfl, cond_false]
  congr 4
  · rw [Nat.zero_add, Nat.mul_one, List.take_left', List.append_assoc]
    · congr 1
      rw [Nat.zero_add, Nat.mul_one, List.drop_append]
      cases rest with
      | nil => simp at hr
      | cons r rs => simp
    · rfl

set_option maxHeartbeats 1600000 in
theorem of_run {h : Heap} {v : Value} {l : List (Int × Int)} (hv : Sl h v 2 l.length (picks l)) (hlen : l.length * 8 ≤ 2 ^ 47) :
    ∃ v' h', run Try.prog sT 21 [v] h = some (.tuple #[v', .int .i64 (if goodB l then 0 else 2)], h') ∧ Keep No h h' ∧ (goodB l = true → Sl h' v' 1 l.length (ints (tooks l))) ∧ (goodB l = false → v' = .slice none 0 0) := by
  obtain ⟨a, c, rfl⟩ : ∃ a c, v = .slice a l.length c := by
    rcases sl_cut hv with ⟨rfl, h0⟩ | ⟨a, c, rfl⟩
    · exact ⟨none, 0, by rw [h0]⟩
    · exact ⟨_, _, rfl⟩
  suffices hx : ∃ y, fin Try.prog Try.f21 (aexecP Try.prog (sT 21) (run Try.prog sT) loopω (fun _ => ([], [])) (Try.f21.body.getD .skip) ([.slice a l.length c] ++ List.replicate (Try.f21.ntmps - 1) undef) h) = some y ∧ ∃ v', y.1 = .tuple #[v', .int .i64 (if goodB l then 0 else 2)] ∧ Keep No h y.2 ∧ (goodB l = true → Sl y.2 v' 1 l.length (ints (tooks l))) ∧ (goodB l = false → v' = .slice none 0 0) by
    obtain ⟨⟨y1, y2⟩, hy, v', rfl, q⟩ := hx
    exact ⟨v', y2, run_finP _ Try.func21 rfl (by kernel_rfl) hy, q⟩
  simp (maxSteps := 2000000) -implicitDefEqProofs [Try.f21, px_skip, px_label, px_region, px_draw, qx_seq, qx_cond, px_block, px_loop, px_scope, px_exit, px_ret, seqK_normal, seqK_exit, seqK_ret, condK_true, condK_false, opsK_some, wK_true, wK_false, itK_some, aops_nil, aops_cons, lK_some, aK_some, hK_some, dwK_true, dwK_false, diK_some, dK_light, dK_alloc, dK_heavy, adraw_nil, adraw_cons, aop, cls, light, lightS, binE, aeq, intBin, goInt, pl_int, pl_bool, pl_ptr, pl_slice, aload, isAggT, aeval, tput, awanted, List.range_succ, fin, aresults, aresult, List.replicate, heavy, acallOp, aenter, ble_d, beq_d, firstRegion, readNames, Nxt, isAnc, readsOk, objEq_some, sT21, Try.underlying32, (fun ρ a b => ms29 ρ a b l.length), hlen]
  generalize hl : loopω _ _ _ _ = r
  obtain ⟨e, t', h', hx, hK, hR⟩ : ∃ e t' h', r = some (e, t', h') ∧ Keep No h h' ∧ ((e = .exit 0 ∧ goodB l = true ∧ Sl h' (.slice (some ⟨h.next, 0, none⟩) l.length l.length) 1 l.length (ints (tooks l)) ∧ ∃ x13, t' = [.slice a l.length c, unk, .slice none 0 0, .int .i64 0, .slice (some ⟨h.next, 0, none⟩) l.length l.length, unk, unk, unk, unk, unk, .slice a l.length c, .int .i64 l.length, .int .i64 l.length, x13, unk, unk, unk, unk, unk, unk, unk, unk, unk, unk, unk, unk, unk, unk, unk, unk, unk, unk, unk, unk, unk, unk, unk, unk]) ∨ (e = .ret ∧ goodB l = false ∧ t'[2]?.getD undef = .slice none 0 0 ∧ t'[3]?.getD undef = .int .i64 2)) := by
    rw [← hl]
    refine loop_by (fun k t h' => ∃ i, i + k = l.length ∧ forget [1, 5, 6, 7, 8, 9, 13, 14, 15, 16, 17, 18, 19, 20, 21, 22, 23, 24, 25, 26, 27, 28, 29, 30, 31, 32, 33, 34, 35, 36, 37] t = [.slice a l.length c, unk, .slice none 0 0, .int .i64 0, .slice (some ⟨h.next, 0, none⟩) i l.length, unk, unk, unk, unk, unk, .slice a l.length c, .int .i64 l.length, .int .i64 i, unk, unk, unk, unk, unk, unk, unk, unk, unk, unk, unk, unk, unk, unk, unk, unk, unk, unk, unk, unk, unk, unk, unk, unk, unk] ∧ Keep No h h' ∧ h'.get h.next = some (.cells (ints ((tooks l).take i) ++ List.replicate (l.length - i) (.int .i64 0)) 3 1 false false) ∧ ∀ j, j < i → bad (l.getD j (0, 0)) = false)
      (fun e t' h' => Keep No h h' ∧ ((e = .exit 0 ∧ goodB l = true ∧ Sl h' (.slice (some ⟨h.next, 0, none⟩) l.length l.length) 1 l.length (ints (tooks l)) ∧ ∃ x13, t' = [.slice a l.length c, unk, .slice none 0 0, .int .i64 0, .slice (some ⟨h.next, 0, none⟩) l.length l.length, unk, unk, unk, unk, unk, .slice a l.length c, .int .i64 l.length, .int .i64 l.length, x13, unk, unk, unk, unk, unk, unk, unk, unk, unk, unk, unk, unk, unk, unk, unk, unk, unk, unk, unk, unk, unk, unk, unk, unk]) ∨ (e = .ret ∧ goodB l = false ∧ t'[2]?.getD undef = .slice none 0 0 ∧ t'[3]?.getD undef = .int .i64 2))) ?_ l.length _ _ ⟨0, by omega, by kernel_rfl, Keep.new _ _ _, by rw [Heap.get_new, if_pos rfl]; simp [ints], fun j hj => by omega⟩
    rintro k t h' ⟨i, hi, ht, hK, hm, hg⟩
    rw [ht]
    rcases Nat.lt_or_ge i l.length with h1 | h1
    · obtain ⟨a, c, C, e, s, gr, ro, ea, hgt, hf, hd, p1, p2⟩ := sl_pick (hv.keep hK (fun _ _ x => x)) h1
      simp only [Value.slice.injEq, true_and] at ea
      obtain ⟨rfl, rfl⟩ := ea
      have hw : IntKind.i64.wrap ((i : Int) + 1) = ((i + 1 : Nat) : Int) := by rw [IntWalk.i64_in _ (by omega)]; omega
      have hii : ((i + 1 : Nat) : Int) = (i : Int) + 1 := by omega
      have hbad := @goodB_false l i h1
      have htk := take_tooks l h1
      have hnext : bad (l.getD i (0, 0)) = false → ∀ j, j < i + 1 → bad (l.getD j (0, 0)) = false := fun hb j hj => by
        rcases Nat.lt_or_ge j i with h2 | h2
        · exact hg j h2
        · have : j = i := by omega
          subst this; exact hb
      generalize hq : l.getD i (0, 0) = q at *
      obtain ⟨q1, q2⟩ := q
      simp only at p1 p2 hd htk
      have gz : (h'.new (.cells [.int .i64 0, .int .i64 0] 49 2 false false)).get h'.next = some (.cells [.int .i64 0, .int .i64 0] 49 2 false false) := by rw [Heap.get_new, if_pos rfl]
      obtain ⟨h3, h3e⟩ : ∃ x, x = (h'.new (.cells [.int .i64 0, .int .i64 0] 49 2 false false)).put h'.next (some (.cells [.int .i64 q1, .int .i64 q2] 49 2 false false)) := ⟨_, rfl⟩
      have k3 : Keep No h' h3 := h3e ▸ (Keep.new No h' _).also (Keep.put (S := fun m => m = h'.next) (Heap.get_lt gz) rfl _) fun m hm e => by omega
      have g3 : h3.get h'.next = some (.cells [.int .i64 q1, .int .i64 q2] 49 2 false false) := by rw [h3e, Heap.get_put (Heap.get_lt gz), if_pos rfl]
      have okQ : okCells (.agg #[.int .i64 q1, .int .i64 q2]) = some [.int .i64 q1, .int .i64 q2] := rfl
      have hK3 := hK.trans k3
      by_cases c1 : q1 < 2
      · have hb := hbad (by simp [bad, c1])
        simp (maxSteps := 2000000) -implicitDefEqProofs [px_skip, px_label, px_region, px_draw, qx_seq, qx_cond, px_block, px_loop, px_scope, px_exit, px_ret, seqK_normal, seqK_exit, seqK_ret, condK_true, condK_false, opsK_some, wK_true, wK_false, itK_some, aops_nil, aops_cons, lK_some, aK_some, hK_some, dwK_true, dwK_false, diK_some, dK_light, dK_alloc, dK_heavy, adraw_nil, adraw_cons, aop, cls, light, lightS, binE, aeq, intBin, goInt, pl_int, pl_bool, pl_ptr, pl_slice, aload, isAggT, aeval, tput, awanted, List.range_succ, fin, aresults, aresult, List.replicate, heavy, acallOp, aenter, ble_d, beq_d, firstRegion, readNames, Nxt, isAnc, readsOk, objEq_some, Try.underlying32, Try.underlying3, Try.underlying49, h1, aindexAddr, sz49, hgt, hf, hd, al49, gz, okQ, astore, ← h3e, g3, fa49_0, fa49_1, c1, hb, hK3]
      by_cases c2 : q2 < 0
      · have hb := hbad (by simp [bad, c2])
        simp (maxSteps := 2000000) -implicitDefEqProofs [px_skip, px_label, px_region, px_draw, qx_seq, qx_cond, px_block, px_loop, px_scope, px_exit, px_ret, seqK_normal, seqK_exit, seqK_ret, condK_true, condK_false, opsK_some, wK_true, wK_false, itK_some, aops_nil, aops_cons, lK_some, aK_some, hK_some, dwK_true, dwK_false, diK_some, dK_light, dK_alloc, dK_heavy, adraw_nil, adraw_cons, aop, cls, light, lightS, binE, aeq, intBin, goInt, pl_int, pl_bool, pl_ptr, pl_slice, aload, isAggT, aeval, tput, awanted, List.range_succ, fin, aresults, aresult, List.replicate, heavy, acallOp, aenter, ble_d, beq_d, firstRegion, readNames, Nxt, isAnc, readsOk, objEq_some, Try.underlying32, Try.underlying3, Try.underlying49, h1, aindexAddr, sz49, hgt, hf, hd, al49, gz, okQ, astore, ← h3e, g3, fa49_0, fa49_1, c1, c2, hb, hK3]
      by_cases c3 : q2 ≥ q1
      · have hb := hbad (by simp [bad, c3])
        have c3' : q1 ≤ q2 := c3
        simp (maxSteps := 2000000) -implicitDefEqProofs [px_skip, px_label, px_region, px_draw, qx_seq, qx_cond, px_block, px_loop, px_scope, px_exit, px_ret, seqK_normal, seqK_exit, seqK_ret, condK_true, condK_false, opsK_some, wK_true, wK_false, itK_some, aops_nil, aops_cons, lK_some, aK_some, hK_some, dwK_true, dwK_false, diK_some, dK_light, dK_alloc, dK_heavy, adraw_nil, adraw_cons, aop, cls, light, lightS, binE, aeq, intBin, goInt, pl_int, pl_bool, pl_ptr, pl_slice, aload, isAggT, aeval, tput, awanted, List.range_succ, fin, aresults, aresult, List.replicate, heavy, acallOp, aenter, ble_d, beq_d, firstRegion, readNames, Nxt, isAnc, readsOk, objEq_some, Try.underlying32, Try.underlying3, Try.underlying49, h1, aindexAddr, sz49, hgt, hf, hd, al49, gz, okQ, astore, ← h3e, g3, fa49_0, fa49_1, c1, c2, c3', hb, hK3]
      · have hb := hnext (by simp [bad, c1, c2]; omega)
        have c3' : ¬ q1 ≤ q2 := c3
        have hm4 := (k3.trans (Keep.new No h3 (.cells [.int .i64 q2] 3 1 false false))).get hm (fun x => x)
        have hx1 : Sl (h3.new (.cells [.int .i64 q2] 3 1 false false)) (.slice (some ⟨h3.next, 0, none⟩) 1 1) 1 1 [.int .i64 q2] := ⟨rfl, .inr ⟨_, _, rfl, fun _ => ⟨_, _, _, _, _, by rw [Heap.get_new, if_pos rfl], rfl⟩⟩⟩
        have hxl : (ints ((tooks l).take i)).length = i := by simp [ints, tooks]; omega
        have e2 := append_in hm4 hx1 rfl (by simp; omega) (by rw [hxl]; omega)
        rw [hxl, List.length_replicate, show i + (l.length - i) = l.length by omega] at e2
        obtain ⟨h5, h5e⟩ : ∃ x, x = (h3.new (.cells [.int .i64 q2] 3 1 false false)).put h.next (some (.cells (ints ((tooks l).take i) ++ .int .i64 q2 :: (List.replicate (l.length - i) (Value.int .i64 0)).tail) 3 1 false false)) := ⟨_, rfl⟩
        rw [← h5e] at e2
        have k5 : Keep No h h5 := h5e ▸ (hK3.trans (Keep.new No h3 _)).also (Keep.put (S := fun m => m = h.next) (Heap.get_lt hm4) rfl _) fun m hm e => by omega
        have g5 : h5.get h.next = some (.cells (ints ((tooks l).take (i + 1)) ++ List.replicate (l.length - (i + 1)) (.int .i64 0)) 3 1 false false) := by
          rw [h5e, Heap.get_put (Heap.get_lt hm4), if_pos rfl, htk]
          simp [ints, List.tail_replicate, Nat.sub_sub]
        simp (maxSteps := 2000000) -implicitDefEqProofs [px_skip, px_label, px_region, px_draw, qx_seq, qx_cond, px_block, px_loop, px_scope, px_exit, px_ret, seqK_normal, seqK_exit, seqK_ret, condK_true, condK_false, opsK_some, wK_true, wK_false, itK_some, aops_nil, aops_cons, lK_some, aK_some, hK_some, dwK_true, dwK_false, diK_some, dK_light, dK_alloc, dK_heavy, adraw_nil, adraw_cons, aop, cls, light, lightS, binE, aeq, intBin, goInt, pl_int, pl_bool, pl_ptr, pl_slice, aload, isAggT, aeval, tput, awanted, List.range_succ, fin, aresults, aresult, List.replicate, heavy, acallOp, aenter, ble_d, beq_d, firstRegion, readNames, Nxt, isAnc, readsOk, objEq_some, Try.underlying32, Try.underlying3, Try.underlying49, Try.underlying29, h1, aindexAddr, sz49, hgt, hf, hd, al49, gz, okQ, astore, ← h3e, g3, fa49_0, fa49_1, c1, c2, c3', (fun ρ x => bs29_1 ρ x q2), e2, hw]
        exact ⟨k - 1, by omega, i + 1, by omega, by simp only [forget, List.set_cons_succ, List.set_cons_zero, hii], k5, g5, hb⟩
    · have hi' : i = l.length := by omega
      subst hi'
      have hall : goodB l = true := by
        unfold goodB
        rw [List.all_eq_true]
        intro p hp
        obtain ⟨j, hj, rfl⟩ := List.mem_iff_getElem.1 hp
        have := hg j hj
        rw [List.getD_eq_getElem?_getD, List.getElem?_eq_getElem hj] at this
        simp only [Option.getD_some] at this
        simp [this]
      have hsl : Sl h' (.slice (some ⟨h.next, 0, none⟩) l.length l.length) 1 l.length (ints (tooks l)) := by
        have htk : (tooks l).take l.length = tooks l := List.take_of_length_le (by simp [tooks])
        rw [htk, Nat.sub_self, List.replicate_zero, List.append_nil] at hm
        exact ⟨by simp [ints, tooks], .inr ⟨_, _, rfl, fun _ => ⟨_, _, _, _, _, hm, by rw [List.drop_zero, List.take_of_length_le (by simp [ints, tooks])]⟩⟩⟩
      simp (maxSteps := 2000000) -implicitDefEqProofs [px_skip, px_label, px_region, px_draw, qx_seq, qx_cond, px_block, px_loop, px_scope, px_exit, px_ret, seqK_normal, seqK_exit, seqK_ret, condK_true, condK_false, opsK_some, wK_true, wK_false, itK_some, aops_nil, aops_cons, lK_some, aK_some, hK_some, dwK_true, dwK_false, diK_some, dK_light, dK_alloc, dK_heavy, adraw_nil, adraw_cons, aop, cls, light, lightS, binE, aeq, intBin, goInt, pl_int, pl_bool, pl_ptr, pl_slice, aload, isAggT, aeval, tput, awanted, List.range_succ, fin, aresults, aresult, List.replicate, heavy, acallOp, aenter, ble_d, beq_d, firstRegion, readNames, Nxt, isAnc, readsOk, objEq_some, hall, hK, hsl]
  subst hx
  rcases hR with ⟨rfl, hB, hsl, x13, rfl⟩ | ⟨rfl, hB, t2, t3⟩
  · simp (maxSteps := 2000000) -implicitDefEqProofs [px_skip, px_label, px_region, px_draw, qx_seq, qx_cond, px_block, px_loop, px_scope, px_exit, px_ret, seqK_normal, seqK_exit, seqK_ret, condK_true, condK_false, opsK_some, wK_true, wK_false, itK_some, aops_nil, aops_cons, lK_some, aK_some, hK_some, dwK_true, dwK_false, diK_some, dK_light, dK_alloc, dK_heavy, adraw_nil, adraw_cons, aop, cls, light, lightS, binE, aeq, intBin, goInt, pl_int, pl_bool, pl_ptr, pl_slice, aload, isAggT, aeval, tput, awanted, List.range_succ, fin, aresults, aresult, List.replicate, heavy, acallOp, aenter, ble_d, beq_d, firstRegion, readNames, Nxt, isAnc, readsOk, objEq_some, hB]
    exact ⟨_, _, ⟨rfl, rfl⟩, _, rfl, hK, hsl⟩
  · simp (maxSteps := 2000000) -implicitDefEqProofs [px_skip, px_label, px_region, px_draw, qx_seq, qx_cond, px_block, px_loop, px_scope, px_exit, px_ret, seqK_normal, seqK_exit, seqK_ret, condK_true, condK_false, opsK_some, wK_true, wK_false, itK_some, aops_nil, aops_cons, lK_some, aK_some, hK_some, dwK_true, dwK_false, diK_some, dK_light, dK_alloc, dK_heavy, adraw_nil, adraw_cons, aop, cls, light, lightS, binE, aeq, intBin, goInt, pl_int, pl_bool, pl_ptr, pl_slice, aload, isAggT, aeval, tput, awanted, List.range_succ, fin, aresults, aresult, List.replicate, heavy, acallOp, aenter, ble_d, beq_d, firstRegion, readNames, Nxt, isAnc, readsOk, objEq_some, hB, t2, t3]
    exact ⟨_, _, ⟨rfl, rfl⟩, rfl, hK⟩
end Go.Proofs.Ythkefkpmgleolaa.Or
