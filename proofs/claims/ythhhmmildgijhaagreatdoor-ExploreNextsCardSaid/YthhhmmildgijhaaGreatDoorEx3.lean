/- The comparison of two rows of ints. -/
import Derived.Test.YthhhmmildgijhaaGreatDoorEx1
set_option linter.unusedVariables false
set_option linter.unusedSimpArgs false
namespace Go.Proofs.YthhhmmildgijhaaGreatDoor.Ex
open Go Go.Proofs Go.RowKit Go.Proofs.YthhhmmildgijhaaGreatDoorSI

theorem bs24_1' (a) (d ty pos af gu) : aalloc Tryz.prog (fun _ => .int .i64 a) ⟨d, .buildSlice 24 1 #[(0, .tmp 0)], ty, pos, af, gu⟩ = some (.cells [.int .i64 a] 3 1 false false, fun n => .slice (some ⟨n, 0, none⟩) 1 1) := by kernel_rfl
theorem bs24_1 (ρ : Operand → Value) (x a) (hx : ρ x = .int .i64 a) (d ty pos af gu) : aalloc Tryz.prog ρ ⟨d, .buildSlice 24 1 #[(0, x)], ty, pos, af, gu⟩ = some (.cells [.int .i64 a] 3 1 false false, fun n => .slice (some ⟨n, 0, none⟩) 1 1) := by
  have h1 : aalloc Tryz.prog ρ ⟨d, .buildSlice 24 1 #[(0, x)], ty, pos, af, gu⟩ = aalloc Tryz.prog (fun _ => ρ x) ⟨d, .buildSlice 24 1 #[(0, .tmp 0)], ty, pos, af, gu⟩ := by simp [aalloc]
  rw [h1, hx]; exact bs24_1' _ _ _ _ _ _

def tooks (l : List (Int × Int)) : List Int := l.map (·.2)
theorem take_tooks (l : List (Int × Int)) {i : Nat} (hi : i < l.length) : (tooks l).take (i + 1) = (tooks l).take i ++ [(l.getD i (0, 0)).2] := by
  have h1 : i < (tooks l).length := by simpa [tooks] using hi
  rw [List.take_add_one, List.getElem?_eq_getElem h1]
  simp [tooks, List.getD_eq_getElem?_getD, List.getElem?_eq_getElem hi]

theorem sT24 (r : Nat) : sT 24 r = [1, 5, 6, 7, 8, 9, 13, 14, 15, 16, 17, 18, 19, 20, 21, 22, 23, 24, 25, 26, 27, 28, 29, 30, 31, 32, 33, 34, 35, 36, 37] := by rfl
theorem zr3 : (Tryz.prog.info? 3).bind (fun i => i.zero) = some (.int .i64 0) := by kernel_rfl
theorem ms24 (ρ : Operand → Value) (a b : Operand) (k : Nat) (ha : ρ a = .int .i64 0) (hb : ρ b = .int .i64 k) (hk : k * 8 ≤ 2 ^ 47) (d ty pos af gu) :
    aalloc Tryz.prog ρ ⟨d, .makeSlice 24 a b, ty, pos, af, gu⟩ = some (.cells (List.replicate k (.int .i64 0)) 3 1 false false, fun n => .slice (some ⟨n, 0, none⟩) 0 k) := by
  obtain ⟨i, z, hi, hz, hp, hzc, hz1, hsz, hby, h0⟩ := elTy el3
  have hzz := zr3
  rw [hi] at hzz
  simp only [Option.bind_some, hz, Option.some.injEq] at hzz
  subst hzz
  unfold aalloc
  simp only [ha, hb, Tryz.underlying24, hi, hz, hsz, hby]
  have : (bif plain (Value.int .i64 0) && Nat.beq (Value.int .i64 0).cells.size 1 && (Value.int .i64 0).cells.toList.all one && Nat.blt 0 1 then (1 : Nat) else 0) = 1 := by kernel_rfl
  simp [plain, plainN, one, Value.cells, beq_d, Nat.blt, ble_d]
  omega

theorem al53 (ρ : Operand → Value) (d ty pos af gu) : aalloc Tryz.prog ρ ⟨d, .alloc 53, ty, pos, af, gu⟩ = some (.cells [.int .i64 0, .int .i64 0] 53 2 false false, fun n => .pointer (some ⟨n, 0, none⟩)) := by kernel_rfl

theorem list_in (xs rest : List Value) (y : Value) (hr : 0 < rest.length) : (xs ++ rest).take (0 + xs.length * 1) ++ [y] ++ (xs ++ rest).drop (0 + (xs.length + 1) * 1) = xs ++ y :: rest.tail := by
  rw [Nat.zero_add, Nat.mul_one, Nat.zero_add, Nat.mul_one, List.take_left', List.append_assoc]
  · congr 1
    rw [List.drop_append]
    cases rest with
    | nil => simp at hr
    | cons r rs => simp
  · rfl
theorem append_in {h : Heap} {m : Nat} {xs rest : List Value} {y x : Value} {gr : Bool} (hg : h.get m = some (.cells (xs ++ rest) 3 1 gr false)) (hx : Sl h x 1 1 [y]) (hy : one y = true) (hr : 0 < rest.length) (hb : (xs.length + 1) * 8 ≤ 2 ^ 47) :
    aappend Tryz.prog 24 24 (.slice (some ⟨m, 0, none⟩) xs.length (xs.length + rest.length)) x h = some (.slice (some ⟨m, 0, none⟩) (xs.length + 1) (xs.length + rest.length), h.put m (some (.cells (xs ++ y :: rest.tail) 3 1 gr false))) := by
  obtain ⟨i, z, hi, hz, hp, hzc, hz1, hsz, hby, h0⟩ := elTy el3
  have hxa := hx.acells (by omega)
  have hcond : (Nat.blt 0 1 && plain z && Nat.beq z.cells.size 1 && z.cells.toList.all one) = true := by rw [hp, hzc, hz1]; rfl
  have hbb : (Nat.ble ((xs.length + 1) * 8) (2 ^ 47) && Nat.ble (xs.length + 1) (2 ^ 47)) = true := by rw [ble_t hb, ble_t (by omega)]; rfl
  have hap : aappend Tryz.prog 24 24 (.slice (some ⟨m, 0, none⟩) xs.length (xs.length + rest.length)) x h = aappendE Tryz.prog 3 (.slice (some ⟨m, 0, none⟩) xs.length (xs.length + rest.length)) x h := by
    unfold aappend; simp only [Tryz.underlying24, appends, cond_true]
  rw [hap]
  unfold aappendE
  rw [hi]
  simp only [hz, hsz, hby, hxa, hcond, cond_true, hbb, hg]
  have h1 : Nat.ble (xs.length + 1) (xs.length + rest.length) = true := ble_t (by omega)
  have h2 : Nat.ble (0 + (xs.length + 1) * 1) (xs ++ rest).length = true := ble_t (by rw [List.length_append]; omega)
  have h3 : [y].all one = true := by simp [hy]
  simp only [h1, h2, h3, cond_true, Bool.and_self, show Nat.beq 1 0 = false from rfl, cond_false]
  exact congrArg some (Prod.ext rfl (congrArg (fun c => h.put m (some (.cells c 3 1 gr false))) (list_in xs rest y hr)))

set_option maxHeartbeats 1600000 in
theorem of_run {h : Heap} {v : Value} {l : List (Int × Int)} (hv : Sl h v 2 l.length (picks l)) (hlen : l.length * 8 ≤ 2 ^ 47) :
    ∃ v' h', run Tryz.prog sT 24 [v] h = some (.tuple #[v', .int .i64 (if goodB l then 0 else 2)], h') ∧ Keep No h h' ∧ (goodB l = true → v' = .slice (some ⟨h.next, 0, none⟩) l.length l.length ∧ h'.get h.next = some (.cells (ints (tooks l)) 3 1 false false)) ∧ (goodB l = false → v' = .slice none 0 0) := by
  obtain ⟨a, c, rfl⟩ : ∃ a c, v = .slice a l.length c := by
    rcases sl_cut hv with ⟨rfl, h0⟩ | ⟨a, c, rfl⟩
    · exact ⟨none, 0, by rw [h0]⟩
    · exact ⟨_, _, rfl⟩
  suffices hx : ∃ y, fin Tryz.prog Tryz.f24 (aexecP Tryz.prog (sT 24) (run Tryz.prog sT) loopω (fun _ => ([], [])) (Tryz.f24.body.getD .skip) ([.slice a l.length c] ++ List.replicate (Tryz.f24.ntmps - 1) undef) h) = some y ∧ ∃ v', y.1 = .tuple #[v', .int .i64 (if goodB l then 0 else 2)] ∧ Keep No h y.2 ∧ (goodB l = true → v' = .slice (some ⟨h.next, 0, none⟩) l.length l.length ∧ y.2.get h.next = some (.cells (ints (tooks l)) 3 1 false false)) ∧ (goodB l = false → v' = .slice none 0 0) by
    obtain ⟨⟨y1, y2⟩, hy, v', rfl, q⟩ := hx
    exact ⟨v', y2, run_finP _ Tryz.func24 rfl (by kernel_rfl) hy, q⟩
  simp (maxSteps := 2000000) -implicitDefEqProofs [Tryz.f24, px_skip, px_label, px_region, px_draw, qx_seq, qx_cond, px_block, px_loop, px_scope, px_exit, px_ret, seqK_normal, seqK_exit, seqK_ret, condK_true, condK_false, opsK_some, wK_true, wK_false, itK_some, aops_nil, aops_cons, lK_some, aK_some, hK_some, dwK_true, dwK_false, diK_some, dK_light, dK_alloc, dK_heavy, adraw_nil, adraw_cons, aop, cls, light, lightS, binE, aeq, intBin, goInt, pl_int, pl_bool, pl_ptr, pl_slice, aload, isAggT, aeval, tput, awanted, List.range_succ, fin, aresults, aresult, List.replicate, heavy, acallOp, aenter, ble_d, beq_d, firstRegion, readNames, Nxt, isAnc, readsOk, objEq_some, sT24, Tryz.underlying22, (fun ρ a b => ms24 ρ a b l.length), hlen]
  generalize hl : loopω _ _ _ _ = r
  obtain ⟨e, t', h', hx, hK, hR⟩ : ∃ e t' h', r = some (e, t', h') ∧ Keep No h h' ∧ ((e = .exit 0 ∧ goodB l = true ∧ h'.get h.next = some (.cells (ints (tooks l)) 3 1 false false) ∧ ∃ x13, t' = [.slice a l.length c, unk, .slice none 0 0, .int .i64 0, .slice (some ⟨h.next, 0, none⟩) l.length l.length, unk, unk, unk, unk, unk, .slice a l.length c, .int .i64 l.length, .int .i64 l.length, x13, unk, unk, unk, unk, unk, unk, unk, unk, unk, unk, unk, unk, unk, unk, unk, unk, unk, unk, unk, unk, unk, unk, unk, unk]) ∨ (e = .ret ∧ goodB l = false ∧ t'[2]?.getD undef = .slice none 0 0 ∧ t'[3]?.getD undef = .int .i64 2)) := by
    rw [← hl]
    refine loop_by (fun k t h' => ∃ i, i + k = l.length ∧ forget [1, 5, 6, 7, 8, 9, 13, 14, 15, 16, 17, 18, 19, 20, 21, 22, 23, 24, 25, 26, 27, 28, 29, 30, 31, 32, 33, 34, 35, 36, 37] t = [.slice a l.length c, unk, .slice none 0 0, .int .i64 0, .slice (some ⟨h.next, 0, none⟩) i l.length, unk, unk, unk, unk, unk, .slice a l.length c, .int .i64 l.length, .int .i64 i, unk, unk, unk, unk, unk, unk, unk, unk, unk, unk, unk, unk, unk, unk, unk, unk, unk, unk, unk, unk, unk, unk, unk, unk, unk] ∧ Keep No h h' ∧ h'.get h.next = some (.cells (ints ((tooks l).take i) ++ List.replicate (l.length - i) (.int .i64 0)) 3 1 false false) ∧ ∀ j, j < i → bad (l.getD j (0, 0)) = false)
      (fun e t' h' => Keep No h h' ∧ ((e = .exit 0 ∧ goodB l = true ∧ h'.get h.next = some (.cells (ints (tooks l)) 3 1 false false) ∧ ∃ x13, t' = [.slice a l.length c, unk, .slice none 0 0, .int .i64 0, .slice (some ⟨h.next, 0, none⟩) l.length l.length, unk, unk, unk, unk, unk, .slice a l.length c, .int .i64 l.length, .int .i64 l.length, x13, unk, unk, unk, unk, unk, unk, unk, unk, unk, unk, unk, unk, unk, unk, unk, unk, unk, unk, unk, unk, unk, unk, unk, unk]) ∨ (e = .ret ∧ goodB l = false ∧ t'[2]?.getD undef = .slice none 0 0 ∧ t'[3]?.getD undef = .int .i64 2))) ?_ l.length _ _ ⟨0, by omega, by kernel_rfl, Keep.new _ _ _, by rw [Heap.get_new, if_pos rfl]; simp [ints], fun j hj => by omega⟩
    rintro k t h' ⟨i, hi, ht, hK, hm, hg⟩
    rw [ht]
    rcases Nat.lt_or_ge i l.length with h1 | h1
    · obtain ⟨a, c, C, e, s, gr, ro, ea, hgt, hf, hd, p1, p2⟩ := sl_pick (hv.keep hK (fun _ _ x => x)) h1
      simp only [Value.slice.injEq, true_and] at ea
      obtain ⟨rfl, rfl⟩ := ea
      have hw : IntKind.i64.wrap ((i : Int) + 1) = ((i + 1 : Nat) : Int) := by rw [IntWalk.i64_in _ (by omega)]; omega
      have hii : ((i + 1 : Nat) : Int) = (i : Int) + 1 := by omega
      have hbad := @goodB_false l i h1
      have htk := take_tooks l h1
      have hnext : bad (l.getD i (0, 0)) = false → ∀ j, j < i + 1 → bad (l.getD j (0, 0)) = false := fun hb j hj => by
        rcases Nat.lt_or_ge j i with h2 | h2
        · exact hg j h2
        · have : j = i := by omega
          subst this; exact hb
      generalize hq : l.getD i (0, 0) = q at *
      obtain ⟨q1, q2⟩ := q
      simp only at p1 p2 hd htk
      have gz : (h'.new (.cells [.int .i64 0, .int .i64 0] 53 2 false false)).get h'.next = some (.cells [.int .i64 0, .int .i64 0] 53 2 false false) := by rw [Heap.get_new, if_pos rfl]
      obtain ⟨h3, h3e⟩ : ∃ x, x = (h'.new (.cells [.int .i64 0, .int .i64 0] 53 2 false false)).put h'.next (some (.cells [.int .i64 q1, .int .i64 q2] 53 2 false false)) := ⟨_, rfl⟩
      have k3 : Keep No h' h3 := h3e ▸ (Keep.new No h' _).also (Keep.put (S := fun m => m = h'.next) (Heap.get_lt gz) rfl _) fun m hm e => by omega
      have g3 : h3.get h'.next = some (.cells [.int .i64 q1, .int .i64 q2] 53 2 false false) := by rw [h3e, Heap.get_put (Heap.get_lt gz), if_pos rfl]
      have okQ : okCells (.agg #[.int .i64 q1, .int .i64 q2]) = some [.int .i64 q1, .int .i64 q2] := rfl
      have hK3 := hK.trans k3
      by_cases c1 : q1 < 2
      · have hb := hbad (by simp [bad, c1])
        simp (maxSteps := 2000000) -implicitDefEqProofs [px_skip, px_label, px_region, px_draw, qx_seq, qx_cond, px_block, px_loop, px_scope, px_exit, px_ret, seqK_normal, seqK_exit, seqK_ret, condK_true, condK_false, opsK_some, wK_true, wK_false, itK_some, aops_nil, aops_cons, lK_some, aK_some, hK_some, dwK_true, dwK_false, diK_some, dK_light, dK_alloc, dK_heavy, adraw_nil, adraw_cons, aop, cls, light, lightS, binE, aeq, intBin, goInt, pl_int, pl_bool, pl_ptr, pl_slice, aload, isAggT, aeval, tput, awanted, List.range_succ, fin, aresults, aresult, List.replicate, heavy, acallOp, aenter, ble_d, beq_d, firstRegion, readNames, Nxt, isAnc, readsOk, objEq_some, Tryz.underlying22, Tryz.underlying3, Tryz.underlying53, h1, aindexAddr, sz53, hgt, hf, hd, al53, gz, okQ, astore, ← h3e, g3, fa53_0, fa53_1, c1, hb, hK3]
      by_cases c2 : q2 < 0
      · have hb := hbad (by simp [bad, c2])
        simp (maxSteps := 2000000) -implicitDefEqProofs [px_skip, px_label, px_region, px_draw, qx_seq, qx_cond, px_block, px_loop, px_scope, px_exit, px_ret, seqK_normal, seqK_exit, seqK_ret, condK_true, condK_false, opsK_some, wK_true, wK_false, itK_some, aops_nil, aops_cons, lK_some, aK_some, hK_some, dwK_true, dwK_false, diK_some, dK_light, dK_alloc, dK_heavy, adraw_nil, adraw_cons, aop, cls, light, lightS, binE, aeq, intBin, goInt, pl_int, pl_bool, pl_ptr, pl_slice, aload, isAggT, aeval, tput, awanted, List.range_succ, fin, aresults, aresult, List.replicate, heavy, acallOp, aenter, ble_d, beq_d, firstRegion, readNames, Nxt, isAnc, readsOk, objEq_some, Tryz.underlying22, Tryz.underlying3, Tryz.underlying53, h1, aindexAddr, sz53, hgt, hf, hd, al53, gz, okQ, astore, ← h3e, g3, fa53_0, fa53_1, c1, c2, hb, hK3]
      by_cases c3 : q2 ≥ q1
      · have hb := hbad (by simp [bad, c3])
        have c3' : q1 ≤ q2 := c3
        simp (maxSteps := 2000000) -implicitDefEqProofs [px_skip, px_label, px_region, px_draw, qx_seq, qx_cond, px_block, px_loop, px_scope, px_exit, px_ret, seqK_normal, seqK_exit, seqK_ret, condK_true, condK_false, opsK_some, wK_true, wK_false, itK_some, aops_nil, aops_cons, lK_some, aK_some, hK_some, dwK_true, dwK_false, diK_some, dK_light, dK_alloc, dK_heavy, adraw_nil, adraw_cons, aop, cls, light, lightS, binE, aeq, intBin, goInt, pl_int, pl_bool, pl_ptr, pl_slice, aload, isAggT, aeval, tput, awanted, List.range_succ, fin, aresults, aresult, List.replicate, heavy, acallOp, aenter, ble_d, beq_d, firstRegion, readNames, Nxt, isAnc, readsOk, objEq_some, Tryz.underlying22, Tryz.underlying3, Tryz.underlying53, h1, aindexAddr, sz53, hgt, hf, hd, al53, gz, okQ, astore, ← h3e, g3, fa53_0, fa53_1, c1, c2, c3', hb, hK3]
      · have hb := hnext (by simp [bad, c1, c2]; omega)
        have c3' : ¬ q1 ≤ q2 := c3
        have hm4 := (k3.trans (Keep.new No h3 (.cells [.int .i64 q2] 3 1 false false))).get hm (fun x => x)
        have hx1 : Sl (h3.new (.cells [.int .i64 q2] 3 1 false false)) (.slice (some ⟨h3.next, 0, none⟩) 1 1) 1 1 [.int .i64 q2] := ⟨rfl, .inr ⟨_, _, rfl, fun _ => ⟨_, _, _, _, _, by rw [Heap.get_new, if_pos rfl], rfl⟩⟩⟩
        have hxl : (ints ((tooks l).take i)).length = i := by simp [ints, tooks]; omega
        have e2 := append_in hm4 hx1 rfl (by simp; omega) (by rw [hxl]; omega)
        rw [hxl, List.length_replicate, show i + (l.length - i) = l.length by omega] at e2
        obtain ⟨h5, h5e⟩ : ∃ x, x = (h3.new (.cells [.int .i64 q2] 3 1 false false)).put h.next (some (.cells (ints ((tooks l).take i) ++ .int .i64 q2 :: (List.replicate (l.length - i) (Value.int .i64 0)).tail) 3 1 false false)) := ⟨_, rfl⟩
        rw [← h5e] at e2
        have k5 : Keep No h h5 := h5e ▸ (hK3.trans (Keep.new No h3 _)).also (Keep.put (S := fun m => m = h.next) (Heap.get_lt hm4) rfl _) fun m hm e => by omega
        have g5 : h5.get h.next = some (.cells (ints ((tooks l).take (i + 1)) ++ List.replicate (l.length - (i + 1)) (.int .i64 0)) 3 1 false false) := by
          rw [h5e, Heap.get_put (Heap.get_lt hm4), if_pos rfl, htk]
          simp [ints, List.tail_replicate, Nat.sub_sub]
        simp (maxSteps := 2000000) -implicitDefEqProofs [px_skip, px_label, px_region, px_draw, qx_seq, qx_cond, px_block, px_loop, px_scope, px_exit, px_ret, seqK_normal, seqK_exit, seqK_ret, condK_true, condK_false, opsK_some, wK_true, wK_false, itK_some, aops_nil, aops_cons, lK_some, aK_some, hK_some, dwK_true, dwK_false, diK_some, dK_light, dK_alloc, dK_heavy, adraw_nil, adraw_cons, aop, cls, light, lightS, binE, aeq, intBin, goInt, pl_int, pl_bool, pl_ptr, pl_slice, aload, isAggT, aeval, tput, awanted, List.range_succ, fin, aresults, aresult, List.replicate, heavy, acallOp, aenter, ble_d, beq_d, firstRegion, readNames, Nxt, isAnc, readsOk, objEq_some, Tryz.underlying22, Tryz.underlying3, Tryz.underlying53, Tryz.underlying24, h1, aindexAddr, sz53, hgt, hf, hd, al53, gz, okQ, astore, ← h3e, g3, fa53_0, fa53_1, c1, c2, c3', (fun ρ x => bs24_1 ρ x q2), e2, hw]
        exact ⟨k - 1, by omega, i + 1, by omega, by simp only [forget, List.set_cons_succ, List.set_cons_zero, hii], k5, g5, hb⟩
    · have hi' : i = l.length := by omega
      subst hi'
      have hall : goodB l = true := by
        unfold goodB
        rw [List.all_eq_true]
        intro p hp
        obtain ⟨j, hj, rfl⟩ := List.mem_iff_getElem.1 hp
        have := hg j hj
        rw [List.getD_eq_getElem?_getD, List.getElem?_eq_getElem hj] at this
        simp only [Option.getD_some] at this
        simp [this]
      have hsl : h'.get h.next = some (.cells (ints (tooks l)) 3 1 false false) := by
        have htk : (tooks l).take l.length = tooks l := List.take_of_length_le (by simp [tooks])
        rw [htk, Nat.sub_self, List.replicate_zero, List.append_nil] at hm
        exact hm
      simp (maxSteps := 2000000) -implicitDefEqProofs [px_skip, px_label, px_region, px_draw, qx_seq, qx_cond, px_block, px_loop, px_scope, px_exit, px_ret, seqK_normal, seqK_exit, seqK_ret, condK_true, condK_false, opsK_some, wK_true, wK_false, itK_some, aops_nil, aops_cons, lK_some, aK_some, hK_some, dwK_true, dwK_false, diK_some, dK_light, dK_alloc, dK_heavy, adraw_nil, adraw_cons, aop, cls, light, lightS, binE, aeq, intBin, goInt, pl_int, pl_bool, pl_ptr, pl_slice, aload, isAggT, aeval, tput, awanted, List.range_succ, fin, aresults, aresult, List.replicate, heavy, acallOp, aenter, ble_d, beq_d, firstRegion, readNames, Nxt, isAnc, readsOk, objEq_some, hall, hK, hsl]
  subst hx
  rcases hR with ⟨rfl, hB, hsl, x13, rfl⟩ | ⟨rfl, hB, t2, t3⟩
  · simp (maxSteps := 2000000) -implicitDefEqProofs [px_skip, px_label, px_region, px_draw, qx_seq, qx_cond, px_block, px_loop, px_scope, px_exit, px_ret, seqK_normal, seqK_exit, seqK_ret, condK_true, condK_false, opsK_some, wK_true, wK_false, itK_some, aops_nil, aops_cons, lK_some, aK_some, hK_some, dwK_true, dwK_false, diK_some, dK_light, dK_alloc, dK_heavy, adraw_nil, adraw_cons, aop, cls, light, lightS, binE, aeq, intBin, goInt, pl_int, pl_bool, pl_ptr, pl_slice, aload, isAggT, aeval, tput, awanted, List.range_succ, fin, aresults, aresult, List.replicate, heavy, acallOp, aenter, ble_d, beq_d, firstRegion, readNames, Nxt, isAnc, readsOk, objEq_some, hB]
    exact ⟨_, _, ⟨rfl, rfl⟩, _, rfl, hK, rfl, hsl⟩
  · simp (maxSteps := 2000000) -implicitDefEqProofs [px_skip, px_label, px_region, px_draw, qx_seq, qx_cond, px_block, px_loop, px_scope, px_exit, px_ret, seqK_normal, seqK_exit, seqK_ret, condK_true, condK_false, opsK_some, wK_true, wK_false, itK_some, aops_nil, aops_cons, lK_some, aK_some, hK_some, dwK_true, dwK_false, diK_some, dK_light, dK_alloc, dK_heavy, adraw_nil, adraw_cons, aop, cls, light, lightS, binE, aeq, intBin, goInt, pl_int, pl_bool, pl_ptr, pl_slice, aload, isAggT, aeval, tput, awanted, List.range_succ, fin, aresults, aresult, List.replicate, heavy, acallOp, aenter, ble_d, beq_d, firstRegion, readNames, Nxt, isAnc, readsOk, objEq_some, hB, t2, t3]
    exact ⟨_, _, ⟨rfl, rfl⟩, rfl, hK⟩
end Go.Proofs.YthhhmmildgijhaaGreatDoor.Ex
set_option linter.unusedVariables false
set_option linter.unusedSimpArgs false
namespace Go.Proofs.YthhhmmildgijhaaGreatDoor.Ex
open Go Go.Proofs Go.RowKit Go.Proofs.YthhhmmildgijhaaGreatDoorSI

theorem sT8 (r : Nat) : sT 8 r = [2, 3, 6, 7, 8, 9, 10, 11, 12, 13, 14, 15, 16, 17, 18, 19, 20, 21, 22, 23, 24, 25] := by rfl
def pl8_6 : List Nat := [0, 1, 2, 3, 4, 5, 6, 7, 8]
def an8_6 : List (List Nat) := [[], [], [0, 1], [2, 0, 1], [], [], [4, 5], [6, 4, 5], [3, 2, 0, 1, 7, 6, 4, 5]]
def pt8 : PlanTab := fun _ => (pl8_6, an8_6)
theorem pt8_6 (i : Nat) : pt8 i = (pl8_6, an8_6) := rfl

set_option maxHeartbeats 800000 in
theorem same_run {h : Heap} {va vb : Value} {ls : List Int} (ha : Sl h va 1 ls.length (ints ls)) (hb : Sl h vb 1 ls.length (ints ls)) (hlen : ls.length ≤ 2 ^ 47) : run Tryz.prog sT 8 [va, vb] h = some (.bool true, h) := by
  refine run_finP pt8 Tryz.func8 rfl (by kernel_rfl) ?_
  obtain ⟨a, c, rfl⟩ : ∃ a c, va = .slice a ls.length c := by
    rcases sl_cut ha with ⟨rfl, h0⟩ | ⟨a, c, rfl⟩
    · exact ⟨none, 0, by rw [h0]⟩
    · exact ⟨_, _, rfl⟩
  obtain ⟨b, d, rfl⟩ : ∃ a c, vb = .slice a ls.length c := by
    rcases sl_cut hb with ⟨rfl, h0⟩ | ⟨a, c, rfl⟩
    · exact ⟨none, 0, by rw [h0]⟩
    · exact ⟨_, _, rfl⟩
  simp (maxSteps := 2000000) -implicitDefEqProofs [Tryz.f8, px_skip, px_label, px_region, px_draw, qx_seq, qx_cond, px_block, px_loop, px_scope, px_exit, px_ret, seqK_normal, seqK_exit, seqK_ret, condK_true, condK_false, opsK_some, wK_true, wK_false, itK_some, aops_nil, aops_cons, lK_some, aK_some, hK_some, dwK_true, dwK_false, diK_some, dK_light, dK_alloc, dK_heavy, adraw_nil, adraw_cons, aop, cls, light, lightS, binE, aeq, intBin, goInt, pl_int, pl_bool, pl_ptr, pl_slice, aload, isAggT, aeval, tput, awanted, List.range_succ, fin, aresults, aresult, List.replicate, heavy, acallOp, aenter, ble_d, beq_d, firstRegion, readNames, Nxt, isAnc, readsOk, objEq_some, ibne, Tryz.underlying24, sT8]
  generalize hl : loopω _ _ _ _ = r
  obtain ⟨e, t', h', hx, he, hh, x11, x12, x13, x14, ht⟩ : ∃ e t' h', r = some (e, t', h') ∧ e = .exit 0 ∧ h' = h ∧ ∃ x11 x12 x13 x14, t' = [.slice a ls.length c, .slice b ls.length d, unk, unk, .bool false, .int .i64 ls.length, unk, unk, unk, unk, unk, x11, x12, x13, x14, unk, unk, unk, unk, unk, unk, unk, unk, unk, unk, unk] := by
    rw [← hl]
    refine loop_by (fun k t h' => ∃ i, i + k = ls.length ∧ forget [2, 3, 6, 7, 8, 9, 10, 11, 12, 13, 14, 15, 16, 17, 18, 19, 20, 21, 22, 23, 24, 25] t = [.slice a ls.length c, .slice b ls.length d, unk, unk, .bool false, .int .i64 i, unk, unk, unk, unk, unk, unk, unk, unk, unk, unk, unk, unk, unk, unk, unk, unk, unk, unk, unk, unk] ∧ h' = h)
      (fun e t' h' => e = .exit 0 ∧ h' = h ∧ ∃ x11 x12 x13 x14, t' = [.slice a ls.length c, .slice b ls.length d, unk, unk, .bool false, .int .i64 ls.length, unk, unk, unk, unk, unk, x11, x12, x13, x14, unk, unk, unk, unk, unk, unk, unk, unk, unk, unk, unk]) ?_ ls.length _ _ ⟨0, by omega, by simp only [forget, List.set_cons_succ, List.set_cons_zero]; rfl, rfl⟩
    rintro k t h' ⟨i, hi, ht, rfl⟩
    rw [ht]
    rcases Nat.lt_or_ge i ls.length with h1 | h1
    · obtain ⟨a, c, C, e, s, gr, ro, ea, hg, hc⟩ := sl_index ha h1
      obtain ⟨b, d, C', e', s', gr', ro', eb, hg', hc'⟩ := sl_index hb h1
      simp only [Value.slice.injEq, true_and] at ea eb
      obtain ⟨rfl, rfl⟩ := ea
      obtain ⟨rfl, rfl⟩ := eb
      have hw : IntKind.i64.wrap ((i : Int) + 1) = ((i + 1 : Nat) : Int) := by rw [IntWalk.i64_in _ (by omega)]; omega
      have hii : ((i + 1 : Nat) : Int) = (i : Int) + 1 := by omega
      generalize ls.getD i 0 = q at *
      simp (maxSteps := 2000000) -implicitDefEqProofs [px_skip, px_label, px_region, px_draw, qx_seq, qx_cond, px_block, px_loop, px_scope, px_exit, px_ret, seqK_normal, seqK_exit, seqK_ret, condK_true, condK_false, opsK_some, wK_true, wK_false, itK_some, aops_nil, aops_cons, lK_some, aK_some, hK_some, dwK_true, dwK_false, diK_some, dK_light, dK_alloc, dK_heavy, adraw_nil, adraw_cons, aop, cls, light, lightS, binE, aeq, intBin, goInt, pl_int, pl_bool, pl_ptr, pl_slice, aload, isAggT, aeval, tput, awanted, List.range_succ, fin, aresults, aresult, List.replicate, heavy, acallOp, aenter, ble_d, beq_d, firstRegion, readNames, Nxt, isAnc, readsOk, objEq_some, pt8_6, pl8_6, an8_6, ibne, Tryz.underlying24, Tryz.underlying3, h1, aindexAddr, sz3, hg, hg', hc, hc', hw]
      exact ⟨k - 1, by omega, i + 1, by omega, by simp only [forget, List.set_cons_succ, List.set_cons_zero, hii]⟩
    · have hi' : i = ls.length := by omega
      subst hi'
      simp (maxSteps := 2000000) -implicitDefEqProofs [px_skip, px_label, px_region, px_draw, qx_seq, qx_cond, px_block, px_loop, px_scope, px_exit, px_ret, seqK_normal, seqK_exit, seqK_ret, condK_true, condK_false, opsK_some, wK_true, wK_false, itK_some, aops_nil, aops_cons, lK_some, aK_some, hK_some, dwK_true, dwK_false, diK_some, dK_light, dK_alloc, dK_heavy, adraw_nil, adraw_cons, aop, cls, light, lightS, binE, aeq, intBin, goInt, pl_int, pl_bool, pl_ptr, pl_slice, aload, isAggT, aeval, tput, awanted, List.range_succ, fin, aresults, aresult, List.replicate, heavy, acallOp, aenter, ble_d, beq_d, firstRegion, readNames, Nxt, isAnc, readsOk, objEq_some, ibne, Tryz.underlying24]
  subst hx he hh ht
  simp (maxSteps := 2000000) -implicitDefEqProofs [px_skip, px_label, px_region, px_draw, qx_seq, qx_cond, px_block, px_loop, px_scope, px_exit, px_ret, seqK_normal, seqK_exit, seqK_ret, condK_true, condK_false, opsK_some, wK_true, wK_false, itK_some, aops_nil, aops_cons, lK_some, aK_some, hK_some, dwK_true, dwK_false, diK_some, dK_light, dK_alloc, dK_heavy, adraw_nil, adraw_cons, aop, cls, light, lightS, binE, aeq, intBin, goInt, pl_int, pl_bool, pl_ptr, pl_slice, aload, isAggT, aeval, tput, awanted, List.range_succ, fin, aresults, aresult, List.replicate, heavy, acallOp, aenter, ble_d, beq_d, firstRegion, readNames, Nxt, isAnc, readsOk, objEq_some]
end Go.Proofs.YthhhmmildgijhaaGreatDoor.Ex
