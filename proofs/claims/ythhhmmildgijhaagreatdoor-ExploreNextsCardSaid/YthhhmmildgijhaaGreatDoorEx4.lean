/- The raw numbers of the next log: the program's. -/
import Derived.Test.YthhhmmildgijhaaGreatDoorEx3
set_option linter.unusedVariables false
set_option linter.unusedSimpArgs false
namespace Go.Proofs.YthhhmmildgijhaaGreatDoor.Ex
open Go Go.Proofs Go.RowKit Go.Proofs.YthhhmmildgijhaaGreatDoorSI

theorem sT6 (r : Nat) : sT 6 r = [1, 2, 3, 4, 6, 7, 8, 9, 10, 11, 12, 13, 14, 15, 16, 17, 18, 19, 20, 21, 22, 23, 24, 25, 26, 27, 28, 29, 30, 31, 32, 33, 34, 35, 36, 37, 38, 39, 40, 41, 42] := by rfl
def pl6_6 : List Nat := [0, 1, 2, 3, 4, 5, 6, 7, 8, 9, 10]
def an6_6 : List (List Nat) := [[], [], [0, 1], [2, 0, 1], [3, 2, 0, 1], [], [], [5, 6], [7, 5, 6], [8, 7, 5, 6], [4, 3, 2, 0, 1, 9, 8, 7, 5, 6]]
def pt6 : PlanTab := fun _ => (pl6_6, an6_6)
theorem pt6_6 (i : Nat) : pt6 i = (pl6_6, an6_6) := rfl

/-- The raw numbers behind the first k picks: the last that can be raised is raised; what stands behind it goes. -/
def nextK (l : List (Int × Int)) : Nat → Option (List Int)
  | 0 => none
  | k + 1 => if (l.getD k (0, 0)).2 + 1 < (l.getD k (0, 0)).1 then some ((tooks l).take k ++ [(l.getD k (0, 0)).2 + 1]) else nextK l k
def resL (l : List (Int × Int)) : List Int := if goodB l then (nextK l l.length).getD [] else []

theorem good_at {l : List (Int × Int)} (hg : goodB l = true) {i : Nat} (hi : i < l.length) : 2 ≤ (l.getD i (0, 0)).1 ∧ 0 ≤ (l.getD i (0, 0)).2 ∧ (l.getD i (0, 0)).2 < (l.getD i (0, 0)).1 := by
  unfold goodB at hg
  have := List.all_eq_true.1 hg l[i] (List.getElem_mem hi)
  rw [List.getD_eq_getElem?_getD, List.getElem?_eq_getElem hi]
  simp only [Option.getD_some]
  simp [bad] at this
  omega
theorem tooks_len (l : List (Int × Int)) : (tooks l).length = l.length := by simp [tooks]
theorem ints_len (l : List Int) : (ints l).length = l.length := by simp [ints]
theorem ints_tooks (l : List (Int × Int)) {i : Nat} (hi : i < l.length) : (ints (tooks l))[i]? = some (.int .i64 (l.getD i (0, 0)).2) := by
  simp [ints, tooks, hi, List.getD_eq_getElem?_getD]

theorem cut24 (m n k c : Nat) (h1 : n ≤ k) (h2 : k ≤ c) : aslice Tryz.prog 24 (.slice (some ⟨m, 0, none⟩) k c) none (some (.int .i64 (n : Nat))) none = some (.slice (some ⟨m, 0, none⟩) n c) := by
  unfold aslice
  simp only [Tryz.underlying24, sz3, abound]
  rw [if_pos (by omega)]
  have e1 : ((n : Nat) : Int).toNat = n := by omega
  simp only [e1]
  have e2 : (Nat.ble 0 n && Nat.ble n c && Nat.ble c c && ((some (Value.int .i64 (n : Nat))).isSome || (none : Option Value).isNone)) = true := by
    rw [ble_t (Nat.zero_le n), ble_t (by omega), ble_t (Nat.le_refl c)]; rfl
  rw [e2]
  simp

theorem SlN (h : Heap) : Sl h (.slice none 0 0) 1 0 (ints []) := ⟨rfl, .inl ⟨rfl, rfl⟩⟩

set_option maxHeartbeats 1600000 in
theorem next_run {h : Heap} {v : Value} {l : List (Int × Int)} (hv : Sl h v 2 l.length (picks l)) (hlen : l.length * 8 ≤ 2 ^ 47) (hin : ∀ i, i < l.length → (l.getD i (0, 0)).1 < 9223372036854775808) :
    ∃ v' h', run Tryz.prog sT 6 [v] h = some (.tuple #[v', .bool (goodB l && (nextK l l.length).isSome), .int .i64 (if goodB l then 0 else 2)], h') ∧ Keep No h h' ∧ Sl h' v' 1 (resL l).length (ints (resL l)) := by
  obtain ⟨v1, h1, e1, k1, q1, q2⟩ := of_run hv hlen
  obtain ⟨a, c, rfl⟩ : ∃ a c, v = .slice a l.length c := by
    rcases sl_cut hv with ⟨rfl, h0⟩ | ⟨a, c, rfl⟩
    · exact ⟨none, 0, by rw [h0]⟩
    · exact ⟨_, _, rfl⟩
  suffices hx : ∃ y, fin Tryz.prog Tryz.f6 (aexecP Tryz.prog (sT 6) (run Tryz.prog sT) loopω pt6 (Tryz.f6.body.getD .skip) ([.slice a l.length c] ++ List.replicate (Tryz.f6.ntmps - 1) undef) h) = some y ∧ ∃ v', y.1 = .tuple #[v', .bool (goodB l && (nextK l l.length).isSome), .int .i64 (if goodB l then 0 else 2)] ∧ Keep No h y.2 ∧ Sl y.2 v' 1 (resL l).length (ints (resL l)) by
    obtain ⟨⟨y1, y2⟩, hy, v', rfl, q⟩ := hx
    exact ⟨v', y2, run_finP pt6 Tryz.func6 rfl (by kernel_rfl) hy, q⟩
  cases hB : goodB l with
  | false =>
    rw [hB] at e1
    have hr : resL l = [] := by simp [resL, hB]
    obtain rfl := q2 hB
    simp (maxSteps := 2000000) -implicitDefEqProofs [Tryz.f6, px_skip, px_label, px_region, px_draw, qx_seq, qx_cond, px_block, px_loop, px_scope, px_exit, px_ret, seqK_normal, seqK_exit, seqK_ret, condK_true, condK_false, opsK_some, wK_true, wK_false, itK_some, aops_nil, aops_cons, lK_some, aK_some, hK_some, dwK_true, dwK_false, diK_some, dK_light, dK_alloc, dK_heavy, adraw_nil, adraw_cons, aop, cls, light, lightS, binE, aeq, intBin, goInt, pl_int, pl_bool, pl_ptr, pl_slice, aload, isAggT, aeval, tput, awanted, List.range_succ, fin, aresults, aresult, List.replicate, heavy, acallOp, aenter, ble_d, beq_d, firstRegion, readNames, Nxt, isAnc, readsOk, objEq_some, en24, e1, ibne, hr]

    exact ⟨k1, SlN h1⟩
  | true =>
    obtain ⟨rfl, hg⟩ := q1 hB
    have hr : resL l = (nextK l l.length).getD [] := by simp [resL, hB]
    rw [hB] at e1
    have hle : (ints (tooks l)).length = l.length := by rw [ints_len, tooks_len]
    simp (maxSteps := 2000000) -implicitDefEqProofs [Tryz.f6, px_skip, px_label, px_region, px_draw, qx_seq, qx_cond, px_block, px_loop, px_scope, px_exit, px_ret, seqK_normal, seqK_exit, seqK_ret, condK_true, condK_false, opsK_some, wK_true, wK_false, itK_some, aops_nil, aops_cons, lK_some, aK_some, hK_some, dwK_true, dwK_false, diK_some, dK_light, dK_alloc, dK_heavy, adraw_nil, adraw_cons, aop, cls, light, lightS, binE, aeq, intBin, goInt, pl_int, pl_bool, pl_ptr, pl_slice, aload, isAggT, aeval, tput, awanted, List.range_succ, fin, aresults, aresult, List.replicate, heavy, acallOp, aenter, ble_d, beq_d, firstRegion, readNames, Nxt, isAnc, readsOk, objEq_some, en24, e1, ibne, sT6]
    generalize hl : loopω _ _ _ _ = r
    obtain ⟨e, t', h', hx, hR⟩ : ∃ e t' h', r = some (e, t', h') ∧ ((e = .exit 0 ∧ h' = h1 ∧ nextK l l.length = none ∧ ∃ x16 x17 x18, t' = [.slice a l.length c, unk, unk, unk, unk, .slice (some ⟨h.next, 0, none⟩) 0 l.length, unk, unk, unk, unk, unk, unk, unk, unk, unk, unk, x16, x17, x18, unk, unk, unk, unk, unk, unk, unk, unk, unk, unk, unk, unk, unk, unk, unk, unk, unk, unk, unk, unk, unk, unk, unk, unk]) ∨
        (e = .ret ∧ ∃ k, k < l.length ∧ nextK l l.length = some ((tooks l).take k ++ [(l.getD k (0, 0)).2 + 1]) ∧ t'[2]?.getD undef = .slice (some ⟨h.next, 0, none⟩) (k + 1) l.length ∧ t'[3]?.getD undef = .bool true ∧ t'[4]?.getD undef = .int .i64 0 ∧
          h' = h1.put h.next (some (.cells ((ints (tooks l)).take k ++ [.int .i64 ((l.getD k (0, 0)).2 + 1)] ++ (ints (tooks l)).drop (k + 1)) 3 1 false false)))) := by
      rw [← hl]
      refine loop_by (fun k t h' => k ≤ l.length ∧ nextK l l.length = nextK l k ∧ forget [1, 2, 3, 4, 6, 7, 8, 9, 10, 11, 12, 13, 14, 15, 16, 17, 18, 19, 20, 21, 22, 23, 24, 25, 26, 27, 28, 29, 30, 31, 32, 33, 34, 35, 36, 37, 38, 39, 40, 41, 42] t = [.slice a l.length c, unk, unk, unk, unk, .slice (some ⟨h.next, 0, none⟩) k l.length, unk, unk, unk, unk, unk, unk, unk, unk, unk, unk, unk, unk, unk, unk, unk, unk, unk, unk, unk, unk, unk, unk, unk, unk, unk, unk, unk, unk, unk, unk, unk, unk, unk, unk, unk, unk, unk] ∧ h' = h1)
        (fun e t' h' => (e = .exit 0 ∧ h' = h1 ∧ nextK l l.length = none ∧ ∃ x16 x17 x18, t' = [.slice a l.length c, unk, unk, unk, unk, .slice (some ⟨h.next, 0, none⟩) 0 l.length, unk, unk, unk, unk, unk, unk, unk, unk, unk, unk, x16, x17, x18, unk, unk, unk, unk, unk, unk, unk, unk, unk, unk, unk, unk, unk, unk, unk, unk, unk, unk, unk, unk, unk, unk, unk, unk]) ∨
        (e = .ret ∧ ∃ k, k < l.length ∧ nextK l l.length = some ((tooks l).take k ++ [(l.getD k (0, 0)).2 + 1]) ∧ t'[2]?.getD undef = .slice (some ⟨h.next, 0, none⟩) (k + 1) l.length ∧ t'[3]?.getD undef = .bool true ∧ t'[4]?.getD undef = .int .i64 0 ∧
          h' = h1.put h.next (some (.cells ((ints (tooks l)).take k ++ [.int .i64 ((l.getD k (0, 0)).2 + 1)] ++ (ints (tooks l)).drop (k + 1)) 3 1 false false)))) ?_ l.length _ _ ⟨Nat.le_refl _, rfl, by kernel_rfl, rfl⟩
      rintro k t h' ⟨hk, hn, ht, rfl⟩
      rw [ht]
      cases k with
      | zero =>
        simp (maxSteps := 2000000) -implicitDefEqProofs [px_skip, px_label, px_region, px_draw, qx_seq, qx_cond, px_block, px_loop, px_scope, px_exit, px_ret, seqK_normal, seqK_exit, seqK_ret, condK_true, condK_false, opsK_some, wK_true, wK_false, itK_some, aops_nil, aops_cons, lK_some, aK_some, hK_some, dwK_true, dwK_false, diK_some, dK_light, dK_alloc, dK_heavy, adraw_nil, adraw_cons, aop, cls, light, lightS, binE, aeq, intBin, goInt, pl_int, pl_bool, pl_ptr, pl_slice, aload, isAggT, aeval, tput, awanted, List.range_succ, fin, aresults, aresult, List.replicate, heavy, acallOp, aenter, ble_d, beq_d, firstRegion, readNames, Nxt, isAnc, readsOk, objEq_some, Tryz.underlying24, ibne]
        exact hn
      | succ n =>
        have hnl : n < l.length := by omega
        obtain ⟨a, c, C, e, s, gr, ro, ea, hgt, hf, hd, p1, p2⟩ := sl_pick (hv.keep k1 (fun _ _ x => x)) hnl
        simp only [Value.slice.injEq, true_and] at ea
        obtain ⟨rfl, rfl⟩ := ea
        have hT := ints_tooks l hnl
        have hgd := good_at hB hnl
        have hi := hin n hnl
        have hcut := cut24 h.next n (n + 1) l.length (by omega) (by omega)
        have hw : IntKind.i64.wrap (n : Int) = (n : Int) := IntWalk.i64_in _ (by omega)
        have hnK : nextK l (n + 1) = if (l.getD n (0, 0)).2 + 1 < (l.getD n (0, 0)).1 then some ((tooks l).take n ++ [(l.getD n (0, 0)).2 + 1]) else nextK l n := rfl
        have hle2 : n + 1 ≤ (ints (tooks l)).length := by omega
        generalize hq : l.getD n (0, 0) = q at *
        obtain ⟨x1, x2⟩ := q
        simp only at p1 p2 hT hgd hi hnK
        have hlt : (n : Int) < (n : Int) + 1 := by omega
        have hw2 : IntKind.i64.wrap (x2 + 1) = x2 + 1 := IntWalk.i64_in _ (by omega)
        by_cases c1 : x2 + 1 < x1
        · rw [if_pos c1] at hnK
          simp (maxSteps := 2000000) -implicitDefEqProofs [px_skip, px_label, px_region, px_draw, qx_seq, qx_cond, px_block, px_loop, px_scope, px_exit, px_ret, seqK_normal, seqK_exit, seqK_ret, condK_true, condK_false, opsK_some, wK_true, wK_false, itK_some, aops_nil, aops_cons, lK_some, aK_some, hK_some, dwK_true, dwK_false, diK_some, dK_light, dK_alloc, dK_heavy, adraw_nil, adraw_cons, aop, cls, light, lightS, binE, aeq, intBin, goInt, pl_int, pl_bool, pl_ptr, pl_slice, aload, isAggT, aeval, tput, awanted, List.range_succ, fin, aresults, aresult, List.replicate, heavy, acallOp, aenter, ble_d, beq_d, firstRegion, readNames, Nxt, isAnc, readsOk, objEq_some, pt6_6, pl6_6, an6_6, Tryz.underlying24, Tryz.underlying22, Tryz.underlying3, aindexAddr, sz3, sz53, fa53_0, hg, hgt, hT, p1, hnl, hlt, hw, hw2, c1, astore, okCells, one, hle2]
          have hq' : l[n]?.getD (0, 0) = (x1, x2) := by rw [← List.getD_eq_getElem?_getD]; exact hq
          exact ⟨n, hnl, by rw [hq']; exact hn.trans hnK, rfl, by rw [hq']⟩
        · rw [if_neg c1] at hnK
          simp (maxSteps := 2000000) -implicitDefEqProofs [px_skip, px_label, px_region, px_draw, qx_seq, qx_cond, px_block, px_loop, px_scope, px_exit, px_ret, seqK_normal, seqK_exit, seqK_ret, condK_true, condK_false, opsK_some, wK_true, wK_false, itK_some, aops_nil, aops_cons, lK_some, aK_some, hK_some, dwK_true, dwK_false, diK_some, dK_light, dK_alloc, dK_heavy, adraw_nil, adraw_cons, aop, cls, light, lightS, binE, aeq, intBin, goInt, pl_int, pl_bool, pl_ptr, pl_slice, aload, isAggT, aeval, tput, awanted, List.range_succ, fin, aresults, aresult, List.replicate, heavy, acallOp, aenter, ble_d, beq_d, firstRegion, readNames, Nxt, isAnc, readsOk, objEq_some, pt6_6, pl6_6, an6_6, Tryz.underlying24, Tryz.underlying22, Tryz.underlying3, aindexAddr, sz3, sz53, fa53_0, hg, hgt, hT, p1, hnl, hlt, hw, hw2, c1, hcut]
          exact ⟨n, by omega, by omega, hn.trans hnK, by simp only [forget, List.set_cons_succ, List.set_cons_zero]⟩
    subst hx
    rcases hR with ⟨rfl, rfl, hnone, x16, x17, x18, rfl⟩ | ⟨rfl, k, hk, hsome, t2, t3, t4, rfl⟩
    · simp (maxSteps := 2000000) -implicitDefEqProofs [px_skip, px_label, px_region, px_draw, qx_seq, qx_cond, px_block, px_loop, px_scope, px_exit, px_ret, seqK_normal, seqK_exit, seqK_ret, condK_true, condK_false, opsK_some, wK_true, wK_false, itK_some, aops_nil, aops_cons, lK_some, aK_some, hK_some, dwK_true, dwK_false, diK_some, dK_light, dK_alloc, dK_heavy, adraw_nil, adraw_cons, aop, cls, light, lightS, binE, aeq, intBin, goInt, pl_int, pl_bool, pl_ptr, pl_slice, aload, isAggT, aeval, tput, awanted, List.range_succ, fin, aresults, aresult, List.replicate, heavy, acallOp, aenter, ble_d, beq_d, firstRegion, readNames, Nxt, isAnc, readsOk, objEq_some, hnone, hr]
      exact ⟨_, _, ⟨rfl, rfl⟩, _, rfl, k1, SlN h'⟩
    · simp (maxSteps := 2000000) -implicitDefEqProofs [px_skip, px_label, px_region, px_draw, qx_seq, qx_cond, px_block, px_loop, px_scope, px_exit, px_ret, seqK_normal, seqK_exit, seqK_ret, condK_true, condK_false, opsK_some, wK_true, wK_false, itK_some, aops_nil, aops_cons, lK_some, aK_some, hK_some, dwK_true, dwK_false, diK_some, dK_light, dK_alloc, dK_heavy, adraw_nil, adraw_cons, aop, cls, light, lightS, binE, aeq, intBin, goInt, pl_int, pl_bool, pl_ptr, pl_slice, aload, isAggT, aeval, tput, awanted, List.range_succ, fin, aresults, aresult, List.replicate, heavy, acallOp, aenter, ble_d, beq_d, firstRegion, readNames, Nxt, isAnc, readsOk, objEq_some, hsome, hr, t2, t3, t4]
      have hmin : min k (tooks l).length = k := by rw [tooks_len]; omega
      refine ⟨_, _, ⟨rfl, rfl⟩, _, rfl, k1.also (Keep.put (S := fun m => m = h.next) (Heap.get_lt hg) rfl _) fun m hm e => by omega, ?_⟩
      rw [hmin]
      refine ⟨by simp [ints, tooks]; omega, .inr ⟨_, _, rfl, fun _ => ⟨_, _, _, _, _, by rw [Heap.get_put (Heap.get_lt hg), if_pos rfl], ?_⟩⟩⟩
      rw [List.drop_zero, Nat.mul_one, List.append_cons, List.take_left' (by simp; omega)]
      simp [ints, List.map_take]
end Go.Proofs.YthhhmmildgijhaaGreatDoor.Ex
