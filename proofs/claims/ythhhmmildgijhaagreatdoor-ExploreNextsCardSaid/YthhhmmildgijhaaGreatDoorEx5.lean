/- The raw numbers of the next log: in the second writing. -/
import Derived.Test.YthhhmmildgijhaaGreatDoorEx4
set_option linter.unusedVariables false
set_option linter.unusedSimpArgs false
namespace Go.Proofs.YthhhmmildgijhaaGreatDoor.Ex
open Go Go.Proofs Go.RowKit Go.Proofs.YthhhmmildgijhaaGreatDoorSI

theorem sT7_4 : sT 7 4 = [1, 2, 3, 4, 6, 7, 8, 9, 10, 11, 12, 13, 14, 15, 16, 17, 18, 19, 20, 21, 22, 23, 24, 25, 26, 27, 28, 29, 30, 31, 32, 33, 34, 35, 36, 37, 38, 39, 40, 41, 42, 43, 44, 45, 46, 47, 48, 49, 50, 51] := by rfl
theorem sT7_9 : sT 7 9 = [1, 2, 3, 4, 8, 9, 10, 11, 12, 13, 14, 15, 16, 17, 18, 19, 20, 21, 22, 23, 24, 25, 26, 27, 28, 29, 30, 31, 32, 33, 34, 35, 36, 37, 38, 39, 40, 41, 42, 43, 44, 45, 46, 47, 48, 49, 50, 51] := by rfl
def pl7_6 : List Nat := [0, 1, 2, 3, 4, 5, 6, 7, 8, 9, 10, 11]
def an7_6 : List (List Nat) := [[], [], [0, 1], [2, 0, 1], [3, 2, 0, 1], [], [], [5, 6], [7, 5, 6], [8, 7, 5, 6], [9, 8, 7, 5, 6], [4, 3, 2, 0, 1, 10, 9, 8, 7, 5, 6]]
def pt7 : PlanTab := fun _ => (pl7_6, an7_6)
theorem pt7_6 (i : Nat) : pt7 i = (pl7_6, an7_6) := rfl

set_option maxHeartbeats 3200000 in
theorem rnext_run {h : Heap} {v : Value} {l : List (Int × Int)} (hv : Sl h v 2 l.length (picks l)) (hlen : l.length * 8 ≤ 2 ^ 47) (hin : ∀ i, i < l.length → (l.getD i (0, 0)).1 < 9223372036854775808) :
    ∃ v' h', run Tryz.prog sT 7 [v] h = some (.tuple #[v', .bool (goodB l && (nextK l l.length).isSome), .int .i64 (if goodB l then 0 else 2)], h') ∧ Keep No h h' ∧ Sl h' v' 1 (resL l).length (ints (resL l)) := by
  have eg := good_run hv (by omega)
  obtain ⟨a, c, rfl⟩ : ∃ a c, v = .slice a l.length c := by
    rcases sl_cut hv with ⟨rfl, h0⟩ | ⟨a, c, rfl⟩
    · exact ⟨none, 0, by rw [h0]⟩
    · exact ⟨_, _, rfl⟩
  suffices hx : ∃ y, fin Tryz.prog Tryz.f7 (aexecP Tryz.prog (sT 7) (run Tryz.prog sT) loopω pt7 (Tryz.f7.body.getD .skip) ([.slice a l.length c] ++ List.replicate (Tryz.f7.ntmps - 1) undef) h) = some y ∧ ∃ v', y.1 = .tuple #[v', .bool (goodB l && (nextK l l.length).isSome), .int .i64 (if goodB l then 0 else 2)] ∧ Keep No h y.2 ∧ Sl y.2 v' 1 (resL l).length (ints (resL l)) by
    obtain ⟨⟨y1, y2⟩, hy, v', rfl, q⟩ := hx
    exact ⟨v', y2, run_finP pt7 Tryz.func7 rfl (by kernel_rfl) hy, q⟩
  cases hB : goodB l with
  | false =>
    rw [hB] at eg
    have hr : resL l = [] := by simp [resL, hB]
    simp (maxSteps := 2000000) -implicitDefEqProofs [Tryz.f7, px_skip, px_label, px_region, px_draw, qx_seq, qx_cond, px_block, px_loop, px_scope, px_exit, px_ret, seqK_normal, seqK_exit, seqK_ret, condK_true, condK_false, opsK_some, wK_true, wK_false, itK_some, aops_nil, aops_cons, lK_some, aK_some, hK_some, dwK_true, dwK_false, diK_some, dK_light, dK_alloc, dK_heavy, adraw_nil, adraw_cons, aop, cls, light, lightS, binE, aeq, intBin, goInt, pl_int, pl_bool, pl_ptr, pl_slice, aload, isAggT, aeval, tput, awanted, List.range_succ, fin, aresults, aresult, List.replicate, heavy, acallOp, aenter, ble_d, beq_d, firstRegion, readNames, Nxt, isAnc, readsOk, objEq_some, en25, eg, hr]
    exact ⟨Keep.refl _ _, SlN h⟩
  | true =>
    rw [hB] at eg
    have hr : resL l = (nextK l l.length).getD [] := by simp [resL, hB]
    have hw0 : IntKind.i64.wrap ((l.length : Int) - 1) = (l.length : Int) - 1 := IntWalk.i64_in _ (by omega)
    simp (maxSteps := 2000000) -implicitDefEqProofs [Tryz.f7, px_skip, px_label, px_region, px_draw, qx_seq, qx_cond, px_block, px_loop, px_scope, px_exit, px_ret, seqK_normal, seqK_exit, seqK_ret, condK_true, condK_false, opsK_some, wK_true, wK_false, itK_some, aops_nil, aops_cons, lK_some, aK_some, hK_some, dwK_true, dwK_false, diK_some, dK_light, dK_alloc, dK_heavy, adraw_nil, adraw_cons, aop, cls, light, lightS, binE, aeq, intBin, goInt, pl_int, pl_bool, pl_ptr, pl_slice, aload, isAggT, aeval, tput, awanted, List.range_succ, fin, aresults, aresult, List.replicate, heavy, acallOp, aenter, ble_d, beq_d, firstRegion, readNames, Nxt, isAnc, readsOk, objEq_some, en25, eg, sT7_4, Tryz.underlying22, hw0]
    generalize hl : loopω _ _ _ _ = r
    obtain ⟨e, t', h', hx, hR⟩ : ∃ e t' h', r = some (e, t', h') ∧ ((e = .exit 0 ∧ h' = h ∧ nextK l l.length = none ∧ ∃ x14 x15, t' = [.slice a l.length c, unk, unk, unk, unk, .int .i64 (-1), unk, unk, unk, unk, unk, unk, unk, unk, x14, x15, unk, unk, unk, unk, unk, unk, unk, unk, unk, unk, unk, unk, unk, unk, unk, unk, unk, unk, unk, unk, unk, unk, unk, unk, unk, unk, unk, unk, unk, unk, unk, unk, unk, unk, unk, unk]) ∨
        (e = .ret ∧ ∃ k v', k < l.length ∧ nextK l l.length = some ((tooks l).take k ++ [(l.getD k (0, 0)).2 + 1]) ∧ t'[2]?.getD undef = v' ∧ t'[3]?.getD undef = .bool true ∧ t'[4]?.getD undef = .int .i64 0 ∧ Keep No h h' ∧
          Lg h' v' 3 1 (k + 1) (ints ((tooks l).take k ++ [(l.getD k (0, 0)).2 + 1])))) := by
      rw [← hl]
      refine loop_by (fun k t h' => k ≤ l.length ∧ nextK l l.length = nextK l k ∧ forget [1, 2, 3, 4, 6, 7, 8, 9, 10, 11, 12, 13, 14, 15, 16, 17, 18, 19, 20, 21, 22, 23, 24, 25, 26, 27, 28, 29, 30, 31, 32, 33, 34, 35, 36, 37, 38, 39, 40, 41, 42, 43, 44, 45, 46, 47, 48, 49, 50, 51] t = [.slice a l.length c, unk, unk, unk, unk, .int .i64 ((k : Int) - 1), unk, unk, unk, unk, unk, unk, unk, unk, unk, unk, unk, unk, unk, unk, unk, unk, unk, unk, unk, unk, unk, unk, unk, unk, unk, unk, unk, unk, unk, unk, unk, unk, unk, unk, unk, unk, unk, unk, unk, unk, unk, unk, unk, unk, unk, unk] ∧ h' = h)
        (fun e t' h' => (e = .exit 0 ∧ h' = h ∧ nextK l l.length = none ∧ ∃ x14 x15, t' = [.slice a l.length c, unk, unk, unk, unk, .int .i64 (-1), unk, unk, unk, unk, unk, unk, unk, unk, x14, x15, unk, unk, unk, unk, unk, unk, unk, unk, unk, unk, unk, unk, unk, unk, unk, unk, unk, unk, unk, unk, unk, unk, unk, unk, unk, unk, unk, unk, unk, unk, unk, unk, unk, unk, unk, unk]) ∨
        (e = .ret ∧ ∃ k v', k < l.length ∧ nextK l l.length = some ((tooks l).take k ++ [(l.getD k (0, 0)).2 + 1]) ∧ t'[2]?.getD undef = v' ∧ t'[3]?.getD undef = .bool true ∧ t'[4]?.getD undef = .int .i64 0 ∧ Keep No h h' ∧
          Lg h' v' 3 1 (k + 1) (ints ((tooks l).take k ++ [(l.getD k (0, 0)).2 + 1])))) ?_ l.length _ _ ⟨Nat.le_refl _, rfl, by kernel_rfl, rfl⟩
      rintro k t h' ⟨hk, hn, ht, rfl⟩
      rw [ht]
      cases k with
      | zero =>
        simp (maxSteps := 2000000) -implicitDefEqProofs [px_skip, px_label, px_region, px_draw, qx_seq, qx_cond, px_block, px_loop, px_scope, px_exit, px_ret, seqK_normal, seqK_exit, seqK_ret, condK_true, condK_false, opsK_some, wK_true, wK_false, itK_some, aops_nil, aops_cons, lK_some, aK_some, hK_some, dwK_true, dwK_false, diK_some, dK_light, dK_alloc, dK_heavy, adraw_nil, adraw_cons, aop, cls, light, lightS, binE, aeq, intBin, goInt, pl_int, pl_bool, pl_ptr, pl_slice, aload, isAggT, aeval, tput, awanted, List.range_succ, fin, aresults, aresult, List.replicate, heavy, acallOp, aenter, ble_d, beq_d, firstRegion, readNames, Nxt, isAnc, readsOk, objEq_some, ibne]
        exact hn
      | succ n =>
        have hnl : n < l.length := by omega
        obtain ⟨a, c, C, e, s, gr, ro, ea, hgt, hf, hd, p1, p2⟩ := sl_pick hv hnl
        simp only [Value.slice.injEq, true_and] at ea
        obtain ⟨rfl, rfl⟩ := ea
        have hgd := good_at hB hnl
        have hi := hin n hnl
        have hw : IntKind.i64.wrap ((n : Int) - 1) = (n : Int) - 1 := IntWalk.i64_in _ (by omega)
        have hnK : nextK l (n + 1) = if (l.getD n (0, 0)).2 + 1 < (l.getD n (0, 0)).1 then some ((tooks l).take n ++ [(l.getD n (0, 0)).2 + 1]) else nextK l n := rfl
        have hca : (((n + 1 : Nat) : Int) - 1) = (n : Int) := by omega
        rw [hca]
        generalize hq : l.getD n (0, 0) = q at *
        obtain ⟨x1, x2⟩ := q
        simp only at p1 p2 hgd hi hnK
        have hw2 : IntKind.i64.wrap (x2 + 1) = x2 + 1 := IntWalk.i64_in _ (by omega)
        have hw3 : IntKind.i64.wrap (x1 - 1) = x1 - 1 := IntWalk.i64_in _ (by omega)
        by_cases c1 : x2 = x1 - 1
        · rw [if_neg (by omega)] at hnK
          simp (maxSteps := 2000000) -implicitDefEqProofs [px_skip, px_label, px_region, px_draw, qx_seq, qx_cond, px_block, px_loop, px_scope, px_exit, px_ret, seqK_normal, seqK_exit, seqK_ret, condK_true, condK_false, opsK_some, wK_true, wK_false, itK_some, aops_nil, aops_cons, lK_some, aK_some, hK_some, dwK_true, dwK_false, diK_some, dK_light, dK_alloc, dK_heavy, adraw_nil, adraw_cons, aop, cls, light, lightS, binE, aeq, intBin, goInt, pl_int, pl_bool, pl_ptr, pl_slice, aload, isAggT, aeval, tput, awanted, List.range_succ, fin, aresults, aresult, List.replicate, heavy, acallOp, aenter, ble_d, beq_d, firstRegion, readNames, Nxt, isAnc, readsOk, objEq_some, pt7_6, pl7_6, an7_6, ibeq, Tryz.underlying22, Tryz.underlying3, aindexAddr, sz53, fa53_0, fa53_1, hgt, p1, p2, hnl, hw, hw3, c1]
          exact ⟨n, by omega, by omega, hn.trans hnK, by simp only [forget, List.set_cons_succ, List.set_cons_zero]⟩
        · rw [if_pos (by omega)] at hnK
          simp (maxSteps := 2000000) -implicitDefEqProofs [px_skip, px_label, px_region, px_draw, qx_seq, qx_cond, px_block, px_loop, px_scope, px_exit, px_ret, seqK_normal, seqK_exit, seqK_ret, condK_true, condK_false, opsK_some, wK_true, wK_false, itK_some, aops_nil, aops_cons, lK_some, aK_some, hK_some, dwK_true, dwK_false, diK_some, dK_light, dK_alloc, dK_heavy, adraw_nil, adraw_cons, aop, cls, light, lightS, binE, aeq, intBin, goInt, pl_int, pl_bool, pl_ptr, pl_slice, aload, isAggT, aeval, tput, awanted, List.range_succ, fin, aresults, aresult, List.replicate, heavy, acallOp, aenter, ble_d, beq_d, firstRegion, readNames, Nxt, isAnc, readsOk, objEq_some, pt7_6, pl7_6, an7_6, ibeq, Tryz.underlying22, Tryz.underlying3, aindexAddr, sz53, fa53_0, fa53_1, hgt, p1, p2, hnl, hw, hw3, c1, sT7_9]
          generalize hl2 : loopω _ _ _ _ = r2
          obtain ⟨e2, t2', h2, hx2, rfl, v2, x30, x31, x32, rfl, hL, hK, hN⟩ : ∃ e t' h2, r2 = some (e, t', h2) ∧ e = .exit 2 ∧ ∃ v2 x30 x31 x32, t' = [.slice (some a) l.length c, unk, unk, unk, unk, .int .i64 (n : Nat), v2, .int .i64 (n : Nat), unk, unk, unk, unk, unk, unk, unk, unk, unk, unk, unk, unk, unk, unk, unk, unk, unk, unk, unk, unk, unk, unk, x30, x31, x32, unk, unk, unk, unk, unk, unk, unk, unk, unk, unk, unk, unk, unk, unk, unk, unk, unk, unk, unk] ∧ Lg h2 v2 3 1 n (ints ((tooks l).take n)) ∧ Keep No h' h2 ∧ ∀ m, nm v2 = some m → h'.next ≤ m := by
            rw [← hl2]
            refine loop_by (fun k t h2 => ∃ i v2, i + k = n ∧ forget [1, 2, 3, 4, 8, 9, 10, 11, 12, 13, 14, 15, 16, 17, 18, 19, 20, 21, 22, 23, 24, 25, 26, 27, 28, 29, 30, 31, 32, 33, 34, 35, 36, 37, 38, 39, 40, 41, 42, 43, 44, 45, 46, 47, 48, 49, 50, 51] t = [.slice (some a) l.length c, unk, unk, unk, unk, .int .i64 (n : Nat), v2, .int .i64 (i : Nat), unk, unk, unk, unk, unk, unk, unk, unk, unk, unk, unk, unk, unk, unk, unk, unk, unk, unk, unk, unk, unk, unk, unk, unk, unk, unk, unk, unk, unk, unk, unk, unk, unk, unk, unk, unk, unk, unk, unk, unk, unk, unk, unk, unk] ∧ Lg h2 v2 3 1 i (ints ((tooks l).take i)) ∧ Keep No h' h2 ∧ ∀ m, nm v2 = some m → h'.next ≤ m)
              (fun e t' h2 => e = .exit 2 ∧ ∃ v2 x30 x31 x32, t' = [.slice (some a) l.length c, unk, unk, unk, unk, .int .i64 (n : Nat), v2, .int .i64 (n : Nat), unk, unk, unk, unk, unk, unk, unk, unk, unk, unk, unk, unk, unk, unk, unk, unk, unk, unk, unk, unk, unk, unk, x30, x31, x32, unk, unk, unk, unk, unk, unk, unk, unk, unk, unk, unk, unk, unk, unk, unk, unk, unk, unk, unk] ∧ Lg h2 v2 3 1 n (ints ((tooks l).take n)) ∧ Keep No h' h2 ∧ ∀ m, nm v2 = some m → h'.next ≤ m) ?_ n _ _ ⟨0, _, by omega, by kernel_rfl, Lg.nil _ _ _, Keep.refl _ _, fun m e => by cases e⟩
            rintro k2 t2 h2 ⟨i, v2, hi2, ht2, hL, hK, hN⟩
            rw [ht2]
            rcases Nat.lt_or_ge i n with hin2 | hin2
            · have hil : i < l.length := by omega
              obtain ⟨a', c', C', e', s', gr', ro', ea', hgt', hf', hd', p1', p2'⟩ := sl_pick (hv.keep hK (fun _ _ x => x)) hil
              simp only [Value.slice.injEq, true_and, Option.some.injEq] at ea'
              obtain ⟨rfl, rfl⟩ := ea'
              have hw4 : IntKind.i64.wrap ((i : Int) + 1) = ((i + 1 : Nat) : Int) := by rw [IntWalk.i64_in _ (by omega)]; omega
              have hii : ((i + 1 : Nat) : Int) = (i : Int) + 1 := by omega
              have htk := take_tooks l hil
              generalize hq2 : l.getD i (0, 0) = q2 at p1' p2' htk
              obtain ⟨y1, y2⟩ := q2
              simp only at p1' p2' htk
              have hx1 : Sl (h2.new (.cells [.int .i64 y2] 3 1 false false)) (.slice (some ⟨h2.next, 0, none⟩) 1 1) 1 1 [.int .i64 y2] := ⟨rfl, .inr ⟨_, _, rfl, fun _ => ⟨_, _, _, _, _, by rw [Heap.get_new, if_pos rfl], rfl⟩⟩⟩
              obtain ⟨v3, h3, e3, hL3, hk3, ho3, _, hf3⟩ := append_lg (t := 24) (xt := 24) Tryz.underlying24 Tryz.underlying24 rfl el3 (hL.keep (Keep.new No h2 (.cells [.int .i64 y2] 3 1 false false)) (fun _ _ x => x)) hx1 (by omega) (by omega) rfl
              obtain ⟨m', em, hm'⟩ := hf3 (by omega)
              rw [Heap.next_new] at hm'
              have hkk : Keep No h' h3 := (hK.trans (Keep.new No h2 _)).also hk3 fun m hm x => by have := hN m x; omega
              simp (maxSteps := 2000000) -implicitDefEqProofs [px_skip, px_label, px_region, px_draw, qx_seq, qx_cond, px_block, px_loop, px_scope, px_exit, px_ret, seqK_normal, seqK_exit, seqK_ret, condK_true, condK_false, opsK_some, wK_true, wK_false, itK_some, aops_nil, aops_cons, lK_some, aK_some, hK_some, dwK_true, dwK_false, diK_some, dK_light, dK_alloc, dK_heavy, adraw_nil, adraw_cons, aop, cls, light, lightS, binE, aeq, intBin, goInt, pl_int, pl_bool, pl_ptr, pl_slice, aload, isAggT, aeval, tput, awanted, List.range_succ, fin, aresults, aresult, List.replicate, heavy, acallOp, aenter, ble_d, beq_d, firstRegion, readNames, Nxt, isAnc, readsOk, objEq_some, Tryz.underlying22, Tryz.underlying24, Tryz.underlying3, hin2, hil, aindexAddr, sz53, hgt', p2', fa53_1, (fun ρ x => bs24_1 ρ x y2), e3, hw4]
              refine ⟨k2 - 1, by omega, i + 1, by omega, v3, by simp only [forget, List.set_cons_succ, List.set_cons_zero, hii], ?_, hkk, fun m e => ?_⟩
              · rw [htk]; simpa [ints] using hL3
              · rw [em] at e; cases e; have := hK.1; omega
            · have hi' : i = n := by omega
              subst hi'
              simp (maxSteps := 2000000) -implicitDefEqProofs [px_skip, px_label, px_region, px_draw, qx_seq, qx_cond, px_block, px_loop, px_scope, px_exit, px_ret, seqK_normal, seqK_exit, seqK_ret, condK_true, condK_false, opsK_some, wK_true, wK_false, itK_some, aops_nil, aops_cons, lK_some, aK_some, hK_some, dwK_true, dwK_false, diK_some, dK_light, dK_alloc, dK_heavy, adraw_nil, adraw_cons, aop, cls, light, lightS, binE, aeq, intBin, goInt, pl_int, pl_bool, pl_ptr, pl_slice, aload, isAggT, aeval, tput, awanted, List.range_succ, fin, aresults, aresult, List.replicate, heavy, acallOp, aenter, ble_d, beq_d, firstRegion, readNames, Nxt, isAnc, readsOk, objEq_some]
              exact ⟨hL, hK, hN⟩
          subst hx2
          obtain ⟨a', c', C', e', s', gr', ro', ea', hgt', hf', hd', p1', p2'⟩ := sl_pick (hv.keep hK (fun _ _ x => x)) hnl
          simp only [Value.slice.injEq, true_and, Option.some.injEq] at ea'
          obtain ⟨rfl, rfl⟩ := ea'
          rw [hq] at p2'
          simp only at p2'
          have hx1 : Sl (h2.new (.cells [.int .i64 (x2 + 1)] 3 1 false false)) (.slice (some ⟨h2.next, 0, none⟩) 1 1) 1 1 [.int .i64 (x2 + 1)] := ⟨rfl, .inr ⟨_, _, rfl, fun _ => ⟨_, _, _, _, _, by rw [Heap.get_new, if_pos rfl], rfl⟩⟩⟩
          obtain ⟨v3, h3, e3, hL3, hk3, ho3, _, hf3⟩ := append_lg (t := 24) (xt := 24) Tryz.underlying24 Tryz.underlying24 rfl el3 (hL.keep (Keep.new No h2 (.cells [.int .i64 (x2 + 1)] 3 1 false false)) (fun _ _ x => x)) hx1 (by omega) (by omega) rfl
          have hkk : Keep No h' h3 := (hK.trans (Keep.new No h2 _)).also hk3 fun m hm x => by have := hN m x; omega
          have hq' : l[n]?.getD (0, 0) = (x1, x2) := by rw [← List.getD_eq_getElem?_getD]; exact hq
          have hL4 : Lg h3 v3 3 1 (n + 1) (ints ((tooks l).take n ++ [x2 + 1])) := by simpa [ints] using hL3
          simp (maxSteps := 2000000) -implicitDefEqProofs [px_skip, px_label, px_region, px_draw, qx_seq, qx_cond, px_block, px_loop, px_scope, px_exit, px_ret, seqK_normal, seqK_exit, seqK_ret, condK_true, condK_false, opsK_some, wK_true, wK_false, itK_some, aops_nil, aops_cons, lK_some, aK_some, hK_some, dwK_true, dwK_false, diK_some, dK_light, dK_alloc, dK_heavy, adraw_nil, adraw_cons, aop, cls, light, lightS, binE, aeq, intBin, goInt, pl_int, pl_bool, pl_ptr, pl_slice, aload, isAggT, aeval, tput, awanted, List.range_succ, fin, aresults, aresult, List.replicate, heavy, acallOp, aenter, ble_d, beq_d, firstRegion, readNames, Nxt, isAnc, readsOk, objEq_some, Tryz.underlying22, Tryz.underlying24, Tryz.underlying3, hnl, aindexAddr, sz53, hgt', p2', fa53_1, (fun ρ x => bs24_1 ρ x (x2 + 1)), e3, hw2]
          refine ⟨_, _, _, ⟨rfl, rfl, rfl⟩, ?_⟩
          simp only
          refine ⟨n, hnl, ?_, rfl, rfl, hkk, ?_⟩
          · rw [hq']; exact hn.trans hnK
          · rw [hq']; exact hL4
    subst hx
    rcases hR with ⟨rfl, rfl, hnone, x14, x15, rfl⟩ | ⟨rfl, k, v', hk, hsome, t2, t3, t4, hK, hL⟩
    · simp (maxSteps := 2000000) -implicitDefEqProofs [px_skip, px_label, px_region, px_draw, qx_seq, qx_cond, px_block, px_loop, px_scope, px_exit, px_ret, seqK_normal, seqK_exit, seqK_ret, condK_true, condK_false, opsK_some, wK_true, wK_false, itK_some, aops_nil, aops_cons, lK_some, aK_some, hK_some, dwK_true, dwK_false, diK_some, dK_light, dK_alloc, dK_heavy, adraw_nil, adraw_cons, aop, cls, light, lightS, binE, aeq, intBin, goInt, pl_int, pl_bool, pl_ptr, pl_slice, aload, isAggT, aeval, tput, awanted, List.range_succ, fin, aresults, aresult, List.replicate, heavy, acallOp, aenter, ble_d, beq_d, firstRegion, readNames, Nxt, isAnc, readsOk, objEq_some, hnone, hr]
      exact ⟨_, _, ⟨rfl, rfl⟩, _, rfl, Keep.refl _ _, SlN h'⟩
    · simp (maxSteps := 2000000) -implicitDefEqProofs [px_skip, px_label, px_region, px_draw, qx_seq, qx_cond, px_block, px_loop, px_scope, px_exit, px_ret, seqK_normal, seqK_exit, seqK_ret, condK_true, condK_false, opsK_some, wK_true, wK_false, itK_some, aops_nil, aops_cons, lK_some, aK_some, hK_some, dwK_true, dwK_false, diK_some, dK_light, dK_alloc, dK_heavy, adraw_nil, adraw_cons, aop, cls, light, lightS, binE, aeq, intBin, goInt, pl_int, pl_bool, pl_ptr, pl_slice, aload, isAggT, aeval, tput, awanted, List.range_succ, fin, aresults, aresult, List.replicate, heavy, acallOp, aenter, ble_d, beq_d, firstRegion, readNames, Nxt, isAnc, readsOk, objEq_some, hsome, hr, t2, t3, t4]
      have hmin : min k (tooks l).length = k := by rw [tooks_len]; omega
      refine ⟨_, _, ⟨rfl, rfl⟩, _, rfl, hK, ?_⟩
      rw [hmin, ← List.getD_eq_getElem?_getD]
      exact hL.sl
end Go.Proofs.YthhhmmildgijhaaGreatDoor.Ex
