/- A log's raw numbers: in the second writing, and the program's. -/
import Derived.Test.YthkefkpmgleolaaOr10
set_option linter.unusedVariables false
set_option linter.unusedSimpArgs false
namespace Go.Proofs.Ythkefkpmgleolaa.Or
open Go Go.Proofs Go.RowKit Go.Proofs.YthkefkpmgleolaaAI

theorem sT22 (r : Nat) : sT 22 r = [1, 6, 7, 8, 9, 10, 11, 12, 13, 14, 15, 16, 17, 18, 19, 20, 21, 22, 23] := by rfl
theorem bs29_1' (a) (d ty pos af gu) : aalloc Try.prog (fun _ => .int .i64 a) ⟨d, .buildSlice 29 1 #[(0, .tmp 0)], ty, pos, af, gu⟩ = some (.cells [.int .i64 a] 3 1 false false, fun n => .slice (some ⟨n, 0, none⟩) 1 1) := by kernel_rfl
theorem bs29_1 (ρ : Operand → Value) (x a) (hx : ρ x = .int .i64 a) (d ty pos af gu) : aalloc Try.prog ρ ⟨d, .buildSlice 29 1 #[(0, x)], ty, pos, af, gu⟩ = some (.cells [.int .i64 a] 3 1 false false, fun n => .slice (some ⟨n, 0, none⟩) 1 1) := by
  have h1 : aalloc Try.prog ρ ⟨d, .buildSlice 29 1 #[(0, x)], ty, pos, af, gu⟩ = aalloc Try.prog (fun _ => ρ x) ⟨d, .buildSlice 29 1 #[(0, .tmp 0)], ty, pos, af, gu⟩ := by simp [aalloc]
  rw [h1, hx]; exact bs29_1' _ _ _ _ _ _

def tooks (l : List (Int × Int)) : List Int := l.map (·.2)
theorem take_tooks (l : List (Int × Int)) {i : Nat} (hi : i < l.length) : (tooks l).take (i + 1) = (tooks l).take i ++ [(l.getD i (0, 0)).2] := by
  have h1 : i < (tooks l).length := by simpa [tooks] using hi
  rw [List.take_add_one, List.getElem?_eq_getElem h1]
  simp [tooks, List.getD_eq_getElem?_getD, List.getElem?_eq_getElem hi]

set_option maxHeartbeats 800000 in
theorem rof_run {h : Heap} {v : Value} {l : List (Int × Int)} (hv : Sl h v 2 l.length (picks l)) (hlen : l.length * 8 ≤ 2 ^ 47) :
    (goodB l = false → run Try.prog sT 22 [v] h = some (.tuple #[.slice none 0 0, .int .i64 2], h)) ∧
    (goodB l = true → ∃ v' h', run Try.prog sT 22 [v] h = some (.tuple #[v', .int .i64 0], h') ∧ Lg h' v' 3 1 l.length (ints (tooks l)) ∧ Keep No h h' ∧ ∀ m, nm v' = some m → h.next ≤ m) := by
  have eg := good_run hv (by omega)
  obtain ⟨a, c, rfl⟩ : ∃ a c, v = .slice a l.length c := by
    rcases sl_cut hv with ⟨rfl, h0⟩ | ⟨a, c, rfl⟩
    · exact ⟨none, 0, by rw [h0]⟩
    · exact ⟨_, _, rfl⟩
  constructor
  · intro hB
    rw [hB] at eg
    refine run_finP (fun _ => ([], [])) Try.func22 rfl (by kernel_rfl) ?_
    simp (maxSteps := 2000000) -implicitDefEqProofs [Try.f22, px_skip, px_label, px_region, px_draw, qx_seq, qx_cond, px_block, px_loop, px_scope, px_exit, px_ret, seqK_normal, seqK_exit, seqK_ret, condK_true, condK_false, opsK_some, wK_true, wK_false, itK_some, aops_nil, aops_cons, lK_some, aK_some, hK_some, dwK_true, dwK_false, diK_some, dK_light, dK_alloc, dK_heavy, adraw_nil, adraw_cons, aop, cls, light, lightS, binE, aeq, intBin, goInt, pl_int, pl_bool, pl_ptr, pl_slice, aload, isAggT, aeval, tput, awanted, List.range_succ, fin, aresults, aresult, List.replicate, heavy, acallOp, aenter, ble_d, beq_d, firstRegion, readNames, Nxt, isAnc, readsOk, objEq_some, en26, eg]
  · intro hB
    rw [hB] at eg
    suffices hx : ∃ y, fin Try.prog Try.f22 (aexecP Try.prog (sT 22) (run Try.prog sT) loopω (fun _ => ([], [])) (Try.f22.body.getD .skip) ([.slice a l.length c] ++ List.replicate (Try.f22.ntmps - 1) undef) h) = some y ∧ ∃ v', y.1 = .tuple #[v', .int .i64 0] ∧ Lg y.2 v' 3 1 l.length (ints (tooks l)) ∧ Keep No h y.2 ∧ ∀ m, nm v' = some m → h.next ≤ m by
      obtain ⟨⟨y1, y2⟩, hy, v', rfl, q⟩ := hx
      exact ⟨v', y2, run_finP _ Try.func22 rfl (by kernel_rfl) hy, q⟩
    simp (maxSteps := 2000000) -implicitDefEqProofs [Try.f22, px_skip, px_label, px_region, px_draw, qx_seq, qx_cond, px_block, px_loop, px_scope, px_exit, px_ret, seqK_normal, seqK_exit, seqK_ret, condK_true, condK_false, opsK_some, wK_true, wK_false, itK_some, aops_nil, aops_cons, lK_some, aK_some, hK_some, dwK_true, dwK_false, diK_some, dK_light, dK_alloc, dK_heavy, adraw_nil, adraw_cons, aop, cls, light, lightS, binE, aeq, intBin, goInt, pl_int, pl_bool, pl_ptr, pl_slice, aload, isAggT, aeval, tput, awanted, List.range_succ, fin, aresults, aresult, List.replicate, heavy, acallOp, aenter, ble_d, beq_d, firstRegion, readNames, Nxt, isAnc, readsOk, objEq_some, en26, eg, sT22]
    generalize hl : loopω _ _ _ _ = r
    obtain ⟨e, t', h', hx, rfl, v', x9, x10, x11, x12, rfl, hL, hK, hN⟩ : ∃ e t' h', r = some (e, t', h') ∧ e = .exit 0 ∧ ∃ v' x9 x10 x11 x12, t' = [.slice a l.length c, unk, .slice none 0 0, .int .i64 0, v', .int .i64 l.length, unk, unk, unk, x9, x10, x11, x12, unk, unk, unk, unk, unk, unk, unk, unk, unk, unk, unk] ∧ Lg h' v' 3 1 l.length (ints (tooks l)) ∧ Keep No h h' ∧ ∀ m, nm v' = some m → h.next ≤ m := by
      rw [← hl]
      refine loop_by (fun k t h' => ∃ i v', i + k = l.length ∧ forget [1, 6, 7, 8, 9, 10, 11, 12, 13, 14, 15, 16, 17, 18, 19, 20, 21, 22, 23] t = [.slice a l.length c, unk, .slice none 0 0, .int .i64 0, v', .int .i64 i, unk, unk, unk, unk, unk, unk, unk, unk, unk, unk, unk, unk, unk, unk, unk, unk, unk, unk] ∧ Lg h' v' 3 1 i (ints ((tooks l).take i)) ∧ Keep No h h' ∧ ∀ m, nm v' = some m → h.next ≤ m)
        (fun e t' h' => e = .exit 0 ∧ ∃ v' x9 x10 x11 x12, t' = [.slice a l.length c, unk, .slice none 0 0, .int .i64 0, v', .int .i64 l.length, unk, unk, unk, x9, x10, x11, x12, unk, unk, unk, unk, unk, unk, unk, unk, unk, unk, unk] ∧ Lg h' v' 3 1 l.length (ints (tooks l)) ∧ Keep No h h' ∧ ∀ m, nm v' = some m → h.next ≤ m) ?_ l.length _ _ ⟨0, _, by omega, by kernel_rfl, Lg.nil _ _ _, Keep.refl _ _, fun m e => by cases e⟩
      rintro k t h' ⟨i, v', hi, ht, hL, hK, hN⟩
      rw [ht]
      rcases Nat.lt_or_ge i l.length with h1 | h1
      · obtain ⟨a, c, C, e, s, gr, ro, ea, hgt, hf, hd, p1, p2⟩ := sl_pick (hv.keep hK (fun _ _ x => x)) h1
        simp only [Value.slice.injEq, true_and] at ea
        obtain ⟨rfl, rfl⟩ := ea
        have hw : IntKind.i64.wrap ((i : Int) + 1) = ((i + 1 : Nat) : Int) := by rw [IntWalk.i64_in _ (by omega)]; omega
        have hii : ((i + 1 : Nat) : Int) = (i : Int) + 1 := by omega
        have htk := take_tooks l h1
        generalize hq : l.getD i (0, 0) = q at *
        obtain ⟨q1, q2⟩ := q
        simp only at p1 p2 htk
        have hx1 : Sl (h'.new (.cells [.int .i64 q2] 3 1 false false)) (.slice (some ⟨h'.next, 0, none⟩) 1 1) 1 1 [.int .i64 q2] := ⟨rfl, .inr ⟨_, _, rfl, fun _ => ⟨_, _, _, _, _, by rw [Heap.get_new, if_pos rfl], rfl⟩⟩⟩
        obtain ⟨v2, h2, e2, hL2, hk2, ho2, _, hf2⟩ := append_lg (t := 29) (xt := 29) Try.underlying29 Try.underlying29 rfl el3 (hL.keep (Keep.new No h' (.cells [.int .i64 q2] 3 1 false false)) (fun _ _ x => x)) hx1 (by omega) (by omega) rfl
        obtain ⟨m', em, hm'⟩ := hf2 (by omega)
        rw [Heap.next_new] at hm'
        have hkk : Keep No h h2 := (hK.trans (Keep.new No h' _)).also hk2 fun m hm x => by have := hN m x; omega
        simp (maxSteps := 2000000) -implicitDefEqProofs [px_skip, px_label, px_region, px_draw, qx_seq, qx_cond, px_block, px_loop, px_scope, px_exit, px_ret, seqK_normal, seqK_exit, seqK_ret, condK_true, condK_false, opsK_some, wK_true, wK_false, itK_some, aops_nil, aops_cons, lK_some, aK_some, hK_some, dwK_true, dwK_false, diK_some, dK_light, dK_alloc, dK_heavy, adraw_nil, adraw_cons, aop, cls, light, lightS, binE, aeq, intBin, goInt, pl_int, pl_bool, pl_ptr, pl_slice, aload, isAggT, aeval, tput, awanted, List.range_succ, fin, aresults, aresult, List.replicate, heavy, acallOp, aenter, ble_d, beq_d, firstRegion, readNames, Nxt, isAnc, readsOk, objEq_some, Try.underlying32, Try.underlying29, Try.underlying3, h1, aindexAddr, sz49, hgt, p2, fa49_1, (fun ρ x => bs29_1 ρ x q2), e2, hw]
        refine ⟨k - 1, by omega, i + 1, by omega, v2, by simp only [forget, List.set_cons_succ, List.set_cons_zero, hii], ?_, hkk, fun m e => ?_⟩
        · rw [htk]; simpa [ints] using hL2
        · rw [em] at e; cases e; have := hK.1; omega
      · have hi' : i = l.length := by omega
        subst hi'
        have htk : (tooks l).take l.length = tooks l := List.take_of_length_le (by simp [tooks])
        rw [htk] at hL
        simp (maxSteps := 2000000) -implicitDefEqProofs [px_skip, px_label, px_region, px_draw, qx_seq, qx_cond, px_block, px_loop, px_scope, px_exit, px_ret, seqK_normal, seqK_exit, seqK_ret, condK_true, condK_false, opsK_some, wK_true, wK_false, itK_some, aops_nil, aops_cons, lK_some, aK_some, hK_some, dwK_true, dwK_false, diK_some, dK_light, dK_alloc, dK_heavy, adraw_nil, adraw_cons, aop, cls, light, lightS, binE, aeq, intBin, goInt, pl_int, pl_bool, pl_ptr, pl_slice, aload, isAggT, aeval, tput, awanted, List.range_succ, fin, aresults, aresult, List.replicate, heavy, acallOp, aenter, ble_d, beq_d, firstRegion, readNames, Nxt, isAnc, readsOk, objEq_some, Try.underlying32]
        exact ⟨hL, hK, hN⟩
    subst hx
    simp (maxSteps := 2000000) -implicitDefEqProofs [px_skip, px_label, px_region, px_draw, qx_seq, qx_cond, px_block, px_loop, px_scope, px_exit, px_ret, seqK_normal, seqK_exit, seqK_ret, condK_true, condK_false, opsK_some, wK_true, wK_false, itK_some, aops_nil, aops_cons, lK_some, aK_some, hK_some, dwK_true, dwK_false, diK_some, dK_light, dK_alloc, dK_heavy, adraw_nil, adraw_cons, aop, cls, light, lightS, binE, aeq, intBin, goInt, pl_int, pl_bool, pl_ptr, pl_slice, aload, isAggT, aeval, tput, awanted, List.range_succ, fin, aresults, aresult, List.replicate, heavy, acallOp, aenter, ble_d, beq_d, firstRegion, readNames, Nxt, isAnc, readsOk, objEq_some]
    first | exact ⟨v', rfl, hL, hK, hN⟩ | exact ⟨_, rfl, v', rfl, hL, hK, hN⟩ | exact ⟨_, _, ⟨rfl, rfl⟩, v', rfl, hL, hK, hN⟩ | (trace_state; sorry)
end Go.Proofs.Ythkefkpmgleolaa.Or
