/- The raw numbers of any log: the law. -/
import Derived.Test.YthkefkpmgleolaaOr12
import Derived.Test.YthkefkpmgleolaaAI19
set_option linter.unusedVariables false
set_option linter.unusedSimpArgs false
namespace Go.Proofs.Ythkefkpmgleolaa.Or
open Go Go.Proofs Go.RowKit Go.Proofs.YthkefkpmgleolaaAI

theorem wakesO : ∃ h', run Try.prog sT 11 [] .empty = some (.bool true, h') := run_shut 1000 (by kernel_rfl)
theorem sT9 (r : Nat) : sT 9 r = [1, 4, 6, 7, 8, 9, 10, 11, 12, 13, 14, 15, 16, 17, 18, 19, 20, 21, 22, 23, 24, 25, 26, 27, 28, 29, 30, 31, 32, 35, 36, 37, 38, 39, 40, 41, 42, 43, 44, 45, 46] := by rfl
def pl9_10 : List Nat := [0, 1, 2, 3, 4, 5, 6, 7, 8]
def an9_10 : List (List Nat) := [[], [], [0, 1], [2, 0, 1], [], [], [4, 5], [6, 4, 5], [3, 2, 0, 1, 7, 6, 4, 5]]
def pt9 : PlanTab := fun _ => (pl9_10, an9_10)
theorem pt9_10 (i : Nat) : pt9 i = (pl9_10, an9_10) := rfl

theorem fresh_picks {h : Heap} {v : Value} {k : Nat} {cs : List Value} (hv : Sl h v 2 k cs) (h1 : cs.all one = true) (hk : k * 16 ≤ 2 ^ 47) :
    ∃ v' h', aappend Try.prog 32 32 (.slice (some ⟨h.next, 0, none⟩) 0 0) v (h.new (.cells [] 49 2 false false)) = some (v', h') ∧ Lg h' v' 49 2 k cs ∧ Keep No h h' := by
  obtain ⟨v', h', e, hl, hkp, hn, _, hf⟩ := append_lg (t := 32) (xt := 32) Try.underlying32 Try.underlying32 rfl el49 (Lg.empty (h.new (.cells [] 49 2 false false)) 49 2 h.next 0) (hv.keep (Keep.new No h _) (fun _ _ x => x)) (by omega) (by omega) h1
  exact ⟨v', h', e, by simpa using hl, (Keep.new No h _).also hkp fun m hm x => by have := (nm_eq x).1; omega⟩

set_option maxHeartbeats 1600000 in
theorem ofLaw {h : Heap} {v : Value} {l : List (Int × Int)} (hv : Sl h v 2 l.length (picks l)) (hlen : l.length * 16 ≤ 2 ^ 47) : ∃ h', run Try.prog sT 9 [v] h = some (.bool true, h') := by
  obtain ⟨hw, w⟩ := wakesO
  obtain ⟨v1, hA, e1, hl1, k1⟩ := fresh_picks hv (picks_one _) hlen
  obtain ⟨v2, hB, e2, k2, q2, q3⟩ := of_run hl1.sl (by omega)
  have hvB := (hv.keep k1 (fun _ _ x => x)).keep k2 (fun _ _ x => x)
  obtain ⟨n3, y3⟩ := rof_run hvB (by omega)
  obtain ⟨v3, hC, ls, e3, s2, s3, hll⟩ : ∃ v3 hC, ∃ ls : List Int, run Try.prog sT 22 [v] hB = some (.tuple #[v3, .int .i64 (if goodB l then 0 else 2)], hC) ∧ Sl hC v2 1 ls.length (ints ls) ∧ Sl hC v3 1 ls.length (ints ls) ∧ ls.length ≤ l.length := by
    cases hB' : goodB l with
    | false =>
      refine ⟨_, _, [], n3 hB', ?_, ⟨rfl, .inl ⟨rfl, rfl⟩⟩, by simp⟩
      rw [q3 hB']; exact ⟨rfl, .inl ⟨rfl, rfl⟩⟩
    | true =>
      obtain ⟨v3, hC, e3, L3, k3, _⟩ := y3 hB'
      have ht : (tooks l).length = l.length := by simp [tooks]
      refine ⟨v3, hC, tooks l, e3, ?_, ?_, by omega⟩
      · rw [ht]; exact (q2 hB').keep k3 (fun _ _ x => x)
      · rw [ht]; exact L3.sl
  obtain ⟨a, c, rfl⟩ : ∃ a c, v2 = .slice a ls.length c := by
    rcases sl_cut s2 with ⟨rfl, h0⟩ | ⟨a, c, rfl⟩
    · exact ⟨none, 0, by rw [h0]⟩
    · exact ⟨_, _, rfl⟩
  obtain ⟨b, d, rfl⟩ : ∃ a c, v3 = .slice a ls.length c := by
    rcases sl_cut s3 with ⟨rfl, h0⟩ | ⟨a, c, rfl⟩
    · exact ⟨none, 0, by rw [h0]⟩
    · exact ⟨_, _, rfl⟩
  clear q2 q3 n3 y3
  generalize (if goodB l then (0 : Int) else 2) = res at *
  suffices hx : ∃ y, fin Try.prog Try.f9 (aexecP Try.prog (sT 9) (run Try.prog sT) loopω pt9 (Try.f9.body.getD .skip) ([v] ++ List.replicate (Try.f9.ntmps - 1) undef) h) = some y ∧ y.1 = .bool true by
    obtain ⟨⟨y1, y2⟩, hy, rfl⟩ := hx
    exact ⟨y2, run_finP pt9 Try.func9 rfl (by kernel_rfl) hy⟩
  simp (maxSteps := 2000000) -implicitDefEqProofs [Try.f9, px_skip, px_label, px_region, px_draw, qx_seq, qx_cond, px_block, px_loop, px_scope, px_exit, px_ret, seqK_normal, seqK_exit, seqK_ret, condK_true, condK_false, opsK_some, wK_true, wK_false, itK_some, aops_nil, aops_cons, lK_some, aK_some, hK_some, dwK_true, dwK_false, diK_some, dK_light, dK_alloc, dK_heavy, adraw_nil, adraw_cons, aop, cls, light, lightS, binE, aeq, intBin, goInt, pl_int, pl_bool, pl_ptr, pl_slice, aload, isAggT, aeval, tput, awanted, List.range_succ, fin, aresults, aresult, List.replicate, heavy, acallOp, aenter, ble_d, beq_d, firstRegion, readNames, Nxt, isAnc, readsOk, objEq_some, w, en11, en21, en22, bs32, e1, e2, e3, ibne, Try.underlying29, sT9]
  generalize hl : loopω _ _ _ _ = r
  obtain ⟨e, t', h', hx, he, x35, ht⟩ : ∃ e t' h', r = some (e, t', h') ∧ e = .exit 0 ∧ ∃ x35, t' = [v, unk, .bool false, .slice a ls.length c, unk, .slice b ls.length d, unk, unk, unk, unk, unk, unk, unk, unk, unk, unk, unk, unk, unk, unk, unk, unk, unk, unk, unk, unk, unk, unk, unk, unk, unk, unk, unk, .int .i64 ls.length, .int .i64 ls.length, x35, unk, unk, unk, unk, unk, unk, unk, unk, unk, unk, unk] := by
    rw [← hl]
    refine loop_by (fun k t h' => ∃ i, i + k = ls.length ∧ forget [1, 4, 6, 7, 8, 9, 10, 11, 12, 13, 14, 15, 16, 17, 18, 19, 20, 21, 22, 23, 24, 25, 26, 27, 28, 29, 30, 31, 32, 35, 36, 37, 38, 39, 40, 41, 42, 43, 44, 45, 46] t = [v, unk, .bool false, .slice a ls.length c, unk, .slice b ls.length d, unk, unk, unk, unk, unk, unk, unk, unk, unk, unk, unk, unk, unk, unk, unk, unk, unk, unk, unk, unk, unk, unk, unk, unk, unk, unk, unk, .int .i64 ls.length, .int .i64 i, unk, unk, unk, unk, unk, unk, unk, unk, unk, unk, unk, unk] ∧ h' = hC)
      (fun e t' h' => e = .exit 0 ∧ ∃ x35, t' = [v, unk, .bool false, .slice a ls.length c, unk, .slice b ls.length d, unk, unk, unk, unk, unk, unk, unk, unk, unk, unk, unk, unk, unk, unk, unk, unk, unk, unk, unk, unk, unk, unk, unk, unk, unk, unk, unk, .int .i64 ls.length, .int .i64 ls.length, x35, unk, unk, unk, unk, unk, unk, unk, unk, unk, unk, unk]) ?_ ls.length _ _ ⟨0, by omega, by simp only [forget, List.set_cons_succ, List.set_cons_zero]; rfl, rfl⟩
    rintro k t h' ⟨i, hi, ht, rfl⟩
    rw [ht]
    rcases Nat.lt_or_ge i ls.length with h1 | h1
    · obtain ⟨a, c, C, e, s, gr, ro, ea, hg, hc⟩ := sl_index s2 h1
      obtain ⟨b, d, C', e', s', gr', ro', eb, hg', hc'⟩ := sl_index s3 h1
      simp only [Value.slice.injEq, true_and] at ea eb
      obtain ⟨rfl, rfl⟩ := ea
      obtain ⟨rfl, rfl⟩ := eb
      have hw : IntKind.i64.wrap ((i : Int) + 1) = ((i + 1 : Nat) : Int) := by rw [IntWalk.i64_in _ (by omega)]; omega
      have hii : ((i + 1 : Nat) : Int) = (i : Int) + 1 := by omega
      generalize ls.getD i 0 = q at *
      simp (maxSteps := 2000000) -implicitDefEqProofs [px_skip, px_label, px_region, px_draw, qx_seq, qx_cond, px_block, px_loop, px_scope, px_exit, px_ret, seqK_normal, seqK_exit, seqK_ret, condK_true, condK_false, opsK_some, wK_true, wK_false, itK_some, aops_nil, aops_cons, lK_some, aK_some, hK_some, dwK_true, dwK_false, diK_some, dK_light, dK_alloc, dK_heavy, adraw_nil, adraw_cons, aop, cls, light, lightS, binE, aeq, intBin, goInt, pl_int, pl_bool, pl_ptr, pl_slice, aload, isAggT, aeval, tput, awanted, List.range_succ, fin, aresults, aresult, List.replicate, heavy, acallOp, aenter, ble_d, beq_d, firstRegion, readNames, Nxt, isAnc, readsOk, objEq_some, pt9_10, pl9_10, an9_10, ibne, Try.underlying29, Try.underlying3, h1, aindexAddr, sz3, hg, hg', hc, hc', hw]
      exact ⟨k - 1, by omega, i + 1, by omega, by simp only [forget, List.set_cons_succ, List.set_cons_zero, hii]⟩
    · have hi' : i = ls.length := by omega
      subst hi'
      simp (maxSteps := 2000000) -implicitDefEqProofs [px_skip, px_label, px_region, px_draw, qx_seq, qx_cond, px_block, px_loop, px_scope, px_exit, px_ret, seqK_normal, seqK_exit, seqK_ret, condK_true, condK_false, opsK_some, wK_true, wK_false, itK_some, aops_nil, aops_cons, lK_some, aK_some, hK_some, dwK_true, dwK_false, diK_some, dK_light, dK_alloc, dK_heavy, adraw_nil, adraw_cons, aop, cls, light, lightS, binE, aeq, intBin, goInt, pl_int, pl_bool, pl_ptr, pl_slice, aload, isAggT, aeval, tput, awanted, List.range_succ, fin, aresults, aresult, List.replicate, heavy, acallOp, aenter, ble_d, beq_d, firstRegion, readNames, Nxt, isAnc, readsOk, objEq_some]
  subst hx he ht
  simp (maxSteps := 2000000) -implicitDefEqProofs [px_skip, px_label, px_region, px_draw, qx_seq, qx_cond, px_block, px_loop, px_scope, px_exit, px_ret, seqK_normal, seqK_exit, seqK_ret, condK_true, condK_false, opsK_some, wK_true, wK_false, itK_some, aops_nil, aops_cons, lK_some, aK_some, hK_some, dwK_true, dwK_false, diK_some, dK_light, dK_alloc, dK_heavy, adraw_nil, adraw_cons, aop, cls, light, lightS, binE, aeq, intBin, goInt, pl_int, pl_bool, pl_ptr, pl_slice, aload, isAggT, aeval, tput, awanted, List.range_succ, fin, aresults, aresult, List.replicate, heavy, acallOp, aenter, ble_d, beq_d, firstRegion, readNames, Nxt, isAnc, readsOk, objEq_some]

theorem of_calls (W : World) {a0 : Option Addr} {len0 cap0 : Nat} {l0 : List (Int × Int)} (w0 : PairsAt W a0 len0 cap0 l0) (y0 : len0 * 16 ≤ 140737488351232) :
    Calls Try.prog 9 #[.slice a0 len0 cap0] W fun e W' => e = .returned (.bool true) ∧ Below W.heap.size W W' := by
  obtain ⟨h, σ, v, hr, hro, _, _, hv, hs, hu, _⟩ := arg_pairs (h := .empty) (σ := fun _ => ⟨0, 0, 0⟩) (Rep.none _ W (Nat.le_refl _) _) allRo_empty 49 w0
  obtain ⟨h', e⟩ := ofLaw (l := l0) hs (by have := w0.1; omega)
  exact law_calls mix hro e rfl hr (.cons hv .nil)
end Go.Proofs.Ythkefkpmgleolaa.Or
