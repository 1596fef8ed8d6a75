/- The comparison of two logs, and the check of a log. -/
import Derived.Test.YthkefkpmgleolaaOr7
import Derived.Test.YthkefkpmgleolaaAI16
import Derived.IntWalk
set_option linter.unusedVariables false
set_option linter.unusedSimpArgs false
namespace Go.Proofs.Ythkefkpmgleolaa.Or
open Go Go.Proofs Go.RowKit Go.Proofs.YthkefkpmgleolaaAI

/-- The slots that are forgotten at a loop's head. -/
def sT : Scr := fun f r => if f = 8 then (if r = 8 then [2, 3, 7, 8, 9, 10, 11, 12, 13, 14, 15, 16, 17, 18, 19, 20, 21, 22, 23, 24, 25, 26, 27, 28, 29, 30, 31, 32, 33, 34, 35, 36, 37, 38, 39, 40, 41, 42, 43, 44, 45, 46, 47, 48, 49, 52, 53, 54, 55, 56, 57, 58, 59, 60, 61, 62, 63, 64, 65, 66, 67, 68, 69, 70, 71, 72, 73, 74, 75, 76, 77, 78, 79, 80, 81, 82, 83, 84, 85, 86, 87, 88, 89, 90, 91, 92, 93, 94, 95, 96, 97, 98, 99, 100, 101, 102, 103, 104, 105, 106, 107, 108, 109, 110, 111, 112, 113, 114, 115, 116, 117, 118, 119, 120, 121, 122, 123, 124, 125, 126, 127, 128, 129, 130, 131, 132, 133] else if r = 14 then [2, 3, 5, 7, 9, 10, 11, 12, 13, 14, 15, 16, 17, 18, 19, 20, 21, 22, 23, 24, 25, 26, 27, 28, 29, 30, 31, 32, 33, 34, 35, 36, 37, 38, 39, 40, 41, 42, 43, 44, 45, 46, 47, 48, 49, 50, 51, 52, 53, 54, 55, 56, 57, 58, 59, 60, 63, 64, 65, 66, 67, 68, 69, 70, 71, 72, 73, 74, 75, 76, 77, 78, 79, 80, 81, 82, 83, 84, 85, 86, 87, 88, 89, 90, 91, 92, 93, 94, 95, 96, 97, 98, 99, 100, 101, 102, 103, 104, 105, 106, 107, 108, 109, 110, 111, 112, 113, 114, 115, 116, 117, 118, 119, 120, 121, 122, 123, 124, 125, 126, 127, 128, 129, 130, 131, 132, 133] else if r = 24 then [0, 1, 2, 3, 5, 7, 9, 10, 11, 12, 15, 16, 17, 18, 19, 20, 21, 22, 23, 24, 25, 26, 27, 28, 29, 30, 31, 32, 33, 34, 35, 36, 37, 38, 39, 40, 41, 42, 43, 44, 45, 46, 47, 48, 49, 50, 51, 52, 53, 54, 55, 56, 57, 58, 59, 60, 61, 62, 63, 64, 65, 66, 67, 68, 69, 70, 71, 72, 73, 74, 75, 76, 77, 78, 79, 80, 81, 82, 83, 84, 85, 86, 87, 88, 89, 90, 91, 92, 95, 96, 97, 98, 99, 100, 101, 102, 103, 104, 105, 106, 107, 108, 109, 110, 111, 112, 113, 114, 115, 116, 117, 118, 119, 120, 121, 122, 123, 124, 125, 126, 127, 128, 129, 130, 131, 132, 133] else [0, 1, 2, 3, 5, 7, 9, 10, 11, 12, 15, 17, 18, 19, 20, 21, 22, 23, 24, 25, 26, 27, 28, 29, 30, 31, 32, 33, 34, 35, 36, 37, 38, 39, 40, 41, 42, 43, 44, 45, 46, 47, 48, 49, 50, 51, 52, 53, 54, 55, 56, 57, 58, 59, 60, 61, 62, 63, 64, 65, 66, 67, 68, 69, 70, 71, 72, 73, 74, 75, 76, 77, 78, 79, 80, 81, 82, 83, 84, 85, 86, 87, 88, 89, 90, 91, 92, 93, 94, 95, 96, 97, 98, 99, 100, 101, 102, 103, 104, 105, 106, 107, 108, 109, 110, 111, 112, 113, 114, 115, 116, 117, 118, 119, 120, 121, 122, 123, 124, 125, 126, 127, 128, 129, 130, 131, 132, 133]) else if f = 18 then [2, 3, 6, 7, 8, 9, 10, 11, 12, 13, 14, 15, 16, 17, 18, 19, 20, 21, 22, 23, 24, 25] else if f = 26 then [1, 4, 5, 6, 7, 8, 9, 10, 11, 12, 13, 14, 15, 16, 17, 18, 19, 20, 21, 22, 23, 24, 25, 26, 27, 28, 29, 30, 31, 32, 33, 34, 35, 36] else if f = 22 then [1, 6, 7, 8, 9, 10, 11, 12, 13, 14, 15, 16, 17, 18, 19, 20, 21, 22, 23] else if f = 21 then [1, 5, 6, 7, 8, 9, 13, 14, 15, 16, 17, 18, 19, 20, 21, 22, 23, 24, 25, 26, 27, 28, 29, 30, 31, 32, 33, 34, 35, 36, 37] else if f = 9 then [1, 4, 6, 7, 8, 9, 10, 11, 12, 13, 14, 15, 16, 17, 18, 19, 20, 21, 22, 23, 24, 25, 26, 27, 28, 29, 30, 31, 32, 35, 36, 37, 38, 39, 40, 41, 42, 43, 44, 45, 46] else if f = 6 then [3, 4, 5, 9, 12, 13, 14, 15, 16, 18, 19, 20, 21, 22, 23, 24, 25, 26, 27, 28, 29, 30, 31, 32, 35, 36, 37, 38, 39, 40, 41, 42, 43, 44, 45, 46, 47, 48, 49, 50, 51, 52, 53, 54, 55, 56, 57, 58, 59, 60, 61, 62, 63, 64, 65, 66, 67, 68, 69, 70, 71, 72, 73, 74, 75, 78, 79, 80, 81, 82, 83, 84, 85, 86, 87, 88, 89, 90, 91, 92, 93, 94, 95, 96, 97, 98, 99, 100, 101, 102, 103, 104, 105, 106, 107, 108, 109, 110, 111, 112, 113, 114, 115, 116, 117, 118, 119, 120, 121, 122, 123, 124, 125, 126, 127, 128, 129, 130, 131, 132, 133, 134, 135, 136, 137, 138, 139, 140, 141, 142, 143, 144, 145, 146, 147, 148, 149, 150, 151, 152, 153, 154, 155, 156, 157, 158, 159, 160, 161, 162, 163, 164, 165, 166, 167, 168, 169] else if f = 10 then [2, 3, 6, 7, 8, 10, 11, 13, 14, 15, 16, 17, 18, 19, 20, 21, 22, 23, 24, 27, 28, 29, 30, 31, 32, 33, 34, 35, 36, 37, 38, 39, 40, 41, 42, 43, 44, 45, 46, 47, 48, 49, 50, 51, 52, 53, 54, 55, 56, 57, 58, 59, 60, 61, 62, 63, 64, 65, 66, 67, 68, 69, 70, 71, 72, 73, 74, 75, 78, 79, 80, 81, 82, 83, 84, 85, 86, 87, 88, 89, 90, 91, 92, 93, 94, 95, 96, 97, 98, 99, 100, 101, 102, 103, 104, 105, 106, 107, 108, 109, 110] else if f = 4 then [2, 3, 7, 8, 9, 10, 11, 12, 13, 14, 15, 16, 17, 18, 19, 20, 21, 22, 23, 26, 27, 28, 29, 30, 31, 32, 33, 34, 35, 36, 37, 38, 39, 40, 41, 42, 43, 44, 45, 46, 47, 48, 49, 50, 51, 52, 53, 54, 55, 56, 57, 58, 59, 60, 61, 62, 63, 64, 65, 66, 67, 68, 69, 70, 71, 72, 73, 74, 75, 76, 77, 78, 79, 80, 81, 82, 83, 84, 85] else []
theorem sT18 (r : Nat) : sT 18 r = [2, 3, 6, 7, 8, 9, 10, 11, 12, 13, 14, 15, 16, 17, 18, 19, 20, 21, 22, 23, 24, 25] := by rfl

theorem aggOk49 : aggOk Try.prog 49 = true := by kernel_rfl
theorem aeq49 (a b c e : Int) (g : Nat → Option AObj) : aeq Try.prog 49 (.agg #[.int .i64 a, .int .i64 b]) (.agg #[.int .i64 c, .int .i64 e]) g = some ((a == c) && ((b == e) && true)) := by kernel_rfl

theorem picks_get (l : List (Int × Int)) (i : Nat) (hi : i < l.length) : (picks l)[i * 2]? = some (.int .i64 (l.getD i (0, 0)).1) ∧ (picks l)[i * 2 + 1]? = some (.int .i64 (l.getD i (0, 0)).2) := by
  induction l generalizing i with
  | nil => simp at hi
  | cons x l ih =>
    cases i with
    | zero => simp [picks]
    | succ i =>
      have := ih i (by simpa using hi)
      have h1 : (i + 1) * 2 = i * 2 + 1 + 1 := by omega
      simp only [picks, List.flatMap_cons, List.cons_append, List.nil_append, h1, List.getElem?_cons_succ] at this ⊢
      simpa using this

/-- A pick's two numbers, at its place. -/
theorem sl_pick {h : Heap} {v : Value} {k : Nat} {l : List (Int × Int)} (hs : Sl h v 2 k (picks l)) {i : Nat} (hi : i < k) :
    ∃ a n c e s gr ro, v = .slice (some a) k n ∧ h.get a.block = some (.cells c e s gr ro) ∧ a.off + i * 2 + 2 ≤ c.length ∧ (c.drop (a.off + i * 2)).take 2 = [.int .i64 (l.getD i (0, 0)).1, .int .i64 (l.getD i (0, 0)).2] ∧
      c[a.off + i * 2]? = some (.int .i64 (l.getD i (0, 0)).1) ∧ c[a.off + i * 2 + 1]? = some (.int .i64 (l.getD i (0, 0)).2) := by
  have hs0 := hs
  obtain ⟨hl, ⟨rfl, rfl⟩ | ⟨a, n, rfl, _⟩⟩ := hs0
  · omega
  · obtain ⟨c, e, s, gr, ro, hg, hfit, hc, hget⟩ := hs.fit (by omega) (by omega)
    have hll : l.length = k := by rw [picks_len] at hl; omega
    obtain ⟨p1, p2⟩ := picks_get l i (by omega)
    have g1 := hget (i * 2) (by omega)
    have g2 := hget (i * 2 + 1) (by omega)
    rw [p1] at g1
    rw [p2, ← Nat.add_assoc] at g2
    refine ⟨a, n, c, e, s, gr, ro, rfl, hg, by omega, ?_, g1, g2⟩
    have l1 : a.off + i * 2 < c.length := by omega
    have l2 : a.off + i * 2 + 1 < c.length := by omega
    rw [List.getElem?_eq_getElem l1, Option.some.injEq] at g1
    rw [List.getElem?_eq_getElem l2, Option.some.injEq] at g2
    rw [List.drop_eq_getElem_cons l1, List.drop_eq_getElem_cons l2]
    simp [g1, g2]

theorem same_run {h : Heap} {va vb : Value} {l : List (Int × Int)} (ha : Sl h va 2 l.length (picks l)) (hb : Sl h vb 2 l.length (picks l)) (hlen : l.length ≤ 2 ^ 47) : run Try.prog sT 18 [va, vb] h = some (.bool true, h) := by
  refine run_fin Try.func18 rfl ?_
  obtain ⟨a, c, rfl⟩ : ∃ a c, va = .slice a l.length c := by
    rcases sl_cut ha with ⟨rfl, h0⟩ | ⟨a, c, rfl⟩
    · exact ⟨none, 0, by rw [h0]⟩
    · exact ⟨_, _, rfl⟩
  obtain ⟨b, d, rfl⟩ : ∃ a c, vb = .slice a l.length c := by
    rcases sl_cut hb with ⟨rfl, h0⟩ | ⟨a, c, rfl⟩
    · exact ⟨none, 0, by rw [h0]⟩
    · exact ⟨_, _, rfl⟩
  simp [Try.f18, ax_skip, ax_label, ax_region, ax_draw, ax_seq, ax_cond, ax_block, ax_loop, ax_scope, ax_exit, ax_ret, aops, aop, cls, light, lightS, binE, aeq, intBin, goInt, pl_int, pl_bool, pl_ptr, pl_slice, aload, isAggT, aeval, tput, awanted, List.range_succ, fin, aresults, aresult, List.replicate, heavy, acallOp, aenter, ble_d, beq_d, firstRegion, adraw, readNames, Nxt, isAnc, readsOk, objEq_some, ibne, Try.underlying32, sT18]
  generalize hl : loopω _ _ _ _ = r
  obtain ⟨e, t', h', hx, he, hh, x11, x12, x13, x14, ht⟩ : ∃ e t' h', r = some (e, t', h') ∧ e = .exit 0 ∧ h' = h ∧ ∃ x11 x12 x13 x14, t' = [.slice a l.length c, .slice b l.length d, unk, unk, .bool false, .int .i64 l.length, unk, unk, unk, unk, unk, x11, x12, x13, x14, unk, unk, unk, unk, unk, unk, unk, unk, unk, unk, unk] := by
    rw [← hl]
    refine loop_by (fun k t h' => ∃ i, i + k = l.length ∧ forget [2, 3, 6, 7, 8, 9, 10, 11, 12, 13, 14, 15, 16, 17, 18, 19, 20, 21, 22, 23, 24, 25] t = [.slice a l.length c, .slice b l.length d, unk, unk, .bool false, .int .i64 i, unk, unk, unk, unk, unk, unk, unk, unk, unk, unk, unk, unk, unk, unk, unk, unk, unk, unk, unk, unk] ∧ h' = h)
      (fun e t' h' => e = .exit 0 ∧ h' = h ∧ ∃ x11 x12 x13 x14, t' = [.slice a l.length c, .slice b l.length d, unk, unk, .bool false, .int .i64 l.length, unk, unk, unk, unk, unk, x11, x12, x13, x14, unk, unk, unk, unk, unk, unk, unk, unk, unk, unk, unk]) ?_ l.length _ _ ⟨0, by omega, by simp [forget], rfl⟩
    rintro k t h' ⟨i, hi, ht, rfl⟩
    rw [ht]
    rcases Nat.lt_or_ge i l.length with h1 | h1
    · obtain ⟨a, c, C, e, s, gr, ro, ea, hg, hf, hd, _, _⟩ := sl_pick ha h1
      obtain ⟨b, d, C', e', s', gr', ro', eb, hg', hf', hd', _, _⟩ := sl_pick hb h1
      simp only [Value.slice.injEq, true_and] at ea eb
      obtain ⟨rfl, rfl⟩ := ea
      obtain ⟨rfl, rfl⟩ := eb
      simp [ax_skip, ax_label, ax_region, ax_draw, ax_seq, ax_cond, ax_block, ax_loop, ax_scope, ax_exit, ax_ret, aops, aop, cls, light, lightS, binE, aeq, intBin, goInt, pl_int, pl_bool, pl_ptr, pl_slice, aload, isAggT, aeval, tput, awanted, List.range_succ, fin, aresults, aresult, List.replicate, heavy, acallOp, aenter, ble_d, beq_d, firstRegion, adraw, readNames, Nxt, isAnc, readsOk, objEq_some, ibne, Try.underlying32, h1]
      generalize hp : plan _ _ = pl
      obtain rfl : pl = some [0, 1, 2, 3, 4, 5, 6, 7, 8] := by rw [← hp]; kernel_rfl
      generalize ancs _ = an
      have hw : IntKind.i64.wrap ((i : Int) + 1) = ((i + 1 : Nat) : Int) := by rw [IntWalk.i64_in _ (by omega)]; omega
      simp [ax_skip, ax_label, ax_region, ax_draw, ax_seq, ax_cond, ax_block, ax_loop, ax_scope, ax_exit, ax_ret, aops, aop, cls, light, lightS, binE, aeq, intBin, goInt, pl_int, pl_bool, pl_ptr, pl_slice, aload, isAggT, aeval, tput, awanted, List.range_succ, fin, aresults, aresult, List.replicate, heavy, acallOp, aenter, ble_d, beq_d, firstRegion, adraw, readNames, Nxt, isAnc, readsOk, objEq_some, ibne, Try.underlying32, h1, aindexAddr, sz49, hg, hg', hf, hf', hd, hd', Try.underlying49, Try.underlying3, aggOk49, aeqFields, apart, hw]
      exact ⟨_, _, _, ⟨rfl, rfl, rfl⟩, k - 1, by omega, i + 1, by omega, by kernel_rfl, rfl⟩
    · have hi' : i = l.length := by omega
      subst hi'
      simp [ax_skip, ax_label, ax_region, ax_draw, ax_seq, ax_cond, ax_block, ax_loop, ax_scope, ax_exit, ax_ret, aops, aop, cls, light, lightS, binE, aeq, intBin, goInt, pl_int, pl_bool, pl_ptr, pl_slice, aload, isAggT, aeval, tput, awanted, List.range_succ, fin, aresults, aresult, List.replicate, heavy, acallOp, aenter, ble_d, beq_d, firstRegion, adraw, readNames, Nxt, isAnc, readsOk, objEq_some, ibne, Try.underlying32]
  subst hx he hh ht
  simp [ax_skip, ax_label, ax_region, ax_draw, ax_seq, ax_cond, ax_block, ax_loop, ax_scope, ax_exit, ax_ret, aops, aop, cls, light, lightS, binE, aeq, intBin, goInt, pl_int, pl_bool, pl_ptr, pl_slice, aload, isAggT, aeval, tput, awanted, List.range_succ, fin, aresults, aresult, List.replicate, heavy, acallOp, aenter, ble_d, beq_d, firstRegion, adraw, readNames, Nxt, isAnc, readsOk, objEq_some]
end Go.Proofs.Ythkefkpmgleolaa.Or
