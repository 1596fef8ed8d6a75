/- Words for the functions of this law; the check of a log. -/
import Derived.Test.YthhhmmildgijhaaGreatDoorProg
import Derived.Test.YthhhmmildgijhaaGreatDoorSI18
import Derived.Test.YthhhmmildgijhaaGreatDoorSI19
import Derived.KernelRfl
import Derived.Below
import Derived.IntWalk
set_option linter.unusedVariables false
set_option linter.unusedSimpArgs false
namespace Go.Proofs.YthhhmmildgijhaaGreatDoor.Ex
open Go Go.Proofs Go.RowKit Go.Proofs.YthhhmmildgijhaaGreatDoorSI

theorem mix : Tryz.prog.follows .mixedOrders = true := by kernel_rfl
/-- The slots that are forgotten at a loop's head. -/
def sT : Scr := fun f r => if f = 25 then [1, 4, 5, 6, 7, 8, 9, 10, 11, 12, 13, 14, 15, 16, 17, 18, 19, 20, 21, 22, 23, 24, 25, 26, 27, 28, 29, 30, 31, 32, 33, 34, 35, 36] else if f = 24 then [1, 5, 6, 7, 8, 9, 13, 14, 15, 16, 17, 18, 19, 20, 21, 22, 23, 24, 25, 26, 27, 28, 29, 30, 31, 32, 33, 34, 35, 36, 37] else if f = 8 then [2, 3, 6, 7, 8, 9, 10, 11, 12, 13, 14, 15, 16, 17, 18, 19, 20, 21, 22, 23, 24, 25] else if f = 6 then [1, 2, 3, 4, 6, 7, 8, 9, 10, 11, 12, 13, 14, 15, 16, 17, 18, 19, 20, 21, 22, 23, 24, 25, 26, 27, 28, 29, 30, 31, 32, 33, 34, 35, 36, 37, 38, 39, 40, 41, 42] else if f = 7 then (if r = 4 then [1, 2, 3, 4, 6, 7, 8, 9, 10, 11, 12, 13, 14, 15, 16, 17, 18, 19, 20, 21, 22, 23, 24, 25, 26, 27, 28, 29, 30, 31, 32, 33, 34, 35, 36, 37, 38, 39, 40, 41, 42, 43, 44, 45, 46, 47, 48, 49, 50, 51] else [1, 2, 3, 4, 8, 9, 10, 11, 12, 13, 14, 15, 16, 17, 18, 19, 20, 21, 22, 23, 24, 25, 26, 27, 28, 29, 30, 31, 32, 33, 34, 35, 36, 37, 38, 39, 40, 41, 42, 43, 44, 45, 46, 47, 48, 49, 50, 51]) else []
abbrev No : Nat → Prop := fun _ => False
theorem ibeq (a b : Int) : (a == b) = decide (a = b) := by by_cases h : a = b <;> simp [h]
theorem ibne (a b : Int) : (a != b) = decide (a ≠ b) := by by_cases h : a = b <;> simp [h]
theorem el3 : elTyB Tryz.prog 3 1 8 = true := by kernel_rfl
theorem el53 : elTyB Tryz.prog 53 2 16 = true := by kernel_rfl
theorem sz53 : szOf Tryz.prog 53 = some 2 := by kernel_rfl
theorem sz3 : szOf Tryz.prog 3 = some 1 := by kernel_rfl
theorem fa53_0 (n o : Nat) : afieldAddr Tryz.prog 53 (.pointer (some ⟨n, o, none⟩)) 0 = some (.pointer (some ⟨n, o, none⟩)) := by kernel_rfl
theorem fa53_1 (n o : Nat) : afieldAddr Tryz.prog 53 (.pointer (some ⟨n, o, none⟩)) 1 = some (.pointer (some ⟨n, o + 1, none⟩)) := by kernel_rfl
theorem bs22 (ρ : Operand → Value) (d ty pos af gu) : aalloc Tryz.prog ρ ⟨d, .buildSlice 22 0 #[], ty, pos, af, gu⟩ = some (.cells [] 53 2 false false, fun n => .slice (some ⟨n, 0, none⟩) 0 0) := by kernel_rfl
theorem en6 : enters Tryz.prog 6 = true := by kernel_rfl
theorem en7 : enters Tryz.prog 7 = true := by kernel_rfl
theorem en8 : enters Tryz.prog 8 = true := by kernel_rfl
theorem en24 : enters Tryz.prog 24 = true := by kernel_rfl
theorem en25 : enters Tryz.prog 25 = true := by kernel_rfl
theorem sl_cut {h : Heap} {v : Value} {sz k : Nat} {cs : List Value} (hs : Sl h v sz k cs) : v = .slice none 0 0 ∧ k = 0 ∨ ∃ a c, v = .slice (some a) k c := by
  obtain ⟨_, ⟨rfl, rfl⟩ | ⟨a, n, rfl, _⟩⟩ := hs
  · exact .inl ⟨rfl, rfl⟩
  · exact .inr ⟨a, n, rfl⟩
def picks (l : List (Int × Int)) : List Value := l.flatMap fun p => [.int .i64 p.1, .int .i64 p.2]
theorem picks_one (l : List (Int × Int)) : (picks l).all one = true := by simp [picks, one]
theorem picks_len (l : List (Int × Int)) : (picks l).length = l.length * 2 := by
  induction l with
  | nil => rfl
  | cons x l ih => simp only [picks, List.flatMap_cons, List.length_append, List.length_cons, List.length_nil] at *; omega

theorem picks_get (l : List (Int × Int)) (i : Nat) (hi : i < l.length) : (picks l)[i * 2]? = some (.int .i64 (l.getD i (0, 0)).1) ∧ (picks l)[i * 2 + 1]? = some (.int .i64 (l.getD i (0, 0)).2) := by
  induction l generalizing i with
  | nil => simp at hi
  | cons x l ih =>
    cases i with
    | zero => simp [picks]
    | succ i =>
      have := ih i (by simpa using hi)
      have h1 : (i + 1) * 2 = i * 2 + 1 + 1 := by omega
      simp only [picks, List.flatMap_cons, List.cons_append, List.nil_append, h1, List.getElem?_cons_succ] at this ⊢
      simpa using this

/-- A pick's two numbers, at its place. -/
theorem sl_pick {h : Heap} {v : Value} {k : Nat} {l : List (Int × Int)} (hs : Sl h v 2 k (picks l)) {i : Nat} (hi : i < k) :
    ∃ a n c e s gr ro, v = .slice (some a) k n ∧ h.get a.block = some (.cells c e s gr ro) ∧ a.off + i * 2 + 2 ≤ c.length ∧ (c.drop (a.off + i * 2)).take 2 = [.int .i64 (l.getD i (0, 0)).1, .int .i64 (l.getD i (0, 0)).2] ∧
      c[a.off + i * 2]? = some (.int .i64 (l.getD i (0, 0)).1) ∧ c[a.off + i * 2 + 1]? = some (.int .i64 (l.getD i (0, 0)).2) := by
  have hs0 := hs
  obtain ⟨hl, ⟨rfl, rfl⟩ | ⟨a, n, rfl, _⟩⟩ := hs0
  · omega
  · obtain ⟨c, e, s, gr, ro, hg, hfit, hc, hget⟩ := hs.fit (by omega) (by omega)
    have hll : l.length = k := by rw [picks_len] at hl; omega
    obtain ⟨p1, p2⟩ := picks_get l i (by omega)
    have g1 := hget (i * 2) (by omega)
    have g2 := hget (i * 2 + 1) (by omega)
    rw [p1] at g1
    rw [p2, ← Nat.add_assoc] at g2
    refine ⟨a, n, c, e, s, gr, ro, rfl, hg, by omega, ?_, g1, g2⟩
    have l1 : a.off + i * 2 < c.length := by omega
    have l2 : a.off + i * 2 + 1 < c.length := by omega
    rw [List.getElem?_eq_getElem l1, Option.some.injEq] at g1
    rw [List.getElem?_eq_getElem l2, Option.some.injEq] at g2
    rw [List.drop_eq_getElem_cons l1, List.drop_eq_getElem_cons l2]
    simp [g1, g2]

def bad (p : Int × Int) : Bool := decide (p.1 < 2) || (decide (p.2 < 0) || decide (p.2 ≥ p.1))
def goodB (l : List (Int × Int)) : Bool := l.all fun p => !bad p
theorem sT25 (r : Nat) : sT 25 r = [1, 4, 5, 6, 7, 8, 9, 10, 11, 12, 13, 14, 15, 16, 17, 18, 19, 20, 21, 22, 23, 24, 25, 26, 27, 28, 29, 30, 31, 32, 33, 34, 35, 36] := by rfl
theorem goodB_false {l : List (Int × Int)} {i : Nat} (hi : i < l.length) (hb : bad (l.getD i (0, 0)) = true) : goodB l = false := by
  unfold goodB
  rw [List.all_eq_false]
  refine ⟨l[i], List.getElem_mem hi, ?_⟩
  rw [List.getD_eq_getElem?_getD, List.getElem?_eq_getElem hi] at hb
  simp only [Option.getD_some] at hb
  simp [hb]
def pl25_4 : List Nat := [0, 1, 2, 3, 4, 5, 6, 7, 8, 9, 10, 11, 12, 13, 14, 15, 16, 17, 18, 19, 20, 21, 22, 23, 24, 25, 26]
def an25_4 : List (List Nat) := [[], [], [0, 1], [2, 0, 1], [3, 2, 0, 1], [4, 3, 2, 0, 1], [5, 4, 3, 2, 0, 1], [6, 5, 4, 3, 2, 0, 1], [6, 5, 4, 3, 2, 0, 1], [7, 6, 5, 4, 3, 2, 0, 1, 8], [9, 7, 6, 5, 4, 3, 2, 0, 1, 8], [10, 9, 7, 6, 5, 4, 3, 2, 0, 1, 8], [11, 10, 9, 7, 6, 5, 4, 3, 2, 0, 1, 8], [6, 5, 4, 3, 2, 0, 1, 12, 11, 10, 9, 7, 8], [13, 6, 5, 4, 3, 2, 0, 1, 12, 11, 10, 9, 7, 8], [14, 13, 6, 5, 4, 3, 2, 0, 1, 12, 11, 10, 9, 7, 8], [14, 13, 6, 5, 4, 3, 2, 0, 1, 12, 11, 10, 9, 7, 8], [15, 14, 13, 6, 5, 4, 3, 2, 0, 1, 12, 11, 10, 9, 7, 8, 16], [17, 15, 14, 13, 6, 5, 4, 3, 2, 0, 1, 12, 11, 10, 9, 7, 8, 16], [18, 17, 15, 14, 13, 6, 5, 4, 3, 2, 0, 1, 12, 11, 10, 9, 7, 8, 16], [14, 13, 6, 5, 4, 3, 2, 0, 1, 12, 11, 10, 9, 7, 8], [14, 13, 6, 5, 4, 3, 2, 0, 1, 12, 11, 10, 9, 7, 8], [20, 14, 13, 6, 5, 4, 3, 2, 0, 1, 12, 11, 10, 9, 7, 8, 21], [22, 20, 14, 13, 6, 5, 4, 3, 2, 0, 1, 12, 11, 10, 9, 7, 8, 21], [23, 22, 20, 14, 13, 6, 5, 4, 3, 2, 0, 1, 12, 11, 10, 9, 7, 8, 21], [19, 18, 17, 15, 14, 13, 6, 5, 4, 3, 2, 0, 1, 12, 11, 10, 9, 7, 8, 16, 24, 23, 22, 20, 21], [14, 13, 6, 5, 4, 3, 2, 0, 1, 12, 11, 10, 9, 7, 8, 25, 19, 18, 17, 15, 16, 24, 23, 22, 20, 21]]
def pt25 : PlanTab := fun _ => (pl25_4, an25_4)
theorem pt25_4 (i : Nat) : pt25 i = (pl25_4, an25_4) := rfl

set_option maxHeartbeats 800000 in
theorem good_run {h : Heap} {v : Value} {l : List (Int × Int)} (hv : Sl h v 2 l.length (picks l)) (hlen : l.length ≤ 2 ^ 47) : run Tryz.prog sT 25 [v] h = some (.bool (goodB l), h) := by
  refine run_finP pt25 Tryz.func25 rfl (by kernel_rfl) ?_
  obtain ⟨a, c, rfl⟩ : ∃ a c, v = .slice a l.length c := by
    rcases sl_cut hv with ⟨rfl, h0⟩ | ⟨a, c, rfl⟩
    · exact ⟨none, 0, by rw [h0]⟩
    · exact ⟨_, _, rfl⟩
  simp (maxSteps := 2000000) -implicitDefEqProofs [Tryz.f25, px_skip, px_label, px_region, px_draw, qx_seq, qx_cond, px_block, px_loop, px_scope, px_exit, px_ret, seqK_normal, seqK_exit, seqK_ret, condK_true, condK_false, opsK_some, wK_true, wK_false, itK_some, aops_nil, aops_cons, lK_some, aK_some, hK_some, dwK_true, dwK_false, diK_some, dK_light, dK_alloc, dK_heavy, adraw_nil, adraw_cons, aop, cls, light, lightS, binE, aeq, intBin, goInt, pl_int, pl_bool, pl_ptr, pl_slice, aload, isAggT, aeval, tput, awanted, List.range_succ, fin, aresults, aresult, List.replicate, heavy, acallOp, aenter, ble_d, beq_d, firstRegion, readNames, Nxt, isAnc, readsOk, objEq_some, sT25]
  generalize hl : loopω _ _ _ _ = r
  obtain ⟨e, t', h', hx, hh, hR⟩ : ∃ e t' h', r = some (e, t', h') ∧ h' = h ∧ ((e = .exit 0 ∧ goodB l = true ∧ ∃ x4 x5 x6 x7, t' = [.slice a l.length c, unk, .bool false, .int .i64 l.length, x4, x5, x6, x7, unk, unk, unk, unk, unk, unk, unk, unk, unk, unk, unk, unk, unk, unk, unk, unk, unk, unk, unk, unk, unk, unk, unk, unk, unk, unk, unk, unk, unk]) ∨ (e = .ret ∧ goodB l = false ∧ t'[2]?.getD undef = .bool false)) := by
    rw [← hl]
    refine loop_by (fun k t h' => ∃ i, i + k = l.length ∧ forget [1, 4, 5, 6, 7, 8, 9, 10, 11, 12, 13, 14, 15, 16, 17, 18, 19, 20, 21, 22, 23, 24, 25, 26, 27, 28, 29, 30, 31, 32, 33, 34, 35, 36] t = [.slice a l.length c, unk, .bool false, .int .i64 i, unk, unk, unk, unk, unk, unk, unk, unk, unk, unk, unk, unk, unk, unk, unk, unk, unk, unk, unk, unk, unk, unk, unk, unk, unk, unk, unk, unk, unk, unk, unk, unk, unk] ∧ h' = h ∧ ∀ j, j < i → bad (l.getD j (0, 0)) = false)
      (fun e t' h' => h' = h ∧ ((e = .exit 0 ∧ goodB l = true ∧ ∃ x4 x5 x6 x7, t' = [.slice a l.length c, unk, .bool false, .int .i64 l.length, x4, x5, x6, x7, unk, unk, unk, unk, unk, unk, unk, unk, unk, unk, unk, unk, unk, unk, unk, unk, unk, unk, unk, unk, unk, unk, unk, unk, unk, unk, unk, unk, unk]) ∨ (e = .ret ∧ goodB l = false ∧ t'[2]?.getD undef = .bool false))) ?_ l.length _ _ ⟨0, by omega, by kernel_rfl, rfl, fun j hj => by omega⟩
    rintro k t h' ⟨i, hi, ht, rfl, hg⟩
    rw [ht]
    rcases Nat.lt_or_ge i l.length with h1 | h1
    · obtain ⟨a, c, C, e, s, gr, ro, ea, hgt, hf, hd, p1, p2⟩ := sl_pick hv h1
      simp only [Value.slice.injEq, true_and] at ea
      obtain ⟨rfl, rfl⟩ := ea
      have hw : IntKind.i64.wrap ((i : Int) + 1) = ((i + 1 : Nat) : Int) := by rw [IntWalk.i64_in _ (by omega)]; omega
      have hii : ((i + 1 : Nat) : Int) = (i : Int) + 1 := by omega
      have hbad := @goodB_false l i h1
      have hnext : bad (l.getD i (0, 0)) = false → ∀ j, j < i + 1 → bad (l.getD j (0, 0)) = false := fun hb j hj => by
        rcases Nat.lt_or_ge j i with h2 | h2
        · exact hg j h2
        · have : j = i := by omega
          subst this; exact hb
      generalize hq : l.getD i (0, 0) = q at *
      obtain ⟨q1, q2⟩ := q
      simp only at p1 p2
      by_cases c1 : q1 < 2
      · have hb := hbad (by simp [bad, c1])
        simp (maxSteps := 2000000) -implicitDefEqProofs [px_skip, px_label, px_region, px_draw, qx_seq, qx_cond, px_block, px_loop, px_scope, px_exit, px_ret, seqK_normal, seqK_exit, seqK_ret, condK_true, condK_false, opsK_some, wK_true, wK_false, itK_some, aops_nil, aops_cons, lK_some, aK_some, hK_some, dwK_true, dwK_false, diK_some, dK_light, dK_alloc, dK_heavy, adraw_nil, adraw_cons, aop, cls, light, lightS, binE, aeq, intBin, goInt, pl_int, pl_bool, pl_ptr, pl_slice, aload, isAggT, aeval, tput, awanted, List.range_succ, fin, aresults, aresult, List.replicate, heavy, acallOp, aenter, ble_d, beq_d, firstRegion, readNames, Nxt, isAnc, readsOk, objEq_some, pt25_4, pl25_4, an25_4, Tryz.underlying22, Tryz.underlying3, h1, aindexAddr, sz53, hgt, p1, p2, fa53_0, fa53_1, c1, hb]
      by_cases c2 : q2 < 0
      · have hb := hbad (by simp [bad, c2])
        simp (maxSteps := 2000000) -implicitDefEqProofs [px_skip, px_label, px_region, px_draw, qx_seq, qx_cond, px_block, px_loop, px_scope, px_exit, px_ret, seqK_normal, seqK_exit, seqK_ret, condK_true, condK_false, opsK_some, wK_true, wK_false, itK_some, aops_nil, aops_cons, lK_some, aK_some, hK_some, dwK_true, dwK_false, diK_some, dK_light, dK_alloc, dK_heavy, adraw_nil, adraw_cons, aop, cls, light, lightS, binE, aeq, intBin, goInt, pl_int, pl_bool, pl_ptr, pl_slice, aload, isAggT, aeval, tput, awanted, List.range_succ, fin, aresults, aresult, List.replicate, heavy, acallOp, aenter, ble_d, beq_d, firstRegion, readNames, Nxt, isAnc, readsOk, objEq_some, pt25_4, pl25_4, an25_4, Tryz.underlying22, Tryz.underlying3, h1, aindexAddr, sz53, hgt, p1, p2, fa53_0, fa53_1, c1, c2, hb]
      by_cases c3 : q2 ≥ q1
      · have hb := hbad (by simp [bad, c3])
        have c3' : q1 ≤ q2 := c3
        simp (maxSteps := 2000000) -implicitDefEqProofs [px_skip, px_label, px_region, px_draw, qx_seq, qx_cond, px_block, px_loop, px_scope, px_exit, px_ret, seqK_normal, seqK_exit, seqK_ret, condK_true, condK_false, opsK_some, wK_true, wK_false, itK_some, aops_nil, aops_cons, lK_some, aK_some, hK_some, dwK_true, dwK_false, diK_some, dK_light, dK_alloc, dK_heavy, adraw_nil, adraw_cons, aop, cls, light, lightS, binE, aeq, intBin, goInt, pl_int, pl_bool, pl_ptr, pl_slice, aload, isAggT, aeval, tput, awanted, List.range_succ, fin, aresults, aresult, List.replicate, heavy, acallOp, aenter, ble_d, beq_d, firstRegion, readNames, Nxt, isAnc, readsOk, objEq_some, pt25_4, pl25_4, an25_4, Tryz.underlying22, Tryz.underlying3, h1, aindexAddr, sz53, hgt, p1, p2, fa53_0, fa53_1, c1, c2, c3', hb]
      · have hb := hnext (by simp [bad, c1, c2]; omega)
        have c3' : ¬ q1 ≤ q2 := c3
        simp (maxSteps := 2000000) -implicitDefEqProofs [px_skip, px_label, px_region, px_draw, qx_seq, qx_cond, px_block, px_loop, px_scope, px_exit, px_ret, seqK_normal, seqK_exit, seqK_ret, condK_true, condK_false, opsK_some, wK_true, wK_false, itK_some, aops_nil, aops_cons, lK_some, aK_some, hK_some, dwK_true, dwK_false, diK_some, dK_light, dK_alloc, dK_heavy, adraw_nil, adraw_cons, aop, cls, light, lightS, binE, aeq, intBin, goInt, pl_int, pl_bool, pl_ptr, pl_slice, aload, isAggT, aeval, tput, awanted, List.range_succ, fin, aresults, aresult, List.replicate, heavy, acallOp, aenter, ble_d, beq_d, firstRegion, readNames, Nxt, isAnc, readsOk, objEq_some, pt25_4, pl25_4, an25_4, Tryz.underlying22, Tryz.underlying3, h1, aindexAddr, sz53, hgt, p1, p2, fa53_0, fa53_1, c1, c2, c3', hw]
        exact ⟨k - 1, by omega, i + 1, by omega, by simp only [forget, List.set_cons_succ, List.set_cons_zero, hii], hb⟩
    · have hi' : i = l.length := by omega
      subst hi'
      have hall : goodB l = true := by
        unfold goodB
        rw [List.all_eq_true]
        intro p hp
        obtain ⟨j, hj, rfl⟩ := List.mem_iff_getElem.1 hp
        have := hg j hj
        rw [List.getD_eq_getElem?_getD, List.getElem?_eq_getElem hj] at this
        simp only [Option.getD_some] at this
        simp [this]
      simp (maxSteps := 2000000) -implicitDefEqProofs [px_skip, px_label, px_region, px_draw, qx_seq, qx_cond, px_block, px_loop, px_scope, px_exit, px_ret, seqK_normal, seqK_exit, seqK_ret, condK_true, condK_false, opsK_some, wK_true, wK_false, itK_some, aops_nil, aops_cons, lK_some, aK_some, hK_some, dwK_true, dwK_false, diK_some, dK_light, dK_alloc, dK_heavy, adraw_nil, adraw_cons, aop, cls, light, lightS, binE, aeq, intBin, goInt, pl_int, pl_bool, pl_ptr, pl_slice, aload, isAggT, aeval, tput, awanted, List.range_succ, fin, aresults, aresult, List.replicate, heavy, acallOp, aenter, ble_d, beq_d, firstRegion, readNames, Nxt, isAnc, readsOk, objEq_some, Tryz.underlying22, hall]
  subst hx hh
  rcases hR with ⟨rfl, hB, x4, x5, x6, x7, rfl⟩ | ⟨rfl, hB, ht⟩
  · simp (maxSteps := 2000000) -implicitDefEqProofs [px_skip, px_label, px_region, px_draw, qx_seq, qx_cond, px_block, px_loop, px_scope, px_exit, px_ret, seqK_normal, seqK_exit, seqK_ret, condK_true, condK_false, opsK_some, wK_true, wK_false, itK_some, aops_nil, aops_cons, lK_some, aK_some, hK_some, dwK_true, dwK_false, diK_some, dK_light, dK_alloc, dK_heavy, adraw_nil, adraw_cons, aop, cls, light, lightS, binE, aeq, intBin, goInt, pl_int, pl_bool, pl_ptr, pl_slice, aload, isAggT, aeval, tput, awanted, List.range_succ, fin, aresults, aresult, List.replicate, heavy, acallOp, aenter, ble_d, beq_d, firstRegion, readNames, Nxt, isAnc, readsOk, objEq_some, hB]
  · simp (maxSteps := 2000000) -implicitDefEqProofs [px_skip, px_label, px_region, px_draw, qx_seq, qx_cond, px_block, px_loop, px_scope, px_exit, px_ret, seqK_normal, seqK_exit, seqK_ret, condK_true, condK_false, opsK_some, wK_true, wK_false, itK_some, aops_nil, aops_cons, lK_some, aK_some, hK_some, dwK_true, dwK_false, diK_some, dK_light, dK_alloc, dK_heavy, adraw_nil, adraw_cons, aop, cls, light, lightS, binE, aeq, intBin, goInt, pl_int, pl_bool, pl_ptr, pl_slice, aload, isAggT, aeval, tput, awanted, List.range_succ, fin, aresults, aresult, List.replicate, heavy, acallOp, aenter, ble_d, beq_d, firstRegion, readNames, Nxt, isAnc, readsOk, objEq_some, hB, ht]
end Go.Proofs.YthhhmmildgijhaaGreatDoor.Ex
