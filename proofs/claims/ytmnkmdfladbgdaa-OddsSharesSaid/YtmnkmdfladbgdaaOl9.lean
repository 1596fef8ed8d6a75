/- Odds: Cmp. -/
import Derived.Test.YtmnkmdfladbgdaaOl6
set_option linter.unusedVariables false
set_option linter.unusedSimpArgs false
namespace Go.Proofs.Ytmnkmdfladbgdaa.Od
open Go Go.Proofs Go.RowKit Go.Proofs.YtmnkmdfladbgdaaAI Go.Proofs.YtmnkmdfladbgdaaFl

noncomputable def lb63 (i : Nat) : Code := (loopsOf (Try.f63.body.getD .skip)).getD i .skip

theorem top_diff : ∀ {x y : List Nat}, W32 x → W32 y → x.length = y.length → x ≠ y → ∃ p, p < x.length ∧ (∀ j, p < j → x.getD j 0 = y.getD j 0) ∧ ((x.getD p 0 < y.getD p 0 ∧ nv x < nv y) ∨ (y.getD p 0 < x.getD p 0 ∧ nv y < nv x)) := by
  intro x
  induction x with
  | nil => intro y _ _ hl hne; cases y with
    | nil => exact absurd rfl hne
    | cons => simp at hl
  | cons a x ih =>
    intro y hx hy hl hne
    cases y with
    | nil => simp at hl
    | cons b y =>
      have ha := hx a (List.mem_cons_self ..)
      have hb := hy b (List.mem_cons_self ..)
      by_cases he : x = y
      · subst he
        have hab : a ≠ b := fun e => hne (by rw [e])
        refine ⟨0, by simp, fun j hj => ?_, ?_⟩
        · obtain ⟨j, rfl⟩ : ∃ q, j = q + 1 := ⟨j - 1, by omega⟩
          simp
        · simp only [List.getD_cons_zero, nv]; omega
      · obtain ⟨p, h1, h2, h3⟩ := ih hx.tail hy.tail (by simpa using hl) he
        refine ⟨p + 1, by simpa using h1, fun j hj => ?_, ?_⟩
        · obtain ⟨j, rfl⟩ : ∃ q, j = q + 1 := ⟨j - 1, by omega⟩
          simpa using h2 j (by omega)
        · simp only [List.getD_cons_succ, nv]; omega
def cmpN (a b : Nat) : Int := if a < b then -1 else if b < a then 1 else 0
theorem len_lt {a b : Nat} (h : (lm a).length < (lm b).length) : a < b := by
  have h1 := nv_lt (lm_w a)
  rw [nv_lm] at h1
  rcases Nat.lt_or_ge b (4294967296 ^ (lm a).length) with h2 | h2
  · have := lm_len h2; omega
  · omega
def lz (L i : Nat) : Int := (L : Int) - 1 - i
set_option maxRecDepth 20000 in
set_option maxHeartbeats 6400000 in
theorem cmpE {h0 : Heap} {xa ya : Option Addr} {xc yc L : Nat} {x y : List Nat} (hL : x.length = L) (hL2 : y.length = L) (wx : W32 x) (wy : W32 y) (ka : L ≤ 1000) (hx : Sl h0 (.slice xa L xc) 1 L (u3 x)) (hy : Sl h0 (.slice ya L yc) 1 L (u3 y)) (hxy : x = y) (F : Step) (hFF : F = aexecP Try.prog (sO 63) (run Try.prog sO) loopω pt63 (lb63 0)) (t : Tm)
    (ht : forget [0, 1, 2, 3, 4, 8, 9, 10, 11, 12, 13, 14, 15, 16, 17, 18, 19, 20, 21, 22, 23, 24, 25, 26, 27, 28, 29, 30, 31, 32, 33, 34, 35, 36, 37, 38, 39, 40, 41, 42, 43, 44, 45, 46] t = [unk, unk, unk, unk, unk, .slice xa L xc, .slice ya L yc, .int .i64 (lz L (0)), unk, unk, unk, unk, unk, unk, unk, unk, unk, unk, unk, unk, unk, unk, unk, unk, unk, unk, unk, unk, unk, unk, unk, unk, unk, unk, unk, unk, unk, unk, unk, unk, unk, unk, unk, unk, unk, unk, unk]) (hI0 : h0 = h0) :
    ∃ h' x25 x26, loopω [0, 1, 2, 3, 4, 8, 9, 10, 11, 12, 13, 14, 15, 16, 17, 18, 19, 20, 21, 22, 23, 24, 25, 26, 27, 28, 29, 30, 31, 32, 33, 34, 35, 36, 37, 38, 39, 40, 41, 42, 43, 44, 45, 46] F t h0 = some (.exit 0, [unk, unk, unk, unk, unk, .slice xa L xc, .slice ya L yc, .int .i64 (lz L (L)), unk, unk, unk, unk, unk, unk, unk, unk, unk, unk, unk, unk, unk, unk, unk, unk, unk, x25, x26, unk, unk, unk, unk, unk, unk, unk, unk, unk, unk, unk, unk, unk, unk, unk, unk, unk, unk, unk, unk], h') ∧ h' = h0 := by
  subst hFF
  suffices hs : ∃ e t' h', loopω [0, 1, 2, 3, 4, 8, 9, 10, 11, 12, 13, 14, 15, 16, 17, 18, 19, 20, 21, 22, 23, 24, 25, 26, 27, 28, 29, 30, 31, 32, 33, 34, 35, 36, 37, 38, 39, 40, 41, 42, 43, 44, 45, 46] (aexecP Try.prog (sO 63) (run Try.prog sO) loopω pt63 (lb63 0)) t h0 = some (e, t', h') ∧ (e = .exit 0 ∧ ∃ x25 x26, t' = [unk, unk, unk, unk, unk, .slice xa L xc, .slice ya L yc, .int .i64 (lz L (L)), unk, unk, unk, unk, unk, unk, unk, unk, unk, unk, unk, unk, unk, unk, unk, unk, unk, x25, x26, unk, unk, unk, unk, unk, unk, unk, unk, unk, unk, unk, unk, unk, unk, unk, unk, unk, unk, unk, unk] ∧ h' = h0) by
    obtain ⟨e, t', h', q1, rfl, x25, x26, rfl, q2⟩ := hs
    exact ⟨h', x25, x26, q1, q2⟩
  simp only [lb63, Try.f63, loopsOf, Option.getD_some, List.nil_append, List.append_nil, List.cons_append, List.getD_cons_zero, List.getD_cons_succ]
  refine loop_by (fun k t h' => ∃ (i : Nat), i + k = L ∧ forget [0, 1, 2, 3, 4, 8, 9, 10, 11, 12, 13, 14, 15, 16, 17, 18, 19, 20, 21, 22, 23, 24, 25, 26, 27, 28, 29, 30, 31, 32, 33, 34, 35, 36, 37, 38, 39, 40, 41, 42, 43, 44, 45, 46] t = [unk, unk, unk, unk, unk, .slice xa L xc, .slice ya L yc, .int .i64 (lz L (i)), unk, unk, unk, unk, unk, unk, unk, unk, unk, unk, unk, unk, unk, unk, unk, unk, unk, unk, unk, unk, unk, unk, unk, unk, unk, unk, unk, unk, unk, unk, unk, unk, unk, unk, unk, unk, unk, unk, unk] ∧ h' = h0)
    (fun e t' h' => e = .exit 0 ∧ ∃ x25 x26, t' = [unk, unk, unk, unk, unk, .slice xa L xc, .slice ya L yc, .int .i64 (lz L (L)), unk, unk, unk, unk, unk, unk, unk, unk, unk, unk, unk, unk, unk, unk, unk, unk, unk, x25, x26, unk, unk, unk, unk, unk, unk, unk, unk, unk, unk, unk, unk, unk, unk, unk, unk, unk, unk, unk, unk] ∧ h' = h0) ?_ (L) _ _ ⟨0, by omega, ht, hI0⟩
  rintro k t h' ⟨i, hi, ht, hI⟩
  rw [ht]
  rcases Nat.lt_or_ge i (L) with h1 | h1
  · obtain ⟨q, hq⟩ : ∃ q : Nat, L - 1 - i = q := ⟨_, rfl⟩
    have hz1 : lz L i = (q : Int) := by unfold lz; omega
    have hz2 : IntKind.i64.wrap ((q : Int) - 1) = lz L (i + 1) := by rw [IntWalk.i64_in _ (by omega)]; unfold lz; omega
    subst hI
    rw [hz1]
    have hqL : q < L := by omega
    obtain ⟨xa, xc, C, ce, cs, gr, ro, eb, hg, hc⟩ := sl_u3 hx hqL
    simp only [Value.slice.injEq, true_and] at eb
    obtain ⟨rfl, rfl⟩ := eb
    obtain ⟨ya, yc, C2, ce2, cs2, gr2, ro2, eb, hg2, hc2⟩ := sl_u3 hy hqL
    simp only [Value.slice.injEq, true_and] at eb
    obtain ⟨rfl, rfl⟩ := eb
    
    have he : x.getD q 0 = y.getD q 0 := by rw [hxy]
    rw [he] at hc
    generalize y.getD q 0 = w at *
    simp (maxSteps := 2000000) -implicitDefEqProofs [px_skip, px_label, px_region, px_draw, qx_seq, qx_cond, px_block, px_loop, px_scope, px_exit, px_ret, seqK_normal, seqK_exit, seqK_ret, condK_true, condK_false, opsK_some, wK_true, wK_false, itK_some, aops_nil, aops_cons, lK_some, aK_some, hK_some, dwK_true, dwK_false, diK_some, dK_light, dK_alloc, dK_heavy, adraw_nil, adraw_cons, aop, cls, light, lightS, binE, aeq, intBin, goInt, pl_int, pl_bool, pl_ptr, pl_slice, aload, isAggT, aeval, tput, awanted, List.range_succ, fin, aresults, aresult, List.replicate, heavy, acallOp, aenter, ble_d, beq_d, firstRegion, readNames, Nxt, isAnc, readsOk, objEq_some, hqL, aindexAddr, sz101, Try.underlying40, hg, hc, hg2, hc2, pt63_9, pl63_9, an63_9, pt63_11, pl63_11, an63_11, hz2,  undef]
    exact ⟨k - 1, by omega, i + 1, by omega, by simp (maxSteps := 2000000) only [forget, List.set_cons_succ, List.set_cons_zero]⟩
  · obtain rfl : i = L := by omega
    have hz : lz i i = -1 := by unfold lz; omega
    rw [hz]
    simp (maxSteps := 2000000) -implicitDefEqProofs [px_skip, px_label, px_region, px_draw, qx_seq, qx_cond, px_block, px_loop, px_scope, px_exit, px_ret, seqK_normal, seqK_exit, seqK_ret, condK_true, condK_false, opsK_some, wK_true, wK_false, itK_some, aops_nil, aops_cons, lK_some, aK_some, hK_some, dwK_true, dwK_false, diK_some, dK_light, dK_alloc, dK_heavy, adraw_nil, adraw_cons, aop, cls, light, lightS, binE, aeq, intBin, goInt, pl_int, pl_bool, pl_ptr, pl_slice, aload, isAggT, aeval, tput, awanted, List.range_succ, fin, aresults, aresult, List.replicate, heavy, acallOp, aenter, ble_d, beq_d, firstRegion, readNames, Nxt, isAnc, readsOk, objEq_some, undef]
    exact hI
set_option maxRecDepth 20000 in
set_option maxHeartbeats 6400000 in
theorem cmpL {h0 : Heap} {xa ya : Option Addr} {xc yc L : Nat} {x y : List Nat} (hL : x.length = L) (hL2 : y.length = L) (wx : W32 x) (wy : W32 y) (ka : L ≤ 1000) (hx : Sl h0 (.slice xa L xc) 1 L (u3 x)) (hy : Sl h0 (.slice ya L yc) 1 L (u3 y)) (p : Nat) (hp : p < L) (hab : ∀ j, p < j → x.getD j 0 = y.getD j 0) (hlt : x.getD p 0 < y.getD p 0) (F : Step) (hFF : F = aexecP Try.prog (sO 63) (run Try.prog sO) loopω pt63 (lb63 0)) (t : Tm)
    (ht : forget [0, 1, 2, 3, 4, 8, 9, 10, 11, 12, 13, 14, 15, 16, 17, 18, 19, 20, 21, 22, 23, 24, 25, 26, 27, 28, 29, 30, 31, 32, 33, 34, 35, 36, 37, 38, 39, 40, 41, 42, 43, 44, 45, 46] t = [unk, unk, unk, unk, unk, .slice xa L xc, .slice ya L yc, .int .i64 (lz L (0)), unk, unk, unk, unk, unk, unk, unk, unk, unk, unk, unk, unk, unk, unk, unk, unk, unk, unk, unk, unk, unk, unk, unk, unk, unk, unk, unk, unk, unk, unk, unk, unk, unk, unk, unk, unk, unk, unk, unk]) (hI0 : h0 = h0) :
    ∃ h' x25 x26 x29 x30 x31 x32 x33 x34 x35 x36 x37 x38 x39 x40 x41 x42 x43 x44 x45 x46, loopω [0, 1, 2, 3, 4, 8, 9, 10, 11, 12, 13, 14, 15, 16, 17, 18, 19, 20, 21, 22, 23, 24, 25, 26, 27, 28, 29, 30, 31, 32, 33, 34, 35, 36, 37, 38, 39, 40, 41, 42, 43, 44, 45, 46] F t h0 = some (.ret, [unk, unk, unk, unk, .int .i64 (-1), .slice xa L xc, .slice ya L yc, .int .i64 (lz L (L - 1 - p)), unk, unk, unk, unk, unk, unk, unk, unk, unk, unk, unk, unk, unk, unk, unk, unk, unk, x25, x26, unk, unk, x29, x30, x31, x32, x33, x34, x35, x36, x37, x38, x39, x40, x41, x42, x43, x44, x45, x46], h') ∧ h' = h0 := by
  subst hFF
  suffices hs : ∃ e t' h', loopω [0, 1, 2, 3, 4, 8, 9, 10, 11, 12, 13, 14, 15, 16, 17, 18, 19, 20, 21, 22, 23, 24, 25, 26, 27, 28, 29, 30, 31, 32, 33, 34, 35, 36, 37, 38, 39, 40, 41, 42, 43, 44, 45, 46] (aexecP Try.prog (sO 63) (run Try.prog sO) loopω pt63 (lb63 0)) t h0 = some (e, t', h') ∧ (e = .ret ∧ ∃ x25 x26 x29 x30 x31 x32 x33 x34 x35 x36 x37 x38 x39 x40 x41 x42 x43 x44 x45 x46, t' = [unk, unk, unk, unk, .int .i64 (-1), .slice xa L xc, .slice ya L yc, .int .i64 (lz L (L - 1 - p)), unk, unk, unk, unk, unk, unk, unk, unk, unk, unk, unk, unk, unk, unk, unk, unk, unk, x25, x26, unk, unk, x29, x30, x31, x32, x33, x34, x35, x36, x37, x38, x39, x40, x41, x42, x43, x44, x45, x46] ∧ h' = h0) by
    obtain ⟨e, t', h', q1, rfl, x25, x26, x29, x30, x31, x32, x33, x34, x35, x36, x37, x38, x39, x40, x41, x42, x43, x44, x45, x46, rfl, q2⟩ := hs
    exact ⟨h', x25, x26, x29, x30, x31, x32, x33, x34, x35, x36, x37, x38, x39, x40, x41, x42, x43, x44, x45, x46, q1, q2⟩
  simp only [lb63, Try.f63, loopsOf, Option.getD_some, List.nil_append, List.append_nil, List.cons_append, List.getD_cons_zero, List.getD_cons_succ]
  refine loop_by (fun k t h' => ∃ (i : Nat), i + k = L - 1 - p ∧ forget [0, 1, 2, 3, 4, 8, 9, 10, 11, 12, 13, 14, 15, 16, 17, 18, 19, 20, 21, 22, 23, 24, 25, 26, 27, 28, 29, 30, 31, 32, 33, 34, 35, 36, 37, 38, 39, 40, 41, 42, 43, 44, 45, 46] t = [unk, unk, unk, unk, unk, .slice xa L xc, .slice ya L yc, .int .i64 (lz L (i)), unk, unk, unk, unk, unk, unk, unk, unk, unk, unk, unk, unk, unk, unk, unk, unk, unk, unk, unk, unk, unk, unk, unk, unk, unk, unk, unk, unk, unk, unk, unk, unk, unk, unk, unk, unk, unk, unk, unk] ∧ h' = h0)
    (fun e t' h' => e = .ret ∧ ∃ x25 x26 x29 x30 x31 x32 x33 x34 x35 x36 x37 x38 x39 x40 x41 x42 x43 x44 x45 x46, t' = [unk, unk, unk, unk, .int .i64 (-1), .slice xa L xc, .slice ya L yc, .int .i64 (lz L (L - 1 - p)), unk, unk, unk, unk, unk, unk, unk, unk, unk, unk, unk, unk, unk, unk, unk, unk, unk, x25, x26, unk, unk, x29, x30, x31, x32, x33, x34, x35, x36, x37, x38, x39, x40, x41, x42, x43, x44, x45, x46] ∧ h' = h0) ?_ (L - 1 - p) _ _ ⟨0, by omega, ht, hI0⟩
  rintro k t h' ⟨i, hi, ht, hI⟩
  rw [ht]
  rcases Nat.lt_or_ge i (L - 1 - p) with h1 | h1
  · obtain ⟨q, hq⟩ : ∃ q : Nat, L - 1 - i = q := ⟨_, rfl⟩
    have hz1 : lz L i = (q : Int) := by unfold lz; omega
    have hz2 : IntKind.i64.wrap ((q : Int) - 1) = lz L (i + 1) := by rw [IntWalk.i64_in _ (by omega)]; unfold lz; omega
    subst hI
    rw [hz1]
    have hqL : q < L := by omega
    obtain ⟨xa, xc, C, ce, cs, gr, ro, eb, hg, hc⟩ := sl_u3 hx hqL
    simp only [Value.slice.injEq, true_and] at eb
    obtain ⟨rfl, rfl⟩ := eb
    obtain ⟨ya, yc, C2, ce2, cs2, gr2, ro2, eb, hg2, hc2⟩ := sl_u3 hy hqL
    simp only [Value.slice.injEq, true_and] at eb
    obtain ⟨rfl, rfl⟩ := eb
    
    have he : x.getD q 0 = y.getD q 0 := hab q (by omega)
    rw [he] at hc
    generalize y.getD q 0 = w at *
    simp (maxSteps := 2000000) -implicitDefEqProofs [px_skip, px_label, px_region, px_draw, qx_seq, qx_cond, px_block, px_loop, px_scope, px_exit, px_ret, seqK_normal, seqK_exit, seqK_ret, condK_true, condK_false, opsK_some, wK_true, wK_false, itK_some, aops_nil, aops_cons, lK_some, aK_some, hK_some, dwK_true, dwK_false, diK_some, dK_light, dK_alloc, dK_heavy, adraw_nil, adraw_cons, aop, cls, light, lightS, binE, aeq, intBin, goInt, pl_int, pl_bool, pl_ptr, pl_slice, aload, isAggT, aeval, tput, awanted, List.range_succ, fin, aresults, aresult, List.replicate, heavy, acallOp, aenter, ble_d, beq_d, firstRegion, readNames, Nxt, isAnc, readsOk, objEq_some, hqL, aindexAddr, sz101, Try.underlying40, hg, hc, hg2, hc2, pt63_9, pl63_9, an63_9, pt63_11, pl63_11, an63_11, hz2,  undef]
    exact ⟨k - 1, by omega, i + 1, by omega, by simp (maxSteps := 2000000) only [forget, List.set_cons_succ, List.set_cons_zero]⟩
  · obtain rfl : i = L - 1 - p := by omega
    obtain ⟨q, hq⟩ : ∃ q : Nat, L - 1 - (L - 1 - p) = q := ⟨_, rfl⟩
    obtain rfl : q = p := by omega
    have hz1 : lz L (L - 1 - q) = (q : Int) := by unfold lz; omega
    have hz2 : IntKind.i64.wrap ((q : Int) - 1) = lz L (L - 1 - q + 1) := by rw [IntWalk.i64_in _ (by omega)]; unfold lz; omega
    subst hI
    rw [hz1]
    have hqL : q < L := by omega
    obtain ⟨xa, xc, C, ce, cs, gr, ro, eb, hg, hc⟩ := sl_u3 hx hqL
    simp only [Value.slice.injEq, true_and] at eb
    obtain ⟨rfl, rfl⟩ := eb
    obtain ⟨ya, yc, C2, ce2, cs2, gr2, ro2, eb, hg2, hc2⟩ := sl_u3 hy hqL
    simp only [Value.slice.injEq, true_and] at eb
    obtain ⟨rfl, rfl⟩ := eb
    
    generalize x.getD q 0 = u at *
    generalize y.getD q 0 = w at *
    simp (maxSteps := 2000000) -implicitDefEqProofs [px_skip, px_label, px_region, px_draw, qx_seq, qx_cond, px_block, px_loop, px_scope, px_exit, px_ret, seqK_normal, seqK_exit, seqK_ret, condK_true, condK_false, opsK_some, wK_true, wK_false, itK_some, aops_nil, aops_cons, lK_some, aK_some, hK_some, dwK_true, dwK_false, diK_some, dK_light, dK_alloc, dK_heavy, adraw_nil, adraw_cons, aop, cls, light, lightS, binE, aeq, intBin, goInt, pl_int, pl_bool, pl_ptr, pl_slice, aload, isAggT, aeval, tput, awanted, List.range_succ, fin, aresults, aresult, List.replicate, heavy, acallOp, aenter, ble_d, beq_d, firstRegion, readNames, Nxt, isAnc, readsOk, objEq_some, hqL, aindexAddr, sz101, Try.underlying40, hg, hc, hg2, hc2, pt63_9, pl63_9, an63_9, pt63_11, pl63_11, an63_11, hz2, hlt,  undef]
set_option maxRecDepth 20000 in
set_option maxHeartbeats 6400000 in
theorem cmpG {h0 : Heap} {xa ya : Option Addr} {xc yc L : Nat} {x y : List Nat} (hL : x.length = L) (hL2 : y.length = L) (wx : W32 x) (wy : W32 y) (ka : L ≤ 1000) (hx : Sl h0 (.slice xa L xc) 1 L (u3 x)) (hy : Sl h0 (.slice ya L yc) 1 L (u3 y)) (p : Nat) (hp : p < L) (hab : ∀ j, p < j → x.getD j 0 = y.getD j 0) (hlt : y.getD p 0 < x.getD p 0) (F : Step) (hFF : F = aexecP Try.prog (sO 63) (run Try.prog sO) loopω pt63 (lb63 0)) (t : Tm)
    (ht : forget [0, 1, 2, 3, 4, 8, 9, 10, 11, 12, 13, 14, 15, 16, 17, 18, 19, 20, 21, 22, 23, 24, 25, 26, 27, 28, 29, 30, 31, 32, 33, 34, 35, 36, 37, 38, 39, 40, 41, 42, 43, 44, 45, 46] t = [unk, unk, unk, unk, unk, .slice xa L xc, .slice ya L yc, .int .i64 (lz L (0)), unk, unk, unk, unk, unk, unk, unk, unk, unk, unk, unk, unk, unk, unk, unk, unk, unk, unk, unk, unk, unk, unk, unk, unk, unk, unk, unk, unk, unk, unk, unk, unk, unk, unk, unk, unk, unk, unk, unk]) (hI0 : h0 = h0) :
    ∃ h' x25 x26 x29 x30 x31 x32 x33 x34 x35 x36 x37 x38 x39 x40 x41 x42 x43 x44 x45 x46, loopω [0, 1, 2, 3, 4, 8, 9, 10, 11, 12, 13, 14, 15, 16, 17, 18, 19, 20, 21, 22, 23, 24, 25, 26, 27, 28, 29, 30, 31, 32, 33, 34, 35, 36, 37, 38, 39, 40, 41, 42, 43, 44, 45, 46] F t h0 = some (.ret, [unk, unk, unk, unk, .int .i64 1, .slice xa L xc, .slice ya L yc, .int .i64 (lz L (L - 1 - p)), unk, unk, unk, unk, unk, unk, unk, unk, unk, unk, unk, unk, unk, unk, unk, unk, unk, x25, x26, unk, unk, x29, x30, x31, x32, x33, x34, x35, x36, x37, x38, x39, x40, x41, x42, x43, x44, x45, x46], h') ∧ h' = h0 := by
  subst hFF
  suffices hs : ∃ e t' h', loopω [0, 1, 2, 3, 4, 8, 9, 10, 11, 12, 13, 14, 15, 16, 17, 18, 19, 20, 21, 22, 23, 24, 25, 26, 27, 28, 29, 30, 31, 32, 33, 34, 35, 36, 37, 38, 39, 40, 41, 42, 43, 44, 45, 46] (aexecP Try.prog (sO 63) (run Try.prog sO) loopω pt63 (lb63 0)) t h0 = some (e, t', h') ∧ (e = .ret ∧ ∃ x25 x26 x29 x30 x31 x32 x33 x34 x35 x36 x37 x38 x39 x40 x41 x42 x43 x44 x45 x46, t' = [unk, unk, unk, unk, .int .i64 1, .slice xa L xc, .slice ya L yc, .int .i64 (lz L (L - 1 - p)), unk, unk, unk, unk, unk, unk, unk, unk, unk, unk, unk, unk, unk, unk, unk, unk, unk, x25, x26, unk, unk, x29, x30, x31, x32, x33, x34, x35, x36, x37, x38, x39, x40, x41, x42, x43, x44, x45, x46] ∧ h' = h0) by
    obtain ⟨e, t', h', q1, rfl, x25, x26, x29, x30, x31, x32, x33, x34, x35, x36, x37, x38, x39, x40, x41, x42, x43, x44, x45, x46, rfl, q2⟩ := hs
    exact ⟨h', x25, x26, x29, x30, x31, x32, x33, x34, x35, x36, x37, x38, x39, x40, x41, x42, x43, x44, x45, x46, q1, q2⟩
  simp only [lb63, Try.f63, loopsOf, Option.getD_some, List.nil_append, List.append_nil, List.cons_append, List.getD_cons_zero, List.getD_cons_succ]
  refine loop_by (fun k t h' => ∃ (i : Nat), i + k = L - 1 - p ∧ forget [0, 1, 2, 3, 4, 8, 9, 10, 11, 12, 13, 14, 15, 16, 17, 18, 19, 20, 21, 22, 23, 24, 25, 26, 27, 28, 29, 30, 31, 32, 33, 34, 35, 36, 37, 38, 39, 40, 41, 42, 43, 44, 45, 46] t = [unk, unk, unk, unk, unk, .slice xa L xc, .slice ya L yc, .int .i64 (lz L (i)), unk, unk, unk, unk, unk, unk, unk, unk, unk, unk, unk, unk, unk, unk, unk, unk, unk, unk, unk, unk, unk, unk, unk, unk, unk, unk, unk, unk, unk, unk, unk, unk, unk, unk, unk, unk, unk, unk, unk] ∧ h' = h0)
    (fun e t' h' => e = .ret ∧ ∃ x25 x26 x29 x30 x31 x32 x33 x34 x35 x36 x37 x38 x39 x40 x41 x42 x43 x44 x45 x46, t' = [unk, unk, unk, unk, .int .i64 1, .slice xa L xc, .slice ya L yc, .int .i64 (lz L (L - 1 - p)), unk, unk, unk, unk, unk, unk, unk, unk, unk, unk, unk, unk, unk, unk, unk, unk, unk, x25, x26, unk, unk, x29, x30, x31, x32, x33, x34, x35, x36, x37, x38, x39, x40, x41, x42, x43, x44, x45, x46] ∧ h' = h0) ?_ (L - 1 - p) _ _ ⟨0, by omega, ht, hI0⟩
  rintro k t h' ⟨i, hi, ht, hI⟩
  rw [ht]
  rcases Nat.lt_or_ge i (L - 1 - p) with h1 | h1
  · obtain ⟨q, hq⟩ : ∃ q : Nat, L - 1 - i = q := ⟨_, rfl⟩
    have hz1 : lz L i = (q : Int) := by unfold lz; omega
    have hz2 : IntKind.i64.wrap ((q : Int) - 1) = lz L (i + 1) := by rw [IntWalk.i64_in _ (by omega)]; unfold lz; omega
    subst hI
    rw [hz1]
    have hqL : q < L := by omega
    obtain ⟨xa, xc, C, ce, cs, gr, ro, eb, hg, hc⟩ := sl_u3 hx hqL
    simp only [Value.slice.injEq, true_and] at eb
    obtain ⟨rfl, rfl⟩ := eb
    obtain ⟨ya, yc, C2, ce2, cs2, gr2, ro2, eb, hg2, hc2⟩ := sl_u3 hy hqL
    simp only [Value.slice.injEq, true_and] at eb
    obtain ⟨rfl, rfl⟩ := eb
    
    have he : x.getD q 0 = y.getD q 0 := hab q (by omega)
    rw [he] at hc
    generalize y.getD q 0 = w at *
    simp (maxSteps := 2000000) -implicitDefEqProofs [px_skip, px_label, px_region, px_draw, qx_seq, qx_cond, px_block, px_loop, px_scope, px_exit, px_ret, seqK_normal, seqK_exit, seqK_ret, condK_true, condK_false, opsK_some, wK_true, wK_false, itK_some, aops_nil, aops_cons, lK_some, aK_some, hK_some, dwK_true, dwK_false, diK_some, dK_light, dK_alloc, dK_heavy, adraw_nil, adraw_cons, aop, cls, light, lightS, binE, aeq, intBin, goInt, pl_int, pl_bool, pl_ptr, pl_slice, aload, isAggT, aeval, tput, awanted, List.range_succ, fin, aresults, aresult, List.replicate, heavy, acallOp, aenter, ble_d, beq_d, firstRegion, readNames, Nxt, isAnc, readsOk, objEq_some, hqL, aindexAddr, sz101, Try.underlying40, hg, hc, hg2, hc2, pt63_9, pl63_9, an63_9, pt63_11, pl63_11, an63_11, hz2,  undef]
    exact ⟨k - 1, by omega, i + 1, by omega, by simp (maxSteps := 2000000) only [forget, List.set_cons_succ, List.set_cons_zero]⟩
  · obtain rfl : i = L - 1 - p := by omega
    obtain ⟨q, hq⟩ : ∃ q : Nat, L - 1 - (L - 1 - p) = q := ⟨_, rfl⟩
    obtain rfl : q = p := by omega
    have hz1 : lz L (L - 1 - q) = (q : Int) := by unfold lz; omega
    have hz2 : IntKind.i64.wrap ((q : Int) - 1) = lz L (L - 1 - q + 1) := by rw [IntWalk.i64_in _ (by omega)]; unfold lz; omega
    subst hI
    rw [hz1]
    have hqL : q < L := by omega
    obtain ⟨xa, xc, C, ce, cs, gr, ro, eb, hg, hc⟩ := sl_u3 hx hqL
    simp only [Value.slice.injEq, true_and] at eb
    obtain ⟨rfl, rfl⟩ := eb
    obtain ⟨ya, yc, C2, ce2, cs2, gr2, ro2, eb, hg2, hc2⟩ := sl_u3 hy hqL
    simp only [Value.slice.injEq, true_and] at eb
    obtain ⟨rfl, rfl⟩ := eb
    
    generalize x.getD q 0 = u at *
    generalize y.getD q 0 = w at *
    have hnl : ¬ u < w := by omega
    simp (maxSteps := 2000000) -implicitDefEqProofs [px_skip, px_label, px_region, px_draw, qx_seq, qx_cond, px_block, px_loop, px_scope, px_exit, px_ret, seqK_normal, seqK_exit, seqK_ret, condK_true, condK_false, opsK_some, wK_true, wK_false, itK_some, aops_nil, aops_cons, lK_some, aK_some, hK_some, dwK_true, dwK_false, diK_some, dK_light, dK_alloc, dK_heavy, adraw_nil, adraw_cons, aop, cls, light, lightS, binE, aeq, intBin, goInt, pl_int, pl_bool, pl_ptr, pl_slice, aload, isAggT, aeval, tput, awanted, List.range_succ, fin, aresults, aresult, List.replicate, heavy, acallOp, aenter, ble_d, beq_d, firstRegion, readNames, Nxt, isAnc, readsOk, objEq_some, hqL, aindexAddr, sz101, Try.underlying40, hg, hc, hg2, hc2, pt63_9, pl63_9, an63_9, pt63_11, pl63_11, an63_11, hz2, hlt, hnl,  undef]
theorem useX20 {ks : List Nat} {F : Step} {t : Tm} {h : Heap} {rr : Option (AEx × Tm × Heap)} {f : Heap → Value → Value → Value → Value → Value → Value → Value → Value → Value → Value → Value → Value → Value → Value → Value → Value → Value → Value → Value → Value → Option (AEx × Tm × Heap)} {p : Heap → Value → Value → Value → Value → Value → Value → Value → Value → Value → Value → Value → Value → Value → Value → Value → Value → Value → Value → Value → Value → Prop} (hl : loopω ks F t h = rr) (H : ∃ h' x0 x1 x2 x3 x4 x5 x6 x7 x8 x9 x10 x11 x12 x13 x14 x15 x16 x17 x18 x19, loopω ks F t h = f h' x0 x1 x2 x3 x4 x5 x6 x7 x8 x9 x10 x11 x12 x13 x14 x15 x16 x17 x18 x19 ∧ p h' x0 x1 x2 x3 x4 x5 x6 x7 x8 x9 x10 x11 x12 x13 x14 x15 x16 x17 x18 x19) : ∃ h' x0 x1 x2 x3 x4 x5 x6 x7 x8 x9 x10 x11 x12 x13 x14 x15 x16 x17 x18 x19, rr = f h' x0 x1 x2 x3 x4 x5 x6 x7 x8 x9 x10 x11 x12 x13 x14 x15 x16 x17 x18 x19 ∧ p h' x0 x1 x2 x3 x4 x5 x6 x7 x8 x9 x10 x11 x12 x13 x14 x15 x16 x17 x18 x19 := hl ▸ H

theorem cmp3_run {h : Heap} {v w : Value} {a b : List Nat} (ha : Na h v a) (hb : Na h w b) : ∃ h', run Try.prog sO 63 [v, w] h = some (.int .i64 (cmpN (nv a) (nv b)), h') ∧ Keep No h h' := by
  obtain ⟨v1, h1, e1, ⟨l1, k1, n1⟩, b1⟩ := trim_run ha
  obtain ⟨v2, h2, e2, ⟨l2, k2, n2⟩, b2⟩ := trim_run (hb.keep k1)
  have ka := ha.2.2
  have kb := hb.2.2
  have s1 := l1.sl.keep k2 fun _ _ x => x
  have s2 := l2.sl
  obtain ⟨xa0, xc0, rfl⟩ := sl_form ha.1
  obtain ⟨ya0, yc0, rfl⟩ := sl_form hb.1
  obtain ⟨xa, xc, rfl⟩ := sl_form s1
  obtain ⟨ya, yc, rfl⟩ := sl_form s2
  suffices hx : ∃ y, fin Try.prog Try.f63 (aexecP Try.prog (sO 63) (run Try.prog sO) loopω pt63 (Try.f63.body.getD .skip) ([.slice xa0 a.length xc0, .slice ya0 b.length yc0] ++ List.replicate (Try.f63.ntmps - 2) undef) h) = some y ∧ y.1 = .int .i64 (cmpN (nv a) (nv b)) ∧ Keep No h y.2 by
    obtain ⟨⟨y1, y2⟩, hy, rfl, q⟩ := hx
    exact ⟨y2, run_finP pt63 Try.func63 rfl planned63 hy, q⟩
  have hA := lm_w (nv a)
  have hB := lm_w (nv b)
  have kk := k1.trans k2
  rcases Nat.lt_trichotomy (lm (nv a)).length (lm (nv b)).length with c1 | c1 | c1
  · have hv : cmpN (nv a) (nv b) = -1 := by unfold cmpN; rw [if_pos (len_lt c1)]
    rw [hv]
    simp (maxSteps := 2000000) -implicitDefEqProofs [Try.f63, px_skip, px_label, px_region, px_draw, qx_seq, qx_cond, px_block, px_loop, px_scope, px_exit, px_ret, seqK_normal, seqK_exit, seqK_ret, condK_true, condK_false, opsK_some, wK_true, wK_false, itK_some, aops_nil, aops_cons, lK_some, aK_some, hK_some, dwK_true, dwK_false, diK_some, dK_light, dK_alloc, dK_heavy, adraw_nil, adraw_cons, aop, cls, light, lightS, binE, aeq, intBin, goInt, pl_int, pl_bool, pl_ptr, pl_slice, aload, isAggT, aeval, tput, awanted, List.range_succ, fin, aresults, aresult, List.replicate, heavy, acallOp, aenter, ble_d, beq_d, firstRegion, readNames, Nxt, isAnc, readsOk, objEq_some, Try.underlying40, en85, e1, e2, c1]
    exact kk
  · have hna : nv (lm (nv a)) = nv a := nv_lm _
    have hnb : nv (lm (nv b)) = nv b := nv_lm _
    rw [c1] at s1 b1 e1
    generalize hLL : (lm (nv b)).length = L at *
    have n0 : ¬ L < L := by omega
    have wd : IntKind.i64.wrap ((L : Int) - 1) = lz L 0 := by rw [IntWalk.i64_in _ (by omega)]; unfold lz; omega
    by_cases he : lm (nv a) = lm (nv b)
    · have hv : cmpN (nv a) (nv b) = 0 := by
        have : nv a = nv b := by rw [← hna, he, hnb]
        unfold cmpN; rw [if_neg (by omega), if_neg (by omega)]
      rw [hv]
      simp (maxSteps := 2000000) -implicitDefEqProofs [Try.f63, px_skip, px_label, px_region, px_draw, qx_seq, qx_cond, px_block, px_loop, px_scope, px_exit, px_ret, seqK_normal, seqK_exit, seqK_ret, condK_true, condK_false, opsK_some, wK_true, wK_false, itK_some, aops_nil, aops_cons, lK_some, aK_some, hK_some, dwK_true, dwK_false, diK_some, dK_light, dK_alloc, dK_heavy, adraw_nil, adraw_cons, aop, cls, light, lightS, binE, aeq, intBin, goInt, pl_int, pl_bool, pl_ptr, pl_slice, aload, isAggT, aeval, tput, awanted, List.range_succ, fin, aresults, aresult, List.replicate, heavy, acallOp, aenter, ble_d, beq_d, firstRegion, readNames, Nxt, isAnc, readsOk, objEq_some, Try.underlying40, en85, e1, e2, n0, wd, sO63]
      generalize hl : loopω _ _ _ _ = r
      obtain ⟨h3, x25, x26, hx, hh⟩ := useX2 hl (cmpE (h0 := h2) (xa := xa) (xc := xc) (ya := ya) (yc := yc) (L := L) (x := lm (nv a)) (y := lm (nv b)) c1 hLL hA hB (by omega) s1 s2 he _ (by kernel_rfl) _ (by kernel_rfl) rfl)
      subst hx
      subst hh
      simp (maxSteps := 2000000) -implicitDefEqProofs [px_skip, px_label, px_region, px_draw, qx_seq, qx_cond, px_block, px_loop, px_scope, px_exit, px_ret, seqK_normal, seqK_exit, seqK_ret, condK_true, condK_false, opsK_some, wK_true, wK_false, itK_some, aops_nil, aops_cons, lK_some, aK_some, hK_some, dwK_true, dwK_false, diK_some, dK_light, dK_alloc, dK_heavy, adraw_nil, adraw_cons, aop, cls, light, lightS, binE, aeq, intBin, goInt, pl_int, pl_bool, pl_ptr, pl_slice, aload, isAggT, aeval, tput, awanted, List.range_succ, fin, aresults, aresult, List.replicate, heavy, acallOp, aenter, ble_d, beq_d, firstRegion, readNames, Nxt, isAnc, readsOk, objEq_some]
      exact ⟨_, _, ⟨rfl, rfl⟩, rfl, kk⟩
    · obtain ⟨p, hp, hab, hlt⟩ := top_diff hA hB (by omega) he
      rw [hna, hnb] at hlt
      rcases hlt with ⟨hlt, hlv⟩ | ⟨hlt, hlv⟩
      · have hv : cmpN (nv a) (nv b) = -1 := by unfold cmpN; rw [if_pos hlv]
        rw [hv]
        simp (maxSteps := 2000000) -implicitDefEqProofs [Try.f63, px_skip, px_label, px_region, px_draw, qx_seq, qx_cond, px_block, px_loop, px_scope, px_exit, px_ret, seqK_normal, seqK_exit, seqK_ret, condK_true, condK_false, opsK_some, wK_true, wK_false, itK_some, aops_nil, aops_cons, lK_some, aK_some, hK_some, dwK_true, dwK_false, diK_some, dK_light, dK_alloc, dK_heavy, adraw_nil, adraw_cons, aop, cls, light, lightS, binE, aeq, intBin, goInt, pl_int, pl_bool, pl_ptr, pl_slice, aload, isAggT, aeval, tput, awanted, List.range_succ, fin, aresults, aresult, List.replicate, heavy, acallOp, aenter, ble_d, beq_d, firstRegion, readNames, Nxt, isAnc, readsOk, objEq_some, Try.underlying40, en85, e1, e2, n0, wd, sO63]
        generalize hl : loopω _ _ _ _ = r
        obtain ⟨h3, x0, x1, x2, x3, x4, x5, x6, x7, x8, x9, x10, x11, x12, x13, x14, x15, x16, x17, x18, x19, hx, hh⟩ := useX20 hl (cmpL (h0 := h2) (xa := xa) (xc := xc) (ya := ya) (yc := yc) (L := L) (x := lm (nv a)) (y := lm (nv b)) c1 hLL hA hB (by omega) s1 s2 p (by omega) hab hlt _ (by kernel_rfl) _ (by kernel_rfl) rfl)
        subst hx
        subst hh
        simp (maxSteps := 2000000) -implicitDefEqProofs [px_skip, px_label, px_region, px_draw, qx_seq, qx_cond, px_block, px_loop, px_scope, px_exit, px_ret, seqK_normal, seqK_exit, seqK_ret, condK_true, condK_false, opsK_some, wK_true, wK_false, itK_some, aops_nil, aops_cons, lK_some, aK_some, hK_some, dwK_true, dwK_false, diK_some, dK_light, dK_alloc, dK_heavy, adraw_nil, adraw_cons, aop, cls, light, lightS, binE, aeq, intBin, goInt, pl_int, pl_bool, pl_ptr, pl_slice, aload, isAggT, aeval, tput, awanted, List.range_succ, fin, aresults, aresult, List.replicate, heavy, acallOp, aenter, ble_d, beq_d, firstRegion, readNames, Nxt, isAnc, readsOk, objEq_some]
        exact ⟨_, _, ⟨rfl, rfl⟩, rfl, kk⟩
      · have hv : cmpN (nv a) (nv b) = 1 := by unfold cmpN; rw [if_neg (by omega), if_pos hlv]
        rw [hv]
        simp (maxSteps := 2000000) -implicitDefEqProofs [Try.f63, px_skip, px_label, px_region, px_draw, qx_seq, qx_cond, px_block, px_loop, px_scope, px_exit, px_ret, seqK_normal, seqK_exit, seqK_ret, condK_true, condK_false, opsK_some, wK_true, wK_false, itK_some, aops_nil, aops_cons, lK_some, aK_some, hK_some, dwK_true, dwK_false, diK_some, dK_light, dK_alloc, dK_heavy, adraw_nil, adraw_cons, aop, cls, light, lightS, binE, aeq, intBin, goInt, pl_int, pl_bool, pl_ptr, pl_slice, aload, isAggT, aeval, tput, awanted, List.range_succ, fin, aresults, aresult, List.replicate, heavy, acallOp, aenter, ble_d, beq_d, firstRegion, readNames, Nxt, isAnc, readsOk, objEq_some, Try.underlying40, en85, e1, e2, n0, wd, sO63]
        generalize hl : loopω _ _ _ _ = r
        obtain ⟨h3, x0, x1, x2, x3, x4, x5, x6, x7, x8, x9, x10, x11, x12, x13, x14, x15, x16, x17, x18, x19, hx, hh⟩ := useX20 hl (cmpG (h0 := h2) (xa := xa) (xc := xc) (ya := ya) (yc := yc) (L := L) (x := lm (nv a)) (y := lm (nv b)) c1 hLL hA hB (by omega) s1 s2 p (by omega) hab hlt _ (by kernel_rfl) _ (by kernel_rfl) rfl)
        subst hx
        subst hh
        simp (maxSteps := 2000000) -implicitDefEqProofs [px_skip, px_label, px_region, px_draw, qx_seq, qx_cond, px_block, px_loop, px_scope, px_exit, px_ret, seqK_normal, seqK_exit, seqK_ret, condK_true, condK_false, opsK_some, wK_true, wK_false, itK_some, aops_nil, aops_cons, lK_some, aK_some, hK_some, dwK_true, dwK_false, diK_some, dK_light, dK_alloc, dK_heavy, adraw_nil, adraw_cons, aop, cls, light, lightS, binE, aeq, intBin, goInt, pl_int, pl_bool, pl_ptr, pl_slice, aload, isAggT, aeval, tput, awanted, List.range_succ, fin, aresults, aresult, List.replicate, heavy, acallOp, aenter, ble_d, beq_d, firstRegion, readNames, Nxt, isAnc, readsOk, objEq_some]
        exact ⟨_, _, ⟨rfl, rfl⟩, rfl, kk⟩
  · have c2 : ¬ (lm (nv a)).length < (lm (nv b)).length := by omega
    have hv : cmpN (nv a) (nv b) = 1 := by unfold cmpN; rw [if_neg (by have := len_lt c1; omega), if_pos (len_lt c1)]
    rw [hv]
    simp (maxSteps := 2000000) -implicitDefEqProofs [Try.f63, px_skip, px_label, px_region, px_draw, qx_seq, qx_cond, px_block, px_loop, px_scope, px_exit, px_ret, seqK_normal, seqK_exit, seqK_ret, condK_true, condK_false, opsK_some, wK_true, wK_false, itK_some, aops_nil, aops_cons, lK_some, aK_some, hK_some, dwK_true, dwK_false, diK_some, dK_light, dK_alloc, dK_heavy, adraw_nil, adraw_cons, aop, cls, light, lightS, binE, aeq, intBin, goInt, pl_int, pl_bool, pl_ptr, pl_slice, aload, isAggT, aeval, tput, awanted, List.range_succ, fin, aresults, aresult, List.replicate, heavy, acallOp, aenter, ble_d, beq_d, firstRegion, readNames, Nxt, isAnc, readsOk, objEq_some, Try.underlying40, en85, e1, e2, c1, c2]
    exact kk
end Go.Proofs.Ytmnkmdfladbgdaa.Od
