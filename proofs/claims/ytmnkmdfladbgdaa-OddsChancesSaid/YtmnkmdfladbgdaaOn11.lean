/- Odds: how likely a log is, exactly, by the document. -/
import Derived.Test.YtmnkmdfladbgdaaOn8
import Derived.Test.YtmnkmdfladbgdaaOl13
set_option linter.unusedVariables false
set_option linter.unusedSimpArgs false
namespace Go.Proofs.Ytmnkmdfladbgdaa.Od
open Go Go.Proofs Go.RowKit Go.Proofs.YtmnkmdfladbgdaaAI Go.Proofs.YtmnkmdfladbgdaaFl

theorem bit0_run {h : Heap} {v : Value} {A : Nat} (ha : Na h v (lm A)) : run Try.prog sO 88 [v, .int .i64 0] h = some (.bool (decide (A % 2 = 1)), h) := by
  have e : run Try.prog sO 88 [v, .int .i64 0] h = _ := bit_run 0 ha (by omega)
  rw [nv_lm, Nat.pow_zero, Nat.div_one] at e
  exact e
theorem shr0_run {h : Heap} {v : Value} {A : Nat} (ha : Na h v (lm A)) : ∃ v' h', run Try.prog sO 87 [v, .int .i64 0] h = some (v', h') ∧ Nt h h' v' A := by
  obtain ⟨v', h', e, n, _⟩ := shr_run 0 ha (by omega)
  rw [nv_lm, Nat.pow_zero, Nat.div_one] at n
  exact ⟨v', h', e, n⟩
theorem shr1_run {h : Heap} {v : Value} {A : Nat} (ha : Na h v (lm A)) : ∃ v' h', run Try.prog sO 87 [v, .int .i64 1] h = some (v', h') ∧ Nt h h' v' (A / 2) := by
  obtain ⟨v', h', e, n, _⟩ := shr_run 1 ha (by omega)
  rw [nv_lm, Nat.pow_one] at n
  exact ⟨v', h', e, n⟩
theorem Nt.na' {h0 h : Heap} {v : Value} {n m : Nat} (hn : Nt h0 h v n) (hk : (lm m).length ≤ 1000) (hle : n ≤ m) : Na h v (lm n) := hn.na (Nat.le_trans (lm_len (by have := nv_lt (lm_w m); rw [nv_lm] at this; omega)) hk)
/-- Halving, a one among the two. -/
def CI (X Y : Nat) : Prop := (X = 1 ∧ 1 ≤ Y) ∨ Y = 1
set_option maxRecDepth 20000 in
set_option maxHeartbeats 6400000 in
theorem twosA {h0 : Heap} {xa ya : Option Addr} {xc yc kx ky A B : Nat} (hx : Na h0 (.slice xa kx xc) (lm A)) (hy : Na h0 (.slice ya ky yc) (lm B)) (hA : A % 2 = 1) (F : Step) (hFF : F = aexecP Try.prog (sO 83) (run Try.prog sO) loopω pt83 (lb83 0)) (t : Tm)
    (ht : forget [0, 1, 2, 3, 4, 8, 9, 10, 11, 12, 13, 14, 15, 16, 17, 18, 19, 20, 21, 22, 23, 24, 25, 26, 27, 28, 29, 30, 31, 32, 33, 34, 35, 36, 37, 38, 39, 40, 41, 42, 43, 44, 45, 46, 47, 48, 49, 50, 51, 52, 53, 54, 55, 56, 57, 58, 59, 60, 61, 62, 63, 64, 65, 66, 67, 68, 69, 70] t = [unk, unk, unk, unk, unk, .slice xa kx xc, .slice ya ky yc, .int .i64 (0 : Nat), unk, unk, unk, unk, unk, unk, unk, unk, unk, unk, unk, unk, unk, unk, unk, unk, unk, unk, unk, unk, unk, unk, unk, unk, unk, unk, unk, unk, unk, unk, unk, unk, unk, unk, unk, unk, unk, unk, unk, unk, unk, unk, unk, unk, unk, unk, unk, unk, unk, unk, unk, unk, unk, unk, unk, unk, unk, unk, unk, unk, unk, unk, unk]) (hI0 : h0 = h0) :
    ∃ h' x20 x21 x22 x23 x24 x25 x26 x27 x28 x29, loopω [0, 1, 2, 3, 4, 8, 9, 10, 11, 12, 13, 14, 15, 16, 17, 18, 19, 20, 21, 22, 23, 24, 25, 26, 27, 28, 29, 30, 31, 32, 33, 34, 35, 36, 37, 38, 39, 40, 41, 42, 43, 44, 45, 46, 47, 48, 49, 50, 51, 52, 53, 54, 55, 56, 57, 58, 59, 60, 61, 62, 63, 64, 65, 66, 67, 68, 69, 70] F t h0 = some (.exit 0, [unk, unk, unk, unk, unk, .slice xa kx xc, .slice ya ky yc, .int .i64 (0 : Nat), unk, unk, unk, unk, unk, unk, unk, unk, unk, unk, unk, unk, x20, x21, x22, x23, x24, x25, x26, x27, x28, x29, unk, unk, unk, unk, unk, unk, unk, unk, unk, unk, unk, unk, unk, unk, unk, unk, unk, unk, unk, unk, unk, unk, unk, unk, unk, unk, unk, unk, unk, unk, unk, unk, unk, unk, unk, unk, unk, unk, unk, unk, unk], h') ∧ h' = h0 := by
  subst hFF
  suffices hs : ∃ e t' h', loopω [0, 1, 2, 3, 4, 8, 9, 10, 11, 12, 13, 14, 15, 16, 17, 18, 19, 20, 21, 22, 23, 24, 25, 26, 27, 28, 29, 30, 31, 32, 33, 34, 35, 36, 37, 38, 39, 40, 41, 42, 43, 44, 45, 46, 47, 48, 49, 50, 51, 52, 53, 54, 55, 56, 57, 58, 59, 60, 61, 62, 63, 64, 65, 66, 67, 68, 69, 70] (aexecP Try.prog (sO 83) (run Try.prog sO) loopω pt83 (lb83 0)) t h0 = some (e, t', h') ∧ (e = .exit 0 ∧ ∃ x20 x21 x22 x23 x24 x25 x26 x27 x28 x29, t' = [unk, unk, unk, unk, unk, .slice xa kx xc, .slice ya ky yc, .int .i64 (0 : Nat), unk, unk, unk, unk, unk, unk, unk, unk, unk, unk, unk, unk, x20, x21, x22, x23, x24, x25, x26, x27, x28, x29, unk, unk, unk, unk, unk, unk, unk, unk, unk, unk, unk, unk, unk, unk, unk, unk, unk, unk, unk, unk, unk, unk, unk, unk, unk, unk, unk, unk, unk, unk, unk, unk, unk, unk, unk, unk, unk, unk, unk, unk, unk] ∧ h' = h0) by
    obtain ⟨e, t', h', q1, rfl, x20, x21, x22, x23, x24, x25, x26, x27, x28, x29, rfl, q2⟩ := hs
    exact ⟨h', x20, x21, x22, x23, x24, x25, x26, x27, x28, x29, q1, q2⟩
  simp only [lb83, Try.f83, loopsOf, Option.getD_some, List.nil_append, List.append_nil, List.cons_append, List.getD_cons_zero, List.getD_cons_succ]
  refine loop_by (fun k t h' => ∃ (i : Nat), i + k = 0 ∧ forget [0, 1, 2, 3, 4, 8, 9, 10, 11, 12, 13, 14, 15, 16, 17, 18, 19, 20, 21, 22, 23, 24, 25, 26, 27, 28, 29, 30, 31, 32, 33, 34, 35, 36, 37, 38, 39, 40, 41, 42, 43, 44, 45, 46, 47, 48, 49, 50, 51, 52, 53, 54, 55, 56, 57, 58, 59, 60, 61, 62, 63, 64, 65, 66, 67, 68, 69, 70] t = [unk, unk, unk, unk, unk, .slice xa kx xc, .slice ya ky yc, .int .i64 (i : Nat), unk, unk, unk, unk, unk, unk, unk, unk, unk, unk, unk, unk, unk, unk, unk, unk, unk, unk, unk, unk, unk, unk, unk, unk, unk, unk, unk, unk, unk, unk, unk, unk, unk, unk, unk, unk, unk, unk, unk, unk, unk, unk, unk, unk, unk, unk, unk, unk, unk, unk, unk, unk, unk, unk, unk, unk, unk, unk, unk, unk, unk, unk, unk] ∧ h' = h0)
    (fun e t' h' => e = .exit 0 ∧ ∃ x20 x21 x22 x23 x24 x25 x26 x27 x28 x29, t' = [unk, unk, unk, unk, unk, .slice xa kx xc, .slice ya ky yc, .int .i64 (0 : Nat), unk, unk, unk, unk, unk, unk, unk, unk, unk, unk, unk, unk, x20, x21, x22, x23, x24, x25, x26, x27, x28, x29, unk, unk, unk, unk, unk, unk, unk, unk, unk, unk, unk, unk, unk, unk, unk, unk, unk, unk, unk, unk, unk, unk, unk, unk, unk, unk, unk, unk, unk, unk, unk, unk, unk, unk, unk, unk, unk, unk, unk, unk, unk] ∧ h' = h0) ?_ (0) _ _ ⟨0, by omega, ht, hI0⟩
  rintro k t h' ⟨i, hi, ht, hI⟩
  rw [ht]
  rcases Nat.lt_or_ge i (0) with h1 | h1
  · exact absurd h1 (by omega)
  · obtain rfl : i = 0 := by omega
    subst hI
    have e1 := bit0_run hx
    have e2 := bit0_run hy
    rw [decide_eq_true hA] at e1
    
    have z0 : ((0 : Nat) : Int) = 0 := rfl
    rw [z0]
    simp (maxSteps := 2000000) -implicitDefEqProofs [pw, aop, cls, light, lightS, binE, aeq, intBin, goInt, aload, isAggT, aeval, tput, awanted, fin, aresults, aresult, List.replicate, heavy, acallOp, aenter, firstRegion, readNames, Nxt, isAnc, readsOk, cond_true, cond_false, en88, e1, e2, undef]
set_option maxRecDepth 20000 in
set_option maxHeartbeats 6400000 in
theorem twosB {h0 : Heap} {xa ya : Option Addr} {xc yc kx ky A B : Nat} (hx : Na h0 (.slice xa kx xc) (lm A)) (hy : Na h0 (.slice ya ky yc) (lm B)) (hA : ¬ A % 2 = 1) (hB : B % 2 = 1) (F : Step) (hFF : F = aexecP Try.prog (sO 83) (run Try.prog sO) loopω pt83 (lb83 0)) (t : Tm)
    (ht : forget [0, 1, 2, 3, 4, 8, 9, 10, 11, 12, 13, 14, 15, 16, 17, 18, 19, 20, 21, 22, 23, 24, 25, 26, 27, 28, 29, 30, 31, 32, 33, 34, 35, 36, 37, 38, 39, 40, 41, 42, 43, 44, 45, 46, 47, 48, 49, 50, 51, 52, 53, 54, 55, 56, 57, 58, 59, 60, 61, 62, 63, 64, 65, 66, 67, 68, 69, 70] t = [unk, unk, unk, unk, unk, .slice xa kx xc, .slice ya ky yc, .int .i64 (0 : Nat), unk, unk, unk, unk, unk, unk, unk, unk, unk, unk, unk, unk, unk, unk, unk, unk, unk, unk, unk, unk, unk, unk, unk, unk, unk, unk, unk, unk, unk, unk, unk, unk, unk, unk, unk, unk, unk, unk, unk, unk, unk, unk, unk, unk, unk, unk, unk, unk, unk, unk, unk, unk, unk, unk, unk, unk, unk, unk, unk, unk, unk, unk, unk]) (hI0 : h0 = h0) :
    ∃ h' x20 x21 x22 x23 x24 x25 x26 x27 x28 x29, loopω [0, 1, 2, 3, 4, 8, 9, 10, 11, 12, 13, 14, 15, 16, 17, 18, 19, 20, 21, 22, 23, 24, 25, 26, 27, 28, 29, 30, 31, 32, 33, 34, 35, 36, 37, 38, 39, 40, 41, 42, 43, 44, 45, 46, 47, 48, 49, 50, 51, 52, 53, 54, 55, 56, 57, 58, 59, 60, 61, 62, 63, 64, 65, 66, 67, 68, 69, 70] F t h0 = some (.exit 0, [unk, unk, unk, unk, unk, .slice xa kx xc, .slice ya ky yc, .int .i64 (0 : Nat), unk, unk, unk, unk, unk, unk, unk, unk, unk, unk, unk, unk, x20, x21, x22, x23, x24, x25, x26, x27, x28, x29, unk, unk, unk, unk, unk, unk, unk, unk, unk, unk, unk, unk, unk, unk, unk, unk, unk, unk, unk, unk, unk, unk, unk, unk, unk, unk, unk, unk, unk, unk, unk, unk, unk, unk, unk, unk, unk, unk, unk, unk, unk], h') ∧ h' = h0 := by
  subst hFF
  suffices hs : ∃ e t' h', loopω [0, 1, 2, 3, 4, 8, 9, 10, 11, 12, 13, 14, 15, 16, 17, 18, 19, 20, 21, 22, 23, 24, 25, 26, 27, 28, 29, 30, 31, 32, 33, 34, 35, 36, 37, 38, 39, 40, 41, 42, 43, 44, 45, 46, 47, 48, 49, 50, 51, 52, 53, 54, 55, 56, 57, 58, 59, 60, 61, 62, 63, 64, 65, 66, 67, 68, 69, 70] (aexecP Try.prog (sO 83) (run Try.prog sO) loopω pt83 (lb83 0)) t h0 = some (e, t', h') ∧ (e = .exit 0 ∧ ∃ x20 x21 x22 x23 x24 x25 x26 x27 x28 x29, t' = [unk, unk, unk, unk, unk, .slice xa kx xc, .slice ya ky yc, .int .i64 (0 : Nat), unk, unk, unk, unk, unk, unk, unk, unk, unk, unk, unk, unk, x20, x21, x22, x23, x24, x25, x26, x27, x28, x29, unk, unk, unk, unk, unk, unk, unk, unk, unk, unk, unk, unk, unk, unk, unk, unk, unk, unk, unk, unk, unk, unk, unk, unk, unk, unk, unk, unk, unk, unk, unk, unk, unk, unk, unk, unk, unk, unk, unk, unk, unk] ∧ h' = h0) by
    obtain ⟨e, t', h', q1, rfl, x20, x21, x22, x23, x24, x25, x26, x27, x28, x29, rfl, q2⟩ := hs
    exact ⟨h', x20, x21, x22, x23, x24, x25, x26, x27, x28, x29, q1, q2⟩
  simp only [lb83, Try.f83, loopsOf, Option.getD_some, List.nil_append, List.append_nil, List.cons_append, List.getD_cons_zero, List.getD_cons_succ]
  refine loop_by (fun k t h' => ∃ (i : Nat), i + k = 0 ∧ forget [0, 1, 2, 3, 4, 8, 9, 10, 11, 12, 13, 14, 15, 16, 17, 18, 19, 20, 21, 22, 23, 24, 25, 26, 27, 28, 29, 30, 31, 32, 33, 34, 35, 36, 37, 38, 39, 40, 41, 42, 43, 44, 45, 46, 47, 48, 49, 50, 51, 52, 53, 54, 55, 56, 57, 58, 59, 60, 61, 62, 63, 64, 65, 66, 67, 68, 69, 70] t = [unk, unk, unk, unk, unk, .slice xa kx xc, .slice ya ky yc, .int .i64 (i : Nat), unk, unk, unk, unk, unk, unk, unk, unk, unk, unk, unk, unk, unk, unk, unk, unk, unk, unk, unk, unk, unk, unk, unk, unk, unk, unk, unk, unk, unk, unk, unk, unk, unk, unk, unk, unk, unk, unk, unk, unk, unk, unk, unk, unk, unk, unk, unk, unk, unk, unk, unk, unk, unk, unk, unk, unk, unk, unk, unk, unk, unk, unk, unk] ∧ h' = h0)
    (fun e t' h' => e = .exit 0 ∧ ∃ x20 x21 x22 x23 x24 x25 x26 x27 x28 x29, t' = [unk, unk, unk, unk, unk, .slice xa kx xc, .slice ya ky yc, .int .i64 (0 : Nat), unk, unk, unk, unk, unk, unk, unk, unk, unk, unk, unk, unk, x20, x21, x22, x23, x24, x25, x26, x27, x28, x29, unk, unk, unk, unk, unk, unk, unk, unk, unk, unk, unk, unk, unk, unk, unk, unk, unk, unk, unk, unk, unk, unk, unk, unk, unk, unk, unk, unk, unk, unk, unk, unk, unk, unk, unk, unk, unk, unk, unk, unk, unk] ∧ h' = h0) ?_ (0) _ _ ⟨0, by omega, ht, hI0⟩
  rintro k t h' ⟨i, hi, ht, hI⟩
  rw [ht]
  rcases Nat.lt_or_ge i (0) with h1 | h1
  · exact absurd h1 (by omega)
  · obtain rfl : i = 0 := by omega
    subst hI
    have e1 := bit0_run hx
    have e2 := bit0_run hy
    rw [decide_eq_false hA] at e1
    rw [decide_eq_true hB] at e2
    have z0 : ((0 : Nat) : Int) = 0 := rfl
    rw [z0]
    simp (maxSteps := 2000000) -implicitDefEqProofs [pw, aop, cls, light, lightS, binE, aeq, intBin, goInt, aload, isAggT, aeval, tput, awanted, fin, aresults, aresult, List.replicate, heavy, acallOp, aenter, firstRegion, readNames, Nxt, isAnc, readsOk, cond_true, cond_false, en88, e1, e2, undef]

set_option maxRecDepth 20000 in
set_option maxHeartbeats 6400000 in
theorem halve {h0 : Heap} (v0 w0 : Value) (F : Step) (hFF : F = (aexecP Try.prog (sO 83) (run Try.prog sO) loopω pt83 (lb83 1))) (t : Tm)
    (ht : forget [0, 1, 2, 3, 4, 8, 9, 10, 11, 12, 13, 14, 15, 16, 17, 18, 19, 20, 21, 22, 23, 24, 25, 26, 27, 28, 29, 30, 31, 32, 33, 34, 35, 36, 37, 38, 39, 40, 41, 42, 43, 44, 45, 46, 47, 48, 49, 50, 51, 52, 53, 54, 55, 56, 57, 58, 59, 60, 61, 62, 63, 64, 65, 66, 67, 68, 69, 70] t = [unk, unk, unk, unk, unk, v0, w0, .int .i64 0, unk, unk, unk, unk, unk, unk, unk, unk, unk, unk, unk, unk, unk, unk, unk, unk, unk, unk, unk, unk, unk, unk, unk, unk, unk, unk, unk, unk, unk, unk, unk, unk, unk, unk, unk, unk, unk, unk, unk, unk, unk, unk, unk, unk, unk, unk, unk, unk, unk, unk, unk, unk, unk, unk, unk, unk, unk, unk, unk, unk, unk, unk, unk]) (hI0 : ∃ X Y, Na h0 v0 (lm X) ∧ Na h0 w0 (lm Y) ∧ CI X Y) :
    ∃ h' v w x38 x39 x40 x41 x42 x43 x44 x45, loopω [0, 1, 2, 3, 4, 8, 9, 10, 11, 12, 13, 14, 15, 16, 17, 18, 19, 20, 21, 22, 23, 24, 25, 26, 27, 28, 29, 30, 31, 32, 33, 34, 35, 36, 37, 38, 39, 40, 41, 42, 43, 44, 45, 46, 47, 48, 49, 50, 51, 52, 53, 54, 55, 56, 57, 58, 59, 60, 61, 62, 63, 64, 65, 66, 67, 68, 69, 70] F t h0 = some (.exit 2, [unk, unk, unk, unk, unk, v, w, .int .i64 0, unk, unk, unk, unk, unk, unk, unk, unk, unk, unk, unk, unk, unk, unk, unk, unk, unk, unk, unk, unk, unk, unk, unk, unk, unk, unk, unk, unk, unk, unk, x38, x39, x40, x41, x42, x43, x44, x45, unk, unk, unk, unk, unk, unk, unk, unk, unk, unk, unk, unk, unk, unk, unk, unk, unk, unk, unk, unk, unk, unk, unk, unk, unk], h') ∧ (Na h' v (lm 0) ∧ Na h' w (lm 1) ∧ Keep No h0 h') := by
  subst hFF
  obtain ⟨X0, Y0, hX0, hY0, hC0⟩ := hI0
  suffices hs : ∃ e t' h', loopω [0, 1, 2, 3, 4, 8, 9, 10, 11, 12, 13, 14, 15, 16, 17, 18, 19, 20, 21, 22, 23, 24, 25, 26, 27, 28, 29, 30, 31, 32, 33, 34, 35, 36, 37, 38, 39, 40, 41, 42, 43, 44, 45, 46, 47, 48, 49, 50, 51, 52, 53, 54, 55, 56, 57, 58, 59, 60, 61, 62, 63, 64, 65, 66, 67, 68, 69, 70] (aexecP Try.prog (sO 83) (run Try.prog sO) loopω pt83 (lb83 1)) t h0 = some (e, t', h') ∧ (e = .exit 2 ∧ ∃ v w x38 x39 x40 x41 x42 x43 x44 x45, t' = [unk, unk, unk, unk, unk, v, w, .int .i64 0, unk, unk, unk, unk, unk, unk, unk, unk, unk, unk, unk, unk, unk, unk, unk, unk, unk, unk, unk, unk, unk, unk, unk, unk, unk, unk, unk, unk, unk, unk, x38, x39, x40, x41, x42, x43, x44, x45, unk, unk, unk, unk, unk, unk, unk, unk, unk, unk, unk, unk, unk, unk, unk, unk, unk, unk, unk, unk, unk, unk, unk, unk, unk] ∧ (Na h' v (lm 0) ∧ Na h' w (lm 1) ∧ Keep No h0 h')) by
    obtain ⟨e, t', h', q1, rfl, v, w, x38, x39, x40, x41, x42, x43, x44, x45, rfl, q2⟩ := hs
    exact ⟨h', v, w, x38, x39, x40, x41, x42, x43, x44, x45, q1, q2⟩
  simp only [lb83, Try.f83, loopsOf, Option.getD_some, List.nil_append, List.append_nil, List.cons_append, List.getD_cons_zero, List.getD_cons_succ]
  refine loop_by (fun k t h' => ∃ (v w : Value) (X Y : Nat), k = X + Y ∧ forget [0, 1, 2, 3, 4, 8, 9, 10, 11, 12, 13, 14, 15, 16, 17, 18, 19, 20, 21, 22, 23, 24, 25, 26, 27, 28, 29, 30, 31, 32, 33, 34, 35, 36, 37, 38, 39, 40, 41, 42, 43, 44, 45, 46, 47, 48, 49, 50, 51, 52, 53, 54, 55, 56, 57, 58, 59, 60, 61, 62, 63, 64, 65, 66, 67, 68, 69, 70] t = [unk, unk, unk, unk, unk, v, w, .int .i64 0, unk, unk, unk, unk, unk, unk, unk, unk, unk, unk, unk, unk, unk, unk, unk, unk, unk, unk, unk, unk, unk, unk, unk, unk, unk, unk, unk, unk, unk, unk, unk, unk, unk, unk, unk, unk, unk, unk, unk, unk, unk, unk, unk, unk, unk, unk, unk, unk, unk, unk, unk, unk, unk, unk, unk, unk, unk, unk, unk, unk, unk, unk, unk] ∧ Na h' v (lm X) ∧ Na h' w (lm Y) ∧ CI X Y ∧ Keep No h0 h')
    (fun e t' h' => e = .exit 2 ∧ ∃ v w x38 x39 x40 x41 x42 x43 x44 x45, t' = [unk, unk, unk, unk, unk, v, w, .int .i64 0, unk, unk, unk, unk, unk, unk, unk, unk, unk, unk, unk, unk, unk, unk, unk, unk, unk, unk, unk, unk, unk, unk, unk, unk, unk, unk, unk, unk, unk, unk, x38, x39, x40, x41, x42, x43, x44, x45, unk, unk, unk, unk, unk, unk, unk, unk, unk, unk, unk, unk, unk, unk, unk, unk, unk, unk, unk, unk, unk, unk, unk, unk, unk] ∧ (Na h' v (lm 0) ∧ Na h' w (lm 1) ∧ Keep No h0 h')) ?_ (X0 + Y0) _ _ ⟨v0, w0, X0, Y0, rfl, ht, hX0, hY0, hC0, Keep.refl _ _⟩
  rintro k t h' ⟨v, w, X, Y, rfl, ht, hX, hY, hC, kp⟩
  rw [ht]
  obtain ⟨xa, xc, rfl⟩ := sl_form hX.1
  obtain ⟨ya, yc, rfl⟩ := sl_form hY.1
  have hY1 : 1 ≤ Y := by unfold CI at hC; omega
  have pY := lm_len_pos hY1
  rcases Nat.eq_zero_or_pos X with h0' | hX1
  · subst h0'
    obtain rfl : Y = 1 := by unfold CI at hC; omega
    have lx : (lm 0).length = 0 := by rw [lm_zero]; rfl
    have ly : (lm 1).length = 1 := by rw [lm_one]; rfl
    rw [lx] at hX ⊢
    rw [ly] at hY ⊢
    simp (maxSteps := 2000000) -implicitDefEqProofs [pw, aop, cls, light, lightS, binE, aeq, intBin, goInt, aload, isAggT, aeval, tput, awanted, fin, aresults, aresult, List.replicate, heavy, acallOp, aenter, firstRegion, readNames, Nxt, isAnc, readsOk, cond_true, cond_false, undef]
    exact ⟨_, _, ⟨rfl, rfl⟩, hX, hY, kp⟩
  have pX := lm_len_pos hX1
  have e1 := bit0_run hX
  have e2 := bit0_run hY
  by_cases oX : X % 2 = 1
  · rw [decide_eq_true oX] at e1
    by_cases oY : Y % 2 = 1
    · rw [decide_eq_true oY] at e2
      obtain ⟨h3, e3, k3⟩ := cmp3_run hX hY
      rw [nv_lm, nv_lm] at e3
      by_cases hle : Y ≤ X
      · obtain ⟨v4, h4, e4, n4, b4⟩ := minus_run (hX.keep k3) (hY.keep k3) (by rw [nv_lm, nv_lm]; exact hle)
        rw [nv_lm, nv_lm] at n4 b4
        have hc : cmpN X Y ≥ 0 := by unfold cmpN; rw [if_neg (by omega)]; split <;> omega
        have hX4 := n4.na' (m := X) hX.2.2 (by omega)
        have hY4 := (hY.keep k3).keep n4.2.1
        have hC4 : CI (X - Y) Y := by unfold CI at hC ⊢; omega
        have kk := (kp.trans k3).trans n4.2.1
        generalize cmpN X Y = c at *
        have hc' : 0 ≤ c := hc
        generalize (lm X).length = lX at *
        generalize hlY : (lm Y).length = lY at *
        simp (maxSteps := 2000000) -implicitDefEqProofs [pw, aop, cls, light, lightS, binE, aeq, intBin, goInt, aload, isAggT, aeval, tput, awanted, fin, aresults, aresult, List.replicate, heavy, acallOp, aenter, firstRegion, readNames, Nxt, isAnc, readsOk, cond_true, cond_false, pX, pY, en88, e1, e2, en63, e3, hc', en65, e4, undef]
        exact ⟨X - Y + Y, by omega, v4, .slice ya lY yc, X - Y, Y, rfl, by simp (maxSteps := 2000000) only [forget, List.set_cons_succ, List.set_cons_zero], hX4, hY4, hC4, kk⟩
      · obtain ⟨v4, h4, e4, n4, b4⟩ := minus_run (hY.keep k3) (hX.keep k3) (by rw [nv_lm, nv_lm]; omega)
        rw [nv_lm, nv_lm] at n4 b4
        have hc : ¬ (0 ≤ cmpN X Y) := by unfold cmpN; rw [if_pos (by omega)]; omega
        have hY4 := n4.na' (m := Y) hY.2.2 (by omega)
        have hX4 := (hX.keep k3).keep n4.2.1
        have hC4 : CI X (Y - X) := by unfold CI at hC ⊢; omega
        have kk := (kp.trans k3).trans n4.2.1
        generalize cmpN X Y = c at *
        generalize hlX : (lm X).length = lX at *
        generalize (lm Y).length = lY at *
        simp (maxSteps := 2000000) -implicitDefEqProofs [pw, aop, cls, light, lightS, binE, aeq, intBin, goInt, aload, isAggT, aeval, tput, awanted, fin, aresults, aresult, List.replicate, heavy, acallOp, aenter, firstRegion, readNames, Nxt, isAnc, readsOk, cond_true, cond_false, pX, pY, en88, e1, e2, en63, e3, hc, en65, e4, undef]
        exact ⟨X + (Y - X), by omega, .slice xa lX xc, v4, X, Y - X, rfl, by simp (maxSteps := 2000000) only [forget, List.set_cons_succ, List.set_cons_zero], hX4, hY4, hC4, kk⟩
    · rw [decide_eq_false oY] at e2
      obtain ⟨v4, h4, e4, n4⟩ := shr1_run hY
      have hY4 := n4.na' (m := Y) hY.2.2 (by omega)
      have hX4 := hX.keep n4.2.1
      have hC4 : CI X (Y / 2) := by unfold CI at hC ⊢; omega
      have kk := kp.trans n4.2.1
      generalize hlX : (lm X).length = lX at *
      generalize (lm Y).length = lY at *
      simp (maxSteps := 2000000) -implicitDefEqProofs [pw, aop, cls, light, lightS, binE, aeq, intBin, goInt, aload, isAggT, aeval, tput, awanted, fin, aresults, aresult, List.replicate, heavy, acallOp, aenter, firstRegion, readNames, Nxt, isAnc, readsOk, cond_true, cond_false, pX, pY, en88, e1, e2, en87, e4, undef]
      exact ⟨X + Y / 2, by omega, .slice xa lX xc, v4, X, Y / 2, rfl, by simp (maxSteps := 2000000) only [forget, List.set_cons_succ, List.set_cons_zero], hX4, hY4, hC4, kk⟩
  · rw [decide_eq_false oX] at e1
    obtain ⟨v4, h4, e4, n4⟩ := shr1_run hX
    have hX4 := n4.na' (m := X) hX.2.2 (by omega)
    have hY4 := hY.keep n4.2.1
    have hC4 : CI (X / 2) Y := by unfold CI at hC ⊢; omega
    have kk := kp.trans n4.2.1
    generalize (lm X).length = lX at *
    generalize hlY : (lm Y).length = lY at *
    simp (maxSteps := 2000000) -implicitDefEqProofs [pw, aop, cls, light, lightS, binE, aeq, intBin, goInt, aload, isAggT, aeval, tput, awanted, fin, aresults, aresult, List.replicate, heavy, acallOp, aenter, firstRegion, readNames, Nxt, isAnc, readsOk, cond_true, cond_false, pX, pY, en88, e1, en87, e4, undef]
    exact ⟨X / 2 + Y, by omega, v4, .slice ya lY yc, X / 2, Y, rfl, by simp (maxSteps := 2000000) only [forget, List.set_cons_succ, List.set_cons_zero], hX4, hY4, hC4, kk⟩

set_option maxRecDepth 20000 in
theorem common_run {h : Heap} {v w : Value} {A B : Nat} (ha : Na h v (lm A)) (hb : Na h w (lm B)) (hA : 1 ≤ A) (hB : 1 ≤ B) (h1 : A = 1 ∨ B = 1) :
    ∃ v' h', run Try.prog sO 83 [v, w] h = some (v', h') ∧ Nt h h' v' 1 := by
  obtain ⟨v1, h1', e1, n1, b1⟩ := trim_run ha
  obtain ⟨v2, h2, e2, n2, b2⟩ := trim_run (hb.keep n1.2.1)
  rw [nv_lm] at n1 b1 n2 b2
  have c1 := (n1.na (by have := ha.2.2; omega)).keep n2.2.1
  have c2 := n2.na (by have := hb.2.2; omega)
  have kk := n1.2.1.trans n2.2.1
  obtain ⟨v3, h3, e3, n3⟩ := shr0_run c1
  obtain ⟨v4, h4, e4, n4⟩ := shr0_run (c2.keep n3.2.1)
  have c3 := (n3.na (by have := ha.2.2; omega)).keep n4.2.1
  have c4 := n4.na (by have := hb.2.2; omega)
  have kk4 := (kk.trans n3.2.1).trans n4.2.1
  suffices hx : ∃ y, fin Try.prog Try.f83 (aexecP Try.prog (sO 83) (run Try.prog sO) loopω pt83 (Try.f83.body.getD .skip) ([v, w] ++ List.replicate (Try.f83.ntmps - 2) undef) h) = some y ∧ Nt h y.2 y.1 1 by
    obtain ⟨⟨y1, y2⟩, hy, q1⟩ := hx
    exact ⟨y1, y2, run_finP pt83 Try.func83 rfl planned83 hy, q1⟩
  have pA := lm_len_pos hA
  have pB := lm_len_pos hB
  have qA : ¬ (lm A).length = 0 := by omega
  have qB : ¬ (lm B).length = 0 := by omega
  obtain ⟨va, vc, rfl⟩ := sl_form ha.1
  obtain ⟨wa, wc, rfl⟩ := sl_form hb.1
  obtain ⟨xa, xc, rfl⟩ := sl_form c1.1
  obtain ⟨ya, yc, rfl⟩ := sl_form c2.1
  simp (maxSteps := 2000000) -implicitDefEqProofs [Try.f83, pw, aop, cls, light, lightS, binE, aeq, intBin, goInt, aload, isAggT, aeval, tput, awanted, fin, aresults, aresult, List.replicate, heavy, acallOp, aenter, firstRegion, readNames, Nxt, isAnc, readsOk, cond_true, cond_false, en85, e1, e2, ibeq, qA, qB, sO83_7, undef]
  generalize hl : loopω _ _ _ _ = r
  have main : ∀ (t : Tm), forget [0, 1, 2, 3, 4, 8, 9, 10, 11, 12, 13, 14, 15, 16, 17, 18, 19, 20, 21, 22, 23, 24, 25, 26, 27, 28, 29, 30, 31, 32, 33, 34, 35, 36, 37, 38, 39, 40, 41, 42, 43, 44, 45, 46, 47, 48, 49, 50, 51, 52, 53, 54, 55, 56, 57, 58, 59, 60, 61, 62, 63, 64, 65, 66, 67, 68, 69, 70] t = [unk, unk, unk, unk, unk, v3, v4, .int .i64 0, unk, unk, unk, unk, unk, unk, unk, unk, unk, unk, unk, unk, unk, unk, unk, unk, unk, unk, unk, unk, unk, unk, unk, unk, unk, unk, unk, unk, unk, unk, unk, unk, unk, unk, unk, unk, unk, unk, unk, unk, unk, unk, unk, unk, unk, unk, unk, unk, unk, unk, unk, unk, unk, unk, unk, unk, unk, unk, unk, unk, unk, unk, unk] → ∃ h' v w x38 x39 x40 x41 x42 x43 x44 x45, loopω [0, 1, 2, 3, 4, 8, 9, 10, 11, 12, 13, 14, 15, 16, 17, 18, 19, 20, 21, 22, 23, 24, 25, 26, 27, 28, 29, 30, 31, 32, 33, 34, 35, 36, 37, 38, 39, 40, 41, 42, 43, 44, 45, 46, 47, 48, 49, 50, 51, 52, 53, 54, 55, 56, 57, 58, 59, 60, 61, 62, 63, 64, 65, 66, 67, 68, 69, 70] (aexecP Try.prog (sO 83) (run Try.prog sO) loopω pt83 (lb83 1)) t h4 = some (.exit 2, [unk, unk, unk, unk, unk, v, w, .int .i64 0, unk, unk, unk, unk, unk, unk, unk, unk, unk, unk, unk, unk, unk, unk, unk, unk, unk, unk, unk, unk, unk, unk, unk, unk, unk, unk, unk, unk, unk, unk, x38, x39, x40, x41, x42, x43, x44, x45, unk, unk, unk, unk, unk, unk, unk, unk, unk, unk, unk, unk, unk, unk, unk, unk, unk, unk, unk, unk, unk, unk, unk, unk, unk], h') ∧ (Na h' v (lm 0) ∧ Na h' w (lm 1) ∧ Keep No h4 h') := fun t ht => halve v3 v4 _ rfl t ht ⟨A, B, c3, c4, by unfold CI; omega⟩
  have fin7 : ∀ {h' : Heap} {v5 w5 : Value}, Na h' v5 (lm 0) → Na h' w5 (lm 1) → ∃ v6 h6 v7 h7, run Try.prog sO 66 [v5, w5] h' = some (v6, h6) ∧ run Try.prog sO 61 [v6, .int .i64 0] h6 = some (v7, h7) ∧ Nt h' h7 v7 1 := fun {h' v5 w5} a5 b5 => by
    obtain ⟨v6, h6, e6, n6, b6⟩ := plus_run a5 b5 (by rw [lm_zero]; simp) (by rw [lm_one]; simp)
    rw [nv_lm, nv_lm] at n6 b6
    rw [Nat.zero_add] at n6 b6
    have l1 : (lm 1).length = 1 := by rw [lm_one]; rfl
    obtain ⟨v7, h7, e7, n7, b7⟩ := shl_run 0 (n6.na (by omega)) (by omega) (by omega)
    rw [nv_lm, Nat.pow_zero, Nat.mul_one] at n7
    exact ⟨v6, h6, v7, h7, e6, e7, n7.1, n6.2.1.trans n7.2.1, fun m e => by have := n7.2.2 m e; have := n6.2.1.1; omega⟩
  by_cases oA : A % 2 = 1
  · obtain ⟨h5, x20, x21, x22, x23, x24, x25, x26, x27, x28, x29, hx, rfl⟩ := useX10 hl (twosA c1 c2 oA _ (by kernel_rfl) _ (by kernel_rfl) rfl)
    subst hx
    clear hl
    have z0 : ((0 : Nat) : Int) = 0 := rfl
    rw [z0]
    simp (maxSteps := 2000000) -implicitDefEqProofs [pw, aop, cls, light, lightS, binE, aeq, intBin, goInt, aload, isAggT, aeval, tput, awanted, fin, aresults, aresult, List.replicate, heavy, acallOp, aenter, firstRegion, readNames, Nxt, isAnc, readsOk, cond_true, cond_false, en87, e3, e4, sO83_10, undef]
    generalize hl : loopω _ _ _ _ = r
    obtain ⟨h6, v5, w5, x38, x39, x40, x41, x42, x43, x44, x45, hx, a5, b5, k5⟩ := useX10 hl (main _ (by kernel_rfl))
    subst hx
    obtain ⟨v6, h6', v7, h7, e6, e7, n7⟩ := fin7 a5 b5
    simp (maxSteps := 2000000) -implicitDefEqProofs [pw, aop, cls, light, lightS, binE, aeq, intBin, goInt, aload, isAggT, aeval, tput, awanted, fin, aresults, aresult, List.replicate, heavy, acallOp, aenter, firstRegion, readNames, Nxt, isAnc, readsOk, cond_true, cond_false, en66, en61, e6, e7, undef]
    have hk4 := kk4.1
    have hk5 := k5.1
    exact ⟨_, _, ⟨rfl, rfl⟩, n7.1, (kk4.trans k5).trans n7.2.1, fun m e => by have := n7.2.2 m e; omega⟩
  · have oB : B % 2 = 1 := by omega
    obtain ⟨h5, x20, x21, x22, x23, x24, x25, x26, x27, x28, x29, hx, rfl⟩ := useX10 hl (twosB c1 c2 oA oB _ (by kernel_rfl) _ (by kernel_rfl) rfl)
    subst hx
    clear hl
    have z0 : ((0 : Nat) : Int) = 0 := rfl
    rw [z0]
    simp (maxSteps := 2000000) -implicitDefEqProofs [pw, aop, cls, light, lightS, binE, aeq, intBin, goInt, aload, isAggT, aeval, tput, awanted, fin, aresults, aresult, List.replicate, heavy, acallOp, aenter, firstRegion, readNames, Nxt, isAnc, readsOk, cond_true, cond_false, en87, e3, e4, sO83_10, undef]
    generalize hl : loopω _ _ _ _ = r
    obtain ⟨h6, v5, w5, x38, x39, x40, x41, x42, x43, x44, x45, hx, a5, b5, k5⟩ := useX10 hl (main _ (by kernel_rfl))
    subst hx
    obtain ⟨v6, h6', v7, h7, e6, e7, n7⟩ := fin7 a5 b5
    simp (maxSteps := 2000000) -implicitDefEqProofs [pw, aop, cls, light, lightS, binE, aeq, intBin, goInt, aload, isAggT, aeval, tput, awanted, fin, aresults, aresult, List.replicate, heavy, acallOp, aenter, firstRegion, readNames, Nxt, isAnc, readsOk, cond_true, cond_false, en66, en61, e6, e7, undef]
    have hk4 := kk4.1
    have hk5 := k5.1
    exact ⟨_, _, ⟨rfl, rfl⟩, n7.1, (kk4.trans k5).trans n7.2.1, fun m e => by have := n7.2.2 m e; omega⟩
noncomputable def lb45 (i : Nat) : Code := (loopsOf (Try.f45.body.getD .skip)).getD i .skip
set_option maxRecDepth 20000 in
set_option maxHeartbeats 6400000 in
theorem same1 {h0 : Heap} {xa ya : Option Addr} {xc yc L : Nat} {l : List Nat} (hL : l.length = L) (hk : L ≤ 1000) (hx : Sl h0 (.slice xa L xc) 1 L (u3 l)) (hy : Sl h0 (.slice ya L yc) 1 L (u3 l)) (F : Step) (hFF : F = aexecP Try.prog (sO 45) (run Try.prog sO) loopω pt45 (lb45 0)) (t : Tm)
    (ht : forget [2, 3, 4, 6, 7, 8, 9, 10, 11, 12, 13, 14, 15, 16, 17, 18, 19, 20, 21, 22, 23, 24, 25] t = [.slice xa L xc, .slice ya L yc, unk, unk, unk, .int .i64 (0 : Nat), unk, unk, unk, unk, unk, unk, unk, unk, unk, unk, unk, unk, unk, unk, unk, unk, unk, unk, unk, unk]) (hI0 : h0 = h0) :
    ∃ h' x11 x12 x13 x14, loopω [2, 3, 4, 6, 7, 8, 9, 10, 11, 12, 13, 14, 15, 16, 17, 18, 19, 20, 21, 22, 23, 24, 25] F t h0 = some (.exit 0, [.slice xa L xc, .slice ya L yc, unk, unk, unk, .int .i64 (L : Nat), unk, unk, unk, unk, unk, x11, x12, x13, x14, unk, unk, unk, unk, unk, unk, unk, unk, unk, unk, unk], h') ∧ h' = h0 := by
  subst hFF
  suffices hs : ∃ e t' h', loopω [2, 3, 4, 6, 7, 8, 9, 10, 11, 12, 13, 14, 15, 16, 17, 18, 19, 20, 21, 22, 23, 24, 25] (aexecP Try.prog (sO 45) (run Try.prog sO) loopω pt45 (lb45 0)) t h0 = some (e, t', h') ∧ (e = .exit 0 ∧ ∃ x11 x12 x13 x14, t' = [.slice xa L xc, .slice ya L yc, unk, unk, unk, .int .i64 (L : Nat), unk, unk, unk, unk, unk, x11, x12, x13, x14, unk, unk, unk, unk, unk, unk, unk, unk, unk, unk, unk] ∧ h' = h0) by
    obtain ⟨e, t', h', q1, rfl, x11, x12, x13, x14, rfl, q2⟩ := hs
    exact ⟨h', x11, x12, x13, x14, q1, q2⟩
  simp only [lb45, Try.f45, loopsOf, Option.getD_some, List.nil_append, List.append_nil, List.cons_append, List.getD_cons_zero, List.getD_cons_succ]
  refine loop_by (fun k t h' => ∃ (i : Nat), i + k = L ∧ forget [2, 3, 4, 6, 7, 8, 9, 10, 11, 12, 13, 14, 15, 16, 17, 18, 19, 20, 21, 22, 23, 24, 25] t = [.slice xa L xc, .slice ya L yc, unk, unk, unk, .int .i64 (i : Nat), unk, unk, unk, unk, unk, unk, unk, unk, unk, unk, unk, unk, unk, unk, unk, unk, unk, unk, unk, unk] ∧ h' = h0)
    (fun e t' h' => e = .exit 0 ∧ ∃ x11 x12 x13 x14, t' = [.slice xa L xc, .slice ya L yc, unk, unk, unk, .int .i64 (L : Nat), unk, unk, unk, unk, unk, x11, x12, x13, x14, unk, unk, unk, unk, unk, unk, unk, unk, unk, unk, unk] ∧ h' = h0) ?_ (L) _ _ ⟨0, by omega, ht, hI0⟩
  rintro k t h' ⟨i, hi, ht, hI⟩
  rw [ht]
  rcases Nat.lt_or_ge i (L) with h1 | h1
  · have hinc := @inc64 i (by omega)
    have hcs := cast_succ i
    subst hI
    obtain ⟨xa, xc, C, ce, cs, gr, ro, eb, hg, hc⟩ := sl_u3 hx h1
    simp only [Value.slice.injEq, true_and] at eb
    obtain ⟨rfl, rfl⟩ := eb
    obtain ⟨ya, yc, C2, ce2, cs2, gr2, ro2, eb, hg2, hc2⟩ := sl_u3 hy h1
    simp only [Value.slice.injEq, true_and] at eb
    obtain ⟨rfl, rfl⟩ := eb
    generalize l.getD i 0 = u at *
    simp (maxSteps := 2000000) -implicitDefEqProofs [pw, aop, cls, light, lightS, binE, aeq, intBin, goInt, aload, isAggT, aeval, tput, awanted, fin, aresults, aresult, List.replicate, heavy, acallOp, aenter, firstRegion, readNames, Nxt, isAnc, readsOk, cond_true, cond_false, h1, hg, hc, hg2, hc2, pt45_6, pl45_6, an45_6, aindexAddr, sz101, Try.underlying40, ibne, hinc, undef]
    exact ⟨k - 1, by omega, i + 1, by omega, by simp (maxSteps := 2000000) only [forget, List.set_cons_succ, List.set_cons_zero, hcs]⟩
  · obtain rfl : i = L := by omega
    simp (maxSteps := 2000000) -implicitDefEqProofs [pw, aop, cls, light, lightS, binE, aeq, intBin, goInt, aload, isAggT, aeval, tput, awanted, fin, aresults, aresult, List.replicate, heavy, acallOp, aenter, firstRegion, readNames, Nxt, isAnc, readsOk, cond_true, cond_false, undef]
    exact hI

theorem same_run {h : Heap} {v w : Value} {l : List Nat} (hx : Na h v l) (hy : Na h w l) : run Try.prog sO 45 [v, w] h = some (.bool true, h) := by
  obtain ⟨xa, xc, rfl⟩ := sl_form hx.1
  obtain ⟨ya, yc, rfl⟩ := sl_form hy.1
  suffices hz : ∃ y, fin Try.prog Try.f45 (aexecP Try.prog (sO 45) (run Try.prog sO) loopω pt45 (Try.f45.body.getD .skip) ([.slice xa l.length xc, .slice ya l.length yc] ++ List.replicate (Try.f45.ntmps - 2) undef) h) = some y ∧ y.1 = .bool true ∧ y.2 = h by
    obtain ⟨⟨y1, y2⟩, hy, rfl, rfl⟩ := hz
    exact run_finP pt45 Try.func45 rfl planned45 hy
  simp (maxSteps := 2000000) -implicitDefEqProofs [Try.f45, pw, aop, cls, light, lightS, binE, aeq, intBin, goInt, aload, isAggT, aeval, tput, awanted, fin, aresults, aresult, List.replicate, heavy, acallOp, aenter, firstRegion, readNames, Nxt, isAnc, readsOk, cond_true, cond_false, ibne, sO45]
  generalize hl : loopω _ _ _ _ = r
  obtain ⟨h3, x11, x12, x13, x14, hz, hh⟩ := useX4 hl (same1 rfl hx.2.2 hx.1 hy.1 _ (by kernel_rfl) _ (by kernel_rfl) rfl)
  subst hz
  subst hh
  simp (maxSteps := 2000000) -implicitDefEqProofs [pw, aop, cls, light, lightS, binE, aeq, intBin, goInt, aload, isAggT, aeval, tput, awanted, fin, aresults, aresult, List.replicate, heavy, acallOp, aenter, firstRegion, readNames, Nxt, isAnc, readsOk, cond_true, cond_false]
end Go.Proofs.Ytmnkmdfladbgdaa.Od
set_option linter.unusedVariables false
set_option linter.unusedSimpArgs false
namespace Go.Proofs.Ytmnkmdfladbgdaa.Od
open Go Go.Proofs Go.RowKit Go.Proofs.YtmnkmdfladbgdaaAI Go.Proofs.YtmnkmdfladbgdaaFl

/-- A natural in form, of 16 limbs at most (that it may be cut isn't said). -/
def Nfa (h : Heap) (v : Value) (A : Nat) : Prop := Na h v (lm A) ∧ 1 ≤ A ∧ (lm A).length ≤ 16
theorem Nfa.keep {h h' : Heap} {v : Value} {A : Nat} (hn : Nfa h v A) (hk : Keep No h h') : Nfa h' v A := ⟨hn.1.keep hk, hn.2⟩
theorem Nf.a {h : Heap} {v : Value} {A : Nat} (hn : Nf h v A) : Nfa h v A := ⟨hn.1.1, hn.2⟩
def RVa (h : Heap) (v : Value) (A B : Nat) : Prop := ∃ a k c a' k' c', v = .agg #[.bool false, .slice a k c, .slice a' k' c'] ∧ Nfa h (.slice a k c) A ∧ Nfa h (.slice a' k' c') B
theorem RVa.keep {h h' : Heap} {v : Value} {A B : Nat} (hn : RVa h v A B) (hk : Keep No h h') : RVa h' v A B := by
  obtain ⟨a, k, c, a', k', c', rfl, n1, n2⟩ := hn
  exact ⟨_, _, _, _, _, _, rfl, n1.keep hk, n2.keep hk⟩
theorem RV.a {h : Heap} {v : Value} {A B : Nat} (hn : RV h v A B) : RVa h v A B := by
  obtain ⟨a, k, c, a', k', c', rfl, n1, n2⟩ := hn
  exact ⟨_, _, _, _, _, _, rfl, n1.a, n2.a⟩
theorem RVa.put {h : Heap} {r : Value} {A B : Nat} (hr : RVa h r A B) {m : Nat} {b : Bool} {a : Option Addr} {k1 c : Nat} {a' : Option Addr} {k' c' : Nat} {ce : TypeId} {cs : Nat} {gr ro : Bool} (hg : h.get m = some (.cells [.bool b, .slice a k1 c, .slice a' k' c'] ce cs gr ro)) (o : Option AObj) : RVa (h.put m o) r A B := by
  obtain ⟨x1, y1, z1, x2, y2, z2, rfl, n1, n2⟩ := hr
  have kP : Keep (fun m' => m' = m) h (h.put m o) := Keep.put (S := fun m' => m' = m) (Heap.get_lt hg) rfl _
  exact ⟨_, _, _, _, _, _, rfl, ⟨⟨n1.1.1.keep kP (nm_put n1.1.1 hg), n1.1.2⟩, n1.2⟩, ⟨⟨n2.1.1.keep kP (nm_put n2.1.1 hg), n2.1.2⟩, n2.2⟩⟩
theorem nfa_len {h : Heap} {a : Option Addr} {k c A : Nat} (hn : Nfa h (.slice a k c) A) : k = (lm A).length := by
  obtain ⟨_, _, e⟩ := sl_form hn.1.1
  cases e; rfl
/-- A one, new. -/
theorem na_one (h : Heap) : Na (h.new (.cells [.int .u32 1] 101 1 false false)) (.slice (some ⟨h.next, 0, none⟩) 1 1) (lm 1) := by
  rw [lm_one]
  exact ⟨⟨rfl, .inr ⟨_, _, rfl, fun _ => ⟨_, _, _, _, _, by rw [Heap.get_new, if_pos rfl], rfl⟩⟩⟩, fun x hx => by rw [List.mem_singleton.1 hx]; omega, by simp⟩
set_option maxRecDepth 20000 in
theorem form56_run {h : Heap} {v : Value} {A B : Nat} (hv : RVa h v A B) (h1 : A = 1 ∨ B = 1) : ∃ h', run Try.prog sO 56 [v] h = some (.bool true, h') ∧ Keep No h h' := by
  obtain ⟨a, k, c, a', k', c', rfl, n1, n2⟩ := hv
  have hk1 := nfa_len n1
  have hk2 := nfa_len n2
  have p1 := lm_len_pos n1.2.1
  have p2 := lm_len_pos n2.2.1
  have k0 := Keep.new No h (.cells [.bool false, .slice a k c, .slice a' k' c'] 42 3 false false)
  have g0 : (h.new (.cells [.bool false, .slice a k c, .slice a' k' c'] 42 3 false false)).get h.next = some (.cells [.bool false, .slice a k c, .slice a' k' c'] 42 3 false false) := by rw [Heap.get_new, if_pos rfl]
  obtain ⟨hA, hhA⟩ : ∃ x, x = h.new (.cells [.bool false, .slice a k c, .slice a' k' c'] 42 3 false false) := ⟨_, rfl⟩
  rw [← hhA] at k0 g0
  have e1 := (nform_run (n1.keep k0).1 n1.2.1 n1.2.2).2
  have e2 := (nform_run (n2.keep k0).1 n2.2.1 n2.2.2).2
  obtain ⟨v3, h3, e3, n3⟩ := common_run (n1.keep k0).1 (n2.keep k0).1 n1.2.1 n2.2.1 h1
  have ll : (lm 1).length = 1 := by rw [lm_one]; rfl
  have no := na_one h3
  have kB := Keep.new No h3 (.cells [.int .u32 1] 101 1 false false)
  obtain ⟨hB, hhB⟩ : ∃ x, x = h3.new (.cells [.int .u32 1] 101 1 false false) := ⟨_, rfl⟩
  rw [← hhB] at no kB
  have e4 := same_run ((n3.na (by omega)).keep kB) no
  have c2 : ¬ k' = 0 := by omega
  refine ⟨hB, run_finP pt56 Try.func56 rfl planned56 ?_, (k0.trans n3.2.1).trans kB⟩
  have hbx := fun ρ x hx => bx42 ρ x false a k c a' k' c' hx
  simp (maxSteps := 2000000) -implicitDefEqProofs [Try.f56, pw, aop, cls, light, lightS, binE, aeq, intBin, goInt, aload, isAggT, aeval, tput, awanted, fin, aresults, aresult, List.replicate, heavy, acallOp, aenter, firstRegion, readNames, Nxt, isAnc, readsOk, cond_true, cond_false, hbx, ← hhA, g0, fa42_0, fa42_1, fa42_2, ibeq, c2, en82, en83, en45, e1, e2, e3, (fun ρ y hy => bs40_1 ρ y (1 : Int) hy), ← hhB, e4, undef]
set_option maxRecDepth 20000 in
set_option maxHeartbeats 3200000 in
/-- A / B, one of them one, as an answer, or that it is too big. -/
theorem make78_run {h : Heap} {v w : Value} {x y : List Nat} {A B : Nat} (hv : Na h v x) (hw : Na h w y) (kx : x.length ≤ 800) (ky : y.length ≤ 800) (hA : nv x = A) (hB : nv y = B) (h1 : 1 ≤ A) (h2 : 1 ≤ B) (ho : A = 1 ∨ B = 1) (hA16 : (lm A).length ≤ 16) :
    ∃ r h', run Try.prog sO 78 [.bool false, v, w] h = some (.tuple #[r, .int .i64 (if (lm B).length ≤ 16 then 0 else 4)], h') ∧ Keep No h h' ∧ ((lm B).length ≤ 16 → RVa h' r A B) ∧ (16 < (lm B).length → r = .agg #[.bool false, .slice none 0 0, .slice none 0 0]) := by
  have k0 := Keep.new No h (.cells [.bool false, .slice none 0 0, .slice none 0 0] 42 3 false false)
  have g0 : (h.new (.cells [.bool false, .slice none 0 0, .slice none 0 0] 42 3 false false)).get h.next = some (.cells [.bool false, .slice none 0 0, .slice none 0 0] 42 3 false false) := by rw [Heap.get_new, if_pos rfl]
  obtain ⟨hA', hhA⟩ : ∃ x, x = h.new (.cells [.bool false, .slice none 0 0, .slice none 0 0] 42 3 false false) := ⟨_, rfl⟩
  rw [← hhA] at k0 g0
  obtain ⟨v1, h1', e1, n1, b1⟩ := trim_run (hv.keep k0)
  obtain ⟨v2, h2', e2, n2, b2⟩ := trim_run ((hw.keep k0).keep n1.2.1)
  rw [hA] at n1 b1
  rw [hB] at n2 b2
  have d1 := (n1.na (by omega)).keep n2.2.1
  have d2 := n2.na (by omega)
  obtain ⟨v3, h3, e3, n3⟩ := common_run d1 d2 h1 h2 ho
  have ll : (lm 1).length = 1 := by rw [lm_one]; rfl
  have d1a := d1.keep n3.2.1
  have d2a := d2.keep n3.2.1
  have d3 := n3.na (by omega)
  obtain ⟨v4, r4, h4, e4, n4, _, k4⟩ := divide_run d1a d3 (by omega) (by omega) (by rw [nv_lm]; omega)
  obtain ⟨v5, r5, h5, e5, n5, _, k5⟩ := divide_run (d2a.keep k4) (d3.keep k4) (by omega) (by omega) (by rw [nv_lm]; omega)
  rw [nv_lm, nv_lm, Nat.div_one] at n4 n5
  have n4' := n4.keep k5
  have kk := (((n1.2.1.trans n2.2.1).trans n3.2.1).trans k4).trans k5
  have g5 := kk.get g0 fun x => x
  have hlt := Heap.get_lt g5
  have pA := lm_len_pos h1
  have pB := lm_len_pos h2
  have cA : ¬ (lm A).length = 0 := by omega
  have cB : ¬ (lm B).length = 0 := by omega
  have cA16 : ¬ (16 : Int) < ((lm A).length : Int) := by omega
  obtain ⟨va, vc, rfl⟩ := sl_form hv.1
  obtain ⟨wa, wc, rfl⟩ := sl_form hw.1
  obtain ⟨xa1, xc1, rfl⟩ := sl_form d1.1
  obtain ⟨ya1, yc1, rfl⟩ := sl_form d2.1
  obtain ⟨xa, xc, rfl⟩ := sl_form n4'.1
  obtain ⟨ya, yc, rfl⟩ := sl_form n5.1
  by_cases c16 : (lm B).length ≤ 16
  · obtain ⟨h6, h6e⟩ : ∃ x, x = h5.put h.next (some (.cells [.bool false, .slice xa (lm A).length xc, .slice ya (lm B).length yc] 42 3 false false)) := ⟨_, rfl⟩
    have g6 : h6.get h.next = some (.cells [.bool false, .slice xa (lm A).length xc, .slice ya (lm B).length yc] 42 3 false false) := by rw [h6e, Heap.get_put hlt, if_pos rfl]
    have kP : Keep (fun m => m = h.next) h5 h6 := h6e ▸ Keep.put (S := fun m => m = h.next) hlt rfl _
    have n5' : ¬ (16 : Int) < ((lm B).length : Int) := by omega
    have r5v : RVa h5 (.agg #[.bool false, .slice xa (lm A).length xc, .slice ya (lm B).length yc]) A B := ⟨_, _, _, _, _, _, rfl, ⟨n4', h1, hA16⟩, ⟨n5, h2, c16⟩⟩
    refine ⟨.agg #[.bool false, .slice xa (lm A).length xc, .slice ya (lm B).length yc], h6, run_finP pt78 Try.func78 rfl planned78 ?_, (k0.trans kk).also kP fun m hm e => by omega, fun _ => by rw [h6e]; exact r5v.put g5 _, fun h => by omega⟩
    rw [if_pos c16]
    generalize (lm A).length = lA at *
    generalize (lm B).length = lB at *
    simp (maxSteps := 2000000) -implicitDefEqProofs [Try.f78, pw, aop, cls, light, lightS, binE, aeq, intBin, goInt, aload, isAggT, aeval, tput, awanted, fin, aresults, aresult, List.replicate, heavy, acallOp, aenter, firstRegion, readNames, Nxt, isAnc, readsOk, cond_true, cond_false, al42, ← hhA, en85, en83, en67, e1, e2, e3, e4, e5, ibeq, cA, cB, cA16, n5', build42, g5, ok42, astore, ← h6e, g6, Try.underlying42, sz42, undef]
  · obtain ⟨h6, h6e⟩ : ∃ x, x = h5.put h.next (some (.cells [.bool false, .slice none 0 0, .slice none 0 0] 42 3 false false)) := ⟨_, rfl⟩
    have g6 : h6.get h.next = some (.cells [.bool false, .slice none 0 0, .slice none 0 0] 42 3 false false) := by rw [h6e, Heap.get_put hlt, if_pos rfl]
    have kP : Keep (fun m => m = h.next) h5 h6 := h6e ▸ Keep.put (S := fun m => m = h.next) hlt rfl _
    have n5' : (16 : Int) < ((lm B).length : Int) := by omega
    refine ⟨.agg #[.bool false, .slice none 0 0, .slice none 0 0], h6, run_finP pt78 Try.func78 rfl planned78 ?_, (k0.trans kk).also kP fun m hm e => by omega, fun h => absurd h c16, fun _ => rfl⟩
    rw [if_neg c16]
    generalize (lm A).length = lA at *
    generalize (lm B).length = lB at *
    simp (maxSteps := 2000000) -implicitDefEqProofs [Try.f78, pw, aop, cls, light, lightS, binE, aeq, intBin, goInt, aload, isAggT, aeval, tput, awanted, fin, aresults, aresult, List.replicate, heavy, acallOp, aenter, firstRegion, readNames, Nxt, isAnc, readsOk, cond_true, cond_false, al42, ← hhA, en85, en83, en67, e1, e2, e3, e4, e5, ibeq, cA, cB, cA16, n5', build42z, g5, ok42, astore, ← h6e, g6, Try.underlying42, sz42, undef]
set_option maxRecDepth 20000 in
theorem of43_run {h : Heap} {n : Nat} (h1 : 1 ≤ n) (hn : n ≤ 4096) : ∃ v h', run Try.prog sO 43 [.int .i64 n] h = some (v, h') ∧ Keep No h h' ∧ RVa h' v n 1 := by
  obtain ⟨hA, hhA⟩ : ∃ x, x = h.new (.cells [.bool false, .slice none 0 0, .slice none 0 0] 42 3 false false) := ⟨_, rfl⟩
  have k0 : Keep No h hA := hhA ▸ Keep.new No h _
  have g0 : hA.get h.next = some (.cells [.bool false, .slice none 0 0, .slice none 0 0] 42 3 false false) := by rw [hhA, Heap.get_new, if_pos rfl]
  have kB := Keep.new No hA (.cells [.int .u32 n, .int .u32 0] 101 1 false false)
  obtain ⟨hB, hhB⟩ : ∃ x, x = hA.new (.cells [.int .u32 n, .int .u32 0] 101 1 false false) := ⟨_, rfl⟩
  rw [← hhB] at kB
  have gB : hB.get hA.next = some (.cells [.int .u32 n, .int .u32 0] 101 1 false false) := by rw [hhB, Heap.get_new, if_pos rfl]
  have nB : Na hB (.slice (some ⟨hA.next, 0, none⟩) 2 2) [n, 0] := ⟨⟨rfl, .inr ⟨_, _, rfl, fun _ => ⟨_, _, _, _, _, gB, rfl⟩⟩⟩, fun x hx => by
    rcases List.mem_cons.1 hx with rfl | hx
    · omega
    · rw [List.mem_singleton.1 hx]; omega, by simp⟩
  have nD := na_one hB
  have kD := Keep.new No hB (.cells [.int .u32 1] 101 1 false false)
  obtain ⟨hD, hhD⟩ : ∃ x, x = hB.new (.cells [.int .u32 1] 101 1 false false) := ⟨_, rfl⟩
  rw [← hhD] at kD nD
  have l1 : (lm n).length ≤ 1 := lm_len (by omega)
  have ll : (lm 1).length = 1 := by rw [lm_one]; rfl
  have hnv : nv [n, 0] = n := by simp [nv]
  obtain ⟨r, hE, eE, kE, rOk, _⟩ := make78_run (A := n) (B := 1) (nB.keep kD) nD (by simp) (by omega) hnv (nv_lm 1) h1 (by omega) (.inr rfl) (by omega)
  rw [ll] at eE rOk
  rw [if_pos (by omega)] at eE
  have rv := rOk (by omega)
  obtain ⟨a1, k1, c1, a2, k2, c2, rfl, _, _⟩ := rOk (by omega)
  clear rOk
  have gz : (hE.new (.cells [.bool false, .slice none 0 0, .slice none 0 0] 42 3 false false)).get hE.next = some (.cells [.bool false, .slice none 0 0, .slice none 0 0] 42 3 false false) := by rw [Heap.get_new, if_pos rfl]
  obtain ⟨hF, hFe⟩ : ∃ x, x = (hE.new (.cells [.bool false, .slice none 0 0, .slice none 0 0] 42 3 false false)).put hE.next (some (.cells [.bool false, .slice a1 k1 c1, .slice a2 k2 c2] 42 3 false false)) := ⟨_, rfl⟩
  have kF : Keep No hE hF := hFe ▸ (Keep.new No hE _).also (Keep.put (S := fun m => m = hE.next) (Heap.get_lt gz) rfl _) fun m hm e => by omega
  have gF : hF.get hE.next = some (.cells [.bool false, .slice a1 k1 c1, .slice a2 k2 c2] 42 3 false false) := by rw [hFe, Heap.get_put (Heap.get_lt gz), if_pos rfl]
  have g3 := (((kB.trans kD).trans kE).trans kF).get g0 fun x => x
  have hlt := Heap.get_lt g3
  obtain ⟨hG, hGe⟩ : ∃ x, x = hF.put h.next (some (.cells [.bool false, .slice a1 k1 c1, .slice a2 k2 c2] 42 3 false false)) := ⟨_, rfl⟩
  have g4 : hG.get h.next = some (.cells [.bool false, .slice a1 k1 c1, .slice a2 k2 c2] 42 3 false false) := by rw [hGe, Heap.get_put hlt, if_pos rfl]
  have kP : Keep (fun m => m = h.next) hF hG := hGe ▸ Keep.put (S := fun m => m = h.next) hlt rfl _
  refine ⟨.agg #[.bool false, .slice a1 k1 c1, .slice a2 k2 c2], hG, run_finP pt43 Try.func43 rfl planned43 ?_, ((((k0.trans kB).trans kD).trans kE).trans kF).also kP fun m hm e => by omega, by rw [hGe]; exact (rv.keep kF).put g3 _⟩
  have w0 := wu64 (a := n) rfl (by omega)
  have w1 := mod32 (a := n) (s := n) (by omega)
  have w1' : (n : Int) % 4294967296 = (n : Int) := by omega
  have w2 := quo32' (a := n) (s := 0) (by omega) (by omega)
  have w2' := quo32 (a := n) (s := 0) (by omega) (by omega)
  have w3 := wu32 (a := n) rfl (by omega)
  have w4 : IntKind.u32.wrap 0 = 0 := rfl
  have c0 : ¬ (n : Int) < 0 := by omega
  have z0 : ((0 : Nat) : Int) = 0 := rfl
  rw [z0] at w2 w2'
  have hb2 := fun ρ x y hx hy => bs40_2 ρ x y (n : Int) 0 hx hy
  simp (maxSteps := 2000000) -implicitDefEqProofs [Try.f43, pw, aop, cls, light, lightS, binE, aeq, intBin, goInt, aload, isAggT, aeval, tput, awanted, fin, aresults, aresult, List.replicate, heavy, acallOp, aenter, firstRegion, readNames, Nxt, isAnc, readsOk, cond_true, cond_false, al42, ← hhA, cv3_37, cv37_101, w0, w1, w1', w2, w2', w3, w4, c0, hb2, ← hhB, (fun ρ y hy => bs40_1 ρ y (1 : Int) hy), ← hhD, en78, eE, gz, g3, gF, ok42, astore, ← hFe, ← hGe, g4, Try.underlying42, sz42, undef]
set_option maxRecDepth 20000 in
set_option maxHeartbeats 3200000 in
theorem div44_run {h : Heap} {v w : Value} {D n : Nat} (hv : RVa h v 1 D) (hw : RVa h w n 1) :
    ∃ r h', run Try.prog sO 44 [v, w] h = some (.tuple #[r, .int .i64 (if (lm (D * n)).length ≤ 16 then 0 else 4)], h') ∧ Keep No h h' ∧ ((lm (D * n)).length ≤ 16 → RVa h' r 1 (D * n)) ∧ (16 < (lm (D * n)).length → r = .agg #[.bool false, .slice none 0 0, .slice none 0 0]) := by
  have hv0 := hv
  have hw0 := hw
  obtain ⟨a1, k1, c1, a2, k2, c2, rfl, n1, n2⟩ := hv
  obtain ⟨a3, k3, c3, a4, k4, c4, rfl, n3, n4⟩ := hw
  obtain ⟨hA, hhA⟩ : ∃ x, x = h.new (.cells [.bool false, .slice a1 k1 c1, .slice a2 k2 c2] 42 3 false false) := ⟨_, rfl⟩
  obtain ⟨hB, hhB⟩ : ∃ x, x = hA.new (.cells [.bool false, .slice a3 k3 c3, .slice a4 k4 c4] 42 3 false false) := ⟨_, rfl⟩
  obtain ⟨hC, hhC⟩ : ∃ x, x = hB.new (.cells [.bool false, .slice none 0 0, .slice none 0 0] 42 3 false false) := ⟨_, rfl⟩
  have kA : Keep No h hA := hhA ▸ Keep.new No h _
  have kB : Keep No hA hB := hhB ▸ Keep.new No hA _
  have kC : Keep No hB hC := hhC ▸ Keep.new No hB _
  have gA : hA.get h.next = some (.cells [.bool false, .slice a1 k1 c1, .slice a2 k2 c2] 42 3 false false) := by rw [hhA, Heap.get_new, if_pos rfl]
  have gB : hB.get hA.next = some (.cells [.bool false, .slice a3 k3 c3, .slice a4 k4 c4] 42 3 false false) := by rw [hhB, Heap.get_new, if_pos rfl]
  have gC : hC.get hB.next = some (.cells [.bool false, .slice none 0 0, .slice none 0 0] 42 3 false false) := by rw [hhC, Heap.get_new, if_pos rfl]
  have gA2 := (kB.trans kC).get gA fun x => x
  have gB2 := kC.get gB fun x => x
  have kAC := (kA.trans kB).trans kC
  obtain ⟨hD, eD, kD⟩ := form56_run (hv0.keep kAC) (.inl rfl)
  obtain ⟨hE, eE, kE⟩ := form56_run ((hw0.keep kAC).keep kD) (.inr rfl)
  have kAE := (kAC.trans kD).trans kE
  have gA3 := kD.get gA2 fun x => x
  have gB3 := kD.get gB2 fun x => x
  have gA4 := kE.get gA3 fun x => x
  have gB4 := kE.get gB3 fun x => x
  have gC4 := (kD.trans kE).get gC fun x => x
  have kk1 := nfa_len n1
  have kk2 := nfa_len n2
  have kk3 := nfa_len n3
  have kk4 := nfa_len n4
  have p3 := lm_len_pos n3.2.1
  have b1 := n1.2.2
  have b2 := n2.2.2
  have b3 := n3.2.2
  have b4 := n4.2.2
  obtain ⟨vF, hF, eF, nF, bF⟩ := times_run (n1.keep kAE).1 (n4.keep kAE).1 (by omega) (by omega)
  have kF := nF.2.1
  obtain ⟨vG, hG, eG, nG, bG⟩ := times_run ((n2.keep kAE).keep kF).1 ((n3.keep kAE).keep kF).1 (by omega) (by omega)
  have kG := nG.2.1
  rw [nv_lm, Nat.one_mul] at nF bF
  rw [nv_lm, nv_lm] at nG bG
  have ll : (lm 1).length = 1 := by rw [lm_one]; rfl
  have hDn : 1 ≤ D * n := Nat.mul_pos n2.2.1 n3.2.1
  obtain ⟨r, hH, eH, kH, rOk, rBig⟩ := make78_run (A := 1) (B := D * n) ((nF.na (by omega)).keep kG) (nG.na (by omega)) (by omega) (by omega) (nv_lm _) (nv_lm _) (by omega) hDn (.inl rfl) (by omega)
  have gA5 := kF.get gA4 fun x => x
  have gB5 := kF.get gB4 fun x => x
  have gA6 := kG.get gA5 fun x => x
  have gB6 := kG.get gB5 fun x => x
  have gA7 := kH.get gA6 fun x => x
  have gB7 := kH.get gB6 fun x => x
  have gC7 := ((kF.trans kG).trans kH).get gC4 fun x => x
  have lF := kF.1
  have lG := kG.1
  have lH := kH.1
  have cz : ¬ k3 = 0 := by omega
  have hlt := Heap.get_lt gC7
  have hnx := kA.1
  have hnx2 := kB.1
  have hbx1 := fun ρ x hx => bx42 ρ x false a1 k1 c1 a2 k2 c2 hx
  have hbx2 := fun ρ x hx => bx42 ρ x false a3 k3 c3 a4 k4 c4 hx
  suffices hs : ∃ r1 r2 r3 r4 r5 r6, r = .agg #[.bool false, .slice r1 r2 r3, .slice r4 r5 r6] by
    obtain ⟨r1, r2, r3, r4, r5, r6, rfl⟩ := hs
    obtain ⟨hI, hIe⟩ : ∃ x, x = hH.put hB.next (some (.cells [.bool false, .slice r1 r2 r3, .slice r4 r5 r6] 42 3 false false)) := ⟨_, rfl⟩
    have gI : hI.get hB.next = some (.cells [.bool false, .slice r1 r2 r3, .slice r4 r5 r6] 42 3 false false) := by rw [hIe, Heap.get_put hlt, if_pos rfl]
    have kI : Keep (fun m => m = hB.next) hH hI := hIe ▸ Keep.put (S := fun m => m = hB.next) hlt rfl _
    have lI := kI.1
    refine ⟨_, hI, run_finP pt44 Try.func44 rfl planned44 ?_, (((kAE.trans kF).trans kG).trans kH).also kI fun m hm e => by omega, fun h => by rw [hIe]; exact (rOk h).put gC7 _, rBig⟩
    generalize (if (lm (D * n)).length ≤ 16 then (0 : Int) else 4) = e at *
    clear rOk rBig
    simp (maxSteps := 2000000) -implicitDefEqProofs [Try.f44, pw, aop, cls, light, lightS, binE, aeq, intBin, goInt, aload, isAggT, aeval, tput, awanted, fin, aresults, aresult, List.replicate, heavy, acallOp, aenter, firstRegion, readNames, Nxt, isAnc, readsOk, cond_true, cond_false, pt44_5, pl44_5, an44_5, hbx1, hbx2, al42, ← hhA, ← hhB, ← hhC, gA2, gB2, gA3, gB3, gA4, gB4, gC4, gA5, gB5, gA6, gB6, gA7, gB7, gC7, lF, lG, lH, lI, gI, ← hIe, en56, en73, en78, eD, eE, eF, eG, eH, fa42_0, fa42_1, fa42_2, ibeq, cz, bneq4, ok42, astore, Try.underlying42, Try.underlying40, sz42, undef]
  by_cases c16 : (lm (D * n)).length ≤ 16
  · obtain ⟨_, _, _, _, _, _, e, _⟩ := rOk c16
    exact ⟨_, _, _, _, _, _, e⟩
  · exact ⟨_, _, _, _, _, _, rBig (by omega)⟩
end Go.Proofs.Ytmnkmdfladbgdaa.Od
set_option linter.unusedVariables false
set_option linter.unusedSimpArgs false
namespace Go.Proofs.Ytmnkmdfladbgdaa.Od
open Go Go.Proofs Go.RowKit Go.Proofs.YtmnkmdfladbgdaaAI Go.Proofs.YtmnkmdfladbgdaaFl

def RxI (h0 h : Heap) (m2 m4 D : Nat) : Prop := ∃ a1 k1 c1 a2 k2 c2, h.get m4 = some (.cells [.bool false, .slice a1 k1 c1, .slice a2 k2 c2] 42 3 false false) ∧ RVa h (.agg #[.bool false, .slice a1 k1 c1, .slice a2 k2 c2]) 1 D ∧ h.get m2 = some (.cells [.bool false, .slice none 0 0, .slice none 0 0] 42 3 false false) ∧ Keep (fun m => m = m4) h0 h
set_option maxRecDepth 20000 in
set_option maxHeartbeats 6400000 in
theorem rex1 {h0 : Heap} {la : Option Addr} {lc n m2 m4 : Nat} {l : List (Int × Int)} (hn : l.length = n) (hk : n ≤ 2 ^ 47) (hok : okP l) (hne : m2 ≠ m4) (hl : Sl h0 (.slice la n lc) 2 n (picks l)) (hl4 : ∀ m, nm (.slice la n lc) = some m → ¬ m = m4) (hgood : ∀ i, i ≤ n → (lm (prodP l i)).length ≤ 16) (F : Step) (hFF : F = aexecP Try.prog (sO 17) (run Try.prog sO) loopω pt17 (lb17 0)) (t : Tm)
    (ht : forget [1, 3, 6, 7, 8, 9, 10, 11, 12, 13, 14, 15, 16, 17, 18, 19, 20, 21, 22, 23, 24, 25, 26, 27, 28, 29, 30, 31, 32, 33] t = [.slice la n lc, unk, .pointer (some ⟨m2, 0, none⟩), unk, .pointer (some ⟨m4, 0, none⟩), .int .i64 (0 : Nat), unk, unk, unk, unk, unk, unk, unk, unk, unk, unk, unk, unk, unk, unk, unk, unk, unk, unk, unk, unk, unk, unk, unk, unk, unk, unk, unk, unk]) (hI0 : RxI h0 h0 m2 m4 (prodP l (0))) :
    ∃ h' x12 x13 x14 x15, loopω [1, 3, 6, 7, 8, 9, 10, 11, 12, 13, 14, 15, 16, 17, 18, 19, 20, 21, 22, 23, 24, 25, 26, 27, 28, 29, 30, 31, 32, 33] F t h0 = some (.exit 0, [.slice la n lc, unk, .pointer (some ⟨m2, 0, none⟩), unk, .pointer (some ⟨m4, 0, none⟩), .int .i64 (n : Nat), unk, unk, unk, unk, unk, unk, x12, x13, x14, x15, unk, unk, unk, unk, unk, unk, unk, unk, unk, unk, unk, unk, unk, unk, unk, unk, unk, unk], h') ∧ RxI h0 h' m2 m4 (prodP l (n)) := by
  subst hFF
  suffices hs : ∃ e t' h', loopω [1, 3, 6, 7, 8, 9, 10, 11, 12, 13, 14, 15, 16, 17, 18, 19, 20, 21, 22, 23, 24, 25, 26, 27, 28, 29, 30, 31, 32, 33] (aexecP Try.prog (sO 17) (run Try.prog sO) loopω pt17 (lb17 0)) t h0 = some (e, t', h') ∧ (e = .exit 0 ∧ ∃ x12 x13 x14 x15, t' = [.slice la n lc, unk, .pointer (some ⟨m2, 0, none⟩), unk, .pointer (some ⟨m4, 0, none⟩), .int .i64 (n : Nat), unk, unk, unk, unk, unk, unk, x12, x13, x14, x15, unk, unk, unk, unk, unk, unk, unk, unk, unk, unk, unk, unk, unk, unk, unk, unk, unk, unk] ∧ RxI h0 h' m2 m4 (prodP l (n))) by
    obtain ⟨e, t', h', q1, rfl, x12, x13, x14, x15, rfl, q2⟩ := hs
    exact ⟨h', x12, x13, x14, x15, q1, q2⟩
  simp only [lb17, Try.f17, loopsOf, Option.getD_some, List.nil_append, List.append_nil, List.cons_append, List.getD_cons_zero, List.getD_cons_succ]
  refine loop_by (fun k t h' => ∃ (i : Nat), i + k = n ∧ forget [1, 3, 6, 7, 8, 9, 10, 11, 12, 13, 14, 15, 16, 17, 18, 19, 20, 21, 22, 23, 24, 25, 26, 27, 28, 29, 30, 31, 32, 33] t = [.slice la n lc, unk, .pointer (some ⟨m2, 0, none⟩), unk, .pointer (some ⟨m4, 0, none⟩), .int .i64 (i : Nat), unk, unk, unk, unk, unk, unk, unk, unk, unk, unk, unk, unk, unk, unk, unk, unk, unk, unk, unk, unk, unk, unk, unk, unk, unk, unk, unk, unk] ∧ RxI h0 h' m2 m4 (prodP l (i)))
    (fun e t' h' => e = .exit 0 ∧ ∃ x12 x13 x14 x15, t' = [.slice la n lc, unk, .pointer (some ⟨m2, 0, none⟩), unk, .pointer (some ⟨m4, 0, none⟩), .int .i64 (n : Nat), unk, unk, unk, unk, unk, unk, x12, x13, x14, x15, unk, unk, unk, unk, unk, unk, unk, unk, unk, unk, unk, unk, unk, unk, unk, unk, unk, unk] ∧ RxI h0 h' m2 m4 (prodP l (n))) ?_ (n) _ _ ⟨0, by omega, ht, hI0⟩
  rintro k t h' ⟨i, hi, ht, hI⟩
  rw [ht]
  rcases Nat.lt_or_ge i (n) with h1 | h1
  · obtain ⟨a1, k1, c1, a2, k2, c2, g4, rv, g2, kp⟩ := hI
    have hinc := @inc64 i (by omega)
    have hcs := cast_succ i
    have hlk := hl.keep kp hl4
    have hst : prodP l (i + 1) = prodP l i * (l.getD i (0, 0)).1.toNat := rfl
    have hp := hok i (by omega)
    obtain ⟨la, lc, C, ce, cs, gr, ro, eb, hgt, hf, hd, p1, p2⟩ := sl_pick hlk (show i < n by omega)
    have eb' := eb
    simp only [Value.slice.injEq, true_and] at eb
    obtain ⟨rfl, rfl⟩ := eb
    generalize hq : l.getD i (0, 0) = q at *
    obtain ⟨q1, q2⟩ := q
    simp only at p1 p2 hd hst hp
    obtain ⟨N, rfl⟩ : ∃ N : Nat, q1 = N := ⟨q1.toNat, by omega⟩
    rw [Int.toNat_natCast] at hst
    obtain ⟨v5, h5, e5, kk5, r5⟩ := of43_run (h := h') (n := N) (by omega) (by omega)
    obtain ⟨r, h6, e6, kk6, rOk, rBig⟩ := div44_run (rv.keep kk5) r5
    rw [← hst] at e6 rOk rBig
    have k56 := kk5.trans kk6
    have g4b := k56.get g4 fun x => x
    have g2b := k56.get g2 fun x => x
    have hlt4 := Heap.get_lt g4b
    have l5 := kk5.1
    have l6 := kk6.1
    have g4c := kk5.get g4 fun x => x
    have hgt5 := kk5.get hgt fun x => x
    have hgt6 := kk6.get hgt5 fun x => x
    
    have hfit := hgood (i + 1) (by omega)
    rw [if_pos hfit] at e6
    obtain ⟨r1, r2, r3, r4, r5', r6, rfl, _, _⟩ := rOk hfit
    have rv6 := rOk hfit
    obtain ⟨h7, h7e⟩ : ∃ x, x = h6.put m4 (some (.cells [.bool false, .slice r1 r2 r3, .slice r4 r5' r6] 42 3 false false)) := ⟨_, rfl⟩
    have g7 : h7.get m4 = some (.cells [.bool false, .slice r1 r2 r3, .slice r4 r5' r6] 42 3 false false) := by rw [h7e, Heap.get_put hlt4, if_pos rfl]
    have rv7 : RVa h7 (.agg #[.bool false, .slice r1 r2 r3, .slice r4 r5' r6]) 1 (prodP l (i + 1)) := by rw [h7e]; exact rv6.put g4b _
    have g27 : h7.get m2 = some (.cells [.bool false, .slice none 0 0, .slice none 0 0] 42 3 false false) := by rw [h7e, Heap.get_put hlt4, if_neg hne]; exact g2b
    have k7 : Keep (fun m => m = m4) h0 h7 := h7e ▸ (kp.trans (k56.mono fun _ _ x => x.elim)).trans (Keep.put (S := fun m => m = m4) hlt4 rfl _)
    have l7 : h6.next ≤ h7.next := by rw [h7e]; exact Nat.le_refl _
    clear rOk rBig rv6
    simp (maxSteps := 2000000) -implicitDefEqProofs [pw, aop, cls, light, lightS, binE, aeq, intBin, goInt, aload, isAggT, aeval, tput, awanted, fin, aresults, aresult, List.replicate, heavy, acallOp, aenter, firstRegion, readNames, Nxt, isAnc, readsOk, cond_true, cond_false, h1, Try.underlying33, Try.underlying42, pt17_8, pl17_8, an17_8, aindexAddr, sz71, sz42, hgt, hgt5, hgt6, hf, hd, p1, p2, g4, astore, fa71_0, fa71_1, en43, en44, e5, e6, g4b, g4c, l5, l6, l7, ok42, ← h7e, ibne, hinc, undef]
    exact ⟨k - 1, by omega, i + 1, by omega, by simp (maxSteps := 2000000) only [forget, List.set_cons_succ, List.set_cons_zero, hcs], _, _, _, _, _, _, g7, rv7, g27, k7⟩
  · obtain rfl : i = n := by omega
    simp (maxSteps := 2000000) -implicitDefEqProofs [pw, aop, cls, light, lightS, binE, aeq, intBin, goInt, aload, isAggT, aeval, tput, awanted, fin, aresults, aresult, List.replicate, heavy, acallOp, aenter, firstRegion, readNames, Nxt, isAnc, readsOk, cond_true, cond_false, undef]
    exact hI
set_option maxRecDepth 20000 in
set_option maxHeartbeats 6400000 in
theorem rex2 {h0 : Heap} {la : Option Addr} {lc n m2 m4 : Nat} {l : List (Int × Int)} (hn : l.length = n) (hk : n ≤ 2 ^ 47) (hok : okP l) (hne : m2 ≠ m4) (hl : Sl h0 (.slice la n lc) 2 n (picks l)) (hl4 : ∀ m, nm (.slice la n lc) = some m → ¬ m = m4) (p : Nat) (hp0 : p < n) (hbad : 16 < (lm (prodP l (p + 1))).length) (hgood : ∀ i, i ≤ p → (lm (prodP l i)).length ≤ 16) (F : Step) (hFF : F = aexecP Try.prog (sO 17) (run Try.prog sO) loopω pt17 (lb17 0)) (t : Tm)
    (ht : forget [1, 3, 6, 7, 8, 9, 10, 11, 12, 13, 14, 15, 16, 17, 18, 19, 20, 21, 22, 23, 24, 25, 26, 27, 28, 29, 30, 31, 32, 33] t = [.slice la n lc, unk, .pointer (some ⟨m2, 0, none⟩), unk, .pointer (some ⟨m4, 0, none⟩), .int .i64 (0 : Nat), unk, unk, unk, unk, unk, unk, unk, unk, unk, unk, unk, unk, unk, unk, unk, unk, unk, unk, unk, unk, unk, unk, unk, unk, unk, unk, unk, unk]) (hI0 : RxI h0 h0 m2 m4 (prodP l 0)) :
    ∃ h' x12 x13 x14 x15 x18 x19 x20 x21 x22 x23 x24 x25 x26 x27 x28 x29 x30 x31 x32, loopω [1, 3, 6, 7, 8, 9, 10, 11, 12, 13, 14, 15, 16, 17, 18, 19, 20, 21, 22, 23, 24, 25, 26, 27, 28, 29, 30, 31, 32, 33] F t h0 = some (.ret, [.slice la n lc, unk, .pointer (some ⟨m2, 0, none⟩), .int .i64 4, .pointer (some ⟨m4, 0, none⟩), .int .i64 (p : Nat), .int .i64 4, unk, unk, unk, unk, unk, x12, x13, x14, x15, unk, unk, x18, x19, x20, x21, x22, x23, x24, x25, x26, x27, x28, x29, x30, x31, x32, unk], h') ∧ (h'.get m2 = some (.cells [.bool false, .slice none 0 0, .slice none 0 0] 42 3 false false) ∧ Keep (fun m => m = m4 ∨ m = m2) h0 h') := by
  subst hFF
  suffices hs : ∃ e t' h', loopω [1, 3, 6, 7, 8, 9, 10, 11, 12, 13, 14, 15, 16, 17, 18, 19, 20, 21, 22, 23, 24, 25, 26, 27, 28, 29, 30, 31, 32, 33] (aexecP Try.prog (sO 17) (run Try.prog sO) loopω pt17 (lb17 0)) t h0 = some (e, t', h') ∧ (e = .ret ∧ ∃ x12 x13 x14 x15 x18 x19 x20 x21 x22 x23 x24 x25 x26 x27 x28 x29 x30 x31 x32, t' = [.slice la n lc, unk, .pointer (some ⟨m2, 0, none⟩), .int .i64 4, .pointer (some ⟨m4, 0, none⟩), .int .i64 (p : Nat), .int .i64 4, unk, unk, unk, unk, unk, x12, x13, x14, x15, unk, unk, x18, x19, x20, x21, x22, x23, x24, x25, x26, x27, x28, x29, x30, x31, x32, unk] ∧ (h'.get m2 = some (.cells [.bool false, .slice none 0 0, .slice none 0 0] 42 3 false false) ∧ Keep (fun m => m = m4 ∨ m = m2) h0 h')) by
    obtain ⟨e, t', h', q1, rfl, x12, x13, x14, x15, x18, x19, x20, x21, x22, x23, x24, x25, x26, x27, x28, x29, x30, x31, x32, rfl, q2⟩ := hs
    exact ⟨h', x12, x13, x14, x15, x18, x19, x20, x21, x22, x23, x24, x25, x26, x27, x28, x29, x30, x31, x32, q1, q2⟩
  simp only [lb17, Try.f17, loopsOf, Option.getD_some, List.nil_append, List.append_nil, List.cons_append, List.getD_cons_zero, List.getD_cons_succ]
  refine loop_by (fun k t h' => ∃ (i : Nat), i + k = p ∧ forget [1, 3, 6, 7, 8, 9, 10, 11, 12, 13, 14, 15, 16, 17, 18, 19, 20, 21, 22, 23, 24, 25, 26, 27, 28, 29, 30, 31, 32, 33] t = [.slice la n lc, unk, .pointer (some ⟨m2, 0, none⟩), unk, .pointer (some ⟨m4, 0, none⟩), .int .i64 (i : Nat), unk, unk, unk, unk, unk, unk, unk, unk, unk, unk, unk, unk, unk, unk, unk, unk, unk, unk, unk, unk, unk, unk, unk, unk, unk, unk, unk, unk] ∧ RxI h0 h' m2 m4 (prodP l i))
    (fun e t' h' => e = .ret ∧ ∃ x12 x13 x14 x15 x18 x19 x20 x21 x22 x23 x24 x25 x26 x27 x28 x29 x30 x31 x32, t' = [.slice la n lc, unk, .pointer (some ⟨m2, 0, none⟩), .int .i64 4, .pointer (some ⟨m4, 0, none⟩), .int .i64 (p : Nat), .int .i64 4, unk, unk, unk, unk, unk, x12, x13, x14, x15, unk, unk, x18, x19, x20, x21, x22, x23, x24, x25, x26, x27, x28, x29, x30, x31, x32, unk] ∧ (h'.get m2 = some (.cells [.bool false, .slice none 0 0, .slice none 0 0] 42 3 false false) ∧ Keep (fun m => m = m4 ∨ m = m2) h0 h')) ?_ (p) _ _ ⟨0, by omega, ht, hI0⟩
  rintro k t h' ⟨i, hi, ht, hI⟩
  rw [ht]
  rcases Nat.lt_or_ge i (p) with h1 | h1
  · obtain ⟨a1, k1, c1, a2, k2, c2, g4, rv, g2, kp⟩ := hI
    have hinc := @inc64 i (by omega)
    have hcs := cast_succ i
    have h1n : i < n := by omega
    have hlk := hl.keep kp hl4
    have hst : prodP l (i + 1) = prodP l i * (l.getD i (0, 0)).1.toNat := rfl
    have hp := hok i (by omega)
    obtain ⟨la, lc, C, ce, cs, gr, ro, eb, hgt, hf, hd, p1, p2⟩ := sl_pick hlk (show i < n by omega)
    have eb' := eb
    simp only [Value.slice.injEq, true_and] at eb
    obtain ⟨rfl, rfl⟩ := eb
    generalize hq : l.getD i (0, 0) = q at *
    obtain ⟨q1, q2⟩ := q
    simp only at p1 p2 hd hst hp
    obtain ⟨N, rfl⟩ : ∃ N : Nat, q1 = N := ⟨q1.toNat, by omega⟩
    rw [Int.toNat_natCast] at hst
    obtain ⟨v5, h5, e5, kk5, r5⟩ := of43_run (h := h') (n := N) (by omega) (by omega)
    obtain ⟨r, h6, e6, kk6, rOk, rBig⟩ := div44_run (rv.keep kk5) r5
    rw [← hst] at e6 rOk rBig
    have k56 := kk5.trans kk6
    have g4b := k56.get g4 fun x => x
    have g2b := k56.get g2 fun x => x
    have hlt4 := Heap.get_lt g4b
    have l5 := kk5.1
    have l6 := kk6.1
    have g4c := kk5.get g4 fun x => x
    have hgt5 := kk5.get hgt fun x => x
    have hgt6 := kk6.get hgt5 fun x => x
    
    have hfit := hgood (i + 1) (by omega)
    rw [if_pos hfit] at e6
    obtain ⟨r1, r2, r3, r4, r5', r6, rfl, _, _⟩ := rOk hfit
    have rv6 := rOk hfit
    obtain ⟨h7, h7e⟩ : ∃ x, x = h6.put m4 (some (.cells [.bool false, .slice r1 r2 r3, .slice r4 r5' r6] 42 3 false false)) := ⟨_, rfl⟩
    have g7 : h7.get m4 = some (.cells [.bool false, .slice r1 r2 r3, .slice r4 r5' r6] 42 3 false false) := by rw [h7e, Heap.get_put hlt4, if_pos rfl]
    have rv7 : RVa h7 (.agg #[.bool false, .slice r1 r2 r3, .slice r4 r5' r6]) 1 (prodP l (i + 1)) := by rw [h7e]; exact rv6.put g4b _
    have g27 : h7.get m2 = some (.cells [.bool false, .slice none 0 0, .slice none 0 0] 42 3 false false) := by rw [h7e, Heap.get_put hlt4, if_neg hne]; exact g2b
    have k7 : Keep (fun m => m = m4) h0 h7 := h7e ▸ (kp.trans (k56.mono fun _ _ x => x.elim)).trans (Keep.put (S := fun m => m = m4) hlt4 rfl _)
    have l7 : h6.next ≤ h7.next := by rw [h7e]; exact Nat.le_refl _
    clear rOk rBig rv6
    simp (maxSteps := 2000000) -implicitDefEqProofs [pw, aop, cls, light, lightS, binE, aeq, intBin, goInt, aload, isAggT, aeval, tput, awanted, fin, aresults, aresult, List.replicate, heavy, acallOp, aenter, firstRegion, readNames, Nxt, isAnc, readsOk, cond_true, cond_false, h1n, Try.underlying33, Try.underlying42, pt17_8, pl17_8, an17_8, aindexAddr, sz71, sz42, hgt, hgt5, hgt6, hf, hd, p1, p2, g4, astore, fa71_0, fa71_1, en43, en44, e5, e6, g4b, g4c, l5, l6, l7, ok42, ← h7e, ibne, hinc, undef]
    exact ⟨k - 1, by omega, i + 1, by omega, by simp (maxSteps := 2000000) only [forget, List.set_cons_succ, List.set_cons_zero, hcs], _, _, _, _, _, _, g7, rv7, g27, k7⟩
  · obtain rfl : i = p := by omega
    have h1 : i < n := hp0
    
    obtain ⟨a1, k1, c1, a2, k2, c2, g4, rv, g2, kp⟩ := hI
    have hinc := @inc64 i (by omega)
    have hcs := cast_succ i
    have hlk := hl.keep kp hl4
    have hst : prodP l (i + 1) = prodP l i * (l.getD i (0, 0)).1.toNat := rfl
    have hp := hok i (by omega)
    obtain ⟨la, lc, C, ce, cs, gr, ro, eb, hgt, hf, hd, p1, p2⟩ := sl_pick hlk (show i < n by omega)
    have eb' := eb
    simp only [Value.slice.injEq, true_and] at eb
    obtain ⟨rfl, rfl⟩ := eb
    generalize hq : l.getD i (0, 0) = q at *
    obtain ⟨q1, q2⟩ := q
    simp only at p1 p2 hd hst hp
    obtain ⟨N, rfl⟩ : ∃ N : Nat, q1 = N := ⟨q1.toNat, by omega⟩
    rw [Int.toNat_natCast] at hst
    obtain ⟨v5, h5, e5, kk5, r5⟩ := of43_run (h := h') (n := N) (by omega) (by omega)
    obtain ⟨r, h6, e6, kk6, rOk, rBig⟩ := div44_run (rv.keep kk5) r5
    rw [← hst] at e6 rOk rBig
    have k56 := kk5.trans kk6
    have g4b := k56.get g4 fun x => x
    have g2b := k56.get g2 fun x => x
    have hlt4 := Heap.get_lt g4b
    have l5 := kk5.1
    have l6 := kk6.1
    have g4c := kk5.get g4 fun x => x
    have hgt5 := kk5.get hgt fun x => x
    have hgt6 := kk6.get hgt5 fun x => x
    
    have hbig : ¬ (lm (prodP l (i + 1))).length ≤ 16 := by omega
    rw [if_neg hbig] at e6
    obtain rfl := rBig (by omega)
    obtain ⟨h7, h7e⟩ : ∃ x, x = h6.put m4 (some (.cells [.bool false, .slice none 0 0, .slice none 0 0] 42 3 false false)) := ⟨_, rfl⟩
    have g27 : h7.get m2 = some (.cells [.bool false, .slice none 0 0, .slice none 0 0] 42 3 false false) := by rw [h7e, Heap.get_put hlt4, if_neg hne]; exact g2b
    have hlt2 := Heap.get_lt g27
    have l7 : h6.next ≤ h7.next := by rw [h7e]; exact Nat.le_refl _
    obtain ⟨h8, h8e⟩ : ∃ x, x = h7.put m2 (some (.cells [.bool false, .slice none 0 0, .slice none 0 0] 42 3 false false)) := ⟨_, rfl⟩
    have g28 : h8.get m2 = some (.cells [.bool false, .slice none 0 0, .slice none 0 0] 42 3 false false) := by rw [h8e, Heap.get_put hlt2, if_pos rfl]
    have k7 : Keep (fun m => m = m4 ∨ m = m2) h0 h8 := h8e ▸ h7e ▸ ((kp.mono fun _ _ x => .inl x).trans (k56.mono fun _ _ x => x.elim)).trans ((Keep.put (S := fun m => m = m4 ∨ m = m2) hlt4 (.inl rfl) _).trans (Keep.put (S := fun m => m = m4 ∨ m = m2) (h7e ▸ hlt2) (.inr rfl) _))
    clear rOk rBig
    simp (maxSteps := 2000000) -implicitDefEqProofs [pw, aop, cls, light, lightS, binE, aeq, intBin, goInt, aload, isAggT, aeval, tput, awanted, fin, aresults, aresult, List.replicate, heavy, acallOp, aenter, firstRegion, readNames, Nxt, isAnc, readsOk, cond_true, cond_false, h1, Try.underlying33, Try.underlying42, pt17_8, pl17_8, an17_8, aindexAddr, sz71, sz42, hgt, hgt5, hgt6, hf, hd, p1, p2, g4, astore, fa71_0, fa71_1, en43, en44, e5, e6, g4b, g4c, l5, l6, l7, ok42, ← h7e, g27, ← h8e, build42z, ibne, hinc, undef]
    exact ⟨g28, k7⟩
theorem useX19r {ks : List Nat} {F : Step} {t : Tm} {h : Heap} {rr : Option (AEx × Tm × Heap)} {f : Heap → Value → Value → Value → Value → Value → Value → Value → Value → Value → Value → Value → Value → Value → Value → Value → Value → Value → Value → Value → Option (AEx × Tm × Heap)} {p : Heap → Value → Value → Value → Value → Value → Value → Value → Value → Value → Value → Value → Value → Value → Value → Value → Value → Value → Value → Value → Prop} (hl : loopω ks F t h = rr) (H : ∃ h' x0 x1 x2 x3 x4 x5 x6 x7 x8 x9 x10 x11 x12 x13 x14 x15 x16 x17 x18, loopω ks F t h = f h' x0 x1 x2 x3 x4 x5 x6 x7 x8 x9 x10 x11 x12 x13 x14 x15 x16 x17 x18 ∧ p h' x0 x1 x2 x3 x4 x5 x6 x7 x8 x9 x10 x11 x12 x13 x14 x15 x16 x17 x18) : ∃ h' x0 x1 x2 x3 x4 x5 x6 x7 x8 x9 x10 x11 x12 x13 x14 x15 x16 x17 x18, rr = f h' x0 x1 x2 x3 x4 x5 x6 x7 x8 x9 x10 x11 x12 x13 x14 x15 x16 x17 x18 ∧ p h' x0 x1 x2 x3 x4 x5 x6 x7 x8 x9 x10 x11 x12 x13 x14 x15 x16 x17 x18 := hl ▸ H

set_option maxRecDepth 20000 in
theorem rexact_run {h : Heap} {w : Value} {l : List (Int × Int)} (kl : l.length * 8 ≤ 2 ^ 47) (hl : Sl h w 2 l.length (picks l)) :
    ∃ v h', run Try.prog sO 17 [w] h = some (.tuple #[v, .int .i64 (exE l)], h') ∧ Keep No h h' ∧ (exE l = 0 → RVa h' v 1 (prodP l l.length)) ∧ (¬ exE l = 0 → v = zeroR) := by
  obtain ⟨hA, hhA⟩ : ∃ x, x = h.new (.cells [.bool false, .slice none 0 0, .slice none 0 0] 42 3 false false) := ⟨_, rfl⟩
  have kA : Keep No h hA := hhA ▸ Keep.new No h _
  have gA : hA.get h.next = some (.cells [.bool false, .slice none 0 0, .slice none 0 0] 42 3 false false) := by rw [hhA, Heap.get_new, if_pos rfl]
  have e1 := rgood39_run (hl.keep kA fun _ _ x => x) (by omega)
  have hlt0 := fun m e => hl.lt (m := m) e
  obtain ⟨la, lc, rfl⟩ := sl_form hl
  have exE_ : exE l = if (smallB l && goodB l) = true then (if fitB l = true then 0 else 4) else 2 := rfl
  cases hg : (smallB l && goodB l)
  · rw [hg] at e1 exE_
    simp only [Bool.false_eq_true, if_false] at exE_
    rw [exE_]
    obtain ⟨h2, h2e⟩ : ∃ x, x = hA.put h.next (some (.cells [.bool false, .slice none 0 0, .slice none 0 0] 42 3 false false)) := ⟨_, rfl⟩
    have g2 : h2.get h.next = some (.cells [.bool false, .slice none 0 0, .slice none 0 0] 42 3 false false) := by rw [h2e, Heap.get_put (Heap.get_lt gA), if_pos rfl]
    have k2 : Keep (fun m => m = h.next) hA h2 := h2e ▸ Keep.put (S := fun m => m = h.next) (Heap.get_lt gA) rfl _
    refine ⟨zeroR, h2, run_finP pt17 Try.func17 rfl planned17 ?_, kA.also k2 fun m hm e => by omega, fun e => by omega, fun _ => rfl⟩
    simp (maxSteps := 2000000) -implicitDefEqProofs [Try.f17, pw, aop, cls, light, lightS, binE, aeq, intBin, goInt, aload, isAggT, aeval, tput, awanted, fin, aresults, aresult, List.replicate, heavy, acallOp, aenter, firstRegion, readNames, Nxt, isAnc, readsOk, cond_true, cond_false, al42, ← hhA, en39, e1, build42z, gA, ok42, astore, ← h2e, g2, Try.underlying42, sz42, undef]
  · rw [hg] at e1 exE_
    simp only [if_true] at exE_
    obtain ⟨v2, h2, e2, k2, r2⟩ := of43_run (h := hA) (n := 1) (by omega) (by omega)
    have r2' := r2
    obtain ⟨a1, k1', c1, a2, k2', c2, rfl, _, _⟩ := r2
    have g2 := k2.get gA fun x => x
    have e2' : run Try.prog sO 43 [.int .i64 1] hA = some (.agg #[.bool false, .slice a1 k1' c1, .slice a2 k2' c2], h2) := e2
    obtain ⟨hB, hhB⟩ : ∃ x, x = (h2.new (.cells [.bool false, .slice none 0 0, .slice none 0 0] 42 3 false false)).put h2.next (some (.cells [.bool false, .slice a1 k1' c1, .slice a2 k2' c2] 42 3 false false)) := ⟨_, rfl⟩
    have gz : (h2.new (.cells [.bool false, .slice none 0 0, .slice none 0 0] 42 3 false false)).get h2.next = some (.cells [.bool false, .slice none 0 0, .slice none 0 0] 42 3 false false) := by rw [Heap.get_new, if_pos rfl]
    have kB : Keep No h2 hB := hhB ▸ (Keep.new No h2 _).also (Keep.put (S := fun m => m = h2.next) (Heap.get_lt gz) rfl _) fun m hm e => by omega
    have gB : hB.get h2.next = some (.cells [.bool false, .slice a1 k1' c1, .slice a2 k2' c2] 42 3 false false) := by rw [hhB, Heap.get_put (Heap.get_lt gz), if_pos rfl]
    have g3 := kB.get g2 fun x => x
    have rB := r2'.keep kB
    have kAll := (kA.trans k2).trans kB
    have hlB := hl.keep kAll fun _ _ x => x
    have hnx1 := (kA.trans k2).1
    have hnx2 : h.next < h2.next := by have := Heap.get_lt g2; exact this
    suffices hx : ∃ y, fin Try.prog Try.f17 (aexecP Try.prog (sO 17) (run Try.prog sO) loopω pt17 (Try.f17.body.getD .skip) ([.slice la l.length lc] ++ List.replicate (Try.f17.ntmps - 1) undef) h) = some y ∧ ∃ v, y.1 = .tuple #[v, .int .i64 (exE l)] ∧ Keep No h y.2 ∧ (exE l = 0 → RVa y.2 v 1 (prodP l l.length)) ∧ (¬ exE l = 0 → v = zeroR) by
      obtain ⟨⟨y1, y2⟩, hy, v, rfl, q⟩ := hx
      exact ⟨v, y2, run_finP pt17 Try.func17 rfl planned17 hy, q⟩
    have hI0 : RxI hB hB h.next h2.next (prodP l 0) := ⟨_, _, _, _, _, _, gB, rB, g3, Keep.refl _ _⟩
    simp (maxSteps := 2000000) -implicitDefEqProofs [Try.f17, pw, aop, cls, light, lightS, binE, aeq, intBin, goInt, aload, isAggT, aeval, tput, awanted, fin, aresults, aresult, List.replicate, heavy, acallOp, aenter, firstRegion, readNames, Nxt, isAnc, readsOk, cond_true, cond_false, al42, ← hhA, en39, e1, en43, e2', gz, ok42, astore, ← hhB, sO17, Try.underlying42, sz42, undef]
    generalize hlp : loopω _ _ _ _ = r
    rcases fit_split l with ⟨hf, hall⟩ | ⟨hf, p, hp, hbad, hall⟩
    · rw [hf] at exE_
      simp only [if_true] at exE_
      rw [exE_]
      obtain ⟨h3, x12, x13, x14, x15, hx, b1, d1, f1, b2, d2, f2, q4, qr, q2, qk⟩ := useX4 hlp (rex1 (h0 := hB) (la := la) (lc := lc) (n := l.length) (m2 := h.next) (m4 := h2.next) (l := l) rfl (by omega) (okP_of hg) (by omega) hlB (fun m e e2 => by have := hlt0 _ e; omega) hall _ (by kernel_rfl) _ (by kernel_rfl) hI0)
      subst hx
      obtain ⟨h4, h4e⟩ : ∃ x, x = h3.put h.next (some (.cells [.bool false, .slice b1 d1 f1, .slice b2 d2 f2] 42 3 false false)) := ⟨_, rfl⟩
      have g4 : h4.get h.next = some (.cells [.bool false, .slice b1 d1 f1, .slice b2 d2 f2] 42 3 false false) := by rw [h4e, Heap.get_put (Heap.get_lt q2), if_pos rfl]
      have k4 : Keep (fun m => m = h.next) h3 h4 := h4e ▸ Keep.put (S := fun m => m = h.next) (Heap.get_lt q2) rfl _
      have r4 : RVa h4 (.agg #[.bool false, .slice b1 d1 f1, .slice b2 d2 f2]) 1 (prodP l l.length) := by rw [h4e]; exact qr.put q2 _
      simp (maxSteps := 2000000) -implicitDefEqProofs [pw, aop, cls, light, lightS, binE, aeq, intBin, goInt, aload, isAggT, aeval, tput, awanted, fin, aresults, aresult, List.replicate, heavy, acallOp, aenter, firstRegion, readNames, Nxt, isAnc, readsOk, cond_true, cond_false, q4, q2, ok42, astore, ← h4e, g4, Try.underlying42, sz42]
      exact ⟨_, _, ⟨rfl, rfl⟩, _, rfl, (kAll.also qk fun m hm e => by omega).also k4 fun m hm e => by omega, r4⟩
    · rw [hf] at exE_
      simp only [Bool.false_eq_true, if_false] at exE_
      rw [exE_]
      obtain ⟨h3, x12, x13, x14, x15, x18, x19, x20, x21, x22, x23, x24, x25, x26, x27, x28, x29, x30, x31, x32, hx, q2, qk⟩ := useX19r hlp (rex2 (h0 := hB) (la := la) (lc := lc) (n := l.length) (m2 := h.next) (m4 := h2.next) (l := l) rfl (by omega) (okP_of hg) (by omega) hlB (fun m e e2 => by have := hlt0 _ e; omega) p hp hbad hall _ (by kernel_rfl) _ (by kernel_rfl) hI0)
      subst hx
      simp (maxSteps := 2000000) -implicitDefEqProofs [pw, aop, cls, light, lightS, binE, aeq, intBin, goInt, aload, isAggT, aeval, tput, awanted, fin, aresults, aresult, List.replicate, heavy, acallOp, aenter, firstRegion, readNames, Nxt, isAnc, readsOk, cond_true, cond_false, q2, Try.underlying42, sz42]
      exact ⟨_, _, ⟨rfl, rfl⟩, rfl, kAll.also qk fun m hm e => by omega⟩
set_option maxRecDepth 20000 in
/-- The two answers are the same, field by field. -/
theorem same19_run {h : Heap} {v w : Value} (hs : (∃ A B, RVa h v A B ∧ RVa h w A B) ∨ (v = zeroR ∧ w = zeroR)) : ∃ h', run Try.prog sO 19 [v, w] h = some (.bool true, h') ∧ Keep No h h' := by
  have key : ∃ a1 k1 c1 a2 k2 c2 a3 c3 a4 c4 l1 l2, v = .agg #[.bool false, .slice a1 k1 c1, .slice a2 k2 c2] ∧ w = .agg #[.bool false, .slice a3 k1 c3, .slice a4 k2 c4] ∧ Na h (.slice a1 k1 c1) l1 ∧ Na h (.slice a2 k2 c2) l2 ∧ Na h (.slice a3 k1 c3) l1 ∧ Na h (.slice a4 k2 c4) l2 := by
    rcases hs with ⟨A, B, ⟨a1, k1, c1, a2, k2, c2, rfl, n1, n2⟩, ⟨a3, k3, c3, a4, k4, c4, rfl, n3, n4⟩⟩ | ⟨rfl, rfl⟩
    · obtain rfl : k3 = k1 := by rw [nfa_len n1, nfa_len n3]
      obtain rfl : k4 = k2 := by rw [nfa_len n2, nfa_len n4]
      exact ⟨_, _, _, _, _, _, _, _, _, _, _, _, rfl, rfl, n1.1, n2.1, n3.1, n4.1⟩
    · have nz : Na h (.slice none 0 0) [] := ⟨⟨rfl, .inl ⟨rfl, rfl⟩⟩, W32.nil, by simp⟩
      exact ⟨_, _, _, _, _, _, _, _, _, _, _, _, rfl, rfl, nz, nz, nz, nz⟩
  obtain ⟨a1, k1, c1, a2, k2, c2, a3, c3, a4, c4, l1, l2, rfl, rfl, n1, n2, n3, n4⟩ := key
  obtain ⟨hA, hhA⟩ : ∃ x, x = h.new (.cells [.bool false, .slice a1 k1 c1, .slice a2 k2 c2] 42 3 false false) := ⟨_, rfl⟩
  obtain ⟨hB, hhB⟩ : ∃ x, x = hA.new (.cells [.bool false, .slice a3 k1 c3, .slice a4 k2 c4] 42 3 false false) := ⟨_, rfl⟩
  have kA : Keep No h hA := hhA ▸ Keep.new No h _
  have kB : Keep No hA hB := hhB ▸ Keep.new No hA _
  have gA : hA.get h.next = some (.cells [.bool false, .slice a1 k1 c1, .slice a2 k2 c2] 42 3 false false) := by rw [hhA, Heap.get_new, if_pos rfl]
  have gB : hB.get hA.next = some (.cells [.bool false, .slice a3 k1 c3, .slice a4 k2 c4] 42 3 false false) := by rw [hhB, Heap.get_new, if_pos rfl]
  have gA2 := kB.get gA fun x => x
  have kk := kA.trans kB
  have e1 := same_run (n1.keep kk) (n3.keep kk)
  have e2 := same_run (n2.keep kk) (n4.keep kk)
  have hbx1 := fun ρ x hx => bx42 ρ x false a1 k1 c1 a2 k2 c2 hx
  have hbx2 := fun ρ x hx => bx42 ρ x false a3 k1 c3 a4 k2 c4 hx
  refine ⟨hB, run_finP pt19 Try.func19 rfl planned19 ?_, kk⟩
  simp (maxSteps := 2000000) -implicitDefEqProofs [Try.f19, pw, aop, cls, light, lightS, binE, aeq, intBin, goInt, aload, isAggT, aeval, tput, awanted, fin, aresults, aresult, List.replicate, heavy, acallOp, aenter, firstRegion, readNames, Nxt, isAnc, readsOk, cond_true, cond_false, hbx1, hbx2, ← hhA, ← hhB, gA2, gB, fa42_0, fa42_1, fa42_2, beql4, en45, e1, e2, undef]
end Go.Proofs.Ytmnkmdfladbgdaa.Od
