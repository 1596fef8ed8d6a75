/- Odds: sums of unlike signs, the first without. -/
import Derived.Test.YtmnkmdfladbgdaaOl24
import Derived.Test.YtmnkmdfladbgdaaOd12
import Derived.Test.YtmnkmdfladbgdaaOd16
set_option linter.unusedVariables false
set_option linter.unusedSimpArgs false
namespace Go.Proofs.Ytmnkmdfladbgdaa.Od
open Go Go.Proofs Go.RowKit Go.Proofs.YtmnkmdfladbgdaaAI Go.Proofs.YtmnkmdfladbgdaaFl Go.Proofs.YtmnkmdfladbgdaaRnd

set_option maxRecDepth 20000 in
set_option maxHeartbeats 6400000 in
theorem adds01 {h : Heap} {a b : Nat} (ha : a < 18446744073709551616) (hb : b < 18446744073709551616) (fa : Mg a < 9218868437227405312) (fb : Mg b < 9218868437227405312) (sp : Sg a = false) (sq : Sg b = true) : ∃ h', run Try.prog sO 35 [U a, U b] h = some (U (addS a b), h') ∧ Keep No h h' := by
  have ea := isnan_run sO a h
  have eb := isnan_run sO b h
  have sa := size_run sO a h
  have sb := size_run sO b h
  have na : isN a = false := decide_eq_false (by unfold Mg at fa; omega)
  have nb : isN b = false := decide_eq_false (by unfold Mg at fb; omega)
  rw [na] at ea
  rw [nb] at eb
  have ra := @parts_run h a ha fa
  have rb' := @parts_run h b hb fb
  have da : decide (9223372036854775808 ≤ a) = false := sp
  have db : decide (9223372036854775808 ≤ b) = true := sq
  rw [da] at ra
  rw [db] at rb'
  have ma : a % 9223372036854775808 = Mg a := rfl
  have mb : b % 9223372036854775808 = Mg b := rfl
  rw [ma] at ra sa
  rw [mb] at rb' sb
  obtain ⟨va, va2, va3, va4, va5, va6⟩ := parts_val fa
  obtain ⟨vb, vb2, vb3, vb4, vb5, vb6⟩ := parts_val fb
  obtain ⟨low, hlow⟩ : ∃ low : Int, (if peB (Mg b) < peB (Mg a) then peB (Mg b) else peB (Mg a)) = low := ⟨_, rfl⟩
  have hl1 : -1074 ≤ low ∧ low ≤ peB (Mg a) ∧ low ≤ peB (Mg b) ∧ low ≤ 1100 := by rw [← hlow]; split <;> omega
  obtain ⟨k1, hk1⟩ : ∃ k : Nat, peB (Mg a) - low = (k : Int) := ⟨(peB (Mg a) - low).toNat, by omega⟩
  obtain ⟨k2, hk2⟩ : ∃ k : Nat, peB (Mg b) - low = (k : Int) := ⟨(peB (Mg b) - low).toNat, by omega⟩
  have ta := Vs_parts fa hl1.1 hk1
  have tb := Vs_parts fb hl1.1 hk2
  rw [sp] at ta
  rw [sq] at tb
  have w1 : IntKind.i64.wrap (peB (Mg a) - low) = (k1 : Int) := by rw [IntWalk.i64_in _ (by omega)]; exact hk1
  have w2 : IntKind.i64.wrap (peB (Mg b) - low) = (k2 : Int) := by rw [IntWalk.i64_in _ (by omega)]; exact hk2
  obtain ⟨v1, h1, e1, n1, kk1⟩ := @nat_run h (pmB (Mg a)) (by omega)
  obtain ⟨v2, h2, e2, n2, b2⟩ := shl_run k1 n1 (by omega) (by simp only [List.length_cons, List.length_nil]; omega)
  rw [nv_two] at n2 b2
  simp only [List.length_cons, List.length_nil] at b2
  obtain ⟨v3, h3, e3, n3, kk3⟩ := @nat_run h2 (pmB (Mg b)) (by omega)
  obtain ⟨v4, h4, e4, n4, b4⟩ := shl_run k2 n3 (by omega) (by simp only [List.length_cons, List.length_nil]; omega)
  rw [nv_two] at n4 b4
  simp only [List.length_cons, List.length_nil] at b4
  have na2 := (n2.na (by omega)).keep (kk3.trans n4.2.1)
  have na4 := n4.na (by omega)
  have q2 : nv (lm (pmB (Mg a) * 2 ^ k1)) = pmB (Mg a) * 2 ^ k1 := nv_lm _
  have q4 : nv (lm (pmB (Mg b) * 2 ^ k2)) = pmB (Mg b) * 2 ^ k2 := nv_lm _
  have kA : Keep No h h4 := (kk1.trans n2.2.1).trans (kk3.trans n4.2.1)
  have c1 : ¬ Mg a = 9218868437227405312 := by omega
  have c1' : ¬ (Mg a : Int) = 9218868437227405312 := by omega
  have c2 : ¬ Mg b = 9218868437227405312 := by omega
  have c2' : ¬ (Mg b : Int) = 9218868437227405312 := by omega
  have hpa : Mg a = 0 ∨ 0 < pmB (Mg a) := by
    rcases Nat.eq_zero_or_pos (Mg a) with x | x
    · exact .inl x
    · exact .inr (va6 x)
  have hkk : k1 ≤ 2200 ∧ k2 ≤ 2200 := by omega
  clear va va2 va3 va4 va5 va6 vb vb2 vb3 vb4 vb5 vb6
  suffices hx : ∃ y, fin Try.prog Try.f35 (aexecP Try.prog (sO 35) (run Try.prog sO) loopω pt35 (Try.f35.body.getD .skip) ([U a, U b] ++ List.replicate (Try.f35.ntmps - 2) undef) h) = some y ∧ y.1 = U (addS a b) ∧ Keep No h y.2 by
    obtain ⟨⟨y1, y2⟩, hy, rfl, q⟩ := hx
    exact ⟨y2, run_finP pt35 Try.func35 rfl planned35 hy, q⟩
  generalize hu : pmB (Mg a) * 2 ^ k1 = u at *
  generalize hv : pmB (Mg b) * 2 ^ k2 = v at *
  have zs := addS_zero ha hb fa fb
  have os := fun (N : Nat) (s : Bool) hN hT => addS_of (N := N) (s := s) ha hb fa fb hl1.1 hN hT
  generalize hLL : 2 ^ (low + 1074).toNat = L at *
  generalize addS a b = R at *
  obtain ⟨h5, e5, k5⟩ := cmp3_run na2 na4
  rw [q2, q4] at e5
  have hT : Vs a + Vs b = ((u * L : Nat) : Int) - ((v * L : Nat) : Int) := by
    rw [ta, tb]
    simp only [Bool.false_eq_true, if_false, if_true]
    omega
  rcases Nat.lt_trichotomy u v with x | x | x
  · have hc : cmpN u v = -1 := by unfold cmpN; rw [if_pos x]
    rw [hc] at e5
    obtain ⟨v5, h6, e6, n6, b6⟩ := minus_run (na4.keep k5) (na2.keep k5) (by rw [q4, q2]; clear ta tb zs os; omega)
    rw [q4, q2] at n6 b6
    obtain ⟨S, hS⟩ : ∃ S, v - u = S := ⟨_, rfl⟩
    rw [hS] at n6 b6
    have h0 : 0 < S := by clear ta tb zs os; omega
    have na6 := n6.na (by clear ta tb zs os; omega)
    obtain ⟨h7, e7, k7⟩ := round_t (exp := low) false na6 (by clear ta tb zs os; omega) (by rw [nv_lm]; exact h0) (by clear ta tb zs os; omega) (by clear ta tb zs os; omega)
    rw [nv_lm, Bool.false_or, rung_rq h0] at e7
    have hSL : S * L + u * L = v * L := by rw [← Nat.add_mul]; congr 1; clear ta tb zs os; omega
    have hR := os S true h0 (by rw [hT]; simp only [Bool.false_eq_true, if_false, if_true]; clear ta tb zs os; omega)
    unfold wd at hR
    simp only [Bool.false_eq_true, if_false, if_true] at hR
    rw [← hR] at e7
    by_cases cl : peB (Mg b) < peB (Mg a)
    · rw [if_pos cl] at hlow
      have hk0 : k2 = 0 := by clear ta tb zs; omega
      have w0 : IntKind.i64.wrap 0 = 0 := rfl
      rw [hk0, show ((0 : Nat) : Int) = 0 from rfl] at e4
      rw [← hlow] at w1 w2 e7
      simp (maxSteps := 2000000) -implicitDefEqProofs [Try.f35, px_skip, px_label, px_region, px_draw, qx_seq, qx_cond, px_block, px_loop, px_scope, px_exit, px_ret, seqK_normal, seqK_exit, seqK_ret, condK_true, condK_false, opsK_some, wK_true, wK_false, itK_some, aops_nil, aops_cons, lK_some, aK_some, hK_some, dwK_true, dwK_false, diK_some, dK_light, dK_alloc, dK_heavy, adraw_nil, adraw_cons, aop, cls, light, lightS, binE, aeq, intBin, goInt, pl_int, pl_bool, pl_ptr, pl_slice, aload, isAggT, aeval, tput, awanted, List.range_succ, fin, aresults, aresult, List.replicate, heavy, acallOp, aenter, ble_d, beq_d, firstRegion, readNames, Nxt, isAnc, readsOk, objEq_some, isFl_sub, isFl_mul, isFl_quo, isFl_rem, isFl_and, isFl_or, isFl_xor, isFl_andNot, isFl_shl, isFl_shr, isFl_eql, isFl_neq, isFl_lss, isFl_leq, isFl_gtr, isFl_geq, nanCmp_quo, nanCmp_mul, nanCmp_sub, fl_2, fl_3, fl_34, fl_37, fl_101, cond_true, cond_false, e5, e6, e7, en28, en55, en60, en62, en61, en66, en64, en63, en65, ea, eb, sa, sb, ra, rb', e1, e2, e3, e4, w0, w1, w2, cl, neq4, ibeq, ibne, c1, c1', c2, c2', undef]
      exact ((kA.trans k5).trans n6.2.1).trans k7
    · rw [if_neg cl] at hlow
      have hk0 : k1 = 0 := by clear ta tb zs; omega
      have w0 : IntKind.i64.wrap 0 = 0 := rfl
      rw [hk0, show ((0 : Nat) : Int) = 0 from rfl] at e2
      rw [← hlow] at w1 w2 e7
      simp (maxSteps := 2000000) -implicitDefEqProofs [Try.f35, px_skip, px_label, px_region, px_draw, qx_seq, qx_cond, px_block, px_loop, px_scope, px_exit, px_ret, seqK_normal, seqK_exit, seqK_ret, condK_true, condK_false, opsK_some, wK_true, wK_false, itK_some, aops_nil, aops_cons, lK_some, aK_some, hK_some, dwK_true, dwK_false, diK_some, dK_light, dK_alloc, dK_heavy, adraw_nil, adraw_cons, aop, cls, light, lightS, binE, aeq, intBin, goInt, pl_int, pl_bool, pl_ptr, pl_slice, aload, isAggT, aeval, tput, awanted, List.range_succ, fin, aresults, aresult, List.replicate, heavy, acallOp, aenter, ble_d, beq_d, firstRegion, readNames, Nxt, isAnc, readsOk, objEq_some, isFl_sub, isFl_mul, isFl_quo, isFl_rem, isFl_and, isFl_or, isFl_xor, isFl_andNot, isFl_shl, isFl_shr, isFl_eql, isFl_neq, isFl_lss, isFl_leq, isFl_gtr, isFl_geq, nanCmp_quo, nanCmp_mul, nanCmp_sub, fl_2, fl_3, fl_34, fl_37, fl_101, cond_true, cond_false, e5, e6, e7, en28, en55, en60, en62, en61, en66, en64, en63, en65, ea, eb, sa, sb, ra, rb', e1, e2, e3, e4, w0, w1, w2, cl, neq4, ibeq, ibne, c1, c1', c2, c2', undef]
      exact ((kA.trans k5).trans n6.2.1).trans k7
  · have hc : cmpN u v = 0 := (cmpN_eq _ _).2 x
    rw [hc] at e5
    have hR : R = 0 := by rw [zs (by rw [hT, x]; omega), sp, sq]; rfl
    rw [hR]
    by_cases cl : peB (Mg b) < peB (Mg a)
    · rw [if_pos cl] at hlow
      have hk0 : k2 = 0 := by clear ta tb zs; omega
      have w0 : IntKind.i64.wrap 0 = 0 := rfl
      rw [hk0, show ((0 : Nat) : Int) = 0 from rfl] at e4
      rw [← hlow] at w1 w2
      simp (maxSteps := 2000000) -implicitDefEqProofs [Try.f35, px_skip, px_label, px_region, px_draw, qx_seq, qx_cond, px_block, px_loop, px_scope, px_exit, px_ret, seqK_normal, seqK_exit, seqK_ret, condK_true, condK_false, opsK_some, wK_true, wK_false, itK_some, aops_nil, aops_cons, lK_some, aK_some, hK_some, dwK_true, dwK_false, diK_some, dK_light, dK_alloc, dK_heavy, adraw_nil, adraw_cons, aop, cls, light, lightS, binE, aeq, intBin, goInt, pl_int, pl_bool, pl_ptr, pl_slice, aload, isAggT, aeval, tput, awanted, List.range_succ, fin, aresults, aresult, List.replicate, heavy, acallOp, aenter, ble_d, beq_d, firstRegion, readNames, Nxt, isAnc, readsOk, objEq_some, isFl_sub, isFl_mul, isFl_quo, isFl_rem, isFl_and, isFl_or, isFl_xor, isFl_andNot, isFl_shl, isFl_shr, isFl_eql, isFl_neq, isFl_lss, isFl_leq, isFl_gtr, isFl_geq, nanCmp_quo, nanCmp_mul, nanCmp_sub, fl_2, fl_3, fl_34, fl_37, fl_101, cond_true, cond_false, e5, en28, en55, en60, en62, en61, en66, en64, en63, en65, ea, eb, sa, sb, ra, rb', e1, e2, e3, e4, w0, w1, w2, cl, neq4, ibeq, ibne, c1, c1', c2, c2', undef]
      exact kA.trans k5
    · rw [if_neg cl] at hlow
      have hk0 : k1 = 0 := by clear ta tb zs; omega
      have w0 : IntKind.i64.wrap 0 = 0 := rfl
      rw [hk0, show ((0 : Nat) : Int) = 0 from rfl] at e2
      rw [← hlow] at w1 w2
      simp (maxSteps := 2000000) -implicitDefEqProofs [Try.f35, px_skip, px_label, px_region, px_draw, qx_seq, qx_cond, px_block, px_loop, px_scope, px_exit, px_ret, seqK_normal, seqK_exit, seqK_ret, condK_true, condK_false, opsK_some, wK_true, wK_false, itK_some, aops_nil, aops_cons, lK_some, aK_some, hK_some, dwK_true, dwK_false, diK_some, dK_light, dK_alloc, dK_heavy, adraw_nil, adraw_cons, aop, cls, light, lightS, binE, aeq, intBin, goInt, pl_int, pl_bool, pl_ptr, pl_slice, aload, isAggT, aeval, tput, awanted, List.range_succ, fin, aresults, aresult, List.replicate, heavy, acallOp, aenter, ble_d, beq_d, firstRegion, readNames, Nxt, isAnc, readsOk, objEq_some, isFl_sub, isFl_mul, isFl_quo, isFl_rem, isFl_and, isFl_or, isFl_xor, isFl_andNot, isFl_shl, isFl_shr, isFl_eql, isFl_neq, isFl_lss, isFl_leq, isFl_gtr, isFl_geq, nanCmp_quo, nanCmp_mul, nanCmp_sub, fl_2, fl_3, fl_34, fl_37, fl_101, cond_true, cond_false, e5, en28, en55, en60, en62, en61, en66, en64, en63, en65, ea, eb, sa, sb, ra, rb', e1, e2, e3, e4, w0, w1, w2, cl, neq4, ibeq, ibne, c1, c1', c2, c2', undef]
      exact kA.trans k5
  · have hc : cmpN u v = 1 := by unfold cmpN; rw [if_neg (by omega), if_pos x]
    rw [hc] at e5
    obtain ⟨v5, h6, e6, n6, b6⟩ := minus_run (na2.keep k5) (na4.keep k5) (by rw [q2, q4]; clear ta tb zs os; omega)
    rw [q2, q4] at n6 b6
    obtain ⟨S, hS⟩ : ∃ S, u - v = S := ⟨_, rfl⟩
    rw [hS] at n6 b6
    have h0 : 0 < S := by clear ta tb zs os; omega
    have na6 := n6.na (by clear ta tb zs os; omega)
    obtain ⟨h7, e7, k7⟩ := round_f (exp := low) false na6 (by clear ta tb zs os; omega) (by rw [nv_lm]; exact h0) (by clear ta tb zs os; omega) (by clear ta tb zs os; omega)
    rw [nv_lm, Bool.false_or, rung_rq h0] at e7
    have hSL : S * L + v * L = u * L := by rw [← Nat.add_mul]; congr 1; clear ta tb zs os; omega
    have hR := os S false h0 (by rw [hT]; simp only [Bool.false_eq_true, if_false, if_true]; clear ta tb zs os; omega)
    unfold wd at hR
    simp only [Bool.false_eq_true, if_false, if_true] at hR
    rw [← hR] at e7
    by_cases cl : peB (Mg b) < peB (Mg a)
    · rw [if_pos cl] at hlow
      have hk0 : k2 = 0 := by clear ta tb zs; omega
      have w0 : IntKind.i64.wrap 0 = 0 := rfl
      rw [hk0, show ((0 : Nat) : Int) = 0 from rfl] at e4
      rw [← hlow] at w1 w2 e7
      simp (maxSteps := 2000000) -implicitDefEqProofs [Try.f35, px_skip, px_label, px_region, px_draw, qx_seq, qx_cond, px_block, px_loop, px_scope, px_exit, px_ret, seqK_normal, seqK_exit, seqK_ret, condK_true, condK_false, opsK_some, wK_true, wK_false, itK_some, aops_nil, aops_cons, lK_some, aK_some, hK_some, dwK_true, dwK_false, diK_some, dK_light, dK_alloc, dK_heavy, adraw_nil, adraw_cons, aop, cls, light, lightS, binE, aeq, intBin, goInt, pl_int, pl_bool, pl_ptr, pl_slice, aload, isAggT, aeval, tput, awanted, List.range_succ, fin, aresults, aresult, List.replicate, heavy, acallOp, aenter, ble_d, beq_d, firstRegion, readNames, Nxt, isAnc, readsOk, objEq_some, isFl_sub, isFl_mul, isFl_quo, isFl_rem, isFl_and, isFl_or, isFl_xor, isFl_andNot, isFl_shl, isFl_shr, isFl_eql, isFl_neq, isFl_lss, isFl_leq, isFl_gtr, isFl_geq, nanCmp_quo, nanCmp_mul, nanCmp_sub, fl_2, fl_3, fl_34, fl_37, fl_101, cond_true, cond_false, e5, e6, e7, en28, en55, en60, en62, en61, en66, en64, en63, en65, ea, eb, sa, sb, ra, rb', e1, e2, e3, e4, w0, w1, w2, cl, neq4, ibeq, ibne, c1, c1', c2, c2', undef]
      exact ((kA.trans k5).trans n6.2.1).trans k7
    · rw [if_neg cl] at hlow
      have hk0 : k1 = 0 := by clear ta tb zs; omega
      have w0 : IntKind.i64.wrap 0 = 0 := rfl
      rw [hk0, show ((0 : Nat) : Int) = 0 from rfl] at e2
      rw [← hlow] at w1 w2 e7
      simp (maxSteps := 2000000) -implicitDefEqProofs [Try.f35, px_skip, px_label, px_region, px_draw, qx_seq, qx_cond, px_block, px_loop, px_scope, px_exit, px_ret, seqK_normal, seqK_exit, seqK_ret, condK_true, condK_false, opsK_some, wK_true, wK_false, itK_some, aops_nil, aops_cons, lK_some, aK_some, hK_some, dwK_true, dwK_false, diK_some, dK_light, dK_alloc, dK_heavy, adraw_nil, adraw_cons, aop, cls, light, lightS, binE, aeq, intBin, goInt, pl_int, pl_bool, pl_ptr, pl_slice, aload, isAggT, aeval, tput, awanted, List.range_succ, fin, aresults, aresult, List.replicate, heavy, acallOp, aenter, ble_d, beq_d, firstRegion, readNames, Nxt, isAnc, readsOk, objEq_some, isFl_sub, isFl_mul, isFl_quo, isFl_rem, isFl_and, isFl_or, isFl_xor, isFl_andNot, isFl_shl, isFl_shr, isFl_eql, isFl_neq, isFl_lss, isFl_leq, isFl_gtr, isFl_geq, nanCmp_quo, nanCmp_mul, nanCmp_sub, fl_2, fl_3, fl_34, fl_37, fl_101, cond_true, cond_false, e5, e6, e7, en28, en55, en60, en62, en61, en66, en64, en63, en65, ea, eb, sa, sb, ra, rb', e1, e2, e3, e4, w0, w1, w2, cl, neq4, ibeq, ibne, c1, c1', c2, c2', undef]
      exact ((kA.trans k5).trans n6.2.1).trans k7
end Go.Proofs.Ytmnkmdfladbgdaa.Od
