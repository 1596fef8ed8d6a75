/- Odds: the document's Add of any two floats. -/
import Derived.Test.YtmnkmdfladbgdaaOd17
import Derived.Test.YtmnkmdfladbgdaaOd18
import Derived.Test.YtmnkmdfladbgdaaOd19
set_option linter.unusedVariables false
set_option linter.unusedSimpArgs false
namespace Go.Proofs.Ytmnkmdfladbgdaa.Od
open Go Go.Proofs Go.RowKit Go.Proofs.YtmnkmdfladbgdaaAI Go.Proofs.YtmnkmdfladbgdaaFl Go.Proofs.YtmnkmdfladbgdaaRnd

/-- The document's sum: where there is none, the NaN. -/
def addD (a b : Nat) : Nat := (Ieee.double.add a b).getD 9221120237041090561
theorem read_nan {a : Nat} (ha : a < 18446744073709551616) (h : isN a = true) : ∃ s f, Ieee.double.read a = .nan s f := by
  have h1 : 9218868437227405312 < a % 9223372036854775808 := by simpa [isN] using h
  have := read_eq a ha
  rw [if_neg (by omega), if_neg (by omega)] at this
  exact ⟨_, _, this⟩
theorem read_infM {a : Nat} (ha : a < 18446744073709551616) (h : Mg a = 9218868437227405312) : Ieee.double.read a = .infinity (Sg a) := by
  have h1 : a % 9223372036854775808 = 9218868437227405312 := h
  have := read_eq a ha
  rw [if_neg (by omega), if_pos h1] at this
  exact this
theorem read_fin {a : Nat} (ha : a < 18446744073709551616) (h : Mg a < 9218868437227405312) : ∃ s m p, Ieee.double.read a = .number s m p := by
  have h1 : a % 9223372036854775808 < 9218868437227405312 := h
  have := read_eq a ha
  rw [if_pos h1] at this
  exact ⟨_, _, _, this⟩
theorem write_inf (s : Bool) : Ieee.double.write (.infinity s) = wd s 9218868437227405312 := by
  show Ieee.double.word s Ieee.double.infRung = _
  rw [word_wd]; rfl
theorem add_nan {a b : Nat} (ha : a < 18446744073709551616) (hb : b < 18446744073709551616) (h : isN a = true ∨ isN b = true) : Ieee.double.add a b = none := by
  unfold Ieee.Format.add
  rcases h with h | h
  · obtain ⟨s, f, e⟩ := read_nan ha h
    rw [e]; simp [Ieee.Datum.sum]
  · obtain ⟨s, f, e⟩ := read_nan hb h
    rw [e]
    cases Ieee.double.read a <;> simp [Ieee.Datum.sum]
theorem add_infinf {a b : Nat} (ha : a < 18446744073709551616) (hb : b < 18446744073709551616) (h1 : Mg a = 9218868437227405312) (h2 : Mg b = 9218868437227405312) : Ieee.double.add a b = if a = b then some a else none := by
  unfold Ieee.Format.add
  rw [read_infM ha h1, read_infM hb h2]
  have ea := wd_eq ha
  have eb := wd_eq hb
  by_cases h : Sg a = Sg b
  · have hab : a = b := by rw [ea, eb, h, h1, h2]
    rw [if_pos hab]
    simp only [Ieee.Datum.sum, h, if_true, Option.map_some, write_inf]
    rw [← h, ← h1, ← ea]
  · have hab : ¬ a = b := fun e => h (by rw [e])
    rw [if_neg hab]
    simp only [Ieee.Datum.sum, h, if_false, Option.map_none]
theorem add_infl {a b : Nat} (ha : a < 18446744073709551616) (hb : b < 18446744073709551616) (h1 : Mg a = 9218868437227405312) (h2 : Mg b < 9218868437227405312) : Ieee.double.add a b = some a ∧ Ieee.double.add b a = some a := by
  obtain ⟨s, m, p, e⟩ := read_fin hb h2
  unfold Ieee.Format.add
  rw [read_infM ha h1, e]
  simp only [Ieee.Datum.sum, Option.map_some, write_inf]
  rw [← h1, ← wd_eq ha]
  exact ⟨rfl, rfl⟩
set_option maxRecDepth 20000 in
set_option maxHeartbeats 6400000 in
theorem addD_special {h : Heap} {a b : Nat} (ha : a < 18446744073709551616) (hb : b < 18446744073709551616) (hs : isN a = true ∨ isN b = true ∨ Mg a = 9218868437227405312 ∨ Mg b = 9218868437227405312) : run Try.prog sO 35 [U a, U b] h = some (U (addD a b), h) := by
  refine run_finP pt35 Try.func35 rfl planned35 ?_
  have ea := isnan_run sO a h
  have eb := isnan_run sO b h
  have sa := size_run sO a h
  have sb := size_run sO b h
  have ma : a % 9223372036854775808 = Mg a := rfl
  have mb : b % 9223372036854775808 = Mg b := rfl
  rw [ma] at sa
  rw [mb] at sb
  cases na : isN a
  · rw [na] at ea
    cases nb : isN b
    · rw [nb] at eb
      have la : Mg a ≤ 9218868437227405312 := by
        have : ¬ 9218868437227405312 < a % 9223372036854775808 := by simpa [isN] using na
        rw [ma] at this; omega
      have lb : Mg b ≤ 9218868437227405312 := by
        have : ¬ 9218868437227405312 < b % 9223372036854775808 := by simpa [isN] using nb
        rw [mb] at this; omega
      by_cases ia : Mg a = 9218868437227405312
      · have d1 := eq_true ia
        have d1' : ((Mg a : Int) = 9218868437227405312) = True := eq_true (by omega)
        by_cases ib : Mg b = 9218868437227405312
        · have d2 := eq_true ib
          have d2' : ((Mg b : Int) = 9218868437227405312) = True := eq_true (by omega)
          have hv := add_infinf ha hb ia ib
          by_cases hab : a = b
          · have hR : addD a b = a := by unfold addD; rw [hv, if_pos hab]; rfl
            rw [hR]
            have d3 := eq_true hab
            have d3' : ((a : Int) = (b : Int)) = True := eq_true (by omega)
            simp (maxSteps := 2000000) -implicitDefEqProofs [Try.f35, px_skip, px_label, px_region, px_draw, qx_seq, qx_cond, px_block, px_loop, px_scope, px_exit, px_ret, seqK_normal, seqK_exit, seqK_ret, condK_true, condK_false, opsK_some, wK_true, wK_false, itK_some, aops_nil, aops_cons, lK_some, aK_some, hK_some, dwK_true, dwK_false, diK_some, dK_light, dK_alloc, dK_heavy, adraw_nil, adraw_cons, aop, cls, light, lightS, binE, aeq, intBin, goInt, pl_int, pl_bool, pl_ptr, pl_slice, aload, isAggT, aeval, tput, awanted, List.range_succ, fin, aresults, aresult, List.replicate, heavy, acallOp, aenter, ble_d, beq_d, firstRegion, readNames, Nxt, isAnc, readsOk, objEq_some, isFl_sub, isFl_mul, isFl_quo, isFl_rem, isFl_and, isFl_or, isFl_xor, isFl_andNot, isFl_shl, isFl_shr, isFl_eql, isFl_neq, isFl_lss, isFl_leq, isFl_gtr, isFl_geq, nanCmp_quo, nanCmp_mul, nanCmp_sub, fl_2, fl_3, fl_34, fl_37, fl_101, cond_true, cond_false, en28, en55, ea, eb, sa, sb, ibeq, ibne, d1, d1', d2, d2', d3, d3', undef]
          · have hR : addD a b = 9221120237041090561 := by unfold addD; rw [hv, if_neg hab]; rfl
            rw [hR]
            have d3 := eq_false hab
            have d3' : ((a : Int) = (b : Int)) = False := eq_false (by omega)
            simp (maxSteps := 2000000) -implicitDefEqProofs [Try.f35, px_skip, px_label, px_region, px_draw, qx_seq, qx_cond, px_block, px_loop, px_scope, px_exit, px_ret, seqK_normal, seqK_exit, seqK_ret, condK_true, condK_false, opsK_some, wK_true, wK_false, itK_some, aops_nil, aops_cons, lK_some, aK_some, hK_some, dwK_true, dwK_false, diK_some, dK_light, dK_alloc, dK_heavy, adraw_nil, adraw_cons, aop, cls, light, lightS, binE, aeq, intBin, goInt, pl_int, pl_bool, pl_ptr, pl_slice, aload, isAggT, aeval, tput, awanted, List.range_succ, fin, aresults, aresult, List.replicate, heavy, acallOp, aenter, ble_d, beq_d, firstRegion, readNames, Nxt, isAnc, readsOk, objEq_some, isFl_sub, isFl_mul, isFl_quo, isFl_rem, isFl_and, isFl_or, isFl_xor, isFl_andNot, isFl_shl, isFl_shr, isFl_eql, isFl_neq, isFl_lss, isFl_leq, isFl_gtr, isFl_geq, nanCmp_quo, nanCmp_mul, nanCmp_sub, fl_2, fl_3, fl_34, fl_37, fl_101, cond_true, cond_false, en28, en55, ea, eb, sa, sb, ibeq, ibne, d1, d1', d2, d2', d3, d3', undef]
        · have d2 := eq_false ib
          have d2' : ((Mg b : Int) = 9218868437227405312) = False := eq_false (by omega)
          have hR : addD a b = a := by unfold addD; rw [(add_infl ha hb ia (by omega)).1]; rfl
          rw [hR]
          simp (maxSteps := 2000000) -implicitDefEqProofs [Try.f35, px_skip, px_label, px_region, px_draw, qx_seq, qx_cond, px_block, px_loop, px_scope, px_exit, px_ret, seqK_normal, seqK_exit, seqK_ret, condK_true, condK_false, opsK_some, wK_true, wK_false, itK_some, aops_nil, aops_cons, lK_some, aK_some, hK_some, dwK_true, dwK_false, diK_some, dK_light, dK_alloc, dK_heavy, adraw_nil, adraw_cons, aop, cls, light, lightS, binE, aeq, intBin, goInt, pl_int, pl_bool, pl_ptr, pl_slice, aload, isAggT, aeval, tput, awanted, List.range_succ, fin, aresults, aresult, List.replicate, heavy, acallOp, aenter, ble_d, beq_d, firstRegion, readNames, Nxt, isAnc, readsOk, objEq_some, isFl_sub, isFl_mul, isFl_quo, isFl_rem, isFl_and, isFl_or, isFl_xor, isFl_andNot, isFl_shl, isFl_shr, isFl_eql, isFl_neq, isFl_lss, isFl_leq, isFl_gtr, isFl_geq, nanCmp_quo, nanCmp_mul, nanCmp_sub, fl_2, fl_3, fl_34, fl_37, fl_101, cond_true, cond_false, en28, en55, ea, eb, sa, sb, ibeq, ibne, d1, d1', d2, d2', undef]
      · have ib : Mg b = 9218868437227405312 := by
          rcases hs with x | x | x | x
          · rw [na] at x; cases x
          · rw [nb] at x; cases x
          · exact absurd x ia
          · exact x
        have d1 := eq_false ia
        have d1' : ((Mg a : Int) = 9218868437227405312) = False := eq_false (by omega)
        have d2 := eq_true ib
        have d2' : ((Mg b : Int) = 9218868437227405312) = True := eq_true (by omega)
        have hR : addD a b = b := by unfold addD; rw [(add_infl hb ha ib (by omega)).2]; rfl
        rw [hR]
        simp (maxSteps := 2000000) -implicitDefEqProofs [Try.f35, px_skip, px_label, px_region, px_draw, qx_seq, qx_cond, px_block, px_loop, px_scope, px_exit, px_ret, seqK_normal, seqK_exit, seqK_ret, condK_true, condK_false, opsK_some, wK_true, wK_false, itK_some, aops_nil, aops_cons, lK_some, aK_some, hK_some, dwK_true, dwK_false, diK_some, dK_light, dK_alloc, dK_heavy, adraw_nil, adraw_cons, aop, cls, light, lightS, binE, aeq, intBin, goInt, pl_int, pl_bool, pl_ptr, pl_slice, aload, isAggT, aeval, tput, awanted, List.range_succ, fin, aresults, aresult, List.replicate, heavy, acallOp, aenter, ble_d, beq_d, firstRegion, readNames, Nxt, isAnc, readsOk, objEq_some, isFl_sub, isFl_mul, isFl_quo, isFl_rem, isFl_and, isFl_or, isFl_xor, isFl_andNot, isFl_shl, isFl_shr, isFl_eql, isFl_neq, isFl_lss, isFl_leq, isFl_gtr, isFl_geq, nanCmp_quo, nanCmp_mul, nanCmp_sub, fl_2, fl_3, fl_34, fl_37, fl_101, cond_true, cond_false, en28, en55, ea, eb, sa, sb, ibeq, ibne, d1, d1', d2, d2', undef]
    · rw [nb] at eb
      have hR : addD a b = 9221120237041090561 := by unfold addD; rw [add_nan ha hb (.inr nb)]; rfl
      rw [hR]
      simp (maxSteps := 2000000) -implicitDefEqProofs [Try.f35, px_skip, px_label, px_region, px_draw, qx_seq, qx_cond, px_block, px_loop, px_scope, px_exit, px_ret, seqK_normal, seqK_exit, seqK_ret, condK_true, condK_false, opsK_some, wK_true, wK_false, itK_some, aops_nil, aops_cons, lK_some, aK_some, hK_some, dwK_true, dwK_false, diK_some, dK_light, dK_alloc, dK_heavy, adraw_nil, adraw_cons, aop, cls, light, lightS, binE, aeq, intBin, goInt, pl_int, pl_bool, pl_ptr, pl_slice, aload, isAggT, aeval, tput, awanted, List.range_succ, fin, aresults, aresult, List.replicate, heavy, acallOp, aenter, ble_d, beq_d, firstRegion, readNames, Nxt, isAnc, readsOk, objEq_some, isFl_sub, isFl_mul, isFl_quo, isFl_rem, isFl_and, isFl_or, isFl_xor, isFl_andNot, isFl_shl, isFl_shr, isFl_eql, isFl_neq, isFl_lss, isFl_leq, isFl_gtr, isFl_geq, nanCmp_quo, nanCmp_mul, nanCmp_sub, fl_2, fl_3, fl_34, fl_37, fl_101, cond_true, cond_false, en28, ea, eb, undef]
  · rw [na] at ea
    have hR : addD a b = 9221120237041090561 := by unfold addD; rw [add_nan ha hb (.inl na)]; rfl
    rw [hR]
    simp (maxSteps := 2000000) -implicitDefEqProofs [Try.f35, px_skip, px_label, px_region, px_draw, qx_seq, qx_cond, px_block, px_loop, px_scope, px_exit, px_ret, seqK_normal, seqK_exit, seqK_ret, condK_true, condK_false, opsK_some, wK_true, wK_false, itK_some, aops_nil, aops_cons, lK_some, aK_some, hK_some, dwK_true, dwK_false, diK_some, dK_light, dK_alloc, dK_heavy, adraw_nil, adraw_cons, aop, cls, light, lightS, binE, aeq, intBin, goInt, pl_int, pl_bool, pl_ptr, pl_slice, aload, isAggT, aeval, tput, awanted, List.range_succ, fin, aresults, aresult, List.replicate, heavy, acallOp, aenter, ble_d, beq_d, firstRegion, readNames, Nxt, isAnc, readsOk, objEq_some, isFl_sub, isFl_mul, isFl_quo, isFl_rem, isFl_and, isFl_or, isFl_xor, isFl_andNot, isFl_shl, isFl_shr, isFl_eql, isFl_neq, isFl_lss, isFl_leq, isFl_gtr, isFl_geq, nanCmp_quo, nanCmp_mul, nanCmp_sub, fl_2, fl_3, fl_34, fl_37, fl_101, cond_true, cond_false, en28, ea, eb, undef]
theorem addD_run {h : Heap} {a b : Nat} (ha : a < 18446744073709551616) (hb : b < 18446744073709551616) : ∃ h', run Try.prog sO 35 [U a, U b] h = some (U (addD a b), h') ∧ Keep No h h' := by
  by_cases hs : isN a = true ∨ isN b = true ∨ Mg a = 9218868437227405312 ∨ Mg b = 9218868437227405312
  · exact ⟨h, addD_special ha hb hs, Keep.refl _ _⟩
  · have na : ¬ isN a = true := fun x => hs (.inl x)
    have nb : ¬ isN b = true := fun x => hs (.inr (.inl x))
    have fa : Mg a < 9218868437227405312 := by
      have h1 : ¬ Mg a = 9218868437227405312 := fun x => hs (.inr (.inr (.inl x)))
      have h2 : ¬ 9218868437227405312 < Mg a := fun x => na (by unfold isN; exact decide_eq_true x)
      omega
    have fb : Mg b < 9218868437227405312 := by
      have h1 : ¬ Mg b = 9218868437227405312 := fun x => hs (.inr (.inr (.inr x)))
      have h2 : ¬ 9218868437227405312 < Mg b := fun x => nb (by unfold isN; exact decide_eq_true x)
      omega
    have hD : addD a b = addS a b := by unfold addD addS; rw [add_signed ha hb fa fb]; rfl
    rw [hD]
    cases sa : Sg a <;> cases sb : Sg b
    · exact adds00 ha hb fa fb sa sb
    · exact adds01 ha hb fa fb sa sb
    · exact adds10 ha hb fa fb sa sb
    · exact adds11 ha hb fa fb sa sb
theorem addD_lt {a b : Nat} (ha : a < 18446744073709551616) (hb : b < 18446744073709551616) : addD a b < 18446744073709551616 := by
  have hr : ∀ N e, rung N e ≤ 9218868437227405312 := fun N e => (near_rung' N e).1
  have hw : ∀ s r, r ≤ 9218868437227405312 → wd s r < 18446744073709551616 := fun s r h => by unfold wd; split <;> omega
  by_cases n : isN a = true ∨ isN b = true
  · unfold addD; rw [add_nan ha hb n]; simp only [Option.getD_none]; omega
  · have na : ¬ isN a = true := fun x => n (.inl x)
    have nb : ¬ isN b = true := fun x => n (.inr x)
    have la : Mg a ≤ 9218868437227405312 := Nat.le_of_not_lt fun x => na (by unfold isN; exact decide_eq_true x)
    have lb : Mg b ≤ 9218868437227405312 := Nat.le_of_not_lt fun x => nb (by unfold isN; exact decide_eq_true x)
    by_cases ia : Mg a = 9218868437227405312
    · by_cases ib : Mg b = 9218868437227405312
      · unfold addD; rw [add_infinf ha hb ia ib]; split
        · exact ha
        · simp only [Option.getD_none]; omega
      · unfold addD; rw [(add_infl ha hb ia (by omega)).1]; exact ha
    · by_cases ib : Mg b = 9218868437227405312
      · unfold addD; rw [(add_infl hb ha ib (by omega)).2]; exact hb
      · unfold addD; rw [add_signed ha hb (by omega) (by omega)]; exact hw _ _ (hr _ _)
end Go.Proofs.Ytmnkmdfladbgdaa.Od
