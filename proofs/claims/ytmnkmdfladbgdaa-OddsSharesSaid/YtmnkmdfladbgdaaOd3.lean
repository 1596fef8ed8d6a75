/- Odds: functions without memory. -/
import Derived.Test.YtmnkmdfladbgdaaOd2
set_option linter.unusedVariables false
set_option linter.unusedSimpArgs false
namespace Go.Proofs.Ytmnkmdfladbgdaa.Od
open Go Go.Proofs Go.RowKit Go.Proofs.YtmnkmdfladbgdaaAI Go.Proofs.YtmnkmdfladbgdaaFl

abbrev U (n : Nat) : Value := .int .u64 n
abbrev Fl (n : Nat) : Value := .float .f64 n
theorem u64_add {a b : Nat} (h : a + b < 18446744073709551616) : IntKind.u64.wrap ((a : Int) + b) = ((a + b : Nat) : Int) := by
  have : IntKind.u64.wrap ((a : Int) + b) = ((a : Int) + b) % 18446744073709551616 := rfl
  rw [this]; omega
theorem u64_sub {a b : Nat} (h : b ≤ a) (h2 : a < 18446744073709551616) : IntKind.u64.wrap ((a : Int) - b) = ((a - b : Nat) : Int) := by
  have : IntKind.u64.wrap ((a : Int) - b) = ((a : Int) - b) % 18446744073709551616 := rfl
  rw [this]; omega
theorem en28 : enters Try.prog 28 = true := by kernel_rfl
theorem en55 : enters Try.prog 55 = true := by kernel_rfl
theorem en58 : enters Try.prog 58 = true := by kernel_rfl
theorem en22 : enters Try.prog 22 = true := by kernel_rfl
theorem en54 : enters Try.prog 54 = true := by kernel_rfl
theorem en51 : enters Try.prog 51 = true := by kernel_rfl
theorem en29 : enters Try.prog 29 = true := by kernel_rfl
theorem en31 : enters Try.prog 31 = true := by kernel_rfl
theorem en33 : enters Try.prog 33 = true := by kernel_rfl
theorem en9 : enters Try.prog 9 = true := by kernel_rfl

theorem tm63 (b : Nat) : ((b : Int)).tmod 9223372036854775808 = ((b % 9223372036854775808 : Nat) : Int) := rfl
theorem size_run (s : Scr) (b : Nat) (h : Heap) : run Try.prog s 55 [U b] h = some (U (b % 9223372036854775808), h) := by
  refine run_fin Try.func55 rfl ?_
  simp [Try.f55, ax_skip, ax_label, ax_region, ax_draw, ax_seq, ax_cond, ax_block, ax_loop, ax_scope, ax_exit, ax_ret, aops, aop, cls, light, lightS, binE, aeq, intBin, goInt, pl_int, pl_bool, pl_ptr, pl_slice, aload, isAggT, aeval, tput, awanted, List.range_succ, fin, aresults, aresult, List.replicate, heavy, acallOp, aenter, ble_d, beq_d, firstRegion, adraw, readNames, Nxt, isAnc, readsOk, objEq_some, plain, plainN, tm63]
theorem isnan_run (s : Scr) (b : Nat) (h : Heap) : run Try.prog s 28 [U b] h = some (.bool (isN b), h) := by
  refine run_fin Try.func28 rfl ?_
  simp [Try.f28, ax_skip, ax_label, ax_region, ax_draw, ax_seq, ax_cond, ax_block, ax_loop, ax_scope, ax_exit, ax_ret, aops, aop, cls, light, lightS, binE, aeq, intBin, goInt, pl_int, pl_bool, pl_ptr, pl_slice, aload, isAggT, aeval, tput, awanted, List.range_succ, fin, aresults, aresult, List.replicate, heavy, acallOp, aenter, ble_d, beq_d, firstRegion, adraw, readNames, Nxt, isAnc, readsOk, objEq_some, plain, plainN, en55, size_run, isN]
  omega

def oneB (b : Nat) : Nat := if isN b then 9221120237041090561 else b
theorem oneB_lt {b : Nat} (h : b < 18446744073709551616) : oneB b < 18446744073709551616 := by unfold oneB; split <;> omega
theorem one_run (s : Scr) (b : Nat) (h : Heap) : run Try.prog s 59 [U b] h = some (U (oneB b), h) := by
  refine run_fin Try.func59 rfl ?_
  cases hn : isN b
  · simp [Try.f59, ax_skip, ax_label, ax_region, ax_draw, ax_seq, ax_cond, ax_block, ax_loop, ax_scope, ax_exit, ax_ret, aops, aop, cls, light, lightS, binE, aeq, intBin, goInt, pl_int, pl_bool, pl_ptr, pl_slice, aload, isAggT, aeval, tput, awanted, List.range_succ, fin, aresults, aresult, List.replicate, heavy, acallOp, aenter, ble_d, beq_d, firstRegion, adraw, readNames, Nxt, isAnc, readsOk, objEq_some, plain, plainN, en28, isnan_run, hn, oneB]
  · simp [Try.f59, ax_skip, ax_label, ax_region, ax_draw, ax_seq, ax_cond, ax_block, ax_loop, ax_scope, ax_exit, ax_ret, aops, aop, cls, light, lightS, binE, aeq, intBin, goInt, pl_int, pl_bool, pl_ptr, pl_slice, aload, isAggT, aeval, tput, awanted, List.range_succ, fin, aresults, aresult, List.replicate, heavy, acallOp, aenter, ble_d, beq_d, firstRegion, adraw, readNames, Nxt, isAnc, readsOk, objEq_some, plain, plainN, en28, isnan_run, hn, oneB]
theorem key_run (s : Scr) (b : Nat) (hb : b < 18446744073709551616) (h : Heap) : run Try.prog s 58 [U b] h = some (U (key b), h) := by
  refine run_fin Try.func58 rfl ?_
  cases hn : isN b
  · have h1 : ¬ 9218868437227405312 < b % 9223372036854775808 := by simpa [isN] using hn
    by_cases h2 : 9223372036854775808 ≤ b
    · have h3 : (9223372036854775808 : Int) ≤ (b : Int) := by omega
      have h5 : IntKind.u64.wrap (9218868437227405312 - ((b : Int) % 9223372036854775808)) = ((9218868437227405312 - b % 9223372036854775808 : Nat) : Int) := by
        have := @u64_sub 9218868437227405312 (b % 9223372036854775808) (by omega) (by omega)
        exact this
      have h6 : IntKind.u64.wrap (((9218868437227405312 - b % 9223372036854775808 : Nat) : Int) + 1) = ((9218868437227405312 - b % 9223372036854775808 + 1 : Nat) : Int) := @u64_add (9218868437227405312 - b % 9223372036854775808) 1 (by omega)
      simp [Try.f58, ax_skip, ax_label, ax_region, ax_draw, ax_seq, ax_cond, ax_block, ax_loop, ax_scope, ax_exit, ax_ret, aops, aop, cls, light, lightS, binE, aeq, intBin, goInt, pl_int, pl_bool, pl_ptr, pl_slice, aload, isAggT, aeval, tput, awanted, List.range_succ, fin, aresults, aresult, List.replicate, heavy, acallOp, aenter, ble_d, beq_d, firstRegion, adraw, readNames, Nxt, isAnc, readsOk, objEq_some, plain, plainN, en28, en55, isnan_run, size_run, hn, h3, h5, h6]
      simp [key, h1, h2]
    · have h3 : ¬ (9223372036854775808 : Int) ≤ (b : Int) := by omega
      have h5 : IntKind.u64.wrap (9218868437227405312 + (b : Int)) = ((9218868437227405312 + b : Nat) : Int) := @u64_add 9218868437227405312 b (by omega)
      have h6 : IntKind.u64.wrap (9218868437227405312 + (b : Int) + 2) = 9218868437227405312 + (b : Int) + 2 := by have := @u64_add (9218868437227405312 + b) 2 (by omega); simpa using this
      simp [Try.f58, ax_skip, ax_label, ax_region, ax_draw, ax_seq, ax_cond, ax_block, ax_loop, ax_scope, ax_exit, ax_ret, aops, aop, cls, light, lightS, binE, aeq, intBin, goInt, pl_int, pl_bool, pl_ptr, pl_slice, aload, isAggT, aeval, tput, awanted, List.range_succ, fin, aresults, aresult, List.replicate, heavy, acallOp, aenter, ble_d, beq_d, firstRegion, adraw, readNames, Nxt, isAnc, readsOk, objEq_some, plain, plainN, en28, en55, isnan_run, size_run, hn, h3, h5, h6]
      simp [key, h1, h2]
  · have h1 : 9218868437227405312 < b % 9223372036854775808 := by simpa [isN] using hn
    simp [Try.f58, ax_skip, ax_label, ax_region, ax_draw, ax_seq, ax_cond, ax_block, ax_loop, ax_scope, ax_exit, ax_ret, aops, aop, cls, light, lightS, binE, aeq, intBin, goInt, pl_int, pl_bool, pl_ptr, pl_slice, aload, isAggT, aeval, tput, awanted, List.range_succ, fin, aresults, aresult, List.replicate, heavy, acallOp, aenter, ble_d, beq_d, firstRegion, adraw, readNames, Nxt, isAnc, readsOk, objEq_some, plain, plainN, en28, isnan_run, hn]
    simp [key, h1]
theorem rcmp_run (s : Scr) (a b : Nat) (ha : a < 18446744073709551616) (hb : b < 18446744073709551616) (h : Heap) : run Try.prog s 54 [U a, U b] h = some (.int .i64 (cmpK a b), h) := by
  refine run_fin Try.func54 rfl ?_
  by_cases h1 : key a < key b
  · simp [Try.f54, ax_skip, ax_label, ax_region, ax_draw, ax_seq, ax_cond, ax_block, ax_loop, ax_scope, ax_exit, ax_ret, aops, aop, cls, light, lightS, binE, aeq, intBin, goInt, pl_int, pl_bool, pl_ptr, pl_slice, aload, isAggT, aeval, tput, awanted, List.range_succ, fin, aresults, aresult, List.replicate, heavy, acallOp, aenter, ble_d, beq_d, firstRegion, adraw, readNames, Nxt, isAnc, readsOk, objEq_some, plain, plainN, en58, key_run s a ha, key_run s b hb, h1, cmpK]
  · by_cases h2 : key b < key a
    · simp [Try.f54, ax_skip, ax_label, ax_region, ax_draw, ax_seq, ax_cond, ax_block, ax_loop, ax_scope, ax_exit, ax_ret, aops, aop, cls, light, lightS, binE, aeq, intBin, goInt, pl_int, pl_bool, pl_ptr, pl_slice, aload, isAggT, aeval, tput, awanted, List.range_succ, fin, aresults, aresult, List.replicate, heavy, acallOp, aenter, ble_d, beq_d, firstRegion, adraw, readNames, Nxt, isAnc, readsOk, objEq_some, plain, plainN, en58, key_run s a ha, key_run s b hb, h1, h2, cmpK]
    · simp [Try.f54, ax_skip, ax_label, ax_region, ax_draw, ax_seq, ax_cond, ax_block, ax_loop, ax_scope, ax_exit, ax_ret, aops, aop, cls, light, lightS, binE, aeq, intBin, goInt, pl_int, pl_bool, pl_ptr, pl_slice, aload, isAggT, aeval, tput, awanted, List.range_succ, fin, aresults, aresult, List.replicate, heavy, acallOp, aenter, ble_d, beq_d, firstRegion, adraw, readNames, Nxt, isAnc, readsOk, objEq_some, plain, plainN, en58, key_run s a ha, key_run s b hb, h1, h2, cmpK]
def worthB (b : Nat) : Nat := if 9218868437227405314 < key b then b else 0
theorem worthB_lt {b : Nat} (h : b < 18446744073709551616) : worthB b < 18446744073709551616 := by unfold worthB; split <;> omega
theorem rworth_run (s : Scr) (b : Nat) (hb : b < 18446744073709551616) (h : Heap) : run Try.prog s 33 [U b] h = some (U (worthB b), h) := by
  refine run_fin Try.func33 rfl ?_
  by_cases h1 : 9218868437227405314 < key b
  · have h3 : (9218868437227405314 : Int) < (key b : Int) := by omega
    simp [Try.f33, ax_skip, ax_label, ax_region, ax_draw, ax_seq, ax_cond, ax_block, ax_loop, ax_scope, ax_exit, ax_ret, aops, aop, cls, light, lightS, binE, aeq, intBin, goInt, pl_int, pl_bool, pl_ptr, pl_slice, aload, isAggT, aeval, tput, awanted, List.range_succ, fin, aresults, aresult, List.replicate, heavy, acallOp, aenter, ble_d, beq_d, firstRegion, adraw, readNames, Nxt, isAnc, readsOk, objEq_some, plain, plainN, en58, key_run s b hb, h3, h1, worthB]
  · have h3 : ¬ (9218868437227405314 : Int) < (key b : Int) := by omega
    simp [Try.f33, ax_skip, ax_label, ax_region, ax_draw, ax_seq, ax_cond, ax_block, ax_loop, ax_scope, ax_exit, ax_ret, aops, aop, cls, light, lightS, binE, aeq, intBin, goInt, pl_int, pl_bool, pl_ptr, pl_slice, aload, isAggT, aeval, tput, awanted, List.range_succ, fin, aresults, aresult, List.replicate, heavy, acallOp, aenter, ble_d, beq_d, firstRegion, adraw, readNames, Nxt, isAnc, readsOk, objEq_some, plain, plainN, en58, key_run s b hb, h3, h1, worthB]
theorem worth_run (s : Scr) (b : Nat) (hb : b < 18446744073709551616) (h : Heap) : run Try.prog s 31 [Fl b] h = some (Fl (worthB b), h) := by
  refine run_fin Try.func31 rfl ?_
  have e : (Ieee.double.order b 0 == some .gt) = decide (9218868437227405314 < key b) := by
    rw [fgt b 0 hb (by omega)]
    have h0 : isN 0 = false := rfl
    have hs : sv 0 = 0 := rfl
    rw [h0, hs]
    by_cases h1 : 9218868437227405312 < b % 9223372036854775808
    · simp [isN, key, h1]
    · by_cases h2 : 9223372036854775808 ≤ b
      · have h3 : ¬ (0 : Int) < sv b := by unfold sv; rw [if_pos h2]; omega
        have h4 : ¬ 9218868437227405314 < key b := by unfold key; rw [if_neg h1, if_pos h2]; omega
        rw [decide_eq_false h3, decide_eq_false h4, Bool.and_false]
      · have h3 : (0 : Int) < sv b ↔ 9218868437227405314 < key b := by unfold sv key; rw [if_neg h2, if_neg h1, if_neg h2]; omega
        simp only [isN, h1, h3, decide_false, Bool.not_false, Bool.true_and]
  have p0 : plain (Fl 0) = true := rfl
  have pb : plain (Fl b) = true := plf hb
  by_cases h1 : 9218868437227405314 < key b
  · simp [Try.f31, ax_skip, ax_label, ax_region, ax_draw, ax_seq, ax_cond, ax_block, ax_loop, ax_scope, ax_exit, ax_ret, aops, aop, cls, light, lightS, binE, aeq, intBin, goInt, pl_int, pl_bool, pl_ptr, pl_slice, aload, isAggT, aeval, tput, awanted, List.range_succ, fin, aresults, aresult, List.replicate, heavy, acallOp, aenter, ble_d, beq_d, firstRegion, adraw, readNames, Nxt, isAnc, readsOk, objEq_some, p0, fgtr _ _ _ b 0 _ _ hb (by omega), e, h1, worthB]
  · simp [Try.f31, ax_skip, ax_label, ax_region, ax_draw, ax_seq, ax_cond, ax_block, ax_loop, ax_scope, ax_exit, ax_ret, aops, aop, cls, light, lightS, binE, aeq, intBin, goInt, pl_int, pl_bool, pl_ptr, pl_slice, aload, isAggT, aeval, tput, awanted, List.range_succ, fin, aresults, aresult, List.replicate, heavy, acallOp, aenter, ble_d, beq_d, firstRegion, adraw, readNames, Nxt, isAnc, readsOk, objEq_some, p0, fgtr _ _ _ b 0 _ _ hb (by omega), e, h1, worthB]
theorem fbnan (t : Tm) (d ty pos af gu) : purerule Try.prog (aeval t) ⟨d, .call ⟨.value (.func 23), #[.const (.int .u64 9221120237041090561)], #[37]⟩, ty, pos, af, gu⟩ = some (Fl 9221120237041090561) := fb23 t _ 9221120237041090561 (by rfl) (by omega) _ _ _ _ _
theorem nan_run (s : Scr) (h : Heap) : run Try.prog s 29 [] h = some (Fl 9221120237041090561, h) := by
  refine run_fin Try.func29 rfl ?_
  have p0 : plain (Fl 0) = true := rfl
  simp [Try.f29, ax_skip, ax_label, ax_region, ax_draw, ax_seq, ax_cond, ax_block, ax_loop, ax_scope, ax_exit, ax_ret, aops, aop, cls, light, lightS, binE, aeq, intBin, goInt, pl_int, pl_bool, pl_ptr, pl_slice, aload, isAggT, aeval, tput, awanted, List.range_succ, fin, aresults, aresult, List.replicate, heavy, acallOp, aenter, ble_d, beq_d, firstRegion, adraw, readNames, Nxt, isAnc, readsOk, objEq_some, pli, en23, p0, fbnan]
theorem signbit_run (s : Scr) (b : Nat) (hb : b < 18446744073709551616) (h : Heap) : run Try.prog s 22 [Fl b] h = some (.bool (decide (9223372036854775808 ≤ b)), h) := by
  refine run_fin Try.func22 rfl ?_
  have e : IntKind.i64.wrap (b : Int) < 0 ↔ 9223372036854775808 ≤ b := by
    simp only [IntKind.wrap, IntKind.bits, IntKind.signed]
    simp only [Bool.true_and, decide_eq_true_eq, ge_iff_le]
    split <;> omega
  generalize hk : (9223372036854775808 : Nat) = K at *
  simp [Try.f22, ax_skip, ax_label, ax_region, ax_draw, ax_seq, ax_cond, ax_block, ax_loop, ax_scope, ax_exit, ax_ret, aops, aop, cls, light, lightS, binE, aeq, intBin, goInt, pl_int, pl_bool, pl_ptr, pl_slice, aload, isAggT, aeval, tput, awanted, List.range_succ, fin, aresults, aresult, List.replicate, heavy, acallOp, aenter, ble_d, beq_d, firstRegion, adraw, readNames, Nxt, isAnc, readsOk, objEq_some, pli, en18, fb18 _ _ b, cv37 _ _ b, hb, e]
theorem cmp_run (s : Scr) (a b : Nat) (ha : a < 18446744073709551616) (hb : b < 18446744073709551616) (h : Heap) : run Try.prog s 51 [Fl a, Fl b] h = some (.int .i64 (cmpK a b), h) := by
  rw [← cmpP_eq a b ha hb]
  refine run_fin Try.func51 rfl ?_
  have nl := fneq_self a ha
  have nr := fneq_self b hb
  have lt := flt a b ha hb
  have gt := fgt a b ha hb
  have q1 := fneq (x := .tmp 8) (y := .tmp 9)
  cases h1 : isN a <;> cases h2 : isN b <;> simp only [h1, h2, Bool.not_true, Bool.not_false, Bool.and_true, Bool.true_and, Bool.and_false, Bool.false_and] at nl nr lt gt
  · by_cases h3 : sv a < sv b
    · simp [Try.f51, ax_skip, ax_label, ax_region, ax_draw, ax_seq, ax_cond, ax_block, ax_loop, ax_scope, ax_exit, ax_ret, aops, aop, cls, light, lightS, binE, aeq, intBin, goInt, pl_int, pl_bool, pl_ptr, pl_slice, aload, isAggT, aeval, tput, awanted, List.range_succ, fin, aresults, aresult, List.replicate, heavy, acallOp, aenter, ble_d, beq_d, firstRegion, adraw, readNames, Nxt, isAnc, readsOk, objEq_some, fneq _ _ _ a a _ _ ha ha, fneq _ _ _ b b _ _ hb hb, flss _ _ _ a b _ _ ha hb, nl, nr, lt, h3, cmpP, h1, h2]
    · by_cases h4 : sv b < sv a
      · simp [Try.f51, ax_skip, ax_label, ax_region, ax_draw, ax_seq, ax_cond, ax_block, ax_loop, ax_scope, ax_exit, ax_ret, aops, aop, cls, light, lightS, binE, aeq, intBin, goInt, pl_int, pl_bool, pl_ptr, pl_slice, aload, isAggT, aeval, tput, awanted, List.range_succ, fin, aresults, aresult, List.replicate, heavy, acallOp, aenter, ble_d, beq_d, firstRegion, adraw, readNames, Nxt, isAnc, readsOk, objEq_some, fneq _ _ _ a a _ _ ha ha, fneq _ _ _ b b _ _ hb hb, flss _ _ _ a b _ _ ha hb, fgtr _ _ _ a b _ _ ha hb, nl, nr, lt, gt, h3, h4, cmpP, h1, h2]
      · by_cases h5 : 9223372036854775808 ≤ a <;> by_cases h6 : 9223372036854775808 ≤ b
        all_goals simp [Try.f51, ax_skip, ax_label, ax_region, ax_draw, ax_seq, ax_cond, ax_block, ax_loop, ax_scope, ax_exit, ax_ret, aops, aop, cls, light, lightS, binE, aeq, intBin, goInt, pl_int, pl_bool, pl_ptr, pl_slice, aload, isAggT, aeval, tput, awanted, List.range_succ, fin, aresults, aresult, List.replicate, heavy, acallOp, aenter, ble_d, beq_d, firstRegion, adraw, readNames, Nxt, isAnc, readsOk, objEq_some, fneq _ _ _ a a _ _ ha ha, fneq _ _ _ b b _ _ hb hb, flss _ _ _ a b _ _ ha hb, fgtr _ _ _ a b _ _ ha hb, nl, nr, lt, gt, h3, h4, cmpP, h1, h2, en22, signbit_run s a ha, signbit_run s b hb, h5, h6, eql4]
  · simp [Try.f51, ax_skip, ax_label, ax_region, ax_draw, ax_seq, ax_cond, ax_block, ax_loop, ax_scope, ax_exit, ax_ret, aops, aop, cls, light, lightS, binE, aeq, intBin, goInt, pl_int, pl_bool, pl_ptr, pl_slice, aload, isAggT, aeval, tput, awanted, List.range_succ, fin, aresults, aresult, List.replicate, heavy, acallOp, aenter, ble_d, beq_d, firstRegion, adraw, readNames, Nxt, isAnc, readsOk, objEq_some, fneq _ _ _ a a _ _ ha ha, fneq _ _ _ b b _ _ hb hb, nl, nr, cmpP, h1, h2]
  · simp [Try.f51, ax_skip, ax_label, ax_region, ax_draw, ax_seq, ax_cond, ax_block, ax_loop, ax_scope, ax_exit, ax_ret, aops, aop, cls, light, lightS, binE, aeq, intBin, goInt, pl_int, pl_bool, pl_ptr, pl_slice, aload, isAggT, aeval, tput, awanted, List.range_succ, fin, aresults, aresult, List.replicate, heavy, acallOp, aenter, ble_d, beq_d, firstRegion, adraw, readNames, Nxt, isAnc, readsOk, objEq_some, fneq _ _ _ a a _ _ ha ha, fneq _ _ _ b b _ _ hb hb, nl, nr, cmpP, h1, h2]
  · simp [Try.f51, ax_skip, ax_label, ax_region, ax_draw, ax_seq, ax_cond, ax_block, ax_loop, ax_scope, ax_exit, ax_ret, aops, aop, cls, light, lightS, binE, aeq, intBin, goInt, pl_int, pl_bool, pl_ptr, pl_slice, aload, isAggT, aeval, tput, awanted, List.range_succ, fin, aresults, aresult, List.replicate, heavy, acallOp, aenter, ble_d, beq_d, firstRegion, adraw, readNames, Nxt, isAnc, readsOk, objEq_some, fneq _ _ _ a a _ _ ha ha, fneq _ _ _ b b _ _ hb hb, nl, nr, cmpP, h1, h2]
end Go.Proofs.Ytmnkmdfladbgdaa.Od
