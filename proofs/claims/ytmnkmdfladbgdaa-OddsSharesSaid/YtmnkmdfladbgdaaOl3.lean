/- Odds: Trim. -/
import Derived.Test.YtmnkmdfladbgdaaOl2
set_option linter.unusedVariables false
set_option linter.unusedSimpArgs false
namespace Go.Proofs.Ytmnkmdfladbgdaa.Od
open Go Go.Proofs Go.RowKit Go.Proofs.YtmnkmdfladbgdaaAI Go.Proofs.YtmnkmdfladbgdaaFl

noncomputable def lb85 (i : Nat) : Code := (loopsOf (Try.f85.body.getD .skip)).getD i .skip
theorem trim_zero {l : List Nat} (h : W32 l) {j : Nat} (h1 : (lm (nv l)).length ≤ j) (h2 : j < l.length) : l.getD j 0 = 0 := by
  obtain ⟨e, hl⟩ := trim_form h
  rw [List.getD_eq_getElem?_getD, e, List.getElem?_append_right h1]
  simp only [List.getElem?_replicate]
  split <;> rfl
theorem trim_take {l : List Nat} (h : W32 l) {j : Nat} (h1 : j ≤ (lm (nv l)).length) : l.take j = (lm (nv l)).take j := by
  obtain ⟨e, hl⟩ := trim_form h
  conv => lhs; rw [e]
  rw [List.take_append_of_le_length h1]
theorem trim_top {l : List Nat} (h : W32 l) (h1 : 0 < (lm (nv l)).length) : l.getD ((lm (nv l)).length - 1) 0 ≠ 0 := by
  obtain ⟨e, hl⟩ := trim_form h
  have h2 : 0 < nv l := by
    rcases Nat.eq_zero_or_pos (nv l) with h3 | h3
    · rw [h3, lm_zero] at h1; simp at h1
    · exact h3
  have := (lm_last h2).2
  rw [List.getD_eq_getElem?_getD] at this ⊢
  have e2 := congrArg (fun (z : List Nat) => z[(lm (nv l)).length - 1]?) e
  rw [List.getElem?_append_left (by omega)] at e2
  rw [e2]; exact this
theorem useX1 {ks : List Nat} {F : Step} {t : Tm} {h : Heap} {rr : Option (AEx × Tm × Heap)} {f : Heap → Value → Option (AEx × Tm × Heap)} {p : Heap → Value → Prop} (hl : loopω ks F t h = rr) (H : ∃ h' x0, loopω ks F t h = f h' x0 ∧ p h' x0) : ∃ h' x0, rr = f h' x0 ∧ p h' x0 := hl ▸ H
theorem useX2 {ks : List Nat} {F : Step} {t : Tm} {h : Heap} {rr : Option (AEx × Tm × Heap)} {f : Heap → Value → Value → Option (AEx × Tm × Heap)} {p : Heap → Value → Value → Prop} (hl : loopω ks F t h = rr) (H : ∃ h' x0 x1, loopω ks F t h = f h' x0 x1 ∧ p h' x0 x1) : ∃ h' x0 x1, rr = f h' x0 x1 ∧ p h' x0 x1 := hl ▸ H
theorem useX3 {ks : List Nat} {F : Step} {t : Tm} {h : Heap} {rr : Option (AEx × Tm × Heap)} {f : Heap → Value → Value → Value → Option (AEx × Tm × Heap)} {p : Heap → Value → Value → Value → Prop} (hl : loopω ks F t h = rr) (H : ∃ h' x0 x1 x2, loopω ks F t h = f h' x0 x1 x2 ∧ p h' x0 x1 x2) : ∃ h' x0 x1 x2, rr = f h' x0 x1 x2 ∧ p h' x0 x1 x2 := hl ▸ H
theorem useX4 {ks : List Nat} {F : Step} {t : Tm} {h : Heap} {rr : Option (AEx × Tm × Heap)} {f : Heap → Value → Value → Value → Value → Option (AEx × Tm × Heap)} {p : Heap → Value → Value → Value → Value → Prop} (hl : loopω ks F t h = rr) (H : ∃ h' x0 x1 x2 x3, loopω ks F t h = f h' x0 x1 x2 x3 ∧ p h' x0 x1 x2 x3) : ∃ h' x0 x1 x2 x3, rr = f h' x0 x1 x2 x3 ∧ p h' x0 x1 x2 x3 := hl ▸ H
theorem useX5 {ks : List Nat} {F : Step} {t : Tm} {h : Heap} {rr : Option (AEx × Tm × Heap)} {f : Heap → Value → Value → Value → Value → Value → Option (AEx × Tm × Heap)} {p : Heap → Value → Value → Value → Value → Value → Prop} (hl : loopω ks F t h = rr) (H : ∃ h' x0 x1 x2 x3 x4, loopω ks F t h = f h' x0 x1 x2 x3 x4 ∧ p h' x0 x1 x2 x3 x4) : ∃ h' x0 x1 x2 x3 x4, rr = f h' x0 x1 x2 x3 x4 ∧ p h' x0 x1 x2 x3 x4 := hl ▸ H
theorem useX6 {ks : List Nat} {F : Step} {t : Tm} {h : Heap} {rr : Option (AEx × Tm × Heap)} {f : Heap → Value → Value → Value → Value → Value → Value → Option (AEx × Tm × Heap)} {p : Heap → Value → Value → Value → Value → Value → Value → Prop} (hl : loopω ks F t h = rr) (H : ∃ h' x0 x1 x2 x3 x4 x5, loopω ks F t h = f h' x0 x1 x2 x3 x4 x5 ∧ p h' x0 x1 x2 x3 x4 x5) : ∃ h' x0 x1 x2 x3 x4 x5, rr = f h' x0 x1 x2 x3 x4 x5 ∧ p h' x0 x1 x2 x3 x4 x5 := hl ▸ H
theorem useX7 {ks : List Nat} {F : Step} {t : Tm} {h : Heap} {rr : Option (AEx × Tm × Heap)} {f : Heap → Value → Value → Value → Value → Value → Value → Value → Option (AEx × Tm × Heap)} {p : Heap → Value → Value → Value → Value → Value → Value → Value → Prop} (hl : loopω ks F t h = rr) (H : ∃ h' x0 x1 x2 x3 x4 x5 x6, loopω ks F t h = f h' x0 x1 x2 x3 x4 x5 x6 ∧ p h' x0 x1 x2 x3 x4 x5 x6) : ∃ h' x0 x1 x2 x3 x4 x5 x6, rr = f h' x0 x1 x2 x3 x4 x5 x6 ∧ p h' x0 x1 x2 x3 x4 x5 x6 := hl ▸ H
theorem useX8 {ks : List Nat} {F : Step} {t : Tm} {h : Heap} {rr : Option (AEx × Tm × Heap)} {f : Heap → Value → Value → Value → Value → Value → Value → Value → Value → Option (AEx × Tm × Heap)} {p : Heap → Value → Value → Value → Value → Value → Value → Value → Value → Prop} (hl : loopω ks F t h = rr) (H : ∃ h' x0 x1 x2 x3 x4 x5 x6 x7, loopω ks F t h = f h' x0 x1 x2 x3 x4 x5 x6 x7 ∧ p h' x0 x1 x2 x3 x4 x5 x6 x7) : ∃ h' x0 x1 x2 x3 x4 x5 x6 x7, rr = f h' x0 x1 x2 x3 x4 x5 x6 x7 ∧ p h' x0 x1 x2 x3 x4 x5 x6 x7 := hl ▸ H
theorem useX9 {ks : List Nat} {F : Step} {t : Tm} {h : Heap} {rr : Option (AEx × Tm × Heap)} {f : Heap → Value → Value → Value → Value → Value → Value → Value → Value → Value → Option (AEx × Tm × Heap)} {p : Heap → Value → Value → Value → Value → Value → Value → Value → Value → Value → Prop} (hl : loopω ks F t h = rr) (H : ∃ h' x0 x1 x2 x3 x4 x5 x6 x7 x8, loopω ks F t h = f h' x0 x1 x2 x3 x4 x5 x6 x7 x8 ∧ p h' x0 x1 x2 x3 x4 x5 x6 x7 x8) : ∃ h' x0 x1 x2 x3 x4 x5 x6 x7 x8, rr = f h' x0 x1 x2 x3 x4 x5 x6 x7 x8 ∧ p h' x0 x1 x2 x3 x4 x5 x6 x7 x8 := hl ▸ H
theorem useX10 {ks : List Nat} {F : Step} {t : Tm} {h : Heap} {rr : Option (AEx × Tm × Heap)} {f : Heap → Value → Value → Value → Value → Value → Value → Value → Value → Value → Value → Option (AEx × Tm × Heap)} {p : Heap → Value → Value → Value → Value → Value → Value → Value → Value → Value → Value → Prop} (hl : loopω ks F t h = rr) (H : ∃ h' x0 x1 x2 x3 x4 x5 x6 x7 x8 x9, loopω ks F t h = f h' x0 x1 x2 x3 x4 x5 x6 x7 x8 x9 ∧ p h' x0 x1 x2 x3 x4 x5 x6 x7 x8 x9) : ∃ h' x0 x1 x2 x3 x4 x5 x6 x7 x8 x9, rr = f h' x0 x1 x2 x3 x4 x5 x6 x7 x8 x9 ∧ p h' x0 x1 x2 x3 x4 x5 x6 x7 x8 x9 := hl ▸ H
theorem useX11 {ks : List Nat} {F : Step} {t : Tm} {h : Heap} {rr : Option (AEx × Tm × Heap)} {f : Heap → Value → Value → Value → Value → Value → Value → Value → Value → Value → Value → Value → Option (AEx × Tm × Heap)} {p : Heap → Value → Value → Value → Value → Value → Value → Value → Value → Value → Value → Value → Prop} (hl : loopω ks F t h = rr) (H : ∃ h' x0 x1 x2 x3 x4 x5 x6 x7 x8 x9 x10, loopω ks F t h = f h' x0 x1 x2 x3 x4 x5 x6 x7 x8 x9 x10 ∧ p h' x0 x1 x2 x3 x4 x5 x6 x7 x8 x9 x10) : ∃ h' x0 x1 x2 x3 x4 x5 x6 x7 x8 x9 x10, rr = f h' x0 x1 x2 x3 x4 x5 x6 x7 x8 x9 x10 ∧ p h' x0 x1 x2 x3 x4 x5 x6 x7 x8 x9 x10 := hl ▸ H
theorem useX12 {ks : List Nat} {F : Step} {t : Tm} {h : Heap} {rr : Option (AEx × Tm × Heap)} {f : Heap → Value → Value → Value → Value → Value → Value → Value → Value → Value → Value → Value → Value → Option (AEx × Tm × Heap)} {p : Heap → Value → Value → Value → Value → Value → Value → Value → Value → Value → Value → Value → Value → Prop} (hl : loopω ks F t h = rr) (H : ∃ h' x0 x1 x2 x3 x4 x5 x6 x7 x8 x9 x10 x11, loopω ks F t h = f h' x0 x1 x2 x3 x4 x5 x6 x7 x8 x9 x10 x11 ∧ p h' x0 x1 x2 x3 x4 x5 x6 x7 x8 x9 x10 x11) : ∃ h' x0 x1 x2 x3 x4 x5 x6 x7 x8 x9 x10 x11, rr = f h' x0 x1 x2 x3 x4 x5 x6 x7 x8 x9 x10 x11 ∧ p h' x0 x1 x2 x3 x4 x5 x6 x7 x8 x9 x10 x11 := hl ▸ H
set_option maxRecDepth 20000 in
set_option maxHeartbeats 6400000 in
theorem trim1 {h0 : Heap} {va : Option Addr} {vc L : Nat} {l : List Nat} (hL : l.length = L) (hw : W32 l) (hk : L ≤ 1000) (hv : Sl h0 (.slice va L vc) 1 L (u3 l)) (F : Step) (hFF : F = aexecP Try.prog (sO 85) (run Try.prog sO) loopω pt85 (lb85 0)) (t : Tm)
    (ht : forget [1, 2, 4, 5, 6, 7, 8, 9, 10, 11, 12, 13, 14, 15, 16, 17, 18, 19, 20, 21, 22, 23, 24, 25, 26, 27, 28, 29, 30, 31, 32] t = [.slice va L vc, unk, unk, .int .i64 ((L - (0) : Nat) : Int), unk, unk, unk, unk, unk, unk, unk, unk, unk, unk, unk, unk, unk, unk, unk, unk, unk, unk, unk, unk, unk, unk, unk, unk, unk, unk, unk, unk, unk]) (hI0 : h0 = h0) :
    ∃ h' x8 x9 x10 x11 x12 x13 x14 x15 x16 x17, loopω [1, 2, 4, 5, 6, 7, 8, 9, 10, 11, 12, 13, 14, 15, 16, 17, 18, 19, 20, 21, 22, 23, 24, 25, 26, 27, 28, 29, 30, 31, 32] F t h0 = some (.exit 0, [.slice va L vc, unk, unk, .int .i64 ((L - (L - (lm (nv l)).length) : Nat) : Int), unk, unk, unk, unk, x8, x9, x10, x11, x12, x13, x14, x15, x16, x17, unk, unk, unk, unk, unk, unk, unk, unk, unk, unk, unk, unk, unk, unk, unk], h') ∧ h' = h0 := by
  subst hFF
  suffices hs : ∃ e t' h', loopω [1, 2, 4, 5, 6, 7, 8, 9, 10, 11, 12, 13, 14, 15, 16, 17, 18, 19, 20, 21, 22, 23, 24, 25, 26, 27, 28, 29, 30, 31, 32] (aexecP Try.prog (sO 85) (run Try.prog sO) loopω pt85 (lb85 0)) t h0 = some (e, t', h') ∧ (e = .exit 0 ∧ ∃ x8 x9 x10 x11 x12 x13 x14 x15 x16 x17, t' = [.slice va L vc, unk, unk, .int .i64 ((L - (L - (lm (nv l)).length) : Nat) : Int), unk, unk, unk, unk, x8, x9, x10, x11, x12, x13, x14, x15, x16, x17, unk, unk, unk, unk, unk, unk, unk, unk, unk, unk, unk, unk, unk, unk, unk] ∧ h' = h0) by
    obtain ⟨e, t', h', q1, rfl, x8, x9, x10, x11, x12, x13, x14, x15, x16, x17, rfl, q2⟩ := hs
    exact ⟨h', x8, x9, x10, x11, x12, x13, x14, x15, x16, x17, q1, q2⟩
  simp only [lb85, Try.f85, loopsOf, Option.getD_some, List.nil_append, List.append_nil, List.cons_append, List.getD_cons_zero, List.getD_cons_succ]
  refine loop_by (fun k t h' => ∃ (i : Nat), i + k = L - (lm (nv l)).length ∧ forget [1, 2, 4, 5, 6, 7, 8, 9, 10, 11, 12, 13, 14, 15, 16, 17, 18, 19, 20, 21, 22, 23, 24, 25, 26, 27, 28, 29, 30, 31, 32] t = [.slice va L vc, unk, unk, .int .i64 ((L - (i) : Nat) : Int), unk, unk, unk, unk, unk, unk, unk, unk, unk, unk, unk, unk, unk, unk, unk, unk, unk, unk, unk, unk, unk, unk, unk, unk, unk, unk, unk, unk, unk] ∧ h' = h0)
    (fun e t' h' => e = .exit 0 ∧ ∃ x8 x9 x10 x11 x12 x13 x14 x15 x16 x17, t' = [.slice va L vc, unk, unk, .int .i64 ((L - (L - (lm (nv l)).length) : Nat) : Int), unk, unk, unk, unk, x8, x9, x10, x11, x12, x13, x14, x15, x16, x17, unk, unk, unk, unk, unk, unk, unk, unk, unk, unk, unk, unk, unk, unk, unk] ∧ h' = h0) ?_ (L - (lm (nv l)).length) _ _ ⟨0, by omega, ht, hI0⟩
  rintro k t h' ⟨i, hi, ht, hI⟩
  rw [ht]
  rcases Nat.lt_or_ge i (L - (lm (nv l)).length) with h1 | h1
  · obtain ⟨q, hq⟩ : ∃ q, L - i = q + 1 := ⟨L - i - 1, by omega⟩
    have hq2 : L - (i + 1) = q := by omega
    have hz := trim_zero hw (j := q) (by omega) (by omega)
    subst hI
    obtain ⟨va, vc, C, ce, cs, gr, ro, eb, hg, hc⟩ := sl_u3 hv (show q < L by omega)
    simp only [Value.slice.injEq, true_and] at eb
    obtain ⟨rfl, rfl⟩ := eb
    rw [hz] at hc
    rw [hq]
    have w1 : IntKind.i64.wrap (q : Int) = (q : Int) := wi64 rfl (by omega)
    have q1 : (0 : Int) < (q : Int) + 1 := by omega
    have hqL : q < L := by omega
    simp (maxSteps := 2000000) -implicitDefEqProofs [px_skip, px_label, px_region, px_draw, qx_seq, qx_cond, px_block, px_loop, px_scope, px_exit, px_ret, seqK_normal, seqK_exit, seqK_ret, condK_true, condK_false, opsK_some, wK_true, wK_false, itK_some, aops_nil, aops_cons, lK_some, aK_some, hK_some, dwK_true, dwK_false, diK_some, dK_light, dK_alloc, dK_heavy, adraw_nil, adraw_cons, aop, cls, light, lightS, binE, aeq, intBin, goInt, pl_int, pl_bool, pl_ptr, pl_slice, aload, isAggT, aeval, tput, awanted, List.range_succ, fin, aresults, aresult, List.replicate, heavy, acallOp, aenter, ble_d, beq_d, firstRegion, readNames, Nxt, isAnc, readsOk, objEq_some, w1, q1, hqL, aindexAddr, sz101, Try.underlying40, hg, hc, undef]
    exact ⟨k - 1, by omega, i + 1, by omega, by simp (maxSteps := 2000000) only [forget, List.set_cons_succ, List.set_cons_zero, hq2]⟩
  · obtain rfl : i = L - (lm (nv l)).length := by omega
    have hle := (trim_form hw).2
    obtain ⟨n, hn⟩ : ∃ n, L - (L - (lm (nv l)).length) = n := ⟨_, rfl⟩
    have hn2 : (lm (nv l)).length = n := by omega
    rw [hn]
    subst hI
    rcases Nat.eq_zero_or_pos n with h0 | h0
    · subst h0
      simp (maxSteps := 2000000) -implicitDefEqProofs [px_skip, px_label, px_region, px_draw, qx_seq, qx_cond, px_block, px_loop, px_scope, px_exit, px_ret, seqK_normal, seqK_exit, seqK_ret, condK_true, condK_false, opsK_some, wK_true, wK_false, itK_some, aops_nil, aops_cons, lK_some, aK_some, hK_some, dwK_true, dwK_false, diK_some, dK_light, dK_alloc, dK_heavy, adraw_nil, adraw_cons, aop, cls, light, lightS, binE, aeq, intBin, goInt, pl_int, pl_bool, pl_ptr, pl_slice, aload, isAggT, aeval, tput, awanted, List.range_succ, fin, aresults, aresult, List.replicate, heavy, acallOp, aenter, ble_d, beq_d, firstRegion, readNames, Nxt, isAnc, readsOk, objEq_some, undef]
    · obtain ⟨q, rfl⟩ : ∃ q, n = q + 1 := ⟨n - 1, by omega⟩
      have ht0 := trim_top hw (by omega)
      rw [hn2, Nat.add_sub_cancel] at ht0
      obtain ⟨va, vc, C, ce, cs, gr, ro, eb, hg, hc⟩ := sl_u3 hv (show q < L by omega)
      simp only [Value.slice.injEq, true_and] at eb
      obtain ⟨rfl, rfl⟩ := eb
      have w1 : IntKind.i64.wrap (q : Int) = (q : Int) := wi64 rfl (by omega)
      have q1 : (0 : Int) < (q : Int) + 1 := by omega
      have hqL : q < L := by omega
      generalize l.getD q 0 = x at *
      simp (maxSteps := 2000000) -implicitDefEqProofs [px_skip, px_label, px_region, px_draw, qx_seq, qx_cond, px_block, px_loop, px_scope, px_exit, px_ret, seqK_normal, seqK_exit, seqK_ret, condK_true, condK_false, opsK_some, wK_true, wK_false, itK_some, aops_nil, aops_cons, lK_some, aK_some, hK_some, dwK_true, dwK_false, diK_some, dK_light, dK_alloc, dK_heavy, adraw_nil, adraw_cons, aop, cls, light, lightS, binE, aeq, intBin, goInt, pl_int, pl_bool, pl_ptr, pl_slice, aload, isAggT, aeval, tput, awanted, List.range_succ, fin, aresults, aresult, List.replicate, heavy, acallOp, aenter, ble_d, beq_d, firstRegion, readNames, Nxt, isAnc, readsOk, objEq_some, w1, q1, hqL, ibeq, ht0, aindexAddr, sz101, Try.underlying40, hg, hc, undef]
set_option maxRecDepth 20000 in
set_option maxHeartbeats 6400000 in
theorem trim2 {h0 : Heap} {va : Option Addr} {vc L n : Nat} {l : List Nat} (hL : l.length = L) (hw : W32 l) (hk : L ≤ 1000) (hn : n ≤ L) (hv : Sl h0 (.slice va L vc) 1 L (u3 l)) (v0 : Value) (F : Step) (hFF : F = aexecP Try.prog (sO 85) (run Try.prog sO) loopω pt85 (lb85 1)) (t : Tm)
    (ht : forget [1, 2, 6, 7, 8, 9, 10, 11, 12, 13, 14, 15, 16, 17, 18, 19, 20, 21, 22, 23, 24, 25, 26, 27, 28, 29, 30, 31, 32] t = [.slice va L vc, unk, unk, .int .i64 (n : Nat), v0, .int .i64 (0 : Nat), unk, unk, unk, unk, unk, unk, unk, unk, unk, unk, unk, unk, unk, unk, unk, unk, unk, unk, unk, unk, unk, unk, unk, unk, unk, unk, unk]) (hI0 : (Lg h0 v0 101 1 (0) (u3 (l.take (0))) ∧ Keep No h0 h0 ∧ ∀ m, nm v0 = some m → h0.next ≤ m)) :
    ∃ h' v x20 x21 x22, loopω [1, 2, 6, 7, 8, 9, 10, 11, 12, 13, 14, 15, 16, 17, 18, 19, 20, 21, 22, 23, 24, 25, 26, 27, 28, 29, 30, 31, 32] F t h0 = some (.exit 2, [.slice va L vc, unk, unk, .int .i64 (n : Nat), v, .int .i64 (n : Nat), unk, unk, unk, unk, unk, unk, unk, unk, unk, unk, unk, unk, unk, unk, x20, x21, x22, unk, unk, unk, unk, unk, unk, unk, unk, unk, unk], h') ∧ (Lg h' v 101 1 (n) (u3 (l.take (n))) ∧ Keep No h0 h' ∧ ∀ m, nm v = some m → h0.next ≤ m) := by
  subst hFF
  suffices hs : ∃ e t' h', loopω [1, 2, 6, 7, 8, 9, 10, 11, 12, 13, 14, 15, 16, 17, 18, 19, 20, 21, 22, 23, 24, 25, 26, 27, 28, 29, 30, 31, 32] (aexecP Try.prog (sO 85) (run Try.prog sO) loopω pt85 (lb85 1)) t h0 = some (e, t', h') ∧ (e = .exit 2 ∧ ∃ v x20 x21 x22, t' = [.slice va L vc, unk, unk, .int .i64 (n : Nat), v, .int .i64 (n : Nat), unk, unk, unk, unk, unk, unk, unk, unk, unk, unk, unk, unk, unk, unk, x20, x21, x22, unk, unk, unk, unk, unk, unk, unk, unk, unk, unk] ∧ (Lg h' v 101 1 (n) (u3 (l.take (n))) ∧ Keep No h0 h' ∧ ∀ m, nm v = some m → h0.next ≤ m)) by
    obtain ⟨e, t', h', q1, rfl, v, x20, x21, x22, rfl, q2⟩ := hs
    exact ⟨h', v, x20, x21, x22, q1, q2⟩
  simp only [lb85, Try.f85, loopsOf, Option.getD_some, List.nil_append, List.append_nil, List.cons_append, List.getD_cons_zero, List.getD_cons_succ]
  refine loop_by (fun k t h' => ∃ (i : Nat) (v : Value), i + k = n ∧ forget [1, 2, 6, 7, 8, 9, 10, 11, 12, 13, 14, 15, 16, 17, 18, 19, 20, 21, 22, 23, 24, 25, 26, 27, 28, 29, 30, 31, 32] t = [.slice va L vc, unk, unk, .int .i64 (n : Nat), v, .int .i64 (i : Nat), unk, unk, unk, unk, unk, unk, unk, unk, unk, unk, unk, unk, unk, unk, unk, unk, unk, unk, unk, unk, unk, unk, unk, unk, unk, unk, unk] ∧ (Lg h' v 101 1 (i) (u3 (l.take (i))) ∧ Keep No h0 h' ∧ ∀ m, nm v = some m → h0.next ≤ m))
    (fun e t' h' => e = .exit 2 ∧ ∃ v x20 x21 x22, t' = [.slice va L vc, unk, unk, .int .i64 (n : Nat), v, .int .i64 (n : Nat), unk, unk, unk, unk, unk, unk, unk, unk, unk, unk, unk, unk, unk, unk, x20, x21, x22, unk, unk, unk, unk, unk, unk, unk, unk, unk, unk] ∧ (Lg h' v 101 1 (n) (u3 (l.take (n))) ∧ Keep No h0 h' ∧ ∀ m, nm v = some m → h0.next ≤ m)) ?_ (n) _ _ ⟨0, _, by omega, ht, hI0⟩
  rintro k t h' ⟨i, v, hi, ht, hI⟩
  rw [ht]
  rcases Nat.lt_or_ge i (n) with h1 | h1
  · obtain ⟨lg, kp, nw⟩ := hI
    have hinc := @inc64 i (by omega)
    have hcs := cast_succ i
    have hvk := hv.keep kp fun _ _ x => x
    have hiL : i < L := by omega
    obtain ⟨va, vc, C, ce, cs, gr, ro, eb, hg, hc⟩ := sl_u3 hvk hiL
    simp only [Value.slice.injEq, true_and] at eb
    obtain ⟨rfl, rfl⟩ := eb
    have hlen : (l.take i).length = i := by rw [List.length_take]; omega
    have lg' : Lg h' v 101 1 (l.take i).length (u3 (l.take i)) := by rw [hlen]; exact lg
    obtain ⟨v8, h8, e8, lg8, kp8, nv8⟩ := app_u3 lg' (by omega) (l.getD i 0)
    have ht1 : l.take (i + 1) = l.take i ++ [l.getD i 0] := by
      rw [List.take_add_one, List.getElem?_eq_getElem (by omega)]; simp [List.getD_eq_getElem?_getD, List.getElem?_eq_getElem (show i < l.length by omega)]
    rw [← ht1] at lg8
    have hl2 : (l.take (i + 1)).length = i + 1 := by rw [List.length_take]; omega
    rw [hl2] at lg8
    have kk := kp.also kp8 fun m hm x => by have := nw m x; omega
    have nn : ∀ m, nm v8 = some m → h0.next ≤ m := fun m e => by
      rcases nv8 m e with y | y
      · exact nw m y
      · have := kp.1; omega
    generalize l.getD i 0 = x at *
    simp (maxSteps := 2000000) -implicitDefEqProofs [px_skip, px_label, px_region, px_draw, qx_seq, qx_cond, px_block, px_loop, px_scope, px_exit, px_ret, seqK_normal, seqK_exit, seqK_ret, condK_true, condK_false, opsK_some, wK_true, wK_false, itK_some, aops_nil, aops_cons, lK_some, aK_some, hK_some, dwK_true, dwK_false, diK_some, dK_light, dK_alloc, dK_heavy, adraw_nil, adraw_cons, aop, cls, light, lightS, binE, aeq, intBin, goInt, pl_int, pl_bool, pl_ptr, pl_slice, aload, isAggT, aeval, tput, awanted, List.range_succ, fin, aresults, aresult, List.replicate, heavy, acallOp, aenter, ble_d, beq_d, firstRegion, readNames, Nxt, isAnc, readsOk, objEq_some, h1, hiL, aindexAddr, sz101, Try.underlying40, hg, hc, (fun ρ y hy => bs40_1 ρ y (x : Int) hy), e8, hinc]
    exact ⟨k - 1, by omega, i + 1, by omega, v8, by simp (maxSteps := 2000000) only [forget, List.set_cons_succ, List.set_cons_zero, hcs], lg8, kk, nn⟩
  · obtain rfl : i = n := by omega
    simp (maxSteps := 2000000) -implicitDefEqProofs [px_skip, px_label, px_region, px_draw, qx_seq, qx_cond, px_block, px_loop, px_scope, px_exit, px_ret, seqK_normal, seqK_exit, seqK_ret, condK_true, condK_false, opsK_some, wK_true, wK_false, itK_some, aops_nil, aops_cons, lK_some, aK_some, hK_some, dwK_true, dwK_false, diK_some, dK_light, dK_alloc, dK_heavy, adraw_nil, adraw_cons, aop, cls, light, lightS, binE, aeq, intBin, goInt, pl_int, pl_bool, pl_ptr, pl_slice, aload, isAggT, aeval, tput, awanted, List.range_succ, fin, aresults, aresult, List.replicate, heavy, acallOp, aenter, ble_d, beq_d, firstRegion, readNames, Nxt, isAnc, readsOk, objEq_some]
    exact hI
theorem trim_run {h : Heap} {v : Value} {l : List Nat} (hn : Na h v l) : ∃ v' h', run Try.prog sO 85 [v] h = some (v', h') ∧ Nt h h' v' (nv l) ∧ (lm (nv l)).length ≤ l.length := by
  obtain ⟨hv, hw, hk⟩ := hn
  obtain ⟨a, c, rfl⟩ := sl_form hv
  have hle := (trim_form hw).2
  suffices hx : ∃ y, fin Try.prog Try.f85 (aexecP Try.prog (sO 85) (run Try.prog sO) loopω pt85 (Try.f85.body.getD .skip) ([.slice a l.length c] ++ List.replicate (Try.f85.ntmps - 1) undef) h) = some y ∧ Nt h y.2 y.1 (nv l) by
    obtain ⟨⟨y1, y2⟩, hy, q⟩ := hx
    exact ⟨y1, y2, run_finP pt85 Try.func85 rfl planned85 hy, q, hle⟩
  simp (maxSteps := 2000000) -implicitDefEqProofs [Try.f85, px_skip, px_label, px_region, px_draw, qx_seq, qx_cond, px_block, px_loop, px_scope, px_exit, px_ret, seqK_normal, seqK_exit, seqK_ret, condK_true, condK_false, opsK_some, wK_true, wK_false, itK_some, aops_nil, aops_cons, lK_some, aK_some, hK_some, dwK_true, dwK_false, diK_some, dK_light, dK_alloc, dK_heavy, adraw_nil, adraw_cons, aop, cls, light, lightS, binE, aeq, intBin, goInt, pl_int, pl_bool, pl_ptr, pl_slice, aload, isAggT, aeval, tput, awanted, List.range_succ, fin, aresults, aresult, List.replicate, heavy, acallOp, aenter, ble_d, beq_d, firstRegion, readNames, Nxt, isAnc, readsOk, objEq_some, Try.underlying40, sO85_2]
  generalize hl : loopω _ _ _ _ = r
  obtain ⟨hA, x8, x9, x10, x11, x12, x13, x14, x15, x16, x17, hx, hh⟩ := useX10 hl (trim1 (h0 := h) (va := a) (vc := c) (L := l.length) (l := l) rfl hw hk hv _ (by kernel_rfl) _ (by kernel_rfl) rfl)
  subst hx
  subst hh
  clear hl
  have hnn : l.length - (l.length - (lm (nv l)).length) = (lm (nv l)).length := by omega
  rw [hnn]
  simp (maxSteps := 2000000) -implicitDefEqProofs [px_skip, px_label, px_region, px_draw, qx_seq, qx_cond, px_block, px_loop, px_scope, px_exit, px_ret, seqK_normal, seqK_exit, seqK_ret, condK_true, condK_false, opsK_some, wK_true, wK_false, itK_some, aops_nil, aops_cons, lK_some, aK_some, hK_some, dwK_true, dwK_false, diK_some, dK_light, dK_alloc, dK_heavy, adraw_nil, adraw_cons, aop, cls, light, lightS, binE, aeq, intBin, goInt, pl_int, pl_bool, pl_ptr, pl_slice, aload, isAggT, aeval, tput, awanted, List.range_succ, fin, aresults, aresult, List.replicate, heavy, acallOp, aenter, ble_d, beq_d, firstRegion, readNames, Nxt, isAnc, readsOk, objEq_some, sO85_6]
  generalize hl : loopω _ _ _ _ = r
  obtain ⟨hB, v4, x20, x21, x22, hx, lg, kp, nw⟩ := useX4 hl (trim2 (h0 := hA) (va := a) (vc := c) (L := l.length) (n := (lm (nv l)).length) (l := l) rfl hw hk hle hv _ _ (by kernel_rfl) _ (by kernel_rfl) ⟨Lg.nil _ _ _, Keep.refl _ _, fun m e => by cases e⟩)
  subst hx
  simp (maxSteps := 2000000) -implicitDefEqProofs [px_skip, px_label, px_region, px_draw, qx_seq, qx_cond, px_block, px_loop, px_scope, px_exit, px_ret, seqK_normal, seqK_exit, seqK_ret, condK_true, condK_false, opsK_some, wK_true, wK_false, itK_some, aops_nil, aops_cons, lK_some, aK_some, hK_some, dwK_true, dwK_false, diK_some, dK_light, dK_alloc, dK_heavy, adraw_nil, adraw_cons, aop, cls, light, lightS, binE, aeq, intBin, goInt, pl_int, pl_bool, pl_ptr, pl_slice, aload, isAggT, aeval, tput, awanted, List.range_succ, fin, aresults, aresult, List.replicate, heavy, acallOp, aenter, ble_d, beq_d, firstRegion, readNames, Nxt, isAnc, readsOk, objEq_some]
  refine ⟨_, _, ⟨rfl, rfl⟩, ?_, kp, nw⟩
  rw [trim_take hw (Nat.le_refl _), List.take_length] at lg
  exact lg
end Go.Proofs.Ytmnkmdfladbgdaa.Od
