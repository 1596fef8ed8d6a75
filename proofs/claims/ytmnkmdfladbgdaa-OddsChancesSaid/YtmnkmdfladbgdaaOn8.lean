/- Odds: how likely a log is, exactly. -/
import Derived.Test.YtmnkmdfladbgdaaOn4
import Derived.Test.YtmnkmdfladbgdaaOd29
set_option linter.unusedVariables false
set_option linter.unusedSimpArgs false
namespace Go.Proofs.Ytmnkmdfladbgdaa.Od
open Go Go.Proofs Go.RowKit Go.Proofs.YtmnkmdfladbgdaaAI Go.Proofs.YtmnkmdfladbgdaaFl

/-- A round of Gcd, told from its end on. -/
def GI (k A B : Nat) : Prop := (k = 2 ∧ A = 1 ∧ 1 < B) ∨ (k = 1 ∧ B = 1 ∧ 1 ≤ A) ∨ (k = 0 ∧ A = 1 ∧ B = 0)
set_option maxRecDepth 20000 in
set_option maxHeartbeats 6400000 in
theorem gcd1 {h0 : Heap} {N : Nat} (hN : N ≤ 2) (v0 : Value) (w0 : Value) (F : Step) (hFF : F = aexecP Try.prog (sO 92) (run Try.prog sO) loopω pt92 (lb92 0)) (t : Tm)
    (ht : forget [2, 3, 4, 5, 6, 7, 8, 9, 10, 11, 12, 13, 14, 15, 16, 17, 18, 19, 20, 21, 22, 23] t = [v0, w0, unk, unk, unk, unk, unk, unk, unk, unk, unk, unk, unk, unk, unk, unk, unk, unk, unk, unk, unk, unk, unk, unk]) (hI0 : (∃ A B, Nc h0 v0 (lm A) ∧ Nc h0 w0 (lm B) ∧ GI (N - 0) A B ∧ Keep No h0 h0)) :
    ∃ h' v w x11 x12 x13, loopω [2, 3, 4, 5, 6, 7, 8, 9, 10, 11, 12, 13, 14, 15, 16, 17, 18, 19, 20, 21, 22, 23] F t h0 = some (.exit 0, [v, w, unk, unk, unk, unk, unk, unk, unk, unk, unk, x11, x12, x13, unk, unk, unk, unk, unk, unk, unk, unk, unk, unk], h') ∧ (∃ A B, Nc h' v (lm A) ∧ Nc h' w (lm B) ∧ GI (N - N) A B ∧ Keep No h0 h') := by
  subst hFF
  suffices hs : ∃ e t' h', loopω [2, 3, 4, 5, 6, 7, 8, 9, 10, 11, 12, 13, 14, 15, 16, 17, 18, 19, 20, 21, 22, 23] (aexecP Try.prog (sO 92) (run Try.prog sO) loopω pt92 (lb92 0)) t h0 = some (e, t', h') ∧ (e = .exit 0 ∧ ∃ v w x11 x12 x13, t' = [v, w, unk, unk, unk, unk, unk, unk, unk, unk, unk, x11, x12, x13, unk, unk, unk, unk, unk, unk, unk, unk, unk, unk] ∧ (∃ A B, Nc h' v (lm A) ∧ Nc h' w (lm B) ∧ GI (N - N) A B ∧ Keep No h0 h')) by
    obtain ⟨e, t', h', q1, rfl, v, w, x11, x12, x13, rfl, q2⟩ := hs
    exact ⟨h', v, w, x11, x12, x13, q1, q2⟩
  simp only [lb92, Try.f92, loopsOf, Option.getD_some, List.nil_append, List.append_nil, List.cons_append, List.getD_cons_zero, List.getD_cons_succ]
  refine loop_by (fun k t h' => ∃ (i : Nat) (v : Value) (w : Value), i + k = N ∧ forget [2, 3, 4, 5, 6, 7, 8, 9, 10, 11, 12, 13, 14, 15, 16, 17, 18, 19, 20, 21, 22, 23] t = [v, w, unk, unk, unk, unk, unk, unk, unk, unk, unk, unk, unk, unk, unk, unk, unk, unk, unk, unk, unk, unk, unk, unk] ∧ (∃ A B, Nc h' v (lm A) ∧ Nc h' w (lm B) ∧ GI (N - i) A B ∧ Keep No h0 h'))
    (fun e t' h' => e = .exit 0 ∧ ∃ v w x11 x12 x13, t' = [v, w, unk, unk, unk, unk, unk, unk, unk, unk, unk, x11, x12, x13, unk, unk, unk, unk, unk, unk, unk, unk, unk, unk] ∧ (∃ A B, Nc h' v (lm A) ∧ Nc h' w (lm B) ∧ GI (N - N) A B ∧ Keep No h0 h')) ?_ (N) _ _ ⟨0, _, _, by omega, ht, hI0⟩
  rintro k t h' ⟨i, v, w, hi, ht, hI⟩
  rw [ht]
  rcases Nat.lt_or_ge i (N) with h1 | h1
  · obtain ⟨A, B, na, nb, gi, kp⟩ := hI
    have hB : 1 ≤ B := by unfold GI at gi; omega
    have hq : A < B ∨ B = 1 := by unfold GI at gi; omega
    obtain ⟨v1, v2, h2, e2, n2, k2⟩ := quorem_run na nb hq
    have hL := lm_len_pos hB
    have gi2 : GI (N - (i + 1)) B (if A < B then A else 0) := by
      unfold GI at gi ⊢
      split <;> omega
    generalize (if A < B then A else 0) = C at *
    have nb2 := nb.keep k2
    obtain ⟨ya, yc, rfl⟩ := sl_form nb.1.1
    obtain ⟨za, zc, rfl⟩ := sl_form n2.1.1
    generalize hLb : (lm B).length = Lb at *
    simp (maxSteps := 2000000) -implicitDefEqProofs [pw, aop, cls, light, lightS, binE, aeq, intBin, goInt, aload, isAggT, aeval, tput, awanted, fin, aresults, aresult, List.replicate, heavy, acallOp, aenter, firstRegion, readNames, Nxt, isAnc, readsOk, cond_true, cond_false, hL, en94, e2, undef]
    exact ⟨k - 1, by omega, i + 1, by omega, .slice ya Lb yc, .slice za (lm C).length zc, by simp (maxSteps := 2000000) only [forget, List.set_cons_succ, List.set_cons_zero], B, nb2, C, n2, gi2, kp.trans k2⟩
  · obtain rfl : i = N := by omega
    obtain ⟨A, B, na, nb, gi, kp⟩ := hI
    rw [Nat.sub_self] at gi
    obtain ⟨rfl, rfl⟩ : A = 1 ∧ B = 0 := by unfold GI at gi; omega
    have hL : (lm 0).length = 0 := by rw [lm_zero]; rfl
    have nb2 := nb
    obtain ⟨ya, yc, rfl⟩ := sl_form nb.1.1
    rw [hL] at nb ⊢
    simp (maxSteps := 2000000) -implicitDefEqProofs [pw, aop, cls, light, lightS, binE, aeq, intBin, goInt, aload, isAggT, aeval, tput, awanted, fin, aresults, aresult, List.replicate, heavy, acallOp, aenter, firstRegion, readNames, Nxt, isAnc, readsOk, cond_true, cond_false, undef]
    exact ⟨_, _, ⟨rfl, rfl⟩, 1, na, 0, nb, gi, kp⟩

set_option maxRecDepth 20000 in
theorem gcd_run {h : Heap} {v w : Value} {A B : Nat} (ha : Nc h v (lm A)) (hb : Nc h w (lm B)) (hA : 1 ≤ A) (hB : 1 ≤ B) (h1 : A = 1 ∨ B = 1) :
    ∃ v' h', run Try.prog sO 92 [v, w] h = some (v', h') ∧ Nc h' v' (lm 1) ∧ Keep No h h' := by
  obtain ⟨v1, h1', e1, n1, b1⟩ := ntrim_run ha
  obtain ⟨v2, h2, e2, n2, b2⟩ := ntrim_run (hb.keep n1.2.1)
  rw [nv_lm] at n1 b1 n2 b2
  have c1 := (n1.nc (by have := ha.1.2.2; omega)).keep n2.2.1
  have c2 := n2.nc (by have := hb.1.2.2; omega)
  have kk := n1.2.1.trans n2.2.1
  suffices hx : ∃ y, fin Try.prog Try.f92 (aexecP Try.prog (sO 92) (run Try.prog sO) loopω pt92 (Try.f92.body.getD .skip) ([v, w] ++ List.replicate (Try.f92.ntmps - 2) undef) h) = some y ∧ Nc y.2 y.1 (lm 1) ∧ Keep No h y.2 by
    obtain ⟨⟨y1, y2⟩, hy, q1, q2⟩ := hx
    exact ⟨y1, y2, run_finP pt92 Try.func92 rfl planned92 hy, q1, q2⟩
  obtain ⟨N, hN, gi⟩ : ∃ N, N ≤ 2 ∧ GI (N - 0) A B := by
    by_cases hb1 : B = 1
    · exact ⟨1, by omega, .inr (.inl ⟨by omega, hb1, hA⟩)⟩
    · exact ⟨2, by omega, .inl ⟨by omega, by omega, by omega⟩⟩
  obtain ⟨va, vc, rfl⟩ := sl_form ha.1.1
  obtain ⟨wa, wc, rfl⟩ := sl_form hb.1.1
  simp (maxSteps := 2000000) -implicitDefEqProofs [Try.f92, pw, aop, cls, light, lightS, binE, aeq, intBin, goInt, aload, isAggT, aeval, tput, awanted, fin, aresults, aresult, List.replicate, heavy, acallOp, aenter, firstRegion, readNames, Nxt, isAnc, readsOk, cond_true, cond_false, en74, e1, e2, sO92]
  generalize hl : loopω _ _ _ _ = r
  obtain ⟨h3, v3, w3, x11, x12, x13, hx, A3, B3, na3, nb3, gi3, kp⟩ := useX5 hl (gcd1 (h0 := h2) (N := N) hN _ _ _ (by kernel_rfl) _ (by kernel_rfl) ⟨A, B, c1, c2, gi, Keep.refl _ _⟩)
  subst hx
  clear hl
  rw [Nat.sub_self] at gi3
  obtain ⟨rfl, rfl⟩ : A3 = 1 ∧ B3 = 0 := by unfold GI at gi3; omega
  obtain ⟨v4, h4, e4, n4, b4⟩ := ntrim_run na3
  rw [nv_lm] at n4 b4
  simp (maxSteps := 2000000) -implicitDefEqProofs [pw, aop, cls, light, lightS, binE, aeq, intBin, goInt, aload, isAggT, aeval, tput, awanted, fin, aresults, aresult, List.replicate, heavy, acallOp, aenter, firstRegion, readNames, Nxt, isAnc, readsOk, cond_true, cond_false, en74, e4]
  exact ⟨_, _, ⟨rfl, rfl⟩, n4.nc (by have := na3.1.2.2; omega), (kk.trans kp).trans n4.2.1⟩
theorem none_run {h : Heap} {v : Value} (hn : Nc h v (lm 1)) : run Try.prog sO 93 [v] h = some (.bool true, h) := by
  have s := hn.1.1
  have ll : (lm 1).length = 1 := by rw [lm_one]; rfl
  have l0 : (lm 1).getD 0 0 = 1 := by rw [lm_one]; rfl
  rw [ll] at s
  obtain ⟨a, c, C, ce, cs, gr, ro, rfl, hg, hc⟩ := sl_u3 s (i := 0) (by omega)
  rw [l0, Nat.add_zero] at hc
  refine run_finP pt93 Try.func93 rfl planned93 ?_
  simp (maxSteps := 2000000) -implicitDefEqProofs [Try.f93, pw, aop, cls, light, lightS, binE, aeq, intBin, goInt, aload, isAggT, aeval, tput, awanted, fin, aresults, aresult, List.replicate, heavy, acallOp, aenter, firstRegion, readNames, Nxt, isAnc, readsOk, cond_true, cond_false, ibeq, aindexAddr, sz101, Try.underlying40, hg, hc, undef]
/-- A natural in form, of 16 limbs at most. -/
def Nf (h : Heap) (v : Value) (A : Nat) : Prop := Nc h v (lm A) ∧ 1 ≤ A ∧ (lm A).length ≤ 16
theorem Nf.keep {h h' : Heap} {v : Value} {A : Nat} (hn : Nf h v A) (hk : Keep No h h') : Nf h' v A := ⟨hn.1.keep hk, hn.2⟩
theorem nform_run {h : Heap} {v : Value} {A : Nat} (hc : Na h v (lm A)) (h1 : 1 ≤ A) (h16 : (lm A).length ≤ 16) : run Try.prog sO 98 [v] h = some (.bool true, h) ∧ run Try.prog sO 82 [v] h = some (.bool true, h) := by
  have s := hc.1
  have hL := lm_last h1
  obtain ⟨q, hq⟩ : ∃ q, (lm A).length = q + 1 := ⟨(lm A).length - 1, by omega⟩
  rw [hq, Nat.add_sub_cancel] at hL
  have hl0 := hL.2
  rw [hq] at s h16
  obtain ⟨a, c, C, ce, cs, gr, ro, rfl, hg, hc⟩ := sl_u3 s (i := q) (by omega)
  generalize (lm A).getD q 0 = x at *
  have w1 : IntKind.i64.wrap (q : Int) = (q : Int) := wi64 rfl (by omega)
  have c1 : (q : Int) + 1 ≤ 16 := by omega
  have c2 : ¬ (q : Int) + 1 = 0 := by omega
  have c3 : (q : Int) < (q : Int) + 1 := by omega
  have c4 : ¬ (x : Int) = 0 := by omega
  constructor
  · refine run_finP pt98 Try.func98 rfl planned98 ?_
    simp (maxSteps := 2000000) -implicitDefEqProofs [Try.f98, pw, aop, cls, light, lightS, binE, aeq, intBin, goInt, aload, isAggT, aeval, tput, awanted, fin, aresults, aresult, List.replicate, heavy, acallOp, aenter, firstRegion, readNames, Nxt, isAnc, readsOk, cond_true, cond_false, ibeq, ibne, w1, c1, c2, c3, c4, hl0, aindexAddr, sz101, Try.underlying40, hg, hc, undef]
  · refine run_finP pt82 Try.func82 rfl planned82 ?_
    simp (maxSteps := 2000000) -implicitDefEqProofs [Try.f82, pw, aop, cls, light, lightS, binE, aeq, intBin, goInt, aload, isAggT, aeval, tput, awanted, fin, aresults, aresult, List.replicate, heavy, acallOp, aenter, firstRegion, readNames, Nxt, isAnc, readsOk, cond_true, cond_false, ibeq, ibne, w1, c1, c2, c3, c4, hl0, aindexAddr, sz101, Try.underlying40, hg, hc, undef]
theorem sz42 : szOf Try.prog 42 = some 3 := by kernel_rfl
theorem fa42_0 (n o : Nat) : afieldAddr Try.prog 42 (.pointer (some ⟨n, o, none⟩)) 0 = some (.pointer (some ⟨n, o + 0, none⟩)) := by kernel_rfl
theorem fa42_1 (n o : Nat) : afieldAddr Try.prog 42 (.pointer (some ⟨n, o, none⟩)) 1 = some (.pointer (some ⟨n, o + 1, none⟩)) := by kernel_rfl
theorem fa42_2 (n o : Nat) : afieldAddr Try.prog 42 (.pointer (some ⟨n, o, none⟩)) 2 = some (.pointer (some ⟨n, o + 2, none⟩)) := by kernel_rfl
theorem al42 (ρ : Operand → Value) (d ty pos af gu) : aalloc Try.prog ρ ⟨d, .alloc 42, ty, pos, af, gu⟩ = some (.cells [.bool false, .slice none 0 0, .slice none 0 0] 42 3 false false, fun n => .pointer (some ⟨n, 0, none⟩)) := by kernel_rfl
theorem ok42 (b : Bool) (a : Option Addr) (k c : Nat) (a' : Option Addr) (k' c' : Nat) : okCells (.agg #[.bool b, .slice a k c, .slice a' k' c']) = some [.bool b, .slice a k c, .slice a' k' c'] := rfl
theorem bx42 (ρ : Operand → Value) (x : Operand) (b : Bool) (a : Option Addr) (k c : Nat) (a' : Option Addr) (k' c' : Nat) (hx : ρ x = .agg #[.bool b, .slice a k c, .slice a' k' c']) (d ty pos af gu) : aalloc Try.prog ρ ⟨d, .box 42 x, ty, pos, af, gu⟩ = some (.cells [.bool b, .slice a k c, .slice a' k' c'] 42 3 false false, fun n => .pointer (some ⟨n, 0, none⟩)) :=
  bx 42 3 sz42 ρ x _ (by rw [hx]; rfl) d ty pos af gu
theorem build42 (b : Bool) (a : Option Addr) (k c : Nat) (a' : Option Addr) (k' c' : Nat) : abuild Try.prog 42 [(0, .bool b), (1, .slice a k c), (2, .slice a' k' c')] = some (.agg #[.bool b, .slice a k c, .slice a' k' c']) := by kernel_rfl
theorem build42z : abuild Try.prog 42 [] = some (.agg #[.bool false, .slice none 0 0, .slice none 0 0]) := by kernel_rfl
/-- A / B, of naturals in form. -/
def RV (h : Heap) (v : Value) (A B : Nat) : Prop := ∃ a k c a' k' c', v = .agg #[.bool false, .slice a k c, .slice a' k' c'] ∧ Nf h (.slice a k c) A ∧ Nf h (.slice a' k' c') B
theorem RV.keep {h h' : Heap} {v : Value} {A B : Nat} (hn : RV h v A B) (hk : Keep No h h') : RV h' v A B := by
  obtain ⟨a, k, c, a', k', c', rfl, n1, n2⟩ := hn
  exact ⟨_, _, _, _, _, _, rfl, n1.keep hk, n2.keep hk⟩
theorem nf_len {h : Heap} {a : Option Addr} {k c A : Nat} (hn : Nf h (.slice a k c) A) : k = (lm A).length := by
  obtain ⟨_, _, e⟩ := sl_form hn.1.1.1
  cases e; rfl
set_option maxRecDepth 20000 in
theorem form91_run {h : Heap} {v : Value} {A B : Nat} (hv : RV h v A B) (h1 : A = 1 ∨ B = 1) : ∃ h', run Try.prog sO 91 [v] h = some (.bool true, h') ∧ Keep No h h' := by
  obtain ⟨a, k, c, a', k', c', rfl, n1, n2⟩ := hv
  have hk1 := nf_len n1
  have hk2 := nf_len n2
  have p1 := lm_len_pos n1.2.1
  have p2 := lm_len_pos n2.2.1
  have k0 := Keep.new No h (.cells [.bool false, .slice a k c, .slice a' k' c'] 42 3 false false)
  have g0 : (h.new (.cells [.bool false, .slice a k c, .slice a' k' c'] 42 3 false false)).get h.next = some (.cells [.bool false, .slice a k c, .slice a' k' c'] 42 3 false false) := by rw [Heap.get_new, if_pos rfl]
  obtain ⟨hA, hhA⟩ : ∃ x, x = h.new (.cells [.bool false, .slice a k c, .slice a' k' c'] 42 3 false false) := ⟨_, rfl⟩
  rw [← hhA] at k0 g0
  have e1 := (nform_run (n1.keep k0).1.1 n1.2.1 n1.2.2).1
  have e2 := (nform_run (n2.keep k0).1.1 n2.2.1 n2.2.2).1
  obtain ⟨v3, h3, e3, n3, k3⟩ := gcd_run (n1.keep k0).1 (n2.keep k0).1 n1.2.1 n2.2.1 h1
  have e4 := none_run n3
  have c2 : ¬ k' = 0 := by omega
  refine ⟨h3, run_finP pt91 Try.func91 rfl planned91 ?_, k0.trans k3⟩
  have hbx := fun ρ x hx => bx42 ρ x false a k c a' k' c' hx
  simp (maxSteps := 2000000) -implicitDefEqProofs [Try.f91, pw, aop, cls, light, lightS, binE, aeq, intBin, goInt, aload, isAggT, aeval, tput, awanted, fin, aresults, aresult, List.replicate, heavy, acallOp, aenter, firstRegion, readNames, Nxt, isAnc, readsOk, cond_true, cond_false, hbx, ← hhA, g0, fa42_0, fa42_1, fa42_2, ibeq, c2, en98, en92, en93, e1, e2, e3, e4, undef]
end Go.Proofs.Ytmnkmdfladbgdaa.Od
set_option linter.unusedVariables false
set_option linter.unusedSimpArgs false
namespace Go.Proofs.Ytmnkmdfladbgdaa.Od
open Go Go.Proofs Go.RowKit Go.Proofs.YtmnkmdfladbgdaaAI Go.Proofs.YtmnkmdfladbgdaaFl

/-- Where a row of limbs stands there is a number. -/
theorem nm_int {h : Heap} {v : Value} {k : Nat} {l : List Nat} (hv : Sl h v 1 k (u3 l)) {m : Nat} (e : nm v = some m) : ∃ (C : List Value) (ce : TypeId) (cs : Nat) (gr ro : Bool), h.get m = some (.cells C ce cs gr ro) ∧ ∃ (j : Nat) (x : Int), C[j]? = some (Value.int .u32 x) := by
  have hlen := hv.1
  rw [u3_len, Nat.mul_one] at hlen
  obtain ⟨_, ⟨rfl, rfl⟩ | ⟨a, n, rfl, hs⟩⟩ := hv
  · cases e
  · obtain ⟨h0, rfl⟩ := nm_eq e
    obtain ⟨C, ce, cs, gr, ro, hg, hc⟩ := hs h0
    refine ⟨C, ce, cs, gr, ro, hg, a.off, ((l.getD 0 0 : Nat) : Int), ?_⟩
    have := congrArg (fun z => z[0]?) hc
    rw [u3_get (by omega), List.getElem?_take, if_pos (by omega), List.getElem?_drop, Nat.add_zero] at this
    exact this
noncomputable def lb75 (i : Nat) : Code := (loopsOf (Try.f75.body.getD .skip)).getD i .skip

theorem bs130' (a1 : Option Addr) (k1 c1 : Nat) (a2 : Option Addr) (k2 c2 : Nat) (a3 : Option Addr) (k3 c3 : Nat) (a4 : Option Addr) (k4 c4 : Nat) (d ty pos af gu) : aalloc Try.prog (fun x => match x with | .tmp 0 => .agg #[.bool false, .slice a1 k1 c1, .slice a2 k2 c2] | _ => .agg #[.bool false, .slice a3 k3 c3, .slice a4 k4 c4]) ⟨d, .buildSlice 130 2 #[(0, .tmp 0), (1, .tmp 1)], ty, pos, af, gu⟩ = some (.cells [.bool false, .slice a1 k1 c1, .slice a2 k2 c2, .bool false, .slice a3 k3 c3, .slice a4 k4 c4] 42 3 false false, fun n => .slice (some ⟨n, 0, none⟩) 2 2) := by kernel_rfl
theorem bs130 (ρ : Operand → Value) (x y) (a1 : Option Addr) (k1 c1 : Nat) (a2 : Option Addr) (k2 c2 : Nat) (a3 : Option Addr) (k3 c3 : Nat) (a4 : Option Addr) (k4 c4 : Nat) (hx : ρ x = .agg #[.bool false, .slice a1 k1 c1, .slice a2 k2 c2]) (hy : ρ y = .agg #[.bool false, .slice a3 k3 c3, .slice a4 k4 c4]) (d ty pos af gu) : aalloc Try.prog ρ ⟨d, .buildSlice 130 2 #[(0, x), (1, y)], ty, pos, af, gu⟩ = some (.cells [.bool false, .slice a1 k1 c1, .slice a2 k2 c2, .bool false, .slice a3 k3 c3, .slice a4 k4 c4] 42 3 false false, fun n => .slice (some ⟨n, 0, none⟩) 2 2) := by
  have h1 : aalloc Try.prog ρ ⟨d, .buildSlice 130 2 #[(0, x), (1, y)], ty, pos, af, gu⟩ = aalloc Try.prog (fun z => match z with | .tmp 0 => .agg #[.bool false, .slice a1 k1 c1, .slice a2 k2 c2] | _ => .agg #[.bool false, .slice a3 k3 c3, .slice a4 k4 c4]) ⟨d, .buildSlice 130 2 #[(0, .tmp 0), (1, .tmp 1)], ty, pos, af, gu⟩ := by simp [aalloc, hx, hy]
  rw [h1]; exact bs130' _ _ _ _ _ _ _ _ _ _ _ _ _ _ _ _ _
set_option maxRecDepth 20000 in
set_option maxHeartbeats 6400000 in
theorem forms1 {h0 : Heap} {m : Nat} {a1 : Option Addr} {k1 c1 : Nat} {a2 : Option Addr} {k2 c2 : Nat} {a3 : Option Addr} {k3 c3 : Nat} {a4 : Option Addr} {k4 c4 : Nat} {A1 B1 A2 B2 : Nat} (hm : h0.get m = some (.cells [.bool false, .slice a1 k1 c1, .slice a2 k2 c2, .bool false, .slice a3 k3 c3, .slice a4 k4 c4] 42 3 false false)) (r1 : RV h0 (.agg #[.bool false, .slice a1 k1 c1, .slice a2 k2 c2]) A1 B1) (r2 : RV h0 (.agg #[.bool false, .slice a3 k3 c3, .slice a4 k4 c4]) A2 B2) (o1 : A1 = 1 ∨ B1 = 1) (o2 : A2 = 1 ∨ B2 = 1) (F : Step) (hFF : F = aexecP Try.prog (sO 75) (run Try.prog sO) loopω pt75 (lb75 0)) (t : Tm)
    (ht : forget [0, 1, 2, 3, 4, 8, 9, 10, 11, 12, 13, 14] t = [unk, unk, unk, unk, unk, .slice (some ⟨m, 0, none⟩) 2 2, .int .i64 2, .int .i64 (0 : Nat), unk, unk, unk, unk, unk, unk, unk]) (hI0 : (Keep No h0 h0 ∧ True)) :
    ∃ h' x8, loopω [0, 1, 2, 3, 4, 8, 9, 10, 11, 12, 13, 14] F t h0 = some (.exit 0, [unk, unk, unk, unk, unk, .slice (some ⟨m, 0, none⟩) 2 2, .int .i64 2, .int .i64 (2 : Nat), x8, unk, unk, unk, unk, unk, unk], h') ∧ (Keep No h0 h' ∧ True) := by
  subst hFF
  suffices hs : ∃ e t' h', loopω [0, 1, 2, 3, 4, 8, 9, 10, 11, 12, 13, 14] (aexecP Try.prog (sO 75) (run Try.prog sO) loopω pt75 (lb75 0)) t h0 = some (e, t', h') ∧ (e = .exit 0 ∧ ∃ x8, t' = [unk, unk, unk, unk, unk, .slice (some ⟨m, 0, none⟩) 2 2, .int .i64 2, .int .i64 (2 : Nat), x8, unk, unk, unk, unk, unk, unk] ∧ (Keep No h0 h' ∧ True)) by
    obtain ⟨e, t', h', q1, rfl, x8, rfl, q2⟩ := hs
    exact ⟨h', x8, q1, q2⟩
  simp only [lb75, Try.f75, loopsOf, Option.getD_some, List.nil_append, List.append_nil, List.cons_append, List.getD_cons_zero, List.getD_cons_succ]
  refine loop_by (fun k t h' => ∃ (i : Nat), i + k = 2 ∧ forget [0, 1, 2, 3, 4, 8, 9, 10, 11, 12, 13, 14] t = [unk, unk, unk, unk, unk, .slice (some ⟨m, 0, none⟩) 2 2, .int .i64 2, .int .i64 (i : Nat), unk, unk, unk, unk, unk, unk, unk] ∧ (Keep No h0 h' ∧ True))
    (fun e t' h' => e = .exit 0 ∧ ∃ x8, t' = [unk, unk, unk, unk, unk, .slice (some ⟨m, 0, none⟩) 2 2, .int .i64 2, .int .i64 (2 : Nat), x8, unk, unk, unk, unk, unk, unk] ∧ (Keep No h0 h' ∧ True)) ?_ (2) _ _ ⟨0, by omega, ht, hI0⟩
  rintro k t h' ⟨i, hi, ht, hI⟩
  rw [ht]
  rcases Nat.lt_or_ge i (2) with h1 | h1
  · have kp := hI.1
    clear hI
    obtain rfl | rfl : i = 0 ∨ i = 1 := by omega
    · have hgm := kp.get hm fun x => x
      have kq0 := Keep.new No h' (.cells [.bool false, .slice none 0 0, .slice none 0 0] 42 3 false false)
      have g0 : (h'.new (.cells [.bool false, .slice none 0 0, .slice none 0 0] 42 3 false false)).get h'.next = some (.cells [.bool false, .slice none 0 0, .slice none 0 0] 42 3 false false) := by rw [Heap.get_new, if_pos rfl]
      obtain ⟨h3, h3e⟩ : ∃ x, x = (h'.new (.cells [.bool false, .slice none 0 0, .slice none 0 0] 42 3 false false)).put h'.next (some (.cells [.bool false, .slice a1 k1 c1, .slice a2 k2 c2] 42 3 false false)) := ⟨_, rfl⟩
      have kq3 : Keep No h' h3 := h3e ▸ kq0.also (Keep.put (S := fun m => m = h'.next) (Heap.get_lt g0) rfl _) fun m hm e => by omega
      have g3 : h3.get h'.next = some (.cells [.bool false, .slice a1 k1 c1, .slice a2 k2 c2] 42 3 false false) := by rw [h3e, Heap.get_put (Heap.get_lt g0), if_pos rfl]
      obtain ⟨h4, e4, kq4⟩ := form91_run ((r1.keep kp).keep kq3) o1
      simp (maxSteps := 2000000) -implicitDefEqProofs [pw, aop, cls, light, lightS, binE, aeq, intBin, goInt, aload, isAggT, aeval, tput, awanted, fin, aresults, aresult, List.replicate, heavy, acallOp, aenter, firstRegion, readNames, Nxt, isAnc, readsOk, cond_true, cond_false, hgm, aindexAddr, sz42, Try.underlying130, Try.underlying42, al42, g0, ok42, astore, ← h3e, g3, en91, e4, undef]
      exact ⟨k - 1, by omega, 1, by omega, by simp (maxSteps := 2000000) only [forget, List.set_cons_succ, List.set_cons_zero]; rfl, (kp.trans kq3).trans kq4⟩
    · have hgm := kp.get hm fun x => x
      have kq0 := Keep.new No h' (.cells [.bool false, .slice none 0 0, .slice none 0 0] 42 3 false false)
      have g0 : (h'.new (.cells [.bool false, .slice none 0 0, .slice none 0 0] 42 3 false false)).get h'.next = some (.cells [.bool false, .slice none 0 0, .slice none 0 0] 42 3 false false) := by rw [Heap.get_new, if_pos rfl]
      obtain ⟨h3, h3e⟩ : ∃ x, x = (h'.new (.cells [.bool false, .slice none 0 0, .slice none 0 0] 42 3 false false)).put h'.next (some (.cells [.bool false, .slice a3 k3 c3, .slice a4 k4 c4] 42 3 false false)) := ⟨_, rfl⟩
      have kq3 : Keep No h' h3 := h3e ▸ kq0.also (Keep.put (S := fun m => m = h'.next) (Heap.get_lt g0) rfl _) fun m hm e => by omega
      have g3 : h3.get h'.next = some (.cells [.bool false, .slice a3 k3 c3, .slice a4 k4 c4] 42 3 false false) := by rw [h3e, Heap.get_put (Heap.get_lt g0), if_pos rfl]
      obtain ⟨h4, e4, kq4⟩ := form91_run ((r2.keep kp).keep kq3) o2
      simp (maxSteps := 2000000) -implicitDefEqProofs [pw, aop, cls, light, lightS, binE, aeq, intBin, goInt, aload, isAggT, aeval, tput, awanted, fin, aresults, aresult, List.replicate, heavy, acallOp, aenter, firstRegion, readNames, Nxt, isAnc, readsOk, cond_true, cond_false, hgm, aindexAddr, sz42, Try.underlying130, Try.underlying42, al42, g0, ok42, astore, ← h3e, g3, en91, e4, undef]
      exact ⟨k - 1, by omega, 2, by omega, by simp (maxSteps := 2000000) only [forget, List.set_cons_succ, List.set_cons_zero]; rfl, (kp.trans kq3).trans kq4⟩
  · obtain rfl : i = 2 := by omega
    simp (maxSteps := 2000000) -implicitDefEqProofs [pw, aop, cls, light, lightS, binE, aeq, intBin, goInt, aload, isAggT, aeval, tput, awanted, fin, aresults, aresult, List.replicate, heavy, acallOp, aenter, firstRegion, readNames, Nxt, isAnc, readsOk, cond_true, cond_false, undef]
    exact hI.1

theorem forms_run {h : Heap} {m : Nat} {a1 : Option Addr} {k1 c1 : Nat} {a2 : Option Addr} {k2 c2 : Nat} {a3 : Option Addr} {k3 c3 : Nat} {a4 : Option Addr} {k4 c4 : Nat} {A1 B1 A2 B2 : Nat} (hm : h.get m = some (.cells [.bool false, .slice a1 k1 c1, .slice a2 k2 c2, .bool false, .slice a3 k3 c3, .slice a4 k4 c4] 42 3 false false)) (r1 : RV h (.agg #[.bool false, .slice a1 k1 c1, .slice a2 k2 c2]) A1 B1) (r2 : RV h (.agg #[.bool false, .slice a3 k3 c3, .slice a4 k4 c4]) A2 B2) (o1 : A1 = 1 ∨ B1 = 1) (o2 : A2 = 1 ∨ B2 = 1) :
    ∃ h', run Try.prog sO 75 [.slice (some ⟨m, 0, none⟩) 2 2] h = some (.bool true, h') ∧ Keep No h h' := by
  suffices hx : ∃ y, fin Try.prog Try.f75 (aexecP Try.prog (sO 75) (run Try.prog sO) loopω pt75 (Try.f75.body.getD .skip) ([.slice (some ⟨m, 0, none⟩) 2 2] ++ List.replicate (Try.f75.ntmps - 1) undef) h) = some y ∧ y.1 = .bool true ∧ Keep No h y.2 by
    obtain ⟨⟨y1, y2⟩, hy, rfl, q⟩ := hx
    exact ⟨y2, run_finP pt75 Try.func75 rfl planned75 hy, q⟩
  simp (maxSteps := 2000000) -implicitDefEqProofs [Try.f75, pw, aop, cls, light, lightS, binE, aeq, intBin, goInt, aload, isAggT, aeval, tput, awanted, fin, aresults, aresult, List.replicate, heavy, acallOp, aenter, firstRegion, readNames, Nxt, isAnc, readsOk, cond_true, cond_false, sO75]
  generalize hl : loopω _ _ _ _ = r
  obtain ⟨h3, x8, hx, kp, _⟩ := useX1 hl (forms1 hm r1 r2 o1 o2 _ (by kernel_rfl) _ (by kernel_rfl) ⟨Keep.refl _ _, trivial⟩)
  subst hx
  simp (maxSteps := 2000000) -implicitDefEqProofs [pw, aop, cls, light, lightS, binE, aeq, intBin, goInt, aload, isAggT, aeval, tput, awanted, fin, aresults, aresult, List.replicate, heavy, acallOp, aenter, firstRegion, readNames, Nxt, isAnc, readsOk, cond_true, cond_false]
  exact ⟨_, _, ⟨rfl, rfl⟩, rfl, kp⟩
set_option maxRecDepth 20000 in
/-- 1 / D as an answer, or that it is too big. -/
theorem make_run {h : Heap} {v w : Value} {D : Nat} (hv : Nc h v (lm 1)) (hw : Nc h w (lm D)) (hD : 1 ≤ D) :
    ∃ r h', run Try.prog sO 76 [.bool false, v, w] h = some (.tuple #[r, .int .i64 (if (lm D).length ≤ 16 then 0 else 4)], h') ∧ Keep No h h' ∧ ((lm D).length ≤ 16 → RV h' r 1 D) ∧ (16 < (lm D).length → r = .agg #[.bool false, .slice none 0 0, .slice none 0 0]) := by
  have k0 := Keep.new No h (.cells [.bool false, .slice none 0 0, .slice none 0 0] 42 3 false false)
  have g0 : (h.new (.cells [.bool false, .slice none 0 0, .slice none 0 0] 42 3 false false)).get h.next = some (.cells [.bool false, .slice none 0 0, .slice none 0 0] 42 3 false false) := by rw [Heap.get_new, if_pos rfl]
  obtain ⟨hA, hhA⟩ : ∃ x, x = h.new (.cells [.bool false, .slice none 0 0, .slice none 0 0] 42 3 false false) := ⟨_, rfl⟩
  rw [← hhA] at k0 g0
  obtain ⟨v1, h1, e1, n1, b1⟩ := ntrim_run (hv.keep k0)
  obtain ⟨v2, h2, e2, n2, b2⟩ := ntrim_run ((hw.keep k0).keep n1.2.1)
  rw [nv_lm] at n1 b1 n2 b2
  have d1 := (n1.nc (by have := hv.1.2.2; omega)).keep n2.2.1
  have d2 := n2.nc (by have := hw.1.2.2; omega)
  obtain ⟨v3, h3, e3, n3, k3⟩ := gcd_run d1 d2 (by omega) hD (.inl rfl)
  have e4 := none_run n3
  have kk := (n1.2.1.trans n2.2.1).trans k3
  have g3 := kk.get g0 fun x => x
  have d1' := d1.keep k3
  have d2' := d2.keep k3
  have ll : (lm 1).length = 1 := by rw [lm_one]; rfl
  have hpos := lm_len_pos hD
  obtain ⟨va, vc, rfl⟩ := sl_form hv.1.1
  obtain ⟨wa, wc, rfl⟩ := sl_form hw.1.1
  obtain ⟨xa, xc, rfl⟩ := sl_form d1'.1.1
  obtain ⟨ya, yc, rfl⟩ := sl_form d2'.1.1
  have hlt := Heap.get_lt g3
  have c2 : ¬ (lm D).length = 0 := by omega
  by_cases c16 : (lm D).length ≤ 16
  · obtain ⟨h4, h4e⟩ : ∃ x, x = h3.put h.next (some (.cells [.bool false, .slice xa (lm 1).length xc, .slice ya (lm D).length yc] 42 3 false false)) := ⟨_, rfl⟩
    have g4 : h4.get h.next = some (.cells [.bool false, .slice xa (lm 1).length xc, .slice ya (lm D).length yc] 42 3 false false) := by rw [h4e, Heap.get_put hlt, if_pos rfl]
    have kP : Keep (fun m => m = h.next) h3 h4 := h4e ▸ Keep.put (S := fun m => m = h.next) hlt rfl _
    have hl1 : ∀ m, nm (.slice xa (lm 1).length xc) = some m → ¬ m = h.next := fun m e e2 => by
      obtain ⟨C, ce, cs, gr, ro, hg, hc⟩ := nm_int d1'.1.1 e
      subst e2; rw [g3] at hg; cases hg
      obtain ⟨j, x, hj⟩ := hc
      rcases j with _ | _ | _ | j <;> simp at hj
    have hl2 : ∀ m, nm (.slice ya (lm D).length yc) = some m → ¬ m = h.next := fun m e e2 => by
      obtain ⟨C, ce, cs, gr, ro, hg, hc⟩ := nm_int d2'.1.1 e
      subst e2; rw [g3] at hg; cases hg
      obtain ⟨j, x, hj⟩ := hc
      rcases j with _ | _ | _ | j <;> simp at hj
    have n4 : ¬ 16 < (lm D).length := by omega
    have n5 : ¬ (16 : Int) < ((lm D).length : Int) := by omega
    refine ⟨.agg #[.bool false, .slice xa (lm 1).length xc, .slice ya (lm D).length yc], h4, run_finP pt76 Try.func76 rfl planned76 ?_, (k0.trans kk).also kP fun m hm e => by omega, fun _ => ⟨_, _, _, _, _, _, rfl, ⟨⟨⟨d1'.1.1.keep kP hl1, d1'.1.2⟩, d1'.2⟩, by omega, by omega⟩, ⟨⟨⟨d2'.1.1.keep kP hl2, d2'.1.2⟩, d2'.2⟩, hD, c16⟩⟩, fun h => absurd h n4⟩
    rw [if_pos c16]
    rw [ll] at *
    simp (maxSteps := 2000000) -implicitDefEqProofs [Try.f76, pw, aop, cls, light, lightS, binE, aeq, intBin, goInt, aload, isAggT, aeval, tput, awanted, fin, aresults, aresult, List.replicate, heavy, acallOp, aenter, firstRegion, readNames, Nxt, isAnc, readsOk, cond_true, cond_false, al42, ← hhA, en74, en92, en93, e1, e2, e3, e4, ibeq, c2, n5, build42, g3, ok42, astore, ← h4e, g4, Try.underlying42, sz42, undef]
  · obtain ⟨h4, h4e⟩ : ∃ x, x = h3.put h.next (some (.cells [.bool false, .slice none 0 0, .slice none 0 0] 42 3 false false)) := ⟨_, rfl⟩
    have g4 : h4.get h.next = some (.cells [.bool false, .slice none 0 0, .slice none 0 0] 42 3 false false) := by rw [h4e, Heap.get_put hlt, if_pos rfl]
    have kP : Keep (fun m => m = h.next) h3 h4 := h4e ▸ Keep.put (S := fun m => m = h.next) hlt rfl _
    have n4 : 16 < (lm D).length := by omega
    have n5 : (16 : Int) < ((lm D).length : Int) := by omega
    refine ⟨.agg #[.bool false, .slice none 0 0, .slice none 0 0], h4, run_finP pt76 Try.func76 rfl planned76 ?_, (k0.trans kk).also kP fun m hm e => by omega, fun h => absurd h c16, fun _ => rfl⟩
    rw [if_neg c16]
    rw [ll] at *
    simp (maxSteps := 2000000) -implicitDefEqProofs [Try.f76, pw, aop, cls, light, lightS, binE, aeq, intBin, goInt, aload, isAggT, aeval, tput, awanted, fin, aresults, aresult, List.replicate, heavy, acallOp, aenter, firstRegion, readNames, Nxt, isAnc, readsOk, cond_true, cond_false, al42, ← hhA, en74, en92, en93, e1, e2, e3, e4, ibeq, c2, n5, build42z, g3, ok42, astore, ← h4e, g4, Try.underlying42, sz42, undef]
set_option maxRecDepth 20000 in
theorem of41_run {h : Heap} {n : Nat} (h1 : 1 ≤ n) (hn : n ≤ 4096) : ∃ v h', run Try.prog sO 41 [.int .i64 n] h = some (v, h') ∧ Keep No h h' ∧ RV h' v n 1 := by
  have k0 := Keep.new No h (.cells [.bool false, .slice none 0 0, .slice none 0 0] 42 3 false false)
  have g0 : (h.new (.cells [.bool false, .slice none 0 0, .slice none 0 0] 42 3 false false)).get h.next = some (.cells [.bool false, .slice none 0 0, .slice none 0 0] 42 3 false false) := by rw [Heap.get_new, if_pos rfl]
  obtain ⟨hA, hhA⟩ : ∃ x, x = h.new (.cells [.bool false, .slice none 0 0, .slice none 0 0] 42 3 false false) := ⟨_, rfl⟩
  rw [← hhA] at k0 g0
  have kB := Keep.new No hA (.cells [.int .u32 n, .int .u32 0] 101 1 false false)
  obtain ⟨hB, hhB⟩ : ∃ x, x = hA.new (.cells [.int .u32 n, .int .u32 0] 101 1 false false) := ⟨_, rfl⟩
  rw [← hhB] at kB
  have gB : hB.get hA.next = some (.cells [.int .u32 n, .int .u32 0] 101 1 false false) := by rw [hhB, Heap.get_new, if_pos rfl]
  have nB : Nc hB (.slice (some ⟨hA.next, 0, none⟩) 2 2) [n, 0] := ⟨⟨⟨rfl, .inr ⟨_, _, rfl, fun _ => ⟨_, _, _, _, _, gB, rfl⟩⟩⟩, fun x hx => by
    rcases List.mem_cons.1 hx with rfl | hx
    · omega
    · rw [List.mem_singleton.1 hx]; omega, by simp⟩, .inr (.inl ⟨_, _, _, _, rfl, Nat.le_refl _⟩)⟩
  obtain ⟨v1, h1', e1, n1, b1⟩ := ntrim_run nB
  have hnv : nv [n, 0] = n := by simp [nv]
  rw [hnv] at n1 b1
  have c1 := n1.nc (by have := nB.1.2.2; omega)
  have kD := Keep.new No h1' (.cells [.int .u32 1] 101 1 false false)
  obtain ⟨hD, hhD⟩ : ∃ x, x = h1'.new (.cells [.int .u32 1] 101 1 false false) := ⟨_, rfl⟩
  rw [← hhD] at kD
  have gD : hD.get h1'.next = some (.cells [.int .u32 1] 101 1 false false) := by rw [hhD, Heap.get_new, if_pos rfl]
  have nD : Nc hD (.slice (some ⟨h1'.next, 0, none⟩) 1 1) (lm 1) := by
    rw [lm_one]
    exact ⟨⟨⟨rfl, .inr ⟨_, _, rfl, fun _ => ⟨_, _, _, _, _, gD, rfl⟩⟩⟩, fun x hx => by rw [List.mem_singleton.1 hx]; omega, by simp⟩, .inr (.inl ⟨_, _, _, _, rfl, Nat.le_refl _⟩)⟩
  have d1' := c1.keep kD
  have kk := (kB.trans n1.2.1).trans kD
  have g3 := kk.get g0 fun x => x
  have hlt := Heap.get_lt g3
  have l1 : (lm n).length ≤ 1 := lm_len (by omega)
  have ll : (lm 1).length = 1 := by rw [lm_one]; rfl
  obtain ⟨xa, xc, rfl⟩ := sl_form d1'.1.1
  obtain ⟨h4, h4e⟩ : ∃ x, x = hD.put h.next (some (.cells [.bool false, .slice xa (lm n).length xc, .slice (some ⟨h1'.next, 0, none⟩) 1 1] 42 3 false false)) := ⟨_, rfl⟩
  have g4 : h4.get h.next = some (.cells [.bool false, .slice xa (lm n).length xc, .slice (some ⟨h1'.next, 0, none⟩) 1 1] 42 3 false false) := by rw [h4e, Heap.get_put hlt, if_pos rfl]
  have kP : Keep (fun m => m = h.next) hD h4 := h4e ▸ Keep.put (S := fun m => m = h.next) hlt rfl _
  have hl1 : ∀ m, nm (.slice xa (lm n).length xc) = some m → ¬ m = h.next := fun m e e2 => by
    obtain ⟨C, ce, cs, gr, ro, hg, hc⟩ := nm_int d1'.1.1 e
    subst e2; rw [g3] at hg; cases hg
    obtain ⟨j, x, hj⟩ := hc
    rcases j with _ | _ | _ | j <;> simp at hj
  have hl2 : ∀ m, nm (.slice (some ⟨h1'.next, 0, none⟩) 1 1) = some m → ¬ m = h.next := fun m e e2 => by
    obtain ⟨C, ce, cs, gr, ro, hg, hc⟩ := nm_int nD.1.1 e
    subst e2; rw [g3] at hg; cases hg
    obtain ⟨j, x, hj⟩ := hc
    rcases j with _ | _ | _ | j <;> simp at hj
  refine ⟨.agg #[.bool false, .slice xa (lm n).length xc, .slice (some ⟨h1'.next, 0, none⟩) 1 1], h4, run_finP pt41 Try.func41 rfl planned41 ?_, (k0.trans kk).also kP fun m hm e => by omega, _, _, _, _, _, _, rfl, ⟨⟨⟨d1'.1.1.keep kP hl1, d1'.1.2⟩, d1'.2⟩, h1, by omega⟩, ⟨⟨⟨nD.1.1.keep kP hl2, nD.1.2⟩, nD.2⟩, by omega, by omega⟩⟩
  have w1 := wu64 (a := n) rfl (by omega)
  have w2 := wu32 (a := n) rfl (by omega)
  have w3 : IntKind.u32.wrap 0 = 0 := rfl
  have c0 : ¬ (n : Int) < 0 := by omega
  have hs := fun t x y hx hy => sh32 t x y n 0 hx hy (by omega)
  have hb2 := fun ρ x y hx hy => bs40_2 ρ x y (n : Int) 0 hx hy
  simp (maxSteps := 2000000) -implicitDefEqProofs [Try.f41, pw, aop, cls, light, lightS, binE, aeq, intBin, goInt, aload, isAggT, aeval, tput, awanted, fin, aresults, aresult, List.replicate, heavy, acallOp, aenter, firstRegion, readNames, Nxt, isAnc, readsOk, cond_true, cond_false, al42, ← hhA, cv3_37, cv37_101, w1, w2, w3, c0, hs, hb2, ← hhB, en74, e1, (fun ρ y hy => bs40_1 ρ y (1 : Int) hy), ← hhD, build42, g3, ok42, astore, ← h4e, g4, Try.underlying42, sz42, undef]
end Go.Proofs.Ytmnkmdfladbgdaa.Od
set_option linter.unusedVariables false
set_option linter.unusedSimpArgs false
namespace Go.Proofs.Ytmnkmdfladbgdaa.Od
open Go Go.Proofs Go.RowKit Go.Proofs.YtmnkmdfladbgdaaAI Go.Proofs.YtmnkmdfladbgdaaFl

theorem bneq4' (x y : Operand) (a b : Bool) : pureRun Try.prog (do let z ← (do eqGuard .neq 4 x y (.bool a) (.bool b); binOp .neq 4 (.bool a) (.bool b)); pure (Next.value z)) = some (.value (.bool (a != b))) := by cases a <;> cases b <;> kernel_rfl
theorem bneq4 (t : Tm) (x y : Operand) (a b : Bool) (hx : aeval t x = .bool a) (hy : aeval t y = .bool b) (d r ty pos af gu) : purerule Try.prog (aeval t) ⟨d, .binOp .neq 4 x y r, ty, pos, af, gu⟩ = some (.bool (a != b)) := by
  refine pure_of rfl ?_ ?_ rfl
  · simp [Op.operands, hx, hy]; exact ⟨rfl, rfl⟩
  · have : execOp (aeval t) ⟨d, .binOp .neq 4 x y r, ty, pos, af, gu⟩ = (do let z ← (do eqGuard .neq 4 x y (aeval t x) (aeval t y); binOp .neq 4 (aeval t x) (aeval t y)); pure (Next.value z)) := by simp [execOp]
    rw [this, hx, hy]; exact bneq4' x y a b

theorem beql4' (x y : Operand) (a b : Bool) : pureRun Try.prog (do let z ← (do eqGuard .eql 4 x y (.bool a) (.bool b); binOp .eql 4 (.bool a) (.bool b)); pure (Next.value z)) = some (.value (.bool (a == b))) := by cases a <;> cases b <;> kernel_rfl
theorem beql4 (t : Tm) (x y : Operand) (a b : Bool) (hx : aeval t x = .bool a) (hy : aeval t y = .bool b) (d r ty pos af gu) : purerule Try.prog (aeval t) ⟨d, .binOp .eql 4 x y r, ty, pos, af, gu⟩ = some (.bool (a == b)) := by
  refine pure_of rfl ?_ ?_ rfl
  · simp [Op.operands, hx, hy]; exact ⟨rfl, rfl⟩
  · have : execOp (aeval t) ⟨d, .binOp .eql 4 x y r, ty, pos, af, gu⟩ = (do let z ← (do eqGuard .eql 4 x y (aeval t x) (aeval t y); binOp .eql 4 (aeval t x) (aeval t y)); pure (Next.value z)) := by simp [execOp]
    rw [this, hx, hy]; exact beql4' x y a b
theorem nm_put {h : Heap} {v : Value} {k : Nat} {l : List Nat} (hv : Sl h v 1 k (u3 l)) {m : Nat} {b : Bool} {a : Option Addr} {k1 c : Nat} {a' : Option Addr} {k' c' : Nat} {ce : TypeId} {cs : Nat} {gr ro : Bool} (hg : h.get m = some (.cells [.bool b, .slice a k1 c, .slice a' k' c'] ce cs gr ro)) : ∀ m', nm v = some m' → ¬ m' = m := fun m' e e2 => by
  obtain ⟨C, ce, cs, gr, ro, hg2, j, x, hj⟩ := nm_int hv e
  subst e2; rw [hg] at hg2; cases hg2
  rcases j with _ | _ | _ | j <;> simp at hj
theorem RV.put {h : Heap} {r : Value} {A B : Nat} (hr : RV h r A B) {m : Nat} {b : Bool} {a : Option Addr} {k1 c : Nat} {a' : Option Addr} {k' c' : Nat} {ce : TypeId} {cs : Nat} {gr ro : Bool} (hg : h.get m = some (.cells [.bool b, .slice a k1 c, .slice a' k' c'] ce cs gr ro)) (o : Option AObj) : RV (h.put m o) r A B := by
  obtain ⟨x1, y1, z1, x2, y2, z2, rfl, n1, n2⟩ := hr
  have kP : Keep (fun m' => m' = m) h (h.put m o) := Keep.put (S := fun m' => m' = m) (Heap.get_lt hg) rfl _
  exact ⟨_, _, _, _, _, _, rfl, ⟨⟨⟨n1.1.1.1.keep kP (nm_put n1.1.1.1 hg), n1.1.1.2⟩, n1.1.2⟩, n1.2⟩, ⟨⟨⟨n2.1.1.1.keep kP (nm_put n2.1.1.1 hg), n2.1.1.2⟩, n2.1.2⟩, n2.2⟩⟩
set_option maxRecDepth 20000 in
set_option maxHeartbeats 3200000 in
theorem div42_run {h : Heap} {v w : Value} {D n : Nat} (hv : RV h v 1 D) (hw : RV h w n 1) :
    ∃ r h', run Try.prog sO 42 [v, w] h = some (.tuple #[r, .int .i64 (if (lm (D * n)).length ≤ 16 then 0 else 4)], h') ∧ Keep No h h' ∧ ((lm (D * n)).length ≤ 16 → RV h' r 1 (D * n)) ∧ (16 < (lm (D * n)).length → r = .agg #[.bool false, .slice none 0 0, .slice none 0 0]) := by
  have hv0 := hv
  have hw0 := hw
  obtain ⟨a1, k1, c1, a2, k2, c2, rfl, n1, n2⟩ := hv
  obtain ⟨a3, k3, c3, a4, k4, c4, rfl, n3, n4⟩ := hw
  obtain ⟨hA, hhA⟩ : ∃ x, x = h.new (.cells [.bool false, .slice a1 k1 c1, .slice a2 k2 c2] 42 3 false false) := ⟨_, rfl⟩
  obtain ⟨hB, hhB⟩ : ∃ x, x = hA.new (.cells [.bool false, .slice a3 k3 c3, .slice a4 k4 c4] 42 3 false false) := ⟨_, rfl⟩
  obtain ⟨hC, hhC⟩ : ∃ x, x = hB.new (.cells [.bool false, .slice none 0 0, .slice none 0 0] 42 3 false false) := ⟨_, rfl⟩
  obtain ⟨hD, hhD⟩ : ∃ x, x = hC.new (.cells [.bool false, .slice a1 k1 c1, .slice a2 k2 c2, .bool false, .slice a3 k3 c3, .slice a4 k4 c4] 42 3 false false) := ⟨_, rfl⟩
  have kA : Keep No h hA := hhA ▸ Keep.new No h _
  have kB : Keep No hA hB := hhB ▸ Keep.new No hA _
  have kC : Keep No hB hC := hhC ▸ Keep.new No hB _
  have kD : Keep No hC hD := hhD ▸ Keep.new No hC _
  have gA : hA.get h.next = some (.cells [.bool false, .slice a1 k1 c1, .slice a2 k2 c2] 42 3 false false) := by rw [hhA, Heap.get_new, if_pos rfl]
  have gB : hB.get hA.next = some (.cells [.bool false, .slice a3 k3 c3, .slice a4 k4 c4] 42 3 false false) := by rw [hhB, Heap.get_new, if_pos rfl]
  have gC : hC.get hB.next = some (.cells [.bool false, .slice none 0 0, .slice none 0 0] 42 3 false false) := by rw [hhC, Heap.get_new, if_pos rfl]
  have gD : hD.get hC.next = some (.cells [.bool false, .slice a1 k1 c1, .slice a2 k2 c2, .bool false, .slice a3 k3 c3, .slice a4 k4 c4] 42 3 false false) := by rw [hhD, Heap.get_new, if_pos rfl]
  have gA2 := (kB.trans kC).get gA fun x => x
  have gB2 := kC.get gB fun x => x
  have kAD := ((kA.trans kB).trans kC).trans kD
  obtain ⟨hE, eE, kE⟩ := forms_run gD (hv0.keep kAD) (hw0.keep kAD) (.inl rfl) (.inr rfl)
  have kAE := kAD.trans kE
  have gA3 := (kD.trans kE).get gA2 fun x => x
  have gB3 := (kD.trans kE).get gB2 fun x => x
  have gC3 := (kD.trans kE).get gC fun x => x
  have kk1 := nf_len n1
  have kk2 := nf_len n2
  have kk3 := nf_len n3
  have kk4 := nf_len n4
  have p3 := lm_len_pos n3.2.1
  have b1 := n1.2.2
  have b2 := n2.2.2
  have b3 := n3.2.2
  have b4 := n4.2.2
  obtain ⟨vF, hF, eF, nF, kF, _⟩ := nmul_run (n1.keep kAE).1 (n4.keep kAE).1 (by omega) (by omega)
  obtain ⟨vG, hG, eG, nG, kG, _⟩ := nmul_run ((n2.keep kAE).keep kF).1 ((n3.keep kAE).keep kF).1 (by omega) (by omega)
  rw [nv_lm, Nat.one_mul] at nF
  rw [nv_lm, nv_lm] at nG
  have hDn : 1 ≤ D * n := Nat.mul_pos n2.2.1 n3.2.1
  obtain ⟨r, hH, eH, kH, rOk, rBig⟩ := make_run (nF.keep kG) nG hDn
  have gA4 := kF.get gA3 fun x => x
  have gB4 := kF.get gB3 fun x => x
  have gC4 := ((kF.trans kG).trans kH).get gC3 fun x => x
  have cz : ¬ k3 = 0 := by omega
  have gA5 := kG.get gA4 fun x => x
  have gB5 := kG.get gB4 fun x => x
  have gA6 := kH.get gA5 fun x => x
  have gB6 := kH.get gB5 fun x => x
  have lF := kF.1
  have lG := kG.1
  have lH := kH.1
  have hlt := Heap.get_lt gC4
  have hnx := kA.1
  have hnx2 := kB.1
  have hbx1 := fun ρ x hx => bx42 ρ x false a1 k1 c1 a2 k2 c2 hx
  have hbx2 := fun ρ x hx => bx42 ρ x false a3 k3 c3 a4 k4 c4 hx
  have hb130 := fun ρ x y hx hy => bs130 ρ x y a1 k1 c1 a2 k2 c2 a3 k3 c3 a4 k4 c4 hx hy
  suffices hs : ∃ r1 r2 r3 r4 r5 r6, r = .agg #[.bool false, .slice r1 r2 r3, .slice r4 r5 r6] by
    obtain ⟨r1, r2, r3, r4, r5, r6, rfl⟩ := hs
    obtain ⟨hI, hIe⟩ : ∃ x, x = hH.put hB.next (some (.cells [.bool false, .slice r1 r2 r3, .slice r4 r5 r6] 42 3 false false)) := ⟨_, rfl⟩
    have gI : hI.get hB.next = some (.cells [.bool false, .slice r1 r2 r3, .slice r4 r5 r6] 42 3 false false) := by rw [hIe, Heap.get_put hlt, if_pos rfl]
    have kI : Keep (fun m => m = hB.next) hH hI := hIe ▸ Keep.put (S := fun m => m = hB.next) hlt rfl _
    have lI := kI.1
    refine ⟨_, hI, run_finP pt42 Try.func42 rfl planned42 ?_, (((kAE.trans kF).trans kG).trans kH).also kI fun m hm e => by omega, fun h => by rw [hIe]; exact (rOk h).put gC4 _, rBig⟩
    generalize (if (lm (D * n)).length ≤ 16 then (0 : Int) else 4) = e at *
    clear rOk rBig
    simp (maxSteps := 2000000) -implicitDefEqProofs [Try.f42, pw, aop, cls, light, lightS, binE, aeq, intBin, goInt, aload, isAggT, aeval, tput, awanted, fin, aresults, aresult, List.replicate, heavy, acallOp, aenter, firstRegion, readNames, Nxt, isAnc, readsOk, cond_true, cond_false, pt42_5, pl42_5, an42_5, hbx1, hbx2, al42, hb130, ← hhA, ← hhB, ← hhC, ← hhD, gA2, gB2, gA3, gB3, gC3, gA4, gB4, gC4, gA5, gB5, gA6, gB6, lF, lG, lH, lI, gI, ← hIe, en75, en76, en77, eE, eF, eG, eH, fa42_0, fa42_1, fa42_2, ibeq, cz, bneq4, ok42, astore, Try.underlying42, Try.underlying40, sz42, undef]
  by_cases c16 : (lm (D * n)).length ≤ 16
  · obtain ⟨_, _, _, _, _, _, e, _⟩ := rOk c16
    exact ⟨_, _, _, _, _, _, e⟩
  · exact ⟨_, _, _, _, _, _, rBig (by omega)⟩
end Go.Proofs.Ytmnkmdfladbgdaa.Od
set_option linter.unusedVariables false
set_option linter.unusedSimpArgs false
namespace Go.Proofs.Ytmnkmdfladbgdaa.Od
open Go Go.Proofs Go.RowKit Go.Proofs.YtmnkmdfladbgdaaAI Go.Proofs.YtmnkmdfladbgdaaFl

/-- What the first picks' numbers come to. -/
def prodP (l : List (Int × Int)) : Nat → Nat
  | 0 => 1
  | i + 1 => prodP l i * (l.getD i (0, 0)).1.toNat
def fitB (l : List (Int × Int)) : Bool := (List.range (l.length + 1)).all fun i => decide ((lm (prodP l i)).length ≤ 16)
theorem fit_split (l : List (Int × Int)) : (fitB l = true ∧ ∀ i, i ≤ l.length → (lm (prodP l i)).length ≤ 16) ∨ (fitB l = false ∧ ∃ p, p < l.length ∧ 16 < (lm (prodP l (p + 1))).length ∧ ∀ i, i ≤ p → (lm (prodP l i)).length ≤ 16) := by
  have h0 : (lm (prodP l 0)).length ≤ 16 := by
    have : prodP l 0 = 1 := rfl
    rw [this, lm_one]; simp
  have key : ∀ n, (∀ i, i ≤ n → (lm (prodP l i)).length ≤ 16) ∨ ∃ p, p < n ∧ 16 < (lm (prodP l (p + 1))).length ∧ ∀ i, i ≤ p → (lm (prodP l i)).length ≤ 16 := by
    intro n
    induction n with
    | zero => exact .inl fun i hi => by obtain rfl : i = 0 := by omega
                                        exact h0
    | succ n ih =>
      rcases ih with h | ⟨p, h1, h2, h3⟩
      · by_cases h4 : (lm (prodP l (n + 1))).length ≤ 16
        · refine .inl fun i hi => ?_
          rcases Nat.lt_or_ge i (n + 1) with h5 | h5
          · exact h i (by omega)
          · obtain rfl : i = n + 1 := by omega
            exact h4
        · exact .inr ⟨n, by omega, by omega, h⟩
      · exact .inr ⟨p, by omega, h2, h3⟩
  rcases key l.length with h | ⟨p, h1, h2, h3⟩
  · refine .inl ⟨?_, h⟩
    unfold fitB
    rw [List.all_eq_true]
    exact fun i hi => decide_eq_true (h i (by have := List.mem_range.1 hi; omega))
  · refine .inr ⟨?_, p, h1, h2, h3⟩
    unfold fitB
    rw [List.all_eq_false]
    exact ⟨p + 1, List.mem_range.2 (by omega), by simp; omega⟩
/-- What Exact answers with: fine, no such picks, too big. -/
def exE (l : List (Int × Int)) : Int := if (smallB l && goodB l) = true then (if fitB l = true then 0 else 4) else 2
abbrev zeroR : Value := .agg #[.bool false, .slice none 0 0, .slice none 0 0]
def ExI (h0 h : Heap) (m2 m4 D : Nat) : Prop := ∃ a1 k1 c1 a2 k2 c2, h.get m4 = some (.cells [.bool false, .slice a1 k1 c1, .slice a2 k2 c2] 42 3 false false) ∧ RV h (.agg #[.bool false, .slice a1 k1 c1, .slice a2 k2 c2]) 1 D ∧ h.get m2 = some (.cells [.bool false, .slice none 0 0, .slice none 0 0] 42 3 false false) ∧ Keep (fun m => m = m4) h0 h
set_option maxRecDepth 20000 in
set_option maxHeartbeats 6400000 in
theorem ex1 {h0 : Heap} {la : Option Addr} {lc n m2 m4 : Nat} {l : List (Int × Int)} (hn : l.length = n) (hk : n ≤ 2 ^ 47) (hok : okP l) (hne : m2 ≠ m4) (hl : Sl h0 (.slice la n lc) 2 n (picks l)) (hl4 : ∀ m, nm (.slice la n lc) = some m → ¬ m = m4) (hgood : ∀ i, i ≤ n → (lm (prodP l i)).length ≤ 16) (F : Step) (hFF : F = aexecP Try.prog (sO 16) (run Try.prog sO) loopω pt16 (lb16 0)) (t : Tm)
    (ht : forget [0, 1, 3, 5, 6, 7, 8, 9, 10, 11, 12, 16, 17, 18, 19, 20, 21, 22, 23, 24, 25, 26, 27, 28, 29, 30, 31, 32] t = [unk, unk, .pointer (some ⟨m2, 0, none⟩), unk, .pointer (some ⟨m4, 0, none⟩), unk, unk, unk, unk, unk, unk, unk, unk, .slice la n lc, .int .i64 n, .int .i64 (0 : Nat), unk, unk, unk, unk, unk, unk, unk, unk, unk, unk, unk, unk, unk, unk, unk, unk, unk]) (hI0 : ExI h0 h0 m2 m4 (prodP l (0))) :
    ∃ h' x16, loopω [0, 1, 3, 5, 6, 7, 8, 9, 10, 11, 12, 16, 17, 18, 19, 20, 21, 22, 23, 24, 25, 26, 27, 28, 29, 30, 31, 32] F t h0 = some (.exit 0, [unk, unk, .pointer (some ⟨m2, 0, none⟩), unk, .pointer (some ⟨m4, 0, none⟩), unk, unk, unk, unk, unk, unk, unk, unk, .slice la n lc, .int .i64 n, .int .i64 (n : Nat), x16, unk, unk, unk, unk, unk, unk, unk, unk, unk, unk, unk, unk, unk, unk, unk, unk], h') ∧ ExI h0 h' m2 m4 (prodP l (n)) := by
  subst hFF
  suffices hs : ∃ e t' h', loopω [0, 1, 3, 5, 6, 7, 8, 9, 10, 11, 12, 16, 17, 18, 19, 20, 21, 22, 23, 24, 25, 26, 27, 28, 29, 30, 31, 32] (aexecP Try.prog (sO 16) (run Try.prog sO) loopω pt16 (lb16 0)) t h0 = some (e, t', h') ∧ (e = .exit 0 ∧ ∃ x16, t' = [unk, unk, .pointer (some ⟨m2, 0, none⟩), unk, .pointer (some ⟨m4, 0, none⟩), unk, unk, unk, unk, unk, unk, unk, unk, .slice la n lc, .int .i64 n, .int .i64 (n : Nat), x16, unk, unk, unk, unk, unk, unk, unk, unk, unk, unk, unk, unk, unk, unk, unk, unk] ∧ ExI h0 h' m2 m4 (prodP l (n))) by
    obtain ⟨e, t', h', q1, rfl, x16, rfl, q2⟩ := hs
    exact ⟨h', x16, q1, q2⟩
  simp only [lb16, Try.f16, loopsOf, Option.getD_some, List.nil_append, List.append_nil, List.cons_append, List.getD_cons_zero, List.getD_cons_succ]
  refine loop_by (fun k t h' => ∃ (i : Nat), i + k = n ∧ forget [0, 1, 3, 5, 6, 7, 8, 9, 10, 11, 12, 16, 17, 18, 19, 20, 21, 22, 23, 24, 25, 26, 27, 28, 29, 30, 31, 32] t = [unk, unk, .pointer (some ⟨m2, 0, none⟩), unk, .pointer (some ⟨m4, 0, none⟩), unk, unk, unk, unk, unk, unk, unk, unk, .slice la n lc, .int .i64 n, .int .i64 (i : Nat), unk, unk, unk, unk, unk, unk, unk, unk, unk, unk, unk, unk, unk, unk, unk, unk, unk] ∧ ExI h0 h' m2 m4 (prodP l (i)))
    (fun e t' h' => e = .exit 0 ∧ ∃ x16, t' = [unk, unk, .pointer (some ⟨m2, 0, none⟩), unk, .pointer (some ⟨m4, 0, none⟩), unk, unk, unk, unk, unk, unk, unk, unk, .slice la n lc, .int .i64 n, .int .i64 (n : Nat), x16, unk, unk, unk, unk, unk, unk, unk, unk, unk, unk, unk, unk, unk, unk, unk, unk] ∧ ExI h0 h' m2 m4 (prodP l (n))) ?_ (n) _ _ ⟨0, by omega, ht, hI0⟩
  rintro k t h' ⟨i, hi, ht, hI⟩
  rw [ht]
  rcases Nat.lt_or_ge i (n) with h1 | h1
  · obtain ⟨a1, k1, c1, a2, k2, c2, g4, rv, g2, kp⟩ := hI
    have hinc := @inc64 i (by omega)
    have hcs := cast_succ i
    have hlk := hl.keep kp hl4
    have hst : prodP l (i + 1) = prodP l i * (l.getD i (0, 0)).1.toNat := rfl
    have hp := hok i (by omega)
    obtain ⟨la, lc, C, ce, cs, gr, ro, eb, hgt, hf, hd, p1, p2⟩ := sl_pick hlk (show i < n by omega)
    have eb' := eb
    simp only [Value.slice.injEq, true_and] at eb
    obtain ⟨rfl, rfl⟩ := eb
    generalize hq : l.getD i (0, 0) = q at *
    obtain ⟨q1, q2⟩ := q
    simp only at p1 p2 hd hst hp
    obtain ⟨N, rfl⟩ : ∃ N : Nat, q1 = N := ⟨q1.toNat, by omega⟩
    rw [Int.toNat_natCast] at hst
    
    have gz : (h'.new (.cells [.int .i64 0, .int .i64 0] 71 2 false false)).get h'.next = some (.cells [.int .i64 0, .int .i64 0] 71 2 false false) := by rw [Heap.get_new, if_pos rfl]
    obtain ⟨h3, h3e⟩ : ∃ x, x = (h'.new (.cells [.int .i64 0, .int .i64 0] 71 2 false false)).put h'.next (some (.cells [.int .i64 N, .int .i64 q2] 71 2 false false)) := ⟨_, rfl⟩
    have kq3 : Keep No h' h3 := h3e ▸ (Keep.new No h' _).also (Keep.put (S := fun m => m = h'.next) (Heap.get_lt gz) rfl _) fun m hm e => by omega
    have g3 : h3.get h'.next = some (.cells [.int .i64 N, .int .i64 q2] 71 2 false false) := by rw [h3e, Heap.get_put (Heap.get_lt gz), if_pos rfl]
    have okQ : okCells (.agg #[.int .i64 N, .int .i64 q2]) = some [.int .i64 N, .int .i64 q2] := rfl
    
    obtain ⟨v5, h5, e5, kk5, r5⟩ := of41_run (h := h3) (n := N) (by omega) (by omega)
    obtain ⟨r, h6, e6, kk6, rOk, rBig⟩ := div42_run ((rv.keep kq3).keep kk5) r5
    rw [← hst] at e6 rOk rBig
    have k56 := kk5.trans kk6
    have g4a := kq3.get g4 fun x => x
    have g4b := k56.get g4a fun x => x
    have g2b := (kq3.trans k56).get g2 fun x => x
    have hlt4 := Heap.get_lt g4b
    have l5 := kk5.1
    have l6 := kk6.1
    have g4c := kk5.get g4a fun x => x
    have g3b := kk5.get g3 fun x => x
    have g3c := kk6.get g3b fun x => x
    
    have hfit := hgood (i + 1) (by omega)
    rw [if_pos hfit] at e6
    obtain ⟨r1, r2, r3, r4, r5', r6, rfl, _, _⟩ := rOk hfit
    have rv6 := rOk hfit
    obtain ⟨h7, h7e⟩ : ∃ x, x = h6.put m4 (some (.cells [.bool false, .slice r1 r2 r3, .slice r4 r5' r6] 42 3 false false)) := ⟨_, rfl⟩
    have g7 : h7.get m4 = some (.cells [.bool false, .slice r1 r2 r3, .slice r4 r5' r6] 42 3 false false) := by rw [h7e, Heap.get_put hlt4, if_pos rfl]
    have rv7 : RV h7 (.agg #[.bool false, .slice r1 r2 r3, .slice r4 r5' r6]) 1 (prodP l (i + 1)) := by rw [h7e]; exact rv6.put g4b _
    have g27 : h7.get m2 = some (.cells [.bool false, .slice none 0 0, .slice none 0 0] 42 3 false false) := by rw [h7e, Heap.get_put hlt4, if_neg hne]; exact g2b
    have k7 : Keep (fun m => m = m4) h0 h7 := h7e ▸ ((kp.trans (kq3.mono fun _ _ x => x.elim)).trans (k56.mono fun _ _ x => x.elim)).trans (Keep.put (S := fun m => m = m4) hlt4 rfl _)
    have l7 : h6.next ≤ h7.next := by rw [h7e]; exact Nat.le_refl _
    clear rOk rBig rv6
    simp (maxSteps := 2000000) -implicitDefEqProofs [pw, aop, cls, light, lightS, binE, aeq, intBin, goInt, aload, isAggT, aeval, tput, awanted, fin, aresults, aresult, List.replicate, heavy, acallOp, aenter, firstRegion, readNames, Nxt, isAnc, readsOk, cond_true, cond_false, h1, Try.underlying33, Try.underlying42, pt16_8, pl16_8, an16_8, aindexAddr, sz71, sz42, hgt, hf, hd, al71, gz, okQ, astore, ← h3e, g3, g4a, fa71_0, fa71_1, en41, en42, e5, e6, g4b, g4c, g3b, g3c, l5, l6, l7, ok42, ← h7e, ibne, hinc, undef]
    exact ⟨k - 1, by omega, i + 1, by omega, by simp (maxSteps := 2000000) only [forget, List.set_cons_succ, List.set_cons_zero, hcs], _, _, _, _, _, _, g7, rv7, g27, k7⟩
  · obtain rfl : i = n := by omega
    simp (maxSteps := 2000000) -implicitDefEqProofs [pw, aop, cls, light, lightS, binE, aeq, intBin, goInt, aload, isAggT, aeval, tput, awanted, fin, aresults, aresult, List.replicate, heavy, acallOp, aenter, firstRegion, readNames, Nxt, isAnc, readsOk, cond_true, cond_false, undef]
    exact hI
set_option maxRecDepth 20000 in
set_option maxHeartbeats 6400000 in
theorem ex2 {h0 : Heap} {la : Option Addr} {lc n m2 m4 : Nat} {l : List (Int × Int)} (hn : l.length = n) (hk : n ≤ 2 ^ 47) (hok : okP l) (hne : m2 ≠ m4) (hl : Sl h0 (.slice la n lc) 2 n (picks l)) (hl4 : ∀ m, nm (.slice la n lc) = some m → ¬ m = m4) (p : Nat) (hp0 : p < n) (hbad : 16 < (lm (prodP l (p + 1))).length) (hgood : ∀ i, i ≤ p → (lm (prodP l i)).length ≤ 16) (F : Step) (hFF : F = aexecP Try.prog (sO 16) (run Try.prog sO) loopω pt16 (lb16 0)) (t : Tm)
    (ht : forget [0, 1, 3, 5, 6, 7, 8, 9, 10, 11, 12, 16, 17, 18, 19, 20, 21, 22, 23, 24, 25, 26, 27, 28, 29, 30, 31, 32] t = [unk, unk, .pointer (some ⟨m2, 0, none⟩), unk, .pointer (some ⟨m4, 0, none⟩), unk, unk, unk, unk, unk, unk, unk, unk, .slice la n lc, .int .i64 n, .int .i64 (0 : Nat), unk, unk, unk, unk, unk, unk, unk, unk, unk, unk, unk, unk, unk, unk, unk, unk, unk]) (hI0 : ExI h0 h0 m2 m4 (prodP l 0)) :
    ∃ h' x6 x16 x17 x18 x19 x20 x21 x22 x23 x24 x25 x26 x27 x28 x29 x30, loopω [0, 1, 3, 5, 6, 7, 8, 9, 10, 11, 12, 16, 17, 18, 19, 20, 21, 22, 23, 24, 25, 26, 27, 28, 29, 30, 31, 32] F t h0 = some (.ret, [unk, unk, .pointer (some ⟨m2, 0, none⟩), .int .i64 4, .pointer (some ⟨m4, 0, none⟩), unk, x6, .int .i64 4, unk, unk, unk, unk, unk, .slice la n lc, .int .i64 n, .int .i64 (p : Nat), x16, x17, x18, x19, x20, x21, x22, x23, x24, x25, x26, x27, x28, x29, x30, unk, unk], h') ∧ (h'.get m2 = some (.cells [.bool false, .slice none 0 0, .slice none 0 0] 42 3 false false) ∧ Keep (fun m => m = m4 ∨ m = m2) h0 h') := by
  subst hFF
  suffices hs : ∃ e t' h', loopω [0, 1, 3, 5, 6, 7, 8, 9, 10, 11, 12, 16, 17, 18, 19, 20, 21, 22, 23, 24, 25, 26, 27, 28, 29, 30, 31, 32] (aexecP Try.prog (sO 16) (run Try.prog sO) loopω pt16 (lb16 0)) t h0 = some (e, t', h') ∧ (e = .ret ∧ ∃ x6 x16 x17 x18 x19 x20 x21 x22 x23 x24 x25 x26 x27 x28 x29 x30, t' = [unk, unk, .pointer (some ⟨m2, 0, none⟩), .int .i64 4, .pointer (some ⟨m4, 0, none⟩), unk, x6, .int .i64 4, unk, unk, unk, unk, unk, .slice la n lc, .int .i64 n, .int .i64 (p : Nat), x16, x17, x18, x19, x20, x21, x22, x23, x24, x25, x26, x27, x28, x29, x30, unk, unk] ∧ (h'.get m2 = some (.cells [.bool false, .slice none 0 0, .slice none 0 0] 42 3 false false) ∧ Keep (fun m => m = m4 ∨ m = m2) h0 h')) by
    obtain ⟨e, t', h', q1, rfl, x6, x16, x17, x18, x19, x20, x21, x22, x23, x24, x25, x26, x27, x28, x29, x30, rfl, q2⟩ := hs
    exact ⟨h', x6, x16, x17, x18, x19, x20, x21, x22, x23, x24, x25, x26, x27, x28, x29, x30, q1, q2⟩
  simp only [lb16, Try.f16, loopsOf, Option.getD_some, List.nil_append, List.append_nil, List.cons_append, List.getD_cons_zero, List.getD_cons_succ]
  refine loop_by (fun k t h' => ∃ (i : Nat), i + k = p ∧ forget [0, 1, 3, 5, 6, 7, 8, 9, 10, 11, 12, 16, 17, 18, 19, 20, 21, 22, 23, 24, 25, 26, 27, 28, 29, 30, 31, 32] t = [unk, unk, .pointer (some ⟨m2, 0, none⟩), unk, .pointer (some ⟨m4, 0, none⟩), unk, unk, unk, unk, unk, unk, unk, unk, .slice la n lc, .int .i64 n, .int .i64 (i : Nat), unk, unk, unk, unk, unk, unk, unk, unk, unk, unk, unk, unk, unk, unk, unk, unk, unk] ∧ ExI h0 h' m2 m4 (prodP l i))
    (fun e t' h' => e = .ret ∧ ∃ x6 x16 x17 x18 x19 x20 x21 x22 x23 x24 x25 x26 x27 x28 x29 x30, t' = [unk, unk, .pointer (some ⟨m2, 0, none⟩), .int .i64 4, .pointer (some ⟨m4, 0, none⟩), unk, x6, .int .i64 4, unk, unk, unk, unk, unk, .slice la n lc, .int .i64 n, .int .i64 (p : Nat), x16, x17, x18, x19, x20, x21, x22, x23, x24, x25, x26, x27, x28, x29, x30, unk, unk] ∧ (h'.get m2 = some (.cells [.bool false, .slice none 0 0, .slice none 0 0] 42 3 false false) ∧ Keep (fun m => m = m4 ∨ m = m2) h0 h')) ?_ (p) _ _ ⟨0, by omega, ht, hI0⟩
  rintro k t h' ⟨i, hi, ht, hI⟩
  rw [ht]
  rcases Nat.lt_or_ge i (p) with h1 | h1
  · obtain ⟨a1, k1, c1, a2, k2, c2, g4, rv, g2, kp⟩ := hI
    have hinc := @inc64 i (by omega)
    have hcs := cast_succ i
    have h1n : i < n := by omega
    have hlk := hl.keep kp hl4
    have hst : prodP l (i + 1) = prodP l i * (l.getD i (0, 0)).1.toNat := rfl
    have hp := hok i (by omega)
    obtain ⟨la, lc, C, ce, cs, gr, ro, eb, hgt, hf, hd, p1, p2⟩ := sl_pick hlk (show i < n by omega)
    have eb' := eb
    simp only [Value.slice.injEq, true_and] at eb
    obtain ⟨rfl, rfl⟩ := eb
    generalize hq : l.getD i (0, 0) = q at *
    obtain ⟨q1, q2⟩ := q
    simp only at p1 p2 hd hst hp
    obtain ⟨N, rfl⟩ : ∃ N : Nat, q1 = N := ⟨q1.toNat, by omega⟩
    rw [Int.toNat_natCast] at hst
    
    have gz : (h'.new (.cells [.int .i64 0, .int .i64 0] 71 2 false false)).get h'.next = some (.cells [.int .i64 0, .int .i64 0] 71 2 false false) := by rw [Heap.get_new, if_pos rfl]
    obtain ⟨h3, h3e⟩ : ∃ x, x = (h'.new (.cells [.int .i64 0, .int .i64 0] 71 2 false false)).put h'.next (some (.cells [.int .i64 N, .int .i64 q2] 71 2 false false)) := ⟨_, rfl⟩
    have kq3 : Keep No h' h3 := h3e ▸ (Keep.new No h' _).also (Keep.put (S := fun m => m = h'.next) (Heap.get_lt gz) rfl _) fun m hm e => by omega
    have g3 : h3.get h'.next = some (.cells [.int .i64 N, .int .i64 q2] 71 2 false false) := by rw [h3e, Heap.get_put (Heap.get_lt gz), if_pos rfl]
    have okQ : okCells (.agg #[.int .i64 N, .int .i64 q2]) = some [.int .i64 N, .int .i64 q2] := rfl
    
    obtain ⟨v5, h5, e5, kk5, r5⟩ := of41_run (h := h3) (n := N) (by omega) (by omega)
    obtain ⟨r, h6, e6, kk6, rOk, rBig⟩ := div42_run ((rv.keep kq3).keep kk5) r5
    rw [← hst] at e6 rOk rBig
    have k56 := kk5.trans kk6
    have g4a := kq3.get g4 fun x => x
    have g4b := k56.get g4a fun x => x
    have g2b := (kq3.trans k56).get g2 fun x => x
    have hlt4 := Heap.get_lt g4b
    have l5 := kk5.1
    have l6 := kk6.1
    have g4c := kk5.get g4a fun x => x
    have g3b := kk5.get g3 fun x => x
    have g3c := kk6.get g3b fun x => x
    
    have hfit := hgood (i + 1) (by omega)
    rw [if_pos hfit] at e6
    obtain ⟨r1, r2, r3, r4, r5', r6, rfl, _, _⟩ := rOk hfit
    have rv6 := rOk hfit
    obtain ⟨h7, h7e⟩ : ∃ x, x = h6.put m4 (some (.cells [.bool false, .slice r1 r2 r3, .slice r4 r5' r6] 42 3 false false)) := ⟨_, rfl⟩
    have g7 : h7.get m4 = some (.cells [.bool false, .slice r1 r2 r3, .slice r4 r5' r6] 42 3 false false) := by rw [h7e, Heap.get_put hlt4, if_pos rfl]
    have rv7 : RV h7 (.agg #[.bool false, .slice r1 r2 r3, .slice r4 r5' r6]) 1 (prodP l (i + 1)) := by rw [h7e]; exact rv6.put g4b _
    have g27 : h7.get m2 = some (.cells [.bool false, .slice none 0 0, .slice none 0 0] 42 3 false false) := by rw [h7e, Heap.get_put hlt4, if_neg hne]; exact g2b
    have k7 : Keep (fun m => m = m4) h0 h7 := h7e ▸ ((kp.trans (kq3.mono fun _ _ x => x.elim)).trans (k56.mono fun _ _ x => x.elim)).trans (Keep.put (S := fun m => m = m4) hlt4 rfl _)
    have l7 : h6.next ≤ h7.next := by rw [h7e]; exact Nat.le_refl _
    clear rOk rBig rv6
    simp (maxSteps := 2000000) -implicitDefEqProofs [pw, aop, cls, light, lightS, binE, aeq, intBin, goInt, aload, isAggT, aeval, tput, awanted, fin, aresults, aresult, List.replicate, heavy, acallOp, aenter, firstRegion, readNames, Nxt, isAnc, readsOk, cond_true, cond_false, h1n, Try.underlying33, Try.underlying42, pt16_8, pl16_8, an16_8, aindexAddr, sz71, sz42, hgt, hf, hd, al71, gz, okQ, astore, ← h3e, g3, g4a, fa71_0, fa71_1, en41, en42, e5, e6, g4b, g4c, g3b, g3c, l5, l6, l7, ok42, ← h7e, ibne, hinc, undef]
    exact ⟨k - 1, by omega, i + 1, by omega, by simp (maxSteps := 2000000) only [forget, List.set_cons_succ, List.set_cons_zero, hcs], _, _, _, _, _, _, g7, rv7, g27, k7⟩
  · obtain rfl : i = p := by omega
    have h1 : i < n := hp0
    
    obtain ⟨a1, k1, c1, a2, k2, c2, g4, rv, g2, kp⟩ := hI
    have hinc := @inc64 i (by omega)
    have hcs := cast_succ i
    have hlk := hl.keep kp hl4
    have hst : prodP l (i + 1) = prodP l i * (l.getD i (0, 0)).1.toNat := rfl
    have hp := hok i (by omega)
    obtain ⟨la, lc, C, ce, cs, gr, ro, eb, hgt, hf, hd, p1, p2⟩ := sl_pick hlk (show i < n by omega)
    have eb' := eb
    simp only [Value.slice.injEq, true_and] at eb
    obtain ⟨rfl, rfl⟩ := eb
    generalize hq : l.getD i (0, 0) = q at *
    obtain ⟨q1, q2⟩ := q
    simp only at p1 p2 hd hst hp
    obtain ⟨N, rfl⟩ : ∃ N : Nat, q1 = N := ⟨q1.toNat, by omega⟩
    rw [Int.toNat_natCast] at hst
    
    have gz : (h'.new (.cells [.int .i64 0, .int .i64 0] 71 2 false false)).get h'.next = some (.cells [.int .i64 0, .int .i64 0] 71 2 false false) := by rw [Heap.get_new, if_pos rfl]
    obtain ⟨h3, h3e⟩ : ∃ x, x = (h'.new (.cells [.int .i64 0, .int .i64 0] 71 2 false false)).put h'.next (some (.cells [.int .i64 N, .int .i64 q2] 71 2 false false)) := ⟨_, rfl⟩
    have kq3 : Keep No h' h3 := h3e ▸ (Keep.new No h' _).also (Keep.put (S := fun m => m = h'.next) (Heap.get_lt gz) rfl _) fun m hm e => by omega
    have g3 : h3.get h'.next = some (.cells [.int .i64 N, .int .i64 q2] 71 2 false false) := by rw [h3e, Heap.get_put (Heap.get_lt gz), if_pos rfl]
    have okQ : okCells (.agg #[.int .i64 N, .int .i64 q2]) = some [.int .i64 N, .int .i64 q2] := rfl
    
    obtain ⟨v5, h5, e5, kk5, r5⟩ := of41_run (h := h3) (n := N) (by omega) (by omega)
    obtain ⟨r, h6, e6, kk6, rOk, rBig⟩ := div42_run ((rv.keep kq3).keep kk5) r5
    rw [← hst] at e6 rOk rBig
    have k56 := kk5.trans kk6
    have g4a := kq3.get g4 fun x => x
    have g4b := k56.get g4a fun x => x
    have g2b := (kq3.trans k56).get g2 fun x => x
    have hlt4 := Heap.get_lt g4b
    have l5 := kk5.1
    have l6 := kk6.1
    have g4c := kk5.get g4a fun x => x
    have g3b := kk5.get g3 fun x => x
    have g3c := kk6.get g3b fun x => x
    
    have hbig : ¬ (lm (prodP l (i + 1))).length ≤ 16 := by omega
    rw [if_neg hbig] at e6
    obtain rfl := rBig (by omega)
    obtain ⟨h7, h7e⟩ : ∃ x, x = h6.put m4 (some (.cells [.bool false, .slice none 0 0, .slice none 0 0] 42 3 false false)) := ⟨_, rfl⟩
    have g27 : h7.get m2 = some (.cells [.bool false, .slice none 0 0, .slice none 0 0] 42 3 false false) := by rw [h7e, Heap.get_put hlt4, if_neg hne]; exact g2b
    have hlt2 := Heap.get_lt g27
    obtain ⟨h8, h8e⟩ : ∃ x, x = h7.put m2 (some (.cells [.bool false, .slice none 0 0, .slice none 0 0] 42 3 false false)) := ⟨_, rfl⟩
    have l7 : h6.next ≤ h7.next := by rw [h7e]; exact Nat.le_refl _
    have g28 : h8.get m2 = some (.cells [.bool false, .slice none 0 0, .slice none 0 0] 42 3 false false) := by rw [h8e, Heap.get_put hlt2, if_pos rfl]
    have k7 : Keep (fun m => m = m4 ∨ m = m2) h0 h8 := h8e ▸ h7e ▸ (((kp.mono fun _ _ x => .inl x).trans (kq3.mono fun _ _ x => x.elim)).trans (k56.mono fun _ _ x => x.elim)).trans ((Keep.put (S := fun m => m = m4 ∨ m = m2) hlt4 (.inl rfl) _).trans (Keep.put (S := fun m => m = m4 ∨ m = m2) (h7e ▸ hlt2) (.inr rfl) _))
    clear rOk rBig
    simp (maxSteps := 2000000) -implicitDefEqProofs [pw, aop, cls, light, lightS, binE, aeq, intBin, goInt, aload, isAggT, aeval, tput, awanted, fin, aresults, aresult, List.replicate, heavy, acallOp, aenter, firstRegion, readNames, Nxt, isAnc, readsOk, cond_true, cond_false, h1, Try.underlying33, Try.underlying42, pt16_8, pl16_8, an16_8, aindexAddr, sz71, sz42, hgt, hf, hd, al71, gz, okQ, astore, ← h3e, g3, g4a, fa71_0, fa71_1, en41, en42, e5, e6, g4b, g4c, g3b, g3c, l5, l6, l7, ok42, ← h7e, g27, ← h8e, build42z, ibne, hinc, undef]
    exact ⟨g28, k7⟩
theorem useX16 {ks : List Nat} {F : Step} {t : Tm} {h : Heap} {rr : Option (AEx × Tm × Heap)} {f : Heap → Value → Value → Value → Value → Value → Value → Value → Value → Value → Value → Value → Value → Value → Value → Value → Value → Option (AEx × Tm × Heap)} {p : Heap → Value → Value → Value → Value → Value → Value → Value → Value → Value → Value → Value → Value → Value → Value → Value → Value → Prop} (hl : loopω ks F t h = rr) (H : ∃ h' x0 x1 x2 x3 x4 x5 x6 x7 x8 x9 x10 x11 x12 x13 x14 x15, loopω ks F t h = f h' x0 x1 x2 x3 x4 x5 x6 x7 x8 x9 x10 x11 x12 x13 x14 x15 ∧ p h' x0 x1 x2 x3 x4 x5 x6 x7 x8 x9 x10 x11 x12 x13 x14 x15) : ∃ h' x0 x1 x2 x3 x4 x5 x6 x7 x8 x9 x10 x11 x12 x13 x14 x15, rr = f h' x0 x1 x2 x3 x4 x5 x6 x7 x8 x9 x10 x11 x12 x13 x14 x15 ∧ p h' x0 x1 x2 x3 x4 x5 x6 x7 x8 x9 x10 x11 x12 x13 x14 x15 := hl ▸ H

set_option maxRecDepth 20000 in
theorem exact_run {h : Heap} {w : Value} {l : List (Int × Int)} (kl : l.length * 8 ≤ 2 ^ 47) (hl : Sl h w 2 l.length (picks l)) :
    ∃ v h', run Try.prog sO 16 [w] h = some (.tuple #[v, .int .i64 (exE l)], h') ∧ Keep No h h' ∧ (exE l = 0 → RV h' v 1 (prodP l l.length)) ∧ (¬ exE l = 0 → v = zeroR) := by
  obtain ⟨hA, hhA⟩ : ∃ x, x = h.new (.cells [.bool false, .slice none 0 0, .slice none 0 0] 42 3 false false) := ⟨_, rfl⟩
  have kA : Keep No h hA := hhA ▸ Keep.new No h _
  have gA : hA.get h.next = some (.cells [.bool false, .slice none 0 0, .slice none 0 0] 42 3 false false) := by rw [hhA, Heap.get_new, if_pos rfl]
  obtain ⟨h1, e1, k1⟩ := good38_run (hl.keep kA fun _ _ x => x) kl
  have hlt0 := fun m e => hl.lt (m := m) e
  have g1 := k1.get gA fun x => x
  obtain ⟨la, lc, rfl⟩ := sl_form hl
  have exE_ : exE l = if (smallB l && goodB l) = true then (if fitB l = true then 0 else 4) else 2 := rfl
  cases hg : (smallB l && goodB l)
  · rw [hg] at e1 exE_
    simp only [Bool.false_eq_true, if_false] at exE_
    rw [exE_]
    obtain ⟨h2, h2e⟩ : ∃ x, x = h1.put h.next (some (.cells [.bool false, .slice none 0 0, .slice none 0 0] 42 3 false false)) := ⟨_, rfl⟩
    have g2 : h2.get h.next = some (.cells [.bool false, .slice none 0 0, .slice none 0 0] 42 3 false false) := by rw [h2e, Heap.get_put (Heap.get_lt g1), if_pos rfl]
    have k2 : Keep (fun m => m = h.next) h1 h2 := h2e ▸ Keep.put (S := fun m => m = h.next) (Heap.get_lt g1) rfl _
    refine ⟨zeroR, h2, run_finP pt16 Try.func16 rfl planned16 ?_, (kA.trans k1).also k2 fun m hm e => by omega, fun e => by omega, fun _ => rfl⟩
    simp (maxSteps := 2000000) -implicitDefEqProofs [Try.f16, pw, aop, cls, light, lightS, binE, aeq, intBin, goInt, aload, isAggT, aeval, tput, awanted, fin, aresults, aresult, List.replicate, heavy, acallOp, aenter, firstRegion, readNames, Nxt, isAnc, readsOk, cond_true, cond_false, al42, ← hhA, en38, e1, build42z, g1, ok42, astore, ← h2e, g2, Try.underlying42, sz42, undef]
  · rw [hg] at e1 exE_
    simp only [if_true] at exE_
    obtain ⟨v2, h2, e2, k2, r2⟩ := of41_run (h := h1) (n := 1) (by omega) (by omega)
    obtain ⟨a1, k1', c1, a2, k2', c2, rfl, _, _⟩ := r2
    have g2 := k2.get g1 fun x => x
    have e2' : run Try.prog sO 41 [.int .i64 1] h1 = some (.agg #[.bool false, .slice a1 k1' c1, .slice a2 k2' c2], h2) := e2
    obtain ⟨hB, hhB⟩ : ∃ x, x = (h2.new (.cells [.bool false, .slice none 0 0, .slice none 0 0] 42 3 false false)).put h2.next (some (.cells [.bool false, .slice a1 k1' c1, .slice a2 k2' c2] 42 3 false false)) := ⟨_, rfl⟩
    have gz : (h2.new (.cells [.bool false, .slice none 0 0, .slice none 0 0] 42 3 false false)).get h2.next = some (.cells [.bool false, .slice none 0 0, .slice none 0 0] 42 3 false false) := by rw [Heap.get_new, if_pos rfl]
    have kB : Keep No h2 hB := hhB ▸ (Keep.new No h2 _).also (Keep.put (S := fun m => m = h2.next) (Heap.get_lt gz) rfl _) fun m hm e => by omega
    have gB : hB.get h2.next = some (.cells [.bool false, .slice a1 k1' c1, .slice a2 k2' c2] 42 3 false false) := by rw [hhB, Heap.get_put (Heap.get_lt gz), if_pos rfl]
    have g3 := kB.get g2 fun x => x
    have rB : RV hB (.agg #[.bool false, .slice a1 k1' c1, .slice a2 k2' c2]) 1 1 := by
      obtain ⟨v2', h2', e2'', k2'', r2''⟩ := of41_run (h := h1) (n := 1) (by omega) (by omega)
      rw [e2] at e2''
      cases e2''
      exact r2''.keep kB
    have kAll := ((kA.trans k1).trans k2).trans kB
    have hlB := hl.keep kAll fun _ _ x => x
    have hnx1 := (kA.trans (k1.trans k2)).1
    have hnx2 : h.next < h2.next := by have := Heap.get_lt g2; exact this
    suffices hx : ∃ y, fin Try.prog Try.f16 (aexecP Try.prog (sO 16) (run Try.prog sO) loopω pt16 (Try.f16.body.getD .skip) ([.slice la l.length lc] ++ List.replicate (Try.f16.ntmps - 1) undef) h) = some y ∧ ∃ v, y.1 = .tuple #[v, .int .i64 (exE l)] ∧ Keep No h y.2 ∧ (exE l = 0 → RV y.2 v 1 (prodP l l.length)) ∧ (¬ exE l = 0 → v = zeroR) by
      obtain ⟨⟨y1, y2⟩, hy, v, rfl, q⟩ := hx
      exact ⟨v, y2, run_finP pt16 Try.func16 rfl planned16 hy, q⟩
    have hI0 : ExI hB hB h.next h2.next (prodP l 0) := ⟨_, _, _, _, _, _, gB, rB, g3, Keep.refl _ _⟩
    simp (maxSteps := 2000000) -implicitDefEqProofs [Try.f16, pw, aop, cls, light, lightS, binE, aeq, intBin, goInt, aload, isAggT, aeval, tput, awanted, fin, aresults, aresult, List.replicate, heavy, acallOp, aenter, firstRegion, readNames, Nxt, isAnc, readsOk, cond_true, cond_false, al42, ← hhA, en38, e1, en41, e2', gz, ok42, astore, ← hhB, sO16, Try.underlying42, sz42, undef]
    generalize hlp : loopω _ _ _ _ = r
    rcases fit_split l with ⟨hf, hall⟩ | ⟨hf, p, hp, hbad, hall⟩
    · rw [hf] at exE_
      simp only [if_true] at exE_
      rw [exE_]
      obtain ⟨h3, x16, hx, b1, d1, f1, b2, d2, f2, q4, qr, q2, qk⟩ := useX1 hlp (ex1 (h0 := hB) (la := la) (lc := lc) (n := l.length) (m2 := h.next) (m4 := h2.next) (l := l) rfl (by omega) (okP_of hg) (by omega) hlB (fun m e e2 => by have := hlt0 _ e; omega) hall _ (by kernel_rfl) _ (by kernel_rfl) hI0)
      subst hx
      obtain ⟨h4, h4e⟩ : ∃ x, x = h3.put h.next (some (.cells [.bool false, .slice b1 d1 f1, .slice b2 d2 f2] 42 3 false false)) := ⟨_, rfl⟩
      have g4 : h4.get h.next = some (.cells [.bool false, .slice b1 d1 f1, .slice b2 d2 f2] 42 3 false false) := by rw [h4e, Heap.get_put (Heap.get_lt q2), if_pos rfl]
      have k4 : Keep (fun m => m = h.next) h3 h4 := h4e ▸ Keep.put (S := fun m => m = h.next) (Heap.get_lt q2) rfl _
      have r4 : RV h4 (.agg #[.bool false, .slice b1 d1 f1, .slice b2 d2 f2]) 1 (prodP l l.length) := by rw [h4e]; exact qr.put q2 _
      simp (maxSteps := 2000000) -implicitDefEqProofs [pw, aop, cls, light, lightS, binE, aeq, intBin, goInt, aload, isAggT, aeval, tput, awanted, fin, aresults, aresult, List.replicate, heavy, acallOp, aenter, firstRegion, readNames, Nxt, isAnc, readsOk, cond_true, cond_false, q4, q2, ok42, astore, ← h4e, g4, Try.underlying42, sz42]
      exact ⟨_, _, ⟨rfl, rfl⟩, _, rfl, (kAll.also qk fun m hm e => by omega).also k4 fun m hm e => by omega, r4⟩
    · rw [hf] at exE_
      simp only [Bool.false_eq_true, if_false] at exE_
      rw [exE_]
      obtain ⟨h3, x6, x16, x17, x18, x19, x20, x21, x22, x23, x24, x25, x26, x27, x28, x29, x30, hx, q2, qk⟩ := useX16 hlp (ex2 (h0 := hB) (la := la) (lc := lc) (n := l.length) (m2 := h.next) (m4 := h2.next) (l := l) rfl (by omega) (okP_of hg) (by omega) hlB (fun m e e2 => by have := hlt0 _ e; omega) p hp hbad hall _ (by kernel_rfl) _ (by kernel_rfl) hI0)
      subst hx
      simp (maxSteps := 2000000) -implicitDefEqProofs [pw, aop, cls, light, lightS, binE, aeq, intBin, goInt, aload, isAggT, aeval, tput, awanted, fin, aresults, aresult, List.replicate, heavy, acallOp, aenter, firstRegion, readNames, Nxt, isAnc, readsOk, cond_true, cond_false, q2, Try.underlying42, sz42]
      exact ⟨_, _, ⟨rfl, rfl⟩, rfl, kAll.also qk fun m hm e => by omega⟩
end Go.Proofs.Ytmnkmdfladbgdaa.Od
