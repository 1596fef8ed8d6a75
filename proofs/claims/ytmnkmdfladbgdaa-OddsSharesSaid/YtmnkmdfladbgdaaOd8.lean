/- Odds: Shares. -/
import Derived.Test.YtmnkmdfladbgdaaOd7
set_option linter.unusedVariables false
set_option linter.unusedSimpArgs false
namespace Go.Proofs.Ytmnkmdfladbgdaa.Od
open Go Go.Proofs Go.RowKit Go.Proofs.YtmnkmdfladbgdaaAI Go.Proofs.YtmnkmdfladbgdaaFl Go.Proofs.YtmnkmdfladbgdaaRnd

theorem useH {α β : Type} {ks : List Nat} {F : Step} {t : Tm} {h : Heap} {rr : Option (AEx × Tm × Heap)} {f : α → β → Option (AEx × Tm × Heap)} {p : α → β → Prop} (hl : loopω ks F t h = rr) (H : ∃ a b, loopω ks F t h = f a b ∧ p a b) : ∃ a b, rr = f a b ∧ p a b := hl ▸ H
theorem zr34 : (Try.prog.info? 34).bind (fun i => i.zero) = some (.float .f64 0) := by kernel_rfl
theorem ms24 (ρ : Operand → Value) (a b : Operand) (k : Nat) (ha : ρ a = .int .i64 k) (hb : ρ b = .int .i64 k) (hk : k * 8 ≤ 2 ^ 47) (d ty pos af gu) :
    aalloc Try.prog ρ ⟨d, .makeSlice 24 a b, ty, pos, af, gu⟩ = some (.cells (fl (List.replicate k 0)) 34 1 false false, fun n => .slice (some ⟨n, 0, none⟩) k k) := by
  obtain ⟨i, z, hi, hz, hp, hzc, hz1, hsz, hby, h0⟩ := elTy el34
  have hzz := zr34
  rw [hi] at hzz
  simp only [Option.bind_some, hz, Option.some.injEq] at hzz
  subst hzz
  unfold aalloc
  simp only [ha, hb, Try.underlying24, hi, hz, hsz, hby]
  have : (bif plain (Value.float .f64 0) && Nat.beq (Value.float .f64 0).cells.size 1 && (Value.float .f64 0).cells.toList.all one && Nat.blt 0 1 then (1 : Nat) else 0) = 1 := by kernel_rfl
  have hr : fl (List.replicate k 0) = List.replicate k (Value.float .f64 0) := by simp [fl]
  rw [hr]
  simp [plain, plainN, one, Value.cells, beq_d, Nat.blt, ble_d]
  omega
def shB (ws : List Nat) (turn : Int) (n j : Nat) : Nat := shareB ws turn n (wt ws turn j)
def sharesL (ws : List Nat) (turn : Int) (n : Nat) : List Nat := (List.range n).map (shB ws turn n)
abbrev V (m n : Nat) : Value := .slice (some ⟨m, 0, none⟩) n n
theorem shares_bad {h : Heap} {a : Option Addr} {c k : Nat} (turn of : Int) (hb : of < 1 ∨ 4096 < of ∨ turn < 0) :
    run Try.prog sO 10 [.slice a k c, .int .i64 turn, .int .i64 of] h = some (.tuple #[.slice none 0 0, .int .i64 2], h) := by
  refine run_finP pt10 Try.func10 rfl planned10 ?_
  by_cases h1 : of < 1
  · simp (maxSteps := 2000000) -implicitDefEqProofs [Try.f10, px_skip, px_label, px_region, px_draw, qx_seq, qx_cond, px_block, px_loop, px_scope, px_exit, px_ret, seqK_normal, seqK_exit, seqK_ret, condK_true, condK_false, opsK_some, wK_true, wK_false, itK_some, aops_nil, aops_cons, lK_some, aK_some, hK_some, dwK_true, dwK_false, diK_some, dK_light, dK_alloc, dK_heavy, adraw_nil, adraw_cons, aop, cls, light, lightS, binE, aeq, intBin, goInt, pl_int, pl_bool, pl_ptr, pl_slice, aload, isAggT, aeval, tput, awanted, List.range_succ, fin, aresults, aresult, List.replicate, heavy, acallOp, aenter, ble_d, beq_d, firstRegion, readNames, Nxt, isAnc, readsOk, objEq_some, h1, undef]
  by_cases h2 : 4096 < of
  · simp (maxSteps := 2000000) -implicitDefEqProofs [Try.f10, px_skip, px_label, px_region, px_draw, qx_seq, qx_cond, px_block, px_loop, px_scope, px_exit, px_ret, seqK_normal, seqK_exit, seqK_ret, condK_true, condK_false, opsK_some, wK_true, wK_false, itK_some, aops_nil, aops_cons, lK_some, aK_some, hK_some, dwK_true, dwK_false, diK_some, dK_light, dK_alloc, dK_heavy, adraw_nil, adraw_cons, aop, cls, light, lightS, binE, aeq, intBin, goInt, pl_int, pl_bool, pl_ptr, pl_slice, aload, isAggT, aeval, tput, awanted, List.range_succ, fin, aresults, aresult, List.replicate, heavy, acallOp, aenter, ble_d, beq_d, firstRegion, readNames, Nxt, isAnc, readsOk, objEq_some, h1, h2, undef]
  by_cases h3 : turn < 0
  · simp (maxSteps := 2000000) -implicitDefEqProofs [Try.f10, px_skip, px_label, px_region, px_draw, qx_seq, qx_cond, px_block, px_loop, px_scope, px_exit, px_ret, seqK_normal, seqK_exit, seqK_ret, condK_true, condK_false, opsK_some, wK_true, wK_false, itK_some, aops_nil, aops_cons, lK_some, aK_some, hK_some, dwK_true, dwK_false, diK_some, dK_light, dK_alloc, dK_heavy, adraw_nil, adraw_cons, aop, cls, light, lightS, binE, aeq, intBin, goInt, pl_int, pl_bool, pl_ptr, pl_slice, aload, isAggT, aeval, tput, awanted, List.range_succ, fin, aresults, aresult, List.replicate, heavy, acallOp, aenter, ble_d, beq_d, firstRegion, readNames, Nxt, isAnc, readsOk, objEq_some, h1, h2, h3, undef]
  omega
set_option maxRecDepth 20000 in
theorem shares_run {h : Heap} {v : Value} {ws : List Nat} (turn : Int) {n : Nat} (h1 : 1 ≤ n) (h2 : n ≤ 4096) (h3 : 0 ≤ turn) (hv : Sl h v 1 ws.length (fl ws)) (hw : W64 ws) (hk : ws.length ≤ 2 ^ 47) :
    ∃ h', run Try.prog sO 10 [v, .int .i64 turn, .int .i64 n] h = some (.tuple #[V h.next n, .int .i64 0], h') ∧ h'.get h.next = some (.cells (fl (sharesL ws turn n)) 34 1 false false) ∧ Keep No h h' := by
  have hlt := fun m e => hv.lt (m := m) e
  obtain ⟨a, c, rfl⟩ := sl_form hv
  suffices hx : ∃ y, fin Try.prog Try.f10 (aexecP Try.prog (sO 10) (run Try.prog sO) loopω pt10 (Try.f10.body.getD .skip) ([.slice a ws.length c, .int .i64 turn, .int .i64 n] ++ List.replicate (Try.f10.ntmps - 3) undef) h) = some y ∧ y.1 = .tuple #[V h.next n, .int .i64 0] ∧ y.2.get h.next = some (.cells (fl (sharesL ws turn n)) 34 1 false false) ∧ Keep No h y.2 by
    obtain ⟨⟨y1, y2⟩, hy, rfl, q1, q2⟩ := hx
    exact ⟨y2, run_finP pt10 Try.func10 rfl planned10 hy, q1, q2⟩
  have c1 : ¬ ((n : Int) < 1) := by omega
  have c2 : ¬ (4096 < (n : Int)) := by omega
  have c3 : ¬ (turn < 0) := by omega
  have hms := fun ρ x y hx hy => ms24 ρ x y n hx hy (by omega)
  have k0 := Keep.new No h (.cells (fl (List.replicate n 0)) 34 1 false false)
  have g0 : (h.new (.cells (fl (List.replicate n 0)) 34 1 false false)).get h.next = some (.cells (fl (List.replicate n 0)) 34 1 false false) := by rw [Heap.get_new, if_pos rfl]
  obtain ⟨hA, hhA⟩ : ∃ x, x = h.new (.cells (fl (List.replicate n 0)) 34 1 false false) := ⟨_, rfl⟩
  rw [← hhA] at k0 g0
  have pz : plain (Fl 0) = true := rfl
  simp (maxSteps := 2000000) -implicitDefEqProofs [Try.f10, px_skip, px_label, px_region, px_draw, qx_seq, qx_cond, px_block, px_loop, px_scope, px_exit, px_ret, seqK_normal, seqK_exit, seqK_ret, condK_true, condK_false, opsK_some, wK_true, wK_false, itK_some, aops_nil, aops_cons, lK_some, aK_some, hK_some, dwK_true, dwK_false, diK_some, dK_light, dK_alloc, dK_heavy, adraw_nil, adraw_cons, aop, cls, light, lightS, binE, aeq, intBin, goInt, pl_int, pl_bool, pl_ptr, pl_slice, aload, isAggT, aeval, tput, awanted, List.range_succ, fin, aresults, aresult, List.replicate, heavy, acallOp, aenter, ble_d, beq_d, firstRegion, readNames, Nxt, isAnc, readsOk, objEq_some, c1, c2, c3, undef, hms, ← hhA, sO10_6, pz]
  generalize hl : loopω _ _ _ _ = r
  obtain ⟨hB, x29, hx, hI⟩ := useH hl (sh1 (h0 := hA) (va := a) (vc := c) (m := h.next) (n := n) (ws := ws) turn h2 hw hk (hv.keep k0 fun _ _ x => x) (fun e => by have := hlt _ e; omega) _ (by kernel_rfl) _ (by kernel_rfl) ⟨_, Row.start n _, g0, Keep.refl _ _⟩)
  subst hx
  clear hl
  have hI2 : SH n 0 h.next (fun j => shareB ws turn n (wt ws turn j)) (wt ws turn) hB hB := by
    obtain ⟨L, q1, q2, q3⟩ := hI
    exact ⟨L, q1.next, q2, Keep.refl _ _⟩
  simp (maxSteps := 2000000) -implicitDefEqProofs [px_skip, px_label, px_region, px_draw, qx_seq, qx_cond, px_block, px_loop, px_scope, px_exit, px_ret, seqK_normal, seqK_exit, seqK_ret, condK_true, condK_false, opsK_some, wK_true, wK_false, itK_some, aops_nil, aops_cons, lK_some, aK_some, hK_some, dwK_true, dwK_false, diK_some, dK_light, dK_alloc, dK_heavy, adraw_nil, adraw_cons, aop, cls, light, lightS, binE, aeq, intBin, goInt, pl_int, pl_bool, pl_ptr, pl_slice, aload, isAggT, aeval, tput, awanted, List.range_succ, fin, aresults, aresult, List.replicate, heavy, acallOp, aenter, ble_d, beq_d, firstRegion, readNames, Nxt, isAnc, readsOk, objEq_some, sO10_14]
  generalize hl : loopω _ _ _ _ = r
  obtain ⟨hC, x56, hx, L, q1, q2, q3⟩ := useH hl (sh2 (h0 := hB) (m := h.next) (n := n) (ws := ws) turn h2 hw _ (by kernel_rfl) _ (by kernel_rfl) hI2)
  subst hx
  simp (maxSteps := 2000000) -implicitDefEqProofs [px_skip, px_label, px_region, px_draw, qx_seq, qx_cond, px_block, px_loop, px_scope, px_exit, px_ret, seqK_normal, seqK_exit, seqK_ret, condK_true, condK_false, opsK_some, wK_true, wK_false, itK_some, aops_nil, aops_cons, lK_some, aK_some, hK_some, dwK_true, dwK_false, diK_some, dK_light, dK_alloc, dK_heavy, adraw_nil, adraw_cons, aop, cls, light, lightS, binE, aeq, intBin, goInt, pl_int, pl_bool, pl_ptr, pl_slice, aload, isAggT, aeval, tput, awanted, List.range_succ, fin, aresults, aresult, List.replicate, heavy, acallOp, aenter, ble_d, beq_d, firstRegion, readNames, Nxt, isAnc, readsOk, objEq_some]
  refine ⟨_, _, ⟨rfl, rfl⟩, rfl, ?_, ?_⟩
  · rw [q2, q1.done]; rfl
  · obtain ⟨_, _, _, k1⟩ := hI
    exact (k0.also k1 fun m hm x => by omega).also q3 fun m hm x => by omega
theorem shB_le {ws : List Nat} (hw : W64 ws) (turn : Int) {n i : Nat} (hi : i < n) (hn : n ≤ 4096) : shB ws turn n i ≤ 4607182418800017408 := share_le hw turn hi hn
theorem sharesL_get {ws : List Nat} {turn : Int} {n i : Nat} (hi : i < n) : (sharesL ws turn n).getD i 0 = shB ws turn n i := by
  simp [sharesL, List.getD_eq_getElem?_getD, List.getElem?_map, List.getElem?_range hi]
theorem sharesL_len (ws : List Nat) (turn : Int) (n : Nat) : (sharesL ws turn n).length = n := by simp [sharesL]
end Go.Proofs.Ytmnkmdfladbgdaa.Od
