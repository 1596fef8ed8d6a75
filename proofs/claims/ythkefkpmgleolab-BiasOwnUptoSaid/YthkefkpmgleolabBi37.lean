/- The law BiasOwn, put together. -/
import Derived.Test.YthkefkpmgleolabBi31
import Derived.Test.YthkefkpmgleolabBi32
import Derived.Test.YthkefkpmgleolabBi33
import Derived.Test.YthkefkpmgleolabBi35
import Derived.Test.YthkefkpmgleolabBi36
set_option linter.unusedVariables false
set_option linter.unusedSimpArgs false
namespace Go.Proofs.Ythkefkpmgleolab.Bi
open Go Go.Proofs Go.RowKit Go.Proofs.YthkefkpmgleolabAI Go.Proofs.YthkefkpmgleolabFl Go.Proofs.YthkefkpmgleolabSrt

theorem useH {α β : Type} {ks : List Nat} {F : Step} {t : Tm} {h : Heap} {rr : Option (AEx × Tm × Heap)} {f : α → β → Option (AEx × Tm × Heap)} {p : α → β → Prop} (hl : loopω ks F t h = rr) (H : ∃ a b, loopω ks F t h = f a b ∧ p a b) : ∃ a b, rr = f a b ∧ p a b := hl ▸ H
theorem useH5 {α : Type} {ks : List Nat} {F : Step} {t : Tm} {h : Heap} {rr : Option (AEx × Tm × Heap)} {f : Value → Value → Heap → α → α → Option (AEx × Tm × Heap)} {p : Value → Value → Heap → Prop} (hl : loopω ks F t h = rr) (H : ∃ x r h' a b, loopω ks F t h = f x r h' a b ∧ p x r h') : ∃ x r h' a b, rr = f x r h' a b ∧ p x r h' := hl ▸ H
theorem c7 : (Ieee.double.order 4619567317775286272 4619567317775286272 != some .eq) = false := by
  have := feq_self 4619567317775286272 (by omega)
  have h2 : isN 4619567317775286272 = false := by decide
  rw [h2] at this
  rw [bne, this]; rfl
set_option maxRecDepth 20000 in
set_option maxHeartbeats 12800000 in
theorem own {h : Heap} {va vb : Value} {ws : List Nat} {ofs : List Int} (hv : Sl h va 1 ws.length (us ws)) (hw : W64 ws) (hvb : Sl h vb 1 ofs.length (ints ofs)) (hk : ws.length ≤ 2 ^ 20) (hk2 : ofs.length ≤ 2 ^ 20) : ∃ h', run Try.prog sB 8 [va, vb] h = some (.bool true, h') := by
  obtain ⟨hw0, w⟩ := wakesB
  obtain ⟨v1, hA, mF, hB, e13, eap, gF, kB, hmF⟩ := ownF hv hw (by omega)
  obtain ⟨N, hN⟩ : ∃ N, N = ws.length + 1 := ⟨_, rfl⟩
  rw [← hN] at eap
  have hmFB := Heap.get_lt gF
  have sF : Sl hB (.slice (some ⟨mF, 0, some 0⟩) ws.length 1) 1 ws.length (fl ws) := ⟨by simp [fl], .inr ⟨_, _, rfl, fun _ => ⟨_, _, _, _, _, gF, by rw [List.drop_zero, List.take_append_of_le_length (by simp [fl])]; rw [List.take_of_length_le (by simp [fl])]⟩⟩⟩
  obtain ⟨n0, gg, wv, hC, e20, gn, ggc, lw, kC, f1, f2, f3, f4⟩ := bnew_ex sF (by omega)
  have sC := sF.keep kC (fun _ _ x => x)
  obtain ⟨m1, hD, l1, e15, hll1, g1, kD, hm1, R1⟩ := rank_run sC hw (by omega)
  obtain ⟨m2, hE, l2, e15b, hll2, g2, kE, hm2, R2⟩ := rank_run (sC.keep kD (fun _ _ x => x)) hw (by omega)
  have hm1D := Heap.get_lt g1
  have hm2E := Heap.get_lt g2
  have nB := kB.1
  have nC := kC.1
  have nD := kD.1
  have nE := kE.1
  have kCE : Keep No hC hE := kD.trans kE
  have kBE : Keep No hB hE := kC.trans kCE
  have gFE := kBE.get gF (fun x => x)
  have hvE := hv.keep (kB.trans kBE) (fun _ _ x => x)
  have g7 : (fl ws ++ [Value.float .f64 4619567317775286272])[ws.length]? = some (.float .f64 4619567317775286272) := by
    rw [List.getElem?_append_right (by simp [fl])]; simp [fl]
  have q7 := fun t X hx => fneq t X (.const (.float .f64 4619567317775286272)) 4619567317775286272 4619567317775286272 hx rfl (by omega) (by omega)
  have nN : ws.length ≤ N := by omega
  have nN2 : ws.length < N := by omega
  obtain ⟨a, c, rfl⟩ := sl_form hv
  obtain ⟨b, d, rfl⟩ := sl_form hvb
  suffices hxx : ∃ y, fin Try.prog Try.f8 (aexecP Try.prog (sB 8) (run Try.prog sB) loopω pt8 (Try.f8.body.getD .skip) ([.slice a ws.length c, .slice b ofs.length d] ++ List.replicate (Try.f8.ntmps - 2) undef) h) = some y ∧ y.1 = .bool true by
    obtain ⟨⟨y1, y2⟩, hy, rfl⟩ := hxx
    exact ⟨y2, run_finP pt8 Try.func8 rfl planned8 hy⟩
  simp (maxSteps := 2000000) -implicitDefEqProofs [Try.f8, px_skip, px_label, px_region, px_draw, qx_seq, qx_cond, px_block, px_loop, px_scope, px_exit, px_ret, seqK_normal, seqK_exit, seqK_ret, condK_true, condK_false, opsK_some, wK_true, wK_false, itK_some, aops_nil, aops_cons, lK_some, aK_some, hK_some, dwK_true, dwK_false, diK_some, dK_light, dK_alloc, dK_heavy, adraw_nil, adraw_cons, aop, cls, light, lightS, binE, aeq, intBin, goInt, pl_int, pl_bool, pl_ptr, pl_slice, aload, isAggT, aeval, tput, awanted, List.range_succ, fin, aresults, aresult, List.replicate, heavy, acallOp, aenter, ble_d, beq_d, firstRegion, readNames, Nxt, isAnc, readsOk, objEq_some, pt8_5, pl8_5, an8_5, ibne, ibeq, w, en11, en13, en15, en20, bs25_c, e13, eap, e20, e15, e15b, nD, nE, aslice, abound, aindexAddr, sz34, gFE, g7, q7, c7, nN, nN2, undef, Try.underlying25, Try.underlying28, sB8_9]
  generalize hl : loopω _ _ _ _ = rr
  obtain ⟨h', x54, hx, hh⟩ := useH hl (own1 (vb := b) (vd := d) (m1 := m1) (m2 := m2) (n0 := n0) (k0 := ofs.length) (n := ws.length) (N := N) (ws := ws) rfl hN hw (by omega) hvE gFE _ (by kernel_rfl) _ (by kernel_rfl))
  have hh' := hh.symm
  subst hh'
  subst hx
  clear hl
  simp (maxSteps := 2000000) -implicitDefEqProofs [px_skip, px_label, px_region, px_draw, qx_seq, qx_cond, px_block, px_loop, px_scope, px_exit, px_ret, seqK_normal, seqK_exit, seqK_ret, condK_true, condK_false, opsK_some, wK_true, wK_false, itK_some, aops_nil, aops_cons, lK_some, aK_some, hK_some, dwK_true, dwK_false, diK_some, dK_light, dK_alloc, dK_heavy, adraw_nil, adraw_cons, aop, cls, light, lightS, binE, aeq, intBin, goInt, pl_int, pl_bool, pl_ptr, pl_slice, aload, isAggT, aeval, tput, awanted, List.range_succ, fin, aresults, aresult, List.replicate, heavy, acallOp, aenter, ble_d, beq_d, firstRegion, readNames, Nxt, isAnc, readsOk, objEq_some, Try.underlying25, sB8_15]
  generalize hl : loopω _ _ _ _ = rr
  obtain ⟨hF, x78, hx, cs2, hcl2, gF2, k2⟩ := useH hl (own2 (va := a) (vc := c) (vb := b) (vd := d) (mF := mF) (m1 := m1) (m2 := m2) (n0 := n0) (k0 := ofs.length) (n := ws.length) (N := N) (by omega) ⟨_, by simp [fl]; omega, gFE, Keep.refl _ _⟩ _ (by kernel_rfl) _ (by kernel_rfl))
  subst hx
  clear hl gF2 hcl2
  obtain ⟨hG, hGe⟩ : ∃ x, x = (hF.new (.cells [.slice none 0 0, .int .i64 0, .slice none 0 0] 42 3 false false)).put hF.next (some (.cells [.slice a ws.length c, .int .i64 0, .slice none 0 0] 42 3 false false)) := ⟨_, rfl⟩
  have gz : (hF.new (.cells [.slice none 0 0, .int .i64 0, .slice none 0 0] 42 3 false false)).get hF.next = some (.cells [.slice none 0 0, .int .i64 0, .slice none 0 0] 42 3 false false) := by rw [Heap.get_new, if_pos rfl]
  have kG : Keep No hF hG := hGe ▸ (Keep.new No hF _).also (Keep.put (S := fun m => m = hF.next) (Heap.get_lt gz) rfl _) fun m hm e => by omega
  have gw : hG.get hF.next = some (.cells [.slice a ws.length c, .int .i64 0, .slice none 0 0] 42 3 false false) := by rw [hGe, Heap.get_put (Heap.get_lt gz), if_pos rfl]
  have nF := k2.1
  have nG := kG.1
  have kEG : Keep (fun m => m = mF) hE hG := k2.trans (kG.mono fun _ _ x => x.elim)
  have kCG : Keep (fun m => m = mF) hC hG := (kCE.mono fun _ _ x => x.elim).trans kEG
  have khG : Keep (fun m => m = mF) h hG := ((kB.trans kBE).mono fun _ _ x => x.elim).trans kEG
  have n0C := Heap.get_lt gn
  have ggC := Heap.get_lt ggc
  have wvC := fun m e => lw.sl.lt (m := m) e
  have lwG := lw.keep kCG (fun m e x => by have := (f4 m e).1; omega)
  have bis : Bis hG n0 (fun m => m = n0 ∨ m = gg) ws 0 [] :=
    ⟨gg, .slice none 0 0, wv, kCG.get gn (fun x => by omega), kCG.get ggc (fun x => by omega), Lg.nil _ _ _, lwG.sl, .inl rfl, .inr rfl, f3, (fun m e => by cases e), (fun m e x => by have := f4 m e; omega), (fun m x => by omega), (fun m e => ⟨_, _, _, _, Lg_obj lwG e⟩), fun m x => by rcases x with x | x; exact .inl x; exact .inr (.inl x)⟩
  have hvl := fun m e => hv.lt (m := m) e
  have hvbl := fun m e => hvb.lt (m := m) e
  have st0 : BSt hG n0 hF.next (fun m => m = n0 ∨ m = gg) ws 0 [] (.slice a ws.length c) (.slice none 0 0) :=
    ⟨bis, gw, fun x => by omega, hv.keep khG (fun m e x => by have := hvl m e; omega), (Lg.nil hG 58 2).sl, fun m e => ⟨fun x => by have := hvl m e; omega, by have := hvl m e; omega⟩, fun m e => by cases e⟩
  have ar0 : Arg hG (.slice b ofs.length d) ofs (fun m => m = n0 ∨ m = gg) hF.next :=
    ⟨hvb.keep khG (fun m e x => by have := hvbl m e; omega), fun m e => ⟨fun x => by have := hvbl m e; omega, by have := hvbl m e; omega⟩⟩
  have op0 : OP hG 0 n0 hF.next m1 m2 ws (.slice a ws.length c) (.slice b ofs.length d) ofs l1 l2 :=
    ⟨0, [], _, _, Nat.le_refl 0, Nat.le_refl 0, st0, ar0, kEG.get (kE.get g1 (fun x => x)) (fun x => by omega), kEG.get g2 (fun x => by omega), ⟨fun x => by omega, by omega⟩, ⟨fun x => by omega, by omega⟩, fun m e => by cases e⟩
  have okX : okCells (.agg #[.slice a ws.length c, .int .i64 0, .slice none 0 0]) = some [.slice a ws.length c, .int .i64 0, .slice none 0 0] := rfl
  simp (maxSteps := 2000000) -implicitDefEqProofs [px_skip, px_label, px_region, px_draw, qx_seq, qx_cond, px_block, px_loop, px_scope, px_exit, px_ret, seqK_normal, seqK_exit, seqK_ret, condK_true, condK_false, opsK_some, wK_true, wK_false, itK_some, aops_nil, aops_cons, lK_some, aK_some, hK_some, dwK_true, dwK_false, diK_some, dK_light, dK_alloc, dK_heavy, adraw_nil, adraw_cons, aop, cls, light, lightS, binE, aeq, intBin, goInt, pl_int, pl_bool, pl_ptr, pl_slice, aload, isAggT, aeval, tput, awanted, List.range_succ, fin, aresults, aresult, List.replicate, heavy, acallOp, aenter, ble_d, beq_d, firstRegion, readNames, Nxt, isAnc, readsOk, objEq_some, build42, al42, Try.underlying42, Try.underlying38, Try.underlying28, gz, astore, okX, sz42, ← hGe, sB8_21]
  generalize hl : loopω _ _ _ _ = rr
  obtain ⟨hH, x90, hx, turn, log, F, lv, hlog, htn, hst, har, g1H, g2H, d1, d2, dl⟩ := useH hl (own3 (n := ws.length) (k0 := ofs.length) rfl rfl hw (by omega) (by omega) op0 _ (by kernel_rfl) _ (by kernel_rfl))
  subst hx
  clear hl
  obtain ⟨o5, g5, nF5, r5, l5, nr5, nl5⟩ := hst
  obtain ⟨v6, h6, e6, l6, k6, n6⟩ := blog_run o5 (by omega)
  have o6 := o5.keep k6 (fun _ _ x => x) (fun _ x => x.elim)
  obtain ⟨v7, h7, e7, l7, k7, n7⟩ := blog_run o6 (by omega)
  have k67 := k6.trans k7
  have o7 := o6.keep k7 (fun _ _ x => x) (fun _ x => x.elim)
  have l67 := l6.keep k7 (fun _ _ x => x)
  have n16 := k6.1
  have n17 := k7.1
  have hm1H := Heap.get_lt g1H
  have hm2H := Heap.get_lt g2H
  have hwH := Heap.get_lt g5
  have l6lt := fun m e => l6.sl.lt (m := m) e
  have lvlt := fun m e => l5.lt (m := m) e
  have valt := fun m e => r5.lt (m := m) e
  obtain ⟨xa, xc, rfl⟩ := sl_form l6.sl
  obtain ⟨ya, yc, rfl⟩ := sl_form l7.sl
  simp (maxSteps := 2000000) -implicitDefEqProofs [px_skip, px_label, px_region, px_draw, qx_seq, qx_cond, px_block, px_loop, px_scope, px_exit, px_ret, seqK_normal, seqK_exit, seqK_ret, condK_true, condK_false, opsK_some, wK_true, wK_false, itK_some, aops_nil, aops_cons, lK_some, aK_some, hK_some, dwK_true, dwK_false, diK_some, dK_light, dK_alloc, dK_heavy, adraw_nil, adraw_cons, aop, cls, light, lightS, binE, aeq, intBin, goInt, pl_int, pl_bool, pl_ptr, pl_slice, aload, isAggT, aeval, tput, awanted, List.range_succ, fin, aresults, aresult, List.replicate, heavy, acallOp, aenter, ble_d, beq_d, firstRegion, readNames, Nxt, isAnc, readsOk, objEq_some, en24, e6, e7, Try.underlying38, Try.underlying40, sB8_28]
  generalize hl : loopω _ _ _ _ = rr
  obtain ⟨h8, x116, hx, cs8, lx8, k8⟩ := useH hl (own4 (va := a) (vc := c) (xa := xa) (xc := xc) (v14 := .slice ya log.length yc) (m1 := m1) (m2 := m2) (n0 := n0) (w := hF.next) (n := ws.length) (K := log.length) (by omega) ⟨_, l67, Keep.refl _ _⟩ _ (by kernel_rfl) _ (by kernel_rfl))
  subst hx
  clear hl
  have n18 := k8.1
  have xm1 : nm (.slice xa log.length xc) ≠ some m1 := fun e => by have := n6 m1 e; omega
  have g18 := k8.get (k67.get g1H (fun x => x)) (fun x => xm1 x)
  simp (maxSteps := 2000000) -implicitDefEqProofs [px_skip, px_label, px_region, px_draw, qx_seq, qx_cond, px_block, px_loop, px_scope, px_exit, px_ret, seqK_normal, seqK_exit, seqK_ret, condK_true, condK_false, opsK_some, wK_true, wK_false, itK_some, aops_nil, aops_cons, lK_some, aK_some, hK_some, dwK_true, dwK_false, diK_some, dK_light, dK_alloc, dK_heavy, adraw_nil, adraw_cons, aop, cls, light, lightS, binE, aeq, intBin, goInt, pl_int, pl_bool, pl_ptr, pl_slice, aload, isAggT, aeval, tput, awanted, List.range_succ, fin, aresults, aresult, List.replicate, heavy, acallOp, aenter, ble_d, beq_d, firstRegion, readNames, Nxt, isAnc, readsOk, objEq_some, Try.underlying28, sB8_33]
  generalize hl : loopω _ _ _ _ = rr
  obtain ⟨h9, x126, hx, cs9, hcl9, hco9, g19, k9⟩ := useH hl (own5 (va := a) (vc := c) (v13 := .slice xa log.length xc) (v14 := .slice ya log.length yc) (m1 := m1) (m2 := m2) (n0 := n0) (w := hF.next) (n := ws.length) (by omega) ⟨_, by rw [ints_len]; exact hll1, ints_one _, g18, Keep.refl _ _⟩ _ (by kernel_rfl) _ (by kernel_rfl))
  subst hx
  clear hl
  have n19 := k9.1
  have lx9 := lx8.keep k9 (fun m e x => xm1 (by rw [← show m = m1 from x]; exact e))
  have ag0 : AG h9 h9 (.slice xa log.length xc) (V m1 ws.length) (.slice xa log.length xc) m1 ws.length log.length 0 :=
    ⟨⟨_, lx9⟩, fun m e => .inl e, .inl ⟨rfl, rfl, _, hcl9, g19⟩, fun m e e' => xm1 (by rw [show m1 = m from (nm_eq e').2]; exact e), Keep.refl _ _⟩
  simp (maxSteps := 2000000) -implicitDefEqProofs [px_skip, px_label, px_region, px_draw, qx_seq, qx_cond, px_block, px_loop, px_scope, px_exit, px_ret, seqK_normal, seqK_exit, seqK_ret, condK_true, condK_false, opsK_some, wK_true, wK_false, itK_some, aops_nil, aops_cons, lK_some, aK_some, hK_some, dwK_true, dwK_false, diK_some, dK_light, dK_alloc, dK_heavy, adraw_nil, adraw_cons, aop, cls, light, lightS, binE, aeq, intBin, goInt, pl_int, pl_bool, pl_ptr, pl_slice, aload, isAggT, aeval, tput, awanted, List.range_succ, fin, aresults, aresult, List.replicate, heavy, acallOp, aenter, ble_d, beq_d, firstRegion, readNames, Nxt, isAnc, readsOk, objEq_some, sB8_38]
  generalize hl : loopω _ _ _ _ = rr
  obtain ⟨xx, rx, hT, x132, x133, hx, ag⟩ := useH5 hl (own6 (va := a) (vc := c) (v14 := .slice ya log.length yc) (m1 := m1) (m2 := m2) (n0 := n0) (w := hF.next) (n := ws.length) (K := log.length) (by omega) xm1 (by omega) (by omega) ag0 _ (by kernel_rfl) _ (by kernel_rfl))
  subst hx
  clear hl
  obtain ⟨-, -, -, -, kT⟩ := ag
  have n1T := kT.1
  have k7T : Keep (fun m => nm (.slice xa log.length xc) = some m ∨ m = m1) h7 hT := ((k8.mono fun _ _ x => .inl x).trans (k9.mono fun _ _ x => .inr x)).trans (kT.mono fun _ _ x => .inl x)
  have kHT : Keep (fun m => nm (.slice xa log.length xc) = some m ∨ m = m1) hH hT := (k67.mono fun _ _ x => x.elim).trans k7T
  have vaT := r5.keep kHT (fun m e x => by
    rcases x with x | x
    · have := n6 m x; have := valt m e; omega
    · have := hvl m e; omega)
  obtain ⟨v18, hU, e16, l18, kU, n18'⟩ := rrank_run vaT hw (by omega)
  have hq := rank_uniq R2 (rkTo_rank ws)
  rw [← hq] at l18
  have g2U := kU.get (kHT.get g2H (fun x => by
    rcases x with x | x
    · have := n6 m2 x; omega
    · omega)) (fun x => x)
  have k7U : Keep (fun m => nm (.slice xa log.length xc) = some m ∨ m = m1) h7 hU := k7T.trans (kU.mono fun _ _ x => x.elim)
  have kHU : Keep (fun m => nm (.slice xa log.length xc) = some m ∨ m = m1) hH hU := kHT.trans (kU.mono fun _ _ x => x.elim)
  have oU := o7.keep k7U (fun m fm x => by
    obtain ⟨_, _, _, _, _, _, _, _, _, _, _, _, hFl, _⟩ := o5
    rcases x with x | x
    · have := n6 m x; have := hFl m fm; omega
    · exact d1.1 (x ▸ fm)) (fun m x c s gr ro hc => by
    rcases x with x | x
    · have := Lg_obj l67 x; rw [this] at hc; cases hc
    · rw [show m = m1 from x, k67.get g1H (fun x => x)] at hc; cases hc)
  have gwU := kHU.get g5 (fun x => by
    rcases x with x | x
    · have := n6 _ x; omega
    · exact d1.2 x.symm)
  have lvU := l5.keep kHU (fun m e x => by
    rcases x with x | x
    · have := n6 m x; have := lvlt m e; omega
    · exact (dl m e).1 x)
  have l7U := l7.sl.keep k7U (fun m e x => by
    rcases x with x | x
    · have := n7 m e; have := l6lt m x; omega
    · have := n7 m e; omega)
  obtain ⟨v8, hV, e8, l8, kV, n8⟩ := blog_run oU (by omega)
  have nV := kV.1
  have gwV := kV.get gwU (fun x => x)
  have es1 := same_run l7U lvU (by omega)
  have es2 := same_run l8.sl (lvU.keep kV (fun _ _ x => x)) (by omega)
  obtain ⟨ra, rc, rfl⟩ := sl_form l18.sl
  simp (maxSteps := 2000000) -implicitDefEqProofs [px_skip, px_label, px_region, px_draw, qx_seq, qx_cond, px_block, px_loop, px_scope, px_exit, px_ret, seqK_normal, seqK_exit, seqK_ret, condK_true, condK_false, opsK_some, wK_true, wK_false, itK_some, aops_nil, aops_cons, lK_some, aK_some, hK_some, dwK_true, dwK_false, diK_some, dK_light, dK_alloc, dK_heavy, adraw_nil, adraw_cons, aop, cls, light, lightS, binE, aeq, intBin, goInt, pl_int, pl_bool, pl_ptr, pl_slice, aload, isAggT, aeval, tput, awanted, List.range_succ, fin, aresults, aresult, List.replicate, heavy, acallOp, aenter, ble_d, beq_d, firstRegion, readNames, Nxt, isAnc, readsOk, objEq_some, en16, e16, Try.underlying28, sB8_44]
  generalize hl : loopω _ _ _ _ = rr
  obtain ⟨h', x148, hx, hh⟩ := useH hl (own7 (v14 := .slice ya log.length yc) (m2 := m2) (n0 := n0) (w := hF.next) (n := ws.length) hll2 (by omega) g2U l18.sl _ (by kernel_rfl) _ (by kernel_rfl))
  have hh' := hh.symm
  subst hh'
  subst hx
  clear hl
  simp (maxSteps := 2000000) -implicitDefEqProofs [px_skip, px_label, px_region, px_draw, qx_seq, qx_cond, px_block, px_loop, px_scope, px_exit, px_ret, seqK_normal, seqK_exit, seqK_ret, condK_true, condK_false, opsK_some, wK_true, wK_false, itK_some, aops_nil, aops_cons, lK_some, aK_some, hK_some, dwK_true, dwK_false, diK_some, dK_light, dK_alloc, dK_heavy, adraw_nil, adraw_cons, aop, cls, light, lightS, binE, aeq, intBin, goInt, pl_int, pl_bool, pl_ptr, pl_slice, aload, isAggT, aeval, tput, awanted, List.range_succ, fin, aresults, aresult, List.replicate, heavy, acallOp, aenter, ble_d, beq_d, firstRegion, readNames, Nxt, isAnc, readsOk, objEq_some, pt8_49, pl8_49, an8_49, sz42, Try.underlying42, Try.underlying40, Try.underlying38, en23, en24, fa42_2, gwU, gwV, es1, e8, es2, nV, undef]
theorem own_calls (W : World) {a0 : Option Addr} {len0 cap0 : Nat} {l0 : List Nat} (w0 : U64sAt W a0 len0 cap0 l0) (y0 : len0 * 8 ≤ 140737488351232) (c0 : len0 ≤ 1048576) {a1 : Option Addr} {len1 cap1 : Nat} {l1 : List Int} (w1 : IntsAt W a1 len1 cap1 l1) (y1 : len1 * 8 ≤ 140737488351232) (c1 : len1 ≤ 1048576) :
    Calls Try.prog 8 #[.slice a0 len0 cap0, .slice a1 len1 cap1] W fun e W' => e = .returned (.bool true) ∧ Below W.heap.size W W' := by
  obtain ⟨h, σ, v, hr, hro, _, _, hv, hs, hu, _⟩ := arg_u64s (h := .empty) (σ := fun _ => ⟨0, 0, 0⟩) (Rep.none _ W (Nat.le_refl _) _) allRo_empty 32 w0
  obtain ⟨h', σ', v', hr', hro', hk, hσ, hv', hs', hu', _⟩ := arg_ints hr hro 3 w1
  have := u64s_len w0
  have := w1.1
  obtain ⟨h2, e⟩ := own (hs.keep hk (fun _ _ x => x)) w0.1 hs' (by omega) (by omega)
  exact law_calls mix hro' e rfl hr' (.cons (hv.mono (fun n hn => Nat.lt_of_lt_of_le hn hk.1) (fun n hn => hσ n hn)) (.cons hv' .nil))
end Go.Proofs.Ythkefkpmgleolab.Bi
