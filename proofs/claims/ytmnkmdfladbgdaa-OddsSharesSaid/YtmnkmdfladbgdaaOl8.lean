/- Odds: Minus. -/
import Derived.Test.YtmnkmdfladbgdaaOl6
set_option linter.unusedVariables false
set_option linter.unusedSimpArgs false
namespace Go.Proofs.Ytmnkmdfladbgdaa.Od
open Go Go.Proofs Go.RowKit Go.Proofs.YtmnkmdfladbgdaaAI Go.Proofs.YtmnkmdfladbgdaaFl

noncomputable def lb65 (i : Nat) : Code := (loopsOf (Try.f65.body.getD .skip)).getD i .skip
theorem mi_len {N i La : Nat} {a : List Nat} (hLa : a.length = La) (hi : i ≤ La) : (dg N i ++ a.drop i).length = La := by rw [List.length_append, dg_len, List.length_drop]; omega
theorem mi_get {N i : Nat} {a : List Nat} (hi : i < a.length) : (u3 (dg N i ++ a.drop i))[i]? = some (.int .u32 (a.getD i 0 : Nat)) := by
  have h : (dg N i ++ a.drop i).getD i 0 = a.getD i 0 := by
    rw [List.getD_eq_getElem?_getD, List.getElem?_append_right (by rw [dg_len]; exact Nat.le_refl _), dg_len, Nat.sub_self, List.getElem?_drop, List.getD_eq_getElem?_getD, Nat.add_zero]
  rw [u3_get (by rw [mi_len rfl (Nat.le_of_lt hi)]; exact hi), h]
theorem mi_set {N i d : Nat} {a : List Nat} (hi : i < a.length) (hd : d = N / 4294967296 ^ i % 4294967296) : (dg N i ++ a.drop i).set i d = dg N (i + 1) ++ a.drop (i + 1) := by
  have h2 : a.drop i = a.getD i 0 :: a.drop (i + 1) := by
    rw [List.drop_eq_getElem_cons hi, List.getD_eq_getElem?_getD, List.getElem?_eq_getElem hi, Option.getD_some]
  rw [h2, List.set_append_right _ _ (by rw [dg_len]; exact Nat.le_refl _), dg_len, Nat.sub_self, List.set_cons_zero, dg_succ, List.append_assoc, hd]
  simp
theorem oku3 (k : IntKind) (n : Int) : okCells (.int k n) = some [.int k n] := rfl
set_option maxRecDepth 20000 in
set_option maxHeartbeats 6400000 in
theorem minus1 {h0 : Heap} {xa vb : Option Addr} {xc vcb m La Lb N : Nat} {a b : List Nat} (hLa : a.length = La) (hLb : b.length = Lb) (wa : W32 a) (wb : W32 b) (ka : La ≤ 1000) (kb : Lb ≤ 1000) (hvb : Sl h0 (.slice vb Lb vcb) 1 Lb (u3 b)) (hm : nm (.slice vb Lb vcb) ≠ some m) (hx0 : 0 < La → xa = some ⟨m, 0, some 0⟩ ∧ xc = 1) (v0 : Value) (F : Step) (hFF : F = aexecP Try.prog (sO 65) (run Try.prog sO) loopω pt65 (lb65 0)) (t : Tm)
    (ht : forget [0, 1, 2, 3, 4, 9, 10, 11, 12, 13, 14, 15, 16, 17, 18, 19, 20, 21, 22, 23, 24, 25, 26, 27, 28, 29, 30, 31, 32, 33, 34, 35, 36, 37, 38, 39, 40, 41, 42, 43, 44, 45, 46, 47, 48] t = [unk, unk, unk, unk, unk, .slice xa La xc, .slice vb Lb vcb, v0, .int .i64 (0 : Nat), unk, unk, unk, unk, unk, unk, unk, unk, unk, unk, unk, unk, unk, unk, unk, unk, unk, unk, unk, unk, unk, unk, unk, unk, unk, unk, unk, unk, unk, unk, unk, unk, unk, unk, unk, unk, unk, unk, unk, unk]) (hI0 : ((0 < La → h0.get m = some (.cells (u3 (dg N (0) ++ a.drop (0))) 101 1 true false)) ∧ Keep (fun m' => m' = m) h0 h0 ∧ ∃ c : Nat, v0 = .int .i64 (c : Nat) ∧ N / 4294967296 ^ (0) + nv b / 4294967296 ^ (0) + c = nv a / 4294967296 ^ (0) ∧ c ≤ 1)) :
    ∃ h' v x14 x15 x16 x17, loopω [0, 1, 2, 3, 4, 9, 10, 11, 12, 13, 14, 15, 16, 17, 18, 19, 20, 21, 22, 23, 24, 25, 26, 27, 28, 29, 30, 31, 32, 33, 34, 35, 36, 37, 38, 39, 40, 41, 42, 43, 44, 45, 46, 47, 48] F t h0 = some (.exit 0, [unk, unk, unk, unk, unk, .slice xa La xc, .slice vb Lb vcb, v, .int .i64 (La : Nat), unk, unk, unk, unk, unk, x14, x15, x16, x17, unk, unk, unk, unk, unk, unk, unk, unk, unk, unk, unk, unk, unk, unk, unk, unk, unk, unk, unk, unk, unk, unk, unk, unk, unk, unk, unk, unk, unk, unk, unk], h') ∧ ((0 < La → h'.get m = some (.cells (u3 (dg N (La) ++ a.drop (La))) 101 1 true false)) ∧ Keep (fun m' => m' = m) h0 h' ∧ ∃ c : Nat, v = .int .i64 (c : Nat) ∧ N / 4294967296 ^ (La) + nv b / 4294967296 ^ (La) + c = nv a / 4294967296 ^ (La) ∧ c ≤ 1) := by
  subst hFF
  suffices hs : ∃ e t' h', loopω [0, 1, 2, 3, 4, 9, 10, 11, 12, 13, 14, 15, 16, 17, 18, 19, 20, 21, 22, 23, 24, 25, 26, 27, 28, 29, 30, 31, 32, 33, 34, 35, 36, 37, 38, 39, 40, 41, 42, 43, 44, 45, 46, 47, 48] (aexecP Try.prog (sO 65) (run Try.prog sO) loopω pt65 (lb65 0)) t h0 = some (e, t', h') ∧ (e = .exit 0 ∧ ∃ v x14 x15 x16 x17, t' = [unk, unk, unk, unk, unk, .slice xa La xc, .slice vb Lb vcb, v, .int .i64 (La : Nat), unk, unk, unk, unk, unk, x14, x15, x16, x17, unk, unk, unk, unk, unk, unk, unk, unk, unk, unk, unk, unk, unk, unk, unk, unk, unk, unk, unk, unk, unk, unk, unk, unk, unk, unk, unk, unk, unk, unk, unk] ∧ ((0 < La → h'.get m = some (.cells (u3 (dg N (La) ++ a.drop (La))) 101 1 true false)) ∧ Keep (fun m' => m' = m) h0 h' ∧ ∃ c : Nat, v = .int .i64 (c : Nat) ∧ N / 4294967296 ^ (La) + nv b / 4294967296 ^ (La) + c = nv a / 4294967296 ^ (La) ∧ c ≤ 1)) by
    obtain ⟨e, t', h', q1, rfl, v, x14, x15, x16, x17, rfl, q2⟩ := hs
    exact ⟨h', v, x14, x15, x16, x17, q1, q2⟩
  simp only [lb65, Try.f65, loopsOf, Option.getD_some, List.nil_append, List.append_nil, List.cons_append, List.getD_cons_zero, List.getD_cons_succ]
  refine loop_by (fun k t h' => ∃ (i : Nat) (v : Value), i + k = La ∧ forget [0, 1, 2, 3, 4, 9, 10, 11, 12, 13, 14, 15, 16, 17, 18, 19, 20, 21, 22, 23, 24, 25, 26, 27, 28, 29, 30, 31, 32, 33, 34, 35, 36, 37, 38, 39, 40, 41, 42, 43, 44, 45, 46, 47, 48] t = [unk, unk, unk, unk, unk, .slice xa La xc, .slice vb Lb vcb, v, .int .i64 (i : Nat), unk, unk, unk, unk, unk, unk, unk, unk, unk, unk, unk, unk, unk, unk, unk, unk, unk, unk, unk, unk, unk, unk, unk, unk, unk, unk, unk, unk, unk, unk, unk, unk, unk, unk, unk, unk, unk, unk, unk, unk] ∧ ((0 < La → h'.get m = some (.cells (u3 (dg N (i) ++ a.drop (i))) 101 1 true false)) ∧ Keep (fun m' => m' = m) h0 h' ∧ ∃ c : Nat, v = .int .i64 (c : Nat) ∧ N / 4294967296 ^ (i) + nv b / 4294967296 ^ (i) + c = nv a / 4294967296 ^ (i) ∧ c ≤ 1))
    (fun e t' h' => e = .exit 0 ∧ ∃ v x14 x15 x16 x17, t' = [unk, unk, unk, unk, unk, .slice xa La xc, .slice vb Lb vcb, v, .int .i64 (La : Nat), unk, unk, unk, unk, unk, x14, x15, x16, x17, unk, unk, unk, unk, unk, unk, unk, unk, unk, unk, unk, unk, unk, unk, unk, unk, unk, unk, unk, unk, unk, unk, unk, unk, unk, unk, unk, unk, unk, unk, unk] ∧ ((0 < La → h'.get m = some (.cells (u3 (dg N (La) ++ a.drop (La))) 101 1 true false)) ∧ Keep (fun m' => m' = m) h0 h' ∧ ∃ c : Nat, v = .int .i64 (c : Nat) ∧ N / 4294967296 ^ (La) + nv b / 4294967296 ^ (La) + c = nv a / 4294967296 ^ (La) ∧ c ≤ 1)) ?_ (La) _ _ ⟨0, _, by omega, ht, hI0⟩
  rintro k t h' ⟨i, v, hi, ht, hI⟩
  rw [ht]
  rcases Nat.lt_or_ge i (La) with h1 | h1
  · obtain ⟨hgA, kp, c, rfl, hc1, hc2⟩ := hI
    obtain ⟨rfl, rfl⟩ := hx0 (by omega)
    have hg := hgA (by omega)
    have hinc := @inc64 i (by omega)
    have hcs := cast_succ i
    have hbk := hvb.keep kp fun m' e x => hm (x ▸ e)
    have hlt := Heap.get_lt hg
    obtain ⟨st1, st2⟩ := minus_step wa wb hc1 hc2
    have lga : a.getD i 0 < 4294967296 := wa.get i
    have lgb : b.getD i 0 < 4294967296 := wb.get i
    have hll := mi_len (N := N) hLa (Nat.le_of_lt h1)
    have hgi := mi_get (N := N) (a := a) (i := i) (by omega)
    have hset := fun d hd => mi_set (N := N) (a := a) (i := i) (d := d) (by omega) hd
    have ca : i + 1 ≤ (u3 (dg N i ++ a.drop i)).length := by rw [u3_len]; omega
    have gb : b.length ≤ i → b.getD i 0 = 0 := getD_out
    have hsa := fun d => u3_set (l := dg N i ++ a.drop i) (i := i) (by omega) d
    generalize hxa : a.getD i 0 = x at *
    generalize hxb : b.getD i 0 = y at *
    generalize hLL : dg N i ++ a.drop i = LL at *
    have w0 := wi64 (a := x) rfl (by omega)
    have w0' := wi64 (a := y) rfl (by omega)
    have o5 : ∀ (q : Heap) (d c' : Nat), q = h'.put m (some (.cells (u3 (LL.set i d)) 101 1 true false)) → d = N / 4294967296 ^ i % 4294967296 → N / 4294967296 ^ (i + 1) + nv b / 4294967296 ^ (i + 1) + c' = nv a / 4294967296 ^ (i + 1) → c' ≤ 1 → q.get m = some (.cells (u3 (dg N (i + 1) ++ a.drop (i + 1))) 101 1 true false) ∧ Keep (fun m' => m' = m) h0 q := fun q d c' hq hd _ _ => by
      rw [hset d hd] at hq
      exact ⟨by rw [hq, Heap.get_put hlt, if_pos rfl], by rw [hq]; exact kp.trans (Keep.put (S := fun m' => m' = m) hlt rfl _)⟩
    by_cases i2 : i < Lb
    · by_cases i3 : c + y ≤ x
      · obtain ⟨vb, vcb, C2, ce2, cs2, gr2, ro2, eb, hg2, hc22⟩ := sl_u3 hbk i2
        simp only [Value.slice.injEq, true_and] at eb
        obtain ⟨rfl, rfl⟩ := eb
        rw [hxb] at hc22
        obtain ⟨d1, d2⟩ := st1 (by omega)
        obtain ⟨d, hd⟩ : ∃ d, x - c - y = d := ⟨_, rfl⟩
        rw [hd] at d1
        obtain ⟨q, hq⟩ : ∃ q, q = h'.put m (some (.cells (u3 (LL.set i d)) 101 1 true false)) := ⟨_, rfl⟩
        obtain ⟨o1, o2⟩ := o5 q d 0 hq d1 d2 (by omega)
        have hsd := hsa d
        have q1 : d < 4294967296 := by omega
        have e1 : IntKind.i64.wrap ((x : Int) - (c : Int)) = (x : Int) - (c : Int) := IntWalk.i64_in _ (by omega)
        have e2 : IntKind.i64.wrap ((x : Int) - (c : Int) - (y : Int)) = (d : Int) := by rw [IntWalk.i64_in _ (by omega)]; omega
        have e3 : ¬ ((d : Int) < 0) := by omega
        have e4 : True := trivial
        have e5 := wu32 (a := d) rfl q1
        have e6 : True := trivial
        simp (maxSteps := 2000000) -implicitDefEqProofs [px_skip, px_label, px_region, px_draw, qx_seq, qx_cond, px_block, px_loop, px_scope, px_exit, px_ret, seqK_normal, seqK_exit, seqK_ret, condK_true, condK_false, opsK_some, wK_true, wK_false, itK_some, aops_nil, aops_cons, lK_some, aK_some, hK_some, dwK_true, dwK_false, diK_some, dK_light, dK_alloc, dK_heavy, adraw_nil, adraw_cons, aop, cls, light, lightS, binE, aeq, intBin, goInt, pl_int, pl_bool, pl_ptr, pl_slice, aload, isAggT, aeval, tput, awanted, List.range_succ, fin, aresults, aresult, List.replicate, heavy, acallOp, aenter, ble_d, beq_d, firstRegion, readNames, Nxt, isAnc, readsOk, objEq_some, h1, i2, w0, w0', hg, hgi, hg2, hc22, e1, e2, e3, e4, e5, e6, hsd, ca, astore, oku3, ← hq, aindexAddr, sz101, Try.underlying40, cv101_2, cv2_101, hinc, undef]
        exact ⟨k - 1, by omega, i + 1, by omega, .int .i64 0, by simp (maxSteps := 2000000) only [forget, List.set_cons_succ, List.set_cons_zero, hcs], fun _ => o1, o2, 0, by first | rfl | (simp; done), d2, by omega⟩
      · obtain ⟨vb, vcb, C2, ce2, cs2, gr2, ro2, eb, hg2, hc22⟩ := sl_u3 hbk i2
        simp only [Value.slice.injEq, true_and] at eb
        obtain ⟨rfl, rfl⟩ := eb
        rw [hxb] at hc22
        obtain ⟨d1, d2⟩ := st2 (by omega)
        obtain ⟨d, hd⟩ : ∃ d, x + 4294967296 - c - y = d := ⟨_, rfl⟩
        rw [hd] at d1
        obtain ⟨q, hq⟩ : ∃ q, q = h'.put m (some (.cells (u3 (LL.set i d)) 101 1 true false)) := ⟨_, rfl⟩
        obtain ⟨o1, o2⟩ := o5 q d 1 hq d1 d2 (by omega)
        have hsd := hsa d
        have q1 : d < 4294967296 := by omega
        have e1 : IntKind.i64.wrap ((x : Int) - (c : Int)) = (x : Int) - (c : Int) := IntWalk.i64_in _ (by omega)
        have e2 : IntKind.i64.wrap ((x : Int) - (c : Int) - (y : Int)) = (d : Int) - 4294967296 := by rw [IntWalk.i64_in _ (by omega)]; omega
        have e3 : (d : Int) < 4294967296 := by omega
        have e4 : IntKind.i64.wrap ((d : Int)) = (d : Int) := wi64 rfl (by omega)
        have e5 := wu32 (a := d) rfl q1
        have e6 : (d : Int) - 4294967296 < 0 := by omega
        simp (maxSteps := 2000000) -implicitDefEqProofs [px_skip, px_label, px_region, px_draw, qx_seq, qx_cond, px_block, px_loop, px_scope, px_exit, px_ret, seqK_normal, seqK_exit, seqK_ret, condK_true, condK_false, opsK_some, wK_true, wK_false, itK_some, aops_nil, aops_cons, lK_some, aK_some, hK_some, dwK_true, dwK_false, diK_some, dK_light, dK_alloc, dK_heavy, adraw_nil, adraw_cons, aop, cls, light, lightS, binE, aeq, intBin, goInt, pl_int, pl_bool, pl_ptr, pl_slice, aload, isAggT, aeval, tput, awanted, List.range_succ, fin, aresults, aresult, List.replicate, heavy, acallOp, aenter, ble_d, beq_d, firstRegion, readNames, Nxt, isAnc, readsOk, objEq_some, h1, i2, w0, w0', hg, hgi, hg2, hc22, e1, e2, e3, e4, e5, e6, hsd, ca, astore, oku3, ← hq, aindexAddr, sz101, Try.underlying40, cv101_2, cv2_101, hinc, undef]
        exact ⟨k - 1, by omega, i + 1, by omega, .int .i64 1, by simp (maxSteps := 2000000) only [forget, List.set_cons_succ, List.set_cons_zero, hcs], fun _ => o1, o2, 1, by first | rfl | (simp; done), d2, by omega⟩
    · by_cases i3 : c + y ≤ x
      · have z0 : y = 0 := gb (by omega)
        obtain ⟨d1, d2⟩ := st1 (by omega)
        obtain ⟨d, hd⟩ : ∃ d, x - c - y = d := ⟨_, rfl⟩
        rw [hd] at d1
        obtain ⟨q, hq⟩ : ∃ q, q = h'.put m (some (.cells (u3 (LL.set i d)) 101 1 true false)) := ⟨_, rfl⟩
        obtain ⟨o1, o2⟩ := o5 q d 0 hq d1 d2 (by omega)
        have hsd := hsa d
        have q1 : d < 4294967296 := by omega
        have e1 : IntKind.i64.wrap ((x : Int) - (c : Int)) = (d : Int) := by rw [IntWalk.i64_in _ (by omega)]; omega
        have e2 : True := trivial
        have e3 : ¬ ((d : Int) < 0) := by omega
        have e4 : True := trivial
        have e5 := wu32 (a := d) rfl q1
        have e6 : True := trivial
        simp (maxSteps := 2000000) -implicitDefEqProofs [px_skip, px_label, px_region, px_draw, qx_seq, qx_cond, px_block, px_loop, px_scope, px_exit, px_ret, seqK_normal, seqK_exit, seqK_ret, condK_true, condK_false, opsK_some, wK_true, wK_false, itK_some, aops_nil, aops_cons, lK_some, aK_some, hK_some, dwK_true, dwK_false, diK_some, dK_light, dK_alloc, dK_heavy, adraw_nil, adraw_cons, aop, cls, light, lightS, binE, aeq, intBin, goInt, pl_int, pl_bool, pl_ptr, pl_slice, aload, isAggT, aeval, tput, awanted, List.range_succ, fin, aresults, aresult, List.replicate, heavy, acallOp, aenter, ble_d, beq_d, firstRegion, readNames, Nxt, isAnc, readsOk, objEq_some, h1, i2, w0, w0', hg, hgi, e1, e2, e3, e4, e5, e6, hsd, ca, astore, oku3, ← hq, aindexAddr, sz101, Try.underlying40, cv101_2, cv2_101, hinc, undef]
        exact ⟨k - 1, by omega, i + 1, by omega, .int .i64 0, by simp (maxSteps := 2000000) only [forget, List.set_cons_succ, List.set_cons_zero, hcs], fun _ => o1, o2, 0, by first | rfl | (simp; done), d2, by omega⟩
      · have z0 : y = 0 := gb (by omega)
        obtain ⟨d1, d2⟩ := st2 (by omega)
        obtain ⟨d, hd⟩ : ∃ d, x + 4294967296 - c - y = d := ⟨_, rfl⟩
        rw [hd] at d1
        obtain ⟨q, hq⟩ : ∃ q, q = h'.put m (some (.cells (u3 (LL.set i d)) 101 1 true false)) := ⟨_, rfl⟩
        obtain ⟨o1, o2⟩ := o5 q d 1 hq d1 d2 (by omega)
        have hsd := hsa d
        have q1 : d < 4294967296 := by omega
        have e1 : IntKind.i64.wrap ((x : Int) - (c : Int)) = (d : Int) - 4294967296 := by rw [IntWalk.i64_in _ (by omega)]; omega
        have e2 : True := trivial
        have e3 : (d : Int) < 4294967296 := by omega
        have e4 : IntKind.i64.wrap ((d : Int)) = (d : Int) := wi64 rfl (by omega)
        have e5 := wu32 (a := d) rfl q1
        have e6 : (d : Int) - 4294967296 < 0 := by omega
        simp (maxSteps := 2000000) -implicitDefEqProofs [px_skip, px_label, px_region, px_draw, qx_seq, qx_cond, px_block, px_loop, px_scope, px_exit, px_ret, seqK_normal, seqK_exit, seqK_ret, condK_true, condK_false, opsK_some, wK_true, wK_false, itK_some, aops_nil, aops_cons, lK_some, aK_some, hK_some, dwK_true, dwK_false, diK_some, dK_light, dK_alloc, dK_heavy, adraw_nil, adraw_cons, aop, cls, light, lightS, binE, aeq, intBin, goInt, pl_int, pl_bool, pl_ptr, pl_slice, aload, isAggT, aeval, tput, awanted, List.range_succ, fin, aresults, aresult, List.replicate, heavy, acallOp, aenter, ble_d, beq_d, firstRegion, readNames, Nxt, isAnc, readsOk, objEq_some, h1, i2, w0, w0', hg, hgi, e1, e2, e3, e4, e5, e6, hsd, ca, astore, oku3, ← hq, aindexAddr, sz101, Try.underlying40, cv101_2, cv2_101, hinc, undef]
        exact ⟨k - 1, by omega, i + 1, by omega, .int .i64 1, by simp (maxSteps := 2000000) only [forget, List.set_cons_succ, List.set_cons_zero, hcs], fun _ => o1, o2, 1, by first | rfl | (simp; done), d2, by omega⟩
  · obtain rfl : i = La := by omega
    simp (maxSteps := 2000000) -implicitDefEqProofs [px_skip, px_label, px_region, px_draw, qx_seq, qx_cond, px_block, px_loop, px_scope, px_exit, px_ret, seqK_normal, seqK_exit, seqK_ret, condK_true, condK_false, opsK_some, wK_true, wK_false, itK_some, aops_nil, aops_cons, lK_some, aK_some, hK_some, dwK_true, dwK_false, diK_some, dK_light, dK_alloc, dK_heavy, adraw_nil, adraw_cons, aop, cls, light, lightS, binE, aeq, intBin, goInt, pl_int, pl_bool, pl_ptr, pl_slice, aload, isAggT, aeval, tput, awanted, List.range_succ, fin, aresults, aresult, List.replicate, heavy, acallOp, aenter, ble_d, beq_d, firstRegion, readNames, Nxt, isAnc, readsOk, objEq_some, undef]
    exact hI

theorem minus_run {h : Heap} {v w : Value} {a b : List Nat} (ha : Na h v a) (hb : Na h w b) (hle : nv b ≤ nv a) : ∃ v' h', run Try.prog sO 65 [v, w] h = some (v', h') ∧ Nt h h' v' (nv a - nv b) ∧ (lm (nv a - nv b)).length ≤ a.length := by
  obtain ⟨v1, h1, e1, ⟨l1, k1, n1⟩, b1⟩ := trim_run ha
  obtain ⟨v2, h2, e2, ⟨l2, k2, n2⟩, b2⟩ := trim_run (hb.keep k1)
  have ka := ha.2.2
  have kb := hb.2.2
  have va0 := ha.1
  have vb0 := hb.1
  obtain ⟨xa0, xc0, rfl⟩ := sl_form va0
  obtain ⟨ya0, yc0, rfl⟩ := sl_form vb0
  have l1' := l1.keep k2 fun _ _ x => x
  have s2 := l2.sl
  obtain ⟨_, hform⟩ := l1'
  have hlt := fun m e => l1.sl.lt (m := m) e
  obtain ⟨xa, xc, rfl⟩ := sl_form l1.sl
  obtain ⟨ya, yc, rfl⟩ := sl_form s2
  have na : nv (lm (nv a)) = nv a := nv_lm _
  have nb : nv (lm (nv b)) = nv b := nv_lm _
  generalize hA : lm (nv a) = A at *
  generalize hB : lm (nv b) = B at *
  have wA : W32 A := hA ▸ lm_w _
  have wB : W32 B := hB ▸ lm_w _
  obtain ⟨m, hm1, hm2, hm3⟩ : ∃ m, (0 < A.length → xa = some ⟨m, 0, some 0⟩ ∧ xc = 1) ∧ (0 < A.length → h2.get m = some (.cells (u3 A) 101 1 true false)) ∧ (m < h1.next ∧ h.next ≤ m ∨ A.length = 0 ∧ m = h2.next) := by
    rcases hform with ⟨h0, _⟩ | ⟨m, h0, e, hg⟩
    · exact ⟨h2.next, fun x => by omega, fun x => by omega, .inr ⟨h0, rfl⟩⟩
    · simp only [Value.slice.injEq, true_and] at e
      obtain ⟨rfl, rfl⟩ := e
      exact ⟨m, fun _ => ⟨rfl, rfl⟩, fun _ => hg, .inl ⟨hlt m (nm_pos h0), n1 m (nm_pos h0)⟩⟩
  suffices hx : ∃ y, fin Try.prog Try.f65 (aexecP Try.prog (sO 65) (run Try.prog sO) loopω pt65 (Try.f65.body.getD .skip) ([.slice xa0 a.length xc0, .slice ya0 b.length yc0] ++ List.replicate (Try.f65.ntmps - 2) undef) h) = some y ∧ Nt h y.2 y.1 (nv a - nv b) ∧ (lm (nv a - nv b)).length ≤ A.length by
    obtain ⟨⟨y1, y2⟩, hy, q⟩ := hx
    exact ⟨y1, y2, run_finP pt65 Try.func65 rfl planned65 hy, q.1, by omega⟩
  have hlt2 := fun m e => s2.lt (m := m) e
  simp (maxSteps := 2000000) -implicitDefEqProofs [Try.f65, px_skip, px_label, px_region, px_draw, qx_seq, qx_cond, px_block, px_loop, px_scope, px_exit, px_ret, seqK_normal, seqK_exit, seqK_ret, condK_true, condK_false, opsK_some, wK_true, wK_false, itK_some, aops_nil, aops_cons, lK_some, aK_some, hK_some, dwK_true, dwK_false, diK_some, dK_light, dK_alloc, dK_heavy, adraw_nil, adraw_cons, aop, cls, light, lightS, binE, aeq, intBin, goInt, pl_int, pl_bool, pl_ptr, pl_slice, aload, isAggT, aeval, tput, awanted, List.range_succ, fin, aresults, aresult, List.replicate, heavy, acallOp, aenter, ble_d, beq_d, firstRegion, readNames, Nxt, isAnc, readsOk, objEq_some, Try.underlying40, en85, e1, e2, sO65]
  generalize hl : loopω _ _ _ _ = r
  obtain ⟨h3, v7, x14, x15, x16, x17, hx, q1, q2, _⟩ := useX5 hl (minus1 (h0 := h2) (xa := xa) (xc := xc) (vb := ya) (vcb := yc) (m := m) (La := A.length) (Lb := B.length) (N := nv a - nv b) (a := A) (b := B) rfl rfl wA wB (by omega) (by omega) s2 (fun e => by have := n2 m e; have := hlt2 m e; omega) hm1 _ _ (by kernel_rfl) _ (by kernel_rfl) ⟨fun x => by rw [dg_zero, List.nil_append, List.drop_zero]; exact hm2 x, Keep.refl _ _, 0, rfl, by rw [na, nb]; simp; omega, by omega⟩)
  subst hx
  clear hl
  have hN : nv (dg (nv a - nv b) A.length) = nv a - nv b := by
    rw [nv_dg, Nat.mod_eq_of_lt]
    have := nv_lt wA
    rw [na] at this
    omega
  have hna : Na h3 (.slice xa A.length xc) (dg (nv a - nv b) A.length) := by
    refine ⟨?_, dg_w _ _, by rw [dg_len]; omega⟩
    rw [dg_len]
    rcases Nat.eq_zero_or_pos A.length with h0 | h0
    · rw [h0] at hform ⊢
      rcases hform with ⟨_, h4⟩ | ⟨m', h0', _, _⟩
      · rw [dg_zero]
        rcases h4 with h4 | ⟨m', off, h4⟩
        · rw [h4]; exact (Lg.nil h3 101 1).sl
        · rw [h4]; exact (Lg.empty h3 101 1 m' off).sl
      · omega
    · obtain ⟨rfl, rfl⟩ := hm1 h0
      have hg := q1 h0
      rw [List.drop_length, List.append_nil] at hg
      refine ⟨by rw [u3_len, dg_len]; omega, .inr ⟨_, _, rfl, fun _ => ⟨_, _, _, _, _, hg, by simp [u3_len, dg_len]; exact List.take_of_length_le (by rw [u3_len, dg_len]; exact Nat.le_refl _)⟩⟩⟩
  obtain ⟨v9, h9, e9, n9, k9⟩ := trim_run hna
  rw [hN] at n9 k9
  rw [dg_len] at k9
  simp (maxSteps := 2000000) -implicitDefEqProofs [px_skip, px_label, px_region, px_draw, qx_seq, qx_cond, px_block, px_loop, px_scope, px_exit, px_ret, seqK_normal, seqK_exit, seqK_ret, condK_true, condK_false, opsK_some, wK_true, wK_false, itK_some, aops_nil, aops_cons, lK_some, aK_some, hK_some, dwK_true, dwK_false, diK_some, dK_light, dK_alloc, dK_heavy, adraw_nil, adraw_cons, aop, cls, light, lightS, binE, aeq, intBin, goInt, pl_int, pl_bool, pl_ptr, pl_slice, aload, isAggT, aeval, tput, awanted, List.range_succ, fin, aresults, aresult, List.replicate, heavy, acallOp, aenter, ble_d, beq_d, firstRegion, readNames, Nxt, isAnc, readsOk, objEq_some, Try.underlying40, en85, e9]
  have k1' := k1.1
  have k2' := k2.1
  have q2' := q2.1
  exact ⟨_, _, ⟨rfl, rfl⟩, ⟨n9.1, ((k1.trans k2).also q2 fun m' hm x => by omega).trans n9.2.1, fun m' e => by have := n9.2.2 m' e; omega⟩, k9⟩
end Go.Proofs.Ytmnkmdfladbgdaa.Od
