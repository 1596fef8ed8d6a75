/- Raw numbers that are handed in stay, and are not kept; logs are new memory: the law. -/
import Derived.Test.YthkefkpmgleolaaOr15
set_option linter.unusedVariables false
set_option linter.unusedSimpArgs false
namespace Go.Proofs.Ythkefkpmgleolaa.Or
open Go Go.Proofs Go.RowKit Go.Proofs.YthkefkpmgleolaaAI

theorem sT8_8 : sT 8 8 = [2, 3, 7, 8, 9, 10, 11, 12, 13, 14, 15, 16, 17, 18, 19, 20, 21, 22, 23, 24, 25, 26, 27, 28, 29, 30, 31, 32, 33, 34, 35, 36, 37, 38, 39, 40, 41, 42, 43, 44, 45, 46, 47, 48, 49, 52, 53, 54, 55, 56, 57, 58, 59, 60, 61, 62, 63, 64, 65, 66, 67, 68, 69, 70, 71, 72, 73, 74, 75, 76, 77, 78, 79, 80, 81, 82, 83, 84, 85, 86, 87, 88, 89, 90, 91, 92, 93, 94, 95, 96, 97, 98, 99, 100, 101, 102, 103, 104, 105, 106, 107, 108, 109, 110, 111, 112, 113, 114, 115, 116, 117, 118, 119, 120, 121, 122, 123, 124, 125, 126, 127, 128, 129, 130, 131, 132, 133] := by rfl
theorem sT8_14 : sT 8 14 = [2, 3, 5, 7, 9, 10, 11, 12, 13, 14, 15, 16, 17, 18, 19, 20, 21, 22, 23, 24, 25, 26, 27, 28, 29, 30, 31, 32, 33, 34, 35, 36, 37, 38, 39, 40, 41, 42, 43, 44, 45, 46, 47, 48, 49, 50, 51, 52, 53, 54, 55, 56, 57, 58, 59, 60, 63, 64, 65, 66, 67, 68, 69, 70, 71, 72, 73, 74, 75, 76, 77, 78, 79, 80, 81, 82, 83, 84, 85, 86, 87, 88, 89, 90, 91, 92, 93, 94, 95, 96, 97, 98, 99, 100, 101, 102, 103, 104, 105, 106, 107, 108, 109, 110, 111, 112, 113, 114, 115, 116, 117, 118, 119, 120, 121, 122, 123, 124, 125, 126, 127, 128, 129, 130, 131, 132, 133] := by rfl
theorem sT8_24 : sT 8 24 = [0, 1, 2, 3, 5, 7, 9, 10, 11, 12, 15, 16, 17, 18, 19, 20, 21, 22, 23, 24, 25, 26, 27, 28, 29, 30, 31, 32, 33, 34, 35, 36, 37, 38, 39, 40, 41, 42, 43, 44, 45, 46, 47, 48, 49, 50, 51, 52, 53, 54, 55, 56, 57, 58, 59, 60, 61, 62, 63, 64, 65, 66, 67, 68, 69, 70, 71, 72, 73, 74, 75, 76, 77, 78, 79, 80, 81, 82, 83, 84, 85, 86, 87, 88, 89, 90, 91, 92, 95, 96, 97, 98, 99, 100, 101, 102, 103, 104, 105, 106, 107, 108, 109, 110, 111, 112, 113, 114, 115, 116, 117, 118, 119, 120, 121, 122, 123, 124, 125, 126, 127, 128, 129, 130, 131, 132, 133] := by rfl
theorem sT8_29 : sT 8 29 = [0, 1, 2, 3, 5, 7, 9, 10, 11, 12, 15, 17, 18, 19, 20, 21, 22, 23, 24, 25, 26, 27, 28, 29, 30, 31, 32, 33, 34, 35, 36, 37, 38, 39, 40, 41, 42, 43, 44, 45, 46, 47, 48, 49, 50, 51, 52, 53, 54, 55, 56, 57, 58, 59, 60, 61, 62, 63, 64, 65, 66, 67, 68, 69, 70, 71, 72, 73, 74, 75, 76, 77, 78, 79, 80, 81, 82, 83, 84, 85, 86, 87, 88, 89, 90, 91, 92, 93, 94, 95, 96, 97, 98, 99, 100, 101, 102, 103, 104, 105, 106, 107, 108, 109, 110, 111, 112, 113, 114, 115, 116, 117, 118, 119, 120, 121, 122, 123, 124, 125, 126, 127, 128, 129, 130, 131, 132, 133] := by rfl
def pt8 : PlanTab := fun i => if i = 18 then (pl8_18, an8_18) else (pl8_33, an8_33)
theorem pt8_18 : pt8 18 = (pl8_18, an8_18) := rfl
theorem pt8_33 : pt8 33 = (pl8_33, an8_33) := rfl
theorem planned8 : planned Try.prog pt8 (Try.f8.body.getD .skip) = true := by kernel_rfl
theorem bs29_2 (t : Tm) (d ty pos af gu) : aalloc Try.prog (aeval t) ⟨d, .buildSlice 29 2 #[(0, .const (.int .i64 77)), (1, .const (.int .i64 78))], ty, pos, af, gu⟩ = some (.cells [.int .i64 77, .int .i64 78] 3 1 false false, fun n => .slice (some ⟨n, 0, none⟩) 2 2) := by kernel_rfl
theorem build49_1 (a : Int) : abuild Try.prog 49 [(0, .int .i64 a)] = some (.agg #[.int .i64 a, .int .i64 0]) := by kernel_rfl

/-- The row that is handed in, with two numbers more behind it. -/
theorem full_run {h : Heap} {va : Value} {k : Nat} {cs : List Value} (hv : Sl h va 1 k cs) (h1 : cs.all one = true) (hk : (k + 2) * 8 ≤ 2 ^ 47) :
    ∃ v1 hA m hB, aappend Try.prog 29 29 (.slice (some ⟨h.next, 0, none⟩) 0 0) va (h.new (.cells [] 3 1 false false)) = some (v1, hA) ∧
      aappend Try.prog 29 29 v1 (.slice (some ⟨hA.next, 0, none⟩) 2 2) (hA.new (.cells [.int .i64 77, .int .i64 78] 3 1 false false)) = some (.slice (some ⟨m, 0, some 0⟩) (k + 2) 1, hB) ∧
      hB.get m = some (.cells (cs ++ [.int .i64 77, .int .i64 78]) 3 1 true false) ∧ Keep No h hB ∧ h.next ≤ m := by
  obtain ⟨v1, h2, e, hl, k1, hn1⟩ := fresh_ints hv h1 (by omega)
  have hx : Sl (h2.new (.cells [.int .i64 77, .int .i64 78] 3 1 false false)) (.slice (some ⟨h2.next, 0, none⟩) 2 2) 1 2 [.int .i64 77, .int .i64 78] :=
    ⟨rfl, .inr ⟨_, _, rfl, fun _ => ⟨_, _, _, _, _, by rw [Heap.get_new, if_pos rfl], rfl⟩⟩⟩
  obtain ⟨v2, h3, e3, hl3, hkp3, hn3, _, hf3⟩ := append_lg (t := 29) (xt := 29) Try.underlying29 Try.underlying29 rfl el3 (hl.keep (Keep.new No h2 _) (fun _ _ x => x)) hx (by omega) (by omega) rfl
  obtain ⟨m', em, hm'⟩ := hf3 (by omega)
  rw [Heap.next_new] at hm'
  obtain ⟨hl4, ⟨h0, _⟩ | ⟨m, h0, rfl, hg⟩⟩ := hl3
  · omega
  have hmm : m = m' := by have := nm_eq em; exact this.2
  subst hmm
  exact ⟨v1, h2, m, h3, e, e3, hg, (k1.trans (Keep.new No h2 _)).also hkp3 fun m hm x => (by have := hn1 m x; omega), by have := k1.1; omega⟩

/-- The first loop: the row is overwritten. -/
def Ow1 (K mF : Nat) (h0 h : Heap) : Prop := ∃ cs, cs.length = K ∧ h.get mF = some (.cells cs 3 1 true false) ∧ Keep (fun m => m = mF) h0 h
/-- The second: picks. -/
def Ow2 (i L : Nat) (h : Heap) (n w : Nat) (v : Value) (ofs : List Int) : Prop := ∃ raw log F rv lv, log.length ≤ i ∧ raw.length ≤ L ∧ St h n w F raw log rv lv ∧ Arg h v ofs F w
/-- The third: a log is overwritten. -/
def Ow3 (k : Nat) (h0 h : Heap) (v : Value) : Prop := ∃ cs, Lg h v 49 2 k cs ∧ Keep (fun m => nm v = some m) h0 h
/-- The fourth: it grows. -/
def Ow4 (k : Nat) (h0 h : Heap) (v0 v : Value) : Prop := (∃ cs, Lg h v 49 2 k cs) ∧ Keep (fun m => nm v0 = some m) h0 h ∧ ∀ m, nm v = some m → nm v0 = some m ∨ h0.next ≤ m

set_option maxRecDepth 20000 in
set_option maxHeartbeats 3200000 in
theorem ownLaw {h : Heap} {va vb : Value} {raw ofs : List Int} (hv : Sl h va 1 raw.length (ints raw)) (hu : Un va 1) (hvb : Sl h vb 1 ofs.length (ints ofs)) (hk : raw.length ≤ 2 ^ 20) (hk2 : ofs.length ≤ 2 ^ 20) : ∃ h', run Try.prog sT 8 [va, vb] h = some (.bool true, h') := by
  obtain ⟨hw, w⟩ := wakesT
  obtain ⟨v1, hA, mF, hB, e1, e2, gF, k1, f1⟩ := full_run hv (ints_one _) (by omega)
  obtain ⟨a, c, rfl⟩ := sl_form hv
  obtain ⟨b, d, rfl⟩ := sl_form hvb
  have sF : Sl hB (.slice (some ⟨mF, 0, some 0⟩) raw.length 1) 1 raw.length (ints raw) := ⟨by simp [ints], .inr ⟨_, _, rfl, fun _ => ⟨_, _, _, _, _, gF, by rw [List.drop_zero, List.take_append_of_le_length (by simp [ints])]; rw [List.take_of_length_le (by simp [ints])]⟩⟩⟩
  obtain ⟨n, rv0, hC, e3, gn, lr, k2, hn, hrv⟩ := new_run sT sF (ints_one _) (by omega)
  have gFC := k2.get gF (fun x => x)
  have g77 : (ints raw ++ [Value.int .i64 77, Value.int .i64 78])[raw.length]? = some (.int .i64 77) := by
    rw [List.getElem?_append_right (by simp [ints])]; simp [ints]
  have g78 : (ints raw ++ [Value.int .i64 77, Value.int .i64 78])[raw.length + 1]? = some (.int .i64 78) := by
    rw [List.getElem?_append_right (by simp [ints])]; simp [ints]
  have hw1 : IntKind.i64.wrap ((raw.length : Int) + 1) = (raw.length : Int) + 1 := IntWalk.i64_in _ (by omega)
  suffices hx : ∃ y, fin Try.prog Try.f8 (aexecP Try.prog (sT 8) (run Try.prog sT) loopω pt8 (Try.f8.body.getD .skip) ([.slice a raw.length c, .slice b ofs.length d] ++ List.replicate (Try.f8.ntmps - 2) undef) h) = some y ∧ y.1 = .bool true by
    obtain ⟨⟨y1, y2⟩, hy, rfl⟩ := hx
    exact ⟨y2, run_finP pt8 Try.func8 rfl planned8 hy⟩
  have hl0 : (0 : Int) ≤ (raw.length : Int) + 1 := by omega
  have hl1 : (raw.length : Int) < (raw.length : Int) + 2 := by omega
  have hl2 : (raw.length : Int) + 1 < (raw.length : Int) + 2 := by omega
  simp (maxSteps := 2000000) -implicitDefEqProofs [Try.f8, px_skip, px_label, px_region, px_draw, qx_seq, qx_cond, px_block, px_loop, px_scope, px_exit, px_ret, seqK_normal, seqK_exit, seqK_ret, condK_true, condK_false, opsK_some, wK_true, wK_false, itK_some, aops_nil, aops_cons, lK_some, aK_some, hK_some, dwK_true, dwK_false, diK_some, dK_light, dK_alloc, dK_heavy, adraw_nil, adraw_cons, aop, cls, light, lightS, binE, aeq, intBin, goInt, pl_int, pl_bool, pl_ptr, pl_slice, aload, isAggT, aeval, tput, awanted, List.range_succ, fin, aresults, aresult, List.replicate, heavy, acallOp, aenter, ble_d, beq_d, firstRegion, readNames, Nxt, isAnc, readsOk, objEq_some, ibne, w, en11, en14, bs29, bs29_2, e1, e2, e3, aslice, abound, sz3, aindexAddr, gFC, g77, g78, hw1, hl0, hl1, hl2, Try.underlying30, Try.underlying29, astore, sT8_8]
  generalize hl : loopω _ _ _ _ = r
  obtain ⟨e, h1, x52, hx, hO1⟩ : ∃ e h1 x52, r = some (.exit 0, [.slice a raw.length c, .slice b ofs.length d, unk, unk, .bool false, .slice (some ⟨mF, 0, some 0⟩) (raw.length + 2) 1, .pointer (some ⟨n, 0, none⟩), unk, unk, unk, unk, unk, unk, unk, unk, unk, unk, unk, unk, unk, unk, unk, unk, unk, unk, unk, unk, unk, unk, unk, unk, unk, unk, unk, unk, unk, unk, unk, unk, unk, unk, unk, unk, unk, unk, unk, unk, unk, unk, unk, .int .i64 ((raw.length : Int) + 2), .int .i64 ((raw.length : Int) + 2), x52, unk, unk, unk, unk, unk, unk, unk, unk, unk, unk, unk, unk, unk, unk, unk, unk, unk, unk, unk, unk, unk, unk, unk, unk, unk, unk, unk, unk, unk, unk, unk, unk, unk, unk, unk, unk, unk, unk, unk, unk, unk, unk, unk, unk, unk, unk, unk, unk, unk, unk, unk, unk, unk, unk, unk, unk, unk, unk, unk, unk, unk, unk, unk, unk, unk, unk, unk, unk, unk, unk, unk, unk, unk, unk, unk, unk, unk, unk, unk, unk, unk], h1) ∧ Ow1 (raw.length + 2) mF hC h1 ∧ e = () := by
    obtain ⟨e, t', h', hx, he, x52, ht, hO⟩ : ∃ e t' h', r = some (e, t', h') ∧ e = .exit 0 ∧ ∃ x52, t' = [.slice a raw.length c, .slice b ofs.length d, unk, unk, .bool false, .slice (some ⟨mF, 0, some 0⟩) (raw.length + 2) 1, .pointer (some ⟨n, 0, none⟩), unk, unk, unk, unk, unk, unk, unk, unk, unk, unk, unk, unk, unk, unk, unk, unk, unk, unk, unk, unk, unk, unk, unk, unk, unk, unk, unk, unk, unk, unk, unk, unk, unk, unk, unk, unk, unk, unk, unk, unk, unk, unk, unk, .int .i64 ((raw.length : Int) + 2), .int .i64 ((raw.length : Int) + 2), x52, unk, unk, unk, unk, unk, unk, unk, unk, unk, unk, unk, unk, unk, unk, unk, unk, unk, unk, unk, unk, unk, unk, unk, unk, unk, unk, unk, unk, unk, unk, unk, unk, unk, unk, unk, unk, unk, unk, unk, unk, unk, unk, unk, unk, unk, unk, unk, unk, unk, unk, unk, unk, unk, unk, unk, unk, unk, unk, unk, unk, unk, unk, unk, unk, unk, unk, unk, unk, unk, unk, unk, unk, unk, unk, unk, unk, unk, unk, unk, unk, unk] ∧ Ow1 (raw.length + 2) mF hC h' := by
      rw [← hl]
      refine loop_by (fun k t h' => ∃ i, i + k = raw.length + 2 ∧ forget [2, 3, 7, 8, 9, 10, 11, 12, 13, 14, 15, 16, 17, 18, 19, 20, 21, 22, 23, 24, 25, 26, 27, 28, 29, 30, 31, 32, 33, 34, 35, 36, 37, 38, 39, 40, 41, 42, 43, 44, 45, 46, 47, 48, 49, 52, 53, 54, 55, 56, 57, 58, 59, 60, 61, 62, 63, 64, 65, 66, 67, 68, 69, 70, 71, 72, 73, 74, 75, 76, 77, 78, 79, 80, 81, 82, 83, 84, 85, 86, 87, 88, 89, 90, 91, 92, 93, 94, 95, 96, 97, 98, 99, 100, 101, 102, 103, 104, 105, 106, 107, 108, 109, 110, 111, 112, 113, 114, 115, 116, 117, 118, 119, 120, 121, 122, 123, 124, 125, 126, 127, 128, 129, 130, 131, 132, 133] t = [.slice a raw.length c, .slice b ofs.length d, unk, unk, .bool false, .slice (some ⟨mF, 0, some 0⟩) (raw.length + 2) 1, .pointer (some ⟨n, 0, none⟩), unk, unk, unk, unk, unk, unk, unk, unk, unk, unk, unk, unk, unk, unk, unk, unk, unk, unk, unk, unk, unk, unk, unk, unk, unk, unk, unk, unk, unk, unk, unk, unk, unk, unk, unk, unk, unk, unk, unk, unk, unk, unk, unk, .int .i64 ((raw.length : Int) + 2), .int .i64 (i : Nat), unk, unk, unk, unk, unk, unk, unk, unk, unk, unk, unk, unk, unk, unk, unk, unk, unk, unk, unk, unk, unk, unk, unk, unk, unk, unk, unk, unk, unk, unk, unk, unk, unk, unk, unk, unk, unk, unk, unk, unk, unk, unk, unk, unk, unk, unk, unk, unk, unk, unk, unk, unk, unk, unk, unk, unk, unk, unk, unk, unk, unk, unk, unk, unk, unk, unk, unk, unk, unk, unk, unk, unk, unk, unk, unk, unk, unk, unk, unk, unk, unk, unk] ∧ Ow1 (raw.length + 2) mF hC h')
        (fun e t' h' => e = .exit 0 ∧ ∃ x52, t' = [.slice a raw.length c, .slice b ofs.length d, unk, unk, .bool false, .slice (some ⟨mF, 0, some 0⟩) (raw.length + 2) 1, .pointer (some ⟨n, 0, none⟩), unk, unk, unk, unk, unk, unk, unk, unk, unk, unk, unk, unk, unk, unk, unk, unk, unk, unk, unk, unk, unk, unk, unk, unk, unk, unk, unk, unk, unk, unk, unk, unk, unk, unk, unk, unk, unk, unk, unk, unk, unk, unk, unk, .int .i64 ((raw.length : Int) + 2), .int .i64 ((raw.length : Int) + 2), x52, unk, unk, unk, unk, unk, unk, unk, unk, unk, unk, unk, unk, unk, unk, unk, unk, unk, unk, unk, unk, unk, unk, unk, unk, unk, unk, unk, unk, unk, unk, unk, unk, unk, unk, unk, unk, unk, unk, unk, unk, unk, unk, unk, unk, unk, unk, unk, unk, unk, unk, unk, unk, unk, unk, unk, unk, unk, unk, unk, unk, unk, unk, unk, unk, unk, unk, unk, unk, unk, unk, unk, unk, unk, unk, unk, unk, unk, unk, unk, unk, unk] ∧ Ow1 (raw.length + 2) mF hC h') ?_ (raw.length + 2) _ _ ⟨0, by omega, by kernel_rfl, _, by simp [ints], gFC, Keep.refl _ _⟩
      rintro k t h' ⟨i, hi, ht, cs, hcl, hg, hkp⟩
      rw [ht]
      rcases Nat.lt_or_ge i (raw.length + 2) with h1 | h1
      · have hw : IntKind.i64.wrap ((i : Int) + 1) = ((i + 1 : Nat) : Int) := by rw [IntWalk.i64_in _ (by omega)]; omega
        have hii : ((i + 1 : Nat) : Int) = (i : Int) + 1 := by omega
        have hlt : (i : Int) < (raw.length : Int) + 2 := by omega
        have hle : i + 1 ≤ cs.length := by omega
        obtain ⟨h5, h5e⟩ : ∃ x, x = h'.put mF (some (.cells (cs.take i ++ .int .i64 1099511627776 :: cs.drop (i + 1)) 3 1 true false)) := ⟨_, rfl⟩
        have o5 : Ow1 (raw.length + 2) mF hC h5 := ⟨cs.take i ++ .int .i64 1099511627776 :: cs.drop (i + 1), by simp only [List.length_append, List.length_take, List.length_cons, List.length_drop]; omega, by rw [h5e, Heap.get_put (Heap.get_lt hg), if_pos rfl], hkp.trans (h5e ▸ Keep.put (S := fun m => m = mF) (Heap.get_lt hg) rfl _)⟩
        simp (maxSteps := 2000000) -implicitDefEqProofs [px_skip, px_label, px_region, px_draw, qx_seq, qx_cond, px_block, px_loop, px_scope, px_exit, px_ret, seqK_normal, seqK_exit, seqK_ret, condK_true, condK_false, opsK_some, wK_true, wK_false, itK_some, aops_nil, aops_cons, lK_some, aK_some, hK_some, dwK_true, dwK_false, diK_some, dK_light, dK_alloc, dK_heavy, adraw_nil, adraw_cons, aop, cls, light, lightS, binE, aeq, intBin, goInt, pl_int, pl_bool, pl_ptr, pl_slice, aload, isAggT, aeval, tput, awanted, List.range_succ, fin, aresults, aresult, List.replicate, heavy, acallOp, aenter, ble_d, beq_d, firstRegion, readNames, Nxt, isAnc, readsOk, objEq_some, hlt, aindexAddr, sz3, Try.underlying29, hg, hle, astore, okCells, one, ← h5e, hw]
        exact ⟨k - 1, by omega, i + 1, by omega, by simp (maxSteps := 2000000) only [forget, List.set_cons_succ, List.set_cons_zero, hii], o5⟩
      · obtain rfl : i = raw.length + 2 := by omega
        simp (maxSteps := 2000000) -implicitDefEqProofs [px_skip, px_label, px_region, px_draw, qx_seq, qx_cond, px_block, px_loop, px_scope, px_exit, px_ret, seqK_normal, seqK_exit, seqK_ret, condK_true, condK_false, opsK_some, wK_true, wK_false, itK_some, aops_nil, aops_cons, lK_some, aK_some, hK_some, dwK_true, dwK_false, diK_some, dK_light, dK_alloc, dK_heavy, adraw_nil, adraw_cons, aop, cls, light, lightS, binE, aeq, intBin, goInt, pl_int, pl_bool, pl_ptr, pl_slice, aload, isAggT, aeval, tput, awanted, List.range_succ, fin, aresults, aresult, List.replicate, heavy, acallOp, aenter, ble_d, beq_d, firstRegion, readNames, Nxt, isAnc, readsOk, objEq_some]
        exact ⟨cs, hcl, hg, hkp⟩
    exact ⟨(), h', x52, by rw [hx, he, ht], hO, rfl⟩
  subst hx
  clear hl
  obtain ⟨⟨cs1, hcl1, gF1, k3⟩, -⟩ := hO1
  have kn : Keep No h hC := k1.trans k2
  have k13 : Keep (fun m => m = mF) h h1 := (kn.mono fun _ _ x => x.elim).trans (k3.mono fun _ _ x => x) |> fun x => x
  have hmF : mF < hB.next := Heap.get_lt gF
  obtain ⟨hD, hDe⟩ : ∃ x, x = (h1.new (.cells [.slice none 0 0, .slice none 0 0] 34 2 false false)).put h1.next (some (.cells [.slice a raw.length c, .slice none 0 0] 34 2 false false)) := ⟨_, rfl⟩
  have gD0 : (h1.new (.cells [.slice none 0 0, .slice none 0 0] 34 2 false false)).get h1.next = some (.cells [.slice none 0 0, .slice none 0 0] 34 2 false false) := by rw [Heap.get_new, if_pos rfl]
  have kD : Keep No h1 hD := hDe ▸ (Keep.new No h1 _).also (Keep.put (S := fun m => m = h1.next) (Heap.get_lt gD0) rfl _) fun m hm e => by omega
  have gD : hD.get h1.next = some (.cells [.slice a raw.length c, .slice none 0 0] 34 2 false false) := by rw [hDe, Heap.get_put (Heap.get_lt gD0), if_pos rfl]
  have kAll : Keep (fun m => m = mF) h hD := k13.trans (kD.mono fun _ _ x => x.elim)
  have kCD : Keep (fun m => m = mF) hC hD := k3.trans (kD.mono fun _ _ x => x.elim)
  have lrD := lr.keep kCD (fun m e x => by have := (hrv m e).1; omega)
  have gnD := kCD.get gn (fun x => by omega)
  have l13 := k13.1
  have nle := k1.1
  have nlt : n < hC.next := Heap.get_lt gn
  have l3 := k3.1
  have orD : Orc hD n (fun m => m = n) raw [] :=
    ⟨_, rv0, gnD, Lg.nil _ _ _, lrD.sl, lrD.un, rfl, fun m e => (by cases e), fun m e => (hrv m e).2, fun m e => (by rw [show m = n from e]; exact Heap.get_lt gnD), fun m e => ⟨_, _, _, _, Lg_obj lrD e⟩, fun m e => .inl e⟩
  have st0 : St hD n h1.next (fun m => m = n) raw [] (.slice a raw.length c) (.slice none 0 0) := by
    refine ⟨orD, gD, fun x => by omega, hv.keep kAll (fun m e x => by have := hv.lt e; omega), hu, (Lg.nil hD 49 2).sl, fun m e => ⟨fun x => ?_, ?_⟩, fun m e => by cases e⟩
    · have := hv.lt e; omega
    · have := hv.lt e; omega
  have ar0 : Arg hD (.slice b ofs.length d) ofs (fun m => m = n) h1.next :=
    ⟨hvb.keep kAll (fun m e x => by have := hvb.lt e; omega), fun m e => ⟨fun x => by have := hvb.lt e; omega, by have := hvb.lt e; omega⟩⟩
  have okX : okCells (.agg #[.slice a raw.length c, .slice none 0 0]) = some [.slice a raw.length c, .slice none 0 0] := rfl
  simp (maxSteps := 2000000) -implicitDefEqProofs [px_skip, px_label, px_region, px_draw, qx_seq, qx_cond, px_block, px_loop, px_scope, px_exit, px_ret, seqK_normal, seqK_exit, seqK_ret, condK_true, condK_false, opsK_some, wK_true, wK_false, itK_some, aops_nil, aops_cons, lK_some, aK_some, hK_some, dwK_true, dwK_false, diK_some, dK_light, dK_alloc, dK_heavy, adraw_nil, adraw_cons, aop, cls, light, lightS, binE, aeq, intBin, goInt, pl_int, pl_bool, pl_ptr, pl_slice, aload, isAggT, aeval, tput, awanted, List.range_succ, fin, aresults, aresult, List.replicate, heavy, acallOp, aenter, ble_d, beq_d, firstRegion, readNames, Nxt, isAnc, readsOk, objEq_some, build34, al34, Try.underlying29, gD0, astore, okX, sz34, ← hDe, sT8_14]
  generalize hl : loopω _ _ _ _ = r
  obtain ⟨e, t', h', hx, he, x63, ht, raw1, log1, F1, rv1, lv1, hlog1, hraw1, st1, _⟩ : ∃ e t' h', r = some (e, t', h') ∧ e = .exit 2 ∧ ∃ x63, t' = [.slice a raw.length c, .slice b ofs.length d, unk, unk, .bool false, unk, .pointer (some ⟨n, 0, none⟩), unk, .pointer (some ⟨h1.next, 0, none⟩), unk, unk, unk, unk, unk, unk, unk, unk, unk, unk, unk, unk, unk, unk, unk, unk, unk, unk, unk, unk, unk, unk, unk, unk, unk, unk, unk, unk, unk, unk, unk, unk, unk, unk, unk, unk, unk, unk, unk, unk, unk, unk, unk, unk, unk, unk, unk, unk, unk, unk, unk, unk, .int .i64 ofs.length, .int .i64 ofs.length, x63, unk, unk, unk, unk, unk, unk, unk, unk, unk, unk, unk, unk, unk, unk, unk, unk, unk, unk, unk, unk, unk, unk, unk, unk, unk, unk, unk, unk, unk, unk, unk, unk, unk, unk, unk, unk, unk, unk, unk, unk, unk, unk, unk, unk, unk, unk, unk, unk, unk, unk, unk, unk, unk, unk, unk, unk, unk, unk, unk, unk, unk, unk, unk, unk, unk, unk, unk, unk, unk, unk] ∧ Ow2 ofs.length raw.length h' n h1.next (.slice b ofs.length d) ofs := by
    rw [← hl]
    refine loop_by (fun k t h' => ∃ i, i + k = ofs.length ∧ forget [2, 3, 5, 7, 9, 10, 11, 12, 13, 14, 15, 16, 17, 18, 19, 20, 21, 22, 23, 24, 25, 26, 27, 28, 29, 30, 31, 32, 33, 34, 35, 36, 37, 38, 39, 40, 41, 42, 43, 44, 45, 46, 47, 48, 49, 50, 51, 52, 53, 54, 55, 56, 57, 58, 59, 60, 63, 64, 65, 66, 67, 68, 69, 70, 71, 72, 73, 74, 75, 76, 77, 78, 79, 80, 81, 82, 83, 84, 85, 86, 87, 88, 89, 90, 91, 92, 93, 94, 95, 96, 97, 98, 99, 100, 101, 102, 103, 104, 105, 106, 107, 108, 109, 110, 111, 112, 113, 114, 115, 116, 117, 118, 119, 120, 121, 122, 123, 124, 125, 126, 127, 128, 129, 130, 131, 132, 133] t = [.slice a raw.length c, .slice b ofs.length d, unk, unk, .bool false, unk, .pointer (some ⟨n, 0, none⟩), unk, .pointer (some ⟨h1.next, 0, none⟩), unk, unk, unk, unk, unk, unk, unk, unk, unk, unk, unk, unk, unk, unk, unk, unk, unk, unk, unk, unk, unk, unk, unk, unk, unk, unk, unk, unk, unk, unk, unk, unk, unk, unk, unk, unk, unk, unk, unk, unk, unk, unk, unk, unk, unk, unk, unk, unk, unk, unk, unk, unk, .int .i64 ofs.length, .int .i64 (i : Nat), unk, unk, unk, unk, unk, unk, unk, unk, unk, unk, unk, unk, unk, unk, unk, unk, unk, unk, unk, unk, unk, unk, unk, unk, unk, unk, unk, unk, unk, unk, unk, unk, unk, unk, unk, unk, unk, unk, unk, unk, unk, unk, unk, unk, unk, unk, unk, unk, unk, unk, unk, unk, unk, unk, unk, unk, unk, unk, unk, unk, unk, unk, unk, unk, unk, unk, unk, unk, unk, unk, unk] ∧ Ow2 i raw.length h' n h1.next (.slice b ofs.length d) ofs)
      (fun e t' h' => e = .exit 2 ∧ ∃ x63, t' = [.slice a raw.length c, .slice b ofs.length d, unk, unk, .bool false, unk, .pointer (some ⟨n, 0, none⟩), unk, .pointer (some ⟨h1.next, 0, none⟩), unk, unk, unk, unk, unk, unk, unk, unk, unk, unk, unk, unk, unk, unk, unk, unk, unk, unk, unk, unk, unk, unk, unk, unk, unk, unk, unk, unk, unk, unk, unk, unk, unk, unk, unk, unk, unk, unk, unk, unk, unk, unk, unk, unk, unk, unk, unk, unk, unk, unk, unk, unk, .int .i64 ofs.length, .int .i64 ofs.length, x63, unk, unk, unk, unk, unk, unk, unk, unk, unk, unk, unk, unk, unk, unk, unk, unk, unk, unk, unk, unk, unk, unk, unk, unk, unk, unk, unk, unk, unk, unk, unk, unk, unk, unk, unk, unk, unk, unk, unk, unk, unk, unk, unk, unk, unk, unk, unk, unk, unk, unk, unk, unk, unk, unk, unk, unk, unk, unk, unk, unk, unk, unk, unk, unk, unk, unk, unk, unk, unk, unk] ∧ Ow2 ofs.length raw.length h' n h1.next (.slice b ofs.length d) ofs) ?_ ofs.length _ _ ⟨0, by omega, by kernel_rfl, raw, [], _, _, _, by simp, by omega, st0, ar0⟩
    rintro k t h' ⟨i, hi, ht, raw1, log1, F1, rv1, lv1, hlog1, hraw1, st1, ar1⟩
    rw [ht]
    rcases Nat.lt_or_ge i ofs.length with h1' | h1'
    · obtain ⟨hh1, F3, hh2, rv2, lv2, e3, e4, g1, q1, q2, o1, o2, f3, _, _, fin3⟩ := round_mem sT (ofs.getD i 0) st1 (by omega)
      obtain ⟨b, d, C, ce, cs, gr, ro, eb, hgb, hcb⟩ := sl_index ar1.1 h1'
      simp only [Value.slice.injEq, true_and] at eb
      obtain ⟨rfl, rfl⟩ := eb
      have hgb1 := q1.get hgb (fun x => (ar1.2 b.block (nm_pos (by omega))).1 x)
      obtain ⟨g4w, st5, k5⟩ := fin3 hh2 (Keep.refl _ _)
      obtain ⟨h5, h5e⟩ : ∃ x, x = hh2.put h1.next (some (.cells [rv2, lv2] 34 2 false false)) := ⟨_, rfl⟩
      rw [← h5e] at st5 k5
      have ar5 := ar1.keep k5 f3
      have hll := logN_len raw1 log1 (ofs.getD i 0)
      have hrl := rawN_len raw1 (ofs.getD i 0)
      have okR := okc_agg o1 o2
      have n12 := q2.1
      have n25 : hh2.next ≤ h5.next := by rw [h5e]; exact Nat.le_refl _
      have hw : IntKind.i64.wrap ((i : Int) + 1) = ((i + 1 : Nat) : Int) := by rw [IntWalk.i64_in _ (by omega)]; omega
      have hii : ((i + 1 : Nat) : Int) = (i : Int) + 1 := by omega
      have hcb' : C[b.off + i]? = some (.int .i64 (ofs.getD i 0)) := hcb
      generalize ofs.getD i 0 = of at *
      have o5 : Ow2 (i + 1) raw.length h5 n h1.next (.slice (some b) ofs.length d) ofs := ⟨_, _, F3, rv2, lv2, by omega, by omega, st5, ar5⟩
      simp (maxSteps := 2000000) -implicitDefEqProofs [px_skip, px_label, px_region, px_draw, qx_seq, qx_cond, px_block, px_loop, px_scope, px_exit, px_ret, seqK_normal, seqK_exit, seqK_ret, condK_true, condK_false, opsK_some, wK_true, wK_false, itK_some, aops_nil, aops_cons, lK_some, aK_some, hK_some, dwK_true, dwK_false, diK_some, dK_light, dK_alloc, dK_heavy, adraw_nil, adraw_cons, aop, cls, light, lightS, binE, aeq, intBin, goInt, pl_int, pl_bool, pl_ptr, pl_slice, aload, isAggT, aeval, tput, awanted, List.range_succ, fin, aresults, aresult, List.replicate, heavy, acallOp, aenter, ble_d, beq_d, firstRegion, readNames, Nxt, isAnc, readsOk, objEq_some, pt8_18, pl8_18, an8_18, ibne, h1', aindexAddr, sz3, sz34, Try.underlying34, Try.underlying29, Try.underlying32, hgb, hgb1, hcb', en15, en16, e3, e4, g1, astore, okR, g4w, ← h5e, n12, n25, hw]
      exact ⟨k - 1, by omega, i + 1, by omega, by simp (maxSteps := 2000000) only [forget, List.set_cons_succ, List.set_cons_zero, hii], o5⟩
    · have hi' : i = ofs.length := by omega
      subst hi'
      simp (maxSteps := 2000000) -implicitDefEqProofs [px_skip, px_label, px_region, px_draw, qx_seq, qx_cond, px_block, px_loop, px_scope, px_exit, px_ret, seqK_normal, seqK_exit, seqK_ret, condK_true, condK_false, opsK_some, wK_true, wK_false, itK_some, aops_nil, aops_cons, lK_some, aK_some, hK_some, dwK_true, dwK_false, diK_some, dK_light, dK_alloc, dK_heavy, adraw_nil, adraw_cons, aop, cls, light, lightS, binE, aeq, intBin, goInt, pl_int, pl_bool, pl_ptr, pl_slice, aload, isAggT, aeval, tput, awanted, List.range_succ, fin, aresults, aresult, List.replicate, heavy, acallOp, aenter, ble_d, beq_d, firstRegion, readNames, Nxt, isAnc, readsOk, objEq_some]
      exact ⟨raw1, log1, F1, rv1, lv1, hlog1, hraw1, st1, ar1⟩
  subst hx he ht
  clear hl
  have st1' := st1
  obtain ⟨o5, g5, nF5, r5, u5, l5, nr5, nl5⟩ := st1'
  obtain ⟨lF, lw, lr', ll⟩ := st1.lt
  obtain ⟨rc1, rd1, rfl⟩ := sl_form r5
  obtain ⟨va2, h2, e2', la, k6, na⟩ := log_run sT o5 (by omega)
  have o6 := o5.keep k6 (fun _ _ x => x) (fun _ x => x.elim)
  obtain ⟨vb2, h3, e4', lb, k7, nb⟩ := log_run sT o6 (by omega)
  have la3 := la.keep k7 (fun _ _ x => x)
  have st3 := st1.keep (k6.trans k7) (fun _ _ x => x) (fun _ x => x.elim) (fun x => x) (fun _ _ x => x) (fun _ _ x => x)
  obtain ⟨vaa, vac, rfl⟩ := sl_form la.sl
  obtain ⟨vba, vbc, rfl⟩ := sl_form lb.sl
  have n6 := k6.1
  have n7 := k7.1
  simp (maxSteps := 2000000) -implicitDefEqProofs [px_skip, px_label, px_region, px_draw, qx_seq, qx_cond, px_block, px_loop, px_scope, px_exit, px_ret, seqK_normal, seqK_exit, seqK_ret, condK_true, condK_false, opsK_some, wK_true, wK_false, itK_some, aops_nil, aops_cons, lK_some, aK_some, hK_some, dwK_true, dwK_false, diK_some, dK_light, dK_alloc, dK_heavy, adraw_nil, adraw_cons, aop, cls, light, lightS, binE, aeq, intBin, goInt, pl_int, pl_bool, pl_ptr, pl_slice, aload, isAggT, aeval, tput, awanted, List.range_succ, fin, aresults, aresult, List.replicate, heavy, acallOp, aenter, ble_d, beq_d, firstRegion, readNames, Nxt, isAnc, readsOk, objEq_some, en19, e2', e4', Try.underlying32, sT8_24]
  generalize hl : loopω _ _ _ _ = r
  obtain ⟨e, t', h4, hx, he, x95, ht, cs3, lg4, k8⟩ : ∃ e t' h', r = some (e, t', h') ∧ e = .exit 4 ∧ ∃ x95, t' = [unk, unk, unk, unk, .bool false, unk, .pointer (some ⟨n, 0, none⟩), unk, .pointer (some ⟨h1.next, 0, none⟩), unk, unk, unk, unk, .slice vaa log1.length vac, .slice vba log1.length vbc, unk, unk, unk, unk, unk, unk, unk, unk, unk, unk, unk, unk, unk, unk, unk, unk, unk, unk, unk, unk, unk, unk, unk, unk, unk, unk, unk, unk, unk, unk, unk, unk, unk, unk, unk, unk, unk, unk, unk, unk, unk, unk, unk, unk, unk, unk, unk, unk, unk, unk, unk, unk, unk, unk, unk, unk, unk, unk, unk, unk, unk, unk, unk, unk, unk, unk, unk, unk, unk, unk, unk, unk, unk, unk, unk, unk, unk, unk, .int .i64 log1.length, .int .i64 log1.length, x95, unk, unk, unk, unk, unk, unk, unk, unk, unk, unk, unk, unk, unk, unk, unk, unk, unk, unk, unk, unk, unk, unk, unk, unk, unk, unk, unk, unk, unk, unk, unk, unk, unk, unk, unk, unk, unk, unk] ∧ Ow3 log1.length h3 h' (.slice vaa log1.length vac) := by
    rw [← hl]
    refine loop_by (fun k t h' => ∃ i, i + k = log1.length ∧ forget [0, 1, 2, 3, 5, 7, 9, 10, 11, 12, 15, 16, 17, 18, 19, 20, 21, 22, 23, 24, 25, 26, 27, 28, 29, 30, 31, 32, 33, 34, 35, 36, 37, 38, 39, 40, 41, 42, 43, 44, 45, 46, 47, 48, 49, 50, 51, 52, 53, 54, 55, 56, 57, 58, 59, 60, 61, 62, 63, 64, 65, 66, 67, 68, 69, 70, 71, 72, 73, 74, 75, 76, 77, 78, 79, 80, 81, 82, 83, 84, 85, 86, 87, 88, 89, 90, 91, 92, 95, 96, 97, 98, 99, 100, 101, 102, 103, 104, 105, 106, 107, 108, 109, 110, 111, 112, 113, 114, 115, 116, 117, 118, 119, 120, 121, 122, 123, 124, 125, 126, 127, 128, 129, 130, 131, 132, 133] t = [unk, unk, unk, unk, .bool false, unk, .pointer (some ⟨n, 0, none⟩), unk, .pointer (some ⟨h1.next, 0, none⟩), unk, unk, unk, unk, .slice vaa log1.length vac, .slice vba log1.length vbc, unk, unk, unk, unk, unk, unk, unk, unk, unk, unk, unk, unk, unk, unk, unk, unk, unk, unk, unk, unk, unk, unk, unk, unk, unk, unk, unk, unk, unk, unk, unk, unk, unk, unk, unk, unk, unk, unk, unk, unk, unk, unk, unk, unk, unk, unk, unk, unk, unk, unk, unk, unk, unk, unk, unk, unk, unk, unk, unk, unk, unk, unk, unk, unk, unk, unk, unk, unk, unk, unk, unk, unk, unk, unk, unk, unk, unk, unk, .int .i64 log1.length, .int .i64 (i : Nat), unk, unk, unk, unk, unk, unk, unk, unk, unk, unk, unk, unk, unk, unk, unk, unk, unk, unk, unk, unk, unk, unk, unk, unk, unk, unk, unk, unk, unk, unk, unk, unk, unk, unk, unk, unk, unk, unk, unk] ∧ Ow3 log1.length h3 h' (.slice vaa log1.length vac))
      (fun e t' h' => e = .exit 4 ∧ ∃ x95, t' = [unk, unk, unk, unk, .bool false, unk, .pointer (some ⟨n, 0, none⟩), unk, .pointer (some ⟨h1.next, 0, none⟩), unk, unk, unk, unk, .slice vaa log1.length vac, .slice vba log1.length vbc, unk, unk, unk, unk, unk, unk, unk, unk, unk, unk, unk, unk, unk, unk, unk, unk, unk, unk, unk, unk, unk, unk, unk, unk, unk, unk, unk, unk, unk, unk, unk, unk, unk, unk, unk, unk, unk, unk, unk, unk, unk, unk, unk, unk, unk, unk, unk, unk, unk, unk, unk, unk, unk, unk, unk, unk, unk, unk, unk, unk, unk, unk, unk, unk, unk, unk, unk, unk, unk, unk, unk, unk, unk, unk, unk, unk, unk, unk, .int .i64 log1.length, .int .i64 log1.length, x95, unk, unk, unk, unk, unk, unk, unk, unk, unk, unk, unk, unk, unk, unk, unk, unk, unk, unk, unk, unk, unk, unk, unk, unk, unk, unk, unk, unk, unk, unk, unk, unk, unk, unk, unk, unk, unk, unk] ∧ Ow3 log1.length h3 h' (.slice vaa log1.length vac)) ?_ log1.length _ _ ⟨0, by omega, by kernel_rfl, _, la3, Keep.refl _ _⟩
    rintro k t h' ⟨i, hi, ht, cs, lg, kp⟩
    rw [ht]
    rcases Nat.lt_or_ge i log1.length with h1' | h1'
    · obtain ⟨hcl, ⟨h0, _⟩ | ⟨m, h0, eq, hg⟩⟩ := lg
      · omega
      simp only [Value.slice.injEq, true_and] at eq
      obtain ⟨rfl, rfl⟩ := eq
      have hw : IntKind.i64.wrap ((i : Int) + 1) = ((i + 1 : Nat) : Int) := by rw [IntWalk.i64_in _ (by omega)]; omega
      have hii : ((i + 1 : Nat) : Int) = (i : Int) + 1 := by omega
      have hle : i * 2 + 2 ≤ cs.length := by omega
      obtain ⟨h5, h5e⟩ : ∃ x, x = h'.put m (some (.cells (cs.take (i * 2) ++ .int .i64 (-1) :: .int .i64 (-2) :: cs.drop (i * 2 + 2)) 49 2 true false)) := ⟨_, rfl⟩
      have o5 : Ow3 log1.length h3 h5 (.slice (some ⟨m, 0, some 0⟩) log1.length 2) :=
        ⟨cs.take (i * 2) ++ .int .i64 (-1) :: .int .i64 (-2) :: cs.drop (i * 2 + 2), ⟨by simp only [List.length_append, List.length_take, List.length_cons, List.length_drop]; omega, .inr ⟨m, h0, rfl, by rw [h5e, Heap.get_put (Heap.get_lt hg), if_pos rfl]⟩⟩, kp.trans (h5e ▸ Keep.put (S := fun x => nm (.slice (some ⟨m, 0, some 0⟩) log1.length 2) = some x) (Heap.get_lt hg) (nm_pos h0) _)⟩
      simp (maxSteps := 2000000) -implicitDefEqProofs [px_skip, px_label, px_region, px_draw, qx_seq, qx_cond, px_block, px_loop, px_scope, px_exit, px_ret, seqK_normal, seqK_exit, seqK_ret, condK_true, condK_false, opsK_some, wK_true, wK_false, itK_some, aops_nil, aops_cons, lK_some, aK_some, hK_some, dwK_true, dwK_false, diK_some, dK_light, dK_alloc, dK_heavy, adraw_nil, adraw_cons, aop, cls, light, lightS, binE, aeq, intBin, goInt, pl_int, pl_bool, pl_ptr, pl_slice, aload, isAggT, aeval, tput, awanted, List.range_succ, fin, aresults, aresult, List.replicate, heavy, acallOp, aenter, ble_d, beq_d, firstRegion, readNames, Nxt, isAnc, readsOk, objEq_some, h1', aindexAddr, sz49, Try.underlying32, build49, hg, hle, astore, okCells, one, ← h5e, hw]
      exact ⟨k - 1, by omega, i + 1, by omega, by simp (maxSteps := 2000000) only [forget, List.set_cons_succ, List.set_cons_zero, hii], o5⟩
    · have hi' : i = log1.length := by omega
      subst hi'
      simp (maxSteps := 2000000) -implicitDefEqProofs [px_skip, px_label, px_region, px_draw, qx_seq, qx_cond, px_block, px_loop, px_scope, px_exit, px_ret, seqK_normal, seqK_exit, seqK_ret, condK_true, condK_false, opsK_some, wK_true, wK_false, itK_some, aops_nil, aops_cons, lK_some, aK_some, hK_some, dwK_true, dwK_false, diK_some, dK_light, dK_alloc, dK_heavy, adraw_nil, adraw_cons, aop, cls, light, lightS, binE, aeq, intBin, goInt, pl_int, pl_bool, pl_ptr, pl_slice, aload, isAggT, aeval, tput, awanted, List.range_succ, fin, aresults, aresult, List.replicate, heavy, acallOp, aenter, ble_d, beq_d, firstRegion, readNames, Nxt, isAnc, readsOk, objEq_some]
      exact ⟨cs, lg, kp⟩
  subst hx he ht
  clear hl
  simp (maxSteps := 2000000) -implicitDefEqProofs [px_skip, px_label, px_region, px_draw, qx_seq, qx_cond, px_block, px_loop, px_scope, px_exit, px_ret, seqK_normal, seqK_exit, seqK_ret, condK_true, condK_false, opsK_some, wK_true, wK_false, itK_some, aops_nil, aops_cons, lK_some, aK_some, hK_some, dwK_true, dwK_false, diK_some, dK_light, dK_alloc, dK_heavy, adraw_nil, adraw_cons, aop, cls, light, lightS, binE, aeq, intBin, goInt, pl_int, pl_bool, pl_ptr, pl_slice, aload, isAggT, aeval, tput, awanted, List.range_succ, fin, aresults, aresult, List.replicate, heavy, acallOp, aenter, ble_d, beq_d, firstRegion, readNames, Nxt, isAnc, readsOk, objEq_some, sT8_29]
  generalize hl : loopω _ _ _ _ = r
  obtain ⟨e, t', h5, hx, he, v9, x102, x103, ht, _, k9, _⟩ : ∃ e t' h', r = some (e, t', h') ∧ e = .exit 6 ∧ ∃ v9 x102 x103, t' = [unk, unk, unk, unk, .bool false, unk, .pointer (some ⟨n, 0, none⟩), unk, .pointer (some ⟨h1.next, 0, none⟩), unk, unk, unk, unk, v9, .slice vba log1.length vbc, unk, .int .i64 20, unk, unk, unk, unk, unk, unk, unk, unk, unk, unk, unk, unk, unk, unk, unk, unk, unk, unk, unk, unk, unk, unk, unk, unk, unk, unk, unk, unk, unk, unk, unk, unk, unk, unk, unk, unk, unk, unk, unk, unk, unk, unk, unk, unk, unk, unk, unk, unk, unk, unk, unk, unk, unk, unk, unk, unk, unk, unk, unk, unk, unk, unk, unk, unk, unk, unk, unk, unk, unk, unk, unk, unk, unk, unk, unk, unk, unk, unk, unk, unk, unk, unk, unk, unk, unk, x102, x103, unk, unk, unk, unk, unk, unk, unk, unk, unk, unk, unk, unk, unk, unk, unk, unk, unk, unk, unk, unk, unk, unk, unk, unk, unk, unk, unk, unk, unk, unk] ∧ Ow4 (log1.length + 20) h4 h' (.slice vaa log1.length vac) v9 := by
    rw [← hl]
    refine loop_by (fun k t h' => ∃ i v9, i + k = 20 ∧ forget [0, 1, 2, 3, 5, 7, 9, 10, 11, 12, 15, 17, 18, 19, 20, 21, 22, 23, 24, 25, 26, 27, 28, 29, 30, 31, 32, 33, 34, 35, 36, 37, 38, 39, 40, 41, 42, 43, 44, 45, 46, 47, 48, 49, 50, 51, 52, 53, 54, 55, 56, 57, 58, 59, 60, 61, 62, 63, 64, 65, 66, 67, 68, 69, 70, 71, 72, 73, 74, 75, 76, 77, 78, 79, 80, 81, 82, 83, 84, 85, 86, 87, 88, 89, 90, 91, 92, 93, 94, 95, 96, 97, 98, 99, 100, 101, 102, 103, 104, 105, 106, 107, 108, 109, 110, 111, 112, 113, 114, 115, 116, 117, 118, 119, 120, 121, 122, 123, 124, 125, 126, 127, 128, 129, 130, 131, 132, 133] t = [unk, unk, unk, unk, .bool false, unk, .pointer (some ⟨n, 0, none⟩), unk, .pointer (some ⟨h1.next, 0, none⟩), unk, unk, unk, unk, v9, .slice vba log1.length vbc, unk, .int .i64 (i : Nat), unk, unk, unk, unk, unk, unk, unk, unk, unk, unk, unk, unk, unk, unk, unk, unk, unk, unk, unk, unk, unk, unk, unk, unk, unk, unk, unk, unk, unk, unk, unk, unk, unk, unk, unk, unk, unk, unk, unk, unk, unk, unk, unk, unk, unk, unk, unk, unk, unk, unk, unk, unk, unk, unk, unk, unk, unk, unk, unk, unk, unk, unk, unk, unk, unk, unk, unk, unk, unk, unk, unk, unk, unk, unk, unk, unk, unk, unk, unk, unk, unk, unk, unk, unk, unk, unk, unk, unk, unk, unk, unk, unk, unk, unk, unk, unk, unk, unk, unk, unk, unk, unk, unk, unk, unk, unk, unk, unk, unk, unk, unk, unk, unk, unk, unk, unk, unk] ∧ Ow4 (log1.length + i) h4 h' (.slice vaa log1.length vac) v9)
      (fun e t' h' => e = .exit 6 ∧ ∃ v9 x102 x103, t' = [unk, unk, unk, unk, .bool false, unk, .pointer (some ⟨n, 0, none⟩), unk, .pointer (some ⟨h1.next, 0, none⟩), unk, unk, unk, unk, v9, .slice vba log1.length vbc, unk, .int .i64 20, unk, unk, unk, unk, unk, unk, unk, unk, unk, unk, unk, unk, unk, unk, unk, unk, unk, unk, unk, unk, unk, unk, unk, unk, unk, unk, unk, unk, unk, unk, unk, unk, unk, unk, unk, unk, unk, unk, unk, unk, unk, unk, unk, unk, unk, unk, unk, unk, unk, unk, unk, unk, unk, unk, unk, unk, unk, unk, unk, unk, unk, unk, unk, unk, unk, unk, unk, unk, unk, unk, unk, unk, unk, unk, unk, unk, unk, unk, unk, unk, unk, unk, unk, unk, unk, x102, x103, unk, unk, unk, unk, unk, unk, unk, unk, unk, unk, unk, unk, unk, unk, unk, unk, unk, unk, unk, unk, unk, unk, unk, unk, unk, unk, unk, unk, unk, unk] ∧ Ow4 (log1.length + 20) h4 h' (.slice vaa log1.length vac) v9) ?_ 20 _ _ ⟨0, _, by omega, by kernel_rfl, ⟨_, lg4⟩, Keep.refl _ _, fun m e => .inl e⟩
    rintro k t h' ⟨i, v9, hi, ht, ⟨cs, lg⟩, kp, nv⟩
    rw [ht]
    rcases Nat.lt_or_ge i 20 with h1' | h1'
    · have hx : Sl (h'.new (.cells [.int .i64 (-3), .int .i64 0] 49 2 false false)) (.slice (some ⟨h'.next, 0, none⟩) 1 1) 2 1 [.int .i64 (-3), .int .i64 0] :=
        ⟨rfl, .inr ⟨_, _, rfl, fun _ => ⟨_, _, _, _, _, by rw [Heap.get_new, if_pos rfl], rfl⟩⟩⟩
      obtain ⟨v8, h8, e8, lg8, kp8, nv8, _, nf8⟩ := append_lg (t := 32) (xt := 32) Try.underlying32 Try.underlying32 rfl el49 (lg.keep (Keep.new No h' _) (fun _ _ x => x)) hx (by omega) (by omega) rfl
      have hw : IntKind.i64.wrap ((i : Int) + 1) = ((i + 1 : Nat) : Int) := by rw [IntWalk.i64_in _ (by omega)]; omega
      have hii : ((i + 1 : Nat) : Int) = (i : Int) + 1 := by omega
      have hlt : (i : Int) < 20 := by omega
      have h4n := kp.1
      have o5 : Ow4 (log1.length + (i + 1)) h4 h8 (.slice vaa log1.length vac) v8 := by
        refine ⟨⟨_, lg8⟩, (kp.trans ((Keep.new No h' _).mono fun _ _ x => x.elim)).also kp8 fun m hm e => ?_, fun m e => ?_⟩
        · rcases nv m e with x | x
          · exact x
          · omega
        · rcases Nat.lt_or_ge m h4.next with y | y
          · have z := nv8 m e (by rw [Heap.next_new]; omega)
            exact nv m z
          · exact .inr y
      simp (maxSteps := 2000000) -implicitDefEqProofs [px_skip, px_label, px_region, px_draw, qx_seq, qx_cond, px_block, px_loop, px_scope, px_exit, px_ret, seqK_normal, seqK_exit, seqK_ret, condK_true, condK_false, opsK_some, wK_true, wK_false, itK_some, aops_nil, aops_cons, lK_some, aK_some, hK_some, dwK_true, dwK_false, diK_some, dK_light, dK_alloc, dK_heavy, adraw_nil, adraw_cons, aop, cls, light, lightS, binE, aeq, intBin, goInt, pl_int, pl_bool, pl_ptr, pl_slice, aload, isAggT, aeval, tput, awanted, List.range_succ, fin, aresults, aresult, List.replicate, heavy, acallOp, aenter, ble_d, beq_d, firstRegion, readNames, Nxt, isAnc, readsOk, objEq_some, hlt, Try.underlying32, build49_1, (fun ρ x => bs32_1 ρ x (-3) 0), e8, hw]
      exact ⟨k - 1, by omega, i + 1, by omega, v8, by simp (maxSteps := 2000000) only [forget, List.set_cons_succ, List.set_cons_zero, hii], o5⟩
    · have hi' : i = 20 := by omega
      subst hi'
      simp (maxSteps := 2000000) -implicitDefEqProofs [px_skip, px_label, px_region, px_draw, qx_seq, qx_cond, px_block, px_loop, px_scope, px_exit, px_ret, seqK_normal, seqK_exit, seqK_ret, condK_true, condK_false, opsK_some, wK_true, wK_false, itK_some, aops_nil, aops_cons, lK_some, aK_some, hK_some, dwK_true, dwK_false, diK_some, dK_light, dK_alloc, dK_heavy, adraw_nil, adraw_cons, aop, cls, light, lightS, binE, aeq, intBin, goInt, pl_int, pl_bool, pl_ptr, pl_slice, aload, isAggT, aeval, tput, awanted, List.range_succ, fin, aresults, aresult, List.replicate, heavy, acallOp, aenter, ble_d, beq_d, firstRegion, readNames, Nxt, isAnc, readsOk, objEq_some]
      exact ⟨⟨cs, lg⟩, kp, nv⟩
  subst hx he ht
  clear hl
  have kA := k8.trans k9
  have st5 := st3.keep kA (fun m x e => by have := na m e; have := lF m x; omega) (fun m e c s gr ro hc => by rw [Lg_obj la3 e] at hc; cases hc) (fun e => by have := na _ e; omega) (fun m x e => by have := na m e; have := lr' m x; omega) (fun m x e => by have := na m e; have := ll m x; omega)
  have sb5 := lb.sl.keep kA (fun m x e => by have := nb m x; have := la.sl.lt e; omega)
  obtain ⟨o9, g9, nF9, r9, u9, l9, nr9, nl9⟩ := st5
  obtain ⟨n2, F2, h6, e20, p2, k20, f20⟩ := fork_run sT o9 (by omega) (by omega)
  have g6 := k20.get g9 (fun x => x)
  have es1 := same_run (sb5.keep k20 (fun _ _ x => x)) (l9.keep k20 (fun _ _ x => x)) (by omega)
  have o10 := o9.keep k20 (fun _ _ x => x) (fun _ x => x.elim)
  obtain ⟨v7, h7, e7, l7, k7', n7'⟩ := log_run sT o10 (by omega)
  have g7 := k7'.get g6 (fun x => x)
  have es2 := same_run l7.sl ((l9.keep k20 (fun _ _ x => x)).keep k7' (fun _ _ x => x)) (by omega)
  have p3 := p2.keep k7' (fun _ _ x => x) (fun _ x => x.elim)
  obtain ⟨v10, h10, e10, l10, k10, n10⟩ := log_run sT p3 (by omega)
  have g10 := k10.get g7 (fun x => x)
  have es3 := same_run l10.sl (((l9.keep k20 (fun _ _ x => x)).keep k7' (fun _ _ x => x)).keep k10 (fun _ _ x => x)) (by omega)
  have m7 := k7'.1
  have m10 := k10.1
  simp (maxSteps := 2000000) -implicitDefEqProofs [px_skip, px_label, px_region, px_draw, qx_seq, qx_cond, px_block, px_loop, px_scope, px_exit, px_ret, seqK_normal, seqK_exit, seqK_ret, condK_true, condK_false, opsK_some, wK_true, wK_false, itK_some, aops_nil, aops_cons, lK_some, aK_some, hK_some, dwK_true, dwK_false, diK_some, dK_light, dK_alloc, dK_heavy, adraw_nil, adraw_cons, aop, cls, light, lightS, binE, aeq, intBin, goInt, pl_int, pl_bool, pl_ptr, pl_slice, aload, isAggT, aeval, tput, awanted, List.range_succ, fin, aresults, aresult, List.replicate, heavy, acallOp, aenter, ble_d, beq_d, firstRegion, readNames, Nxt, isAnc, readsOk, objEq_some, pt8_33, pl8_33, an8_33, ibne, sz34, Try.underlying34, Try.underlying29, Try.underlying30, Try.underlying32, en18, en19, en20, e20, fa34_0, fa34_1, g6, g7, g9, g10, e7, e10, es1, es2, es3, m7, m10]

theorem own_calls (W : World) {a0 : Option Addr} {len0 cap0 : Nat} {l0 : List Int} (w0 : IntsAt W a0 len0 cap0 l0) (y0 : len0 * 8 ≤ 140737488351232) (c0 : len0 ≤ 1048576) {a1 : Option Addr} {len1 cap1 : Nat} {l1 : List Int} (w1 : IntsAt W a1 len1 cap1 l1) (y1 : len1 * 8 ≤ 140737488351232) (c1 : len1 ≤ 1048576) :
    Calls Try.prog 8 #[.slice a0 len0 cap0, .slice a1 len1 cap1] W fun e W' => e = .returned (.bool true) ∧ Below W.heap.size W W' := by
  obtain ⟨h, σ, v, hr, hro, _, _, hv, hs, hu, _⟩ := arg_ints (h := .empty) (σ := fun _ => ⟨0, 0, 0⟩) (Rep.none _ W (Nat.le_refl _) _) allRo_empty 3 w0
  obtain ⟨h', σ', v', hr', hro', hk, hσ, hv', hs', hu', _⟩ := arg_ints hr hro 3 w1
  have := w0.1
  have := w1.1
  obtain ⟨h2, e⟩ := ownLaw (hs.keep hk (fun _ _ x => x)) hu hs' (by omega) (by omega)
  exact law_calls mix hro' e rfl hr' (.cons (hv.mono (fun n hn => Nat.lt_of_lt_of_le hn hk.1) (fun n hn => hσ n hn)) (.cons hv' .nil))
end Go.Proofs.Ythkefkpmgleolaa.Or
