/- Rank, in both writings. -/
import Derived.Test.YthkefkpmgleolabBi20
set_option linter.unusedVariables false
set_option linter.unusedSimpArgs false
namespace Go.Proofs.Ythkefkpmgleolab.Bi
open Go Go.Proofs Go.RowKit Go.Proofs.YthkefkpmgleolabAI Go.Proofs.YthkefkpmgleolabFl Go.Proofs.YthkefkpmgleolabSrt

def rng (n : Nat) : List Int := (List.range n).map fun (i : Nat) => (i : Int)
theorem rng_len (n : Nat) : (rng n).length = n := by simp [rng]
theorem rng_succ (n : Nat) : rng (n + 1) = rng n ++ [(n : Int)] := by simp [rng, List.range_succ]
theorem rng_g {n i : Nat} (h : i < n) : g (rng n) i = (i : Int) := by simp [g, rng, h]
theorem rng_dom (n : Nat) : Dom n (rng n) := by
  intro x hx
  simp only [rng, List.mem_map, List.mem_range] at hx
  obtain ⟨i, hi, rfl⟩ := hx
  omega
theorem rng_asc (n : Nat) : Asc (fun x => x) 0 (rng n).length (rng n) := by
  intro k l h1 h2 h3
  rw [rng_len] at h3
  rw [rng_g (by omega), rng_g h3]; show (k : Int) < (l : Int); omega
/-- The rank of weights: all places, in order. -/
def RankOf (ws : List Nat) (l : List Int) : Prop := l.Perm (rng ws.length) ∧ l.Pairwise (loB ws)
theorem rank_uniq {ws : List Nat} {l l' : List Int} (h : RankOf ws l) (h' : RankOf ws l') : l = l' :=
  List.Perm.eq_of_pairwise (fun a b _ _ h1 h2 => absurd h2 ((loB_LO ws).asym a b h1)) h.2 h'.2 (h.1.trans h'.1.symm)
theorem srt_pw {lo : Int → Int → Prop} {d : List Int} (h : Srt lo 0 d.length d) : d.Pairwise lo := by
  rw [List.pairwise_iff_getElem]
  intro i j hi hj hij
  have := h i j (by omega) hij hj
  rwa [g_eq d hi, g_eq d hj] at this

set_option maxHeartbeats 1600000 in
theorem rank_run {h : Heap} {v : Value} {ws : List Nat} (hv : Sl h v 1 ws.length (fl ws)) (hw : W64 ws) (hk : ws.length * 8 ≤ 2 ^ 47) :
    ∃ m h' l, run Try.prog sB 15 [v] h = some (V m ws.length, h') ∧ l.length = ws.length ∧ h'.get m = some (.cells (ints l) 3 1 false false) ∧ Keep No h h' ∧ h.next ≤ m ∧ RankOf ws l := by
  have o1 := Sl_one hv
  have okv := hv.okc
  obtain ⟨a, c, rfl⟩ := sl_form hv
  generalize hn : ws.length = n at *
  obtain ⟨h1, h1e⟩ : ∃ x, x = h.new (.cells [.slice a n c] 25 1 false false) := ⟨_, rfl⟩
  have k1 : Keep No h h1 := h1e ▸ Keep.new No h _
  have g1 : h1.get h.next = some (.cells [.slice a n c] 25 1 false false) := by rw [h1e, Heap.get_new, if_pos rfl]
  have n1 : h1.next = h.next + 1 := by rw [h1e]; rfl
  obtain ⟨h2, h2e⟩ : ∃ x, x = h1.new (.cells (List.replicate n (.int .i64 0)) 3 1 false false) := ⟨_, rfl⟩
  have k2 : Keep No h1 h2 := h2e ▸ Keep.new No h1 _
  have g2 : h2.get h1.next = some (.cells (List.replicate n (.int .i64 0)) 3 1 false false) := by rw [h2e, Heap.get_new, if_pos rfl]
  have n2 : h2.next = h1.next + 1 := by rw [h2e]; rfl
  have g12 := k2.get g1 (fun x => x)
  have hv2 := (hv.keep k1 fun _ _ x => x).keep k2 fun _ _ x => x
  obtain ⟨m, hm⟩ : ∃ m, m = h1.next := ⟨_, rfl⟩
  rw [← hm] at g2
  suffices hx : ∃ y, fin Try.prog Try.f15 (aexecP Try.prog (sB 15) (run Try.prog sB) loopω pt15 (Try.f15.body.getD .skip) ([.slice a n c] ++ List.replicate (Try.f15.ntmps - 1) undef) h) = some y ∧ y.1 = V m n ∧ ∃ l, l.length = n ∧ y.2.get m = some (.cells (ints l) 3 1 false false) ∧ Keep No h y.2 ∧ RankOf ws l by
    obtain ⟨⟨y1, y2⟩, hy, rfl, l, q1, q2, q3, q4⟩ := hx
    exact ⟨m, y2, l, run_finP pt15 Try.func15 rfl planned15 hy, q1, q2, q3, by omega, q4⟩
  have bxx := fun ρ x hx => bx 25 1 sz25 ρ x [.slice a n c] (by rw [show ρ x = .slice a n c from hx]; exact okv)
  simp (maxSteps := 2000000) -implicitDefEqProofs [Try.f15, px_skip, px_label, px_region, px_draw, qx_seq, qx_cond, px_block, px_loop, px_scope, px_exit, px_ret, seqK_normal, seqK_exit, seqK_ret, condK_true, condK_false, opsK_some, wK_true, wK_false, itK_some, aops_nil, aops_cons, lK_some, aK_some, hK_some, dwK_true, dwK_false, diK_some, dK_light, dK_alloc, dK_heavy, adraw_nil, adraw_cons, aop, cls, light, lightS, binE, aeq, intBin, goInt, pl_int, pl_bool, pl_ptr, pl_slice, aload, isAggT, aeval, tput, awanted, List.range_succ, fin, aresults, aresult, List.replicate, heavy, acallOp, aenter, ble_d, beq_d, firstRegion, readNames, Nxt, isAnc, readsOk, objEq_some, bxx, okv, okc_slice, ← h1e, g1, g12, Try.underlying25, Try.underlying28, (fun ρ a b => ms28 ρ a b n), hk, ← h2e, ← hm, sB15]
  generalize hl : loopω _ _ _ _ = rr
  obtain ⟨e, t', h3, hx, he, x11, ht, hg3, kp3⟩ : ∃ e t' h', rr = some (e, t', h') ∧ e = .exit 0 ∧ ∃ x11, t' = [unk, .pointer (some ⟨h.next, 0, none⟩), unk, V m n, unk, unk, unk, unk, unk, .int .i64 (n : Nat), .int .i64 (n : Nat), x11, unk, unk, unk, unk, unk, unk, unk, unk, unk, unk] ∧ h'.get m = some (.cells (ints (rng n)) 3 1 false false) ∧ Keep (fun x => x = m) h2 h' := by
    rw [← hl]
    refine loop_by (fun k t h' => ∃ i : Nat, i + k = n ∧ forget [0, 2, 4, 5, 6, 7, 8, 11, 12, 13, 14, 15, 16, 17, 18, 19, 20, 21] t = [unk, .pointer (some ⟨h.next, 0, none⟩), unk, .slice (some ⟨m, 0, none⟩) i n, unk, unk, unk, unk, unk, .int .i64 (n : Nat), .int .i64 (i : Nat), unk, unk, unk, unk, unk, unk, unk, unk, unk, unk, unk] ∧ h'.get m = some (.cells (ints (rng i) ++ List.replicate (n - i) (.int .i64 0)) 3 1 false false) ∧ Keep (fun x => x = m) h2 h')
      (fun e t' h' => e = .exit 0 ∧ ∃ x11, t' = [unk, .pointer (some ⟨h.next, 0, none⟩), unk, V m n, unk, unk, unk, unk, unk, .int .i64 (n : Nat), .int .i64 (n : Nat), x11, unk, unk, unk, unk, unk, unk, unk, unk, unk, unk] ∧ h'.get m = some (.cells (ints (rng n)) 3 1 false false) ∧ Keep (fun x => x = m) h2 h') ?_ n _ _ ⟨0, by omega, by kernel_rfl, by simpa [rng, ints] using g2, Keep.refl _ _⟩
    clear hl
    rintro k t h' ⟨i, hi, ht, hg, kp⟩
    rw [ht]
    rcases Nat.lt_or_ge i n with h5 | h5
    · have hx : Sl (h'.new (.cells [.int .i64 (i : Nat)] 3 1 false false)) (.slice (some ⟨h'.next, 0, none⟩) 1 1) 1 1 [.int .i64 (i : Nat)] :=
        ⟨rfl, .inr ⟨_, _, rfl, fun _ => ⟨_, _, _, _, _, by rw [Heap.get_new, if_pos rfl], rfl⟩⟩⟩
      have hgn := (Keep.new No h' (.cells [.int .i64 (i : Nat)] 3 1 false false)).get hg (fun x => x)
      have ea := append_in hgn hx rfl (by simp; omega) (by rw [ints_len, rng_len]; omega)
      simp only [ints_len, rng_len, List.length_replicate] at ea
      rw [show i + (n - i) = n by omega] at ea
      have et : (ints (rng i) ++ Value.int .i64 (i : Nat) :: (List.replicate (n - i) (Value.int .i64 0)).tail) = ints (rng (i + 1)) ++ List.replicate (n - (i + 1)) (Value.int .i64 0) := by
        rw [rng_succ, List.tail_replicate]
        simp only [ints, List.map_append, List.map_cons, List.map_nil, List.append_assoc, List.singleton_append]
        rfl
      rw [et] at ea
      obtain ⟨h8, h8e⟩ : ∃ x, x = (h'.new (.cells [.int .i64 (i : Nat)] 3 1 false false)).put m (some (.cells (ints (rng (i + 1)) ++ List.replicate (n - (i + 1)) (Value.int .i64 0)) 3 1 false false)) := ⟨_, rfl⟩
      rw [← h8e] at ea
      have hg8 : h8.get m = some (.cells (ints (rng (i + 1)) ++ List.replicate (n - (i + 1)) (Value.int .i64 0)) 3 1 false false) := by rw [h8e, Heap.get_put (Heap.get_lt hgn), if_pos rfl]
      have kp8 : Keep (fun x => x = m) h2 h8 := (kp.trans ((Keep.new No h' _).mono fun _ _ x => x.elim)).trans (h8e ▸ Keep.put (S := fun x => x = m) (Heap.get_lt hgn) rfl _)
      have hinc := @inc64 i (by omega)
      have hcs := cast_succ i
      simp (maxSteps := 2000000) -implicitDefEqProofs [px_skip, px_label, px_region, px_draw, qx_seq, qx_cond, px_block, px_loop, px_scope, px_exit, px_ret, seqK_normal, seqK_exit, seqK_ret, condK_true, condK_false, opsK_some, wK_true, wK_false, itK_some, aops_nil, aops_cons, lK_some, aK_some, hK_some, dwK_true, dwK_false, diK_some, dK_light, dK_alloc, dK_heavy, adraw_nil, adraw_cons, aop, cls, light, lightS, binE, aeq, intBin, goInt, pl_int, pl_bool, pl_ptr, pl_slice, aload, isAggT, aeval, tput, awanted, List.range_succ, fin, aresults, aresult, List.replicate, heavy, acallOp, aenter, ble_d, beq_d, firstRegion, readNames, Nxt, isAnc, readsOk, objEq_some, h5, Try.underlying28, (fun ρ x => bs28_1 ρ x (i : Nat)), ea, hinc]
      exact ⟨k - 1, by omega, i + 1, by omega, by simp (maxSteps := 2000000) only [forget, List.set_cons_succ, List.set_cons_zero, hcs], hg8, kp8⟩
    · obtain rfl : i = n := by omega
      simp (maxSteps := 2000000) -implicitDefEqProofs [px_skip, px_label, px_region, px_draw, qx_seq, qx_cond, px_block, px_loop, px_scope, px_exit, px_ret, seqK_normal, seqK_exit, seqK_ret, condK_true, condK_false, opsK_some, wK_true, wK_false, itK_some, aops_nil, aops_cons, lK_some, aK_some, hK_some, dwK_true, dwK_false, diK_some, dK_light, dK_alloc, dK_heavy, adraw_nil, adraw_cons, aop, cls, light, lightS, binE, aeq, intBin, goInt, pl_int, pl_bool, pl_ptr, pl_slice, aload, isAggT, aeval, tput, awanted, List.range_succ, fin, aresults, aresult, List.replicate, heavy, acallOp, aenter, ble_d, beq_d, firstRegion, readNames, Nxt, isAnc, readsOk, objEq_some]
      exact ⟨by simpa using hg, kp⟩
  subst hx he ht
  clear hl
  have hC : CmpH h2 m (.pointer (some ⟨h.next, 0, none⟩)) n (rB ws) := by
    rw [← hn]
    refine cmpB hw g12 (by omega) (by rw [hn]; exact hv2) (fun x e => ?_)
    have := hv.lt e; omega
  have hD : DH h2 m h3 (rng n) := ⟨kp3, hg3⟩
  obtain ⟨h4, l, e36, hd4, him, hs⟩ := sort_run (loB_LO ws) hC (fun a c b q1 q2 => sym_all (loB_LO ws) hC _ a c b q1 q2 (Nat.le_refl _)) hD (rng_dom n) (by rw [rng_len]; omega) (rng_asc n)
  rw [rng_len] at e36
  have hll := him.len
  rw [rng_len] at hll
  have kF : Keep No h h4 := ((k1.trans k2).also hd4.1 fun x hx e => by omega)
  have hR : RankOf ws l := ⟨by rw [hn]; exact him.perm, srt_pw (by rw [hll]; rw [rng_len] at hs; exact hs)⟩
  simp (maxSteps := 2000000) -implicitDefEqProofs [px_skip, px_label, px_region, px_draw, qx_seq, qx_cond, px_block, px_loop, px_scope, px_exit, px_ret, seqK_normal, seqK_exit, seqK_ret, condK_true, condK_false, opsK_some, wK_true, wK_false, itK_some, aops_nil, aops_cons, lK_some, aK_some, hK_some, dwK_true, dwK_false, diK_some, dK_light, dK_alloc, dK_heavy, adraw_nil, adraw_cons, aop, cls, light, lightS, binE, aeq, intBin, goInt, pl_int, pl_bool, pl_ptr, pl_slice, aload, isAggT, aeval, tput, awanted, List.range_succ, fin, aresults, aresult, List.replicate, heavy, acallOp, aenter, ble_d, beq_d, firstRegion, readNames, Nxt, isAnc, readsOk, objEq_some, en36, e36]
  exact ⟨_, _, ⟨rfl, rfl⟩, rfl, l, hll, hd4.2, kF, hR⟩

/-! ### The second writing -/
def insG (ws : List Nat) (i : Int) : Bool → List Int → List Int
  | d, [] => if d then [] else [i]
  | d, x :: xs => if d = false ∧ 0 < cmpK (wt ws i) (wt ws x) then i :: x :: insG ws i true xs else x :: insG ws i d xs
theorem insG_true (ws : List Nat) (i : Int) (l : List Int) : insG ws i true l = l := by
  induction l with
  | nil => rfl
  | cons x l ih => simp [insG, ih]
theorem insG_perm (ws : List Nat) (i : Int) (l : List Int) : (insG ws i false l).Perm (i :: l) := by
  induction l with
  | nil => exact .refl _
  | cons x l ih =>
    simp only [insG, true_and]
    split
    · rw [insG_true]
    · exact (List.Perm.cons x ih).trans (List.Perm.swap i x l)
theorem insG_pw (ws : List Nat) (i : Int) (l : List Int) (h : l.Pairwise (loB ws)) (hi : ∀ x ∈ l, x < i) : (insG ws i false l).Pairwise (loB ws) := by
  induction l with
  | nil => simp [insG]
  | cons x l ih =>
    rw [List.pairwise_cons] at h
    have hx := hi x (List.mem_cons_self ..)
    simp only [insG, true_and]
    by_cases hc : 0 < cmpK (wt ws i) (wt ws x)
    · rw [if_pos hc, insG_true]
      have hk : key (wt ws x) < key (wt ws i) := by
        unfold cmpK at hc; split at hc
        · omega
        · split at hc <;> omega
      have hix : loB ws i x := .inl hk
      refine List.pairwise_cons.2 ⟨fun y hy => ?_, List.pairwise_cons.2 h⟩
      rcases List.mem_cons.1 hy with rfl | hy
      · exact hix
      · exact (loB_LO ws).trans _ _ _ hix (h.1 y hy)
    · rw [if_neg hc]
      refine List.pairwise_cons.2 ⟨fun y hy => ?_, ih h.2 fun y hy => hi y (List.mem_cons_of_mem _ hy)⟩
      rcases List.mem_cons.1 ((insG_perm ws i l).mem_iff.1 hy) with rfl | hy
      · have hk : key (wt ws y) ≤ key (wt ws x) := by
          unfold cmpK at hc; split at hc
          · omega
          · split at hc <;> omega
        unfold loB; omega
      · exact h.1 y hy
def rkTo (ws : List Nat) : Nat → List Int
  | 0 => []
  | i + 1 => insG ws (i : Nat) false (rkTo ws i)
theorem rkTo_perm (ws : List Nat) (i : Nat) : (rkTo ws i).Perm (rng i) := by
  induction i with
  | zero => exact .refl _
  | succ i ih =>
    rw [rng_succ]
    exact (insG_perm ws i (rkTo ws i)).trans ((List.Perm.cons _ ih).trans (List.perm_append_singleton _ _).symm)
theorem rkTo_len (ws : List Nat) (i : Nat) : (rkTo ws i).length = i := by rw [(rkTo_perm ws i).length_eq, rng_len]
theorem rkTo_dom (ws : List Nat) (i : Nat) : Dom i (rkTo ws i) := (rng_dom i).perm (rkTo_perm ws i)
theorem rkTo_pw (ws : List Nat) (i : Nat) : (rkTo ws i).Pairwise (loB ws) := by
  induction i with
  | zero => exact List.Pairwise.nil
  | succ i ih => exact insG_pw ws i _ ih fun x hx => ((rkTo_dom ws i) x hx).2
theorem rkTo_rank (ws : List Nat) : RankOf ws (rkTo ws ws.length) := ⟨rkTo_perm ws _, rkTo_pw ws _⟩
end Go.Proofs.Ythkefkpmgleolab.Bi
