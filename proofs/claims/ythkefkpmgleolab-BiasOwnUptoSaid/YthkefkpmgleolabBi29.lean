/- The law BiasOwn. -/
import Derived.Test.YthkefkpmgleolabBi23
set_option linter.unusedVariables false
set_option linter.unusedSimpArgs false
namespace Go.Proofs.Ythkefkpmgleolab.Bi
open Go Go.Proofs Go.RowKit Go.Proofs.YthkefkpmgleolabAI Go.Proofs.YthkefkpmgleolabFl Go.Proofs.YthkefkpmgleolabSrt

theorem bround2 {h : Heap} {n w : Nat} {F : Nat → Prop} {ws : List Nat} {turn : Nat} {log : List (Int × Int)} {wv lv : Value} (of : Int) (hs : BSt h n w F ws turn log wv lv) (hw : W64 ws) (hk : ws.length ≤ 2 ^ 47) (ht : turn ≤ 2 ^ 47) (hb : (log.length + 1) * 16 ≤ 2 ^ 47) :
    ∃ h1 F1 h2 lv2, run Try.prog sB 21 [.pointer (some ⟨n, 0, none⟩), .int .i64 of] h = some (.tuple #[.int .i64 (bK ws turn of), .int .i64 (bE of)], h1) ∧
      run Try.prog sB 22 [.agg #[wv, .int .i64 (turn : Nat), lv], .int .i64 of] h1 = some (.tuple #[.agg #[wv, .int .i64 (bT turn of : Nat), lv2], .int .i64 (bK ws turn of), .int .i64 (bE of)], h2) ∧
      h1.get w = some (.cells [wv, .int .i64 (turn : Nat), lv] 42 3 false false) ∧ Keep F h h1 ∧ Keep No h1 h2 ∧ one lv2 = true ∧ (∀ m, F1 m → m < h.next → F m) ∧ (∀ m, nm lv2 = some m → nm lv = some m ∨ h.next ≤ m) ∧
      ∀ h3, Keep No h2 h3 → h3.get w = some (.cells [wv, .int .i64 (turn : Nat), lv] 42 3 false false) ∧ BSt (h3.put w (some (.cells [wv, .int .i64 (bT turn of : Nat), lv2] 42 3 false false))) n w F1 ws (bT turn of) (bL ws turn log of) wv lv2 ∧ Keep (fun m => F m ∨ m = w) h (h3.put w (some (.cells [wv, .int .i64 (bT turn of : Nat), lv2] 42 3 false false))) := by
  obtain ⟨ho, hww, hFw, hr, hl, nr, nl⟩ := hs
  obtain ⟨h1, F1, e1, ho1, k1, f1⟩ := bpick_run of ho hw hk ht hb
  have hw1 := k1.get hww hFw
  obtain ⟨lv2, h2, e2, hl2, k2, m2⟩ := rbpick_run (turn := turn) of (hr.keep k1 fun m e => (nr m e).1) (hl.keep k1 fun m e => (nl m e).1) hw hk ht hb
  have hwlt := Heap.get_lt hww
  have hF1w : ¬ F1 w := fun x => hFw (f1 w x hwlt)
  refine ⟨h1, F1, h2, lv2, e1, e2, hw1, k1, k2, Sl_one hl2, f1, fun m e => (m2 m e).imp_right fun x => (by have := k1.1; omega), fun h3 k3 => ?_⟩
  have hw3 := (k2.trans k3).get hw1 (fun x => x)
  have kp : Keep (fun m => m = w) h3 (h3.put w (some (.cells [wv, .int .i64 (bT turn of : Nat), lv2] 42 3 false false))) := Keep.put (S := fun m => m = w) (Heap.get_lt hw3) rfl _
  have q1 : ∀ m, nm wv = some m → ¬ F1 m ∧ m ≠ w := fun m e => ⟨fun x => (nr m e).1 (f1 m x (hr.lt e)), (nr m e).2⟩
  have q2 : ∀ m, nm lv2 = some m → ¬ F1 m ∧ m ≠ w := fun m e => by
    rcases m2 m e with e' | e'
    · exact ⟨fun x => (nl m e').1 (f1 m x (hl.lt e')), (nl m e').2⟩
    · obtain ⟨_, _, _, _, _, _, _, _, _, _, _, _, hF1, _⟩ := ho1
      refine ⟨fun x => ?_, ?_⟩
      · have := hF1 m x; omega
      · have := k1.1; omega
  refine ⟨hw3, ⟨((ho1.keep (k2.trans k3) (fun _ _ x => x) (fun _ x => x.elim)).keep kp (fun m x e => hF1w (e ▸ x)) fun m e c s gr ro hc => ?_), by rw [Heap.get_put (Heap.get_lt hw3), if_pos rfl], hF1w, ((hr.keep k1 fun m e => (nr m e).1).keep (k2.trans k3) (fun _ _ x => x)).keep kp fun m e => (q1 m e).2, (hl2.keep k3 (fun _ _ x => x)).keep kp fun m e => (q2 m e).2, q1, q2⟩, ?_⟩
  · rw [show m = w from e, hw3] at hc; cases hc
  · exact ((k1.mono fun m _ x => .inl x).also (k2.trans k3) fun m _ x => x.elim).also kp fun m _ x => .inr x

theorem bs25_c (t : Tm) (d ty pos af gu) : aalloc Try.prog (aeval t) ⟨d, .buildSlice 25 1 #[(0, .const (.float .f64 4619567317775286272))], ty, pos, af, gu⟩ = some (.cells [.float .f64 4619567317775286272] 34 1 false false, fun n => .slice (some ⟨n, 0, none⟩) 1 1) := by kernel_rfl
theorem build58_1 (a : Int) : abuild Try.prog 58 [(0, .int .i64 a)] = some (.agg #[.int .i64 a, .int .i64 0]) := by kernel_rfl
theorem okf (k : FloatKind) (n : Nat) : okCells (.float k n) = some [.float k n] := rfl
theorem bs28_c (t : Tm) (d ty pos af gu) : aalloc Try.prog (aeval t) ⟨d, .buildSlice 28 1 #[(0, .const (.int .i64 (-6)))], ty, pos, af, gu⟩ = some (.cells [.int .i64 (-6)] 3 1 false false, fun n => .slice (some ⟨n, 0, none⟩) 1 1) := by kernel_rfl
/-- Weights, with one number more behind them. -/
theorem ownF {h : Heap} {v : Value} {ws : List Nat} (hv : Sl h v 1 ws.length (us ws)) (hw : W64 ws) (hk : (ws.length + 1) * 8 ≤ 2 ^ 47) :
    ∃ v1 hA mF hB, run Try.prog sB 13 [v] h = some (v1, hA) ∧ aappend Try.prog 25 25 v1 (.slice (some ⟨hA.next, 0, none⟩) 1 1) (hA.new (.cells [.float .f64 4619567317775286272] 34 1 false false)) = some (.slice (some ⟨mF, 0, some 0⟩) (ws.length + 1) 1, hB) ∧
      hB.get mF = some (.cells (fl ws ++ [.float .f64 4619567317775286272]) 34 1 true false) ∧ Keep No h hB ∧ h.next ≤ mF := by
  obtain ⟨v1, hA, e, l1, k1, n1⟩ := floats_run hv hw (by omega)
  have hx : Sl (hA.new (.cells [.float .f64 4619567317775286272] 34 1 false false)) (.slice (some ⟨hA.next, 0, none⟩) 1 1) 1 1 [.float .f64 4619567317775286272] :=
    ⟨rfl, .inr ⟨_, _, rfl, fun _ => ⟨_, _, _, _, _, by rw [Heap.get_new, if_pos rfl], rfl⟩⟩⟩
  obtain ⟨v2, hB, e2, l2, k2, n2, _, f2⟩ := append_lg (t := 25) (xt := 25) Try.underlying25 Try.underlying25 rfl el34 (l1.keep (Keep.new No hA _) (fun _ _ x => x)) hx (by omega) (by omega) rfl
  obtain ⟨m', em, hm'⟩ := f2 (by omega)
  rw [Heap.next_new] at hm'
  obtain ⟨_, ⟨h0, _⟩ | ⟨m, h0, rfl, hg⟩⟩ := l2
  · omega
  have hmm : m = m' := by have := nm_eq em; exact this.2
  subst hmm
  exact ⟨v1, hA, m, hB, e, e2, hg, (k1.trans (Keep.new No hA _)).also k2 fun m hm x => (by have := n1 m x; omega), by have := k1.1; omega⟩
/-- A new bias, its parts told. -/
theorem bnew_ex {h : Heap} {v : Value} {ws : List Nat} (hv : Sl h v 1 ws.length (fl ws)) (hk : ws.length * 8 ≤ 2 ^ 47) :
    ∃ n gg wv h', run Try.prog sB 20 [v] h = some (.pointer (some ⟨n, 0, none⟩), h') ∧ h'.get n = some (.cells [.pointer (some ⟨gg, 0, none⟩), wv, .int .i64 (0 : Nat)] 77 3 false false) ∧ h'.get gg = some (.cells [.slice none 0 0] 74 1 false false) ∧ Lg h' wv 34 1 ws.length (fl ws) ∧ Keep No h h' ∧ h.next ≤ n ∧ h.next ≤ gg ∧ gg ≠ n ∧ ∀ m, nm wv = some m → h.next ≤ m ∧ m ≠ n ∧ m ≠ gg := by
  have k0 := Keep.new No h (.cells [.slice none 0 0] 74 1 false false)
  obtain ⟨wv, h2, e, hl, kp, hf⟩ := clone_f64 sB (hv.keep k0 fun _ _ x => x) (fl_one _) hk
  obtain ⟨a, c, rfl⟩ := sl_form hl.sl
  have g0 : (h.new (.cells [.slice none 0 0] 74 1 false false)).get h.next = some (.cells [.slice none 0 0] 74 1 false false) := by rw [Heap.get_new, if_pos rfl]
  have g2 := kp.get g0 (fun x => x)
  have kn := Keep.new No h2 (.cells [.pointer (some ⟨h.next, 0, none⟩), .slice a ws.length c, .int .i64 0] 77 3 false false)
  have hlt := kp.1
  rw [Heap.next_new] at hlt
  refine ⟨h2.next, h.next, .slice a ws.length c, h2.new (.cells [.pointer (some ⟨h.next, 0, none⟩), .slice a ws.length c, .int .i64 0] 77 3 false false), run_fin Try.func20 rfl ?_,
    by rw [Heap.get_new, if_pos rfl]; rfl, kn.get g2 (fun x => x), hl.keep kn (fun _ _ x => x), (k0.trans kp).trans kn, by omega, Nat.le_refl _, by omega, fun m e' => ?_⟩
  · simp [Try.f20, ax_skip, ax_label, ax_region, ax_draw, ax_seq, ax_cond, ax_block, ax_loop, ax_scope, ax_exit, ax_ret, aops, aop, cls, light, lightS, binE, aeq, intBin, goInt, pl_int, pl_bool, pl_ptr, pl_slice, aload, isAggT, aeval, tput, awanted, List.range_succ, fin, aresults, aresult, List.replicate, heavy, acallOp, aenter, ble_d, beq_d, firstRegion, adraw, readNames, Nxt, isAnc, readsOk, objEq_some, Try.underlying25, build74, box74, en39, e, build77, (fun ρ x => box77 ρ x (some ⟨h.next, 0, none⟩) a ws.length c)]
  · have h1 := hf m e'; have h2 := hl.sl.lt e'; rw [Heap.next_new] at h1; omega

/-- The row is overwritten. -/
def OF (K mF : Nat) (h0 h : Heap) : Prop := ∃ cs, cs.length = K ∧ h.get mF = some (.cells cs 34 1 true false) ∧ Keep (fun m => m = mF) h0 h
/-- The picks. -/
def OP (h : Heap) (i n0 w m1 m2 : Nat) (ws : List Nat) (va vb : Value) (ofs l1 l2 : List Int) : Prop := ∃ turn log F lv, log.length ≤ i ∧ turn ≤ i ∧ BSt h n0 w F ws turn log va lv ∧ Arg h vb ofs F w ∧ h.get m1 = some (.cells (ints l1) 3 1 false false) ∧ h.get m2 = some (.cells (ints l2) 3 1 false false) ∧ (¬ F m1 ∧ m1 ≠ w) ∧ (¬ F m2 ∧ m2 ≠ w) ∧ ∀ m, nm lv = some m → m ≠ m1 ∧ m ≠ m2
/-- A log is overwritten. -/
def OL (k : Nat) (h0 h : Heap) (v : Value) : Prop := ∃ cs, Lg h v 58 2 k cs ∧ Keep (fun m => nm v = some m) h0 h
/-- A rank is overwritten. -/
def OR (K m1 : Nat) (h0 h : Heap) : Prop := ∃ cs, cs.length = K ∧ cs.all one = true ∧ h.get m1 = some (.cells cs 3 1 false false) ∧ Keep (fun m => m = m1) h0 h
end Go.Proofs.Ythkefkpmgleolab.Bi
