/- The oracle's forks, and the second writing's picks. -/
import Derived.Test.YthkefkpmgleolaaOr5
set_option linter.unusedVariables false
set_option linter.unusedSimpArgs false
namespace Go.Proofs.Ythkefkpmgleolaa.Or
open Go Go.Proofs Go.RowKit Go.Proofs.YthkefkpmgleolaaAI

theorem new_orc (s : Scr) {h : Heap} {v : Value} {raw : List Int} (hv : Sl h v 1 raw.length (ints raw)) (hk : raw.length * 8 ≤ 2 ^ 47) :
    ∃ n F h', run Try.prog s 14 [v] h = some (.pointer (some ⟨n, 0, none⟩), h') ∧ Orc h' n F raw [] ∧ Keep No h h' ∧ ∀ m, F m → h.next ≤ m := by
  obtain ⟨n, rv, h', e, hg, hl, hk', hn, hf⟩ := new_run s hv (ints_one _) hk
  refine ⟨n, fun m => m = n, h', e, ⟨_, rv, hg, Lg.nil _ _ _, hl.sl, hl.un, rfl, fun m e => (by cases e), fun m e => (hf m e).2, fun m e => (by rw [show m = n from e]; exact Heap.get_lt hg), fun m e => ⟨_, _, _, _, Lg_obj hl e⟩, fun m e => .inl e⟩, hk', fun m e => (by rw [show m = n from e]; exact hn)⟩

theorem fork_run (s : Scr) {h : Heap} {n : Nat} {F : Nat → Prop} {raw : List Int} {log : List (Int × Int)} (ho : Orc h n F raw log) (hb : log.length * 16 ≤ 2 ^ 47) (hk : raw.length * 8 ≤ 2 ^ 47) :
    ∃ n' F' h', run Try.prog s 20 [.pointer (some ⟨n, 0, none⟩)] h = some (.pointer (some ⟨n', 0, none⟩), h') ∧ Orc h' n' F' raw log ∧ Keep No h h' ∧ ∀ m, F' m → h.next ≤ m := by
  obtain ⟨lv, rv, hg, hl, hr, hu, hn, hlf, hrf, hF, hT, hX⟩ := ho
  obtain ⟨n2, rv2, h2, e, hg2, hl2, hk2, hn2, hf2⟩ := new_run s hr (ints_one _) hk
  obtain ⟨v', h3, e3, hl3, hk3, hf3⟩ := loglog_run s (hk2.get hg (fun x => x)) (hl.sl.keep hk2 (fun _ _ x => x)) (picks_one _) hb
  have hg3 := hk3.get hg2 (fun x => x)
  have hput : Keep (fun m => m = n2) h3 (h3.put n2 (some (.cells [v', rv2] 59 2 false false))) := Keep.put (S := fun m => m = n2) (Heap.get_lt hg3) rfl _
  have hok := hl3.sl.okc
  have hlt2 := Heap.get_lt hg2
  refine ⟨n2, fun m => m = n2 ∨ nm v' = some m, h3.put n2 (some (.cells [v', rv2] 59 2 false false)), run_fin Try.func20 rfl ?_,
    ⟨v', rv2, by rw [Heap.get_put (Heap.get_lt hg3), if_pos rfl], hl3.keep hput (fun m e1 e2 => ?_), (hl2.sl.keep hk3 (fun _ _ x => x)).keep hput (fun m e1 e2 => (hf2 m e1).2 e2), hl2.un, .inl rfl, fun m e1 => ⟨.inr e1, ?_⟩, ?_, ?_, fun m e1 => ⟨_, _, _, _, Lg_obj ((hl2.keep hk3 (fun _ _ x => x)).keep hput (fun m e1 e2 => (hf2 m e1).2 e2)) e1⟩, fun _ x => x⟩, ?_, ?_⟩
  · simp [Try.f20, ax_skip, ax_label, ax_region, ax_draw, ax_seq, ax_cond, ax_block, ax_loop, ax_scope, ax_exit, ax_ret, aops, aop, cls, light, lightS, binE, aeq, intBin, goInt, pl_int, pl_bool, pl_ptr, pl_slice, aload, isAggT, aeval, tput, awanted, List.range_succ, fin, aresults, aresult, List.replicate, heavy, acallOp, aenter, ble_d, beq_d, firstRegion, adraw, readNames, Nxt, isAnc, readsOk, objEq_some, Try.underlying30, Try.underlying29, Try.underlying32, fa59_1, fa59_0, fa57, hg, en14, e, en25, e3, hok, astore, sz32, hg3]
  · have := hf3 m e1; omega
  · have := hf3 m e1; omega
  · rintro m e1 (e2 | e2)
    · exact (hf2 m e1).2 e2
    · have := hf3 m e2; have := hl2.sl.lt e1; omega
  · rintro m (e1 | e1)
    · rw [e1]; exact (Heap.get_lt hg3 : n2 < h3.next)
    · exact hl3.sl.lt e1
  · exact (hk2.trans hk3).also hput fun m hm e1 => by omega
  · rintro m (rfl | e1)
    · exact hn2
    · have := hf3 m e1; have := hk2.1; omega

theorem al34 (ρ : Operand → Value) (d ty pos af gu) : aalloc Try.prog ρ ⟨d, .alloc 34, ty, pos, af, gu⟩ = some (.cells [.slice none 0 0, .slice none 0 0] 34 2 false false, fun n => .pointer (some ⟨n, 0, none⟩)) := by kernel_rfl

theorem okc_agg {a b : Value} (ha : one a = true) (hb : one b = true) : okCells (.agg #[a, b]) = some [a, b] := by simp [okCells, ha, hb]
theorem okc_slice (a : Option Addr) (k c : Nat) : okCells (.slice a k c) = some [.slice a k c] := rfl
theorem one_slice (a : Option Addr) (k c : Nat) : one (.slice a k c) = true := rfl
theorem bx34 (ρ : Operand → Value) (x : Operand) (a b : Value) (ha : one a = true) (hb : one b = true) (hx : ρ x = .agg #[a, b]) (d ty pos af gu) : aalloc Try.prog ρ ⟨d, .box 34 x, ty, pos, af, gu⟩ = some (.cells [a, b] 34 2 false false, fun n => .pointer (some ⟨n, 0, none⟩)) := by
  simp [aalloc, hx, okCells, ha, hb, sz34]

theorem Sl_one {h : Heap} {v : Value} {sz k : Nat} {cs : List Value} (hs : Sl h v sz k cs) : one v = true := by
  rcases sl_cut hs with ⟨rfl, _⟩ | ⟨a, c, rfl⟩ <;> rfl

/-- A log's copy, with one pick more. -/
theorem more_run {h : Heap} {lv : Value} {k : Nat} {cs : List Value} (a b : Int) (hv : Sl h lv 2 k cs) (h1 : cs.all one = true) (hk : (k + 1) * 16 ≤ 2 ^ 47) :
    ∃ v1 h1 v2 h2, aappend Try.prog 32 32 (.slice (some ⟨h.next, 0, none⟩) 0 0) lv (h.new (.cells [] 49 2 false false)) = some (v1, h1) ∧
      aappend Try.prog 32 32 v1 (.slice (some ⟨h1.next, 0, none⟩) 1 1) (h1.new (.cells [.int .i64 a, .int .i64 b] 49 2 false false)) = some (v2, h2) ∧ Lg h2 v2 49 2 (k + 1) (cs ++ [.int .i64 a, .int .i64 b]) ∧ Keep No h h2 ∧ ∀ m, nm v2 = some m → h.next ≤ m := by
  have hv' := hv.keep (Keep.new No h (.cells [] 49 2 false false)) (fun _ _ x => x)
  obtain ⟨v1, h2, e, hl, hkp, hn, _, hf⟩ := append_lg (t := 32) (xt := 32) Try.underlying32 Try.underlying32 rfl el49 (Lg.empty (h.new (.cells [] 49 2 false false)) 49 2 h.next 0) hv' (by omega) (by omega) h1
  have hk1 : Keep No h h2 := (Keep.new No h (.cells [] 49 2 false false)).also hkp fun m hm x => by have := (nm_eq x).1; omega
  have hn1 : ∀ m, nm v1 = some m → h.next ≤ m := fun m hm => by
    rcases Nat.lt_or_ge m h.next with h2 | h2
    · have := hn m hm (by rw [Heap.next_new]; omega)
      have := (nm_eq this).1; omega
    · exact h2
  have hx : Sl (h2.new (.cells [.int .i64 a, .int .i64 b] 49 2 false false)) (.slice (some ⟨h2.next, 0, none⟩) 1 1) 2 1 [.int .i64 a, .int .i64 b] :=
    ⟨rfl, .inr ⟨_, _, rfl, fun _ => ⟨_, _, _, _, _, by rw [Heap.get_new, if_pos rfl], rfl⟩⟩⟩
  rw [Nat.zero_add, List.nil_append] at hl
  obtain ⟨v2, h3, e3, hl3, hkp3, hn3, _, hf3⟩ := append_lg (t := 32) (xt := 32) Try.underlying32 Try.underlying32 rfl el49 (hl.keep (Keep.new No h2 _) (fun _ _ x => x)) hx (by omega) (by omega) rfl
  obtain ⟨m', em, hm'⟩ := hf3 (by omega)
  rw [Heap.next_new] at hm'
  refine ⟨v1, h2, v2, h3, e, e3, hl3, (hk1.trans (Keep.new No h2 _)).also hkp3 fun m hm x => ?_, fun m e1 => ?_⟩
  · have := hn1 m x; omega
  · rw [em] at e1; cases e1; have := hk1.1; omega

theorem rpick_run (s : Scr) {h : Heap} {rv lv : Value} {raw : List Int} {log : List (Int × Int)} (of : Int) (hr : Sl h rv 1 raw.length (ints raw)) (hu : Un rv 1) (hl : Sl h lv 2 log.length (picks log)) (hb : (log.length + 1) * 16 ≤ 2 ^ 47) :
    ∃ rv' lv' h', run Try.prog s 16 [.agg #[rv, lv], .int .i64 of] h = some (.tuple #[.agg #[rv', lv'], .int .i64 (resK raw of), .int .i64 (resE of)], h') ∧ Sl h' rv' 1 (rawN raw of).length (ints (rawN raw of)) ∧ Un rv' 1 ∧
      Sl h' lv' 2 (logN raw log of).length (picks (logN raw log of)) ∧ Keep No h h' ∧ (∀ m, nm rv' = some m → nm rv = some m) ∧ (∀ m, nm lv' = some m → nm lv = some m ∨ h.next ≤ m) := by
  have o1 := Sl_one hr
  have o2 := Sl_one hl
  obtain ⟨hh, hhe⟩ : ∃ x, x = (h.new (.cells [rv, lv] 34 2 false false)).new (.cells [.slice none 0 0, .slice none 0 0] 34 2 false false) := ⟨_, rfl⟩
  have k0 : Keep No h hh := hhe ▸ (Keep.new No h _).trans (Keep.new No _ _)
  have g2 : hh.get h.next = some (.cells [rv, lv] 34 2 false false) := by rw [hhe, Heap.get_new, Heap.next_new, if_neg (by omega), Heap.get_new, if_pos rfl]
  have g4 : hh.get (h.next + 1) = some (.cells [.slice none 0 0, .slice none 0 0] 34 2 false false) := by rw [hhe, Heap.get_new, Heap.next_new, if_pos rfl]
  have hnx : hh.next = h.next + 2 := by rw [hhe]; rfl
  have done : ∀ (h2 : Heap) (v w : Value), Keep No hh h2 → Keep No h ((h2.put h.next (some (.cells [v, w] 34 2 false false))).put (h.next + 1) (some (.cells [v, w] 34 2 false false))) := fun h2 v w hk => by
    have := hk.1
    refine ((k0.trans hk).also (Keep.put (S := fun m => m = h.next) (by omega) rfl _) fun m hm e => by omega).also (Keep.put (S := fun m => m = h.next + 1) (by rw [Heap.next_put]; omega) rfl _) fun m hm e => by omega
  have k1 : Keep No h (hh.put (h.next + 1) (some (.cells [rv, lv] 34 2 false false))) := k0.also (Keep.put (S := fun m => m = h.next + 1) (by omega) rfl _) fun m hm e => by omega
  by_cases h1 : of < 1
  · refine ⟨rv, lv, hh.put (h.next + 1) (some (.cells [rv, lv] 34 2 false false)), run_fin Try.func16 rfl ?_, ?_, hu, ?_, k1, fun _ x => x, fun _ x => .inl x⟩
    · have g5 : (hh.put (h.next + 1) (some (.cells [rv, lv] 34 2 false false))).get (h.next + 1) = some (.cells [rv, lv] 34 2 false false) := by rw [Heap.get_put (by omega), if_pos rfl]
      simp [Try.f16, ax_skip, ax_label, ax_region, ax_draw, ax_seq, ax_cond, ax_block, ax_loop, ax_scope, ax_exit, ax_ret, aops, aop, cls, light, lightS, binE, aeq, intBin, goInt, pl_int, pl_bool, pl_ptr, pl_slice, aload, isAggT, aeval, tput, awanted, List.range_succ, fin, aresults, aresult, List.replicate, heavy, acallOp, aenter, ble_d, beq_d, firstRegion, adraw, readNames, Nxt, isAnc, readsOk, objEq_some, (fun ρ x => bx34 ρ x _ _ o1 o2), okc_agg, okc_slice, one_slice, o1, o2, sz34, Try.underlying34, al34, ← hhe, Heap.next_new, g2, g4, g5, astore, h1, resK, resE]
    · simpa [rawN, show of < 2 by omega] using hr.keep k1 (fun _ _ x => x)
    · simpa [logN, show of < 2 by omega] using hl.keep k1 (fun _ _ x => x)
  by_cases h2 : of = 1
  · refine ⟨rv, lv, hh.put (h.next + 1) (some (.cells [rv, lv] 34 2 false false)), run_fin Try.func16 rfl ?_, ?_, hu, ?_, k1, fun _ x => x, fun _ x => .inl x⟩
    · have g5 : (hh.put (h.next + 1) (some (.cells [rv, lv] 34 2 false false))).get (h.next + 1) = some (.cells [rv, lv] 34 2 false false) := by rw [Heap.get_put (by omega), if_pos rfl]
      simp [Try.f16, ax_skip, ax_label, ax_region, ax_draw, ax_seq, ax_cond, ax_block, ax_loop, ax_scope, ax_exit, ax_ret, aops, aop, cls, light, lightS, binE, aeq, intBin, goInt, pl_int, pl_bool, pl_ptr, pl_slice, aload, isAggT, aeval, tput, awanted, List.range_succ, fin, aresults, aresult, List.replicate, heavy, acallOp, aenter, ble_d, beq_d, firstRegion, adraw, readNames, Nxt, isAnc, readsOk, objEq_some, (fun ρ x => bx34 ρ x _ _ o1 o2), okc_agg, okc_slice, one_slice, o1, o2, sz34, Try.underlying34, al34, ← hhe, Heap.next_new, g2, g4, g5, astore, h1, h2, resK, resE]
    · simpa [rawN, show of < 2 by omega] using hr.keep k1 (fun _ _ x => x)
    · simpa [logN, show of < 2 by omega] using hl.keep k1 (fun _ _ x => x)
  have h3 : ¬ of < 2 := by omega
  have fin2 : ∀ (h2 : Heap) (v w : Value), hh.next ≤ h2.next → h2.get (h.next + 1) = some (.cells [.slice none 0 0, .slice none 0 0] 34 2 false false) →
      (h2.put h.next (some (.cells [v, w] 34 2 false false))).get h.next = some (.cells [v, w] 34 2 false false) ∧ (h2.put h.next (some (.cells [v, w] 34 2 false false))).get (h.next + 1) = some (.cells [.slice none 0 0, .slice none 0 0] 34 2 false false) ∧
      ((h2.put h.next (some (.cells [v, w] 34 2 false false))).put (h.next + 1) (some (.cells [v, w] 34 2 false false))).get (h.next + 1) = some (.cells [v, w] 34 2 false false) := fun h2 v w hk hg =>
    ⟨by rw [Heap.get_put (by omega), if_pos rfl], by rw [Heap.get_put (by omega), if_neg (by omega)]; exact hg, by rw [Heap.get_put (by rw [Heap.next_put]; omega), if_pos rfl]⟩
  cases raw with
  | nil =>
    obtain ⟨a, c, rfl⟩ : ∃ a c, rv = .slice a 0 c := by
      rcases sl_cut hr with ⟨rfl, _⟩ | ⟨a, c, rfl⟩ <;> exact ⟨_, _, rfl⟩
    have gh := (Keep.new No hh (.cells [] 49 2 false false)).get g2 (fun x => x)
    obtain ⟨v1, hA, v2, hB, e1, e2, hl2, hk2, hf2⟩ := more_run of 0 (hl.keep k0 (fun _ _ x => x)) (picks_one _) hb
    have gB2 := hk2.get g2 (fun x => x)
    have gB4 := hk2.get g4 (fun x => x)
    obtain ⟨f1, f2, f3⟩ := fin2 hB (.slice a 0 c) v2 hk2.1 gB4
    have ok2 := hl2.sl.okc
    have o3 := Sl_one hl2.sl
    have kk := done hB (.slice a 0 c) v2 hk2
    have := hk2.1
    have hl3 : Lg ((hB.put h.next (some (.cells [.slice a 0 c, v2] 34 2 false false))).put (h.next + 1) (some (.cells [.slice a 0 c, v2] 34 2 false false))) v2 49 2 (log.length + 1) (picks log ++ [.int .i64 of, .int .i64 0]) :=
      (hl2.keep (Keep.put (S := fun m => m = h.next) (by omega) rfl _) fun m e e' => by have := hf2 m e; omega).keep (Keep.put (S := fun m => m = h.next + 1) (by rw [Heap.next_put]; omega) rfl _) fun m e e' => by have := hf2 m e; omega
    refine ⟨.slice a 0 c, v2, _, run_fin Try.func16 rfl (x := (_, (hB.put h.next (some (.cells [.slice a 0 c, v2] 34 2 false false))).put (h.next + 1) (some (.cells [.slice a 0 c, v2] 34 2 false false)))) ?_, ?_, hu, ?_, kk, fun _ x => x, fun m e => .inr (by have := hf2 m e; omega)⟩
    · simp [Try.f16, ax_skip, ax_label, ax_region, ax_draw, ax_seq, ax_cond, ax_block, ax_loop, ax_scope, ax_exit, ax_ret, aops, aop, cls, light, lightS, binE, aeq, intBin, goInt, pl_int, pl_bool, pl_ptr, pl_slice, aload, isAggT, aeval, tput, awanted, List.range_succ, fin, aresults, aresult, List.replicate, heavy, acallOp, aenter, ble_d, beq_d, firstRegion, adraw, readNames, Nxt, isAnc, readsOk, objEq_some, ibeq, (fun ρ x => bx34 ρ x _ _ o1 o2), okc_agg, okc_slice, one_slice, o1, o2, o3, sz34, sz29, sz32, Try.underlying34, Try.underlying29, Try.underlying32, al34, ← hhe, Heap.next_new, fa34_0, fa34_1, g2, g4, gh, gB2, gB4, f1, f2, f3, astore, h1, h2, resK, resE, pk, bs32, e1, build49, (fun ρ x => bs32_1 ρ x of 0), e2, ok2]
    · simpa [rawN, h3] using hr.keep kk (fun _ _ x => x)
    · simpa [logN, h3, pk, picks_app] using hl3.sl
  | cons x xs =>
    rcases sl_cut hr with ⟨_, hk⟩ | ⟨a, c, rfl⟩
    · cases hk
    obtain ⟨m, off, sp⟩ := a
    obtain ⟨hsp, rfl⟩ := hu _ _ _ rfl (by simp)
    simp only at hsp
    subst hsp
    simp only [List.length_cons] at hr o1 hhe g2
    have hrh := hr.keep k0 (fun _ _ x => x)
    obtain ⟨c, e', sz', gr, ro, hgm, hfit, _, hget⟩ := hrh.fit (by omega) (by simp)
    simp only at hgm
    have hx : c[off]? = some (.int .i64 x) := by have := hget 0 (by simp); simpa [ints] using this
    have hlx : (0 : Int) < (xs.length : Int) + 1 := by omega
    have hml : m < h.next := hr.lt (nm_pos (by simp))
    obtain ⟨hC, hCe⟩ : ∃ y, y = hh.put h.next (some (.cells [.slice (some ⟨m, off + 1, some 0⟩) xs.length 1, lv] 34 2 false false)) := ⟨_, rfl⟩
    have kC : Keep (fun m => m = h.next) hh hC := hCe ▸ Keep.put (S := fun m => m = h.next) (by omega) rfl _
    have nC : hC.next = hh.next := by rw [hCe]; rfl
    have gC2 : hC.get h.next = some (.cells [.slice (some ⟨m, off + 1, some 0⟩) xs.length 1, lv] 34 2 false false) := by rw [hCe, Heap.get_put (by omega), if_pos rfl]
    have gC4 := kC.get g4 (by omega)
    have gh := (Keep.new No hC (.cells [] 49 2 false false)).get gC2 (fun x => x)
    obtain ⟨v1, hA, v2, hB, e1, e2, hl2, hk2, hf2⟩ := more_run of (modOf x of) ((hl.keep k0 (fun _ _ x => x)).keep kC (fun m e e' => by have := hl.lt e; omega)) (picks_one _) hb
    have okX : okCells (.agg #[.slice (some ⟨m, off + 1, some 0⟩) xs.length 1, v2]) = some [.slice (some ⟨m, off + 1, some 0⟩) xs.length 1, v2] := okc_agg rfl (Sl_one hl2.sl)
    have gB2 := hk2.get gC2 (fun x => x)
    have gB4 := hk2.get gC4 (fun x => x)
    have hkn := hk2.1
    obtain ⟨f1, f2, f3⟩ := fin2 hB (.slice (some ⟨m, off + 1, some 0⟩) xs.length 1) v2 (by omega) gB4
    have ok2 := hl2.sl.okc
    have o3 := Sl_one hl2.sl
    have kk : Keep No h ((hB.put h.next (some (.cells [.slice (some ⟨m, off + 1, some 0⟩) xs.length 1, v2] 34 2 false false))).put (h.next + 1) (some (.cells [.slice (some ⟨m, off + 1, some 0⟩) xs.length 1, v2] 34 2 false false))) :=
      (((k0.also kC fun m hm e => by omega).trans hk2).also (Keep.put (S := fun m => m = h.next) (by omega) rfl _) fun m hm e => by omega).also (Keep.put (S := fun m => m = h.next + 1) (by rw [Heap.next_put]; omega) rfl _) fun m hm e => by omega
    have hl3 : Lg ((hB.put h.next (some (.cells [.slice (some ⟨m, off + 1, some 0⟩) xs.length 1, v2] 34 2 false false))).put (h.next + 1) (some (.cells [.slice (some ⟨m, off + 1, some 0⟩) xs.length 1, v2] 34 2 false false))) v2 49 2 (log.length + 1) (picks log ++ [.int .i64 of, .int .i64 (modOf x of)]) :=
      (hl2.keep (Keep.put (S := fun m => m = h.next) (by omega) rfl _) fun m e e' => by have := hf2 m e; omega).keep (Keep.put (S := fun m => m = h.next + 1) (by rw [Heap.next_put]; omega) rfl _) fun m e e' => by have := hf2 m e; omega
    refine ⟨.slice (some ⟨m, off + 1, some 0⟩) xs.length 1, v2, _, run_fin Try.func16 rfl (x := (_, (hB.put h.next (some (.cells [.slice (some ⟨m, off + 1, some 0⟩) xs.length 1, v2] 34 2 false false))).put (h.next + 1) (some (.cells [.slice (some ⟨m, off + 1, some 0⟩) xs.length 1, v2] 34 2 false false)))) ?_, ?_, un_slice, ?_, kk, ?_, fun m e => .inr (by have := hf2 m e; omega)⟩
    · simp [Try.f16, ax_skip, ax_label, ax_region, ax_draw, ax_seq, ax_cond, ax_block, ax_loop, ax_scope, ax_exit, ax_ret, aops, aop, cls, light, lightS, binE, aeq, intBin, goInt, pl_int, pl_bool, pl_ptr, pl_slice, aload, isAggT, aeval, tput, awanted, List.range_succ, fin, aresults, aresult, List.replicate, heavy, acallOp, aenter, ble_d, beq_d, firstRegion, adraw, readNames, Nxt, isAnc, readsOk, objEq_some, ibeq, (fun ρ x => bx34 ρ x _ _ o1 o2), okX, okc_slice, one_slice, o1, o2, o3, sz34, sz29, sz32, sz3, Try.underlying34, Try.underlying29, Try.underlying32, al34, ← hhe, ← hCe, Heap.next_new, fa34_0, fa34_1, g2, g4, gC2, gC4, gh, gB2, gB4, f1, f2, f3, hgm, hx, hlx, aindexAddr, aslice, abound, en13, rmod_run, astore, h1, h2, resK, resE, pk, bs32, e1, build49, (fun ρ y => bs32_1 ρ y of (modOf x of)), e2, ok2]
    · simpa [rawN, h3] using (sl_tail hr).keep kk (fun _ _ x => x)
    · simpa [logN, h3, pk, picks_app] using hl3.sl
    · intro m' e
      have := nm_eq e
      simp only at this
      obtain ⟨_, rfl⟩ := this
      exact nm_pos (by simp)
end Go.Proofs.Ythkefkpmgleolaa.Or
