/- The oracle's methods: what the interpreter answers. -/
import Derived.Test.YthkefkpmgleolaaOr3
import Derived.Test.YthkefkpmgleolaaAI16
set_option linter.unusedVariables false
set_option linter.unusedSimpArgs false
namespace Go.Proofs.Ythkefkpmgleolaa.Or
open Go Go.Proofs Go.RowKit Go.Proofs.YthkefkpmgleolaaAI

def picks (l : List (Int × Int)) : List Value := l.flatMap fun p => [.int .i64 p.1, .int .i64 p.2]
theorem picks_one (l : List (Int × Int)) : (picks l).all one = true := by simp [picks, one]
theorem picks_len (l : List (Int × Int)) : (picks l).length = l.length * 2 := by
  induction l with
  | nil => rfl
  | cons x l ih => simp only [picks, List.flatMap_cons, List.length_append, List.length_cons, List.length_nil] at *; omega
theorem picks_app (l : List (Int × Int)) (a b : Int) : picks (l ++ [(a, b)]) = picks l ++ [.int .i64 a, .int .i64 b] := by simp [picks]

/-- The oracle's object n, whose own names are F. -/
def Orc (h : Heap) (n : Nat) (F : Nat → Prop) (raw : List Int) (log : List (Int × Int)) : Prop :=
  ∃ lv rv, h.get n = some (.cells [lv, rv] 59 2 false false) ∧ Lg h lv 49 2 log.length (picks log) ∧ Sl h rv 1 raw.length (ints raw) ∧ Un rv 1 ∧ F n ∧ (∀ m, nm lv = some m → F m ∧ m ≠ n) ∧ (∀ m, nm rv = some m → ¬ F m) ∧ (∀ m, F m → m < h.next) ∧ (∀ m, nm rv = some m → ∃ c s gr ro, h.get m = some (.cells c 3 s gr ro)) ∧ ∀ m, F m → m = n ∨ nm lv = some m

theorem Orc.keep {S F : Nat → Prop} {h h' : Heap} {n : Nat} {raw : List Int} {log : List (Int × Int)} (ho : Orc h n F raw log) (hk : Keep S h h') (h1 : ∀ m, F m → ¬ S m) (h2 : ∀ m, S m → ∀ c s gr ro, h.get m ≠ some (.cells c 3 s gr ro)) : Orc h' n F raw log := by
  obtain ⟨lv, rv, hg, hl, hr, hu, hn, hlf, hrf, hF, hT, hX⟩ := ho
  have hS : ∀ m, nm rv = some m → ¬ S m := fun m e hs => by
    obtain ⟨c, s, gr, ro, hm⟩ := hT m e
    exact h2 m hs _ _ _ _ hm
  exact ⟨lv, rv, hk.get hg (h1 n hn), hl.keep hk (fun m e => h1 m (hlf m e).1), hr.keep hk hS, hu, hn, hlf, hrf, fun m e => Nat.lt_of_lt_of_le (hF m e) hk.1, fun m e => by
    obtain ⟨c, s, gr, ro, hm⟩ := hT m e
    exact ⟨c, s, gr, ro, hk.get hm (hS m e)⟩, hX⟩
theorem Lg_obj {h : Heap} {v : Value} {e sz k : Nat} {cs : List Value} (hs : Lg h v e sz k cs) {m : Nat} (hm : nm v = some m) : h.get m = some (.cells cs e sz true false) := by
  obtain ⟨hl, ⟨rfl, rfl | ⟨m, off, rfl⟩⟩ | ⟨m, h0, rfl, hg⟩⟩ := hs
  · cases hm
  · simp [nm] at hm
  · have := (nm_eq hm).2; simp only at this; subst this; exact hg

/-- What is an oracle's own holds no ints' row. -/
theorem Orc.foot {F : Nat → Prop} {h : Heap} {n : Nat} {raw : List Int} {log : List (Int × Int)} (ho : Orc h n F raw log) : ∀ m, F m → ∀ c s gr ro, h.get m ≠ some (.cells c 3 s gr ro) := by
  obtain ⟨lv, rv, hg, hl, hr, hu, hn, hlf, hrf, hF, hT, hX⟩ := ho
  intro m hm c s gr ro e
  rcases hX m hm with rfl | e'
  · rw [hg] at e; cases e
  · rw [Lg_obj hl e'] at e; cases e

theorem left_run (s : Scr) {h : Heap} {n : Nat} {F : Nat → Prop} {raw : List Int} {log : List (Int × Int)} (ho : Orc h n F raw log) :
    run Try.prog s 17 [.pointer (some ⟨n, 0, none⟩)] h = some (goInt raw.length, h) := by
  obtain ⟨lv, rv, hg, hl, hr, hu, hn, hlf, hrf, hF, hT, hX⟩ := ho
  refine run_fin Try.func17 rfl ?_
  rcases sl_cut hr with ⟨rfl, hk⟩ | ⟨a, c, rfl⟩
  · simp [Try.f17, ax_skip, ax_label, ax_region, ax_draw, ax_seq, ax_cond, ax_block, ax_loop, ax_scope, ax_exit, ax_ret, aops, aop, cls, light, lightS, binE, aeq, intBin, goInt, pl_int, pl_bool, pl_ptr, pl_slice, aload, isAggT, aeval, tput, awanted, List.range_succ, fin, aresults, aresult, List.replicate, heavy, acallOp, aenter, ble_d, beq_d, firstRegion, adraw, readNames, Nxt, isAnc, readsOk, objEq_some, Try.underlying30, Try.underlying29, fa59_1, hg, hk]
  · simp [Try.f17, ax_skip, ax_label, ax_region, ax_draw, ax_seq, ax_cond, ax_block, ax_loop, ax_scope, ax_exit, ax_ret, aops, aop, cls, light, lightS, binE, aeq, intBin, goInt, pl_int, pl_bool, pl_ptr, pl_slice, aload, isAggT, aeval, tput, awanted, List.range_succ, fin, aresults, aresult, List.replicate, heavy, acallOp, aenter, ble_d, beq_d, firstRegion, adraw, readNames, Nxt, isAnc, readsOk, objEq_some, Try.underlying30, Try.underlying29, fa59_1, hg]

theorem loglog_run (s : Scr) {h : Heap} {n : Nat} {lv rv : Value} {k : Nat} {cs : List Value} (hg : h.get n = some (.cells [lv, rv] 59 2 false false)) (hv : Sl h lv 2 k cs) (h1 : cs.all one = true) (hk : k * 16 ≤ 2 ^ 47) :
    ∃ v' h', run Try.prog s 25 [.pointer (some ⟨n, 0, none⟩)] h = some (v', h') ∧ Lg h' v' 49 2 k cs ∧ Keep No h h' ∧ ∀ m, nm v' = some m → h.next ≤ m := by
  obtain ⟨v', h', e, hl, hkp, hf⟩ := clone_pick s hv h1 hk
  refine ⟨v', h', run_fin Try.func25 rfl ?_, hl, hkp, hf⟩
  simp [Try.f25, ax_skip, ax_label, ax_region, ax_draw, ax_seq, ax_cond, ax_block, ax_loop, ax_scope, ax_exit, ax_ret, aops, aop, cls, light, lightS, binE, aeq, intBin, goInt, pl_int, pl_bool, pl_ptr, pl_slice, aload, isAggT, aeval, tput, awanted, List.range_succ, fin, aresults, aresult, List.replicate, heavy, acallOp, aenter, ble_d, beq_d, firstRegion, adraw, readNames, Nxt, isAnc, readsOk, objEq_some, Try.underlying61, Try.underlying32, fa57, hg, en27, e]

theorem log_run (s : Scr) {h : Heap} {n : Nat} {F : Nat → Prop} {raw : List Int} {log : List (Int × Int)} (ho : Orc h n F raw log) (hk : log.length * 16 ≤ 2 ^ 47) :
    ∃ v' h', run Try.prog s 19 [.pointer (some ⟨n, 0, none⟩)] h = some (v', h') ∧ Lg h' v' 49 2 log.length (picks log) ∧ Keep No h h' ∧ ∀ m, nm v' = some m → h.next ≤ m := by
  obtain ⟨lv, rv, hg, hl, hr, hu, hn, hlf, hrf, hF, hT, hX⟩ := ho
  obtain ⟨v', h', e, hl', hkp, hf⟩ := loglog_run s hg hl.sl (picks_one _) hk
  refine ⟨v', h', run_fin Try.func19 rfl ?_, hl', hkp, hf⟩
  simp [Try.f19, ax_skip, ax_label, ax_region, ax_draw, ax_seq, ax_cond, ax_block, ax_loop, ax_scope, ax_exit, ax_ret, aops, aop, cls, light, lightS, binE, aeq, intBin, goInt, pl_int, pl_bool, pl_ptr, pl_slice, aload, isAggT, aeval, tput, awanted, List.range_succ, fin, aresults, aresult, List.replicate, heavy, acallOp, aenter, ble_d, beq_d, firstRegion, adraw, readNames, Nxt, isAnc, readsOk, objEq_some, Try.underlying30, fa59_0, en25, e]

theorem note_run (s : Scr) {h : Heap} {n : Nat} {lv rv : Value} {k : Nat} {cs : List Value} (a b : Int) (hg : h.get n = some (.cells [lv, rv] 59 2 false false)) (hv : Lg h lv 49 2 k cs) (hne : nm lv ≠ some n) (hk : (k + 1) * 16 ≤ 2 ^ 47) :
    ∃ lv' h', run Try.prog s 24 [.pointer (some ⟨n, 0, none⟩), .int .i64 a, .int .i64 b] h = some (.tuple #[], h') ∧ h'.get n = some (.cells [lv', rv] 59 2 false false) ∧ Lg h' lv' 49 2 (k + 1) (cs ++ [.int .i64 a, .int .i64 b]) ∧
      Keep (fun m => m = n ∨ nm lv = some m) h h' ∧ ∀ m, nm lv' = some m → h.next ≤ m := by
  have hn := Heap.get_lt hg
  have hkn := Keep.new No h (.cells [.int .i64 a, .int .i64 b] 49 2 false false)
  have hv' := hv.keep hkn (fun _ _ x => x)
  have hx : Sl (h.new (.cells [.int .i64 a, .int .i64 b] 49 2 false false)) (.slice (some ⟨h.next, 0, none⟩) 1 1) 2 1 [.int .i64 a, .int .i64 b] :=
    ⟨rfl, .inr ⟨_, _, rfl, fun _ => ⟨_, _, _, _, _, by rw [Heap.get_new, if_pos rfl], rfl⟩⟩⟩
  obtain ⟨lv', h2, e, hl, hkp, hold, _, hfr⟩ := append_lg (t := 32) (xt := 32) Try.underlying32 Try.underlying32 rfl el49 hv' hx (by omega) (by omega) rfl
  obtain ⟨m', em, hm'⟩ := hfr (by omega)
  rw [Heap.next_new] at hm'
  have hg2 : h2.get n = some (.cells [lv, rv] 59 2 false false) := hkp.get (hkn.get hg (fun x => x)) hne
  have hok := hl.sl.okc
  have hput : Keep (fun m => m = n) h2 (h2.put n (some (.cells [lv', rv] 59 2 false false))) := Keep.put (S := fun m => m = n) (Heap.get_lt hg2) rfl _
  refine ⟨lv', h2.put n (some (.cells [lv', rv] 59 2 false false)), run_fin Try.func24 rfl ?_, by rw [Heap.get_put (Heap.get_lt hg2), if_pos rfl], hl.keep hput (fun m e1 e2 => by rw [em] at e1; cases e1; omega), ?_, ?_⟩
  · simp [Try.f24, ax_skip, ax_label, ax_region, ax_draw, ax_seq, ax_cond, ax_block, ax_loop, ax_scope, ax_exit, ax_ret, aops, aop, cls, light, lightS, binE, aeq, intBin, goInt, pl_int, pl_bool, pl_ptr, pl_slice, aload, isAggT, aeval, tput, awanted, List.range_succ, fin, aresults, aresult, List.replicate, heavy, acallOp, aenter, ble_d, beq_d, firstRegion, adraw, readNames, Nxt, isAnc, readsOk, objEq_some, Try.underlying61, Try.underlying32, fa57, hg, hg2, build49, (fun ρ x => bs32_1 ρ x a b), e, astore, hok, sz32]
  · refine ((hkn.mono (fun _ _ x => x.elim)).also hkp fun m hm x => .inr x).also hput fun m hm x => .inl x
  · intro m e1; rw [em] at e1; cases e1; omega
end Go.Proofs.Ythkefkpmgleolaa.Or
