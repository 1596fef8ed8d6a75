/- Logs: what the interpreter answers (as at layer 9). -/
import Derived.Test.YthkefkpmgleolabBi5
set_option linter.unusedVariables false
set_option linter.unusedSimpArgs false
namespace Go.Proofs.Ythkefkpmgleolab.Bi
open Go Go.Proofs Go.RowKit Go.Proofs.YthkefkpmgleolabAI Go.Proofs.YthkefkpmgleolabFl

theorem clone_int (s : Scr) {h : Heap} {v : Value} {k : Nat} {cs : List Value} (hv : Sl h v 1 k cs) (h1 : cs.all one = true) (hk : k * 8 ≤ 2 ^ 47) :
    ∃ v' h', run Try.prog s 45 [v] h = some (v', h') ∧ Lg h' v' 3 1 k cs ∧ Keep No h h' ∧ ∀ m, nm v' = some m → h.next ≤ m := by
  rcases sl_cut hv with ⟨rfl, rfl⟩ | ⟨a, c, rfl⟩
  · refine ⟨.slice none 0 0, h, run_fin Try.func45 rfl ?_, ?_, Keep.refl _ _, fun m e => by cases e⟩
    · simp [Try.f45, aexec, aops, aop, cls, light, lightS, binE, aeq, pl_slice, Try.underlying28, aeval, tput, awanted, List.range_succ, fin, aresults, aresult, List.replicate]
    · have := hv.1; rw [Nat.zero_mul, List.length_eq_zero_iff] at this; subst this; exact Lg.nil _ _ _
  · have hv' := hv.keep (Keep.new No h (.cells [] 3 1 false false)) (fun _ _ x => x)
    obtain ⟨v', h', e, hl, hkp, hn, _, hf⟩ := append_lg (t := 28) (xt := 28) Try.underlying28 Try.underlying28 rfl el3 (Lg.empty (h.new (.cells [] 3 1 false false)) 3 1 h.next 0) hv' (by omega) (by omega) h1
    refine ⟨v', h', run_fin Try.func45 rfl ?_, by simpa using hl, ?_, fun m hm => ?_⟩
    · simp [Try.f45, aexec, aops, aop, cls, light, lightS, binE, aeq, pl_slice, Try.underlying28, aeval, tput, awanted, List.range_succ, fin, aresults, aresult, List.replicate, bs28, heavy, acallOp, e]
    · exact (Keep.new No h _).also hkp fun m hm x => by have := (nm_eq x).1; omega
    · rcases Nat.lt_or_ge m h.next with h2 | h2
      · have := hn m hm (by rw [Heap.next_new]; omega)
        have := (nm_eq this).1; omega
      · exact h2

theorem clone_pick (s : Scr) {h : Heap} {v : Value} {k : Nat} {cs : List Value} (hv : Sl h v 2 k cs) (h1 : cs.all one = true) (hk : k * 16 ≤ 2 ^ 47) :
    ∃ v' h', run Try.prog s 48 [v] h = some (v', h') ∧ Lg h' v' 58 2 k cs ∧ Keep No h h' ∧ ∀ m, nm v' = some m → h.next ≤ m := by
  rcases sl_cut hv with ⟨rfl, rfl⟩ | ⟨a, c, rfl⟩
  · refine ⟨.slice none 0 0, h, run_fin Try.func48 rfl ?_, ?_, Keep.refl _ _, fun m e => by cases e⟩
    · simp [Try.f48, aexec, aops, aop, cls, light, lightS, binE, aeq, intBin, goInt, pl_int, pl_bool, pl_ptr, pl_slice, aload, isAggT, aeval, tput, awanted, List.range_succ, fin, aresults, aresult, List.replicate, heavy, acallOp, aenter, Try.underlying40]
    · have := hv.1; rw [Nat.zero_mul, List.length_eq_zero_iff] at this; subst this; exact Lg.nil _ _ _
  · have hv' := hv.keep (Keep.new No h (.cells [] 58 2 false false)) (fun _ _ x => x)
    obtain ⟨v', h', e, hl, hkp, hn, _, hf⟩ := append_lg (t := 40) (xt := 40) Try.underlying40 Try.underlying40 rfl el58 (Lg.empty (h.new (.cells [] 58 2 false false)) 58 2 h.next 0) hv' (by omega) (by omega) h1
    refine ⟨v', h', run_fin Try.func48 rfl ?_, by simpa using hl, ?_, fun m hm => ?_⟩
    · simp [Try.f48, aexec, aops, aop, cls, light, lightS, binE, aeq, intBin, goInt, pl_int, pl_bool, pl_ptr, pl_slice, aload, isAggT, aeval, tput, awanted, List.range_succ, fin, aresults, aresult, List.replicate, heavy, acallOp, aenter, Try.underlying40, bs40, e]
    · exact (Keep.new No h _).also hkp fun m hm x => by have := (nm_eq x).1; omega
    · rcases Nat.lt_or_ge m h.next with h2 | h2
      · have := hn m hm (by rw [Heap.next_new]; omega)
        have := (nm_eq this).1; omega
      · exact h2

def picks (l : List (Int × Int)) : List Value := l.flatMap fun p => [.int .i64 p.1, .int .i64 p.2]
theorem picks_one (l : List (Int × Int)) : (picks l).all one = true := by simp [picks, one]
theorem picks_len (l : List (Int × Int)) : (picks l).length = l.length * 2 := by
  induction l with
  | nil => rfl
  | cons x l ih => simp only [picks, List.flatMap_cons, List.length_append, List.length_cons, List.length_nil] at *; omega
theorem picks_app (l : List (Int × Int)) (a b : Int) : picks (l ++ [(a, b)]) = picks l ++ [.int .i64 a, .int .i64 b] := by simp [picks]

theorem loglog_run (s : Scr) {h : Heap} {n : Nat} {lv : Value} {rest : List Value} {T z : Nat} {k : Nat} {cs : List Value} (hg : h.get n = some (.cells (lv :: rest) T z false false)) (hv : Sl h lv 2 k cs) (h1 : cs.all one = true) (hk : k * 16 ≤ 2 ^ 47) :
    ∃ v' h', run Try.prog s 41 [.pointer (some ⟨n, 0, none⟩)] h = some (v', h') ∧ Lg h' v' 58 2 k cs ∧ Keep No h h' ∧ ∀ m, nm v' = some m → h.next ≤ m := by
  obtain ⟨v', h', e, hl, hkp, hf⟩ := clone_pick s hv h1 hk
  refine ⟨v', h', run_fin Try.func41 rfl ?_, hl, hkp, hf⟩
  simp [Try.f41, ax_skip, ax_label, ax_region, ax_draw, ax_seq, ax_cond, ax_block, ax_loop, ax_scope, ax_exit, ax_ret, aops, aop, cls, light, lightS, binE, aeq, intBin, goInt, pl_int, pl_bool, pl_ptr, pl_slice, aload, isAggT, aeval, tput, awanted, List.range_succ, fin, aresults, aresult, List.replicate, heavy, acallOp, aenter, ble_d, beq_d, firstRegion, adraw, readNames, Nxt, isAnc, readsOk, objEq_some, Try.underlying72, Try.underlying40, fa74_0, hg, en48, e]

theorem note_run (s : Scr) {h : Heap} {n : Nat} {lv : Value} {rest : List Value} {T z : Nat} {k : Nat} {cs : List Value} (a b : Int) (hg : h.get n = some (.cells (lv :: rest) T z false false)) (hv : Lg h lv 58 2 k cs) (hne : nm lv ≠ some n) (hk : (k + 1) * 16 ≤ 2 ^ 47) :
    ∃ lv' h', run Try.prog s 40 [.pointer (some ⟨n, 0, none⟩), .int .i64 a, .int .i64 b] h = some (.tuple #[], h') ∧ h'.get n = some (.cells (lv' :: rest) T z false false) ∧ Lg h' lv' 58 2 (k + 1) (cs ++ [.int .i64 a, .int .i64 b]) ∧
      Keep (fun m => m = n ∨ nm lv = some m) h h' ∧ ∀ m, nm lv' = some m → h.next ≤ m := by
  have hn := Heap.get_lt hg
  have hkn := Keep.new No h (.cells [.int .i64 a, .int .i64 b] 58 2 false false)
  have hv' := hv.keep hkn (fun _ _ x => x)
  have hx : Sl (h.new (.cells [.int .i64 a, .int .i64 b] 58 2 false false)) (.slice (some ⟨h.next, 0, none⟩) 1 1) 2 1 [.int .i64 a, .int .i64 b] :=
    ⟨rfl, .inr ⟨_, _, rfl, fun _ => ⟨_, _, _, _, _, by rw [Heap.get_new, if_pos rfl], rfl⟩⟩⟩
  obtain ⟨lv', h2, e, hl, hkp, hold, _, hfr⟩ := append_lg (t := 40) (xt := 40) Try.underlying40 Try.underlying40 rfl el58 hv' hx (by omega) (by omega) rfl
  obtain ⟨m', em, hm'⟩ := hfr (by omega)
  rw [Heap.next_new] at hm'
  have hg2 : h2.get n = some (.cells (lv :: rest) T z false false) := hkp.get (hkn.get hg (fun x => x)) hne
  have hok := hl.sl.okc
  have hput : Keep (fun m => m = n) h2 (h2.put n (some (.cells (lv' :: rest) T z false false))) := Keep.put (S := fun m => m = n) (Heap.get_lt hg2) rfl _
  refine ⟨lv', h2.put n (some (.cells (lv' :: rest) T z false false)), run_fin Try.func40 rfl ?_, by rw [Heap.get_put (Heap.get_lt hg2), if_pos rfl], hl.keep hput (fun m e1 e2 => by rw [em] at e1; cases e1; omega), ?_, ?_⟩
  · simp [Try.f40, ax_skip, ax_label, ax_region, ax_draw, ax_seq, ax_cond, ax_block, ax_loop, ax_scope, ax_exit, ax_ret, aops, aop, cls, light, lightS, binE, aeq, intBin, goInt, pl_int, pl_bool, pl_ptr, pl_slice, aload, isAggT, aeval, tput, awanted, List.range_succ, fin, aresults, aresult, List.replicate, heavy, acallOp, aenter, ble_d, beq_d, firstRegion, adraw, readNames, Nxt, isAnc, readsOk, objEq_some, Try.underlying72, Try.underlying40, fa74_0, hg, hg2, build58, (fun ρ x => bs40_1 ρ x a b), e, astore, hok, sz40]
  · refine ((hkn.mono (fun _ _ x => x.elim)).also hkp fun m hm x => .inr x).also hput fun m hm x => .inl x
  · intro m e1; rw [em] at e1; cases e1; omega
theorem aggOk58 : aggOk Try.prog 58 = true := by kernel_rfl
theorem aeq58 (a b c e : Int) (g : Nat → Option AObj) : aeq Try.prog 58 (.agg #[.int .i64 a, .int .i64 b]) (.agg #[.int .i64 c, .int .i64 e]) g = some ((a == c) && ((b == e) && true)) := by kernel_rfl

theorem picks_get (l : List (Int × Int)) (i : Nat) (hi : i < l.length) : (picks l)[i * 2]? = some (.int .i64 (l.getD i (0, 0)).1) ∧ (picks l)[i * 2 + 1]? = some (.int .i64 (l.getD i (0, 0)).2) := by
  induction l generalizing i with
  | nil => simp at hi
  | cons x l ih =>
    cases i with
    | zero => simp [picks]
    | succ i =>
      have := ih i (by simpa using hi)
      have h1 : (i + 1) * 2 = i * 2 + 1 + 1 := by omega
      simp only [picks, List.flatMap_cons, List.cons_append, List.nil_append, h1, List.getElem?_cons_succ] at this ⊢
      simpa using this

/-- A pick's two numbers, at its place. -/
theorem sl_pick {h : Heap} {v : Value} {k : Nat} {l : List (Int × Int)} (hs : Sl h v 2 k (picks l)) {i : Nat} (hi : i < k) :
    ∃ a n c e s gr ro, v = .slice (some a) k n ∧ h.get a.block = some (.cells c e s gr ro) ∧ a.off + i * 2 + 2 ≤ c.length ∧ (c.drop (a.off + i * 2)).take 2 = [.int .i64 (l.getD i (0, 0)).1, .int .i64 (l.getD i (0, 0)).2] ∧
      c[a.off + i * 2]? = some (.int .i64 (l.getD i (0, 0)).1) ∧ c[a.off + i * 2 + 1]? = some (.int .i64 (l.getD i (0, 0)).2) := by
  have hs0 := hs
  obtain ⟨hl, ⟨rfl, rfl⟩ | ⟨a, n, rfl, _⟩⟩ := hs0
  · omega
  · obtain ⟨c, e, s, gr, ro, hg, hfit, hc, hget⟩ := hs.fit (by omega) (by omega)
    have hll : l.length = k := by rw [picks_len] at hl; omega
    obtain ⟨p1, p2⟩ := picks_get l i (by omega)
    have g1 := hget (i * 2) (by omega)
    have g2 := hget (i * 2 + 1) (by omega)
    rw [p1] at g1
    rw [p2, ← Nat.add_assoc] at g2
    refine ⟨a, n, c, e, s, gr, ro, rfl, hg, by omega, ?_, g1, g2⟩
    have l1 : a.off + i * 2 < c.length := by omega
    have l2 : a.off + i * 2 + 1 < c.length := by omega
    rw [List.getElem?_eq_getElem l1, Option.some.injEq] at g1
    rw [List.getElem?_eq_getElem l2, Option.some.injEq] at g2
    rw [List.drop_eq_getElem_cons l1, List.drop_eq_getElem_cons l2]
    simp [g1, g2]

theorem same_run {h : Heap} {va vb : Value} {l : List (Int × Int)} (ha : Sl h va 2 l.length (picks l)) (hb : Sl h vb 2 l.length (picks l)) (hlen : l.length ≤ 2 ^ 47) : run Try.prog sB 23 [va, vb] h = some (.bool true, h) := by
  refine run_fin Try.func23 rfl ?_
  obtain ⟨a, c, rfl⟩ : ∃ a c, va = .slice a l.length c := by
    rcases sl_cut ha with ⟨rfl, h0⟩ | ⟨a, c, rfl⟩
    · exact ⟨none, 0, by rw [h0]⟩
    · exact ⟨_, _, rfl⟩
  obtain ⟨b, d, rfl⟩ : ∃ a c, vb = .slice a l.length c := by
    rcases sl_cut hb with ⟨rfl, h0⟩ | ⟨a, c, rfl⟩
    · exact ⟨none, 0, by rw [h0]⟩
    · exact ⟨_, _, rfl⟩
  simp [Try.f23, ax_skip, ax_label, ax_region, ax_draw, ax_seq, ax_cond, ax_block, ax_loop, ax_scope, ax_exit, ax_ret, aops, aop, cls, light, lightS, binE, aeq, intBin, goInt, pl_int, pl_bool, pl_ptr, pl_slice, aload, isAggT, aeval, tput, awanted, List.range_succ, fin, aresults, aresult, List.replicate, heavy, acallOp, aenter, ble_d, beq_d, firstRegion, adraw, readNames, Nxt, isAnc, readsOk, objEq_some, ibne, Try.underlying40, sB23]
  generalize hl : loopω _ _ _ _ = r
  obtain ⟨e, t', h', hx, he, hh, x11, x12, x13, x14, ht⟩ : ∃ e t' h', r = some (e, t', h') ∧ e = .exit 0 ∧ h' = h ∧ ∃ x11 x12 x13 x14, t' = [.slice a l.length c, .slice b l.length d, unk, unk, .bool false, .int .i64 l.length, unk, unk, unk, unk, unk, x11, x12, x13, x14, unk, unk, unk, unk, unk, unk, unk, unk, unk, unk, unk] := by
    rw [← hl]
    refine loop_by (fun k t h' => ∃ i, i + k = l.length ∧ forget [2, 3, 6, 7, 8, 9, 10, 11, 12, 13, 14, 15, 16, 17, 18, 19, 20, 21, 22, 23, 24, 25] t = [.slice a l.length c, .slice b l.length d, unk, unk, .bool false, .int .i64 i, unk, unk, unk, unk, unk, unk, unk, unk, unk, unk, unk, unk, unk, unk, unk, unk, unk, unk, unk, unk] ∧ h' = h)
      (fun e t' h' => e = .exit 0 ∧ h' = h ∧ ∃ x11 x12 x13 x14, t' = [.slice a l.length c, .slice b l.length d, unk, unk, .bool false, .int .i64 l.length, unk, unk, unk, unk, unk, x11, x12, x13, x14, unk, unk, unk, unk, unk, unk, unk, unk, unk, unk, unk]) ?_ l.length _ _ ⟨0, by omega, by simp [forget], rfl⟩
    rintro k t h' ⟨i, hi, ht, rfl⟩
    rw [ht]
    rcases Nat.lt_or_ge i l.length with h1 | h1
    · obtain ⟨a, c, C, e, s, gr, ro, ea, hg, hf, hd, _, _⟩ := sl_pick ha h1
      obtain ⟨b, d, C', e', s', gr', ro', eb, hg', hf', hd', _, _⟩ := sl_pick hb h1
      simp only [Value.slice.injEq, true_and] at ea eb
      obtain ⟨rfl, rfl⟩ := ea
      obtain ⟨rfl, rfl⟩ := eb
      simp [ax_skip, ax_label, ax_region, ax_draw, ax_seq, ax_cond, ax_block, ax_loop, ax_scope, ax_exit, ax_ret, aops, aop, cls, light, lightS, binE, aeq, intBin, goInt, pl_int, pl_bool, pl_ptr, pl_slice, aload, isAggT, aeval, tput, awanted, List.range_succ, fin, aresults, aresult, List.replicate, heavy, acallOp, aenter, ble_d, beq_d, firstRegion, adraw, readNames, Nxt, isAnc, readsOk, objEq_some, ibne, Try.underlying40, h1]
      generalize hp : plan _ _ = pl
      obtain rfl : pl = some [0, 1, 2, 3, 4, 5, 6, 7, 8] := by rw [← hp]; kernel_rfl
      generalize ancs _ = an
      have hw : IntKind.i64.wrap ((i : Int) + 1) = ((i + 1 : Nat) : Int) := by rw [IntWalk.i64_in _ (by omega)]; omega
      simp [ax_skip, ax_label, ax_region, ax_draw, ax_seq, ax_cond, ax_block, ax_loop, ax_scope, ax_exit, ax_ret, aops, aop, cls, light, lightS, binE, aeq, intBin, goInt, pl_int, pl_bool, pl_ptr, pl_slice, aload, isAggT, aeval, tput, awanted, List.range_succ, fin, aresults, aresult, List.replicate, heavy, acallOp, aenter, ble_d, beq_d, firstRegion, adraw, readNames, Nxt, isAnc, readsOk, objEq_some, ibne, Try.underlying40, h1, aindexAddr, sz58, hg, hg', hf, hf', hd, hd', Try.underlying58, Try.underlying3, aggOk58, aeqFields, apart, hw]
      exact ⟨_, _, _, ⟨rfl, rfl, rfl⟩, k - 1, by omega, i + 1, by omega, by kernel_rfl, rfl⟩
    · have hi' : i = l.length := by omega
      subst hi'
      simp [ax_skip, ax_label, ax_region, ax_draw, ax_seq, ax_cond, ax_block, ax_loop, ax_scope, ax_exit, ax_ret, aops, aop, cls, light, lightS, binE, aeq, intBin, goInt, pl_int, pl_bool, pl_ptr, pl_slice, aload, isAggT, aeval, tput, awanted, List.range_succ, fin, aresults, aresult, List.replicate, heavy, acallOp, aenter, ble_d, beq_d, firstRegion, adraw, readNames, Nxt, isAnc, readsOk, objEq_some, ibne, Try.underlying40]
  subst hx he hh ht
  simp [ax_skip, ax_label, ax_region, ax_draw, ax_seq, ax_cond, ax_block, ax_loop, ax_scope, ax_exit, ax_ret, aops, aop, cls, light, lightS, binE, aeq, intBin, goInt, pl_int, pl_bool, pl_ptr, pl_slice, aload, isAggT, aeval, tput, awanted, List.range_succ, fin, aresults, aresult, List.replicate, heavy, acallOp, aenter, ble_d, beq_d, firstRegion, adraw, readNames, Nxt, isAnc, readsOk, objEq_some]


theorem clone_f64 (s : Scr) {h : Heap} {v : Value} {k : Nat} {cs : List Value} (hv : Sl h v 1 k cs) (h1 : cs.all one = true) (hk : k * 8 ≤ 2 ^ 47) :
    ∃ v' h', run Try.prog s 39 [v] h = some (v', h') ∧ Lg h' v' 34 1 k cs ∧ Keep No h h' ∧ ∀ m, nm v' = some m → h.next ≤ m := by
  rcases sl_cut hv with ⟨rfl, rfl⟩ | ⟨a, c, rfl⟩
  · refine ⟨.slice none 0 0, h, run_fin Try.func39 rfl ?_, ?_, Keep.refl _ _, fun m e => by cases e⟩
    · simp [Try.f39, ax_skip, ax_label, ax_region, ax_draw, ax_seq, ax_cond, ax_block, ax_loop, ax_scope, ax_exit, ax_ret, aops, aop, cls, light, lightS, binE, aeq, intBin, goInt, pl_int, pl_bool, pl_ptr, pl_slice, aload, isAggT, aeval, tput, awanted, List.range_succ, fin, aresults, aresult, List.replicate, heavy, acallOp, aenter, ble_d, beq_d, firstRegion, adraw, readNames, Nxt, isAnc, readsOk, objEq_some, Try.underlying25]
    · have := hv.1; rw [Nat.zero_mul, List.length_eq_zero_iff] at this; subst this; exact Lg.nil _ _ _
  · have hv' := hv.keep (Keep.new No h (.cells [] 34 1 false false)) (fun _ _ x => x)
    obtain ⟨v', h', e, hl, hkp, hn, _, hf⟩ := append_lg (t := 25) (xt := 25) Try.underlying25 Try.underlying25 rfl el34 (Lg.empty (h.new (.cells [] 34 1 false false)) 34 1 h.next 0) hv' (by omega) (by omega) h1
    refine ⟨v', h', run_fin Try.func39 rfl ?_, by simpa using hl, ?_, fun m hm => ?_⟩
    · simp [Try.f39, ax_skip, ax_label, ax_region, ax_draw, ax_seq, ax_cond, ax_block, ax_loop, ax_scope, ax_exit, ax_ret, aops, aop, cls, light, lightS, binE, aeq, intBin, goInt, pl_int, pl_bool, pl_ptr, pl_slice, aload, isAggT, aeval, tput, awanted, List.range_succ, fin, aresults, aresult, List.replicate, heavy, acallOp, aenter, ble_d, beq_d, firstRegion, adraw, readNames, Nxt, isAnc, readsOk, objEq_some, Try.underlying25, bs25, e]
    · exact (Keep.new No h _).also hkp fun m hm x => by have := (nm_eq x).1; omega
    · rcases Nat.lt_or_ge m h.next with h2 | h2
      · have := hn m hm (by rw [Heap.next_new]; omega)
        have := (nm_eq this).1; omega
      · exact h2
theorem box74 (ρ : Operand → Value) (x : Operand) (hx : ρ x = .agg #[.slice none 0 0]) (d ty pos af gu) : aalloc Try.prog ρ ⟨d, .box 74 x, ty, pos, af, gu⟩ = some (.cells [.slice none 0 0] 74 1 false false, fun n => .pointer (some ⟨n, 0, none⟩)) := bx 74 1 sz74 ρ x _ (by rw [hx]; rfl) _ _ _ _ _
theorem box77 (ρ : Operand → Value) (x : Operand) (p b : Option Addr) (n c : Nat) (hx : ρ x = .agg #[.pointer p, .slice b n c, .int .i64 0]) (d ty pos af gu) : aalloc Try.prog ρ ⟨d, .box 77 x, ty, pos, af, gu⟩ = some (.cells [.pointer p, .slice b n c, .int .i64 0] 77 3 false false, fun n => .pointer (some ⟨n, 0, none⟩)) := bx 77 3 sz77 ρ x _ (by rw [hx]; rfl) _ _ _ _ _

/-- A bias' object n, its log's object g, its own names F. -/
def Bis (h : Heap) (n : Nat) (F : Nat → Prop) (ws : List Nat) (turn : Nat) (log : List (Int × Int)) : Prop :=
  ∃ g lv wv, h.get n = some (.cells [.pointer (some ⟨g, 0, none⟩), wv, .int .i64 (turn : Nat)] 77 3 false false) ∧ h.get g = some (.cells [lv] 74 1 false false) ∧ Lg h lv 58 2 log.length (picks log) ∧ Sl h wv 1 ws.length (fl ws) ∧
    F n ∧ F g ∧ g ≠ n ∧ (∀ m, nm lv = some m → F m ∧ m ≠ n ∧ m ≠ g) ∧ (∀ m, nm wv = some m → ¬ F m) ∧ (∀ m, F m → m < h.next) ∧ (∀ m, nm wv = some m → ∃ c s gr ro, h.get m = some (.cells c 34 s gr ro)) ∧ ∀ m, F m → m = n ∨ m = g ∨ nm lv = some m
theorem Bis.keep {S F : Nat → Prop} {h h' : Heap} {n : Nat} {ws : List Nat} {turn : Nat} {log : List (Int × Int)} (ho : Bis h n F ws turn log) (hk : Keep S h h') (h1 : ∀ m, F m → ¬ S m) (h2 : ∀ m, S m → ∀ c s gr ro, h.get m ≠ some (.cells c 34 s gr ro)) : Bis h' n F ws turn log := by
  obtain ⟨g, lv, wv, hn, hg, hl, hw, fn, fg, hgn, hlf, hwf, hF, hT, hX⟩ := ho
  have hS : ∀ m, nm wv = some m → ¬ S m := fun m e hs => by
    obtain ⟨c, s, gr, ro, hm⟩ := hT m e
    exact h2 m hs _ _ _ _ hm
  exact ⟨g, lv, wv, hk.get hn (h1 n fn), hk.get hg (h1 g fg), hl.keep hk (fun m e => h1 m (hlf m e).1), hw.keep hk hS, fn, fg, hgn, hlf, hwf, fun m e => Nat.lt_of_lt_of_le (hF m e) hk.1, fun m e => by
    obtain ⟨c, s, gr, ro, hm⟩ := hT m e
    exact ⟨c, s, gr, ro, hk.get hm (hS m e)⟩, hX⟩
theorem bnew_run {h : Heap} {v : Value} {ws : List Nat} (hv : Sl h v 1 ws.length (fl ws)) (hk : ws.length * 8 ≤ 2 ^ 47) :
    ∃ n F h', run Try.prog sB 20 [v] h = some (.pointer (some ⟨n, 0, none⟩), h') ∧ Bis h' n F ws 0 [] ∧ Keep No h h' ∧ ∀ m, F m → h.next ≤ m := by
  have k0 := Keep.new No h (.cells [.slice none 0 0] 74 1 false false)
  obtain ⟨wv, h2, e, hl, kp, hf⟩ := clone_f64 sB (hv.keep k0 fun _ _ x => x) (fl_one _) hk
  obtain ⟨a, c, rfl⟩ := sl_form hl.sl
  have g0 : (h.new (.cells [.slice none 0 0] 74 1 false false)).get h.next = some (.cells [.slice none 0 0] 74 1 false false) := by rw [Heap.get_new, if_pos rfl]
  have g2 := kp.get g0 (fun x => x)
  have kn := Keep.new No h2 (.cells [.pointer (some ⟨h.next, 0, none⟩), .slice a ws.length c, .int .i64 0] 77 3 false false)
  have hlt := kp.1
  rw [Heap.next_new] at hlt
  refine ⟨h2.next, fun m => m = h2.next ∨ m = h.next, h2.new (.cells [.pointer (some ⟨h.next, 0, none⟩), .slice a ws.length c, .int .i64 0] 77 3 false false), run_fin Try.func20 rfl ?_,
    ⟨h.next, .slice none 0 0, .slice a ws.length c, by rw [Heap.get_new, if_pos rfl]; rfl, kn.get g2 (fun x => x), Lg.nil _ _ _, hl.sl.keep kn (fun _ _ x => x), .inl rfl, .inr rfl, by omega, fun m e => (by cases e), fun m e x => ?_, fun m x => ?_, fun m e => ⟨_, _, _, _, Lg_obj (hl.keep kn fun _ _ x => x) e⟩, fun m x => ?_⟩, (k0.trans kp).trans kn, fun m x => ?_⟩
  · simp [Try.f20, ax_skip, ax_label, ax_region, ax_draw, ax_seq, ax_cond, ax_block, ax_loop, ax_scope, ax_exit, ax_ret, aops, aop, cls, light, lightS, binE, aeq, intBin, goInt, pl_int, pl_bool, pl_ptr, pl_slice, aload, isAggT, aeval, tput, awanted, List.range_succ, fin, aresults, aresult, List.replicate, heavy, acallOp, aenter, ble_d, beq_d, firstRegion, adraw, readNames, Nxt, isAnc, readsOk, objEq_some, Try.underlying25, build74, box74, en39, e, build77, (fun ρ x => box77 ρ x (some ⟨h.next, 0, none⟩) a ws.length c)]
  · have := hf m e; have := hl.sl.lt e; rw [Heap.next_new] at *; omega
  · rw [Heap.next_new]; omega
  · rcases x with x | x
    · exact .inl x
    · exact .inr (.inl x)
  · omega
theorem blog_run {h : Heap} {n : Nat} {F : Nat → Prop} {ws : List Nat} {turn : Nat} {log : List (Int × Int)} (ho : Bis h n F ws turn log) (hk : log.length * 16 ≤ 2 ^ 47) :
    ∃ v' h', run Try.prog sB 24 [.pointer (some ⟨n, 0, none⟩)] h = some (v', h') ∧ Lg h' v' 58 2 log.length (picks log) ∧ Keep No h h' ∧ ∀ m, nm v' = some m → h.next ≤ m := by
  obtain ⟨g, lv, wv, hn, hg, hl, hw, fn, fg, hgn, hlf, hwf, hF, hT, hX⟩ := ho
  obtain ⟨v', h', e, hl', hkp, hf⟩ := loglog_run sB hg hl.sl (picks_one _) hk
  refine ⟨v', h', run_fin Try.func24 rfl ?_, hl', hkp, hf⟩
  simp [Try.f24, ax_skip, ax_label, ax_region, ax_draw, ax_seq, ax_cond, ax_block, ax_loop, ax_scope, ax_exit, ax_ret, aops, aop, cls, light, lightS, binE, aeq, intBin, goInt, pl_int, pl_bool, pl_ptr, pl_slice, aload, isAggT, aeval, tput, awanted, List.range_succ, fin, aresults, aresult, List.replicate, heavy, acallOp, aenter, ble_d, beq_d, firstRegion, adraw, readNames, Nxt, isAnc, readsOk, objEq_some, Try.underlying38, Try.underlying72, fa77_0, hn, en41, e]
end Go.Proofs.Ythkefkpmgleolab.Bi
