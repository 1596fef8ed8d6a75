/- The oracle's functions over memory: what the interpreter answers. -/
import Derived.Test.YthkefkpmgleolaaOr2
set_option linter.unusedVariables false
set_option linter.unusedSimpArgs false
namespace Go.Proofs.Ythkefkpmgleolaa.Or
open Go Go.Proofs Go.RowKit Go.Proofs.YthkefkpmgleolaaAI

theorem build59 (a : Option Addr) (n c : Nat) : abuild Try.prog 59 [(1, .slice a n c)] = some (.agg #[.slice none 0 0, .slice a n c]) := by kernel_rfl
theorem build49 (a b : Int) : abuild Try.prog 49 [(0, .int .i64 a), (1, .int .i64 b)] = some (.agg #[.int .i64 a, .int .i64 b]) := by kernel_rfl
theorem build34 (a : Option Addr) (n c : Nat) : abuild Try.prog 34 [(0, .slice a n c)] = some (.agg #[.slice a n c, .slice none 0 0]) := by kernel_rfl
theorem el3 : elTyB Try.prog 3 1 8 = true := by kernel_rfl
theorem el49 : elTyB Try.prog 49 2 16 = true := by kernel_rfl
theorem sz34 : szOf Try.prog 34 = some 2 := by kernel_rfl
theorem sz59 : szOf Try.prog 59 = some 2 := by kernel_rfl
theorem sz49 : szOf Try.prog 49 = some 2 := by kernel_rfl
theorem sz57 : szOf Try.prog 57 = some 1 := by kernel_rfl
theorem sz3 : szOf Try.prog 3 = some 1 := by kernel_rfl
theorem sz29 : szOf Try.prog 29 = some 1 := by kernel_rfl
theorem sz32 : szOf Try.prog 32 = some 1 := by kernel_rfl
theorem sz30 : szOf Try.prog 30 = some 1 := by kernel_rfl
theorem fa59_0 (n : Nat) : afieldAddr Try.prog 59 (.pointer (some ⟨n, 0, none⟩)) 0 = some (.pointer (some ⟨n, 0, none⟩)) := by kernel_rfl
theorem fa59_1 (n : Nat) : afieldAddr Try.prog 59 (.pointer (some ⟨n, 0, none⟩)) 1 = some (.pointer (some ⟨n, 1, none⟩)) := by kernel_rfl
theorem fa57 (n : Nat) : afieldAddr Try.prog 57 (.pointer (some ⟨n, 0, none⟩)) 0 = some (.pointer (some ⟨n, 0, none⟩)) := by kernel_rfl
theorem fa34_0 (n : Nat) : afieldAddr Try.prog 34 (.pointer (some ⟨n, 0, none⟩)) 0 = some (.pointer (some ⟨n, 0, none⟩)) := by kernel_rfl
theorem fa34_1 (n : Nat) : afieldAddr Try.prog 34 (.pointer (some ⟨n, 0, none⟩)) 1 = some (.pointer (some ⟨n, 1, none⟩)) := by kernel_rfl
theorem fa49_0 (n o : Nat) : afieldAddr Try.prog 49 (.pointer (some ⟨n, o, none⟩)) 0 = some (.pointer (some ⟨n, o, none⟩)) := by kernel_rfl
theorem fa49_1 (n o : Nat) : afieldAddr Try.prog 49 (.pointer (some ⟨n, o, none⟩)) 1 = some (.pointer (some ⟨n, o + 1, none⟩)) := by kernel_rfl
theorem bs29 (ρ : Operand → Value) (d ty pos af gu) : aalloc Try.prog ρ ⟨d, .buildSlice 29 0 #[], ty, pos, af, gu⟩ = some (.cells [] 3 1 false false, fun n => .slice (some ⟨n, 0, none⟩) 0 0) := by kernel_rfl
theorem bs32 (ρ : Operand → Value) (d ty pos af gu) : aalloc Try.prog ρ ⟨d, .buildSlice 32 0 #[], ty, pos, af, gu⟩ = some (.cells [] 49 2 false false, fun n => .slice (some ⟨n, 0, none⟩) 0 0) := by kernel_rfl
theorem bs32_1' (a b) (d ty pos af gu) : aalloc Try.prog (fun _ => .agg #[.int .i64 a, .int .i64 b]) ⟨d, .buildSlice 32 1 #[(0, .tmp 0)], ty, pos, af, gu⟩ = some (.cells [.int .i64 a, .int .i64 b] 49 2 false false, fun n => .slice (some ⟨n, 0, none⟩) 1 1) := by kernel_rfl
theorem bs32_1 (ρ : Operand → Value) (x a b) (hx : ρ x = .agg #[.int .i64 a, .int .i64 b]) (d ty pos af gu) : aalloc Try.prog ρ ⟨d, .buildSlice 32 1 #[(0, x)], ty, pos, af, gu⟩ = some (.cells [.int .i64 a, .int .i64 b] 49 2 false false, fun n => .slice (some ⟨n, 0, none⟩) 1 1) := by
  have h1 : aalloc Try.prog ρ ⟨d, .buildSlice 32 1 #[(0, x)], ty, pos, af, gu⟩ = aalloc Try.prog (fun _ => ρ x) ⟨d, .buildSlice 32 1 #[(0, .tmp 0)], ty, pos, af, gu⟩ := by simp [aalloc]
  rw [h1, hx]; exact bs32_1' _ _ _ _ _ _ _
theorem en14 : enters Try.prog 14 = true := by kernel_rfl
theorem en16 : enters Try.prog 16 = true := by kernel_rfl
theorem en18 : enters Try.prog 18 = true := by kernel_rfl
theorem en21 : enters Try.prog 21 = true := by kernel_rfl
theorem en22 : enters Try.prog 22 = true := by kernel_rfl
theorem en23 : enters Try.prog 23 = true := by kernel_rfl
theorem en24 : enters Try.prog 24 = true := by kernel_rfl
theorem en25 : enters Try.prog 25 = true := by kernel_rfl
theorem en26 : enters Try.prog 26 = true := by kernel_rfl
theorem en27 : enters Try.prog 27 = true := by kernel_rfl

/-- No object is changed. -/
abbrev No : Nat → Prop := fun _ => False

/-- A slice, cut in its three forms. -/
theorem sl_cut {h : Heap} {v : Value} {sz k : Nat} {cs : List Value} (hs : Sl h v sz k cs) : v = .slice none 0 0 ∧ k = 0 ∨ ∃ a c, v = .slice (some a) k c := by
  obtain ⟨_, ⟨rfl, rfl⟩ | ⟨a, n, rfl, _⟩⟩ := hs
  · exact .inl ⟨rfl, rfl⟩
  · exact .inr ⟨_, _, rfl⟩

theorem clone_int (s : Scr) {h : Heap} {v : Value} {k : Nat} {cs : List Value} (hv : Sl h v 1 k cs) (h1 : cs.all one = true) (hk : k * 8 ≤ 2 ^ 47) :
    ∃ v' h', run Try.prog s 23 [v] h = some (v', h') ∧ Lg h' v' 3 1 k cs ∧ Keep No h h' ∧ ∀ m, nm v' = some m → h.next ≤ m := by
  rcases sl_cut hv with ⟨rfl, rfl⟩ | ⟨a, c, rfl⟩
  · refine ⟨.slice none 0 0, h, run_fin Try.func23 rfl ?_, ?_, Keep.refl _ _, fun m e => by cases e⟩
    · simp [Try.f23, aexec, aops, aop, cls, light, lightS, binE, aeq, pl_slice, Try.underlying29, aeval, tput, awanted, List.range_succ, fin, aresults, aresult, List.replicate]
    · have := hv.1; rw [Nat.zero_mul, List.length_eq_zero_iff] at this; subst this; exact Lg.nil _ _ _
  · have hv' := hv.keep (Keep.new No h (.cells [] 3 1 false false)) (fun _ _ x => x)
    obtain ⟨v', h', e, hl, hkp, hn, _, hf⟩ := append_lg (t := 29) (xt := 29) Try.underlying29 Try.underlying29 rfl el3 (Lg.empty (h.new (.cells [] 3 1 false false)) 3 1 h.next 0) hv' (by omega) (by omega) h1
    refine ⟨v', h', run_fin Try.func23 rfl ?_, by simpa using hl, ?_, fun m hm => ?_⟩
    · simp [Try.f23, aexec, aops, aop, cls, light, lightS, binE, aeq, pl_slice, Try.underlying29, aeval, tput, awanted, List.range_succ, fin, aresults, aresult, List.replicate, bs29, heavy, acallOp, e]
    · exact (Keep.new No h _).also hkp fun m hm x => by have := (nm_eq x).1; omega
    · rcases Nat.lt_or_ge m h.next with h2 | h2
      · have := hn m hm (by rw [Heap.next_new]; omega)
        have := (nm_eq this).1; omega
      · exact h2

theorem clone_pick (s : Scr) {h : Heap} {v : Value} {k : Nat} {cs : List Value} (hv : Sl h v 2 k cs) (h1 : cs.all one = true) (hk : k * 16 ≤ 2 ^ 47) :
    ∃ v' h', run Try.prog s 27 [v] h = some (v', h') ∧ Lg h' v' 49 2 k cs ∧ Keep No h h' ∧ ∀ m, nm v' = some m → h.next ≤ m := by
  rcases sl_cut hv with ⟨rfl, rfl⟩ | ⟨a, c, rfl⟩
  · refine ⟨.slice none 0 0, h, run_fin Try.func27 rfl ?_, ?_, Keep.refl _ _, fun m e => by cases e⟩
    · simp [Try.f27, aexec, aops, aop, cls, light, lightS, binE, aeq, intBin, goInt, pl_int, pl_bool, pl_ptr, pl_slice, aload, isAggT, aeval, tput, awanted, List.range_succ, fin, aresults, aresult, List.replicate, heavy, acallOp, aenter, Try.underlying32]
    · have := hv.1; rw [Nat.zero_mul, List.length_eq_zero_iff] at this; subst this; exact Lg.nil _ _ _
  · have hv' := hv.keep (Keep.new No h (.cells [] 49 2 false false)) (fun _ _ x => x)
    obtain ⟨v', h', e, hl, hkp, hn, _, hf⟩ := append_lg (t := 32) (xt := 32) Try.underlying32 Try.underlying32 rfl el49 (Lg.empty (h.new (.cells [] 49 2 false false)) 49 2 h.next 0) hv' (by omega) (by omega) h1
    refine ⟨v', h', run_fin Try.func27 rfl ?_, by simpa using hl, ?_, fun m hm => ?_⟩
    · simp [Try.f27, aexec, aops, aop, cls, light, lightS, binE, aeq, intBin, goInt, pl_int, pl_bool, pl_ptr, pl_slice, aload, isAggT, aeval, tput, awanted, List.range_succ, fin, aresults, aresult, List.replicate, heavy, acallOp, aenter, Try.underlying32, bs32, e]
    · exact (Keep.new No h _).also hkp fun m hm x => by have := (nm_eq x).1; omega
    · rcases Nat.lt_or_ge m h.next with h2 | h2
      · have := hn m hm (by rw [Heap.next_new]; omega)
        have := (nm_eq this).1; omega
      · exact h2

/-- The oracle's object: its name, its log and its raw numbers. -/
theorem new_run (s : Scr) {h : Heap} {v : Value} {k : Nat} {cs : List Value} (hv : Sl h v 1 k cs) (h1 : cs.all one = true) (hk : k * 8 ≤ 2 ^ 47) :
    ∃ n rv h', run Try.prog s 14 [v] h = some (.pointer (some ⟨n, 0, none⟩), h') ∧ h'.get n = some (.cells [.slice none 0 0, rv] 59 2 false false) ∧ Lg h' rv 3 1 k cs ∧ Keep No h h' ∧ h.next ≤ n ∧ ∀ m, nm rv = some m → h.next ≤ m ∧ m ≠ n := by
  obtain ⟨rv, h2, e, hl, hkp, hf⟩ := clone_int s hv h1 hk
  have hc := hl.sl.okc
  obtain ⟨a, q, rfl⟩ : ∃ a q, rv = .slice a k q := by
    rcases sl_cut hl.sl with ⟨rfl, rfl⟩ | ⟨a, c, rfl⟩
    · exact ⟨_, _, rfl⟩
    · exact ⟨_, _, rfl⟩
  refine ⟨h2.next, .slice a k q, h2.new (.cells [.slice none 0 0, .slice a k q] 59 2 false false), run_fin Try.func14 rfl ?_, by rw [Heap.get_new, if_pos rfl], hl.keep (Keep.new No _ _) (fun _ _ x => x), hkp.trans (Keep.new _ _ _), hkp.1, fun m hm => ⟨hf m hm, ?_⟩⟩
  · simp [Try.f14, aexec, aops, aop, cls, light, lightS, binE, aeq, intBin, goInt, pl_int, pl_bool, pl_ptr, pl_slice, aload, isAggT, aeval, tput, awanted, List.range_succ, fin, aresults, aresult, List.replicate, heavy, acallOp, aenter, e, en23, build59, aalloc, okCells, one, sz59]
  · have := hl.sl.lt hm; omega
end Go.Proofs.Ythkefkpmgleolaa.Or
