/- The oracle's picks and forks: what the interpreter answers. -/
import Derived.Test.YthkefkpmgleolaaOr4
set_option linter.unusedVariables false
set_option linter.unusedSimpArgs false
namespace Go.Proofs.Ythkefkpmgleolaa.Or
open Go Go.Proofs Go.RowKit Go.Proofs.YthkefkpmgleolaaAI

def pk (raw : List Int) (of : Int) : Int := match raw with
  | [] => 0
  | x :: _ => modOf x of
def resK (raw : List Int) (of : Int) : Int := if of < 1 then 0 else if of = 1 then 0 else pk raw of
def resE (of : Int) : Int := if of < 1 then 2 else 0
def rawN (raw : List Int) (of : Int) : List Int := if of < 2 then raw else raw.tail
def logN (raw : List Int) (log : List (Int × Int)) (of : Int) : List (Int × Int) := if of < 2 then log else log ++ [(of, pk raw of)]

theorem un_slice {m off k : Nat} : Un (.slice (some ⟨m, off, some 0⟩) k 1) 1 := by
  intro a k' c e _; cases e; exact ⟨rfl, rfl⟩
theorem un_nil (sz : Nat) : Un (.slice none 0 0) sz := by intro a k' c e _; cases e

theorem ibeq (a b : Int) : (a == b) = decide (a = b) := by by_cases h : a = b <;> simp [h]
theorem ibne (a b : Int) : (a != b) = decide (a ≠ b) := by by_cases h : a = b <;> simp [h]

/-- The rest of a row. -/
theorem sl_tail {h : Heap} {m off : Nat} {x : Int} {xs : List Int} (hs : Sl h (.slice (some ⟨m, off, some 0⟩) (xs.length + 1) 1) 1 (xs.length + 1) (ints (x :: xs))) :
    Sl h (.slice (some ⟨m, off + 1, some 0⟩) xs.length 1) 1 xs.length (ints xs) := by
  obtain ⟨c, e, s, gr, ro, hg, hl, hc, _⟩ := hs.fit (by omega) (by omega)
  refine ⟨by simp [ints], .inr ⟨_, _, rfl, fun _ => ⟨c, e, s, gr, ro, hg, ?_⟩⟩⟩
  simp only at hc ⊢
  rw [← List.tail_drop]
  revert hc
  cases List.drop off c with
  | nil => intro hc; simp [ints] at hc
  | cons y ys => intro hc; simp only [ints, List.map_cons, Nat.mul_one, List.take_succ_cons, List.cons.injEq, List.tail_cons] at hc ⊢; exact hc.2

theorem pick_run (s : Scr) {h : Heap} {n : Nat} {F : Nat → Prop} {raw : List Int} {log : List (Int × Int)} (of : Int) (ho : Orc h n F raw log) (hb : (log.length + 1) * 16 ≤ 2 ^ 47) :
    ∃ h' F', run Try.prog s 15 [.pointer (some ⟨n, 0, none⟩), .int .i64 of] h = some (.tuple #[.int .i64 (resK raw of), .int .i64 (resE of)], h') ∧ Orc h' n F' (rawN raw of) (logN raw log of) ∧ Keep F h h' ∧ ∀ m, F' m → m < h.next → F m := by
  by_cases h1 : of < 1
  · refine ⟨h, F, run_fin Try.func15 rfl ?_, ?_, Keep.refl _ _, fun _ x _ => x⟩
    · simp [Try.f15, ax_skip, ax_label, ax_region, ax_draw, ax_seq, ax_cond, ax_block, ax_loop, ax_scope, ax_exit, ax_ret, aops, aop, cls, light, lightS, binE, aeq, intBin, goInt, pl_int, pl_bool, pl_ptr, pl_slice, aload, isAggT, aeval, tput, awanted, List.range_succ, fin, aresults, aresult, List.replicate, heavy, acallOp, aenter, ble_d, beq_d, firstRegion, adraw, readNames, Nxt, isAnc, readsOk, objEq_some, Try.underlying30, h1, resK, resE]
    · simpa [rawN, logN, show of < 2 by omega] using ho
  by_cases h2 : of = 1
  · refine ⟨h, F, run_fin Try.func15 rfl ?_, ?_, Keep.refl _ _, fun _ x _ => x⟩
    · simp [Try.f15, ax_skip, ax_label, ax_region, ax_draw, ax_seq, ax_cond, ax_block, ax_loop, ax_scope, ax_exit, ax_ret, aops, aop, cls, light, lightS, binE, aeq, intBin, goInt, pl_int, pl_bool, pl_ptr, pl_slice, aload, isAggT, aeval, tput, awanted, List.range_succ, fin, aresults, aresult, List.replicate, heavy, acallOp, aenter, ble_d, beq_d, firstRegion, adraw, readNames, Nxt, isAnc, readsOk, objEq_some, Try.underlying30, h1, h2, resK, resE]
    · simpa [rawN, logN, show of < 2 by omega] using ho
  have h3 : ¬ of < 2 := by omega
  obtain ⟨lv, rv, hg, hl, hr, hu, hn, hlf, hrf, hF, hT, hX⟩ := ho
  have hne : nm lv ≠ some n := fun e => (hlf n e).2 rfl
  have hnew : ∀ m, (fun m => m = n ∨ nm lv = some m) m → F m := by
    rintro m (rfl | e)
    · exact hn
    · exact (hlf m e).1
  cases raw with
  | nil =>
    obtain ⟨lv', h', e, hg', hl', hk', hf'⟩ := note_run s of 0 hg hl hne hb
    have hlen : ∃ a c, rv = .slice a 0 c := by
      rcases sl_cut hr with ⟨rfl, _⟩ | ⟨a, c, rfl⟩ <;> exact ⟨_, _, rfl⟩
    obtain ⟨a, c, rfl⟩ := hlen
    refine ⟨h', fun m => m = n ∨ nm lv' = some m, run_fin Try.func15 rfl ?_, ⟨lv', .slice a 0 c, hg', ?_, ?_, ?_, .inl rfl, fun m e => ⟨.inr e, ?_⟩, ?_, ?_, ?_, fun _ x => x⟩, hk'.mono fun m _ x => hnew m x, ?_⟩
    · simp [Try.f15, ax_skip, ax_label, ax_region, ax_draw, ax_seq, ax_cond, ax_block, ax_loop, ax_scope, ax_exit, ax_ret, aops, aop, cls, light, lightS, binE, aeq, intBin, goInt, pl_int, pl_bool, pl_ptr, pl_slice, aload, isAggT, aeval, tput, awanted, List.range_succ, fin, aresults, aresult, List.replicate, heavy, acallOp, aenter, ble_d, beq_d, firstRegion, adraw, readNames, Nxt, isAnc, readsOk, objEq_some, ibeq, Try.underlying30, Try.underlying29, fa59_1, fa59_0, hg, h1, h2, en24, e, resK, resE, pk]
    · simpa [logN, h3, pk, picks_app] using hl'
    · simpa [rawN, h3] using hr.keep hk' (fun m e1 e2 => hrf m e1 (hnew m e2))
    · exact hu
    · have := hf' m e; have := Heap.get_lt hg; omega
    · intro m e1 e2
      simp [nm] at e1
      cases a with
      | none => simp [nm] at e1
      | some a => simp [nm] at e1
    · rintro m (rfl | e1)
      · exact Heap.get_lt hg'
      · exact hl'.sl.lt e1
    · intro m e1
      cases a with
      | none => simp [nm] at e1
      | some a => simp [nm] at e1
    · rintro m (rfl | e1) hm
      · exact hn
      · have := hf' m e1; omega
  | cons x xs =>
    rcases sl_cut hr with ⟨_, hk⟩ | ⟨a, c, rfl⟩
    · cases hk
    obtain ⟨m, off, sp⟩ := a
    obtain ⟨hsp, rfl⟩ := hu _ _ _ rfl (by simp)
    simp only at hsp
    subst hsp
    obtain ⟨c, e', sz', gr, ro, hgm, hfit, _, hget⟩ := hr.fit (by omega) (by simp)
    have hx : c[off]? = some (.int .i64 x) := by have := hget 0 (by simp); simpa [ints] using this
    have hn' := Heap.get_lt hg
    have hput : Keep (fun m => m = n) h (h.put n (some (.cells [lv, .slice (some ⟨m, off + 1, some 0⟩) xs.length 1] 59 2 false false))) := Keep.put (S := fun m => m = n) hn' rfl _
    have hmn : m ≠ n := fun e => hrf m (nm_pos (by simp)) (e ▸ hn)
    obtain ⟨lv', h', e, hg', hl', hk', hf'⟩ := note_run s of (modOf x of) (h := h.put n (some (.cells [lv, .slice (some ⟨m, off + 1, some 0⟩) xs.length 1] 59 2 false false))) (rv := .slice (some ⟨m, off + 1, some 0⟩) xs.length 1) (by rw [Heap.get_put hn', if_pos rfl]) (hl.keep hput fun m e1 e2 => (hlf m e1).2 e2) hne hb
    have hlx : (0 : Int) < (xs.length : Int) + 1 := by omega
    refine ⟨h', fun m => m = n ∨ nm lv' = some m, run_fin Try.func15 rfl ?_, ⟨lv', .slice (some ⟨m, off + 1, some 0⟩) xs.length 1, hg', ?_, ?_, un_slice, .inl rfl, fun m e => ⟨.inr e, ?_⟩, ?_, ?_, ?_, fun _ x => x⟩, (hput.mono fun m _ e => (show F m from e ▸ hn)).also hk' fun m _ x => hnew m x, ?_⟩
    · simp [Try.f15, ax_skip, ax_label, ax_region, ax_draw, ax_seq, ax_cond, ax_block, ax_loop, ax_scope, ax_exit, ax_ret, aops, aop, cls, light, lightS, binE, aeq, intBin, goInt, pl_int, pl_bool, pl_ptr, pl_slice, aload, isAggT, aeval, tput, awanted, List.range_succ, fin, aresults, aresult, List.replicate, heavy, acallOp, aenter, ble_d, beq_d, firstRegion, adraw, readNames, Nxt, isAnc, readsOk, objEq_some, ibeq, Try.underlying30, Try.underlying29, fa59_1, fa59_0, hg, hgm, hx, h1, h2, hlx, aindexAddr, sz3, sz29, aslice, abound, en12, mod_run, astore, okCells, one, en24, e, resK, resE, pk]
    · simpa [logN, h3, pk, picks_app] using hl'
    · have := (sl_tail hr).keep ((hput.mono fun m _ e => (show F m from e ▸ hn)).also hk' fun m _ x => hnew m x) (fun m' e1 => by have := nm_eq e1; simp only at this; obtain ⟨_, rfl⟩ := this; exact hrf m (nm_pos (by simp)))
      simpa [rawN, h3] using this
    · have := hf' m e; rw [Heap.next_put] at this; omega
    · intro m' e1
      have := nm_eq e1
      simp only at this
      obtain ⟨_, rfl⟩ := this
      rintro (h8 | h8)
      · exact hmn h8
      · have := hf' _ h8; rw [Heap.next_put] at this; have : m < h.next := Heap.get_lt hgm; omega
    · rintro m (rfl | e1)
      · exact Heap.get_lt hg'
      · exact hl'.sl.lt e1
    · intro m' e1
      have := nm_eq e1
      simp only at this
      obtain ⟨_, rfl⟩ := this
      obtain ⟨c, s, gr, ro, hm⟩ := hT _ (nm_pos (by simp))
      exact ⟨c, s, gr, ro, ((hput.mono fun m _ e => (show F m from e ▸ hn)).also hk' fun m _ x => hnew m x).get hm (hrf _ (nm_pos (by simp)))⟩
    · rintro m (rfl | e1) hm
      · exact hn
      · have := hf' m e1; rw [Heap.next_put] at this; omega
end Go.Proofs.Ythkefkpmgleolaa.Or
