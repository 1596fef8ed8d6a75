/- The oracle, as at layer 9. -/
import Derived.Test.YthkefkpmgleolabBi10
set_option linter.unusedVariables false
set_option linter.unusedSimpArgs false
namespace Go.Proofs.Ythkefkpmgleolab.Bi
open Go Go.Proofs Go.RowKit Go.Proofs.YthkefkpmgleolabAI Go.Proofs.YthkefkpmgleolabFl

/-- What a raw number comes to. -/
def modOf (raw of : Int) : Int := if raw.tmod of < 0 then IntKind.i64.wrap (raw.tmod of + of) else raw.tmod of

theorem mod_low (s : Scr) (raw of : Int) (h : Heap) (h1 : of < 1) : run Try.prog s 46 [.int .i64 raw, .int .i64 of] h = some (.tuple #[.int .i64 0, .int .i64 2], h) := by
  refine run_fin Try.func46 rfl ?_
  simp [Try.f46, aexec, aops, aop, cls, light, lightS, intBin, aeval, tput, awanted, plain, plainN, List.range_succ, h1, fin, aresults, aresult, List.replicate]

theorem mod_run (s : Scr) (raw of : Int) (h : Heap) (h1 : ¬ of < 1) : run Try.prog s 46 [.int .i64 raw, .int .i64 of] h = some (.tuple #[.int .i64 (modOf raw of), .int .i64 0], h) := by
  refine run_fin Try.func46 rfl ?_
  have h0 : ¬ of = 0 := by omega
  by_cases h2 : raw.tmod of < 0
  · simp [Try.f46, aexec, aops, aop, cls, light, lightS, intBin, aeval, tput, awanted, plain, plainN, List.range_succ, h1, h0, h2, fin, aresults, aresult, List.replicate, modOf]
  · simp [Try.f46, aexec, aops, aop, cls, light, lightS, intBin, aeval, tput, awanted, plain, plainN, List.range_succ, h1, h0, h2, fin, aresults, aresult, List.replicate, modOf]


theorem build82 (a : Option Addr) (n c : Nat) : abuild Try.prog 82 [(1, .slice a n c)] = some (.agg #[.slice none 0 0, .slice a n c]) := by kernel_rfl
theorem sz82 : szOf Try.prog 82 = some 2 := by kernel_rfl
theorem fa82_0 (n : Nat) : afieldAddr Try.prog 82 (.pointer (some ⟨n, 0, none⟩)) 0 = some (.pointer (some ⟨n, 0, none⟩)) := by kernel_rfl
theorem fa82_1 (n : Nat) : afieldAddr Try.prog 82 (.pointer (some ⟨n, 0, none⟩)) 1 = some (.pointer (some ⟨n, 1, none⟩)) := by kernel_rfl
/-- The oracle's object: its name, its log and its raw numbers. -/
theorem new_run (s : Scr) {h : Heap} {v : Value} {k : Nat} {cs : List Value} (hv : Sl h v 1 k cs) (h1 : cs.all one = true) (hk : k * 8 ≤ 2 ^ 47) :
    ∃ n rv h', run Try.prog s 33 [v] h = some (.pointer (some ⟨n, 0, none⟩), h') ∧ h'.get n = some (.cells [.slice none 0 0, rv] 82 2 false false) ∧ Lg h' rv 3 1 k cs ∧ Keep No h h' ∧ h.next ≤ n ∧ ∀ m, nm rv = some m → h.next ≤ m ∧ m ≠ n := by
  obtain ⟨rv, h2, e, hl, hkp, hf⟩ := clone_int s hv h1 hk
  have hc := hl.sl.okc
  obtain ⟨a, q, rfl⟩ : ∃ a q, rv = .slice a k q := by
    rcases sl_cut hl.sl with ⟨rfl, rfl⟩ | ⟨a, c, rfl⟩
    · exact ⟨_, _, rfl⟩
    · exact ⟨_, _, rfl⟩
  refine ⟨h2.next, .slice a k q, h2.new (.cells [.slice none 0 0, .slice a k q] 82 2 false false), run_fin Try.func33 rfl ?_, by rw [Heap.get_new, if_pos rfl], hl.keep (Keep.new No _ _) (fun _ _ x => x), hkp.trans (Keep.new _ _ _), hkp.1, fun m hm => ⟨hf m hm, ?_⟩⟩
  · simp [Try.f33, aexec, aops, aop, cls, light, lightS, binE, aeq, intBin, goInt, pl_int, pl_bool, pl_ptr, pl_slice, aload, isAggT, aeval, tput, awanted, List.range_succ, fin, aresults, aresult, List.replicate, heavy, acallOp, aenter, e, en45, build82, aalloc, okCells, one, sz82]
  · have := hl.sl.lt hm; omega

/-- The oracle's object n, whose own names are F. -/
def Orc (h : Heap) (n : Nat) (F : Nat → Prop) (raw : List Int) (log : List (Int × Int)) : Prop :=
  ∃ lv rv, h.get n = some (.cells [lv, rv] 82 2 false false) ∧ Lg h lv 58 2 log.length (picks log) ∧ Sl h rv 1 raw.length (ints raw) ∧ Un rv 1 ∧ F n ∧ (∀ m, nm lv = some m → F m ∧ m ≠ n) ∧ (∀ m, nm rv = some m → ¬ F m) ∧ (∀ m, F m → m < h.next) ∧ (∀ m, nm rv = some m → ∃ c s gr ro, h.get m = some (.cells c 3 s gr ro)) ∧ ∀ m, F m → m = n ∨ nm lv = some m

theorem Orc.keep {S F : Nat → Prop} {h h' : Heap} {n : Nat} {raw : List Int} {log : List (Int × Int)} (ho : Orc h n F raw log) (hk : Keep S h h') (h1 : ∀ m, F m → ¬ S m) (h2 : ∀ m, S m → ∀ c s gr ro, h.get m ≠ some (.cells c 3 s gr ro)) : Orc h' n F raw log := by
  obtain ⟨lv, rv, hg, hl, hr, hu, hn, hlf, hrf, hF, hT, hX⟩ := ho
  have hS : ∀ m, nm rv = some m → ¬ S m := fun m e hs => by
    obtain ⟨c, s, gr, ro, hm⟩ := hT m e
    exact h2 m hs _ _ _ _ hm
  exact ⟨lv, rv, hk.get hg (h1 n hn), hl.keep hk (fun m e => h1 m (hlf m e).1), hr.keep hk hS, hu, hn, hlf, hrf, fun m e => Nat.lt_of_lt_of_le (hF m e) hk.1, fun m e => by
    obtain ⟨c, s, gr, ro, hm⟩ := hT m e
    exact ⟨c, s, gr, ro, hk.get hm (hS m e)⟩, hX⟩

def pk (raw : List Int) (of : Int) : Int := match raw with
  | [] => 0
  | x :: _ => modOf x of
def resK (raw : List Int) (of : Int) : Int := if of < 1 then 0 else if of = 1 then 0 else pk raw of
def resE (of : Int) : Int := if of < 1 then 2 else 0
def rawN (raw : List Int) (of : Int) : List Int := if of < 2 then raw else raw.tail
def logN (raw : List Int) (log : List (Int × Int)) (of : Int) : List (Int × Int) := if of < 2 then log else log ++ [(of, pk raw of)]

theorem un_slice {m off k : Nat} : Un (.slice (some ⟨m, off, some 0⟩) k 1) 1 := by
  intro a k' c e _; cases e; exact ⟨rfl, rfl⟩
theorem un_nil (sz : Nat) : Un (.slice none 0 0) sz := by intro a k' c e _; cases e


/-- The rest of a row. -/
theorem sl_tail {h : Heap} {m off : Nat} {x : Int} {xs : List Int} (hs : Sl h (.slice (some ⟨m, off, some 0⟩) (xs.length + 1) 1) 1 (xs.length + 1) (ints (x :: xs))) :
    Sl h (.slice (some ⟨m, off + 1, some 0⟩) xs.length 1) 1 xs.length (ints xs) := by
  obtain ⟨c, e, s, gr, ro, hg, hl, hc, _⟩ := hs.fit (by omega) (by omega)
  refine ⟨by simp [ints], .inr ⟨_, _, rfl, fun _ => ⟨c, e, s, gr, ro, hg, ?_⟩⟩⟩
  simp only at hc ⊢
  rw [← List.tail_drop]
  revert hc
  cases List.drop off c with
  | nil => intro hc; simp [ints] at hc
  | cons y ys => intro hc; simp only [ints, List.map_cons, Nat.mul_one, List.take_succ_cons, List.cons.injEq, List.tail_cons] at hc ⊢; exact hc.2

theorem pick_run (s : Scr) {h : Heap} {n : Nat} {F : Nat → Prop} {raw : List Int} {log : List (Int × Int)} (of : Int) (ho : Orc h n F raw log) (hb : (log.length + 1) * 16 ≤ 2 ^ 47) :
    ∃ h' F', run Try.prog s 34 [.pointer (some ⟨n, 0, none⟩), .int .i64 of] h = some (.tuple #[.int .i64 (resK raw of), .int .i64 (resE of)], h') ∧ Orc h' n F' (rawN raw of) (logN raw log of) ∧ Keep F h h' ∧ ∀ m, F' m → m < h.next → F m := by
  by_cases h1 : of < 1
  · refine ⟨h, F, run_fin Try.func34 rfl ?_, ?_, Keep.refl _ _, fun _ x _ => x⟩
    · simp [Try.f34, ax_skip, ax_label, ax_region, ax_draw, ax_seq, ax_cond, ax_block, ax_loop, ax_scope, ax_exit, ax_ret, aops, aop, cls, light, lightS, binE, aeq, intBin, goInt, pl_int, pl_bool, pl_ptr, pl_slice, aload, isAggT, aeval, tput, awanted, List.range_succ, fin, aresults, aresult, List.replicate, heavy, acallOp, aenter, ble_d, beq_d, firstRegion, adraw, readNames, Nxt, isAnc, readsOk, objEq_some, Try.underlying65, h1, resK, resE]
    · simpa [rawN, logN, show of < 2 by omega] using ho
  by_cases h2 : of = 1
  · refine ⟨h, F, run_fin Try.func34 rfl ?_, ?_, Keep.refl _ _, fun _ x _ => x⟩
    · simp [Try.f34, ax_skip, ax_label, ax_region, ax_draw, ax_seq, ax_cond, ax_block, ax_loop, ax_scope, ax_exit, ax_ret, aops, aop, cls, light, lightS, binE, aeq, intBin, goInt, pl_int, pl_bool, pl_ptr, pl_slice, aload, isAggT, aeval, tput, awanted, List.range_succ, fin, aresults, aresult, List.replicate, heavy, acallOp, aenter, ble_d, beq_d, firstRegion, adraw, readNames, Nxt, isAnc, readsOk, objEq_some, Try.underlying65, h1, h2, resK, resE]
    · simpa [rawN, logN, show of < 2 by omega] using ho
  have h3 : ¬ of < 2 := by omega
  obtain ⟨lv, rv, hg, hl, hr, hu, hn, hlf, hrf, hF, hT, hX⟩ := ho
  have hne : nm lv ≠ some n := fun e => (hlf n e).2 rfl
  have hnew : ∀ m, (fun m => m = n ∨ nm lv = some m) m → F m := by
    rintro m (rfl | e)
    · exact hn
    · exact (hlf m e).1
  cases raw with
  | nil =>
    obtain ⟨lv', h', e, hg', hl', hk', hf'⟩ := note_run s of 0 hg hl hne hb
    have hlen : ∃ a c, rv = .slice a 0 c := by
      rcases sl_cut hr with ⟨rfl, _⟩ | ⟨a, c, rfl⟩ <;> exact ⟨_, _, rfl⟩
    obtain ⟨a, c, rfl⟩ := hlen
    refine ⟨h', fun m => m = n ∨ nm lv' = some m, run_fin Try.func34 rfl ?_, ⟨lv', .slice a 0 c, hg', ?_, ?_, ?_, .inl rfl, fun m e => ⟨.inr e, ?_⟩, ?_, ?_, ?_, fun _ x => x⟩, hk'.mono fun m _ x => hnew m x, ?_⟩
    · simp [Try.f34, ax_skip, ax_label, ax_region, ax_draw, ax_seq, ax_cond, ax_block, ax_loop, ax_scope, ax_exit, ax_ret, aops, aop, cls, light, lightS, binE, aeq, intBin, goInt, pl_int, pl_bool, pl_ptr, pl_slice, aload, isAggT, aeval, tput, awanted, List.range_succ, fin, aresults, aresult, List.replicate, heavy, acallOp, aenter, ble_d, beq_d, firstRegion, adraw, readNames, Nxt, isAnc, readsOk, objEq_some, ibeq, Try.underlying65, Try.underlying28, fa82_1, fa82_0, hg, h1, h2, en40, e, resK, resE, pk]
    · simpa [logN, h3, pk, picks_app] using hl'
    · simpa [rawN, h3] using hr.keep hk' (fun m e1 e2 => hrf m e1 (hnew m e2))
    · exact hu
    · have := hf' m e; have := Heap.get_lt hg; omega
    · intro m e1 e2
      simp [nm] at e1
      cases a with
      | none => simp [nm] at e1
      | some a => simp [nm] at e1
    · rintro m (rfl | e1)
      · exact Heap.get_lt hg'
      · exact hl'.sl.lt e1
    · intro m e1
      cases a with
      | none => simp [nm] at e1
      | some a => simp [nm] at e1
    · rintro m (rfl | e1) hm
      · exact hn
      · have := hf' m e1; omega
  | cons x xs =>
    rcases sl_cut hr with ⟨_, hk⟩ | ⟨a, c, rfl⟩
    · cases hk
    obtain ⟨m, off, sp⟩ := a
    obtain ⟨hsp, rfl⟩ := hu _ _ _ rfl (by simp)
    simp only at hsp
    subst hsp
    obtain ⟨c, e', sz', gr, ro, hgm, hfit, _, hget⟩ := hr.fit (by omega) (by simp)
    have hx : c[off]? = some (.int .i64 x) := by have := hget 0 (by simp); simpa [ints] using this
    have hn' := Heap.get_lt hg
    have hput : Keep (fun m => m = n) h (h.put n (some (.cells [lv, .slice (some ⟨m, off + 1, some 0⟩) xs.length 1] 82 2 false false))) := Keep.put (S := fun m => m = n) hn' rfl _
    have hmn : m ≠ n := fun e => hrf m (nm_pos (by simp)) (e ▸ hn)
    obtain ⟨lv', h', e, hg', hl', hk', hf'⟩ := note_run s of (modOf x of) (h := h.put n (some (.cells [lv, .slice (some ⟨m, off + 1, some 0⟩) xs.length 1] 82 2 false false))) (by rw [Heap.get_put hn', if_pos rfl]) (hl.keep hput fun m e1 e2 => (hlf m e1).2 e2) hne hb
    have hlx : (0 : Int) < (xs.length : Int) + 1 := by omega
    refine ⟨h', fun m => m = n ∨ nm lv' = some m, run_fin Try.func34 rfl ?_, ⟨lv', .slice (some ⟨m, off + 1, some 0⟩) xs.length 1, hg', ?_, ?_, un_slice, .inl rfl, fun m e => ⟨.inr e, ?_⟩, ?_, ?_, ?_, fun _ x => x⟩, (hput.mono fun m _ e => (show F m from e ▸ hn)).also hk' fun m _ x => hnew m x, ?_⟩
    · simp [Try.f34, ax_skip, ax_label, ax_region, ax_draw, ax_seq, ax_cond, ax_block, ax_loop, ax_scope, ax_exit, ax_ret, aops, aop, cls, light, lightS, binE, aeq, intBin, goInt, pl_int, pl_bool, pl_ptr, pl_slice, aload, isAggT, aeval, tput, awanted, List.range_succ, fin, aresults, aresult, List.replicate, heavy, acallOp, aenter, ble_d, beq_d, firstRegion, adraw, readNames, Nxt, isAnc, readsOk, objEq_some, ibeq, Try.underlying65, Try.underlying28, fa82_1, fa82_0, hg, hgm, hx, h1, h2, hlx, aindexAddr, sz3, sz28, aslice, abound, en46, mod_run, astore, okCells, one, en40, e, resK, resE, pk]
    · simpa [logN, h3, pk, picks_app] using hl'
    · have := (sl_tail hr).keep ((hput.mono fun m _ e => (show F m from e ▸ hn)).also hk' fun m _ x => hnew m x) (fun m' e1 => by have := nm_eq e1; simp only at this; obtain ⟨_, rfl⟩ := this; exact hrf m (nm_pos (by simp)))
      simpa [rawN, h3] using this
    · have := hf' m e; rw [Heap.next_put] at this; omega
    · intro m' e1
      have := nm_eq e1
      simp only at this
      obtain ⟨_, rfl⟩ := this
      rintro (h8 | h8)
      · exact hmn h8
      · have := hf' _ h8; rw [Heap.next_put] at this; have : m < h.next := Heap.get_lt hgm; omega
    · rintro m (rfl | e1)
      · exact Heap.get_lt hg'
      · exact hl'.sl.lt e1
    · intro m' e1
      have := nm_eq e1
      simp only at this
      obtain ⟨_, rfl⟩ := this
      obtain ⟨c, s, gr, ro, hm⟩ := hT _ (nm_pos (by simp))
      exact ⟨c, s, gr, ro, ((hput.mono fun m _ e => (show F m from e ▸ hn)).also hk' fun m _ x => hnew m x).get hm (hrf _ (nm_pos (by simp)))⟩
    · rintro m (rfl | e1) hm
      · exact hn
      · have := hf' m e1; rw [Heap.next_put] at this; omega

theorem new_orc (s : Scr) {h : Heap} {v : Value} {raw : List Int} (hv : Sl h v 1 raw.length (ints raw)) (hk : raw.length * 8 ≤ 2 ^ 47) :
    ∃ n F h', run Try.prog s 33 [v] h = some (.pointer (some ⟨n, 0, none⟩), h') ∧ Orc h' n F raw [] ∧ Keep No h h' ∧ ∀ m, F m → h.next ≤ m := by
  obtain ⟨n, rv, h', e, hg, hl, hk', hn, hf⟩ := new_run s hv (ints_one _) hk
  refine ⟨n, fun m => m = n, h', e, ⟨_, rv, hg, Lg.nil _ _ _, hl.sl, hl.un, rfl, fun m e => (by cases e), fun m e => (hf m e).2, fun m e => (by rw [show m = n from e]; exact Heap.get_lt hg), fun m e => ⟨_, _, _, _, Lg_obj hl e⟩, fun m e => .inl e⟩, hk', fun m e => (by rw [show m = n from e]; exact hn)⟩


def bad (p : Int × Int) : Bool := decide (p.1 < 2) || (decide (p.2 < 0) || decide (p.2 ≥ p.1))
def goodB (l : List (Int × Int)) : Bool := l.all fun p => !bad p

theorem goodB_false {l : List (Int × Int)} {i : Nat} (hi : i < l.length) (hb : bad (l.getD i (0, 0)) = true) : goodB l = false := by
  unfold goodB
  rw [List.all_eq_false]
  refine ⟨l[i], List.getElem_mem hi, ?_⟩
  rw [List.getD_eq_getElem?_getD, List.getElem?_eq_getElem hi] at hb
  simp only [Option.getD_some] at hb
  simp [hb]

def tooks (l : List (Int × Int)) : List Int := l.map (·.2)
theorem take_tooks (l : List (Int × Int)) {i : Nat} (hi : i < l.length) : (tooks l).take (i + 1) = (tooks l).take i ++ [(l.getD i (0, 0)).2] := by
  have h1 : i < (tooks l).length := by simpa [tooks] using hi
  rw [List.take_add_one, List.getElem?_eq_getElem h1]
  simp [tooks, List.getD_eq_getElem?_getD, List.getElem?_eq_getElem hi]

set_option maxHeartbeats 800000 in

theorem zr3 : (Try.prog.info? 3).bind (fun i => i.zero) = some (.int .i64 0) := by kernel_rfl
theorem ms28 (ρ : Operand → Value) (a b : Operand) (k : Nat) (ha : ρ a = .int .i64 0) (hb : ρ b = .int .i64 k) (hk : k * 8 ≤ 2 ^ 47) (d ty pos af gu) :
    aalloc Try.prog ρ ⟨d, .makeSlice 28 a b, ty, pos, af, gu⟩ = some (.cells (List.replicate k (.int .i64 0)) 3 1 false false, fun n => .slice (some ⟨n, 0, none⟩) 0 k) := by
  obtain ⟨i, z, hi, hz, hp, hzc, hz1, hsz, hby, h0⟩ := elTy el3
  have hzz := zr3
  rw [hi] at hzz
  simp only [Option.bind_some, hz, Option.some.injEq] at hzz
  subst hzz
  unfold aalloc
  simp only [ha, hb, Try.underlying28, hi, hz, hsz, hby]
  have : (bif plain (Value.int .i64 0) && Nat.beq (Value.int .i64 0).cells.size 1 && (Value.int .i64 0).cells.toList.all one && Nat.blt 0 1 then (1 : Nat) else 0) = 1 := by kernel_rfl
  simp [plain, plainN, one, Value.cells, beq_d, Nat.blt, ble_d]
  omega

theorem al58 (ρ : Operand → Value) (d ty pos af gu) : aalloc Try.prog ρ ⟨d, .alloc 58, ty, pos, af, gu⟩ = some (.cells [.int .i64 0, .int .i64 0] 58 2 false false, fun n => .pointer (some ⟨n, 0, none⟩)) := by kernel_rfl

theorem append_in {h : Heap} {m : Nat} {xs rest : List Value} {y x : Value} {gr : Bool} (hg : h.get m = some (.cells (xs ++ rest) 3 1 gr false)) (hx : Sl h x 1 1 [y]) (hy : one y = true) (hr : 0 < rest.length) (hb : (xs.length + 1) * 8 ≤ 2 ^ 47) :
    aappend Try.prog 28 28 (.slice (some ⟨m, 0, none⟩) xs.length (xs.length + rest.length)) x h = some (.slice (some ⟨m, 0, none⟩) (xs.length + 1) (xs.length + rest.length), h.put m (some (.cells (xs ++ y :: rest.tail) 3 1 gr false))) := by
  obtain ⟨i, z, hi, hz, hp, hzc, hz1, hsz, hby, h0⟩ := elTy el3
  have hxa := hx.acells (by omega)
  have hcond : (Nat.blt 0 1 && plain z && Nat.beq z.cells.size 1 && z.cells.toList.all one) = true := by rw [hp, hzc, hz1]; rfl
  have hbb : (Nat.ble ((xs.length + 1) * 8) (2 ^ 47) && Nat.ble (xs.length + 1) (2 ^ 47)) = true := by rw [ble_t hb, ble_t (by omega)]; rfl
  have hap : aappend Try.prog 28 28 (.slice (some ⟨m, 0, none⟩) xs.length (xs.length + rest.length)) x h = aappendE Try.prog 3 (.slice (some ⟨m, 0, none⟩) xs.length (xs.length + rest.length)) x h := by
    unfold aappend; rw [Try.underlying28]; rfl
  rw [hap]
  unfold aappendE
  rw [hi]
  simp only [hz, hsz, hby, hxa, hcond, cond_true, hbb, hg]
  have h1 : Nat.ble (xs.length + 1) (xs.length + rest.length) = true := ble_t (by omega)
  have h2 : Nat.ble (0 + (xs.length + 1) * 1) (xs ++ rest).length = true := ble_t (by rw [List.length_append]; omega)
  have h3 : [y].all one = true := by simp [hy]
  simp only [h1, h2, h3, cond_true, Bool.and_self, show Nat.beq 1 0 = false from rfl, cond_false]
  congr 4
  · rw [Nat.zero_add, Nat.mul_one, List.take_left', List.append_assoc]
    · congr 1
      rw [Nat.zero_add, Nat.mul_one, List.drop_append]
      cases rest with
      | nil => simp at hr
      | cons r rs => simp
    · rfl

set_option maxHeartbeats 1600000 in
theorem of_run {h : Heap} {v : Value} {l : List (Int × Int)} (hv : Sl h v 2 l.length (picks l)) (hlen : l.length * 8 ≤ 2 ^ 47) :
    ∃ v' h', run Try.prog sB 32 [v] h = some (.tuple #[v', .int .i64 (if goodB l then 0 else 2)], h') ∧ Keep No h h' ∧ (goodB l = true → Sl h' v' 1 l.length (ints (tooks l))) ∧ (goodB l = false → v' = .slice none 0 0) := by
  obtain ⟨a, c, rfl⟩ : ∃ a c, v = .slice a l.length c := by
    rcases sl_cut hv with ⟨rfl, h0⟩ | ⟨a, c, rfl⟩
    · exact ⟨none, 0, by rw [h0]⟩
    · exact ⟨_, _, rfl⟩
  suffices hx : ∃ y, fin Try.prog Try.f32 (aexecP Try.prog (sB 32) (run Try.prog sB) loopω (fun _ => ([], [])) (Try.f32.body.getD .skip) ([.slice a l.length c] ++ List.replicate (Try.f32.ntmps - 1) undef) h) = some y ∧ ∃ v', y.1 = .tuple #[v', .int .i64 (if goodB l then 0 else 2)] ∧ Keep No h y.2 ∧ (goodB l = true → Sl y.2 v' 1 l.length (ints (tooks l))) ∧ (goodB l = false → v' = .slice none 0 0) by
    obtain ⟨⟨y1, y2⟩, hy, v', rfl, q⟩ := hx
    exact ⟨v', y2, run_finP _ Try.func32 rfl (by kernel_rfl) hy, q⟩
  simp (maxSteps := 2000000) -implicitDefEqProofs [Try.f32, px_skip, px_label, px_region, px_draw, qx_seq, qx_cond, px_block, px_loop, px_scope, px_exit, px_ret, seqK_normal, seqK_exit, seqK_ret, condK_true, condK_false, opsK_some, wK_true, wK_false, itK_some, aops_nil, aops_cons, lK_some, aK_some, hK_some, dwK_true, dwK_false, diK_some, dK_light, dK_alloc, dK_heavy, adraw_nil, adraw_cons, aop, cls, light, lightS, binE, aeq, intBin, goInt, pl_int, pl_bool, pl_ptr, pl_slice, aload, isAggT, aeval, tput, awanted, List.range_succ, fin, aresults, aresult, List.replicate, heavy, acallOp, aenter, ble_d, beq_d, firstRegion, readNames, Nxt, isAnc, readsOk, objEq_some, sB32, Try.underlying40, (fun ρ a b => ms28 ρ a b l.length), hlen]
  generalize hl : loopω _ _ _ _ = r
  obtain ⟨e, t', h', hx, hK, hR⟩ : ∃ e t' h', r = some (e, t', h') ∧ Keep No h h' ∧ ((e = .exit 0 ∧ goodB l = true ∧ Sl h' (.slice (some ⟨h.next, 0, none⟩) l.length l.length) 1 l.length (ints (tooks l)) ∧ ∃ x13, t' = [.slice a l.length c, unk, .slice none 0 0, .int .i64 0, .slice (some ⟨h.next, 0, none⟩) l.length l.length, unk, unk, unk, unk, unk, .slice a l.length c, .int .i64 l.length, .int .i64 l.length, x13, unk, unk, unk, unk, unk, unk, unk, unk, unk, unk, unk, unk, unk, unk, unk, unk, unk, unk, unk, unk, unk, unk, unk, unk]) ∨ (e = .ret ∧ goodB l = false ∧ t'[2]?.getD undef = .slice none 0 0 ∧ t'[3]?.getD undef = .int .i64 2)) := by
    rw [← hl]
    refine loop_by (fun k t h' => ∃ i, i + k = l.length ∧ forget [1, 5, 6, 7, 8, 9, 13, 14, 15, 16, 17, 18, 19, 20, 21, 22, 23, 24, 25, 26, 27, 28, 29, 30, 31, 32, 33, 34, 35, 36, 37] t = [.slice a l.length c, unk, .slice none 0 0, .int .i64 0, .slice (some ⟨h.next, 0, none⟩) i l.length, unk, unk, unk, unk, unk, .slice a l.length c, .int .i64 l.length, .int .i64 i, unk, unk, unk, unk, unk, unk, unk, unk, unk, unk, unk, unk, unk, unk, unk, unk, unk, unk, unk, unk, unk, unk, unk, unk, unk] ∧ Keep No h h' ∧ h'.get h.next = some (.cells (ints ((tooks l).take i) ++ List.replicate (l.length - i) (.int .i64 0)) 3 1 false false) ∧ ∀ j, j < i → bad (l.getD j (0, 0)) = false)
      (fun e t' h' => Keep No h h' ∧ ((e = .exit 0 ∧ goodB l = true ∧ Sl h' (.slice (some ⟨h.next, 0, none⟩) l.length l.length) 1 l.length (ints (tooks l)) ∧ ∃ x13, t' = [.slice a l.length c, unk, .slice none 0 0, .int .i64 0, .slice (some ⟨h.next, 0, none⟩) l.length l.length, unk, unk, unk, unk, unk, .slice a l.length c, .int .i64 l.length, .int .i64 l.length, x13, unk, unk, unk, unk, unk, unk, unk, unk, unk, unk, unk, unk, unk, unk, unk, unk, unk, unk, unk, unk, unk, unk, unk, unk]) ∨ (e = .ret ∧ goodB l = false ∧ t'[2]?.getD undef = .slice none 0 0 ∧ t'[3]?.getD undef = .int .i64 2))) ?_ l.length _ _ ⟨0, by omega, by kernel_rfl, Keep.new _ _ _, by rw [Heap.get_new, if_pos rfl]; simp [ints], fun j hj => by omega⟩
    rintro k t h' ⟨i, hi, ht, hK, hm, hg⟩
    rw [ht]
    rcases Nat.lt_or_ge i l.length with h1 | h1
    · obtain ⟨a, c, C, e, s, gr, ro, ea, hgt, hf, hd, p1, p2⟩ := sl_pick (hv.keep hK (fun _ _ x => x)) h1
      simp only [Value.slice.injEq, true_and] at ea
      obtain ⟨rfl, rfl⟩ := ea
      have hw : IntKind.i64.wrap ((i : Int) + 1) = ((i + 1 : Nat) : Int) := by rw [IntWalk.i64_in _ (by omega)]; omega
      have hii : ((i + 1 : Nat) : Int) = (i : Int) + 1 := by omega
      have hbad := @goodB_false l i h1
      have htk := take_tooks l h1
      have hnext : bad (l.getD i (0, 0)) = false → ∀ j, j < i + 1 → bad (l.getD j (0, 0)) = false := fun hb j hj => by
        rcases Nat.lt_or_ge j i with h2 | h2
        · exact hg j h2
        · have : j = i := by omega
          subst this; exact hb
      generalize hq : l.getD i (0, 0) = q at *
      obtain ⟨q1, q2⟩ := q
      simp only at p1 p2 hd htk
      have gz : (h'.new (.cells [.int .i64 0, .int .i64 0] 58 2 false false)).get h'.next = some (.cells [.int .i64 0, .int .i64 0] 58 2 false false) := by rw [Heap.get_new, if_pos rfl]
      obtain ⟨h3, h3e⟩ : ∃ x, x = (h'.new (.cells [.int .i64 0, .int .i64 0] 58 2 false false)).put h'.next (some (.cells [.int .i64 q1, .int .i64 q2] 58 2 false false)) := ⟨_, rfl⟩
      have k3 : Keep No h' h3 := h3e ▸ (Keep.new No h' _).also (Keep.put (S := fun m => m = h'.next) (Heap.get_lt gz) rfl _) fun m hm e => by omega
      have g3 : h3.get h'.next = some (.cells [.int .i64 q1, .int .i64 q2] 58 2 false false) := by rw [h3e, Heap.get_put (Heap.get_lt gz), if_pos rfl]
      have okQ : okCells (.agg #[.int .i64 q1, .int .i64 q2]) = some [.int .i64 q1, .int .i64 q2] := rfl
      have hK3 := hK.trans k3
      by_cases c1 : q1 < 2
      · have hb := hbad (by simp [bad, c1])
        simp (maxSteps := 2000000) -implicitDefEqProofs [px_skip, px_label, px_region, px_draw, qx_seq, qx_cond, px_block, px_loop, px_scope, px_exit, px_ret, seqK_normal, seqK_exit, seqK_ret, condK_true, condK_false, opsK_some, wK_true, wK_false, itK_some, aops_nil, aops_cons, lK_some, aK_some, hK_some, dwK_true, dwK_false, diK_some, dK_light, dK_alloc, dK_heavy, adraw_nil, adraw_cons, aop, cls, light, lightS, binE, aeq, intBin, goInt, pl_int, pl_bool, pl_ptr, pl_slice, aload, isAggT, aeval, tput, awanted, List.range_succ, fin, aresults, aresult, List.replicate, heavy, acallOp, aenter, ble_d, beq_d, firstRegion, readNames, Nxt, isAnc, readsOk, objEq_some, Try.underlying40, Try.underlying3, Try.underlying58, h1, aindexAddr, sz58, hgt, hf, hd, al58, gz, okQ, astore, ← h3e, g3, fa58_0, fa58_1, c1, hb, hK3]
      by_cases c2 : q2 < 0
      · have hb := hbad (by simp [bad, c2])
        simp (maxSteps := 2000000) -implicitDefEqProofs [px_skip, px_label, px_region, px_draw, qx_seq, qx_cond, px_block, px_loop, px_scope, px_exit, px_ret, seqK_normal, seqK_exit, seqK_ret, condK_true, condK_false, opsK_some, wK_true, wK_false, itK_some, aops_nil, aops_cons, lK_some, aK_some, hK_some, dwK_true, dwK_false, diK_some, dK_light, dK_alloc, dK_heavy, adraw_nil, adraw_cons, aop, cls, light, lightS, binE, aeq, intBin, goInt, pl_int, pl_bool, pl_ptr, pl_slice, aload, isAggT, aeval, tput, awanted, List.range_succ, fin, aresults, aresult, List.replicate, heavy, acallOp, aenter, ble_d, beq_d, firstRegion, readNames, Nxt, isAnc, readsOk, objEq_some, Try.underlying40, Try.underlying3, Try.underlying58, h1, aindexAddr, sz58, hgt, hf, hd, al58, gz, okQ, astore, ← h3e, g3, fa58_0, fa58_1, c1, c2, hb, hK3]
      by_cases c3 : q2 ≥ q1
      · have hb := hbad (by simp [bad, c3])
        have c3' : q1 ≤ q2 := c3
        simp (maxSteps := 2000000) -implicitDefEqProofs [px_skip, px_label, px_region, px_draw, qx_seq, qx_cond, px_block, px_loop, px_scope, px_exit, px_ret, seqK_normal, seqK_exit, seqK_ret, condK_true, condK_false, opsK_some, wK_true, wK_false, itK_some, aops_nil, aops_cons, lK_some, aK_some, hK_some, dwK_true, dwK_false, diK_some, dK_light, dK_alloc, dK_heavy, adraw_nil, adraw_cons, aop, cls, light, lightS, binE, aeq, intBin, goInt, pl_int, pl_bool, pl_ptr, pl_slice, aload, isAggT, aeval, tput, awanted, List.range_succ, fin, aresults, aresult, List.replicate, heavy, acallOp, aenter, ble_d, beq_d, firstRegion, readNames, Nxt, isAnc, readsOk, objEq_some, Try.underlying40, Try.underlying3, Try.underlying58, h1, aindexAddr, sz58, hgt, hf, hd, al58, gz, okQ, astore, ← h3e, g3, fa58_0, fa58_1, c1, c2, c3', hb, hK3]
      · have hb := hnext (by simp [bad, c1, c2]; omega)
        have c3' : ¬ q1 ≤ q2 := c3
        have hm4 := (k3.trans (Keep.new No h3 (.cells [.int .i64 q2] 3 1 false false))).get hm (fun x => x)
        have hx1 : Sl (h3.new (.cells [.int .i64 q2] 3 1 false false)) (.slice (some ⟨h3.next, 0, none⟩) 1 1) 1 1 [.int .i64 q2] := ⟨rfl, .inr ⟨_, _, rfl, fun _ => ⟨_, _, _, _, _, by rw [Heap.get_new, if_pos rfl], rfl⟩⟩⟩
        have hxl : (ints ((tooks l).take i)).length = i := by simp [ints, tooks]; omega
        have e2 := append_in hm4 hx1 rfl (by simp; omega) (by rw [hxl]; omega)
        rw [hxl, List.length_replicate, show i + (l.length - i) = l.length by omega] at e2
        obtain ⟨h5, h5e⟩ : ∃ x, x = (h3.new (.cells [.int .i64 q2] 3 1 false false)).put h.next (some (.cells (ints ((tooks l).take i) ++ .int .i64 q2 :: (List.replicate (l.length - i) (Value.int .i64 0)).tail) 3 1 false false)) := ⟨_, rfl⟩
        rw [← h5e] at e2
        have k5 : Keep No h h5 := h5e ▸ (hK3.trans (Keep.new No h3 _)).also (Keep.put (S := fun m => m = h.next) (Heap.get_lt hm4) rfl _) fun m hm e => by omega
        have g5 : h5.get h.next = some (.cells (ints ((tooks l).take (i + 1)) ++ List.replicate (l.length - (i + 1)) (.int .i64 0)) 3 1 false false) := by
          rw [h5e, Heap.get_put (Heap.get_lt hm4), if_pos rfl, htk]
          simp [ints, List.tail_replicate, Nat.sub_sub]
        simp (maxSteps := 2000000) -implicitDefEqProofs [px_skip, px_label, px_region, px_draw, qx_seq, qx_cond, px_block, px_loop, px_scope, px_exit, px_ret, seqK_normal, seqK_exit, seqK_ret, condK_true, condK_false, opsK_some, wK_true, wK_false, itK_some, aops_nil, aops_cons, lK_some, aK_some, hK_some, dwK_true, dwK_false, diK_some, dK_light, dK_alloc, dK_heavy, adraw_nil, adraw_cons, aop, cls, light, lightS, binE, aeq, intBin, goInt, pl_int, pl_bool, pl_ptr, pl_slice, aload, isAggT, aeval, tput, awanted, List.range_succ, fin, aresults, aresult, List.replicate, heavy, acallOp, aenter, ble_d, beq_d, firstRegion, readNames, Nxt, isAnc, readsOk, objEq_some, Try.underlying40, Try.underlying3, Try.underlying58, Try.underlying28, h1, aindexAddr, sz58, hgt, hf, hd, al58, gz, okQ, astore, ← h3e, g3, fa58_0, fa58_1, c1, c2, c3', (fun ρ x => bs28_1 ρ x q2), e2, hw]
        exact ⟨k - 1, by omega, i + 1, by omega, by simp only [forget, List.set_cons_succ, List.set_cons_zero, hii], k5, g5, hb⟩
    · have hi' : i = l.length := by omega
      subst hi'
      have hall : goodB l = true := by
        unfold goodB
        rw [List.all_eq_true]
        intro p hp
        obtain ⟨j, hj, rfl⟩ := List.mem_iff_getElem.1 hp
        have := hg j hj
        rw [List.getD_eq_getElem?_getD, List.getElem?_eq_getElem hj] at this
        simp only [Option.getD_some] at this
        simp [this]
      have hsl : Sl h' (.slice (some ⟨h.next, 0, none⟩) l.length l.length) 1 l.length (ints (tooks l)) := by
        have htk : (tooks l).take l.length = tooks l := List.take_of_length_le (by simp [tooks])
        rw [htk, Nat.sub_self, List.replicate_zero, List.append_nil] at hm
        exact ⟨by simp [ints, tooks], .inr ⟨_, _, rfl, fun _ => ⟨_, _, _, _, _, hm, by rw [List.drop_zero, List.take_of_length_le (by simp [ints, tooks])]⟩⟩⟩
      simp (maxSteps := 2000000) -implicitDefEqProofs [px_skip, px_label, px_region, px_draw, qx_seq, qx_cond, px_block, px_loop, px_scope, px_exit, px_ret, seqK_normal, seqK_exit, seqK_ret, condK_true, condK_false, opsK_some, wK_true, wK_false, itK_some, aops_nil, aops_cons, lK_some, aK_some, hK_some, dwK_true, dwK_false, diK_some, dK_light, dK_alloc, dK_heavy, adraw_nil, adraw_cons, aop, cls, light, lightS, binE, aeq, intBin, goInt, pl_int, pl_bool, pl_ptr, pl_slice, aload, isAggT, aeval, tput, awanted, List.range_succ, fin, aresults, aresult, List.replicate, heavy, acallOp, aenter, ble_d, beq_d, firstRegion, readNames, Nxt, isAnc, readsOk, objEq_some, hall, hK, hsl]
  subst hx
  rcases hR with ⟨rfl, hB, hsl, x13, rfl⟩ | ⟨rfl, hB, t2, t3⟩
  · simp (maxSteps := 2000000) -implicitDefEqProofs [px_skip, px_label, px_region, px_draw, qx_seq, qx_cond, px_block, px_loop, px_scope, px_exit, px_ret, seqK_normal, seqK_exit, seqK_ret, condK_true, condK_false, opsK_some, wK_true, wK_false, itK_some, aops_nil, aops_cons, lK_some, aK_some, hK_some, dwK_true, dwK_false, diK_some, dK_light, dK_alloc, dK_heavy, adraw_nil, adraw_cons, aop, cls, light, lightS, binE, aeq, intBin, goInt, pl_int, pl_bool, pl_ptr, pl_slice, aload, isAggT, aeval, tput, awanted, List.range_succ, fin, aresults, aresult, List.replicate, heavy, acallOp, aenter, ble_d, beq_d, firstRegion, readNames, Nxt, isAnc, readsOk, objEq_some, hB]
    exact ⟨_, _, ⟨rfl, rfl⟩, _, rfl, hK, hsl⟩
  · simp (maxSteps := 2000000) -implicitDefEqProofs [px_skip, px_label, px_region, px_draw, qx_seq, qx_cond, px_block, px_loop, px_scope, px_exit, px_ret, seqK_normal, seqK_exit, seqK_ret, condK_true, condK_false, opsK_some, wK_true, wK_false, itK_some, aops_nil, aops_cons, lK_some, aK_some, hK_some, dwK_true, dwK_false, diK_some, dK_light, dK_alloc, dK_heavy, adraw_nil, adraw_cons, aop, cls, light, lightS, binE, aeq, intBin, goInt, pl_int, pl_bool, pl_ptr, pl_slice, aload, isAggT, aeval, tput, awanted, List.range_succ, fin, aresults, aresult, List.replicate, heavy, acallOp, aenter, ble_d, beq_d, firstRegion, readNames, Nxt, isAnc, readsOk, objEq_some, hB, t2, t3]
    exact ⟨_, _, ⟨rfl, rfl⟩, rfl, hK⟩

/-- A number in its range stays. -/
theorem modOf_same (took of : Int) (h : 0 ≤ took) (h2 : took < of) : modOf took of = took := by
  unfold modOf
  rw [Int.tmod_eq_of_lt h h2, if_neg (by omega)]

theorem good_at {l : List (Int × Int)} (hg : goodB l = true) {i : Nat} (hi : i < l.length) : 2 ≤ (l.getD i (0, 0)).1 ∧ 0 ≤ (l.getD i (0, 0)).2 ∧ (l.getD i (0, 0)).2 < (l.getD i (0, 0)).1 := by
  unfold goodB at hg
  rw [List.all_eq_true] at hg
  have := hg _ (List.getElem_mem hi)
  rw [List.getD_eq_getElem?_getD, List.getElem?_eq_getElem hi]
  simp only [Option.getD_some]
  simp only [bad, Bool.not_eq_true', Bool.or_eq_false_iff, decide_eq_false_iff_not] at this
  omega
theorem drop_tooks (l : List (Int × Int)) {i : Nat} (hi : i < l.length) : (tooks l).drop i = (l.getD i (0, 0)).2 :: (tooks l).drop (i + 1) := by
  have h1 : i < (tooks l).length := by simpa [tooks] using hi
  rw [List.drop_eq_getElem_cons h1]
  simp [tooks, List.getD_eq_getElem?_getD, List.getElem?_eq_getElem hi]
theorem take_log (l : List (Int × Int)) {i : Nat} (hi : i < l.length) : l.take (i + 1) = l.take i ++ [l.getD i (0, 0)] := by
  rw [List.take_add_one, List.getElem?_eq_getElem hi]
  simp [List.getD_eq_getElem?_getD, List.getElem?_eq_getElem hi]


end Go.Proofs.Ythkefkpmgleolab.Bi
