/- Odds: nats.word, nats.QuoRem. -/
import Derived.Test.YtmnkmdfladbgdaaOl30
import Derived.Test.YtmnkmdfladbgdaaOl10
set_option linter.unusedVariables false
set_option linter.unusedSimpArgs false
namespace Go.Proofs.Ytmnkmdfladbgdaa.Od
open Go Go.Proofs Go.RowKit Go.Proofs.YtmnkmdfladbgdaaAI Go.Proofs.YtmnkmdfladbgdaaFl

/-- A slice whose front can be taken. -/
def Ct (v : Value) : Prop := v = .slice none 0 0 ∨ (∃ n off k c, v = .slice (some ⟨n, off, none⟩) k c ∧ k ≤ c) ∨ ∃ n off k, v = .slice (some ⟨n, off, some 0⟩) k 1
/-- Limbs that come in and may be cut. -/
def Nc (h : Heap) (v : Value) (l : List Nat) : Prop := Na h v l ∧ Ct v
theorem Nc.keep {h h' : Heap} {v : Value} {l : List Nat} (hn : Nc h v l) (hk : Keep No h h') : Nc h' v l := ⟨hn.1.keep hk, hn.2⟩
theorem lg_ct {h : Heap} {v : Value} {e k : Nat} {cs : List Value} (hs : Lg h v e 1 k cs) : Ct v := by
  obtain ⟨_, ⟨rfl, rfl | ⟨m, off, rfl⟩⟩ | ⟨m, _, rfl, _⟩⟩ := hs
  · exact .inl rfl
  · exact .inr (.inl ⟨_, _, _, _, rfl, Nat.le_refl _⟩)
  · exact .inr (.inr ⟨_, _, _, rfl⟩)
theorem Nt.nc {h0 h : Heap} {v : Value} {n : Nat} (hn : Nt h0 h v n) (hk : (lm n).length ≤ 1000) : Nc h v (lm n) := ⟨hn.na hk, lg_ct hn.1⟩
theorem cut_al {h : Heap} {a : Option Addr} {c L n : Nat} {l : List Nat} (hL : l.length = L) (hv : Sl h (.slice a L c) 1 L (u3 l)) (hc : Ct (.slice a L c)) (hn : n ≤ L) :
    ∃ a' c', aslice Try.prog 40 (.slice a L c) none (some (.int .i64 (n : Nat))) none = some (.slice a' n c') ∧ Sl h (.slice a' n c') 1 n (u3 (l.take n)) ∧ Ct (.slice a' n c') := by
  rcases hc with e | ⟨m, off, k, c', e, hk⟩ | ⟨m, off, k, e⟩
  · cases e
    obtain rfl : n = 0 := by omega
    refine ⟨none, 0, ?_, ⟨by simp [u3], .inl ⟨rfl, rfl⟩⟩, .inl rfl⟩
    kernel_rfl
  · cases e
    refine ⟨some ⟨m, off, none⟩, c, ?_, ⟨by rw [u3_len, List.length_take]; omega, .inr ⟨_, _, rfl, fun h0 => ?_⟩⟩, .inr (.inl ⟨_, _, _, _, rfl, by omega⟩)⟩
    · unfold aslice
      simp only [Try.underlying40, sz101, abound, Option.isSome_some, Option.isNone_none]
      rw [if_pos (by omega)]
      have h1 : Nat.ble 0 n = true := ble_t (by omega)
      have h2 : Nat.ble n c = true := ble_t (by omega)
      have h3 : Nat.ble c c = true := ble_t (by omega)
      simp only [Int.toNat_natCast, h1, h2, h3, Bool.and_self, Bool.or_self, cond_true, Bool.true_or, Nat.zero_mul, Nat.add_zero, Nat.sub_zero]
      cases Nat.beq c 0 <;> rfl
    · obtain ⟨_, ⟨e, _⟩ | ⟨a, cc, e, hg⟩⟩ := hv
      · cases e
      · cases e
        obtain ⟨C, ce, s, gr, ro, hg1, hg2⟩ := hg (by omega)
        refine ⟨C, ce, s, gr, ro, hg1, ?_⟩
        rw [Nat.mul_one] at hg2 ⊢
        have := congrArg (List.take n) hg2
        rw [List.take_take, Nat.min_eq_left (by omega)] at this
        rw [this, u3, u3, List.map_take]
  · cases e
    refine ⟨some ⟨m, off, some 0⟩, 1, ?_, ⟨by rw [u3_len, List.length_take]; omega, .inr ⟨_, _, rfl, fun h0 => ?_⟩⟩, .inr (.inr ⟨_, _, _, rfl⟩)⟩
    · unfold aslice
      simp only [Try.underlying40, sz101, abound]
      rw [if_pos (by omega)]
      have h1 : Nat.ble 0 n = true := ble_t (by omega)
      have h2 : Nat.ble n L = true := ble_t (by omega)
      simp only [Int.toNat_natCast, h1, h2, Bool.and_self, cond_true, Nat.zero_mul, Nat.add_zero, Nat.sub_zero]
      rfl
    · obtain ⟨_, ⟨e, _⟩ | ⟨a, cc, e, hg⟩⟩ := hv
      · cases e
      · cases e
        obtain ⟨C, ce, s, gr, ro, hg1, hg2⟩ := hg (by omega)
        refine ⟨C, ce, s, gr, ro, hg1, ?_⟩
        rw [Nat.mul_one] at hg2 ⊢
        have := congrArg (List.take n) hg2
        rw [List.take_take, Nat.min_eq_left (by omega)] at this
        rw [this, u3, u3, List.map_take]
noncomputable def lb74 (i : Nat) : Code := (loopsOf (Try.f74.body.getD .skip)).getD i .skip
noncomputable def lb95 (i : Nat) : Code := (loopsOf (Try.f95.body.getD .skip)).getD i .skip
set_option maxRecDepth 20000 in
set_option maxHeartbeats 6400000 in
theorem ntrim1 {h0 : Heap} {va : Option Addr} {vc L : Nat} {l : List Nat} (hL : l.length = L) (hw : W32 l) (hk : L ≤ 1000) (hv : Sl h0 (.slice va L vc) 1 L (u3 l)) (F : Step) (hFF : F = aexecP Try.prog (sO 74) (run Try.prog sO) loopω pt74 (lb74 0)) (t : Tm)
    (ht : forget [1, 2, 4, 5, 6, 7, 8, 9, 10, 11, 12, 13, 14, 15, 16, 17, 18, 19, 20, 21] t = [.slice va L vc, unk, unk, .int .i64 ((L - (0) : Nat) : Int), unk, unk, unk, unk, unk, unk, unk, unk, unk, unk, unk, unk, unk, unk, unk, unk, unk, unk]) (hI0 : h0 = h0) :
    ∃ h' x6 x7 x8 x9 x10 x11 x12 x13 x14 x15, loopω [1, 2, 4, 5, 6, 7, 8, 9, 10, 11, 12, 13, 14, 15, 16, 17, 18, 19, 20, 21] F t h0 = some (.exit 0, [.slice va L vc, unk, unk, .int .i64 ((L - (L - (lm (nv l)).length) : Nat) : Int), unk, unk, x6, x7, x8, x9, x10, x11, x12, x13, x14, x15, unk, unk, unk, unk, unk, unk], h') ∧ h' = h0 := by
  subst hFF
  suffices hs : ∃ e t' h', loopω [1, 2, 4, 5, 6, 7, 8, 9, 10, 11, 12, 13, 14, 15, 16, 17, 18, 19, 20, 21] (aexecP Try.prog (sO 74) (run Try.prog sO) loopω pt74 (lb74 0)) t h0 = some (e, t', h') ∧ (e = .exit 0 ∧ ∃ x6 x7 x8 x9 x10 x11 x12 x13 x14 x15, t' = [.slice va L vc, unk, unk, .int .i64 ((L - (L - (lm (nv l)).length) : Nat) : Int), unk, unk, x6, x7, x8, x9, x10, x11, x12, x13, x14, x15, unk, unk, unk, unk, unk, unk] ∧ h' = h0) by
    obtain ⟨e, t', h', q1, rfl, x6, x7, x8, x9, x10, x11, x12, x13, x14, x15, rfl, q2⟩ := hs
    exact ⟨h', x6, x7, x8, x9, x10, x11, x12, x13, x14, x15, q1, q2⟩
  simp only [lb74, Try.f74, loopsOf, Option.getD_some, List.nil_append, List.append_nil, List.cons_append, List.getD_cons_zero, List.getD_cons_succ]
  refine loop_by (fun k t h' => ∃ (i : Nat), i + k = L - (lm (nv l)).length ∧ forget [1, 2, 4, 5, 6, 7, 8, 9, 10, 11, 12, 13, 14, 15, 16, 17, 18, 19, 20, 21] t = [.slice va L vc, unk, unk, .int .i64 ((L - (i) : Nat) : Int), unk, unk, unk, unk, unk, unk, unk, unk, unk, unk, unk, unk, unk, unk, unk, unk, unk, unk] ∧ h' = h0)
    (fun e t' h' => e = .exit 0 ∧ ∃ x6 x7 x8 x9 x10 x11 x12 x13 x14 x15, t' = [.slice va L vc, unk, unk, .int .i64 ((L - (L - (lm (nv l)).length) : Nat) : Int), unk, unk, x6, x7, x8, x9, x10, x11, x12, x13, x14, x15, unk, unk, unk, unk, unk, unk] ∧ h' = h0) ?_ (L - (lm (nv l)).length) _ _ ⟨0, by omega, ht, hI0⟩
  rintro k t h' ⟨i, hi, ht, hI⟩
  rw [ht]
  rcases Nat.lt_or_ge i (L - (lm (nv l)).length) with h1 | h1
  · obtain ⟨q, hq⟩ : ∃ q, L - i = q + 1 := ⟨L - i - 1, by omega⟩
    have hq2 : L - (i + 1) = q := by omega
    have hz := trim_zero hw (j := q) (by omega) (by omega)
    subst hI
    obtain ⟨va, vc, C, ce, cs, gr, ro, eb, hg, hc⟩ := sl_u3 hv (show q < L by omega)
    simp only [Value.slice.injEq, true_and] at eb
    obtain ⟨rfl, rfl⟩ := eb
    rw [hz] at hc
    rw [hq]
    have w1 : IntKind.i64.wrap (q : Int) = (q : Int) := wi64 rfl (by omega)
    have q1 : (0 : Int) < (q : Int) + 1 := by omega
    have hqL : q < L := by omega
    simp (maxSteps := 2000000) -implicitDefEqProofs [pw, aop, cls, light, lightS, binE, aeq, intBin, goInt, aload, isAggT, aeval, tput, awanted, fin, aresults, aresult, List.replicate, heavy, acallOp, aenter, firstRegion, readNames, Nxt, isAnc, readsOk, cond_true, cond_false, w1, q1, hqL, aindexAddr, sz101, Try.underlying40, hg, hc, undef]
    exact ⟨k - 1, by omega, i + 1, by omega, by simp (maxSteps := 2000000) only [forget, List.set_cons_succ, List.set_cons_zero, hq2]⟩
  · obtain rfl : i = L - (lm (nv l)).length := by omega
    have hle := (trim_form hw).2
    obtain ⟨n, hn⟩ : ∃ n, L - (L - (lm (nv l)).length) = n := ⟨_, rfl⟩
    have hn2 : (lm (nv l)).length = n := by omega
    rw [hn]
    subst hI
    rcases Nat.eq_zero_or_pos n with h0 | h0
    · subst h0
      simp (maxSteps := 2000000) -implicitDefEqProofs [pw, aop, cls, light, lightS, binE, aeq, intBin, goInt, aload, isAggT, aeval, tput, awanted, fin, aresults, aresult, List.replicate, heavy, acallOp, aenter, firstRegion, readNames, Nxt, isAnc, readsOk, cond_true, cond_false, undef]
    · obtain ⟨q, rfl⟩ : ∃ q, n = q + 1 := ⟨n - 1, by omega⟩
      have ht0 := trim_top hw (by omega)
      rw [hn2, Nat.add_sub_cancel] at ht0
      obtain ⟨va, vc, C, ce, cs, gr, ro, eb, hg, hc⟩ := sl_u3 hv (show q < L by omega)
      simp only [Value.slice.injEq, true_and] at eb
      obtain ⟨rfl, rfl⟩ := eb
      have w1 : IntKind.i64.wrap (q : Int) = (q : Int) := wi64 rfl (by omega)
      have q1 : (0 : Int) < (q : Int) + 1 := by omega
      have hqL : q < L := by omega
      generalize l.getD q 0 = x at *
      simp (maxSteps := 2000000) -implicitDefEqProofs [pw, aop, cls, light, lightS, binE, aeq, intBin, goInt, aload, isAggT, aeval, tput, awanted, fin, aresults, aresult, List.replicate, heavy, acallOp, aenter, firstRegion, readNames, Nxt, isAnc, readsOk, cond_true, cond_false, w1, q1, hqL, ibeq, ht0, aindexAddr, sz101, Try.underlying40, hg, hc, undef]
set_option maxRecDepth 20000 in
set_option maxHeartbeats 6400000 in
theorem cut1 {h0 : Heap} {va : Option Addr} {vc L : Nat} {l : List Nat} (hL : l.length = L) (hw : W32 l) (hk : L ≤ 1000) (hv : Sl h0 (.slice va L vc) 1 L (u3 l)) (F : Step) (hFF : F = aexecP Try.prog (sO 95) (run Try.prog sO) loopω pt95 (lb95 0)) (t : Tm)
    (ht : forget [1, 2, 4, 5, 6, 7, 8, 9, 10, 11, 12, 13, 14, 15, 16, 17, 18, 19, 20] t = [.slice va L vc, unk, unk, .int .i64 ((L - (0) : Nat) : Int), unk, unk, unk, unk, unk, unk, unk, unk, unk, unk, unk, unk, unk, unk, unk, unk, unk]) (hI0 : h0 = h0) :
    ∃ h' x6 x7 x8 x9 x10 x11 x12 x13 x14 x15, loopω [1, 2, 4, 5, 6, 7, 8, 9, 10, 11, 12, 13, 14, 15, 16, 17, 18, 19, 20] F t h0 = some (.exit 0, [.slice va L vc, unk, unk, .int .i64 ((L - (L - (lm (nv l)).length) : Nat) : Int), unk, unk, x6, x7, x8, x9, x10, x11, x12, x13, x14, x15, unk, unk, unk, unk, unk], h') ∧ h' = h0 := by
  subst hFF
  suffices hs : ∃ e t' h', loopω [1, 2, 4, 5, 6, 7, 8, 9, 10, 11, 12, 13, 14, 15, 16, 17, 18, 19, 20] (aexecP Try.prog (sO 95) (run Try.prog sO) loopω pt95 (lb95 0)) t h0 = some (e, t', h') ∧ (e = .exit 0 ∧ ∃ x6 x7 x8 x9 x10 x11 x12 x13 x14 x15, t' = [.slice va L vc, unk, unk, .int .i64 ((L - (L - (lm (nv l)).length) : Nat) : Int), unk, unk, x6, x7, x8, x9, x10, x11, x12, x13, x14, x15, unk, unk, unk, unk, unk] ∧ h' = h0) by
    obtain ⟨e, t', h', q1, rfl, x6, x7, x8, x9, x10, x11, x12, x13, x14, x15, rfl, q2⟩ := hs
    exact ⟨h', x6, x7, x8, x9, x10, x11, x12, x13, x14, x15, q1, q2⟩
  simp only [lb95, Try.f95, loopsOf, Option.getD_some, List.nil_append, List.append_nil, List.cons_append, List.getD_cons_zero, List.getD_cons_succ]
  refine loop_by (fun k t h' => ∃ (i : Nat), i + k = L - (lm (nv l)).length ∧ forget [1, 2, 4, 5, 6, 7, 8, 9, 10, 11, 12, 13, 14, 15, 16, 17, 18, 19, 20] t = [.slice va L vc, unk, unk, .int .i64 ((L - (i) : Nat) : Int), unk, unk, unk, unk, unk, unk, unk, unk, unk, unk, unk, unk, unk, unk, unk, unk, unk] ∧ h' = h0)
    (fun e t' h' => e = .exit 0 ∧ ∃ x6 x7 x8 x9 x10 x11 x12 x13 x14 x15, t' = [.slice va L vc, unk, unk, .int .i64 ((L - (L - (lm (nv l)).length) : Nat) : Int), unk, unk, x6, x7, x8, x9, x10, x11, x12, x13, x14, x15, unk, unk, unk, unk, unk] ∧ h' = h0) ?_ (L - (lm (nv l)).length) _ _ ⟨0, by omega, ht, hI0⟩
  rintro k t h' ⟨i, hi, ht, hI⟩
  rw [ht]
  rcases Nat.lt_or_ge i (L - (lm (nv l)).length) with h1 | h1
  · obtain ⟨q, hq⟩ : ∃ q, L - i = q + 1 := ⟨L - i - 1, by omega⟩
    have hq2 : L - (i + 1) = q := by omega
    have hz := trim_zero hw (j := q) (by omega) (by omega)
    subst hI
    obtain ⟨va, vc, C, ce, cs, gr, ro, eb, hg, hc⟩ := sl_u3 hv (show q < L by omega)
    simp only [Value.slice.injEq, true_and] at eb
    obtain ⟨rfl, rfl⟩ := eb
    rw [hz] at hc
    rw [hq]
    have w1 : IntKind.i64.wrap (q : Int) = (q : Int) := wi64 rfl (by omega)
    have q1 : (0 : Int) < (q : Int) + 1 := by omega
    have hqL : q < L := by omega
    simp (maxSteps := 2000000) -implicitDefEqProofs [pw, aop, cls, light, lightS, binE, aeq, intBin, goInt, aload, isAggT, aeval, tput, awanted, fin, aresults, aresult, List.replicate, heavy, acallOp, aenter, firstRegion, readNames, Nxt, isAnc, readsOk, cond_true, cond_false, w1, q1, hqL, aindexAddr, sz101, Try.underlying40, hg, hc, undef]
    exact ⟨k - 1, by omega, i + 1, by omega, by simp (maxSteps := 2000000) only [forget, List.set_cons_succ, List.set_cons_zero, hq2]⟩
  · obtain rfl : i = L - (lm (nv l)).length := by omega
    have hle := (trim_form hw).2
    obtain ⟨n, hn⟩ : ∃ n, L - (L - (lm (nv l)).length) = n := ⟨_, rfl⟩
    have hn2 : (lm (nv l)).length = n := by omega
    rw [hn]
    subst hI
    rcases Nat.eq_zero_or_pos n with h0 | h0
    · subst h0
      simp (maxSteps := 2000000) -implicitDefEqProofs [pw, aop, cls, light, lightS, binE, aeq, intBin, goInt, aload, isAggT, aeval, tput, awanted, fin, aresults, aresult, List.replicate, heavy, acallOp, aenter, firstRegion, readNames, Nxt, isAnc, readsOk, cond_true, cond_false, undef]
    · obtain ⟨q, rfl⟩ : ∃ q, n = q + 1 := ⟨n - 1, by omega⟩
      have ht0 := trim_top hw (by omega)
      rw [hn2, Nat.add_sub_cancel] at ht0
      obtain ⟨va, vc, C, ce, cs, gr, ro, eb, hg, hc⟩ := sl_u3 hv (show q < L by omega)
      simp only [Value.slice.injEq, true_and] at eb
      obtain ⟨rfl, rfl⟩ := eb
      have w1 : IntKind.i64.wrap (q : Int) = (q : Int) := wi64 rfl (by omega)
      have q1 : (0 : Int) < (q : Int) + 1 := by omega
      have hqL : q < L := by omega
      generalize l.getD q 0 = x at *
      simp (maxSteps := 2000000) -implicitDefEqProofs [pw, aop, cls, light, lightS, binE, aeq, intBin, goInt, aload, isAggT, aeval, tput, awanted, fin, aresults, aresult, List.replicate, heavy, acallOp, aenter, firstRegion, readNames, Nxt, isAnc, readsOk, cond_true, cond_false, w1, q1, hqL, ibeq, ht0, aindexAddr, sz101, Try.underlying40, hg, hc, undef]

theorem cut_run {h : Heap} {v : Value} {l : List Nat} (hn : Nc h v l) : ∃ v', run Try.prog sO 95 [v] h = some (v', h) ∧ Nc h v' (lm (nv l)) ∧ (lm (nv l)).length ≤ l.length := by
  obtain ⟨⟨hv, hw, hk⟩, hct⟩ := hn
  obtain ⟨a, c, rfl⟩ := sl_form hv
  have hle := (trim_form hw).2
  obtain ⟨a', c', ea, sl', ct'⟩ := cut_al rfl hv hct hle
  rw [trim_take hw (Nat.le_refl _), List.take_length] at sl'
  refine ⟨_, ?_, ⟨⟨sl', lm_w _, by omega⟩, ct'⟩, hle⟩
  suffices hx : ∃ y, fin Try.prog Try.f95 (aexecP Try.prog (sO 95) (run Try.prog sO) loopω pt95 (Try.f95.body.getD .skip) ([.slice a l.length c] ++ List.replicate (Try.f95.ntmps - 1) undef) h) = some y ∧ y.1 = .slice a' (lm (nv l)).length c' ∧ y.2 = h by
    obtain ⟨⟨y1, y2⟩, hy, rfl, rfl⟩ := hx
    exact run_finP pt95 Try.func95 rfl planned95 hy
  simp (maxSteps := 2000000) -implicitDefEqProofs [Try.f95, pw, aop, cls, light, lightS, binE, aeq, intBin, goInt, aload, isAggT, aeval, tput, awanted, fin, aresults, aresult, List.replicate, heavy, acallOp, aenter, firstRegion, readNames, Nxt, isAnc, readsOk, cond_true, cond_false, Try.underlying40, sO95]
  generalize hl : loopω _ _ _ _ = r
  obtain ⟨hA, x6, x7, x8, x9, x10, x11, x12, x13, x14, x15, hx, hh⟩ := useX10 hl (cut1 (h0 := h) (va := a) (vc := c) (L := l.length) (l := l) rfl hw hk hv _ (by kernel_rfl) _ (by kernel_rfl) rfl)
  subst hx
  subst hh
  clear hl
  have hnn : l.length - (l.length - (lm (nv l)).length) = (lm (nv l)).length := by omega
  rw [hnn]
  simp (maxSteps := 2000000) -implicitDefEqProofs [pw, aop, cls, light, lightS, binE, aeq, intBin, goInt, aload, isAggT, aeval, tput, awanted, fin, aresults, aresult, List.replicate, heavy, acallOp, aenter, firstRegion, readNames, Nxt, isAnc, readsOk, cond_true, cond_false, ea]
theorem ntrim_run {h : Heap} {v : Value} {l : List Nat} (hn : Nc h v l) : ∃ v' h', run Try.prog sO 74 [v] h = some (v', h') ∧ Nt h h' v' (nv l) ∧ (lm (nv l)).length ≤ l.length := by
  obtain ⟨⟨hv, hw, hk⟩, hct⟩ := hn
  obtain ⟨a, c, rfl⟩ := sl_form hv
  have hle := (trim_form hw).2
  obtain ⟨a', c', ea, sl', ct'⟩ := cut_al rfl hv hct hle
  rw [trim_take hw (Nat.le_refl _), List.take_length] at sl'
  obtain ⟨v8, h8, e8, lg8, kp8, nv8, _, nf8⟩ := append_lg (t := 40) (xt := 40) Try.underlying40 Try.underlying40 rfl el101 (Lg.nil h 101 1) sl' (by omega) (by omega) (u3_one _)
  rw [List.nil_append, Nat.zero_add] at lg8
  have hfr : ∀ m, nm v8 = some m → h.next ≤ m := fun m e => by
    rcases Nat.lt_or_ge m h.next with y | y
    · have := nv8 m e y; cases this
    · exact y
  refine ⟨v8, h8, ?_, ⟨lg8, kp8.mono fun m _ x => (by cases x), hfr⟩, hle⟩
  suffices hx : ∃ y, fin Try.prog Try.f74 (aexecP Try.prog (sO 74) (run Try.prog sO) loopω pt74 (Try.f74.body.getD .skip) ([.slice a l.length c] ++ List.replicate (Try.f74.ntmps - 1) undef) h) = some y ∧ y.1 = v8 ∧ y.2 = h8 by
    obtain ⟨⟨y1, y2⟩, hy, rfl, rfl⟩ := hx
    exact run_finP pt74 Try.func74 rfl planned74 hy
  simp (maxSteps := 2000000) -implicitDefEqProofs [Try.f74, pw, aop, cls, light, lightS, binE, aeq, intBin, goInt, aload, isAggT, aeval, tput, awanted, fin, aresults, aresult, List.replicate, heavy, acallOp, aenter, firstRegion, readNames, Nxt, isAnc, readsOk, cond_true, cond_false, Try.underlying40, sO74]
  generalize hl : loopω _ _ _ _ = r
  obtain ⟨hA, x6, x7, x8, x9, x10, x11, x12, x13, x14, x15, hx, hh⟩ := useX10 hl (ntrim1 (h0 := h) (va := a) (vc := c) (L := l.length) (l := l) rfl hw hk hv _ (by kernel_rfl) _ (by kernel_rfl) rfl)
  subst hx
  subst hh
  clear hl
  have hnn : l.length - (l.length - (lm (nv l)).length) = (lm (nv l)).length := by omega
  rw [hnn]
  simp (maxSteps := 2000000) -implicitDefEqProofs [pw, aop, cls, light, lightS, binE, aeq, intBin, goInt, aload, isAggT, aeval, tput, awanted, fin, aresults, aresult, List.replicate, heavy, acallOp, aenter, firstRegion, readNames, Nxt, isAnc, readsOk, cond_true, cond_false, ea, e8]
end Go.Proofs.Ytmnkmdfladbgdaa.Od
set_option linter.unusedVariables false
set_option linter.unusedSimpArgs false
namespace Go.Proofs.Ytmnkmdfladbgdaa.Od
open Go Go.Proofs Go.RowKit Go.Proofs.YtmnkmdfladbgdaaAI Go.Proofs.YtmnkmdfladbgdaaFl

theorem sh32 (t : Tm) (x y : Operand) (a s : Nat) (hx : aeval t x = .int .u64 a) (hy : aeval t y = .int .u64 32) (h : a / 4294967296 = s) (d r ty pos af gu) : purerule Try.prog (aeval t) ⟨d, .binOp .shr 37 x y r, ty, pos, af, gu⟩ = some (.int .u64 (s : Nat)) := by
  rw [shr37 t x y a 32 hx hy (by omega)]
  have e : min (32 : Int).toNat 64 = 32 := rfl
  rw [e, fdivn]
  have : (2 : Nat) ^ 32 = 4294967296 := rfl
  rw [this, h]
noncomputable def lb77 (i : Nat) : Code := (loopsOf (Try.f77.body.getD .skip)).getD i .skip
set_option maxRecDepth 20000 in
set_option maxHeartbeats 6400000 in
theorem mul2 {h0 : Heap} {xa ya : Option Addr} {xc yc Lx Ly m K p : Nat} {x y : List Nat} (hLx : x.length = Lx) (hLy : y.length = Ly) (wx : W32 x) (wy : W32 y) (kx : Lx ≤ 400) (ky : Ly ≤ 400) (hp : p < Lx) (hK : K = Lx + Ly) (hx : Sl h0 (.slice xa Lx xc) 1 Lx (u3 x)) (hy : Sl h0 (.slice ya Ly yc) 1 Ly (u3 y)) (hmx : nm (.slice xa Lx xc) ≠ some m) (hmy : nm (.slice ya Ly yc) ≠ some m) (v0 : Value) (F : Step) (hFF : F = aexecP Try.prog (sO 77) (run Try.prog sO) loopω pt77 (lb77 1)) (t : Tm)
    (ht : forget [0, 2, 3, 4, 9, 10, 11, 12, 13, 14, 15, 16, 17, 18, 19, 20, 21, 25, 26, 27, 28, 32, 33, 34, 35, 36, 37, 38, 39, 40, 41, 42, 43, 44, 45, 46, 47, 48, 49, 50, 51, 52, 53, 54, 55, 56, 57, 58, 59, 60, 61, 62, 63, 64, 65, 66, 67, 68, 69, 70, 71] t = [unk, .slice ya Ly yc, unk, unk, unk, .slice (some ⟨m, 0, none⟩) K K, .int .i64 (p : Nat), .int .u32 (x.getD p 0 : Nat), v0, unk, unk, unk, unk, unk, unk, unk, unk, unk, unk, unk, unk, unk, .slice xa Lx xc, .int .i64 Lx, .int .i64 (p : Nat), unk, unk, unk, unk, .slice ya Ly yc, .int .i64 Ly, .int .i64 (0 : Nat), unk, unk, unk, unk, unk, unk, unk, unk, unk, unk, unk, unk, unk, unk, unk, unk, unk, unk, unk, unk, unk, unk, unk, unk, unk, unk, unk, unk, unk, unk, unk, unk, unk, unk, unk, unk, unk, unk, unk, unk]) (hI0 : (∃ c : Nat, v0 = .int .u64 (c : Nat) ∧ TM h0 h0 m K Ly p (0) c x y)) :
    ∃ h' v x32, loopω [0, 2, 3, 4, 9, 10, 11, 12, 13, 14, 15, 16, 17, 18, 19, 20, 21, 25, 26, 27, 28, 32, 33, 34, 35, 36, 37, 38, 39, 40, 41, 42, 43, 44, 45, 46, 47, 48, 49, 50, 51, 52, 53, 54, 55, 56, 57, 58, 59, 60, 61, 62, 63, 64, 65, 66, 67, 68, 69, 70, 71] F t h0 = some (.exit 2, [unk, .slice ya Ly yc, unk, unk, unk, .slice (some ⟨m, 0, none⟩) K K, .int .i64 (p : Nat), .int .u32 (x.getD p 0 : Nat), v, unk, unk, unk, unk, unk, unk, unk, unk, unk, unk, unk, unk, unk, .slice xa Lx xc, .int .i64 Lx, .int .i64 (p : Nat), unk, unk, unk, unk, .slice ya Ly yc, .int .i64 Ly, .int .i64 (Ly : Nat), x32, unk, unk, unk, unk, unk, unk, unk, unk, unk, unk, unk, unk, unk, unk, unk, unk, unk, unk, unk, unk, unk, unk, unk, unk, unk, unk, unk, unk, unk, unk, unk, unk, unk, unk, unk, unk, unk, unk, unk], h') ∧ (∃ c : Nat, v = .int .u64 (c : Nat) ∧ TM h0 h' m K Ly p (Ly) c x y) := by
  subst hFF
  suffices hs : ∃ e t' h', loopω [0, 2, 3, 4, 9, 10, 11, 12, 13, 14, 15, 16, 17, 18, 19, 20, 21, 25, 26, 27, 28, 32, 33, 34, 35, 36, 37, 38, 39, 40, 41, 42, 43, 44, 45, 46, 47, 48, 49, 50, 51, 52, 53, 54, 55, 56, 57, 58, 59, 60, 61, 62, 63, 64, 65, 66, 67, 68, 69, 70, 71] (aexecP Try.prog (sO 77) (run Try.prog sO) loopω pt77 (lb77 1)) t h0 = some (e, t', h') ∧ (e = .exit 2 ∧ ∃ v x32, t' = [unk, .slice ya Ly yc, unk, unk, unk, .slice (some ⟨m, 0, none⟩) K K, .int .i64 (p : Nat), .int .u32 (x.getD p 0 : Nat), v, unk, unk, unk, unk, unk, unk, unk, unk, unk, unk, unk, unk, unk, .slice xa Lx xc, .int .i64 Lx, .int .i64 (p : Nat), unk, unk, unk, unk, .slice ya Ly yc, .int .i64 Ly, .int .i64 (Ly : Nat), x32, unk, unk, unk, unk, unk, unk, unk, unk, unk, unk, unk, unk, unk, unk, unk, unk, unk, unk, unk, unk, unk, unk, unk, unk, unk, unk, unk, unk, unk, unk, unk, unk, unk, unk, unk, unk, unk, unk, unk] ∧ (∃ c : Nat, v = .int .u64 (c : Nat) ∧ TM h0 h' m K Ly p (Ly) c x y)) by
    obtain ⟨e, t', h', q1, rfl, v, x32, rfl, q2⟩ := hs
    exact ⟨h', v, x32, q1, q2⟩
  simp only [lb77, Try.f77, loopsOf, Option.getD_some, List.nil_append, List.append_nil, List.cons_append, List.getD_cons_zero, List.getD_cons_succ]
  refine loop_by (fun k t h' => ∃ (i : Nat) (v : Value), i + k = Ly ∧ forget [0, 2, 3, 4, 9, 10, 11, 12, 13, 14, 15, 16, 17, 18, 19, 20, 21, 25, 26, 27, 28, 32, 33, 34, 35, 36, 37, 38, 39, 40, 41, 42, 43, 44, 45, 46, 47, 48, 49, 50, 51, 52, 53, 54, 55, 56, 57, 58, 59, 60, 61, 62, 63, 64, 65, 66, 67, 68, 69, 70, 71] t = [unk, .slice ya Ly yc, unk, unk, unk, .slice (some ⟨m, 0, none⟩) K K, .int .i64 (p : Nat), .int .u32 (x.getD p 0 : Nat), v, unk, unk, unk, unk, unk, unk, unk, unk, unk, unk, unk, unk, unk, .slice xa Lx xc, .int .i64 Lx, .int .i64 (p : Nat), unk, unk, unk, unk, .slice ya Ly yc, .int .i64 Ly, .int .i64 (i : Nat), unk, unk, unk, unk, unk, unk, unk, unk, unk, unk, unk, unk, unk, unk, unk, unk, unk, unk, unk, unk, unk, unk, unk, unk, unk, unk, unk, unk, unk, unk, unk, unk, unk, unk, unk, unk, unk, unk, unk, unk] ∧ (∃ c : Nat, v = .int .u64 (c : Nat) ∧ TM h0 h' m K Ly p (i) c x y))
    (fun e t' h' => e = .exit 2 ∧ ∃ v x32, t' = [unk, .slice ya Ly yc, unk, unk, unk, .slice (some ⟨m, 0, none⟩) K K, .int .i64 (p : Nat), .int .u32 (x.getD p 0 : Nat), v, unk, unk, unk, unk, unk, unk, unk, unk, unk, unk, unk, unk, unk, .slice xa Lx xc, .int .i64 Lx, .int .i64 (p : Nat), unk, unk, unk, unk, .slice ya Ly yc, .int .i64 Ly, .int .i64 (Ly : Nat), x32, unk, unk, unk, unk, unk, unk, unk, unk, unk, unk, unk, unk, unk, unk, unk, unk, unk, unk, unk, unk, unk, unk, unk, unk, unk, unk, unk, unk, unk, unk, unk, unk, unk, unk, unk, unk, unk, unk, unk] ∧ (∃ c : Nat, v = .int .u64 (c : Nat) ∧ TM h0 h' m K Ly p (Ly) c x y)) ?_ (Ly) _ _ ⟨0, _, by omega, ht, hI0⟩
  rintro k t h' ⟨i, v, hi, ht, hI⟩
  rw [ht]
  rcases Nat.lt_or_ge i (Ly) with h1 | h1
  · obtain ⟨c, rfl, hT⟩ := hI
    have hinc := @inc64 i (by omega)
    have hcs := cast_succ i
    have kp : Keep (fun m' => m' = m) h0 h' := by obtain ⟨_, _, _, _, _, _, _, z⟩ := hT; exact z
    have hcl : c < 4294967296 := by obtain ⟨_, _, _, _, _, z, _, _⟩ := hT; exact z
    have hxk := hx.keep kp fun m' e z => hmx (z ▸ e)
    have hyk := hy.keep kp fun m' e z => hmy (z ▸ e)
    obtain ⟨l, o, hg, hl, ho, lo, ca, hsa, hst⟩ := tm_step wx wy hT hLy h1 (by omega)
    have lx := wx.get p
    have ly := wy.get i
    obtain ⟨ya, yc, C2, ce2, cs2, gr2, ro2, eb, hg2, hc2⟩ := sl_u3 hyk h1
    simp only [Value.slice.injEq, true_and] at eb
    obtain ⟨rfl, rfl⟩ := eb
    generalize x.getD p 0 = u at *
    generalize y.getD i 0 = w at *
    have huw : u * w ≤ 4294967295 * 4294967295 := Nat.mul_le_mul (by omega) (by omega)
    obtain ⟨uw, huw2⟩ : ∃ z, u * w = z := ⟨_, rfl⟩
    obtain ⟨s1, hs1⟩ : ∃ z, uw + o = z := ⟨_, rfl⟩
    obtain ⟨s2, hs2⟩ : ∃ z, s1 + c = z := ⟨_, rfl⟩
    obtain ⟨d, hd⟩ : ∃ z, s2 % 4294967296 = z := ⟨_, rfl⟩
    obtain ⟨c', hc'⟩ : ∃ z, s2 / 4294967296 = z := ⟨_, rfl⟩
    rw [huw2] at huw
    rw [huw2, show c + (o + uw) = s2 by omega, hd, hc'] at hst
    obtain ⟨pi, hpi⟩ : ∃ z, p + i = z := ⟨_, rfl⟩
    rw [hpi] at ho ca hsa hst
    have hsd := hsa d
    obtain ⟨q, hq⟩ : ∃ q, q = h'.put m (some (.cells (u3 (l.set pi d)) 101 1 false false)) := ⟨_, rfl⟩
    have hT' := hst q hq
    have v1 := wu64 (a := o) rfl (by omega)
    have v2 := wu64 (a := u) rfl (by omega)
    have v3 := wu64 (a := w) rfl (by omega)
    have v4 : IntKind.u64.wrap ((u : Int) * (w : Int)) = (uw : Int) := by
      have : (u : Int) * (w : Int) = ((u * w : Nat) : Int) := by simp
      rw [this]; exact wu64 huw2 (by omega)
    have v5 := au64 hs1 (by omega)
    have v6 := au64 hs2 (by omega)
    have v8 : IntKind.u32.wrap (s2 : Int) = (d : Int) := by
      have : IntKind.u32.wrap (s2 : Int) = (s2 : Int) % 4294967296 := rfl
      rw [this]; omega
    have v9 := fun t x y hx hy => sh32 t x y s2 c' hx hy hc'
    have v10 := ai64 hpi (by omega)
    have hpK : pi < K := by omega
    simp (maxSteps := 2000000) -implicitDefEqProofs [pw, aop, cls, light, lightS, binE, aeq, intBin, goInt, aload, isAggT, aeval, tput, awanted, fin, aresults, aresult, List.replicate, heavy, acallOp, aenter, firstRegion, readNames, Nxt, isAnc, readsOk, cond_true, cond_false, h1, hp, hpK, v1, v2, v3, v4, v5, v6, v8, v9, v10, hg, ho, hg2, hc2, ca, hsd, astore, oku3, ← hq, aindexAddr, sz101, Try.underlying40, cv101_37, cv37_101, hinc, undef]
    exact ⟨k - 1, by omega, i + 1, by omega, .int .u64 (c' : Nat), by simp (maxSteps := 2000000) only [forget, List.set_cons_succ, List.set_cons_zero, hcs], c', rfl, hT'⟩
  · obtain rfl : i = Ly := by omega
    simp (maxSteps := 2000000) -implicitDefEqProofs [pw, aop, cls, light, lightS, binE, aeq, intBin, goInt, aload, isAggT, aeval, tput, awanted, fin, aresults, aresult, List.replicate, heavy, acallOp, aenter, firstRegion, readNames, Nxt, isAnc, readsOk, cond_true, cond_false]
    exact hI
set_option maxRecDepth 20000 in
set_option maxHeartbeats 6400000 in
theorem mul1 {h0 : Heap} {xa ya : Option Addr} {xc yc Lx Ly m K : Nat} {x y : List Nat} (hLx : x.length = Lx) (hLy : y.length = Ly) (wx : W32 x) (wy : W32 y) (kx : Lx ≤ 400) (ky : Ly ≤ 400) (hK : K = Lx + Ly) (hx : Sl h0 (.slice xa Lx xc) 1 Lx (u3 x)) (hy : Sl h0 (.slice ya Ly yc) 1 Ly (u3 y)) (hmx : nm (.slice xa Lx xc) ≠ some m) (hmy : nm (.slice ya Ly yc) ≠ some m) (F : Step) (hFF : F = aexecP Try.prog (sO 77) (run Try.prog sO) loopω pt77 (lb77 0)) (t : Tm)
    (ht : forget [0, 2, 3, 4, 6, 7, 8, 9, 10, 11, 12, 13, 14, 15, 16, 17, 18, 19, 20, 21, 25, 26, 27, 28, 29, 30, 31, 32, 33, 34, 35, 36, 37, 38, 39, 40, 41, 42, 43, 44, 45, 46, 47, 48, 49, 50, 51, 52, 53, 54, 55, 56, 57, 58, 59, 60, 61, 62, 63, 64, 65, 66, 67, 68, 69, 70, 71] t = [unk, .slice ya Ly yc, unk, unk, unk, .slice (some ⟨m, 0, none⟩) K K, unk, unk, unk, unk, unk, unk, unk, unk, unk, unk, unk, unk, unk, unk, unk, unk, .slice xa Lx xc, .int .i64 Lx, .int .i64 (0 : Nat), unk, unk, unk, unk, unk, unk, unk, unk, unk, unk, unk, unk, unk, unk, unk, unk, unk, unk, unk, unk, unk, unk, unk, unk, unk, unk, unk, unk, unk, unk, unk, unk, unk, unk, unk, unk, unk, unk, unk, unk, unk, unk, unk, unk, unk, unk, unk]) (hI0 : TM h0 h0 m K Ly (0) 0 0 x y) :
    ∃ h' x25, loopω [0, 2, 3, 4, 6, 7, 8, 9, 10, 11, 12, 13, 14, 15, 16, 17, 18, 19, 20, 21, 25, 26, 27, 28, 29, 30, 31, 32, 33, 34, 35, 36, 37, 38, 39, 40, 41, 42, 43, 44, 45, 46, 47, 48, 49, 50, 51, 52, 53, 54, 55, 56, 57, 58, 59, 60, 61, 62, 63, 64, 65, 66, 67, 68, 69, 70, 71] F t h0 = some (.exit 0, [unk, .slice ya Ly yc, unk, unk, unk, .slice (some ⟨m, 0, none⟩) K K, unk, unk, unk, unk, unk, unk, unk, unk, unk, unk, unk, unk, unk, unk, unk, unk, .slice xa Lx xc, .int .i64 Lx, .int .i64 (Lx : Nat), x25, unk, unk, unk, unk, unk, unk, unk, unk, unk, unk, unk, unk, unk, unk, unk, unk, unk, unk, unk, unk, unk, unk, unk, unk, unk, unk, unk, unk, unk, unk, unk, unk, unk, unk, unk, unk, unk, unk, unk, unk, unk, unk, unk, unk, unk, unk], h') ∧ TM h0 h' m K Ly (Lx) 0 0 x y := by
  subst hFF
  suffices hs : ∃ e t' h', loopω [0, 2, 3, 4, 6, 7, 8, 9, 10, 11, 12, 13, 14, 15, 16, 17, 18, 19, 20, 21, 25, 26, 27, 28, 29, 30, 31, 32, 33, 34, 35, 36, 37, 38, 39, 40, 41, 42, 43, 44, 45, 46, 47, 48, 49, 50, 51, 52, 53, 54, 55, 56, 57, 58, 59, 60, 61, 62, 63, 64, 65, 66, 67, 68, 69, 70, 71] (aexecP Try.prog (sO 77) (run Try.prog sO) loopω pt77 (lb77 0)) t h0 = some (e, t', h') ∧ (e = .exit 0 ∧ ∃ x25, t' = [unk, .slice ya Ly yc, unk, unk, unk, .slice (some ⟨m, 0, none⟩) K K, unk, unk, unk, unk, unk, unk, unk, unk, unk, unk, unk, unk, unk, unk, unk, unk, .slice xa Lx xc, .int .i64 Lx, .int .i64 (Lx : Nat), x25, unk, unk, unk, unk, unk, unk, unk, unk, unk, unk, unk, unk, unk, unk, unk, unk, unk, unk, unk, unk, unk, unk, unk, unk, unk, unk, unk, unk, unk, unk, unk, unk, unk, unk, unk, unk, unk, unk, unk, unk, unk, unk, unk, unk, unk, unk] ∧ TM h0 h' m K Ly (Lx) 0 0 x y) by
    obtain ⟨e, t', h', q1, rfl, x25, rfl, q2⟩ := hs
    exact ⟨h', x25, q1, q2⟩
  simp only [lb77, Try.f77, loopsOf, Option.getD_some, List.nil_append, List.append_nil, List.cons_append, List.getD_cons_zero, List.getD_cons_succ]
  refine loop_by (fun k t h' => ∃ (i : Nat), i + k = Lx ∧ forget [0, 2, 3, 4, 6, 7, 8, 9, 10, 11, 12, 13, 14, 15, 16, 17, 18, 19, 20, 21, 25, 26, 27, 28, 29, 30, 31, 32, 33, 34, 35, 36, 37, 38, 39, 40, 41, 42, 43, 44, 45, 46, 47, 48, 49, 50, 51, 52, 53, 54, 55, 56, 57, 58, 59, 60, 61, 62, 63, 64, 65, 66, 67, 68, 69, 70, 71] t = [unk, .slice ya Ly yc, unk, unk, unk, .slice (some ⟨m, 0, none⟩) K K, unk, unk, unk, unk, unk, unk, unk, unk, unk, unk, unk, unk, unk, unk, unk, unk, .slice xa Lx xc, .int .i64 Lx, .int .i64 (i : Nat), unk, unk, unk, unk, unk, unk, unk, unk, unk, unk, unk, unk, unk, unk, unk, unk, unk, unk, unk, unk, unk, unk, unk, unk, unk, unk, unk, unk, unk, unk, unk, unk, unk, unk, unk, unk, unk, unk, unk, unk, unk, unk, unk, unk, unk, unk, unk] ∧ TM h0 h' m K Ly (i) 0 0 x y)
    (fun e t' h' => e = .exit 0 ∧ ∃ x25, t' = [unk, .slice ya Ly yc, unk, unk, unk, .slice (some ⟨m, 0, none⟩) K K, unk, unk, unk, unk, unk, unk, unk, unk, unk, unk, unk, unk, unk, unk, unk, unk, .slice xa Lx xc, .int .i64 Lx, .int .i64 (Lx : Nat), x25, unk, unk, unk, unk, unk, unk, unk, unk, unk, unk, unk, unk, unk, unk, unk, unk, unk, unk, unk, unk, unk, unk, unk, unk, unk, unk, unk, unk, unk, unk, unk, unk, unk, unk, unk, unk, unk, unk, unk, unk, unk, unk, unk, unk, unk, unk] ∧ TM h0 h' m K Ly (Lx) 0 0 x y) ?_ (Lx) _ _ ⟨0, by omega, ht, hI0⟩
  rintro k t h' ⟨i, hi, ht, hI⟩
  rw [ht]
  rcases Nat.lt_or_ge i (Lx) with h1 | h1
  · have hinc := @inc64 i (by omega)
    have hcs := cast_succ i
    have kp : Keep (fun m' => m' = m) h0 h' := by obtain ⟨_, _, _, _, _, _, _, z⟩ := hI; exact z
    have hxk := hx.keep kp fun m' e z => hmx (z ▸ e)
    have hyk := hy.keep kp fun m' e z => hmy (z ▸ e)
    obtain ⟨xb, xd, C, ce, cs, gr, ro, eb, hg1, hc1⟩ := sl_u3 hxk h1
    have eb2 := eb
    simp only [Value.slice.injEq, true_and] at eb
    obtain ⟨ebx, rfl⟩ := eb
    rw [ebx]
    simp (maxSteps := 2000000) -implicitDefEqProofs [pw, aop, cls, light, lightS, binE, aeq, intBin, goInt, aload, isAggT, aeval, tput, awanted, fin, aresults, aresult, List.replicate, heavy, acallOp, aenter, firstRegion, readNames, Nxt, isAnc, readsOk, cond_true, cond_false, h1, hg1, hc1, aindexAddr, sz101, Try.underlying40, sO77_8, undef]
    rw [← ebx]
    generalize hl : loopω _ _ _ _ = r
    obtain ⟨hB, v9, x32, hx', c, rfl, hT⟩ := useX2 hl (mul2 (h0 := h') (xa := xa) (xc := xc) (ya := ya) (yc := yc) (Lx := Lx) (Ly := Ly) (m := m) (K := K) (p := i) (x := x) (y := y) hLx hLy wx wy kx ky h1 hK hxk hyk hmx hmy _ _ (by kernel_rfl) _ (by rw [ebx]; kernel_rfl) ⟨0, rfl, hI.base (Keep.refl _ _)⟩)
    subst hx'
    clear hl
    have kB : Keep (fun m' => m' = m) h' hB := by obtain ⟨_, _, _, _, _, _, _, z⟩ := hT; exact z
    have hcl : c < 4294967296 := by obtain ⟨_, _, _, _, _, z, _, _⟩ := hT; exact z
    obtain ⟨l, hg, hl, ca, hsa, hst⟩ := tm_next (hT.base (kp.trans kB)) (by omega) hLy (by omega)
    obtain ⟨e, he⟩ : ∃ z, i + Ly = z := ⟨_, rfl⟩
    rw [he] at ca hsa hst
    obtain ⟨q, hq⟩ : ∃ q, q = hB.put m (some (.cells (u3 (l.set e c)) 101 1 false false)) := ⟨_, rfl⟩
    have hT' := hst q hq
    have v1 := wu32 (a := c) rfl (by omega)
    have v2 := ai64 he (by omega)
    have heK : e < K := by omega
    simp (maxSteps := 2000000) -implicitDefEqProofs [pw, aop, cls, light, lightS, binE, aeq, intBin, goInt, aload, isAggT, aeval, tput, awanted, fin, aresults, aresult, List.replicate, heavy, acallOp, aenter, firstRegion, readNames, Nxt, isAnc, readsOk, cond_true, cond_false, heK, v1, v2, hg, ca, hsa, astore, oku3, ← hq, aindexAddr, sz101, Try.underlying40, cv37_101, hinc, undef]
    exact ⟨_, _, _, ⟨rfl, rfl, rfl⟩, k - 1, by omega, i + 1, by omega, by simp (maxSteps := 2000000) only [forget, List.set_cons_succ, List.set_cons_zero, hcs], hT'⟩
  · obtain rfl : i = Lx := by omega
    simp (maxSteps := 2000000) -implicitDefEqProofs [pw, aop, cls, light, lightS, binE, aeq, intBin, goInt, aload, isAggT, aeval, tput, awanted, fin, aresults, aresult, List.replicate, heavy, acallOp, aenter, firstRegion, readNames, Nxt, isAnc, readsOk, cond_true, cond_false]
    exact hI

set_option maxRecDepth 20000 in
theorem nmul_run {h : Heap} {v w : Value} {a b : List Nat} (ha : Nc h v a) (hb : Nc h w b) (ka : a.length ≤ 400) (kb : b.length ≤ 400) : ∃ v' h', run Try.prog sO 77 [v, w] h = some (v', h') ∧ Nc h' v' (lm (nv a * nv b)) ∧ Keep No h h' ∧ (lm (nv a * nv b)).length ≤ a.length + b.length := by
  obtain ⟨v1, e1, ⟨⟨s1, _, _⟩, c1⟩, b1⟩ := cut_run ha
  obtain ⟨v2, e2, ⟨⟨s2, _, _⟩, c2⟩, b2⟩ := cut_run hb
  have hl1 := fun m e => s1.lt (m := m) e
  have hl2 := fun m e => s2.lt (m := m) e
  obtain ⟨xa0, xc0, rfl⟩ := sl_form ha.1.1
  obtain ⟨ya0, yc0, rfl⟩ := sl_form hb.1.1
  obtain ⟨xa, xc, rfl⟩ := sl_form s1
  obtain ⟨ya, yc, rfl⟩ := sl_form s2
  have na : nv (lm (nv a)) = nv a := nv_lm _
  have nb : nv (lm (nv b)) = nv b := nv_lm _
  have wA := lm_w (nv a)
  have wB := lm_w (nv b)
  generalize lm (nv a) = A at *
  generalize lm (nv b) = B at *
  obtain ⟨K, hK⟩ : ∃ K, A.length + B.length = K := ⟨_, rfl⟩
  suffices hx : ∃ y, fin Try.prog Try.f77 (aexecP Try.prog (sO 77) (run Try.prog sO) loopω pt77 (Try.f77.body.getD .skip) ([.slice xa0 a.length xc0, .slice ya0 b.length yc0] ++ List.replicate (Try.f77.ntmps - 2) undef) h) = some y ∧ Nc y.2 y.1 (lm (nv a * nv b)) ∧ Keep No h y.2 ∧ (lm (nv a * nv b)).length ≤ K by
    obtain ⟨⟨y1, y2⟩, hy, q1, q2, q3⟩ := hx
    exact ⟨y1, y2, run_finP pt77 Try.func77 rfl planned77 hy, q1, q2, by omega⟩
  have d1 := ai64 hK (by omega)
  have hms := fun ρ x y hx hy => ms40 ρ x y K hx hy (by omega)
  have k0 := Keep.new No h (.cells (u3 (List.replicate K 0)) 101 1 false false)
  have g0 : (h.new (.cells (u3 (List.replicate K 0)) 101 1 false false)).get h.next = some (.cells (u3 (List.replicate K 0)) 101 1 false false) := by rw [Heap.get_new, if_pos rfl]
  obtain ⟨hA, hhA⟩ : ∃ x, x = h.new (.cells (u3 (List.replicate K 0)) 101 1 false false) := ⟨_, rfl⟩
  rw [← hhA] at k0 g0
  simp (maxSteps := 2000000) -implicitDefEqProofs [Try.f77, pw, aop, cls, light, lightS, binE, aeq, intBin, goInt, aload, isAggT, aeval, tput, awanted, fin, aresults, aresult, List.replicate, heavy, acallOp, aenter, firstRegion, readNames, Nxt, isAnc, readsOk, cond_true, cond_false, Try.underlying40, en95, e1, e2, d1, hms, ← hhA, sO77_4]
  generalize hl : loopω _ _ _ _ = r
  obtain ⟨h3, x25, hx, l, wl, hlK, hlv, _, _, hg, kp⟩ := useX1 hl (mul1 (h0 := hA) (xa := xa) (xc := xc) (ya := ya) (yc := yc) (Lx := A.length) (Ly := B.length) (m := h.next) (K := K) (x := A) (y := B) rfl rfl wA wB (by omega) (by omega) hK.symm (s1.keep k0 fun _ _ x => x) (s2.keep k0 fun _ _ x => x) (fun e => by have := hl1 _ e; omega) (fun e => by have := hl2 _ e; omega) _ (by kernel_rfl) _ (by kernel_rfl)
    ⟨List.replicate K 0, fun x hx => (by rw [(List.mem_replicate.1 hx).2]; omega), List.length_replicate, by rw [nv_zeros]; simp [nv], fun k hk => by
      rw [List.getD_eq_getElem?_getD, List.getElem?_replicate]; split <;> rfl, by omega, g0, Keep.refl _ _⟩)
  subst hx
  clear hl
  rw [List.take_length, List.take_zero, Nat.mul_zero, Nat.add_zero] at hlv
  have hval : nv l = nv a * nv b := by
    have h9 : nv ([] : List Nat) = 0 := rfl
    rw [h9, Nat.mul_zero, Nat.add_zero] at hlv
    rw [hlv, na, nb]
  have hna : Nc h3 (.slice (some ⟨h.next, 0, none⟩) K K) l := by
    refine ⟨⟨?_, wl, by omega⟩, .inr (.inl ⟨_, _, _, _, rfl, Nat.le_refl _⟩)⟩
    rw [hlK]
    exact ⟨by rw [u3_len, hlK]; omega, .inr ⟨_, _, rfl, fun _ => ⟨_, _, _, _, _, hg, by simp [u3_len, hlK]; exact List.take_of_length_le (by rw [u3_len, hlK]; exact Nat.le_refl _)⟩⟩⟩
  obtain ⟨v9, e9, n9, k9⟩ := cut_run hna
  rw [hval] at n9 k9
  simp (maxSteps := 2000000) -implicitDefEqProofs [pw, aop, cls, light, lightS, binE, aeq, intBin, goInt, aload, isAggT, aeval, tput, awanted, fin, aresults, aresult, List.replicate, heavy, acallOp, aenter, firstRegion, readNames, Nxt, isAnc, readsOk, cond_true, cond_false, Try.underlying40, en95, e9]
  exact ⟨_, _, ⟨rfl, rfl⟩, n9, k0.also kp fun m' hm x => by omega, by omega⟩
end Go.Proofs.Ytmnkmdfladbgdaa.Od
set_option linter.unusedVariables false
set_option linter.unusedSimpArgs false
namespace Go.Proofs.Ytmnkmdfladbgdaa.Od
open Go Go.Proofs Go.RowKit Go.Proofs.YtmnkmdfladbgdaaAI Go.Proofs.YtmnkmdfladbgdaaFl
noncomputable def lb99 (i : Nat) : Code := (loopsOf (Try.f99.body.getD .skip)).getD i .skip

set_option maxRecDepth 20000 in
set_option maxHeartbeats 6400000 in
theorem ncmpE {h0 : Heap} {xa ya : Option Addr} {xc yc L : Nat} {x y : List Nat} (hL : x.length = L) (hL2 : y.length = L) (wx : W32 x) (wy : W32 y) (ka : L ≤ 1000) (hx : Sl h0 (.slice xa L xc) 1 L (u3 x)) (hy : Sl h0 (.slice ya L yc) 1 L (u3 y)) (hxy : x = y) (F : Step) (hFF : F = aexecP Try.prog (sO 99) (run Try.prog sO) loopω pt99 (lb99 0)) (t : Tm)
    (ht : forget [2, 3, 4, 6, 7, 8, 9, 10, 11, 12, 13, 14, 15, 16, 17, 18, 19, 20, 21, 22, 23, 24, 25, 26, 27, 28, 29, 30, 31, 32, 33, 34, 35, 36, 37, 38, 39, 40, 41, 42, 43, 44] t = [.slice xa L xc, .slice ya L yc, unk, unk, unk, .int .i64 (lz L (0)), unk, unk, unk, unk, unk, unk, unk, unk, unk, unk, unk, unk, unk, unk, unk, unk, unk, unk, unk, unk, unk, unk, unk, unk, unk, unk, unk, unk, unk, unk, unk, unk, unk, unk, unk, unk, unk, unk, unk]) (hI0 : h0 = h0) :
    ∃ h' x23 x24, loopω [2, 3, 4, 6, 7, 8, 9, 10, 11, 12, 13, 14, 15, 16, 17, 18, 19, 20, 21, 22, 23, 24, 25, 26, 27, 28, 29, 30, 31, 32, 33, 34, 35, 36, 37, 38, 39, 40, 41, 42, 43, 44] F t h0 = some (.exit 0, [.slice xa L xc, .slice ya L yc, unk, unk, unk, .int .i64 (lz L (L)), unk, unk, unk, unk, unk, unk, unk, unk, unk, unk, unk, unk, unk, unk, unk, unk, unk, x23, x24, unk, unk, unk, unk, unk, unk, unk, unk, unk, unk, unk, unk, unk, unk, unk, unk, unk, unk, unk, unk], h') ∧ h' = h0 := by
  subst hFF
  suffices hs : ∃ e t' h', loopω [2, 3, 4, 6, 7, 8, 9, 10, 11, 12, 13, 14, 15, 16, 17, 18, 19, 20, 21, 22, 23, 24, 25, 26, 27, 28, 29, 30, 31, 32, 33, 34, 35, 36, 37, 38, 39, 40, 41, 42, 43, 44] (aexecP Try.prog (sO 99) (run Try.prog sO) loopω pt99 (lb99 0)) t h0 = some (e, t', h') ∧ (e = .exit 0 ∧ ∃ x23 x24, t' = [.slice xa L xc, .slice ya L yc, unk, unk, unk, .int .i64 (lz L (L)), unk, unk, unk, unk, unk, unk, unk, unk, unk, unk, unk, unk, unk, unk, unk, unk, unk, x23, x24, unk, unk, unk, unk, unk, unk, unk, unk, unk, unk, unk, unk, unk, unk, unk, unk, unk, unk, unk, unk] ∧ h' = h0) by
    obtain ⟨e, t', h', q1, rfl, x23, x24, rfl, q2⟩ := hs
    exact ⟨h', x23, x24, q1, q2⟩
  simp only [lb99, Try.f99, loopsOf, Option.getD_some, List.nil_append, List.append_nil, List.cons_append, List.getD_cons_zero, List.getD_cons_succ]
  refine loop_by (fun k t h' => ∃ (i : Nat), i + k = L ∧ forget [2, 3, 4, 6, 7, 8, 9, 10, 11, 12, 13, 14, 15, 16, 17, 18, 19, 20, 21, 22, 23, 24, 25, 26, 27, 28, 29, 30, 31, 32, 33, 34, 35, 36, 37, 38, 39, 40, 41, 42, 43, 44] t = [.slice xa L xc, .slice ya L yc, unk, unk, unk, .int .i64 (lz L (i)), unk, unk, unk, unk, unk, unk, unk, unk, unk, unk, unk, unk, unk, unk, unk, unk, unk, unk, unk, unk, unk, unk, unk, unk, unk, unk, unk, unk, unk, unk, unk, unk, unk, unk, unk, unk, unk, unk, unk] ∧ h' = h0)
    (fun e t' h' => e = .exit 0 ∧ ∃ x23 x24, t' = [.slice xa L xc, .slice ya L yc, unk, unk, unk, .int .i64 (lz L (L)), unk, unk, unk, unk, unk, unk, unk, unk, unk, unk, unk, unk, unk, unk, unk, unk, unk, x23, x24, unk, unk, unk, unk, unk, unk, unk, unk, unk, unk, unk, unk, unk, unk, unk, unk, unk, unk, unk, unk] ∧ h' = h0) ?_ (L) _ _ ⟨0, by omega, ht, hI0⟩
  rintro k t h' ⟨i, hi, ht, hI⟩
  rw [ht]
  rcases Nat.lt_or_ge i (L) with h1 | h1
  · obtain ⟨q, hq⟩ : ∃ q : Nat, L - 1 - i = q := ⟨_, rfl⟩
    have hz1 : lz L i = (q : Int) := by unfold lz; omega
    have hz2 : IntKind.i64.wrap ((q : Int) - 1) = lz L (i + 1) := by rw [IntWalk.i64_in _ (by omega)]; unfold lz; omega
    subst hI
    rw [hz1]
    have hqL : q < L := by omega
    obtain ⟨xa, xc, C, ce, cs, gr, ro, eb, hg, hc⟩ := sl_u3 hx hqL
    simp only [Value.slice.injEq, true_and] at eb
    obtain ⟨rfl, rfl⟩ := eb
    obtain ⟨ya, yc, C2, ce2, cs2, gr2, ro2, eb, hg2, hc2⟩ := sl_u3 hy hqL
    simp only [Value.slice.injEq, true_and] at eb
    obtain ⟨rfl, rfl⟩ := eb
    
    have he : x.getD q 0 = y.getD q 0 := by rw [hxy]
    rw [he] at hc
    generalize y.getD q 0 = w at *
    simp (maxSteps := 2000000) -implicitDefEqProofs [pw, aop, cls, light, lightS, binE, aeq, intBin, goInt, aload, isAggT, aeval, tput, awanted, fin, aresults, aresult, List.replicate, heavy, acallOp, aenter, firstRegion, readNames, Nxt, isAnc, readsOk, cond_true, cond_false, hqL, aindexAddr, sz101, Try.underlying40, hg, hc, hg2, hc2, pt99_9, pl99_9, an99_9, pt99_10, pl99_10, an99_10, hz2, ibne,  undef]
    exact ⟨k - 1, by omega, i + 1, by omega, by simp (maxSteps := 2000000) only [forget, List.set_cons_succ, List.set_cons_zero]⟩
  · obtain rfl : i = L := by omega
    have hz : lz i i = -1 := by unfold lz; omega
    rw [hz]
    simp (maxSteps := 2000000) -implicitDefEqProofs [pw, aop, cls, light, lightS, binE, aeq, intBin, goInt, aload, isAggT, aeval, tput, awanted, fin, aresults, aresult, List.replicate, heavy, acallOp, aenter, firstRegion, readNames, Nxt, isAnc, readsOk, cond_true, cond_false, undef]
    exact hI
set_option maxRecDepth 20000 in
set_option maxHeartbeats 6400000 in
theorem ncmpL {h0 : Heap} {xa ya : Option Addr} {xc yc L : Nat} {x y : List Nat} (hL : x.length = L) (hL2 : y.length = L) (wx : W32 x) (wy : W32 y) (ka : L ≤ 1000) (hx : Sl h0 (.slice xa L xc) 1 L (u3 x)) (hy : Sl h0 (.slice ya L yc) 1 L (u3 y)) (p : Nat) (hp : p < L) (hab : ∀ j, p < j → x.getD j 0 = y.getD j 0) (hlt : x.getD p 0 < y.getD p 0) (F : Step) (hFF : F = aexecP Try.prog (sO 99) (run Try.prog sO) loopω pt99 (lb99 0)) (t : Tm)
    (ht : forget [2, 3, 4, 6, 7, 8, 9, 10, 11, 12, 13, 14, 15, 16, 17, 18, 19, 20, 21, 22, 23, 24, 25, 26, 27, 28, 29, 30, 31, 32, 33, 34, 35, 36, 37, 38, 39, 40, 41, 42, 43, 44] t = [.slice xa L xc, .slice ya L yc, unk, unk, unk, .int .i64 (lz L (0)), unk, unk, unk, unk, unk, unk, unk, unk, unk, unk, unk, unk, unk, unk, unk, unk, unk, unk, unk, unk, unk, unk, unk, unk, unk, unk, unk, unk, unk, unk, unk, unk, unk, unk, unk, unk, unk, unk, unk]) (hI0 : h0 = h0) :
    ∃ h' x23 x24 x27 x28 x29 x30 x31 x32 x33 x34 x35 x36 x37 x38 x39 x40 x41 x42 x43 x44, loopω [2, 3, 4, 6, 7, 8, 9, 10, 11, 12, 13, 14, 15, 16, 17, 18, 19, 20, 21, 22, 23, 24, 25, 26, 27, 28, 29, 30, 31, 32, 33, 34, 35, 36, 37, 38, 39, 40, 41, 42, 43, 44] F t h0 = some (.ret, [.slice xa L xc, .slice ya L yc, unk, unk, .int .i64 (-1), .int .i64 (lz L (L - 1 - p)), unk, unk, unk, unk, unk, unk, unk, unk, unk, unk, unk, unk, unk, unk, unk, unk, unk, x23, x24, unk, unk, x27, x28, x29, x30, x31, x32, x33, x34, x35, x36, x37, x38, x39, x40, x41, x42, x43, x44], h') ∧ h' = h0 := by
  subst hFF
  suffices hs : ∃ e t' h', loopω [2, 3, 4, 6, 7, 8, 9, 10, 11, 12, 13, 14, 15, 16, 17, 18, 19, 20, 21, 22, 23, 24, 25, 26, 27, 28, 29, 30, 31, 32, 33, 34, 35, 36, 37, 38, 39, 40, 41, 42, 43, 44] (aexecP Try.prog (sO 99) (run Try.prog sO) loopω pt99 (lb99 0)) t h0 = some (e, t', h') ∧ (e = .ret ∧ ∃ x23 x24 x27 x28 x29 x30 x31 x32 x33 x34 x35 x36 x37 x38 x39 x40 x41 x42 x43 x44, t' = [.slice xa L xc, .slice ya L yc, unk, unk, .int .i64 (-1), .int .i64 (lz L (L - 1 - p)), unk, unk, unk, unk, unk, unk, unk, unk, unk, unk, unk, unk, unk, unk, unk, unk, unk, x23, x24, unk, unk, x27, x28, x29, x30, x31, x32, x33, x34, x35, x36, x37, x38, x39, x40, x41, x42, x43, x44] ∧ h' = h0) by
    obtain ⟨e, t', h', q1, rfl, x23, x24, x27, x28, x29, x30, x31, x32, x33, x34, x35, x36, x37, x38, x39, x40, x41, x42, x43, x44, rfl, q2⟩ := hs
    exact ⟨h', x23, x24, x27, x28, x29, x30, x31, x32, x33, x34, x35, x36, x37, x38, x39, x40, x41, x42, x43, x44, q1, q2⟩
  simp only [lb99, Try.f99, loopsOf, Option.getD_some, List.nil_append, List.append_nil, List.cons_append, List.getD_cons_zero, List.getD_cons_succ]
  refine loop_by (fun k t h' => ∃ (i : Nat), i + k = L - 1 - p ∧ forget [2, 3, 4, 6, 7, 8, 9, 10, 11, 12, 13, 14, 15, 16, 17, 18, 19, 20, 21, 22, 23, 24, 25, 26, 27, 28, 29, 30, 31, 32, 33, 34, 35, 36, 37, 38, 39, 40, 41, 42, 43, 44] t = [.slice xa L xc, .slice ya L yc, unk, unk, unk, .int .i64 (lz L (i)), unk, unk, unk, unk, unk, unk, unk, unk, unk, unk, unk, unk, unk, unk, unk, unk, unk, unk, unk, unk, unk, unk, unk, unk, unk, unk, unk, unk, unk, unk, unk, unk, unk, unk, unk, unk, unk, unk, unk] ∧ h' = h0)
    (fun e t' h' => e = .ret ∧ ∃ x23 x24 x27 x28 x29 x30 x31 x32 x33 x34 x35 x36 x37 x38 x39 x40 x41 x42 x43 x44, t' = [.slice xa L xc, .slice ya L yc, unk, unk, .int .i64 (-1), .int .i64 (lz L (L - 1 - p)), unk, unk, unk, unk, unk, unk, unk, unk, unk, unk, unk, unk, unk, unk, unk, unk, unk, x23, x24, unk, unk, x27, x28, x29, x30, x31, x32, x33, x34, x35, x36, x37, x38, x39, x40, x41, x42, x43, x44] ∧ h' = h0) ?_ (L - 1 - p) _ _ ⟨0, by omega, ht, hI0⟩
  rintro k t h' ⟨i, hi, ht, hI⟩
  rw [ht]
  rcases Nat.lt_or_ge i (L - 1 - p) with h1 | h1
  · obtain ⟨q, hq⟩ : ∃ q : Nat, L - 1 - i = q := ⟨_, rfl⟩
    have hz1 : lz L i = (q : Int) := by unfold lz; omega
    have hz2 : IntKind.i64.wrap ((q : Int) - 1) = lz L (i + 1) := by rw [IntWalk.i64_in _ (by omega)]; unfold lz; omega
    subst hI
    rw [hz1]
    have hqL : q < L := by omega
    obtain ⟨xa, xc, C, ce, cs, gr, ro, eb, hg, hc⟩ := sl_u3 hx hqL
    simp only [Value.slice.injEq, true_and] at eb
    obtain ⟨rfl, rfl⟩ := eb
    obtain ⟨ya, yc, C2, ce2, cs2, gr2, ro2, eb, hg2, hc2⟩ := sl_u3 hy hqL
    simp only [Value.slice.injEq, true_and] at eb
    obtain ⟨rfl, rfl⟩ := eb
    
    have he : x.getD q 0 = y.getD q 0 := hab q (by omega)
    rw [he] at hc
    generalize y.getD q 0 = w at *
    simp (maxSteps := 2000000) -implicitDefEqProofs [pw, aop, cls, light, lightS, binE, aeq, intBin, goInt, aload, isAggT, aeval, tput, awanted, fin, aresults, aresult, List.replicate, heavy, acallOp, aenter, firstRegion, readNames, Nxt, isAnc, readsOk, cond_true, cond_false, hqL, aindexAddr, sz101, Try.underlying40, hg, hc, hg2, hc2, pt99_9, pl99_9, an99_9, pt99_10, pl99_10, an99_10, hz2, ibne,  undef]
    exact ⟨k - 1, by omega, i + 1, by omega, by simp (maxSteps := 2000000) only [forget, List.set_cons_succ, List.set_cons_zero]⟩
  · obtain rfl : i = L - 1 - p := by omega
    obtain ⟨q, hq⟩ : ∃ q : Nat, L - 1 - (L - 1 - p) = q := ⟨_, rfl⟩
    obtain rfl : q = p := by omega
    have hz1 : lz L (L - 1 - q) = (q : Int) := by unfold lz; omega
    have hz2 : IntKind.i64.wrap ((q : Int) - 1) = lz L (L - 1 - q + 1) := by rw [IntWalk.i64_in _ (by omega)]; unfold lz; omega
    subst hI
    rw [hz1]
    have hqL : q < L := by omega
    obtain ⟨xa, xc, C, ce, cs, gr, ro, eb, hg, hc⟩ := sl_u3 hx hqL
    simp only [Value.slice.injEq, true_and] at eb
    obtain ⟨rfl, rfl⟩ := eb
    obtain ⟨ya, yc, C2, ce2, cs2, gr2, ro2, eb, hg2, hc2⟩ := sl_u3 hy hqL
    simp only [Value.slice.injEq, true_and] at eb
    obtain ⟨rfl, rfl⟩ := eb
    
    generalize x.getD q 0 = u at *
    generalize y.getD q 0 = w at *
    have hne : ¬ (u : Int) = (w : Int) := by omega
    simp (maxSteps := 2000000) -implicitDefEqProofs [pw, aop, cls, light, lightS, binE, aeq, intBin, goInt, aload, isAggT, aeval, tput, awanted, fin, aresults, aresult, List.replicate, heavy, acallOp, aenter, firstRegion, readNames, Nxt, isAnc, readsOk, cond_true, cond_false, hqL, aindexAddr, sz101, Try.underlying40, hg, hc, hg2, hc2, pt99_9, pl99_9, an99_9, pt99_10, pl99_10, an99_10, hz2, ibne, hne, hlt,  undef]
set_option maxRecDepth 20000 in
set_option maxHeartbeats 6400000 in
theorem ncmpG {h0 : Heap} {xa ya : Option Addr} {xc yc L : Nat} {x y : List Nat} (hL : x.length = L) (hL2 : y.length = L) (wx : W32 x) (wy : W32 y) (ka : L ≤ 1000) (hx : Sl h0 (.slice xa L xc) 1 L (u3 x)) (hy : Sl h0 (.slice ya L yc) 1 L (u3 y)) (p : Nat) (hp : p < L) (hab : ∀ j, p < j → x.getD j 0 = y.getD j 0) (hlt : y.getD p 0 < x.getD p 0) (F : Step) (hFF : F = aexecP Try.prog (sO 99) (run Try.prog sO) loopω pt99 (lb99 0)) (t : Tm)
    (ht : forget [2, 3, 4, 6, 7, 8, 9, 10, 11, 12, 13, 14, 15, 16, 17, 18, 19, 20, 21, 22, 23, 24, 25, 26, 27, 28, 29, 30, 31, 32, 33, 34, 35, 36, 37, 38, 39, 40, 41, 42, 43, 44] t = [.slice xa L xc, .slice ya L yc, unk, unk, unk, .int .i64 (lz L (0)), unk, unk, unk, unk, unk, unk, unk, unk, unk, unk, unk, unk, unk, unk, unk, unk, unk, unk, unk, unk, unk, unk, unk, unk, unk, unk, unk, unk, unk, unk, unk, unk, unk, unk, unk, unk, unk, unk, unk]) (hI0 : h0 = h0) :
    ∃ h' x23 x24 x27 x28 x29 x30 x31 x32 x33 x34 x35 x36 x37 x38 x39 x40 x41 x42 x43 x44, loopω [2, 3, 4, 6, 7, 8, 9, 10, 11, 12, 13, 14, 15, 16, 17, 18, 19, 20, 21, 22, 23, 24, 25, 26, 27, 28, 29, 30, 31, 32, 33, 34, 35, 36, 37, 38, 39, 40, 41, 42, 43, 44] F t h0 = some (.ret, [.slice xa L xc, .slice ya L yc, unk, unk, .int .i64 1, .int .i64 (lz L (L - 1 - p)), unk, unk, unk, unk, unk, unk, unk, unk, unk, unk, unk, unk, unk, unk, unk, unk, unk, x23, x24, unk, unk, x27, x28, x29, x30, x31, x32, x33, x34, x35, x36, x37, x38, x39, x40, x41, x42, x43, x44], h') ∧ h' = h0 := by
  subst hFF
  suffices hs : ∃ e t' h', loopω [2, 3, 4, 6, 7, 8, 9, 10, 11, 12, 13, 14, 15, 16, 17, 18, 19, 20, 21, 22, 23, 24, 25, 26, 27, 28, 29, 30, 31, 32, 33, 34, 35, 36, 37, 38, 39, 40, 41, 42, 43, 44] (aexecP Try.prog (sO 99) (run Try.prog sO) loopω pt99 (lb99 0)) t h0 = some (e, t', h') ∧ (e = .ret ∧ ∃ x23 x24 x27 x28 x29 x30 x31 x32 x33 x34 x35 x36 x37 x38 x39 x40 x41 x42 x43 x44, t' = [.slice xa L xc, .slice ya L yc, unk, unk, .int .i64 1, .int .i64 (lz L (L - 1 - p)), unk, unk, unk, unk, unk, unk, unk, unk, unk, unk, unk, unk, unk, unk, unk, unk, unk, x23, x24, unk, unk, x27, x28, x29, x30, x31, x32, x33, x34, x35, x36, x37, x38, x39, x40, x41, x42, x43, x44] ∧ h' = h0) by
    obtain ⟨e, t', h', q1, rfl, x23, x24, x27, x28, x29, x30, x31, x32, x33, x34, x35, x36, x37, x38, x39, x40, x41, x42, x43, x44, rfl, q2⟩ := hs
    exact ⟨h', x23, x24, x27, x28, x29, x30, x31, x32, x33, x34, x35, x36, x37, x38, x39, x40, x41, x42, x43, x44, q1, q2⟩
  simp only [lb99, Try.f99, loopsOf, Option.getD_some, List.nil_append, List.append_nil, List.cons_append, List.getD_cons_zero, List.getD_cons_succ]
  refine loop_by (fun k t h' => ∃ (i : Nat), i + k = L - 1 - p ∧ forget [2, 3, 4, 6, 7, 8, 9, 10, 11, 12, 13, 14, 15, 16, 17, 18, 19, 20, 21, 22, 23, 24, 25, 26, 27, 28, 29, 30, 31, 32, 33, 34, 35, 36, 37, 38, 39, 40, 41, 42, 43, 44] t = [.slice xa L xc, .slice ya L yc, unk, unk, unk, .int .i64 (lz L (i)), unk, unk, unk, unk, unk, unk, unk, unk, unk, unk, unk, unk, unk, unk, unk, unk, unk, unk, unk, unk, unk, unk, unk, unk, unk, unk, unk, unk, unk, unk, unk, unk, unk, unk, unk, unk, unk, unk, unk] ∧ h' = h0)
    (fun e t' h' => e = .ret ∧ ∃ x23 x24 x27 x28 x29 x30 x31 x32 x33 x34 x35 x36 x37 x38 x39 x40 x41 x42 x43 x44, t' = [.slice xa L xc, .slice ya L yc, unk, unk, .int .i64 1, .int .i64 (lz L (L - 1 - p)), unk, unk, unk, unk, unk, unk, unk, unk, unk, unk, unk, unk, unk, unk, unk, unk, unk, x23, x24, unk, unk, x27, x28, x29, x30, x31, x32, x33, x34, x35, x36, x37, x38, x39, x40, x41, x42, x43, x44] ∧ h' = h0) ?_ (L - 1 - p) _ _ ⟨0, by omega, ht, hI0⟩
  rintro k t h' ⟨i, hi, ht, hI⟩
  rw [ht]
  rcases Nat.lt_or_ge i (L - 1 - p) with h1 | h1
  · obtain ⟨q, hq⟩ : ∃ q : Nat, L - 1 - i = q := ⟨_, rfl⟩
    have hz1 : lz L i = (q : Int) := by unfold lz; omega
    have hz2 : IntKind.i64.wrap ((q : Int) - 1) = lz L (i + 1) := by rw [IntWalk.i64_in _ (by omega)]; unfold lz; omega
    subst hI
    rw [hz1]
    have hqL : q < L := by omega
    obtain ⟨xa, xc, C, ce, cs, gr, ro, eb, hg, hc⟩ := sl_u3 hx hqL
    simp only [Value.slice.injEq, true_and] at eb
    obtain ⟨rfl, rfl⟩ := eb
    obtain ⟨ya, yc, C2, ce2, cs2, gr2, ro2, eb, hg2, hc2⟩ := sl_u3 hy hqL
    simp only [Value.slice.injEq, true_and] at eb
    obtain ⟨rfl, rfl⟩ := eb
    
    have he : x.getD q 0 = y.getD q 0 := hab q (by omega)
    rw [he] at hc
    generalize y.getD q 0 = w at *
    simp (maxSteps := 2000000) -implicitDefEqProofs [pw, aop, cls, light, lightS, binE, aeq, intBin, goInt, aload, isAggT, aeval, tput, awanted, fin, aresults, aresult, List.replicate, heavy, acallOp, aenter, firstRegion, readNames, Nxt, isAnc, readsOk, cond_true, cond_false, hqL, aindexAddr, sz101, Try.underlying40, hg, hc, hg2, hc2, pt99_9, pl99_9, an99_9, pt99_10, pl99_10, an99_10, hz2, ibne,  undef]
    exact ⟨k - 1, by omega, i + 1, by omega, by simp (maxSteps := 2000000) only [forget, List.set_cons_succ, List.set_cons_zero]⟩
  · obtain rfl : i = L - 1 - p := by omega
    obtain ⟨q, hq⟩ : ∃ q : Nat, L - 1 - (L - 1 - p) = q := ⟨_, rfl⟩
    obtain rfl : q = p := by omega
    have hz1 : lz L (L - 1 - q) = (q : Int) := by unfold lz; omega
    have hz2 : IntKind.i64.wrap ((q : Int) - 1) = lz L (L - 1 - q + 1) := by rw [IntWalk.i64_in _ (by omega)]; unfold lz; omega
    subst hI
    rw [hz1]
    have hqL : q < L := by omega
    obtain ⟨xa, xc, C, ce, cs, gr, ro, eb, hg, hc⟩ := sl_u3 hx hqL
    simp only [Value.slice.injEq, true_and] at eb
    obtain ⟨rfl, rfl⟩ := eb
    obtain ⟨ya, yc, C2, ce2, cs2, gr2, ro2, eb, hg2, hc2⟩ := sl_u3 hy hqL
    simp only [Value.slice.injEq, true_and] at eb
    obtain ⟨rfl, rfl⟩ := eb
    
    generalize x.getD q 0 = u at *
    generalize y.getD q 0 = w at *
    have hne : ¬ (u : Int) = (w : Int) := by omega
    have hnl : ¬ u < w := by omega
    simp (maxSteps := 2000000) -implicitDefEqProofs [pw, aop, cls, light, lightS, binE, aeq, intBin, goInt, aload, isAggT, aeval, tput, awanted, fin, aresults, aresult, List.replicate, heavy, acallOp, aenter, firstRegion, readNames, Nxt, isAnc, readsOk, cond_true, cond_false, hqL, aindexAddr, sz101, Try.underlying40, hg, hc, hg2, hc2, pt99_9, pl99_9, an99_9, pt99_10, pl99_10, an99_10, hz2, ibne, hne, hlt, hnl,  undef]

theorem ncmp_run {h : Heap} {v w : Value} {a b : List Nat} (ha : Nc h v a) (hb : Nc h w b) : run Try.prog sO 99 [v, w] h = some (.int .i64 (cmpN (nv a) (nv b)), h) := by
  obtain ⟨v1, e1, ⟨⟨s1, _, _⟩, _⟩, b1⟩ := cut_run ha
  obtain ⟨v2, e2, ⟨⟨s2, _, _⟩, _⟩, b2⟩ := cut_run hb
  have ka := ha.1.2.2
  have kb := hb.1.2.2
  obtain ⟨xa0, xc0, rfl⟩ := sl_form ha.1.1
  obtain ⟨ya0, yc0, rfl⟩ := sl_form hb.1.1
  obtain ⟨xa, xc, rfl⟩ := sl_form s1
  obtain ⟨ya, yc, rfl⟩ := sl_form s2
  suffices hx : ∃ y, fin Try.prog Try.f99 (aexecP Try.prog (sO 99) (run Try.prog sO) loopω pt99 (Try.f99.body.getD .skip) ([.slice xa0 a.length xc0, .slice ya0 b.length yc0] ++ List.replicate (Try.f99.ntmps - 2) undef) h) = some y ∧ y.1 = .int .i64 (cmpN (nv a) (nv b)) ∧ y.2 = h by
    obtain ⟨⟨y1, y2⟩, hy, rfl, rfl⟩ := hx
    exact run_finP pt99 Try.func99 rfl planned99 hy
  have hA := lm_w (nv a)
  have hB := lm_w (nv b)
  rcases Nat.lt_trichotomy (lm (nv a)).length (lm (nv b)).length with c1 | c1 | c1
  · have hv : cmpN (nv a) (nv b) = -1 := by unfold cmpN; rw [if_pos (len_lt c1)]
    have hne : ¬ ((lm (nv a)).length : Int) = ((lm (nv b)).length : Int) := by omega
    rw [hv]
    simp (maxSteps := 2000000) -implicitDefEqProofs [Try.f99, pw, aop, cls, light, lightS, binE, aeq, intBin, goInt, aload, isAggT, aeval, tput, awanted, fin, aresults, aresult, List.replicate, heavy, acallOp, aenter, firstRegion, readNames, Nxt, isAnc, readsOk, cond_true, cond_false, Try.underlying40, en95, e1, e2, ibne, hne, c1]
  · have hna : nv (lm (nv a)) = nv a := nv_lm _
    have hnb : nv (lm (nv b)) = nv b := nv_lm _
    rw [c1] at s1 b1 e1
    generalize hLL : (lm (nv b)).length = L at *
    have wd : IntKind.i64.wrap ((L : Int) - 1) = lz L 0 := by rw [IntWalk.i64_in _ (by omega)]; unfold lz; omega
    by_cases he : lm (nv a) = lm (nv b)
    · have hv : cmpN (nv a) (nv b) = 0 := by
        have : nv a = nv b := by rw [← hna, he, hnb]
        unfold cmpN; rw [if_neg (by omega), if_neg (by omega)]
      rw [hv]
      simp (maxSteps := 2000000) -implicitDefEqProofs [Try.f99, pw, aop, cls, light, lightS, binE, aeq, intBin, goInt, aload, isAggT, aeval, tput, awanted, fin, aresults, aresult, List.replicate, heavy, acallOp, aenter, firstRegion, readNames, Nxt, isAnc, readsOk, cond_true, cond_false, Try.underlying40, en95, e1, e2, ibne, wd, sO99]
      generalize hl : loopω _ _ _ _ = r
      obtain ⟨h3, x23, x24, hx, hh⟩ := useX2 hl (ncmpE (h0 := h) (xa := xa) (xc := xc) (ya := ya) (yc := yc) (L := L) (x := lm (nv a)) (y := lm (nv b)) c1 hLL hA hB (by omega) s1 s2 he _ (by kernel_rfl) _ (by kernel_rfl) rfl)
      subst hx
      subst hh
      simp (maxSteps := 2000000) -implicitDefEqProofs [pw, aop, cls, light, lightS, binE, aeq, intBin, goInt, aload, isAggT, aeval, tput, awanted, fin, aresults, aresult, List.replicate, heavy, acallOp, aenter, firstRegion, readNames, Nxt, isAnc, readsOk, cond_true, cond_false]
    · obtain ⟨p, hp, hab, hlt⟩ := top_diff hA hB (by omega) he
      rw [hna, hnb] at hlt
      rcases hlt with ⟨hlt, hlv⟩ | ⟨hlt, hlv⟩
      · have hv : cmpN (nv a) (nv b) = -1 := by unfold cmpN; rw [if_pos hlv]
        rw [hv]
        simp (maxSteps := 2000000) -implicitDefEqProofs [Try.f99, pw, aop, cls, light, lightS, binE, aeq, intBin, goInt, aload, isAggT, aeval, tput, awanted, fin, aresults, aresult, List.replicate, heavy, acallOp, aenter, firstRegion, readNames, Nxt, isAnc, readsOk, cond_true, cond_false, Try.underlying40, en95, e1, e2, ibne, wd, sO99]
        generalize hl : loopω _ _ _ _ = r
        obtain ⟨h3, x23, x24, x27, x28, x29, x30, x31, x32, x33, x34, x35, x36, x37, x38, x39, x40, x41, x42, x43, x44, hx, hh⟩ := useX20 hl (ncmpL (h0 := h) (xa := xa) (xc := xc) (ya := ya) (yc := yc) (L := L) (x := lm (nv a)) (y := lm (nv b)) c1 hLL hA hB (by omega) s1 s2 p (by omega) hab hlt _ (by kernel_rfl) _ (by kernel_rfl) rfl)
        subst hx
        subst hh
        simp (maxSteps := 2000000) -implicitDefEqProofs [pw, aop, cls, light, lightS, binE, aeq, intBin, goInt, aload, isAggT, aeval, tput, awanted, fin, aresults, aresult, List.replicate, heavy, acallOp, aenter, firstRegion, readNames, Nxt, isAnc, readsOk, cond_true, cond_false]
      · have hv : cmpN (nv a) (nv b) = 1 := by unfold cmpN; rw [if_neg (by omega), if_pos hlv]
        rw [hv]
        simp (maxSteps := 2000000) -implicitDefEqProofs [Try.f99, pw, aop, cls, light, lightS, binE, aeq, intBin, goInt, aload, isAggT, aeval, tput, awanted, fin, aresults, aresult, List.replicate, heavy, acallOp, aenter, firstRegion, readNames, Nxt, isAnc, readsOk, cond_true, cond_false, Try.underlying40, en95, e1, e2, ibne, wd, sO99]
        generalize hl : loopω _ _ _ _ = r
        obtain ⟨h3, x23, x24, x27, x28, x29, x30, x31, x32, x33, x34, x35, x36, x37, x38, x39, x40, x41, x42, x43, x44, hx, hh⟩ := useX20 hl (ncmpG (h0 := h) (xa := xa) (xc := xc) (ya := ya) (yc := yc) (L := L) (x := lm (nv a)) (y := lm (nv b)) c1 hLL hA hB (by omega) s1 s2 p (by omega) hab hlt _ (by kernel_rfl) _ (by kernel_rfl) rfl)
        subst hx
        subst hh
        simp (maxSteps := 2000000) -implicitDefEqProofs [pw, aop, cls, light, lightS, binE, aeq, intBin, goInt, aload, isAggT, aeval, tput, awanted, fin, aresults, aresult, List.replicate, heavy, acallOp, aenter, firstRegion, readNames, Nxt, isAnc, readsOk, cond_true, cond_false]
  · have c2 : ¬ (lm (nv a)).length < (lm (nv b)).length := by omega
    have hne : ¬ ((lm (nv a)).length : Int) = ((lm (nv b)).length : Int) := by omega
    have hv : cmpN (nv a) (nv b) = 1 := by unfold cmpN; rw [if_neg (by have := len_lt c1; omega), if_pos (len_lt c1)]
    rw [hv]
    simp (maxSteps := 2000000) -implicitDefEqProofs [Try.f99, pw, aop, cls, light, lightS, binE, aeq, intBin, goInt, aload, isAggT, aeval, tput, awanted, fin, aresults, aresult, List.replicate, heavy, acallOp, aenter, firstRegion, readNames, Nxt, isAnc, readsOk, cond_true, cond_false, Try.underlying40, en95, e1, e2, ibne, hne, c2]
end Go.Proofs.Ytmnkmdfladbgdaa.Od
set_option linter.unusedVariables false
set_option linter.unusedSimpArgs false
namespace Go.Proofs.Ytmnkmdfladbgdaa.Od
open Go Go.Proofs Go.RowKit Go.Proofs.YtmnkmdfladbgdaaAI Go.Proofs.YtmnkmdfladbgdaaFl
noncomputable def lb100 (i : Nat) : Code := (loopsOf (Try.f100.body.getD .skip)).getD i .skip
noncomputable def lb92 (i : Nat) : Code := (loopsOf (Try.f92.body.getD .skip)).getD i .skip

theorem or37z' (x y : Operand) (b : Nat) (hb : b < 18446744073709551616) : pureRun Try.prog (do let z ← (do eqGuard .or 37 x y (.int .u64 0) (.int .u64 b); binOp .or 37 (.int .u64 0) (.int .u64 b)); pure (Next.value z)) = some (.value (.int .u64 (b : Nat))) := by
  have e : (do let z ← (do eqGuard .or 37 x y (.int .u64 0) (.int .u64 b); binOp .or 37 (.int .u64 0) (.int .u64 b)); pure (Next.value z) : Sem Next) = (do let z ← Op.intBits .or .u64 0 b; pure (Next.value z)) := by kernel_rfl
  have e2 : Op.intBits .or .u64 0 b = pure (.int .u64 (IntKind.u64.wrap ((BitVec.ofInt 64 0 ||| BitVec.ofInt 64 (b : Int)).toNat))) := rfl
  have e3 : (BitVec.ofInt 64 0 ||| BitVec.ofInt 64 (b : Int)).toNat = b := by
    have : BitVec.ofInt 64 0 = 0#64 := rfl
    rw [this, BitVec.zero_or, BitVec.toNat_ofInt]
    omega
  rw [e, e2, e3, wu64 rfl hb]
  rfl
theorem or37z (t : Tm) (x y : Operand) (b : Nat) (hx : aeval t x = .int .u64 0) (hy : aeval t y = .int .u64 b) (hb : b < 18446744073709551616) (d r ty pos af gu) : purerule Try.prog (aeval t) ⟨d, .binOp .or 37 x y r, ty, pos, af, gu⟩ = some (.int .u64 (b : Nat)) := by
  refine pure_of rfl ?_ ?_ rfl
  · simp [Op.operands, hx, hy, pli]
  · have : execOp (aeval t) ⟨d, .binOp .or 37 x y r, ty, pos, af, gu⟩ = (do let z ← (do eqGuard .or 37 x y (aeval t x) (aeval t y); binOp .or 37 (aeval t x) (aeval t y)); pure (Next.value z)) := by simp [execOp]
    rw [this, hx, hy]; exact or37z' x y b hb
theorem shl0 (t : Tm) (x y : Operand) (hx : aeval t x = .int .u64 0) (hy : aeval t y = .int .u64 32) (d r ty pos af gu) : purerule Try.prog (aeval t) ⟨d, .binOp .shl 37 x y r, ty, pos, af, gu⟩ = some (.int .u64 0) := by
  rw [shl37 t x y 0 32 hx hy (by omega), Int.zero_mul]; rfl
set_option maxRecDepth 20000 in
set_option maxHeartbeats 6400000 in
theorem word1 {h0 : Heap} {xa : Option Addr} {xc L m : Nat} {x : List Nat} (hL : x.length = L) (wx : W32 x) (ka : L ≤ 1000) (hx : Sl h0 (.slice xa L xc) 1 L (u3 x)) (hmx : nm (.slice xa L xc) ≠ some m) (F : Step) (hFF : F = aexecP Try.prog (sO 100) (run Try.prog sO) loopω pt100 (lb100 0)) (t : Tm)
    (ht : forget [2, 3, 4, 5, 9, 10, 11, 12, 13, 14, 15, 16, 17, 18, 19, 20, 21, 22, 23, 24, 25, 26, 27, 28, 29, 30, 31, 32, 33, 34, 35, 36, 37, 38, 39, 40, 41, 42, 43] t = [.slice xa L xc, .int .u32 1, unk, unk, unk, unk, .slice (some ⟨m, 0, none⟩) L L, .int .u64 0, .int .i64 (lz L (0)), unk, unk, unk, unk, unk, unk, unk, unk, unk, unk, unk, unk, unk, unk, unk, unk, unk, unk, unk, unk, unk, unk, unk, unk, unk, unk, unk, unk, unk, unk, unk, unk, unk, unk, unk]) (hI0 : (∃ l, W32 l ∧ l.length = L ∧ (h0).get m = some (.cells (u3 l) 101 1 false false) ∧ Keep (fun m' => m' = m) h0 h0)) :
    ∃ h' x16 x17, loopω [2, 3, 4, 5, 9, 10, 11, 12, 13, 14, 15, 16, 17, 18, 19, 20, 21, 22, 23, 24, 25, 26, 27, 28, 29, 30, 31, 32, 33, 34, 35, 36, 37, 38, 39, 40, 41, 42, 43] F t h0 = some (.exit 0, [.slice xa L xc, .int .u32 1, unk, unk, unk, unk, .slice (some ⟨m, 0, none⟩) L L, .int .u64 0, .int .i64 (lz L (L)), unk, unk, unk, unk, unk, unk, unk, x16, x17, unk, unk, unk, unk, unk, unk, unk, unk, unk, unk, unk, unk, unk, unk, unk, unk, unk, unk, unk, unk, unk, unk, unk, unk, unk, unk], h') ∧ (∃ l, W32 l ∧ l.length = L ∧ (h').get m = some (.cells (u3 l) 101 1 false false) ∧ Keep (fun m' => m' = m) h0 h') := by
  subst hFF
  suffices hs : ∃ e t' h', loopω [2, 3, 4, 5, 9, 10, 11, 12, 13, 14, 15, 16, 17, 18, 19, 20, 21, 22, 23, 24, 25, 26, 27, 28, 29, 30, 31, 32, 33, 34, 35, 36, 37, 38, 39, 40, 41, 42, 43] (aexecP Try.prog (sO 100) (run Try.prog sO) loopω pt100 (lb100 0)) t h0 = some (e, t', h') ∧ (e = .exit 0 ∧ ∃ x16 x17, t' = [.slice xa L xc, .int .u32 1, unk, unk, unk, unk, .slice (some ⟨m, 0, none⟩) L L, .int .u64 0, .int .i64 (lz L (L)), unk, unk, unk, unk, unk, unk, unk, x16, x17, unk, unk, unk, unk, unk, unk, unk, unk, unk, unk, unk, unk, unk, unk, unk, unk, unk, unk, unk, unk, unk, unk, unk, unk, unk, unk] ∧ (∃ l, W32 l ∧ l.length = L ∧ (h').get m = some (.cells (u3 l) 101 1 false false) ∧ Keep (fun m' => m' = m) h0 h')) by
    obtain ⟨e, t', h', q1, rfl, x16, x17, rfl, q2⟩ := hs
    exact ⟨h', x16, x17, q1, q2⟩
  simp only [lb100, Try.f100, loopsOf, Option.getD_some, List.nil_append, List.append_nil, List.cons_append, List.getD_cons_zero, List.getD_cons_succ]
  refine loop_by (fun k t h' => ∃ (i : Nat), i + k = L ∧ forget [2, 3, 4, 5, 9, 10, 11, 12, 13, 14, 15, 16, 17, 18, 19, 20, 21, 22, 23, 24, 25, 26, 27, 28, 29, 30, 31, 32, 33, 34, 35, 36, 37, 38, 39, 40, 41, 42, 43] t = [.slice xa L xc, .int .u32 1, unk, unk, unk, unk, .slice (some ⟨m, 0, none⟩) L L, .int .u64 0, .int .i64 (lz L (i)), unk, unk, unk, unk, unk, unk, unk, unk, unk, unk, unk, unk, unk, unk, unk, unk, unk, unk, unk, unk, unk, unk, unk, unk, unk, unk, unk, unk, unk, unk, unk, unk, unk, unk, unk] ∧ (∃ l, W32 l ∧ l.length = L ∧ (h').get m = some (.cells (u3 l) 101 1 false false) ∧ Keep (fun m' => m' = m) h0 h'))
    (fun e t' h' => e = .exit 0 ∧ ∃ x16 x17, t' = [.slice xa L xc, .int .u32 1, unk, unk, unk, unk, .slice (some ⟨m, 0, none⟩) L L, .int .u64 0, .int .i64 (lz L (L)), unk, unk, unk, unk, unk, unk, unk, x16, x17, unk, unk, unk, unk, unk, unk, unk, unk, unk, unk, unk, unk, unk, unk, unk, unk, unk, unk, unk, unk, unk, unk, unk, unk, unk, unk] ∧ (∃ l, W32 l ∧ l.length = L ∧ (h').get m = some (.cells (u3 l) 101 1 false false) ∧ Keep (fun m' => m' = m) h0 h')) ?_ (L) _ _ ⟨0, by omega, ht, hI0⟩
  rintro k t h' ⟨i, hi, ht, hI⟩
  rw [ht]
  rcases Nat.lt_or_ge i (L) with h1 | h1
  · obtain ⟨l, wl, hl, hm, kp⟩ := hI
    obtain ⟨q, hq⟩ : ∃ q : Nat, L - 1 - i = q := ⟨_, rfl⟩
    have hz1 : lz L i = (q : Int) := by unfold lz; omega
    have hz2 : IntKind.i64.wrap ((q : Int) - 1) = lz L (i + 1) := by rw [IntWalk.i64_in _ (by omega)]; unfold lz; omega
    rw [hz1]
    have hqL : q < L := by omega
    obtain ⟨xa, xc, C, ce, cs, gr, ro, eb, hg, hc⟩ := sl_u3 (hx.keep kp fun m' e z => hmx (z ▸ e)) hqL
    simp only [Value.slice.injEq, true_and] at eb
    obtain ⟨rfl, rfl⟩ := eb
    have lx := wx.get q
    generalize x.getD q 0 = u at *
    have v1 := wu64 (a := u) rfl (by omega)
    have v2 := wu32 (a := u) rfl (by omega)
    have v3 : IntKind.u64.wrap 1 = 1 := rfl
    have v4 : (u : Int).tdiv 1 = u := Int.tdiv_one _
    have v5 : (u : Int).tmod 1 = 0 := Int.tmod_one _
    have ca : q + 1 ≤ (u3 l).length := by rw [u3_len]; omega
    have hsd := u3_set (l := l) (i := q) (by omega) u
    obtain ⟨z, hz⟩ : ∃ z, z = h'.put m (some (.cells (u3 (l.set q u)) 101 1 false false)) := ⟨_, rfl⟩
    have hlt := Heap.get_lt hm
    have hor := fun t x y hx hy => or37z t x y u hx hy (by omega)
    simp (maxSteps := 2000000) -implicitDefEqProofs [pw, aop, cls, light, lightS, binE, aeq, intBin, goInt, aload, isAggT, aeval, tput, awanted, fin, aresults, aresult, List.replicate, heavy, acallOp, aenter, firstRegion, readNames, Nxt, isAnc, readsOk, cond_true, cond_false, hqL, v1, v2, v3, v4, v5, hm, ca, hsd, astore, oku3, ← hz, hg, hc, aindexAddr, sz101, Try.underlying40, cv101_37, cv37_101, shl0, hor, hz2, undef]
    refine ⟨k - 1, by omega, i + 1, by omega, by simp (maxSteps := 2000000) only [forget, List.set_cons_succ, List.set_cons_zero], l.set q u, fun y hy => ?_, by rw [List.length_set]; exact hl, by rw [hz, Heap.get_put hlt, if_pos rfl], by rw [hz]; exact kp.trans (Keep.put (S := fun m' => m' = m) hlt rfl _)⟩
    rcases List.mem_or_eq_of_mem_set hy with h5 | h5
    · exact wl y h5
    · omega
  · obtain rfl : i = L := by omega
    have hz : lz i i = -1 := by unfold lz; omega
    rw [hz]
    simp (maxSteps := 2000000) -implicitDefEqProofs [pw, aop, cls, light, lightS, binE, aeq, intBin, goInt, aload, isAggT, aeval, tput, awanted, fin, aresults, aresult, List.replicate, heavy, acallOp, aenter, firstRegion, readNames, Nxt, isAnc, readsOk, cond_true, cond_false, undef]
    exact hI

set_option maxRecDepth 20000 in
/-- By one nothing is left. -/
theorem word_run {h : Heap} {v : Value} {a : List Nat} (ha : Nc h v a) : ∃ v' h', run Try.prog sO 100 [v, .int .u32 1] h = some (.tuple #[v', .int .u32 0], h') ∧ Keep No h h' := by
  have hl1 := fun m e => ha.1.1.lt (m := m) e
  have ka := ha.1.2.2
  obtain ⟨xa, xc, rfl⟩ := sl_form ha.1.1
  obtain ⟨K, hK⟩ : ∃ K, a.length = K := ⟨_, rfl⟩
  suffices hx : ∃ y, fin Try.prog Try.f100 (aexecP Try.prog (sO 100) (run Try.prog sO) loopω pt100 (Try.f100.body.getD .skip) ([.slice xa a.length xc, .int .u32 1] ++ List.replicate (Try.f100.ntmps - 2) undef) h) = some y ∧ ∃ v', y.1 = .tuple #[v', .int .u32 0] ∧ Keep No h y.2 by
    obtain ⟨⟨y1, y2⟩, hy, v', rfl, q⟩ := hx
    exact ⟨v', y2, run_finP pt100 Try.func100 rfl planned100 hy, q⟩
  have hs := ha.1.1
  rw [hK] at hs hl1 ⊢
  have hms := fun ρ x y hx hy => ms40 ρ x y K hx hy (by omega)
  have k0 := Keep.new No h (.cells (u3 (List.replicate K 0)) 101 1 false false)
  have g0 : (h.new (.cells (u3 (List.replicate K 0)) 101 1 false false)).get h.next = some (.cells (u3 (List.replicate K 0)) 101 1 false false) := by rw [Heap.get_new, if_pos rfl]
  obtain ⟨hA, hhA⟩ : ∃ x, x = h.new (.cells (u3 (List.replicate K 0)) 101 1 false false) := ⟨_, rfl⟩
  rw [← hhA] at k0 g0
  have wd : IntKind.i64.wrap ((K : Int) - 1) = lz K 0 := by rw [IntWalk.i64_in _ (by omega)]; unfold lz; omega
  simp (maxSteps := 2000000) -implicitDefEqProofs [Try.f100, pw, aop, cls, light, lightS, binE, aeq, intBin, goInt, aload, isAggT, aeval, tput, awanted, fin, aresults, aresult, List.replicate, heavy, acallOp, aenter, firstRegion, readNames, Nxt, isAnc, readsOk, cond_true, cond_false, Try.underlying40, hms, wd, ← hhA, sO100]
  generalize hl : loopω _ _ _ _ = r
  obtain ⟨h3, x16, x17, hx, l, wl, hlK, hg, kp⟩ := useX2 hl (word1 (h0 := hA) (xa := xa) (xc := xc) (L := K) (m := h.next) (x := a) hK ha.1.2.1 (by omega) (hs.keep k0 fun _ _ x => x) (fun e => by have := hl1 _ e; omega) _ (by kernel_rfl) _ (by kernel_rfl)
    ⟨List.replicate K 0, fun x hx => (by rw [(List.mem_replicate.1 hx).2]; omega), List.length_replicate, g0, Keep.refl _ _⟩)
  subst hx
  clear hl
  have hna : Nc h3 (.slice (some ⟨h.next, 0, none⟩) K K) l := by
    refine ⟨⟨?_, wl, by omega⟩, .inr (.inl ⟨_, _, _, _, rfl, Nat.le_refl _⟩)⟩
    rw [hlK]
    exact ⟨by rw [u3_len, hlK]; omega, .inr ⟨_, _, rfl, fun _ => ⟨_, _, _, _, _, hg, by simp [u3_len, hlK]; exact List.take_of_length_le (by rw [u3_len, hlK]; exact Nat.le_refl _)⟩⟩⟩
  obtain ⟨v9, e9, n9, k9⟩ := cut_run hna
  have w0 : IntKind.u32.wrap 0 = 0 := rfl
  simp (maxSteps := 2000000) -implicitDefEqProofs [pw, aop, cls, light, lightS, binE, aeq, intBin, goInt, aload, isAggT, aeval, tput, awanted, fin, aresults, aresult, List.replicate, heavy, acallOp, aenter, firstRegion, readNames, Nxt, isAnc, readsOk, cond_true, cond_false, Try.underlying40, en95, e9, w0, cv37_101]
  exact ⟨_, _, ⟨rfl, rfl⟩, ⟨_, rfl⟩, k0.also kp fun m' hm x => by omega⟩
theorem lm_one : lm 1 = [1] := by
  have h0 : (1 : Nat) / 4294967296 = 0 := rfl
  have h1 : (1 : Nat) % 4294967296 = 1 := rfl
  rw [lm_pos (by omega), h0, h1, lm_zero]
theorem lm_len_pos {n : Nat} (h : 0 < n) : 0 < (lm n).length := (lm_last h).1
set_option maxRecDepth 20000 in
/-- What is left of A by B. -/
theorem quorem_run {h : Heap} {v w : Value} {A B : Nat} (ha : Nc h v (lm A)) (hb : Nc h w (lm B)) (hc : A < B ∨ B = 1) :
    ∃ v1 v2 h', run Try.prog sO 94 [v, w] h = some (.tuple #[v1, v2], h') ∧ Nc h' v2 (lm (if A < B then A else 0)) ∧ Keep No h h' := by
  obtain ⟨v1, e1, n1, b1⟩ := cut_run ha
  obtain ⟨v2, e2, n2, b2⟩ := cut_run hb
  have e3 := ncmp_run n1 n2
  rw [nv_lm] at n1 n2 b1 b2
  rw [nv_lm, nv_lm, nv_lm, nv_lm] at e3
  obtain ⟨xa0, xc0, rfl⟩ := sl_form ha.1.1
  obtain ⟨ya0, yc0, rfl⟩ := sl_form hb.1.1
  obtain ⟨xa, xc, rfl⟩ := sl_form n1.1.1
  obtain ⟨ya, yc, rfl⟩ := sl_form n2.1.1
  by_cases hlt : A < B
  · rw [if_pos hlt]
    have hcmp : cmpN A B = -1 := by unfold cmpN; rw [if_pos hlt]
    rw [hcmp] at e3
    obtain ⟨v4, h4, e4, n4, b4⟩ := ntrim_run n1
    rw [nv_lm] at n4 b4
    refine ⟨.slice none 0 0, v4, h4, run_finP pt94 Try.func94 rfl planned94 ?_, n4.nc (by have := ha.1.2.2; omega), n4.2.1⟩
    simp (maxSteps := 2000000) -implicitDefEqProofs [Try.f94, pw, aop, cls, light, lightS, binE, aeq, intBin, goInt, aload, isAggT, aeval, tput, awanted, fin, aresults, aresult, List.replicate, heavy, acallOp, aenter, firstRegion, readNames, Nxt, isAnc, readsOk, cond_true, cond_false, Try.underlying40, en95, en99, en74, e1, e2, e3, e4, undef]
  · rw [if_neg hlt]
    obtain rfl : B = 1 := by omega
    have hcmp : cmpN A 1 = if 1 < A then 1 else 0 := by unfold cmpN; rw [if_neg hlt]
    have hc0 : ¬ cmpN A 1 < 0 := by rw [hcmp]; split <;> omega
    obtain ⟨v5, h5, e5, k5⟩ := word_run n1
    have s2 := n2.1.1
    have ll : (lm 1).length = 1 := by rw [lm_one]; rfl
    rw [ll] at s2
    obtain ⟨ya', yc', C2, ce2, cs2, gr2, ro2, eb, hg2, hc2⟩ := sl_u3 s2 (i := 0) (by omega)
    rw [ll] at e2 e3 ⊢
    simp only [Value.slice.injEq, true_and] at eb
    obtain ⟨rfl, rfl⟩ := eb
    have l0 : (lm 1).getD 0 0 = 1 := by rw [lm_one]; rfl
    rw [l0, Nat.add_zero] at hc2
    have k0 := Keep.new No h5 (.cells [.int .u32 0] 101 1 false false)
    obtain ⟨hA, hhA⟩ : ∃ x, x = h5.new (.cells [.int .u32 0] 101 1 false false) := ⟨_, rfl⟩
    rw [← hhA] at k0
    have hgA : hA.get h5.next = some (.cells [.int .u32 0] 101 1 false false) := by rw [hhA, Heap.get_new, if_pos rfl]
    have hna : Nc hA (.slice (some ⟨h5.next, 0, none⟩) 1 1) [0] :=
      ⟨⟨⟨rfl, .inr ⟨_, _, rfl, fun _ => ⟨_, _, _, _, _, hgA, rfl⟩⟩⟩, fun x hx => by rw [List.mem_singleton.1 hx]; omega, by simp⟩, .inr (.inl ⟨_, _, _, _, rfl, Nat.le_refl _⟩)⟩
    obtain ⟨v9, e9, n9, k9⟩ := cut_run hna
    have hz : nv [0] = 0 := rfl
    rw [hz] at n9
    refine ⟨v5, v9, hA, run_finP pt94 Try.func94 rfl planned94 ?_, n9, k5.trans k0⟩
    generalize cmpN A 1 = cm at *
    simp (maxSteps := 2000000) -implicitDefEqProofs [Try.f94, pw, aop, cls, light, lightS, binE, aeq, intBin, goInt, aload, isAggT, aeval, tput, awanted, fin, aresults, aresult, List.replicate, heavy, acallOp, aenter, firstRegion, readNames, Nxt, isAnc, readsOk, cond_true, cond_false, Try.underlying40, en95, en99, en100, e1, e2, e3, hc0, ibeq, aindexAddr, sz101, hg2, hc2, e5, (fun ρ y hy => bs40_1 ρ y (0 : Int) hy), ← hhA, e9, undef]
end Go.Proofs.Ytmnkmdfladbgdaa.Od
