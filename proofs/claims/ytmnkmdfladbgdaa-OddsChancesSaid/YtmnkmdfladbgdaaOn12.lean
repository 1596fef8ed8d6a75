/- Odds: the law OddsChances. -/
import Derived.Test.YtmnkmdfladbgdaaOn11
import Derived.Test.YtmnkmdfladbgdaaOd29
import Derived.Test.YtmnkmdfladbgdaaAI19
set_option linter.unusedVariables false
set_option linter.unusedSimpArgs false
namespace Go.Proofs.Ytmnkmdfladbgdaa.Od
open Go Go.Proofs Go.RowKit Go.Proofs.YtmnkmdfladbgdaaAI Go.Proofs.YtmnkmdfladbgdaaFl

theorem el71 : elTyB Try.prog 71 2 16 = true := by kernel_rfl
theorem bs33 (ρ : Operand → Value) (d ty pos af gu) : aalloc Try.prog ρ ⟨d, .buildSlice 33 0 #[], ty, pos, af, gu⟩ = some (.cells [] 71 2 false false, fun n => .slice (some ⟨n, 0, none⟩) 0 0) := by kernel_rfl
/-- A copy of picks. -/
theorem copy33 {h : Heap} {w : Value} {l : List (Int × Int)} (hl : Sl h w 2 l.length (picks l)) (kl : l.length * 16 ≤ 2 ^ 47) :
    ∃ v' h', aappend Try.prog 33 33 (.slice (some ⟨h.next, 0, none⟩) 0 0) w (h.new (.cells [] 71 2 false false)) = some (v', h') ∧ Sl h' v' 2 l.length (picks l) ∧ Keep No h h' ∧ one v' = true := by
  have k0 := Keep.new No h (.cells [] 71 2 false false)
  obtain ⟨v8, h8, e8, lg8, kp8, nv8, _, nf8⟩ := append_lg (t := 33) (xt := 33) (h := h.new (.cells [] 71 2 false false)) (v := .slice (some ⟨h.next, 0, none⟩) 0 0) (k := 0) (cs := []) Try.underlying33 Try.underlying33 rfl el71 ⟨rfl, .inl ⟨rfl, .inr ⟨_, _, rfl⟩⟩⟩ (hl.keep k0 fun _ _ x => x) (by omega) (by omega) (picks_one _)
  rw [List.nil_append, Nat.zero_add] at lg8
  refine ⟨v8, h8, e8, lg8.sl, k0.trans (kp8.mono fun m _ x => ?_), Sl_one lg8.sl⟩
  have := (nm_eq x).1
  exact absurd this (Nat.lt_irrefl 0)
set_option maxRecDepth 20000 in
set_option maxHeartbeats 3200000 in
theorem chances_law {h : Heap} {v w : Value} {ws : List Nat} {l : List (Int × Int)} (hv : Sl h v 1 ws.length (us ws)) (hw : W64 ws) (hk : ws.length * 8 ≤ 2 ^ 47) (hl : Sl h w 2 l.length (picks l)) (kl : l.length * 16 ≤ 2 ^ 47) : ∃ h', run Try.prog sO 4 [v, w] h = some (.bool true, h') := by
  obtain ⟨hw', w9⟩ := wakesO
  obtain ⟨v1, hA, e1, l1, k1, n1⟩ := floats_run hv hw hk
  obtain ⟨v2, hB, e2, s2, k2, o2⟩ := copy33 (hl.keep k1 fun _ _ x => x) kl
  obtain ⟨hC, e3, k3⟩ := chance_run hw (by omega) (by omega) (l1.sl.keep k2 fun _ _ x => x) s2
  have kC := (k1.trans k2).trans k3
  obtain ⟨hD, e4, k4⟩ := rchance_run hw (by omega) (by omega) (hv.keep kC fun _ _ x => x) (hl.keep kC fun _ _ x => x)
  have kD := kC.trans k4
  obtain ⟨v5, hE, e5, s5, k5, o5⟩ := copy33 (hl.keep kD fun _ _ x => x) kl
  obtain ⟨v6, hF, e6, k6, r6, z6⟩ := exact_run (by omega) s5
  have kF := (kD.trans k5).trans k6
  have hT : (if (smallB l && goodB l) = true then chB ws l l.length else 0) < 18446744073709551616 := by
    split
    · rename_i hg
      have := chB_le hw (okP_of hg) l.length (Nat.le_refl _)
      omega
    · omega
  generalize (if (smallB l && goodB l) = true then chB ws l l.length else 0) = T at *
  generalize (if (smallB l && goodB l) = true then (0 : Int) else 2) = E at *
  suffices hs : ∃ a1 k1 c1 a2 k2 c2, v6 = .agg #[.bool false, .slice a1 k1 c1, .slice a2 k2 c2] by
    obtain ⟨a1, kk1, c1, a2, kk2, c2, rfl⟩ := hs
    have gz : (hF.new (.cells [.bool false, .slice none 0 0, .slice none 0 0] 42 3 false false)).get hF.next = some (.cells [.bool false, .slice none 0 0, .slice none 0 0] 42 3 false false) := by rw [Heap.get_new, if_pos rfl]
    obtain ⟨hG, hGe⟩ : ∃ x, x = (hF.new (.cells [.bool false, .slice none 0 0, .slice none 0 0] 42 3 false false)).put hF.next (some (.cells [.bool false, .slice a1 kk1 c1, .slice a2 kk2 c2] 42 3 false false)) := ⟨_, rfl⟩
    have kG : Keep No hF hG := hGe ▸ (Keep.new No hF _).also (Keep.put (S := fun m => m = hF.next) (Heap.get_lt gz) rfl _) fun m hm e => by omega
    have gG : hG.get hF.next = some (.cells [.bool false, .slice a1 kk1 c1, .slice a2 kk2 c2] 42 3 false false) := by rw [hGe, Heap.get_put (Heap.get_lt gz), if_pos rfl]
    obtain ⟨v7, hH, e7, k7, r7, z7⟩ := rexact_run (by omega) (hl.keep (kF.trans kG) fun _ _ x => x)
    suffices hs : ∃ a3 k3 c3 a4 k4 c4, v7 = .agg #[.bool false, .slice a3 k3 c3, .slice a4 k4 c4] by
      obtain ⟨a3, kk3, c3, a4, kk4, c4, rfl⟩ := hs
      have gz2 : (hH.new (.cells [.bool false, .slice none 0 0, .slice none 0 0] 42 3 false false)).get hH.next = some (.cells [.bool false, .slice none 0 0, .slice none 0 0] 42 3 false false) := by rw [Heap.get_new, if_pos rfl]
      obtain ⟨hI, hIe⟩ : ∃ x, x = (hH.new (.cells [.bool false, .slice none 0 0, .slice none 0 0] 42 3 false false)).put hH.next (some (.cells [.bool false, .slice a3 kk3 c3, .slice a4 kk4 c4] 42 3 false false)) := ⟨_, rfl⟩
      have kI : Keep No hH hI := hIe ▸ (Keep.new No hH _).also (Keep.put (S := fun m => m = hH.next) (Heap.get_lt gz2) rfl _) fun m hm e => by omega
      have gI : hI.get hH.next = some (.cells [.bool false, .slice a3 kk3 c3, .slice a4 kk4 c4] 42 3 false false) := by rw [hIe, Heap.get_put (Heap.get_lt gz2), if_pos rfl]
      have gG2 := (k7.trans kI).get gG fun x => x
      obtain ⟨hJ, e8, _⟩ := same19_run (h := hI) (v := .agg #[.bool false, .slice a1 kk1 c1, .slice a2 kk2 c2]) (w := .agg #[.bool false, .slice a3 kk3 c3, .slice a4 kk4 c4]) (by
        by_cases hX : exE l = 0
        · exact .inl ⟨_, _, ((r6 hX).a.keep ((kG.trans k7).trans kI)), (r7 hX).keep kI⟩
        · exact .inr ⟨z6 hX, z7 hX⟩)
      obtain ⟨va, vc, rfl⟩ := sl_form hv
      obtain ⟨wa, wc, rfl⟩ := sl_form hl
      obtain ⟨xa, xc, rfl⟩ := sl_form l1.sl
      obtain ⟨ya, yc, rfl⟩ := sl_form s2
      obtain ⟨za, zc, rfl⟩ := sl_form s5
      have hf := fun t x hx => fb18 t x T hx hT
      generalize exE l = X at *
      refine ⟨hJ, run_finP pt4 Try.func4 rfl planned4 ?_⟩
      clear r6 z6 r7 z7
      simp (maxSteps := 2000000) -implicitDefEqProofs [Try.f4, pw, aop, cls, light, lightS, binE, aeq, intBin, goInt, aload, isAggT, aeval, tput, awanted, fin, aresults, aresult, List.replicate, heavy, acallOp, aenter, firstRegion, readNames, Nxt, isAnc, readsOk, cond_true, cond_false, ibeq, w9, en9, en11, bs33, e1, e2, en14, e3, en15, e4, e5, en16, e6, al42, gz, ok42, astore, ← hGe, en17, e7, gz2, ← hIe, en18, hf, gG2, gI, en19, e8, Try.underlying42, sz42, undef]
    by_cases hX : exE l = 0
    · obtain ⟨_, _, _, _, _, _, e, _⟩ := r7 hX; exact ⟨_, _, _, _, _, _, e⟩
    · exact ⟨_, _, _, _, _, _, z7 hX⟩
  by_cases hX : exE l = 0
  · obtain ⟨_, _, _, _, _, _, e, _⟩ := r6 hX; exact ⟨_, _, _, _, _, _, e⟩
  · exact ⟨_, _, _, _, _, _, z6 hX⟩
theorem chances_calls (W : World) {a0 : Option Addr} {len0 cap0 : Nat} {l0 : List Nat} (w0 : U64sAt W a0 len0 cap0 l0) (y0 : len0 * 8 ≤ 140737488351232) {a1 : Option Addr} {len1 cap1 : Nat} {l1 : List (Int × Int)} (w1 : PairsAt W a1 len1 cap1 l1) (y1 : len1 * 16 ≤ 140737488351232) :
    Calls Try.prog 4 #[.slice a0 len0 cap0, .slice a1 len1 cap1] W fun e W' => e = .returned (.bool true) ∧ Below W.heap.size W W' := by
  obtain ⟨h, σ, v, hr, hro, _, _, hv, hs, hu, _⟩ := arg_u64s (h := .empty) (σ := fun _ => ⟨0, 0, 0⟩) (Rep.none _ W (Nat.le_refl _) _) allRo_empty 37 w0
  obtain ⟨h', σ', v', hr', hro', hk, hσ, hv', hs', hu', _⟩ := arg_pairs hr hro 71 w1
  have := u64s_len w0
  have := w1.1
  obtain ⟨h2, e⟩ := chances_law (hs.keep hk (fun _ _ x => x)) w0.1 (by omega) hs' (by omega)
  exact law_calls mix hro' e rfl hr' (.cons (hv.mono (fun n hn => Nat.lt_of_lt_of_le hn hk.1) (fun n hn => hσ n hn)) (.cons hv' .nil))
end Go.Proofs.Ytmnkmdfladbgdaa.Od
