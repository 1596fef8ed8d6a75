/- An oracle that is asked as a chooser. -/
import Derived.Test.YthkefkpmgleolaaOr6
set_option linter.unusedVariables false
set_option linter.unusedSimpArgs false
namespace Go.Proofs.Ythkefkpmgleolaa.Or
open Go Go.Proofs Go.RowKit Go.Proofs.YthkefkpmgleolaaAI

/-- The method that is asked. -/
noncomputable def i30 := (Try.prog.info? 30).get (by kernel_rfl)
theorem in30 : Try.prog.info? 30 = some i30 := by kernel_rfl
noncomputable def m30 := (i30.methods.find? (fun x => x.name == "Pick")).get (by kernel_rfl)
theorem fi30 : i30.methods.find? (fun x => x.name == "Pick") = some m30 := by kernel_rfl
theorem pa30 : m30.path = #[] := by kernel_rfl
theorem fu30 : m30.func = some (15, true) := by kernel_rfl

theorem fresh_ints {h : Heap} {v : Value} {k : Nat} {cs : List Value} (hv : Sl h v 1 k cs) (h1 : cs.all one = true) (hk : k * 8 ≤ 2 ^ 47) :
    ∃ v' h', aappend Try.prog 29 29 (.slice (some ⟨h.next, 0, none⟩) 0 0) v (h.new (.cells [] 3 1 false false)) = some (v', h') ∧ Lg h' v' 3 1 k cs ∧ Keep No h h' ∧ ∀ m, nm v' = some m → h.next ≤ m := by
  obtain ⟨v', h', e, hl, hkp, hn, _, hf⟩ := append_lg (t := 29) (xt := 29) Try.underlying29 Try.underlying29 rfl el3 (Lg.empty (h.new (.cells [] 3 1 false false)) 3 1 h.next 0) (hv.keep (Keep.new No h _) (fun _ _ x => x)) (by omega) (by omega) h1
  refine ⟨v', h', e, by simpa using hl, (Keep.new No h _).also hkp fun m hm x => by have := (nm_eq x).1; omega, fun m hm => ?_⟩
  rcases Nat.lt_or_ge m h.next with h2 | h2
  · have := hn m hm (by rw [Heap.next_new]; omega)
    have := (nm_eq this).1; omega
  · exact h2

theorem chooses {h : Heap} {v : Value} {raw : List Int} (of : Int) (hv : Sl h v 1 raw.length (ints raw)) (hu : Un v 1) (hk : raw.length * 8 ≤ 2 ^ 47) : ∃ h', run Try.prog s0 5 [v, .int .i64 of] h = some (.bool true, h') := by
  obtain ⟨hw, w⟩ := wakes
  obtain ⟨v1, hA, e1, hl1, k1, f1⟩ := fresh_ints hv (ints_one _) hk
  obtain ⟨n, F, hB, e2, ho, k2, f2⟩ := new_orc s0 hl1.sl hk
  obtain ⟨hC, F', e3, ho3, k3, f3⟩ := pick_run s0 of ho (by simp)
  obtain ⟨a, c, rfl⟩ : ∃ a c, v = .slice a raw.length c := by
    rcases sl_cut hv with ⟨rfl, h0⟩ | ⟨a, c, rfl⟩
    · exact ⟨none, 0, by rw [h0]⟩
    · exact ⟨_, _, rfl⟩
  have hvC := ((hv.keep (k1.trans k2) (fun _ _ x => x)).keep k3 (fun m e hF => by have := f2 m hF; have := k1.1; have := hv.lt e; omega))
  obtain ⟨rv, lv, hD, e4, hr, hu', hl, k4, n1, n2⟩ := rpick_run s0 (log := []) of hvC hu (Lg.nil hC 49 2).sl (by simp)
  have o1 := Sl_one hr
  have o2 := Sl_one hl
  have gD : (hD.new (.cells [.slice none 0 0, .slice none 0 0] 34 2 false false)).get hD.next = some (.cells [.slice none 0 0, .slice none 0 0] 34 2 false false) := by rw [Heap.get_new, if_pos rfl]
  refine ⟨_, run_fin Try.func5 rfl (x := (.bool true, (hD.new (.cells [.slice none 0 0, .slice none 0 0] 34 2 false false)).put hD.next (some (.cells [rv, lv] 34 2 false false)))) ?_⟩
  simp [Try.f5, ax_skip, ax_label, ax_region, ax_draw, ax_seq, ax_cond, ax_block, ax_loop, ax_scope, ax_exit, ax_ret, aops, aop, cls, light, lightS, binE, aeq, intBin, goInt, pl_int, pl_bool, pl_ptr, pl_slice, aload, isAggT, aeval, tput, awanted, List.range_succ, fin, aresults, aresult, List.replicate, heavy, acallOp, aenter, ble_d, beq_d, firstRegion, adraw, readNames, Nxt, isAnc, readsOk, objEq_some, ibeq, en11, en14, en16, w, bs29, e1, e2, e3, e4, Try.underlying30, in30, fi30, pa30, fu30, en15, build34, al34, gD, astore, okc_agg, o1, o2, sz34]

theorem chooses_calls (W : World) {a0 : Option Addr} {len0 cap0 : Nat} {l0 : List Int} (w0 : IntsAt W a0 len0 cap0 l0) (y0 : len0 * 8 ≤ 140737488351232) {a1 : Int} (w1 : (Lit.int .i64 a1).wf = true) :
    Calls Try.prog 5 #[.slice a0 len0 cap0, .int .i64 a1] W fun e W' => e = .returned (.bool true) ∧ Below W.heap.size W W' := by
  obtain ⟨h, σ, v, hr, hro, _, _, hv, hs, hu, _⟩ := arg_ints (h := .empty) (σ := fun _ => ⟨0, 0, 0⟩) (Rep.none _ W (Nat.le_refl _) _) allRo_empty 3 w0
  obtain ⟨h', e⟩ := chooses a1 hs hu (by have := w0.1; omega)
  exact law_calls mix hro e rfl hr (.cons hv (.cons (VRep.plain_refl 8 rfl) .nil))
end Go.Proofs.Ythkefkpmgleolaa.Or
