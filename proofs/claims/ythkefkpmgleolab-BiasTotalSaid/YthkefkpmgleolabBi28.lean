/- The law BiasTotal, put together. -/
import Derived.Test.YthkefkpmgleolabBi38
import Derived.Test.YthkefkpmgleolabBi39
import Derived.Test.YthkefkpmgleolabBi40
import Derived.Test.YthkefkpmgleolabBi41
set_option linter.unusedVariables false
set_option linter.unusedSimpArgs false
namespace Go.Proofs.Ythkefkpmgleolab.Bi
open Go Go.Proofs Go.RowKit Go.Proofs.YthkefkpmgleolabAI Go.Proofs.YthkefkpmgleolabFl Go.Proofs.YthkefkpmgleolabSrt

theorem total {h : Heap} {v : Value} {ws : List Nat} {x y : Nat} (hx64 : x < 18446744073709551616) (hy64 : y < 18446744073709551616) (hv : Sl h v 1 ws.length (us ws)) (hw : W64 ws) (hk : ws.length * 8 ≤ 2 ^ 47) : ∃ h', run Try.prog sB 6 [U x, U y, v] h = some (.bool true, h') := by
  obtain ⟨t1, t2⟩ := two hx64 hy64
  by_cases c0 : cmpK x y = 0
  · by_cases e0 : y = x
    · cases hn : isN x
      · exact total_0 hx64 hy64 hv hw hk ⟨c0, e0, hn⟩
      · exact total_1 hx64 hy64 hv hw hk ⟨c0, e0, hn⟩
    · obtain ⟨u1, u2⟩ := t1 c0 (fun e => e0 e.symm)
      exact total_2 hx64 hy64 hv hw hk ⟨c0, fun e => e0 e.symm, u1, u2⟩
  · cases hn : isN x
    · cases hm : isN y
      · by_cases hs : sv x < sv y
        · exact total_5 hx64 hy64 hv hw hk ⟨c0, hn, hm, hs, t2 hn hm hs⟩
        · exact total_6 hx64 hy64 hv hw hk ⟨c0, hn, hm, hs⟩
      · exact total_4 hx64 hy64 hv hw hk ⟨c0, hn, hm⟩
    · exact total_3 hx64 hy64 hv hw hk ⟨c0, hn⟩
theorem total_calls (W : World) {a0 : Int} (w0 : (Lit.int .u64 a0).wf = true) {a1 : Int} (w1 : (Lit.int .u64 a1).wf = true) {a2 : Option Addr} {len2 cap2 : Nat} {l2 : List Nat} (w2 : U64sAt W a2 len2 cap2 l2) (y2 : len2 * 8 ≤ 140737488351232) :
    Calls Try.prog 6 #[.int .u64 a0, .int .u64 a1, .slice a2 len2 cap2] W fun e W' => e = .returned (.bool true) ∧ Below W.heap.size W W' := by
  obtain ⟨n, hn, rfl⟩ := u64_of w0
  obtain ⟨k, hm, rfl⟩ := u64_of w1
  obtain ⟨h, σ, v, hr, hro, _, _, hv, hs, hu, _⟩ := arg_u64s (h := .empty) (σ := fun _ => ⟨0, 0, 0⟩) (Rep.none _ W (Nat.le_refl _) _) allRo_empty 32 w2
  have := u64s_len w2
  obtain ⟨h', e⟩ := total hn hm hs w2.1 (by omega)
  exact law_calls mix hro e rfl hr (.cons (VRep.plain_refl 8 rfl) (.cons (VRep.plain_refl 8 rfl) (.cons hv .nil)))
end Go.Proofs.Ythkefkpmgleolab.Bi
