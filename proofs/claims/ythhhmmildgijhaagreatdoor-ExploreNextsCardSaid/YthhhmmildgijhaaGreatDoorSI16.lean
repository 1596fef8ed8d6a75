/- Loops, by an invariant with a measure; closed calls at any table. -/
import Derived.Test.YthhhmmildgijhaaGreatDoorSI15
set_option linter.unusedVariables false
set_option linter.unusedSimpArgs false
namespace Go.Proofs.YthhhmmildgijhaaGreatDoorSI
open Go Go.RowKit

/-- A closed call, settled by the kernel, at the table that is used. -/
theorem run_shut {P : Program} {s : Scr} {f : FuncId} {v : Value} (k : Nat) (h : ((acall P s k f [] .empty).map fun x => x.1) = some v) : ∃ h', run P s f [] .empty = some (v, h') := by
  cases hx : acall P s k f [] .empty with
  | none => rw [hx] at h; cases h
  | some x =>
    rw [hx] at h
    simp only [Option.map_some, Option.some.injEq] at h
    subst h
    exact ⟨x.2, run_iff.2 ⟨k, hx⟩⟩

def goesOn : AEx → Bool
  | .normal => true
  | _ => false

/-- What a round comes to: it goes on at a smaller measure, or ends. -/
def Nxt (I : Nat → Tm → Heap → Prop) (R : AEx → Tm → Heap → Prop) (k : Nat) : AEx × Tm × Heap → Prop
  | (.normal, t, h) => ∃ k', k' < k ∧ I k' t h
  | (.exit i, t, h) => R (.exit i) t h
  | (.ret, t, h) => R .ret t h

/-- A loop: I holds at its head, at the measure k. -/
theorem loop_by {ks : List Nat} {F : Step} (I : Nat → Tm → Heap → Prop) (R : AEx → Tm → Heap → Prop)
    (step : ∀ k t h, I k t h → ∃ x, F (forget ks t) h = some x ∧ Nxt I R k x) :
    ∀ k t h, I k t h → ∃ e t' h', loopω ks F t h = some (e, t', h') ∧ R e t' h' := by
  intro k
  induction k using Nat.strongRecOn with
  | ind k ih =>
    intro t h hI
    obtain ⟨⟨e, t', h'⟩, hF, hN⟩ := step k t h hI
    cases e with
    | normal =>
      obtain ⟨k', hk, hI'⟩ := hN
      obtain ⟨e, t2, h2, hl, hR⟩ := ih k' hk t' h' hI'
      exact ⟨e, t2, h2, loopω_round hF hl, hR⟩
    | exit i => exact ⟨_, t', h', loopω_exit hF, hN⟩
    | ret => exact ⟨_, t', h', loopω_ret hF, hN⟩

theorem objEq_some (c : List Value) (e : TypeId) (n : Nat) (g r : Bool) : objEq (some (.cells c e n g r)) (some (.cells c e n g r)) = true := objEq_self _
theorem sl_index {h : Heap} {v : Value} {k : Nat} {l : List Int} (hs : Sl h v 1 k (ints l)) {i : Nat} (hi : i < k) :
    ∃ a n c e s gr ro, v = .slice (some a) k n ∧ h.get a.block = some (.cells c e s gr ro) ∧ c[a.off + i]? = some (.int .i64 (l.getD i 0)) := by
  have hs0 := hs
  obtain ⟨hl, ⟨rfl, rfl⟩ | ⟨a, n, rfl, _⟩⟩ := hs0
  · omega
  · obtain ⟨c, e, s, gr, ro, hg, _, _, hget⟩ := hs.fit (by omega) (by omega)
    refine ⟨a, n, c, e, s, gr, ro, rfl, hg, ?_⟩
    rw [hget i (by omega)]
    have hi' : i < l.length := by simp only [ints, List.length_map] at hl; omega
    simp [ints, List.getElem?_eq_getElem hi']
end Go.Proofs.YthhhmmildgijhaaGreatDoorSI
namespace Go.Proofs.YthhhmmildgijhaaGreatDoorSI
open Go Go.RowKit
section
variable {P : Program} {ks : Nat → List Nat} {rec : Rec} {lp : List Nat → Step → Step} {t : Tm} {h : Heap}
theorem ax_skip : aexec P ks rec lp .skip t h = some (.normal, t, h) := by rw [aexec]
theorem ax_label (i) : aexec P ks rec lp (.label i) t h = some (.normal, t, h) := by rw [aexec]
theorem ax_region (i ops) : aexec P ks rec lp (.region i ops false) t h = (aops P rec ops (List.range ops.size) t h).map fun x => (.normal, x.1, x.2) := by rw [aexec]; rfl
theorem ax_draw (i ops) : aexec P ks rec lp (.region i ops true) t h = match plan P ops with
    | some ord => (adraw P rec ops (ancs ops) ord [] t h).map fun x => (.normal, x.1, x.2)
    | none => none := by rw [aexec]; rfl
theorem ax_seq (a b) : aexec P ks rec lp (.seq a b) t h = match aexec P ks rec lp a t h with
    | some (.normal, t', h') => aexec P ks rec lp b t' h'
    | r => r := by rw [aexec]; rfl
theorem ax_cond (c x y) : aexec P ks rec lp (.cond c x y) t h = match aeval t c with
    | .bool true => aexec P ks rec lp x t h
    | .bool false => aexec P ks rec lp y t h
    | _ => none := by rw [aexec]; rfl
theorem ax_block (i b) : aexec P ks rec lp (.block i b) t h = match aexec P ks rec lp b t h with
    | some (.exit j, t', h') => bif Nat.beq j i then some (.normal, t', h') else some (.exit j, t', h')
    | r => r := by rw [aexec]; rfl
theorem ax_loop (b) : aexec P ks rec lp (.loop b) t h = lp (ks (firstRegion b)) (aexec P ks rec lp b) t h := by rw [aexec]
theorem ax_scope (b) : aexec P ks rec lp (.scope b) t h = aexec P ks rec lp b t h := by rw [aexec]
theorem ax_exit (i) : aexec P ks rec lp (.exit i) t h = some (.exit i, t, h) := by rw [aexec]
theorem ax_ret : aexec P ks rec lp .ret t h = some (.ret, t, h) := by rw [aexec]
end
end Go.Proofs.YthhhmmildgijhaaGreatDoorSI
