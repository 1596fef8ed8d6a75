/- Rows of ints that come in: what they hold, and what they are to the interpreter. -/
import Derived.Test.YtmnkmdfladbgdaaAI14
import Derived.ChangeSlices
import Derived.OpenShut
import Derived.ChangeOld
import Derived.ProofKit
import Derived.SizedLaws
set_option linter.unusedVariables false
set_option linter.unusedSimpArgs false
namespace Go.Proofs.YtmnkmdfladbgdaaAI
open Go Go.RowKit Go.ChangeShapes Go.WideShapes Go.ChangeAt

def ints (l : List Int) : List Value := l.map (Value.int .i64)
theorem ints_one (l : List Int) : (ints l).all one = true := by simp [ints, one]
theorem ints_plain (l : List Int) : ∀ v ∈ ints l, plain v = true := by
  intro v hv
  obtain ⟨n, _, rfl⟩ := List.mem_map.1 hv
  rfl

/-- What a row of ints holds. -/
def IntsAt (W : World) (a : Option Addr) (len cap : Nat) (l : List Int) : Prop :=
  l.length = len ∧ (∀ n ∈ l, (Lit.int .i64 n).wf = true) ∧ ((a = none ∧ len = 0 ∧ cap = 0) ∨ ∃ x, a = some x ∧ len ≤ cap ∧ (0 < cap → x.spot = none) ∧ ∀ j v, (ints l)[j]? = some v → W.cell? (x.add j) = some v)

/-- How many elements a reading has. -/
def dlen {H : Type} : DataW H → Nat
  | .slice e _ => e.length
  | _ => 0

theorem open_ints_at {H : Type} {enc : TypeId × Value → H} {P : Program} {W : World} {t e : TypeId} {a : Option Addr} {len cap : Nat} {d : DataW H} {ps : List MemPlace} {ts : List TypeId} {ds : List (DataW H)} {j : Nat}
    (hsz : (DataW.weightsEach P ts ds).all (· ≤ reachBytes) = true) (ht : ts[j]? = some t) (hd : ds[j]? = some d) (hu : P.underlying t = some (.slice e)) (he : P.underlying e = some (.int .i64)) (hc : P.cellsOf e = 1) (hB : P.bytesOf e = 8)
    (h : DataW.Trod enc P W 0 (fun _ => true) true t (.slice a len cap) d ps) : ∃ l, IntsAt W a len cap l ∧ len * 8 ≤ 140737488351232 ∧ dlen d = len := by
  obtain ⟨fuel, hf⟩ := h
  rcases open_ints hu he hc hf with ⟨hcs, hx⟩ | ⟨x, l, c, zs, hcs, _, hl, hm, hz, hx, hcell, hwf⟩
  · simp [Value.cells] at hcs
    obtain ⟨rfl, rfl, rfl⟩ := hcs
    obtain ⟨rfl, _⟩ := Prod.mk.inj hx
    exact ⟨[], ⟨rfl, by simp, .inl ⟨rfl, rfl, rfl⟩⟩, by simp, rfl⟩
  · simp [Value.cells] at hcs
    obtain ⟨rfl, rfl, rfl⟩ := hcs
    obtain ⟨hx, _⟩ := Prod.mk.inj hx
    subst hx
    simp only [if_true] at hz
    have hll : (zs.take len).length = len := by rw [List.length_take, hz]; omega
    refine ⟨zs.take len, ⟨hll, fun n hn => hwf n (List.mem_of_mem_take hn), .inr ⟨x, rfl, hl, fun h0 => ?_, fun j v hv => ?_⟩⟩, ?_, ?_⟩
    · have := hcell 0 (by omega)
      unfold World.cell? at this
      split at this
      · split at this
        · cases this
        · rename_i hs
          have : (x.add 0).spot = x.spot := by rfl
          rw [this] at hs
          cases hsp : x.spot with
          | none => rfl
          | some _ => rw [hsp] at hs; simp at hs
      · cases this
    · have hj : j < (ints (zs.take len)).length := (List.getElem?_eq_some_iff.1 hv).1
      simp only [ints, List.length_map] at hj
      have hjz : j < zs.length := by rw [List.length_take] at hj; omega
      have := hcell j hjz
      rw [this]
      simp only [ints, List.getElem?_map] at hv
      rw [List.getElem?_take_of_lt (by rw [hll] at hj; exact hj), List.getElem?_eq_getElem hjz] at hv
      simp only [Option.map_some, Option.some.injEq] at hv
      rw [← hv, List.getD_eq_getElem?_getD, List.getElem?_eq_getElem hjz]
      rfl
    · have z := sized_slice hsz ht hd hu
      rw [hB] at z
      have : (lits .i64 (zs.take len) : List (DataW H)).length = len := by unfold lits; rw [List.length_map, hll]
      rw [this] at z
      have : reachBytes = 140737488351232 := by rfl
      have : len * 8 ≤ (len + (lits .i64 (zs.drop len) : List (DataW H)).length) * 8 := Nat.mul_le_mul_right _ (by omega)
      omega
    · show (lits .i64 (zs.take len) : List (DataW H)).length = len
      unfold lits; rw [List.length_map, hll]

/-- One argument more: a row of ints. -/
theorem arg_ints {h : Heap} {σ : Sig} {W : World} (hr : Rep W.heap.size (· < h.next) σ h.get W) (hro : AllRo h) (e : TypeId) {a : Option Addr} {len cap : Nat} {l : List Int} (hi : IntsAt W a len cap l) :
    ∃ h' σ' v, Rep W.heap.size (· < h'.next) σ' h'.get W ∧ AllRo h' ∧ Keep (fun _ => False) h h' ∧ (∀ m, m < h.next → σ' m = σ m) ∧ VRep (· < h'.next) σ' v (.slice a len cap) ∧ Sl h' v 1 l.length (ints l) ∧ Un v 1 ∧ ∀ m, nm v = some m → h.next ≤ m := by
  obtain ⟨hl, _, ⟨rfl, rfl, rfl⟩ | ⟨x, rfl, hle, hsp, hcell⟩⟩ := hi
  · have hl0 : l = [] := List.length_eq_zero_iff.1 hl
    subst hl0
    obtain ⟨σ', h1, h2, h3, h4⟩ := arg_nil hr hro e 1
    refine ⟨_, σ', _, h1, h2, ⟨Nat.le_succ _, fun m hm _ => ?_⟩, h3, h4, ⟨rfl, .inl ⟨rfl, rfl⟩⟩, ?_, ?_⟩
    · rw [Heap.get_push, if_neg (Nat.ne_of_lt hm)]
    · intro a k c e; cases e
    · intro m e; cases e
  · subst hl
    obtain ⟨σ', h1, h2, h3, h4⟩ := arg_slice hr hro e 1 (cs := ints l) hle (by simp [ints]) (by omega) hcell (fun hne => hsp (by
      have : 0 < l.length := by cases l with | nil => exact absurd rfl hne | cons _ _ => simp
      omega)) (ints_plain l) hsp
    refine ⟨_, σ', _, h1, h2, ⟨Nat.le_succ _, fun m hm _ => ?_⟩, h3, h4, ⟨by simp [ints], .inr ⟨_, _, rfl, fun h0 => ?_⟩⟩, ?_, ?_⟩
    · rw [Heap.get_push, if_neg (Nat.ne_of_lt hm)]
    · refine ⟨ints l, e, 1, false, true, ?_, ?_⟩
      · have hne : ints l ≠ [] := by cases l with | nil => simp at h0 | cons _ _ => simp [ints]
        rw [Heap.get_push, if_pos rfl]; simp [argObj, hne]
      · rw [List.drop_zero, List.take_of_length_le (by simp [ints])]
    · intro a k c e _; cases e; exact ⟨rfl, rfl⟩
    · intro m e; have := (nm_eq e).2; simp only at this; omega
end Go.Proofs.YtmnkmdfladbgdaaAI
