/- Rows of pairs of ints that come in. -/
import Derived.Test.YthhhmmildgijhaaGreatDoorSI15
import Derived.Deep.SlicePairs
set_option linter.unusedVariables false
set_option linter.unusedSimpArgs false
namespace Go.Proofs.YthhhmmildgijhaaGreatDoorSI
open Go Go.RowKit Go.ChangeShapes Go.WideShapes Go.ChangeAt Go.Deep

def pairs (l : List (Int × Int)) : List Value := l.flatMap fun p => [.int .i64 p.1, .int .i64 p.2]
theorem pairs_len (l : List (Int × Int)) : (pairs l).length = l.length * 2 := by
  induction l with
  | nil => rfl
  | cons x l ih => simp only [pairs, List.flatMap_cons, List.length_append, List.length_cons, List.length_nil] at *; omega
theorem pairs_plain (l : List (Int × Int)) : ∀ v ∈ pairs l, plain v = true := by
  intro v hv
  obtain ⟨p, _, hp⟩ := List.mem_flatMap.1 hv
  simp only [List.mem_cons, List.not_mem_nil, or_false] at hp
  rcases hp with rfl | rfl <;> rfl
theorem pairs_get (l : List (Int × Int)) (j : Nat) (v : Value) (hv : (pairs l)[j]? = some v) : ∃ i, ∃ hi : i < l.length, (j = i * 2 ∧ v = .int .i64 l[i].1) ∨ (j = i * 2 + 1 ∧ v = .int .i64 l[i].2) := by
  induction l generalizing j with
  | nil => simp [pairs] at hv
  | cons x l ih =>
    simp only [pairs, List.flatMap_cons, List.cons_append, List.nil_append] at hv
    match j with
    | 0 => simp only [List.getElem?_cons_zero, Option.some.injEq] at hv; exact ⟨0, by simp, .inl ⟨rfl, hv.symm⟩⟩
    | 1 => simp only [List.getElem?_cons_succ, List.getElem?_cons_zero, Option.some.injEq] at hv; exact ⟨0, by simp, .inr ⟨rfl, hv.symm⟩⟩
    | j + 2 =>
      simp only [List.getElem?_cons_succ] at hv
      obtain ⟨i, hi, h⟩ := ih j hv
      exact ⟨i + 1, by simpa using hi, by
        rcases h with ⟨rfl, rfl⟩ | ⟨rfl, rfl⟩
        · exact .inl ⟨by omega, by simp⟩
        · exact .inr ⟨by omega, by simp⟩⟩

/-- What a row of pairs holds. -/
def PairsAt (W : World) (a : Option Addr) (len cap : Nat) (l : List (Int × Int)) : Prop :=
  l.length = len ∧ ((a = none ∧ len = 0 ∧ cap = 0) ∨ ∃ x, a = some x ∧ len ≤ cap ∧ (0 < cap → x.spot = none) ∧ ∀ j v, (pairs l)[j]? = some v → W.cell? (x.add j) = some v)

theorem open_pairs_at {H : Type} {enc : TypeId × Value → H} {P : Program} {W : World} {t e : TypeId} {f0 f1 : Field} {a : Option Addr} {len cap : Nat} {d : DataW H} {ps : List MemPlace} {ts : List TypeId} {ds : List (DataW H)} {j : Nat}
    (hsz : (DataW.weightsEach P ts ds).all (· ≤ reachBytes) = true) (ht : ts[j]? = some t) (hd : ds[j]? = some d) (hu : P.underlying t = some (.slice e)) (he : P.underlying e = some (.struct #[f0, f1])) (ce : P.cellsOf e = 2) (o0 : f0.offset = 0) (o1 : f1.offset = 1)
    (c0 : P.cellsOf f0.type = 1) (c1 : P.cellsOf f1.type = 1) (u0 : P.underlying f0.type = some (.int .i64)) (u1 : P.underlying f1.type = some (.int .i64)) (hB : P.bytesOf e = 16)
    (h : DataW.Trod enc P W 0 (fun _ => true) true t (.slice a len cap) d ps) : ∃ l, PairsAt W a len cap l ∧ len * 16 ≤ 140737488351232 ∧ dlen d = len := by
  obtain ⟨fuel, hf⟩ := h
  rcases open_slice_pairs hu he ce o0 o1 c0 c1 hf with ⟨hcs, hx⟩ | ⟨x, ln, c, m, n, V0, V1, D0, D1, P0, P1, hcs, _, hl, hm, hmm, hx, hall⟩
  · simp [Value.cells] at hcs
    obtain ⟨rfl, rfl, rfl⟩ := hcs
    obtain ⟨rfl, _⟩ := Prod.mk.inj hx
    exact ⟨[], ⟨rfl, .inl ⟨rfl, rfl, rfl⟩⟩, by simp, rfl⟩
  · simp [Value.cells] at hcs
    obtain ⟨rfl, rfl, rfl⟩ := hcs
    obtain ⟨hx, _⟩ := Prod.mk.inj hx
    subst hx
    simp only [if_true] at hmm
    subst hmm
    have key : ∀ i, i < m → ∃ p : Int × Int, W.cell? (x.add (i * 2)) = some (.int .i64 p.1) ∧ W.cell? (x.add (i * 2 + 1)) = some (.int .i64 p.2) := by
      intro i hi
      obtain ⟨h1, h2, h3, h4⟩ := hall i hi
      obtain ⟨z0, e0, _⟩ := DataW.trod_int u0 h3
      obtain ⟨z1, e1, _⟩ := DataW.trod_int u1 h4
      simp only [List.cons.injEq, and_true] at e0 e1
      exact ⟨(z0, z1), by rw [h1, e0], by rw [h2, e1]⟩
    have ⟨f, hf⟩ : ∃ f : Nat → Int × Int, ∀ i, i < m → W.cell? (x.add (i * 2)) = some (.int .i64 (f i).1) ∧ W.cell? (x.add (i * 2 + 1)) = some (.int .i64 (f i).2) :=
      ⟨fun i => if hi : i < m then (key i hi).choose else (0, 0), fun i hi => by simp only [hi, dif_pos]; exact (key i hi).choose_spec⟩
    refine ⟨(List.range len).map f, ⟨by simp, .inr ⟨x, rfl, hl, fun h0 => ?_, fun j v hv => ?_⟩⟩, ?_, by simp [dlen]⟩
    · have := (hf 0 h0).1
      unfold World.cell? at this
      split at this
      · split at this
        · cases this
        · rename_i hs
          have : (x.add (0 * 2)).spot = x.spot := by rfl
          rw [this] at hs
          cases hsp : x.spot with
          | none => rfl
          | some _ => rw [hsp] at hs; simp at hs
      · cases this
    · obtain ⟨i, hi, ⟨rfl, rfl⟩ | ⟨rfl, rfl⟩⟩ := pairs_get _ _ _ hv
      · simp only [List.length_map, List.length_range] at hi
        rw [(hf i (by omega)).1]; simp
      · simp only [List.length_map, List.length_range] at hi
        rw [(hf i (by omega)).2]; simp
    · have z := sized_slice hsz ht hd hu
      rw [hB] at z
      simp only [List.length_map, List.length_range] at z
      have : reachBytes = 140737488351232 := by rfl
      have : len * 16 ≤ (len + (m - len)) * 16 := Nat.mul_le_mul_right _ (by omega)
      omega

/-- One argument more: a row of pairs. -/
theorem arg_pairs {h : Heap} {σ : Sig} {W : World} (hr : Rep W.heap.size (· < h.next) σ h.get W) (hro : AllRo h) (e : TypeId) {a : Option Addr} {len cap : Nat} {l : List (Int × Int)} (hi : PairsAt W a len cap l) :
    ∃ h' σ' v, Rep W.heap.size (· < h'.next) σ' h'.get W ∧ AllRo h' ∧ Keep (fun _ => False) h h' ∧ (∀ m, m < h.next → σ' m = σ m) ∧ VRep (· < h'.next) σ' v (.slice a len cap) ∧ Sl h' v 2 l.length (pairs l) ∧ Un v 2 ∧ ∀ m, nm v = some m → h.next ≤ m := by
  obtain ⟨hl, ⟨rfl, rfl, rfl⟩ | ⟨x, rfl, hle, hsp, hcell⟩⟩ := hi
  · have hl0 : l = [] := List.length_eq_zero_iff.1 hl
    subst hl0
    obtain ⟨σ', h1, h2, h3, h4⟩ := arg_nil hr hro e 2
    refine ⟨_, σ', _, h1, h2, ⟨Nat.le_succ _, fun m hm _ => ?_⟩, h3, h4, ⟨rfl, .inl ⟨rfl, rfl⟩⟩, ?_, ?_⟩
    · rw [Heap.get_push, if_neg (Nat.ne_of_lt hm)]
    · intro a k c e; cases e
    · intro m e; cases e
  · subst hl
    have hpl := pairs_len l
    obtain ⟨σ', h1, h2, h3, h4⟩ := arg_slice hr hro e 2 (cs := pairs l) hle hpl (by omega) hcell (fun hne => hsp (by
      have : 0 < l.length := by cases l with | nil => exact absurd rfl hne | cons _ _ => simp
      omega)) (pairs_plain l) hsp
    refine ⟨_, σ', _, h1, h2, ⟨Nat.le_succ _, fun m hm _ => ?_⟩, h3, h4, ⟨hpl, .inr ⟨_, _, rfl, fun h0 => ?_⟩⟩, ?_, ?_⟩
    · rw [Heap.get_push, if_neg (Nat.ne_of_lt hm)]
    · refine ⟨pairs l, e, 2, false, true, ?_, ?_⟩
      · have hne : pairs l ≠ [] := fun e => by rw [e] at hpl; simp at hpl; omega
        rw [Heap.get_push, if_pos rfl]; simp [argObj, hne]
      · rw [List.drop_zero, List.take_of_length_le (by omega)]
    · intro a k c e _; cases e; exact ⟨rfl, rfl⟩
    · intro m e; have := (nm_eq e).2; simp only at this; omega
end Go.Proofs.YthhhmmildgijhaaGreatDoorSI
