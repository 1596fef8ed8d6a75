/- Rounding: whole numbers, infinities, sums from nought on, shares. -/
import Derived.Test.YtmnkmdfladbgdaaRnd4
set_option linter.unusedVariables false
namespace Go.Proofs.YtmnkmdfladbgdaaRnd
open Ieee

theorem Near.le_iR {A B r : Nat} (h : Near A B r) : r ≤ iR := h.1
/-- What is a float's number is that float. -/
theorem Near.exact {A B r s : Nat} (hB : 0 < B) (h : Near A B r) (hs : s ≤ iR) (he : A = 2 * Vr s * B) : r = s :=
  h.uniq hB Nat.one_pos (Near.self hs) (by rw [Nat.mul_one]; exact he)
theorem int_float {k : Nat} (h0 : 0 < k) (h : k < 2 ^ 53) : ∃ s, s < iR ∧ Vr s = k * 2 ^ 1074 ∧ 0 < s := by
  have h1 : 2 ^ k.log2 ≤ k := Nat.log2_self_le (by omega)
  have h2 : k < 2 ^ (k.log2 + 1) := Nat.lt_log2_self
  have hl : k.log2 ≤ 52 := by
    rcases Nat.lt_or_ge 52 k.log2 with x | x
    · have : 2 ^ 53 ≤ 2 ^ k.log2 := Nat.pow_le_pow_right (by omega) (by omega)
      omega
    · exact x
  generalize k.log2 = l at *
  have a1 : 2 ^ l * 2 ^ (52 - l) ≤ k * 2 ^ (52 - l) := Nat.mul_le_mul_right _ h1
  have a2 : k * 2 ^ (52 - l) < 2 ^ (l + 1) * 2 ^ (52 - l) := Nat.mul_lt_mul_of_pos_right h2 (Nat.two_pow_pos _)
  rw [← Nat.pow_add] at a1 a2
  rw [show l + (52 - l) = 52 by omega] at a1
  rw [show l + 1 + (52 - l) = 53 by omega] at a2
  refine ⟨(1022 + l) * 2 ^ 52 + k * 2 ^ (52 - l), by unfold iR; omega, ?_, by omega⟩
  rw [Vr_at (1022 + l) _ (by omega) (.inr a1), Nat.mul_assoc, ← Nat.pow_add]
  congr 2; omega
/-- A whole number as a float. -/
def Fi (k : Nat) : Nat := rung k 0
theorem Fi_zero : Fi 0 = 0 := rfl
theorem Fi_spec {k : Nat} (h : k < 2 ^ 53) : Fi k < iR ∧ Vr (Fi k) = k * 2 ^ 1074 ∧ (0 < k → 0 < Fi k) := by
  rcases Nat.eq_zero_or_pos k with h0 | h0
  · subst h0
    have hz : ∀ W : Nat, Vr (Fi 0) = 0 * W := fun W => by rw [Nat.zero_mul, Fi_zero]; unfold Vr; rw [if_pos (by omega)]
    have hz' := hz (2 ^ 1074)
    exact ⟨by rw [Fi_zero]; unfold iR; omega, hz', fun x => by omega⟩
  · obtain ⟨s, hs, hv, hp⟩ := int_float h0 h
    have hn := near_rung' k 0
    have e1 : ((0 : Int) + 1075).toNat = 1075 := by decide
    have e2 : (-((0 : Int) + 1075)).toNat = 0 := by decide
    rw [e1, e2] at hn
    have pw : ∀ q p : Nat, p = q + 1 → k * 2 ^ p = 2 * (k * 2 ^ q) * 2 ^ 0 := fun q p e => by
      subst e
      rw [Nat.pow_zero, Nat.mul_one, Nat.pow_succ]
      simp only [Nat.mul_comm, Nat.mul_left_comm]
    have : Fi k = s := hn.exact (Nat.two_pow_pos 0) (Nat.le_of_lt hs) (by rw [hv]; exact pw 1074 1075 rfl)
    rw [this]
    exact ⟨hs, hv, fun _ => hp⟩
theorem Fi_mono {a b : Nat} (hb : b < 2 ^ 53) (h : a ≤ b) : Fi a ≤ Fi b := by
  rcases Nat.lt_or_ge (Fi b) (Fi a) with x | x
  · have h1 := Vr_mono x
    rw [(Fi_spec hb).2.1, (Fi_spec (Nat.lt_of_le_of_lt h hb)).2.1] at h1
    have := Nat.lt_of_mul_lt_mul_right h1
    omega
  · exact x
/-- Counting by ones. -/
theorem Fi_add {a b : Nat} (h : a + b < 2 ^ 53) : Ieee.double.add (Fi a) (Fi b) = some (Fi (a + b)) := by
  obtain ⟨a1, a2, _⟩ := Fi_spec (k := a) (by omega)
  obtain ⟨b1, b2, _⟩ := Fi_spec (k := b) (by omega)
  obtain ⟨c1, c2, _⟩ := Fi_spec h
  obtain ⟨r, e, hr⟩ := add_near a1 b1
  rw [e, hr.exact Nat.one_pos (Nat.le_of_lt c1) (by rw [a2, b2, c2, ← Nat.add_mul, Nat.mul_one])]
theorem zero_lt_iR : 0 < iR := by unfold iR; omega
theorem add_inf {a : Nat} (ha : a ≤ iR) : Ieee.double.add a iR = some iR ∧ Ieee.double.add iR a = some iR := by
  have hw : Ieee.double.write (.infinity false) = iR := by decide
  rcases Nat.lt_or_eq_of_le ha with h | h
  · obtain ⟨m, i, e1, _⟩ := read_pos h
    constructor
    · unfold Format.add; rw [e1, read_inf]; simp only [Datum.sum, Option.map_some, hw]
    · unfold Format.add; rw [e1, read_inf]; simp only [Datum.sum, Option.map_some, hw]
  · subst h
    constructor <;> (unfold Format.add; rw [read_inf]; simp only [Datum.sum, if_true, Option.map_some, hw])
theorem div_inf {a : Nat} (ha : a < iR) : Ieee.double.div a iR = some 0 := by
  obtain ⟨m, i, e1, _⟩ := read_pos ha
  unfold Format.div
  rw [e1, read_inf]
  simp only [Datum.quotient, Option.map_some, Format.write]
  show some (Ieee.double.nearest false 0 0) = some 0
  rw [nearest_rung]; rfl
/-- Sums from nought on: none is less than what was added. -/
theorem add_up {a b : Nat} (ha : a ≤ iR) (hb : b ≤ iR) : ∃ r, Ieee.double.add a b = some r ∧ r ≤ iR ∧ a ≤ r ∧ b ≤ r := by
  rcases Nat.lt_or_eq_of_le ha with h1 | h1
  · rcases Nat.lt_or_eq_of_le hb with h2 | h2
    · obtain ⟨r, e, hr⟩ := add_near h1 h2
      exact ⟨r, e, hr.1, add_ge h1 hr, add_ge h2 (by rw [Nat.add_comm (Vr b)]; exact hr)⟩
    · subst h2
      exact ⟨iR, (add_inf ha).1, Nat.le_refl _, ha, Nat.le_refl _⟩
  · subst h1
    exact ⟨iR, (add_inf hb).2, Nat.le_refl _, Nat.le_refl _, hb⟩
/-- A share of one that is no less: from nought to one; and shares keep the order. -/
theorem div_share {a b : Nat} (ha : a ≤ b) (hb : b ≤ iR) (ha' : a < iR) (h0 : 0 < b) : ∃ r, Ieee.double.div a b = some r ∧ r ≤ Fi 1 := by
  rcases Nat.lt_or_eq_of_le hb with h2 | h2
  · obtain ⟨r, e, hr⟩ := div_near ha' h2 h0
    obtain ⟨c1, c2, _⟩ := Fi_spec (k := 1) (by omega)
    have hV : Vr a ≤ Vr b := by
      rcases Nat.lt_or_eq_of_le ha with x | x
      · exact Nat.le_of_lt (Vr_mono x)
      · rw [x]; exact Nat.le_refl _
    have hb0 : 0 < Vr b := Nat.lt_of_le_of_lt (Nat.zero_le _) (Vr_mono h0)
    refine ⟨r, e, hr.mono hb0 Nat.one_pos (Near.self (Nat.le_of_lt c1)) ?_⟩
    have hz : ∀ q p : Nat, p = q + 1 → Vr a * 2 ^ p * 1 ≤ 2 * (1 * 2 ^ q) * Vr b := fun q p e => by
      subst e
      rw [Nat.mul_one, Nat.one_mul, ← Nat.pow_succ', Nat.mul_comm (2 ^ (q + 1))]
      exact Nat.mul_le_mul_right _ hV
    rw [c2]
    exact hz 1074 1075 rfl
  · subst h2
    exact ⟨0, div_inf ha', Nat.zero_le _⟩
theorem div_mono {a b c r s : Nat} (hab : a ≤ b) (hb : b < iR) (hc : c ≤ iR) (h0 : 0 < c) (h1 : Ieee.double.div a c = some r) (h2 : Ieee.double.div b c = some s) : r ≤ s := by
  rcases Nat.lt_or_eq_of_le hc with h | h
  · obtain ⟨r', e1, n1⟩ := div_near (Nat.lt_of_le_of_lt hab hb) h h0
    obtain ⟨s', e2, n2⟩ := div_near hb h h0
    rw [e1] at h1
    rw [e2] at h2
    cases h1
    cases h2
    have hc0 : 0 < Vr c := Nat.lt_of_le_of_lt (Nat.zero_le _) (Vr_mono h0)
    have hV : Vr a ≤ Vr b := by
      rcases Nat.lt_or_eq_of_le hab with x | x
      · exact Nat.le_of_lt (Vr_mono x)
      · rw [x]; exact Nat.le_refl _
    exact n1.mono hc0 hc0 n2 (Nat.mul_le_mul_right _ (Nat.mul_le_mul_right _ hV))
  · subst h
    rw [div_inf (Nat.lt_of_le_of_lt hab hb)] at h1
    cases h1
    exact Nat.zero_le _
end Go.Proofs.YtmnkmdfladbgdaaRnd
