/- Rounding: sums and products of floats from nought on are the nearest floats. -/
import Derived.Test.YtmnkmdfladbgdaaRnd2
set_option linter.unusedVariables false
namespace Go.Proofs.YtmnkmdfladbgdaaRnd
open Ieee

/-- The rung that 'nearest' takes. -/
def rung (mag : Nat) (place : Int) : Nat :=
  if mag = 0 then 0 else
    min ((max (place + (mag.log2 : Nat) - ((52 : Nat) : Int)) (-1074) - (-1074)).toNat * 2 ^ 52 + Toward.even.cut false (mag <<< (place - max (place + (mag.log2 : Nat) - ((52 : Nat) : Int)) (-1074)).toNat) (max (place + (mag.log2 : Nat) - ((52 : Nat) : Int)) (-1074) - place).toNat) iR
theorem d_sw : Ieee.double.signWeight = 2 ^ 63 := by decide
theorem d_bn : Ieee.double.binade = 2 ^ 52 := by decide
theorem d_ir : Ieee.double.infRung = iR := by decide
theorem d_lp : Ieee.double.leastPlace = -1074 := by decide
theorem d_fb : Ieee.double.fractionBits = 52 := by decide
theorem nearest_rung (mag : Nat) (place : Int) : Ieee.double.nearest false mag place = rung mag place := by
  unfold Format.nearest rung Format.word
  rw [d_bn, d_ir, d_lp, d_fb]
  by_cases h : mag = 0
  · rw [if_pos h, if_pos h]; simp only [Bool.false_eq_true, if_false]
  · rw [if_neg h, if_neg h]; simp only [Bool.false_eq_true, if_false]
theorem near_rung {mag : Nat} (hm : 0 < mag) (place : Int) : Near (mag * 2 ^ (place + 1075).toNat) (2 ^ (-(place + 1075)).toNat) (rung mag place) := by
  have hlo : 2 ^ mag.log2 ≤ mag := Nat.log2_self_le (by omega)
  have hhi : mag < 2 ^ (mag.log2 + 1) := Nat.lt_log2_self
  unfold rung
  rw [if_neg (by omega)]
  obtain ⟨last, hlast⟩ : ∃ x, x = max (place + (mag.log2 : Nat) - ((52 : Nat) : Int)) (-1074) := ⟨_, rfl⟩
  rw [← hlast]
  generalize mag.log2 = l at *
  have h1 : -1074 ≤ last := by omega
  have h2 : place + l - 52 ≤ last := by omega
  have h3 : last = -1074 ∨ last = place + l - 52 := by omega
  obtain ⟨t, ht⟩ : ∃ t, t = (last - (-1074)).toNat := ⟨_, rfl⟩
  obtain ⟨c, hc⟩ : ∃ t, t = (place - last).toNat := ⟨_, rfl⟩
  obtain ⟨d, hd⟩ : ∃ t, t = (last - place).toNat := ⟨_, rfl⟩
  obtain ⟨a, ha⟩ : ∃ t, t = (place + 1075).toNat := ⟨_, rfl⟩
  obtain ⟨b, hb⟩ : ∃ t, t = (-(place + 1075)).toNat := ⟨_, rfl⟩
  rw [← ht, ← hc, ← hd, ← ha, ← hb, Nat.shiftLeft_eq]
  have he : a + d = 1 + c + t + b := by omega
  have key := near_cut (n := mag * 2 ^ c) (G := 2 ^ d) (t := t) (Nat.two_pow_pos d) (cut_even false (mag * 2 ^ c) d) ?_ ?_
  · refine Near.ratio (Nat.two_pow_pos d) (Nat.two_pow_pos b) key ?_
    rw [Nat.mul_assoc mag, ← Nat.pow_add, he, Nat.pow_add, Nat.pow_add, Nat.pow_add, Nat.pow_one]
    simp only [Nat.mul_assoc, Nat.mul_comm, Nat.mul_left_comm]
  · have : mag * 2 ^ c < 2 ^ (l + 1) * 2 ^ c := Nat.mul_lt_mul_of_pos_right hhi (Nat.two_pow_pos c)
    rw [← Nat.pow_add] at this
    rw [← Nat.pow_add]
    exact Nat.lt_of_lt_of_le this (Nat.pow_le_pow_right (by omega) (by omega))
  · rcases Nat.eq_zero_or_pos t with h0 | h0
    · exact .inl h0
    · refine .inr ?_
      have : 2 ^ l * 2 ^ c ≤ mag * 2 ^ c := Nat.mul_le_mul_right _ hlo
      rw [← Nat.pow_add] at this
      rw [← Nat.pow_add]
      exact Nat.le_trans (Nat.pow_le_pow_right (by omega) (by omega)) this
theorem near_zero (B : Nat) (hB : 0 < B) : Near 0 B 0 := by
  refine ⟨by unfold iR; omega, .inl rfl, .inr (.inl ?_)⟩
  have : 0 < Mr 0 := by have := Vr_lt_Mr 0; omega
  exact Nat.mul_pos this hB
theorem near_rung' (mag : Nat) (place : Int) : Near (mag * 2 ^ (place + 1075).toNat) (2 ^ (-(place + 1075)).toNat) (rung mag place) := by
  rcases Nat.eq_zero_or_pos mag with h | h
  · subst h
    rw [Nat.zero_mul]
    exact near_zero _ (Nat.two_pow_pos _)
  · exact near_rung h place
/-- What a float from nought on, but infinity, stands for. -/
theorem read_pos {r : Nat} (h : r < iR) : ∃ (m : Nat) (e : Int), Ieee.double.read r = .number false m (e - 1074 : Int) ∧ m * 2 ^ e.toNat = Vr r ∧ 0 ≤ e ∧ (r = 0 → m = 0) ∧ (0 < r → 0 < m) := by
  have h63 : r < 2 ^ 63 := by unfold iR at h; omega
  have hn : (r / 2 ^ 63 % 2 == 1) = false := by
    rw [Nat.div_eq_of_lt h63]; rfl
  unfold Format.read
  rw [d_sw, d_bn, d_ir, d_lp, hn, Nat.mod_eq_of_lt h63]
  unfold Vr
  rcases Nat.lt_or_ge r (2 ^ 52) with x | x
  · refine ⟨r, 0, ?_, ?_, by omega, id, id⟩
    · simp only [if_pos x]; rfl
    · rw [if_pos x]; simp
  · refine ⟨2 ^ 52 + r % 2 ^ 52, ((r / 2 ^ 52 - 1 : Nat) : Int), ?_, ?_, by omega, by omega, by omega⟩
    · simp only [if_neg (Nat.not_lt.2 x), if_pos h]
      congr 1
    · rw [if_neg (Nat.not_lt.2 x), Int.toNat_natCast]
theorem read_inf : Ieee.double.read iR = .infinity false := by decide
/-- The sum. -/
theorem add_near {a b : Nat} (ha : a < iR) (hb : b < iR) : ∃ r, Ieee.double.add a b = some r ∧ Near (2 * (Vr a + Vr b)) 1 r := by
  obtain ⟨m, i, e1, v1, i0, _⟩ := read_pos ha
  obtain ⟨n, j, e2, v2, j0, _⟩ := read_pos hb
  obtain ⟨base, hbase⟩ : ∃ x, x = min (i - 1074) (j - 1074) := ⟨_, rfl⟩
  have ht : signed false m ((i - 1074) - base).toNat + signed false n ((j - 1074) - base).toNat = ((m <<< ((i - 1074) - base).toNat + n <<< ((j - 1074) - base).toNat : Nat) : Int) := by
    simp only [signed]; exact (Int.natCast_add _ _).symm
  refine ⟨rung (m <<< ((i - 1074) - base).toNat + n <<< ((j - 1074) - base).toNat) base, ?_, ?_⟩
  · unfold Format.add
    rw [e1, e2]
    simp only [Datum.sum, ← hbase, ht, Option.map_some, Format.write, Int.natAbs_natCast]
    have hneg : (if ((m <<< ((i - 1074) - base).toNat + n <<< ((j - 1074) - base).toNat : Nat) : Int) = 0 then (false && false) else decide (((m <<< ((i - 1074) - base).toNat + n <<< ((j - 1074) - base).toNat : Nat) : Int) < 0)) = false := by
      split
      · rfl
      · exact decide_eq_false (Int.not_lt.2 (Int.natCast_nonneg _))
    rw [hneg, nearest_rung]
  · refine Near.ratio (Nat.two_pow_pos _) Nat.one_pos (near_rung' _ base) ?_
    have hp : (-(base + 1075)).toNat = 0 := by omega
    rw [hp, Nat.pow_zero, Nat.mul_one, Nat.mul_one, Nat.shiftLeft_eq, Nat.shiftLeft_eq, ← v1, ← v2, Nat.add_mul, Nat.mul_assoc, Nat.mul_assoc, ← Nat.pow_add, ← Nat.pow_add]
    have x1 : ((i - 1074) - base).toNat + (base + 1075).toNat = i.toNat + 1 := by omega
    have x2 : ((j - 1074) - base).toNat + (base + 1075).toNat = j.toNat + 1 := by omega
    rw [x1, x2, Nat.pow_succ, Nat.pow_succ]
    simp only [Nat.mul_add, Nat.mul_comm, Nat.mul_left_comm]
/-- The product. -/
theorem mul_near {a b : Nat} (ha : a < iR) (hb : b < iR) : ∃ r, Ieee.double.mul a b = some r ∧ Near (Vr a * Vr b) (2 ^ 1073) r := by
  obtain ⟨m, i, e1, v1, i0, _⟩ := read_pos ha
  obtain ⟨n, j, e2, v2, j0, _⟩ := read_pos hb
  refine ⟨rung (m * n) ((i - 1074) + (j - 1074)), ?_, ?_⟩
  · unfold Format.mul
    rw [e1, e2]
    simp only [Datum.product, Option.map_some, Format.write]
    rw [← nearest_rung]; rfl
  · suffices hs : ∀ q : Nat, q = 1073 → Near (Vr a * Vr b) (2 ^ q) (rung (m * n) ((i - 1074) + (j - 1074))) from hs 1073 rfl
    intro q hq
    refine Near.ratio (Nat.two_pow_pos _) (Nat.two_pow_pos _) (near_rung' _ _) ?_
    rw [← v1, ← v2]
    have x1 : ((i - 1074) + (j - 1074) + 1075).toNat + q = i.toNat + j.toNat + (-((i - 1074) + (j - 1074) + 1075)).toNat := by omega
    rw [Nat.mul_assoc (m * n), ← Nat.pow_add, x1, Nat.pow_add, Nat.pow_add]
    simp only [Nat.mul_assoc, Nat.mul_left_comm]
/-- A sum is no less than what was added. -/
theorem add_ge {a b r : Nat} (ha : a < iR) (h : Near (2 * (Vr a + Vr b)) 1 r) : a ≤ r :=
  (Near.self (Nat.le_of_lt ha)).mono Nat.one_pos Nat.one_pos h (by omega)
end Go.Proofs.YtmnkmdfladbgdaaRnd
