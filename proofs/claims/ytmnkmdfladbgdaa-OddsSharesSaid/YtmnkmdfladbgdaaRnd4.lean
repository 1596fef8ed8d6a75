/- Rounding: quotients of floats from nought on are the nearest floats. -/
import Derived.Test.YtmnkmdfladbgdaaRnd2
set_option linter.unusedVariables false
namespace Go.Proofs.YtmnkmdfladbgdaaRnd
open Ieee

/-- The rung that 'nearest' takes. -/
def rung (mag : Nat) (place : Int) : Nat :=
  if mag = 0 then 0 else
    min ((max (place + (mag.log2 : Nat) - ((52 : Nat) : Int)) (-1074) - (-1074)).toNat * 2 ^ 52 + Toward.even.cut false (mag <<< (place - max (place + (mag.log2 : Nat) - ((52 : Nat) : Int)) (-1074)).toNat) (max (place + (mag.log2 : Nat) - ((52 : Nat) : Int)) (-1074) - place).toNat) iR
theorem d_sw : Ieee.double.signWeight = 2 ^ 63 := by decide
theorem d_bn : Ieee.double.binade = 2 ^ 52 := by decide
theorem d_ir : Ieee.double.infRung = iR := by decide
theorem d_lp : Ieee.double.leastPlace = -1074 := by decide
theorem d_fb : Ieee.double.fractionBits = 52 := by decide
theorem nearest_rung (mag : Nat) (place : Int) : Ieee.double.nearest false mag place = rung mag place := by
  unfold Format.nearest rung Format.word
  rw [d_bn, d_ir, d_lp, d_fb]
  by_cases h : mag = 0
  · rw [if_pos h, if_pos h]; simp only [Bool.false_eq_true, if_false]
  · rw [if_neg h, if_neg h]; simp only [Bool.false_eq_true, if_false]
theorem near_rung {mag : Nat} (hm : 0 < mag) (place : Int) : Near (mag * 2 ^ (place + 1075).toNat) (2 ^ (-(place + 1075)).toNat) (rung mag place) := by
  have hlo : 2 ^ mag.log2 ≤ mag := Nat.log2_self_le (by omega)
  have hhi : mag < 2 ^ (mag.log2 + 1) := Nat.lt_log2_self
  unfold rung
  rw [if_neg (by omega)]
  obtain ⟨last, hlast⟩ : ∃ x, x = max (place + (mag.log2 : Nat) - ((52 : Nat) : Int)) (-1074) := ⟨_, rfl⟩
  rw [← hlast]
  generalize mag.log2 = l at *
  have h1 : -1074 ≤ last := by omega
  have h2 : place + l - 52 ≤ last := by omega
  have h3 : last = -1074 ∨ last = place + l - 52 := by omega
  obtain ⟨t, ht⟩ : ∃ t, t = (last - (-1074)).toNat := ⟨_, rfl⟩
  obtain ⟨c, hc⟩ : ∃ t, t = (place - last).toNat := ⟨_, rfl⟩
  obtain ⟨d, hd⟩ : ∃ t, t = (last - place).toNat := ⟨_, rfl⟩
  obtain ⟨a, ha⟩ : ∃ t, t = (place + 1075).toNat := ⟨_, rfl⟩
  obtain ⟨b, hb⟩ : ∃ t, t = (-(place + 1075)).toNat := ⟨_, rfl⟩
  rw [← ht, ← hc, ← hd, ← ha, ← hb, Nat.shiftLeft_eq]
  have he : a + d = 1 + c + t + b := by omega
  have key := near_cut (n := mag * 2 ^ c) (G := 2 ^ d) (t := t) (Nat.two_pow_pos d) (cut_even false (mag * 2 ^ c) d) ?_ ?_
  · refine Near.ratio (Nat.two_pow_pos d) (Nat.two_pow_pos b) key ?_
    rw [Nat.mul_assoc mag, ← Nat.pow_add, he, Nat.pow_add, Nat.pow_add, Nat.pow_add, Nat.pow_one]
    simp only [Nat.mul_assoc, Nat.mul_comm, Nat.mul_left_comm]
  · have : mag * 2 ^ c < 2 ^ (l + 1) * 2 ^ c := Nat.mul_lt_mul_of_pos_right hhi (Nat.two_pow_pos c)
    rw [← Nat.pow_add] at this
    rw [← Nat.pow_add]
    exact Nat.lt_of_lt_of_le this (Nat.pow_le_pow_right (by omega) (by omega))
  · rcases Nat.eq_zero_or_pos t with h0 | h0
    · exact .inl h0
    · refine .inr ?_
      have : 2 ^ l * 2 ^ c ≤ mag * 2 ^ c := Nat.mul_le_mul_right _ hlo
      rw [← Nat.pow_add] at this
      rw [← Nat.pow_add]
      exact Nat.le_trans (Nat.pow_le_pow_right (by omega) (by omega)) this
theorem near_zero (B : Nat) (hB : 0 < B) : Near 0 B 0 := by
  refine ⟨by unfold iR; omega, .inl rfl, .inr (.inl ?_)⟩
  have : 0 < Mr 0 := by have := Vr_lt_Mr 0; omega
  exact Nat.mul_pos this hB
theorem near_rung' (mag : Nat) (place : Int) : Near (mag * 2 ^ (place + 1075).toNat) (2 ^ (-(place + 1075)).toNat) (rung mag place) := by
  rcases Nat.eq_zero_or_pos mag with h | h
  · subst h
    rw [Nat.zero_mul]
    exact near_zero _ (Nat.two_pow_pos _)
  · exact near_rung h place
/-- What a float from nought on, but infinity, stands for. -/
theorem read_pos {r : Nat} (h : r < iR) : ∃ (m : Nat) (e : Int), Ieee.double.read r = .number false m (e - 1074 : Int) ∧ m * 2 ^ e.toNat = Vr r ∧ 0 ≤ e ∧ (r = 0 → m = 0) ∧ (0 < r → 0 < m) := by
  have h63 : r < 2 ^ 63 := by unfold iR at h; omega
  have hn : (r / 2 ^ 63 % 2 == 1) = false := by
    rw [Nat.div_eq_of_lt h63]; rfl
  unfold Format.read
  rw [d_sw, d_bn, d_ir, d_lp, hn, Nat.mod_eq_of_lt h63]
  unfold Vr
  rcases Nat.lt_or_ge r (2 ^ 52) with x | x
  · refine ⟨r, 0, ?_, ?_, by omega, id, id⟩
    · simp only [if_pos x]; rfl
    · rw [if_pos x]; simp
  · refine ⟨2 ^ 52 + r % 2 ^ 52, ((r / 2 ^ 52 - 1 : Nat) : Int), ?_, ?_, by omega, by omega, by omega⟩
    · simp only [if_neg (Nat.not_lt.2 x), if_pos h]
      congr 1
    · rw [if_neg (Nat.not_lt.2 x), Int.toNat_natCast]
theorem read_inf : Ieee.double.read iR = .infinity false := by decide
/-- The sum. -/
theorem add_near {a b : Nat} (ha : a < iR) (hb : b < iR) : ∃ r, Ieee.double.add a b = some r ∧ Near (2 * (Vr a + Vr b)) 1 r := by
  obtain ⟨m, i, e1, v1, i0, _⟩ := read_pos ha
  obtain ⟨n, j, e2, v2, j0, _⟩ := read_pos hb
  obtain ⟨base, hbase⟩ : ∃ x, x = min (i - 1074) (j - 1074) := ⟨_, rfl⟩
  have ht : signed false m ((i - 1074) - base).toNat + signed false n ((j - 1074) - base).toNat = ((m <<< ((i - 1074) - base).toNat + n <<< ((j - 1074) - base).toNat : Nat) : Int) := by
    simp only [signed]; exact (Int.natCast_add _ _).symm
  refine ⟨rung (m <<< ((i - 1074) - base).toNat + n <<< ((j - 1074) - base).toNat) base, ?_, ?_⟩
  · unfold Format.add
    rw [e1, e2]
    simp only [Datum.sum, ← hbase, ht, Option.map_some, Format.write, Int.natAbs_natCast]
    have hneg : (if ((m <<< ((i - 1074) - base).toNat + n <<< ((j - 1074) - base).toNat : Nat) : Int) = 0 then (false && false) else decide (((m <<< ((i - 1074) - base).toNat + n <<< ((j - 1074) - base).toNat : Nat) : Int) < 0)) = false := by
      split
      · rfl
      · exact decide_eq_false (Int.not_lt.2 (Int.natCast_nonneg _))
    rw [hneg, nearest_rung]
  · refine Near.ratio (Nat.two_pow_pos _) Nat.one_pos (near_rung' _ base) ?_
    have hp : (-(base + 1075)).toNat = 0 := by omega
    rw [hp, Nat.pow_zero, Nat.mul_one, Nat.mul_one, Nat.shiftLeft_eq, Nat.shiftLeft_eq, ← v1, ← v2, Nat.add_mul, Nat.mul_assoc, Nat.mul_assoc, ← Nat.pow_add, ← Nat.pow_add]
    have x1 : ((i - 1074) - base).toNat + (base + 1075).toNat = i.toNat + 1 := by omega
    have x2 : ((j - 1074) - base).toNat + (base + 1075).toNat = j.toNat + 1 := by omega
    rw [x1, x2, Nat.pow_succ, Nat.pow_succ]
    simp only [Nat.mul_add, Nat.mul_comm, Nat.mul_left_comm]
/-- The product. -/
theorem mul_near {a b : Nat} (ha : a < iR) (hb : b < iR) : ∃ r, Ieee.double.mul a b = some r ∧ Near (Vr a * Vr b) (2 ^ 1073) r := by
  obtain ⟨m, i, e1, v1, i0, _⟩ := read_pos ha
  obtain ⟨n, j, e2, v2, j0, _⟩ := read_pos hb
  refine ⟨rung (m * n) ((i - 1074) + (j - 1074)), ?_, ?_⟩
  · unfold Format.mul
    rw [e1, e2]
    simp only [Datum.product, Option.map_some, Format.write]
    rw [← nearest_rung]; rfl
  · suffices hs : ∀ q : Nat, q = 1073 → Near (Vr a * Vr b) (2 ^ q) (rung (m * n) ((i - 1074) + (j - 1074))) from hs 1073 rfl
    intro q hq
    refine Near.ratio (Nat.two_pow_pos _) (Nat.two_pow_pos _) (near_rung' _ _) ?_
    rw [← v1, ← v2]
    have x1 : ((i - 1074) + (j - 1074) + 1075).toNat + q = i.toNat + j.toNat + (-((i - 1074) + (j - 1074) + 1075)).toNat := by omega
    rw [Nat.mul_assoc (m * n), ← Nat.pow_add, x1, Nat.pow_add, Nat.pow_add]
    simp only [Nat.mul_assoc, Nat.mul_left_comm]
/-- A sum is no less than what was added. -/
theorem add_ge {a b r : Nat} (ha : a < iR) (h : Near (2 * (Vr a + Vr b)) 1 r) : a ≤ r :=
  (Near.self (Nat.le_of_lt ha)).mono Nat.one_pos Nat.one_pos h (by omega)
end Go.Proofs.YtmnkmdfladbgdaaRnd
set_option linter.unusedVariables false
namespace Go.Proofs.YtmnkmdfladbgdaaRnd
open Ieee

/-- A middle is an odd number's double. -/
theorem Mr_form (r : Nat) : ∃ t c, Mr r = c * 2 ^ t ∧ c < 2 ^ 54 := by
  obtain ⟨t, k, rfl, hk, h⟩ := rung_form r
  refine ⟨t, 2 * k + 1, ?_, by omega⟩
  unfold Mr
  rw [Nat.add_assoc, Vr_at t k (by omega) h, Vr_at t (k + 1) (by omega) (by omega), ← Nat.add_mul]
  congr 1; omega
/-- A quotient that is cut off with its rest told stands to the middles as the whole quotient does: X = Q / n is between q and q + 1; the middles are whole numbers of 2 ^ -s times 2 ^ u. -/
theorem sticky_cmp {Q n M S U : Nat} (hn : 0 < n) (hM : S ∣ M * U ∨ M * U < Q / n * S) (hS : 0 < S) :
    (M * U * n < Q * S ↔ 2 * (M * U) < (2 * (Q / n) + (Q % n != 0).toNat) * S) ∧ (M * U * n = Q * S ↔ 2 * (M * U) = (2 * (Q / n) + (Q % n != 0).toNat) * S) := by
  have hdm := Nat.div_add_mod Q n
  have hlt := Nat.mod_lt Q hn
  generalize Q / n = q at *
  generalize Q % n = r at *
  have hQ : Q * S = n * q * S + r * S := by rw [← hdm, Nat.add_mul]
  have hst : (r != 0).toNat ≤ 1 ∧ (r = 0 → (r != 0).toNat = 0) ∧ (0 < r → (r != 0).toNat = 1) := by
    refine ⟨Bool.toNat_le _, fun h => by rw [h]; rfl, fun h => ?_⟩
    rw [bne_iff_ne.2 (by omega)]; rfl
  obtain ⟨s1, s2, s3⟩ := hst
  generalize (r != 0).toNat = st at *
  have hexp : (2 * q + st) * S = 2 * (q * S) + st * S := by rw [Nat.add_mul, Nat.mul_assoc]
  rw [hexp, hQ]
  have c0 : n * q * S = q * S * n := by rw [Nat.mul_comm n q, Nat.mul_right_comm]
  rw [c0]
  have rS : r * S < n * S := Nat.mul_lt_mul_of_pos_right hlt hS
  have nS : n * S = S * n := Nat.mul_comm _ _
  rcases Nat.lt_trichotomy (M * U) (q * S) with x | x | x
  · have a1 : M * U * n < q * S * n := Nat.mul_lt_mul_of_pos_right x hn
    exact ⟨⟨fun _ => by omega, fun _ => by omega⟩, ⟨fun _ => by omega, fun _ => by omega⟩⟩
  · rw [x]
    rcases Nat.eq_zero_or_pos r with h0 | h0
    · rw [s2 h0, h0]
      simp
    · rw [s3 h0]
      have : 0 < r * S := Nat.mul_pos h0 hS
      exact ⟨⟨fun _ => by omega, fun _ => by omega⟩, ⟨fun _ => by omega, fun _ => by omega⟩⟩
  · have hd : S ∣ M * U := by
      rcases hM with h | h
      · exact h
      · omega
    obtain ⟨w, hw⟩ := hd
    rw [hw] at x ⊢
    have a0 : q * S = S * q := Nat.mul_comm _ _
    have a1 : q < w := by rw [a0] at x; exact Nat.lt_of_mul_lt_mul_left x
    have a2 : S * (q + 1) ≤ S * w := Nat.mul_le_mul_left S a1
    have a3 : S * (q + 1) * n ≤ S * w * n := Nat.mul_le_mul_right n a2
    rw [Nat.mul_add, Nat.mul_one] at a2 a3
    rw [Nat.add_mul] at a3
    rw [a0]
    have sS : st * S ≤ S := by
      have := Nat.mul_le_mul_right S s1
      omega
    exact ⟨⟨fun _ => by omega, fun _ => by omega⟩, ⟨fun _ => by omega, fun _ => by omega⟩⟩
theorem pw_lt {x y a b c d : Nat} (h : a + d = c + b) : (x * 2 ^ a < y * 2 ^ b ↔ x * 2 ^ c < y * 2 ^ d) ∧ (x * 2 ^ a = y * 2 ^ b ↔ x * 2 ^ c = y * 2 ^ d) := by
  have e1 : x * 2 ^ a * 2 ^ d = x * 2 ^ c * 2 ^ b := by rw [Nat.mul_assoc, Nat.mul_assoc, ← Nat.pow_add, ← Nat.pow_add, h]
  have e2 : y * 2 ^ b * 2 ^ d = y * 2 ^ d * 2 ^ b := Nat.mul_right_comm _ _ _
  have pd := Nat.two_pow_pos d
  have pb := Nat.two_pow_pos b
  refine ⟨⟨fun l => ?_, fun l => ?_⟩, ⟨fun l => ?_, fun l => ?_⟩⟩
  · have := Nat.mul_lt_mul_of_pos_right l pd
    rw [e1, e2] at this
    exact Nat.lt_of_mul_lt_mul_right this
  · have := Nat.mul_lt_mul_of_pos_right l pb
    rw [← e1, ← e2] at this
    exact Nat.lt_of_mul_lt_mul_right this
  · have : x * 2 ^ a * 2 ^ d = y * 2 ^ b * 2 ^ d := by rw [l]
    rw [e1, e2] at this
    exact Nat.eq_of_mul_eq_mul_right pb this
  · have : x * 2 ^ c * 2 ^ b = y * 2 ^ d * 2 ^ b := by rw [l]
    rw [← e1, ← e2] at this
    exact Nat.eq_of_mul_eq_mul_right pd this
theorem Near.cmp {A B A' B' r : Nat} (h : Near A B r) (hc : ∀ k, (Mr k * B < A ↔ Mr k * B' < A') ∧ (Mr k * B = A ↔ Mr k * B' = A')) : Near A' B' r := by
  obtain ⟨h0, h1, h2⟩ := h
  refine ⟨h0, ?_, ?_⟩
  · rcases h1 with h1 | h1 | ⟨h1, p⟩
    · exact .inl h1
    · exact .inr (.inl ((hc _).1.1 h1))
    · exact .inr (.inr ⟨(hc _).2.1 h1, p⟩)
  · rcases h2 with h2 | h2 | ⟨h2, p⟩
    · exact .inl h2
    · refine .inr (.inl ?_)
      have a1 : ¬ Mr r * B' < A' := fun x => by have := (hc r).1.2 x; omega
      have a2 : ¬ Mr r * B' = A' := fun x => by have := (hc r).2.2 x; omega
      omega
    · exact .inr (.inr ⟨((hc r).2.1 h2.symm).symm, p⟩)
theorem quo_big {m n : Nat} (hm : 0 < m) (hn : 0 < n) : 2 ^ 53 ≤ m * 2 ^ (54 + n.log2 - m.log2) / n := by
  have h1 : 2 ^ m.log2 ≤ m := Nat.log2_self_le (by omega)
  have h2 : n < 2 ^ (n.log2 + 1) := Nat.lt_log2_self
  rw [Nat.le_div_iff_mul_le hn]
  have a1 : 2 ^ 53 * n ≤ 2 ^ 53 * 2 ^ (n.log2 + 1) := Nat.mul_le_mul_left _ (Nat.le_of_lt h2)
  have a2 : 2 ^ m.log2 * 2 ^ (54 + n.log2 - m.log2) ≤ m * 2 ^ (54 + n.log2 - m.log2) := Nat.mul_le_mul_right _ h1
  rw [← Nat.pow_add] at a1 a2
  exact Nat.le_trans a1 (Nat.le_trans (Nat.pow_le_pow_right (by omega) (by omega)) a2)
theorem near_zero' (B W : Nat) (h : 0 < B) : Near (0 * W) B 0 := by rw [Nat.zero_mul]; exact near_zero _ h
/-- The quotient. -/
theorem div_near {a b : Nat} (ha : a < iR) (hb : b < iR) (h0 : 0 < b) : ∃ r, Ieee.double.div a b = some r ∧ Near (Vr a * 2 ^ 1075) (Vr b) r := by
  obtain ⟨m, i, e1, v1, i0, m0, m1⟩ := read_pos ha
  obtain ⟨n, j, e2, v2, j0, n0, n1⟩ := read_pos hb
  have hn := n1 h0
  have hn0 : ¬ n = 0 := by omega
  refine ⟨rung (2 * (m <<< (54 + n.log2 - m.log2) / n) + (m <<< (54 + n.log2 - m.log2) % n != 0).toNat) ((i - 1074) - (j - 1074) - (54 + n.log2 - m.log2 : Nat) - 1), ?_, ?_⟩
  · unfold Format.div
    rw [e1, e2, d_fb]
    simp only [Datum.quotient, if_neg hn0, Option.map_some, Format.write]
    rw [← nearest_rung]; rfl
  · rcases Nat.eq_zero_or_pos m with hm | hm
    · subst hm
      have hv : Vr a = 0 := by rw [← v1, Nat.zero_mul]
      have hz : rung (2 * (0 <<< (54 + n.log2 - Nat.log2 0) / n) + (0 <<< (54 + n.log2 - Nat.log2 0) % n != 0).toNat) ((i - 1074) - (j - 1074) - (54 + n.log2 - Nat.log2 0 : Nat) - 1) = 0 := by
        rw [Nat.zero_shiftLeft, Nat.zero_div, Nat.zero_mod]; rfl
      rw [hz, hv]
      generalize (2 : Nat) ^ 1075 = W
      exact near_zero' _ W (by rw [← v2]; exact Nat.mul_pos hn (Nat.two_pow_pos _))
    · have hbig := quo_big hm hn
      rw [Nat.shiftLeft_eq]
      obtain ⟨more, hmore⟩ : ∃ x, x = 54 + n.log2 - m.log2 := ⟨_, rfl⟩
      rw [← hmore] at hbig ⊢
      obtain ⟨e, he⟩ : ∃ x, x = (i - 1074) - (j - 1074) - (more : Nat) - 1 + 1075 := ⟨_, rfl⟩
      have key := near_rung' (2 * (m * 2 ^ more / n) + (m * 2 ^ more % n != 0).toNat) ((i - 1074) - (j - 1074) - (more : Nat) - 1)
      rw [← he] at key
      refine key.cmp fun k => ?_
      obtain ⟨t, c, hM, hc⟩ := Mr_form k
      have hcond : 2 ^ (e + 1).toNat ∣ Mr k * 2 ^ (-(e + 1)).toNat ∨ Mr k * 2 ^ (-(e + 1)).toNat < m * 2 ^ more / n * 2 ^ (e + 1).toNat := by
        rcases Int.le_total (e + 1) 0 with hh | hh
        · have : (e + 1).toNat = 0 := by omega
          rw [this]; exact .inl (Nat.one_dvd _)
        · have hu : (-(e + 1)).toNat = 0 := by omega
          rw [hu, Nat.pow_zero, Nat.mul_one, hM]
          rcases Nat.le_total (e + 1).toNat t with ht | ht
          · exact .inl (Nat.dvd_trans (Nat.pow_dvd_pow 2 ht) (Nat.dvd_mul_left _ _))
          · rcases Nat.lt_or_eq_of_le ht with ht | ht
            · refine .inr ?_
              have a1 : c * 2 ^ t < 2 ^ 54 * 2 ^ t := Nat.mul_lt_mul_of_pos_right hc (Nat.two_pow_pos t)
              have a2 : 2 ^ 53 * 2 ^ (e + 1).toNat ≤ m * 2 ^ more / n * 2 ^ (e + 1).toNat := Nat.mul_le_mul_right _ hbig
              rw [← Nat.pow_add] at a1 a2
              exact Nat.lt_of_lt_of_le a1 (Nat.le_trans (Nat.pow_le_pow_right (by omega) (by omega)) a2)
            · rw [ht]; exact .inl (Nat.dvd_mul_left _ _)
      obtain ⟨s1, s2⟩ := sticky_cmp (Q := m * 2 ^ more) hn hcond (Nat.two_pow_pos _)
      have p1 := pw_lt (x := 2 * Mr k) (y := 2 * (m * 2 ^ more / n) + (m * 2 ^ more % n != 0).toNat) (a := (-(e + 1)).toNat) (b := (e + 1).toNat) (c := (-e).toNat) (d := e.toNat + 1) (by omega)
      have p2 := pw_lt (x := Mr k * n) (y := m) (a := (-(e + 1)).toNat) (b := more + (e + 1).toNat) (c := j.toNat) (d := i.toNat + 1075) (by omega)
      rw [← v1, ← v2]
      generalize 2 * (m * 2 ^ more / n) + (m * 2 ^ more % n != 0).toNat = X at *
      have r1 : 2 * (Mr k * 2 ^ (-(e + 1)).toNat) = 2 * Mr k * 2 ^ (-(e + 1)).toNat := (Nat.mul_assoc _ _ _).symm
      have r2 : Mr k * 2 ^ (-(e + 1)).toNat * n = Mr k * n * 2 ^ (-(e + 1)).toNat := Nat.mul_right_comm _ _ _
      have r3 : m * 2 ^ more * 2 ^ (e + 1).toNat = m * 2 ^ (more + (e + 1).toNat) := by rw [Nat.mul_assoc, ← Nat.pow_add]
      have r4 : X * 2 ^ (e.toNat + 1) = 2 * (X * 2 ^ e.toNat) := by rw [Nat.pow_succ]; simp only [Nat.mul_comm, Nat.mul_left_comm]
      have r5 : 2 * Mr k * 2 ^ (-e).toNat = 2 * (Mr k * 2 ^ (-e).toNat) := Nat.mul_assoc _ _ _
      have r6 : Mr k * n * 2 ^ j.toNat = Mr k * (n * 2 ^ j.toNat) := Nat.mul_assoc _ _ _
      have r7 : m * 2 ^ (i.toNat + 1075) = m * 2 ^ i.toNat * 2 ^ 1075 := by rw [Nat.pow_add, Nat.mul_assoc]
      rw [r1, r2, r3] at s1 s2
      rw [r4, r5] at p1
      rw [r6, r7] at p2
      obtain ⟨p1a, p1b⟩ := p1
      obtain ⟨p2a, p2b⟩ := p2
      refine ⟨?_, ?_⟩
      · rw [← p2a, s1, p1a]; omega
      · rw [← p2b, s2, p1b]; omega
end Go.Proofs.YtmnkmdfladbgdaaRnd
