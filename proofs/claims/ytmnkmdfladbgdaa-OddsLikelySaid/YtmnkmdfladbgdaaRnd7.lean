/- Rounding: a quotient cut off to 54 digits and more, its rest told, rounds as the whole one does. -/
import Derived.Test.YtmnkmdfladbgdaaRnd6
set_option linter.unusedVariables false
namespace Go.Proofs.YtmnkmdfladbgdaaRnd
open Ieee

theorem sticky_near {Q d : Nat} (hd : 0 < d) (hbig : 2 ^ 53 ≤ Q / d) (pl : Int) : Near (Q * 2 ^ (pl + 1 + 1075).toNat) (d * 2 ^ (-(pl + 1 + 1075)).toNat) (rung (2 * (Q / d) + (Q % d != 0).toNat) pl) := by
  obtain ⟨e, he⟩ : ∃ x, x = pl + 1075 := ⟨_, rfl⟩
  have key := near_rung' (2 * (Q / d) + (Q % d != 0).toNat) pl
  rw [← he] at key
  have hpl : pl + 1 + 1075 = e + 1 := by omega
  rw [hpl]
  refine key.cmp fun k => ?_
  obtain ⟨t, c, hM, hc⟩ := Mr_form k
  have hcond : 2 ^ (e + 1).toNat ∣ Mr k * 2 ^ (-(e + 1)).toNat ∨ Mr k * 2 ^ (-(e + 1)).toNat < Q / d * 2 ^ (e + 1).toNat := by
    rcases Int.le_total (e + 1) 0 with hh | hh
    · have : (e + 1).toNat = 0 := by omega
      rw [this]; exact .inl (Nat.one_dvd _)
    · have hu : (-(e + 1)).toNat = 0 := by omega
      rw [hu, Nat.pow_zero, Nat.mul_one, hM]
      rcases Nat.le_total (e + 1).toNat t with ht | ht
      · exact .inl (Nat.dvd_trans (Nat.pow_dvd_pow 2 ht) (Nat.dvd_mul_left _ _))
      · rcases Nat.lt_or_eq_of_le ht with ht | ht
        · refine .inr ?_
          have a1 : c * 2 ^ t < 2 ^ 54 * 2 ^ t := Nat.mul_lt_mul_of_pos_right hc (Nat.two_pow_pos t)
          have a2 : 2 ^ 53 * 2 ^ (e + 1).toNat ≤ Q / d * 2 ^ (e + 1).toNat := Nat.mul_le_mul_right _ hbig
          rw [← Nat.pow_add] at a1 a2
          exact Nat.lt_of_lt_of_le a1 (Nat.le_trans (Nat.pow_le_pow_right (by omega) (by omega)) a2)
        · rw [ht]; exact .inl (Nat.dvd_mul_left _ _)
  obtain ⟨s1, s2⟩ := sticky_cmp (Q := Q) hd hcond (Nat.two_pow_pos _)
  have p1 := pw_lt (x := 2 * Mr k) (y := 2 * (Q / d) + (Q % d != 0).toNat) (a := (-(e + 1)).toNat) (b := (e + 1).toNat) (c := (-e).toNat) (d := e.toNat + 1) (by omega)
  generalize 2 * (Q / d) + (Q % d != 0).toNat = X at *
  have r1 : 2 * (Mr k * 2 ^ (-(e + 1)).toNat) = 2 * Mr k * 2 ^ (-(e + 1)).toNat := (Nat.mul_assoc _ _ _).symm
  have r2 : Mr k * 2 ^ (-(e + 1)).toNat * d = Mr k * (d * 2 ^ (-(e + 1)).toNat) := by rw [Nat.mul_assoc, Nat.mul_comm d]
  have r4 : X * 2 ^ (e.toNat + 1) = 2 * (X * 2 ^ e.toNat) := by rw [Nat.pow_succ]; simp only [Nat.mul_comm, Nat.mul_left_comm]
  have r5 : 2 * Mr k * 2 ^ (-e).toNat = 2 * (Mr k * 2 ^ (-e).toNat) := Nat.mul_assoc _ _ _
  rw [r1, r2] at s1 s2
  rw [r4, r5] at p1
  obtain ⟨p1a, p1b⟩ := p1
  refine ⟨?_, ?_⟩
  · rw [s1, p1a]; omega
  · rw [s2, p1b]; omega
/-- A number of many digits, cut off with its rest told. -/
theorem rung_cut {n s : Nat} (h : 2 ^ 53 ≤ n / 2 ^ s) (exp : Int) : rung (2 * (n / 2 ^ s) + (n % 2 ^ s != 0).toNat) (exp + s - 1) = rung n exp := by
  have h1 := sticky_near (Nat.two_pow_pos s) h (exp + s - 1)
  have h2 := near_rung' n exp
  refine h1.uniq (Nat.mul_pos (Nat.two_pow_pos s) (Nat.two_pow_pos _)) (Nat.two_pow_pos _) h2 ?_
  have e : (exp + s - 1 + 1 + 1075).toNat + (-(exp + 1075)).toNat = (exp + 1075).toNat + (s + (-(exp + s - 1 + 1 + 1075)).toNat) := by omega
  rw [Nat.mul_assoc, Nat.mul_assoc, ← Nat.pow_add, ← Nat.pow_add, ← Nat.pow_add, e]
/-- A quotient of naturals, cut off twice. -/
theorem div_cut {Q n s : Nat} (hn : 0 < n) : Q / (n * 2 ^ s) = Q / n / 2 ^ s ∧ (Q % (n * 2 ^ s) = 0 ↔ Q % n = 0 ∧ Q / n % 2 ^ s = 0) := by
  refine ⟨(Nat.div_div_eq_div_mul Q n (2 ^ s)).symm, ?_⟩
  rw [Nat.mod_mul]
  constructor
  · intro h
    have h1 : Q % n = 0 := by omega
    have h2 : n * (Q / n % 2 ^ s) = 0 := by omega
    rcases Nat.mul_eq_zero.1 h2 with x | x
    · omega
    · exact ⟨h1, x⟩
  · rintro ⟨h1, h2⟩
    rw [h1, h2, Nat.mul_zero]
end Go.Proofs.YtmnkmdfladbgdaaRnd
