/- Rounding: the nearest float is told by the middles between floats; so rounding keeps the order, and what is a float stays. -/
import Ieee.Arith
set_option linter.unusedVariables false
namespace Go.Proofs.YtmnkmdfladbgdaaRnd
open Ieee

/-- A rung's number, in units of the least place. -/
def Vr (r : Nat) : Nat := if r < 2 ^ 52 then r else (2 ^ 52 + r % 2 ^ 52) * 2 ^ (r / 2 ^ 52 - 1)
theorem Vr_at (t k : Nat) (hk : k ≤ 2 ^ 53) (h : t = 0 ∨ 2 ^ 52 ≤ k) : Vr (t * 2 ^ 52 + k) = k * 2 ^ t := by
  unfold Vr
  rcases Nat.lt_or_ge k (2 ^ 52) with h1 | h1
  · have ht : t = 0 := by omega
    subst ht
    rw [if_pos (by omega)]; simp
  · rw [if_neg (by omega)]
    rcases Nat.lt_or_ge k (2 ^ 53) with h2 | h2
    · have e1 : (t * 2 ^ 52 + k) / 2 ^ 52 = t + 1 := by omega
      have e2 : (t * 2 ^ 52 + k) % 2 ^ 52 = k - 2 ^ 52 := by omega
      rw [e1, e2, Nat.add_sub_cancel, Nat.add_sub_cancel' h1]
    · have hk' : k = 2 ^ 53 := by omega
      subst hk'
      have e1 : (t * 2 ^ 52 + 2 ^ 53) / 2 ^ 52 = t + 2 := by omega
      have e2 : (t * 2 ^ 52 + 2 ^ 53) % 2 ^ 52 = 0 := by omega
      rw [e1, e2, Nat.add_zero, show t + 2 - 1 = t + 1 by omega, Nat.pow_succ 2 t]
      rw [show (2 : Nat) ^ 53 = 2 ^ 52 * 2 by rfl, Nat.mul_assoc, Nat.mul_comm (2 ^ t) 2]
/-- Each rung is of that form. -/
theorem rung_form (r : Nat) : ∃ t k, r = t * 2 ^ 52 + k ∧ k < 2 ^ 53 ∧ (t = 0 ∨ 2 ^ 52 ≤ k) := by
  rcases Nat.lt_or_ge r (2 ^ 52) with h | h
  · exact ⟨0, r, by omega, by omega, .inl rfl⟩
  · exact ⟨r / 2 ^ 52 - 1, 2 ^ 52 + r % 2 ^ 52, by omega, by omega, .inr (by omega)⟩
theorem Vr_step (r : Nat) : Vr r < Vr (r + 1) := by
  obtain ⟨t, k, rfl, hk, h⟩ := rung_form r
  rw [Vr_at t k (by omega) h, Nat.add_assoc, Vr_at t (k + 1) (by omega) (by omega)]
  exact Nat.mul_lt_mul_of_pos_right (Nat.lt_succ_self k) (Nat.two_pow_pos t)
theorem Vr_mono {r s : Nat} (h : r < s) : Vr r < Vr s := by
  induction h with
  | refl => exact Vr_step r
  | step _ ih => exact Nat.lt_trans ih (Vr_step _)
/-- The middle behind a rung, in halves of a unit. -/
def Mr (r : Nat) : Nat := Vr r + Vr (r + 1)
theorem Mr_mono {r s : Nat} (h : r < s) : Mr r < Mr s := Nat.add_lt_add (Vr_mono h) (Vr_mono (Nat.succ_lt_succ h))
theorem Mr_le {r s : Nat} (h : r ≤ s) : Mr r ≤ Mr s := by
  rcases Nat.lt_or_eq_of_le h with h | h
  · exact Nat.le_of_lt (Mr_mono h)
  · rw [h]; exact Nat.le_refl _
theorem Vr_lt_Mr (r : Nat) : 2 * Vr r < Mr r := by have := Vr_step r; unfold Mr; omega
theorem Mr_lt_Vr (r : Nat) : Mr r < 2 * Vr (r + 1) := by have := Vr_step r; unfold Mr; omega

/-- The rung of infinity. -/
def iR : Nat := 2047 * 2 ^ 52
/-- r is the rung nearest to A / B halves of a unit. -/
def Near (A B r : Nat) : Prop :=
  r ≤ iR ∧ (r = 0 ∨ Mr (r - 1) * B < A ∨ (Mr (r - 1) * B = A ∧ r % 2 = 0)) ∧ (r = iR ∨ A < Mr r * B ∨ (A = Mr r * B ∧ r % 2 = 0))
theorem Near.mono {A B r A' B' s : Nat} (hB : 0 < B) (hB' : 0 < B') (h : Near A B r) (h' : Near A' B' s) (hle : A * B' ≤ A' * B) : r ≤ s := by
  rcases Nat.lt_or_ge s r with hlt | hge
  · exfalso
    obtain ⟨h0, h1, _⟩ := h
    obtain ⟨_, _, h2⟩ := h'
    have hm : Mr s ≤ Mr (r - 1) := Mr_le (by omega)
    have a1 : Mr (r - 1) * B ≤ A := by rcases h1 with h1 | h1 | ⟨h1, _⟩ <;> omega
    have a2 : A' ≤ Mr s * B' := by rcases h2 with h2 | h2 | ⟨h2, _⟩ <;> omega
    have b1 : Mr (r - 1) * B * B' ≤ A * B' := Nat.mul_le_mul_right _ a1
    have b2 : A' * B ≤ Mr s * B' * B := Nat.mul_le_mul_right _ a2
    have b3 : Mr s * B' * B ≤ Mr (r - 1) * B' * B := Nat.mul_le_mul_right _ (Nat.mul_le_mul_right _ hm)
    have b4 : Mr (r - 1) * B' * B = Mr (r - 1) * B * B' := Nat.mul_right_comm _ _ _
    have e1 : Mr (r - 1) * B * B' = A * B' := by omega
    have e2 : A' * B = Mr s * B' * B := by omega
    have e3 : Mr s * B' * B = Mr (r - 1) * B' * B := by omega
    have f1 : Mr (r - 1) * B = A := Nat.eq_of_mul_eq_mul_right hB' e1
    have f2 : A' = Mr s * B' := Nat.eq_of_mul_eq_mul_right hB e2
    have f3 : Mr s = Mr (r - 1) := Nat.eq_of_mul_eq_mul_right hB' (Nat.eq_of_mul_eq_mul_right hB e3)
    have f4 : s = r - 1 := by
      rcases Nat.lt_or_ge s (r - 1) with x | x
      · have := Mr_mono x; omega
      · omega
    have g1 : r % 2 = 0 := by rcases h1 with h1 | h1 | ⟨_, h1⟩ <;> omega
    have g2 : s % 2 = 0 := by rcases h2 with h2 | h2 | ⟨_, h2⟩ <;> omega
    omega
  · exact hge
theorem Near.uniq {A B r A' B' s : Nat} (hB : 0 < B) (hB' : 0 < B') (h : Near A B r) (h' : Near A' B' s) (he : A * B' = A' * B) : r = s :=
  Nat.le_antisymm (h.mono hB hB' h' (by omega)) (h'.mono hB' hB h (by omega))
/-- A float is nearest to itself. -/
theorem Near.self {r : Nat} (h : r ≤ iR) : Near (2 * Vr r) 1 r := by
  refine ⟨h, ?_, .inr (.inl (by rw [Nat.mul_one]; exact Vr_lt_Mr r))⟩
  rcases Nat.eq_zero_or_pos r with h0 | h0
  · exact .inl h0
  · refine .inr (.inl ?_)
    have := Mr_lt_Vr (r - 1)
    rw [Nat.sub_add_cancel h0] at this
    rw [Nat.mul_one]; exact this
end Go.Proofs.YtmnkmdfladbgdaaRnd
