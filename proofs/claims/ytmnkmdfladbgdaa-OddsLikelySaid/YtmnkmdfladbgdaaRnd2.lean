/- Rounding: what the format's 'nearest' answers is the nearest rung. -/
import Derived.Test.YtmnkmdfladbgdaaRnd1
set_option linter.unusedVariables false
namespace Go.Proofs.YtmnkmdfladbgdaaRnd
open Ieee

/-- c is n / G made whole, ties to the even. -/
def Cut (n G c : Nat) : Prop := (c = 0 ∨ (2 * c - 1) * G < 2 * n ∨ ((2 * c - 1) * G = 2 * n ∧ c % 2 = 0)) ∧ (2 * n < (2 * c + 1) * G ∨ (2 * n = (2 * c + 1) * G ∧ c % 2 = 0))
theorem cut_of {n G low rest : Nat} (hn : n = G * low + rest) (hr : rest < G) : Cut n G (low + ((decide (G < 2 * rest)) || (G == 2 * rest && low % 2 == 1)).toNat) := by
  have e1 : (2 * low + 1) * G = 2 * (G * low) + G := by rw [Nat.add_mul, Nat.one_mul, Nat.mul_assoc, Nat.mul_comm low G]
  have e2 : (2 * (low + 1) + 1) * G = 2 * (G * low) + 3 * G := by rw [show 2 * (low + 1) + 1 = 2 * low + 3 by omega, Nat.add_mul, Nat.mul_assoc, Nat.mul_comm low G]
  have e3 : 0 < low → (2 * low - 1) * G + G = 2 * (G * low) := fun h => by
    rw [Nat.sub_mul, Nat.one_mul, Nat.mul_assoc, Nat.mul_comm low G]
    have : G * 1 ≤ G * low := Nat.mul_le_mul_left G h
    omega
  rcases Nat.lt_trichotomy G (2 * rest) with h | h | h
  · have hb : ((decide (G < 2 * rest)) || (G == 2 * rest && low % 2 == 1)) = true := by rw [decide_eq_true h]; rfl
    rw [hb]
    refine ⟨.inr (.inl ?_), .inl ?_⟩
    · show (2 * (low + 1) - 1) * G < 2 * n
      rw [show 2 * (low + 1) - 1 = 2 * low + 1 by omega, e1]; omega
    · show 2 * n < (2 * (low + 1) + 1) * G
      rw [e2]; omega
  · by_cases ho : low % 2 = 1
    · have hb : ((decide (G < 2 * rest)) || (G == 2 * rest && low % 2 == 1)) = true := by simp [h, ho]
      rw [hb]
      refine ⟨.inr (.inr ⟨?_, ?_⟩), .inl ?_⟩
      · show (2 * (low + 1) - 1) * G = 2 * n
        rw [show 2 * (low + 1) - 1 = 2 * low + 1 by omega, e1]; omega
      · show (low + 1) % 2 = 0
        omega
      · show 2 * n < (2 * (low + 1) + 1) * G
        rw [e2]; omega
    · have hb : ((decide (G < 2 * rest)) || (G == 2 * rest && low % 2 == 1)) = false := by simp [h, ho]
      rw [hb]
      refine ⟨?_, .inr ⟨?_, ?_⟩⟩
      · show low = 0 ∨ (2 * low - 1) * G < 2 * n ∨ ((2 * low - 1) * G = 2 * n ∧ low % 2 = 0)
        rcases Nat.eq_zero_or_pos low with h0 | h0
        · exact .inl h0
        · have := e3 h0
          exact .inr (.inl (by omega))
      · show 2 * n = (2 * low + 1) * G
        rw [e1]; omega
      · show low % 2 = 0
        omega
  · have hb : ((decide (G < 2 * rest)) || (G == 2 * rest && low % 2 == 1)) = false := by
      rw [decide_eq_false (by omega), Bool.false_or, show (G == 2 * rest) = false from beq_eq_false_iff_ne.2 (by omega)]; rfl
    rw [hb]
    refine ⟨?_, .inl ?_⟩
    · show low = 0 ∨ (2 * low - 1) * G < 2 * n ∨ ((2 * low - 1) * G = 2 * n ∧ low % 2 = 0)
      rcases Nat.eq_zero_or_pos low with h0 | h0
      · exact .inl h0
      · have := e3 h0
        exact .inr (.inl (by omega))
    · show 2 * n < (2 * low + 1) * G
      rw [e1]; omega
theorem cut_even (neg : Bool) (n drop : Nat) : Cut n (2 ^ drop) (Toward.even.cut neg n drop) := by
  have hlog : n < 2 ^ (n.log2 + 1) := Nat.lt_log2_self
  rcases Nat.le_total drop (n.log2 + 2) with h | h
  · have hg : 1 <<< min drop (n.log2 + 2) = 2 ^ drop := by rw [Nat.min_eq_left h, Nat.one_shiftLeft]
    unfold Toward.cut
    rw [hg]
    exact cut_of (Nat.div_add_mod n (2 ^ drop)).symm (Nat.mod_lt _ (Nat.two_pow_pos drop))
  · have hg : 1 <<< min drop (n.log2 + 2) = 2 ^ (n.log2 + 2) := by rw [Nat.min_eq_right h, Nat.one_shiftLeft]
    have hp : 2 ^ (n.log2 + 2) = 2 * 2 ^ (n.log2 + 1) := by rw [Nat.pow_succ 2 (n.log2 + 1)]; omega
    have hd : 2 ^ (n.log2 + 2) ≤ 2 ^ drop := Nat.pow_le_pow_right (by omega) h
    have hl : n / 2 ^ (n.log2 + 2) = 0 := Nat.div_eq_of_lt (by omega)
    have hr : n % 2 ^ (n.log2 + 2) = n := Nat.mod_eq_of_lt (by omega)
    have hc : Toward.even.cut neg n drop = 0 := by
      unfold Toward.cut
      rw [hg]
      show n / 2 ^ (n.log2 + 2) + ((decide (2 ^ (n.log2 + 2) < 2 * (n % 2 ^ (n.log2 + 2)))) || (2 ^ (n.log2 + 2) == 2 * (n % 2 ^ (n.log2 + 2)) && n / 2 ^ (n.log2 + 2) % 2 == 1)).toNat = 0
      rw [hl, hr]
      have h1 : decide (2 ^ (n.log2 + 2) < 2 * n) = false := decide_eq_false (by omega)
      have h2 : (2 ^ (n.log2 + 2) == 2 * n) = false := beq_eq_false_iff_ne.2 (by omega)
      simp only [h1, h2]; rfl
    rw [hc]
    exact ⟨.inl rfl, .inl (by omega)⟩
/-- The near rung of a number. -/
theorem near_cut {n G t c : Nat} (hG : 0 < G) (h : Cut n G c) (hhi : n < 2 ^ 53 * G) (hlo : t = 0 ∨ 2 ^ 52 * G ≤ n) : Near (2 * n * 2 ^ t) G (min (t * 2 ^ 52 + c) iR) := by
  have hP : 0 < 2 ^ t := Nat.two_pow_pos t
  obtain ⟨h1, h2⟩ := h
  have c1 : c ≤ 2 ^ 53 := by
    rcases Nat.lt_or_ge (2 ^ 53) c with x | x
    · exfalso
      have : (2 ^ 54 + 1) * G ≤ (2 * c - 1) * G := Nat.mul_le_mul_right G (by omega)
      rcases h1 with h1 | h1 | ⟨h1, _⟩ <;> omega
    · exact x
  have c2 : t = 0 ∨ 2 ^ 52 ≤ c := by
    rcases hlo with hlo | hlo
    · exact .inl hlo
    · refine .inr ?_
      rcases Nat.lt_or_ge c (2 ^ 52) with x | x
      · exfalso
        have : (2 * c + 1) * G ≤ (2 ^ 53 - 1) * G := Nat.mul_le_mul_right G (by omega)
        rcases h2 with h2 | ⟨h2, _⟩ <;> omega
      · exact x
  have low : t * 2 ^ 52 + c = 0 ∨ Mr (t * 2 ^ 52 + c - 1) * G < 2 * n * 2 ^ t ∨ (Mr (t * 2 ^ 52 + c - 1) * G = 2 * n * 2 ^ t ∧ (t * 2 ^ 52 + c) % 2 = 0) := by
    rcases Nat.eq_zero_or_pos (t * 2 ^ 52 + c) with h0 | h0
    · exact .inl h0
    · by_cases hc : t = 0 ∨ 2 ^ 52 ≤ c - 1
      · have hc0 : 0 < c := by omega
        have m1 : Mr (t * 2 ^ 52 + c - 1) = (2 * c - 1) * 2 ^ t := by
          unfold Mr
          rw [Nat.sub_add_cancel h0, Nat.add_sub_assoc hc0, Vr_at t (c - 1) (by omega) hc, Vr_at t c c1 c2, ← Nat.add_mul]
          congr 1; omega
        rw [m1, Nat.mul_right_comm]
        rcases h1 with h1 | h1 | ⟨h1, h1'⟩
        · omega
        · exact .inr (.inl (Nat.mul_lt_mul_of_pos_right h1 hP))
        · exact .inr (.inr ⟨by rw [h1], by omega⟩)
      · have hc' : c = 2 ^ 52 := by omega
        have hlo' : 2 ^ 52 * G ≤ n := by omega
        have m1 := Mr_lt_Vr (t * 2 ^ 52 + c - 1)
        rw [Nat.sub_add_cancel h0, Vr_at t c c1 c2, hc'] at m1
        rw [hc']
        refine .inr (.inl ?_)
        have a1 := Nat.mul_lt_mul_of_pos_right m1 hG
        have a2 : 2 * (2 ^ 52 * 2 ^ t) * G = 2 * (2 ^ 52 * G) * 2 ^ t := by rw [← Nat.mul_assoc, Nat.mul_right_comm, Nat.mul_assoc 2 (2 ^ 52) G]
        have a3 : 2 * (2 ^ 52 * G) * 2 ^ t ≤ 2 * n * 2 ^ t := Nat.mul_le_mul_right _ (by omega)
        omega
  have hi : 2 * n * 2 ^ t < Mr (t * 2 ^ 52 + c) * G ∨ (2 * n * 2 ^ t = Mr (t * 2 ^ 52 + c) * G ∧ (t * 2 ^ 52 + c) % 2 = 0) := by
    rcases Nat.lt_or_ge c (2 ^ 53) with x | x
    · have m1 : Mr (t * 2 ^ 52 + c) = (2 * c + 1) * 2 ^ t := by
        unfold Mr
        rw [Nat.add_assoc, Vr_at t c c1 c2, Vr_at t (c + 1) (by omega) (by omega), ← Nat.add_mul]
        congr 1; omega
      rw [m1, Nat.mul_right_comm (2 * c + 1)]
      rcases h2 with h2 | ⟨h2, h2'⟩
      · exact .inl (Nat.mul_lt_mul_of_pos_right h2 hP)
      · exact .inr ⟨by rw [h2], by omega⟩
    · have m1 := Vr_lt_Mr (t * 2 ^ 52 + c)
      rw [Vr_at t c c1 c2] at m1
      refine .inl ?_
      have a1 := Nat.mul_lt_mul_of_pos_right m1 hG
      have a2 : 2 * (c * 2 ^ t) * G = 2 * (c * G) * 2 ^ t := by rw [← Nat.mul_assoc, Nat.mul_right_comm, Nat.mul_assoc 2 c G]
      have a4 : 2 ^ 53 * G ≤ c * G := Nat.mul_le_mul_right G x
      have a3 : 2 * n * 2 ^ t ≤ 2 * (c * G) * 2 ^ t := Nat.mul_le_mul_right _ (by omega)
      omega
  rcases Nat.le_total (t * 2 ^ 52 + c) iR with h | h
  · rw [Nat.min_eq_left h]
    exact ⟨h, low, .inr hi⟩
  · rw [Nat.min_eq_right h]
    refine ⟨Nat.le_refl _, ?_, .inl rfl⟩
    rcases Nat.lt_or_eq_of_le h with h' | h'
    · have hm : Mr (iR - 1) < Mr (t * 2 ^ 52 + c - 1) := Mr_mono (by unfold iR at *; omega)
      have hm2 := Nat.mul_lt_mul_of_pos_right hm hG
      refine .inr (.inl ?_)
      rcases low with l | l | ⟨l, _⟩
      · unfold iR at h'; omega
      · omega
      · omega
    · rw [h']; exact low
theorem Near.ratio {A B A' B' r : Nat} (hB : 0 < B) (hB' : 0 < B') (h : Near A B r) (he : A * B' = A' * B) : Near A' B' r := by
  obtain ⟨h0, h1, h2⟩ := h
  have k1 : ∀ m, m * B < A → m * B' < A' := fun m x => by
    have a1 := Nat.mul_lt_mul_of_pos_right x hB'
    rw [he, Nat.mul_right_comm] at a1
    exact Nat.lt_of_mul_lt_mul_right a1
  have k2 : ∀ m, m * B = A → m * B' = A' := fun m x => by
    have a1 : m * B * B' = A * B' := by rw [x]
    rw [he, Nat.mul_right_comm] at a1
    exact Nat.eq_of_mul_eq_mul_right hB a1
  have k3 : ∀ m, A < m * B → A' < m * B' := fun m x => by
    have a1 := Nat.mul_lt_mul_of_pos_right x hB'
    rw [he, Nat.mul_right_comm m] at a1
    exact Nat.lt_of_mul_lt_mul_right a1
  refine ⟨h0, ?_, ?_⟩
  · rcases h1 with h1 | h1 | ⟨h1, p⟩
    · exact .inl h1
    · exact .inr (.inl (k1 _ h1))
    · exact .inr (.inr ⟨k2 _ h1, p⟩)
  · rcases h2 with h2 | h2 | ⟨h2, p⟩
    · exact .inl h2
    · exact .inr (.inl (k3 _ h2))
    · exact .inr (.inr ⟨(k2 _ h2.symm).symm, p⟩)
end Go.Proofs.YtmnkmdfladbgdaaRnd
