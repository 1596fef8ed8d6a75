/- Rounding: what the format's 'nearest' answers is the nearest rung. -/
import Ieee.Arith
set_option linter.unusedVariables false
namespace Go.Proofs.YtmnkmdfladbgdaaRnd
open Ieee

/-- A rung's number, in units of the least place. -/
def Vr (r : Nat) : Nat := if r < 2 ^ 52 then r else (2 ^ 52 + r % 2 ^ 52) * 2 ^ (r / 2 ^ 52 - 1)
theorem Vr_at (t k : Nat) (hk : k ≤ 2 ^ 53) (h : t = 0 ∨ 2 ^ 52 ≤ k) : Vr (t * 2 ^ 52 + k) = k * 2 ^ t := by
  unfold Vr
  rcases Nat.lt_or_ge k (2 ^ 52) with h1 | h1
  · have ht : t = 0 := by omega
    subst ht
    rw [if_pos (by omega)]; simp
  · rw [if_neg (by omega)]
    rcases Nat.lt_or_ge k (2 ^ 53) with h2 | h2
    · have e1 : (t * 2 ^ 52 + k) / 2 ^ 52 = t + 1 := by omega
      have e2 : (t * 2 ^ 52 + k) % 2 ^ 52 = k - 2 ^ 52 := by omega
      rw [e1, e2, Nat.add_sub_cancel, Nat.add_sub_cancel' h1]
    · have hk' : k = 2 ^ 53 := by omega
      subst hk'
      have e1 : (t * 2 ^ 52 + 2 ^ 53) / 2 ^ 52 = t + 2 := by omega
      have e2 : (t * 2 ^ 52 + 2 ^ 53) % 2 ^ 52 = 0 := by omega
      rw [e1, e2, Nat.add_zero, show t + 2 - 1 = t + 1 by omega, Nat.pow_succ 2 t]
      rw [show (2 : Nat) ^ 53 = 2 ^ 52 * 2 by rfl, Nat.mul_assoc, Nat.mul_comm (2 ^ t) 2]
/-- Each rung is of that form. -/
theorem rung_form (r : Nat) : ∃ t k, r = t * 2 ^ 52 + k ∧ k < 2 ^ 53 ∧ (t = 0 ∨ 2 ^ 52 ≤ k) := by
  rcases Nat.lt_or_ge r (2 ^ 52) with h | h
  · exact ⟨0, r, by omega, by omega, .inl rfl⟩
  · exact ⟨r / 2 ^ 52 - 1, 2 ^ 52 + r % 2 ^ 52, by omega, by omega, .inr (by omega)⟩
theorem Vr_step (r : Nat) : Vr r < Vr (r + 1) := by
  obtain ⟨t, k, rfl, hk, h⟩ := rung_form r
  rw [Vr_at t k (by omega) h, Nat.add_assoc, Vr_at t (k + 1) (by omega) (by omega)]
  exact Nat.mul_lt_mul_of_pos_right (Nat.lt_succ_self k) (Nat.two_pow_pos t)
theorem Vr_mono {r s : Nat} (h : r < s) : Vr r < Vr s := by
  induction h with
  | refl => exact Vr_step r
  | step _ ih => exact Nat.lt_trans ih (Vr_step _)
/-- The middle behind a rung, in halves of a unit. -/
def Mr (r : Nat) : Nat := Vr r + Vr (r + 1)
theorem Mr_mono {r s : Nat} (h : r < s) : Mr r < Mr s := Nat.add_lt_add (Vr_mono h) (Vr_mono (Nat.succ_lt_succ h))
theorem Mr_le {r s : Nat} (h : r ≤ s) : Mr r ≤ Mr s := by
  rcases Nat.lt_or_eq_of_le h with h | h
  · exact Nat.le_of_lt (Mr_mono h)
  · rw [h]; exact Nat.le_refl _
theorem Vr_lt_Mr (r : Nat) : 2 * Vr r < Mr r := by have := Vr_step r; unfold Mr; omega
theorem Mr_lt_Vr (r : Nat) : Mr r < 2 * Vr (r + 1) := by have := Vr_step r; unfold Mr; omega

/-- The rung of infinity. -/
def iR : Nat := 2047 * 2 ^ 52
/-- r is the rung nearest to A / B halves of a unit. -/
def Near (A B r : Nat) : Prop :=
  r ≤ iR ∧ (r = 0 ∨ Mr (r - 1) * B < A ∨ (Mr (r - 1) * B = A ∧ r % 2 = 0)) ∧ (r = iR ∨ A < Mr r * B ∨ (A = Mr r * B ∧ r % 2 = 0))
theorem Near.mono {A B r A' B' s : Nat} (hB : 0 < B) (hB' : 0 < B') (h : Near A B r) (h' : Near A' B' s) (hle : A * B' ≤ A' * B) : r ≤ s := by
  rcases Nat.lt_or_ge s r with hlt | hge
  · exfalso
    obtain ⟨h0, h1, _⟩ := h
    obtain ⟨_, _, h2⟩ := h'
    have hm : Mr s ≤ Mr (r - 1) := Mr_le (by omega)
    have a1 : Mr (r - 1) * B ≤ A := by rcases h1 with h1 | h1 | ⟨h1, _⟩ <;> omega
    have a2 : A' ≤ Mr s * B' := by rcases h2 with h2 | h2 | ⟨h2, _⟩ <;> omega
    have b1 : Mr (r - 1) * B * B' ≤ A * B' := Nat.mul_le_mul_right _ a1
    have b2 : A' * B ≤ Mr s * B' * B := Nat.mul_le_mul_right _ a2
    have b3 : Mr s * B' * B ≤ Mr (r - 1) * B' * B := Nat.mul_le_mul_right _ (Nat.mul_le_mul_right _ hm)
    have b4 : Mr (r - 1) * B' * B = Mr (r - 1) * B * B' := Nat.mul_right_comm _ _ _
    have e1 : Mr (r - 1) * B * B' = A * B' := by omega
    have e2 : A' * B = Mr s * B' * B := by omega
    have e3 : Mr s * B' * B = Mr (r - 1) * B' * B := by omega
    have f1 : Mr (r - 1) * B = A := Nat.eq_of_mul_eq_mul_right hB' e1
    have f2 : A' = Mr s * B' := Nat.eq_of_mul_eq_mul_right hB e2
    have f3 : Mr s = Mr (r - 1) := Nat.eq_of_mul_eq_mul_right hB' (Nat.eq_of_mul_eq_mul_right hB e3)
    have f4 : s = r - 1 := by
      rcases Nat.lt_or_ge s (r - 1) with x | x
      · have := Mr_mono x; omega
      · omega
    have g1 : r % 2 = 0 := by rcases h1 with h1 | h1 | ⟨_, h1⟩ <;> omega
    have g2 : s % 2 = 0 := by rcases h2 with h2 | h2 | ⟨_, h2⟩ <;> omega
    omega
  · exact hge
theorem Near.uniq {A B r A' B' s : Nat} (hB : 0 < B) (hB' : 0 < B') (h : Near A B r) (h' : Near A' B' s) (he : A * B' = A' * B) : r = s :=
  Nat.le_antisymm (h.mono hB hB' h' (by omega)) (h'.mono hB' hB h (by omega))
/-- A float is nearest to itself. -/
theorem Near.self {r : Nat} (h : r ≤ iR) : Near (2 * Vr r) 1 r := by
  refine ⟨h, ?_, .inr (.inl (by rw [Nat.mul_one]; exact Vr_lt_Mr r))⟩
  rcases Nat.eq_zero_or_pos r with h0 | h0
  · exact .inl h0
  · refine .inr (.inl ?_)
    have := Mr_lt_Vr (r - 1)
    rw [Nat.sub_add_cancel h0] at this
    rw [Nat.mul_one]; exact this
end Go.Proofs.YtmnkmdfladbgdaaRnd
set_option linter.unusedVariables false
namespace Go.Proofs.YtmnkmdfladbgdaaRnd
open Ieee

/-- c is n / G made whole, ties to the even. -/
def Cut (n G c : Nat) : Prop := (c = 0 ∨ (2 * c - 1) * G < 2 * n ∨ ((2 * c - 1) * G = 2 * n ∧ c % 2 = 0)) ∧ (2 * n < (2 * c + 1) * G ∨ (2 * n = (2 * c + 1) * G ∧ c % 2 = 0))
theorem cut_of {n G low rest : Nat} (hn : n = G * low + rest) (hr : rest < G) : Cut n G (low + ((decide (G < 2 * rest)) || (G == 2 * rest && low % 2 == 1)).toNat) := by
  have e1 : (2 * low + 1) * G = 2 * (G * low) + G := by rw [Nat.add_mul, Nat.one_mul, Nat.mul_assoc, Nat.mul_comm low G]
  have e2 : (2 * (low + 1) + 1) * G = 2 * (G * low) + 3 * G := by rw [show 2 * (low + 1) + 1 = 2 * low + 3 by omega, Nat.add_mul, Nat.mul_assoc, Nat.mul_comm low G]
  have e3 : 0 < low → (2 * low - 1) * G + G = 2 * (G * low) := fun h => by
    rw [Nat.sub_mul, Nat.one_mul, Nat.mul_assoc, Nat.mul_comm low G]
    have : G * 1 ≤ G * low := Nat.mul_le_mul_left G h
    omega
  rcases Nat.lt_trichotomy G (2 * rest) with h | h | h
  · have hb : ((decide (G < 2 * rest)) || (G == 2 * rest && low % 2 == 1)) = true := by rw [decide_eq_true h]; rfl
    rw [hb]
    refine ⟨.inr (.inl ?_), .inl ?_⟩
    · show (2 * (low + 1) - 1) * G < 2 * n
      rw [show 2 * (low + 1) - 1 = 2 * low + 1 by omega, e1]; omega
    · show 2 * n < (2 * (low + 1) + 1) * G
      rw [e2]; omega
  · by_cases ho : low % 2 = 1
    · have hb : ((decide (G < 2 * rest)) || (G == 2 * rest && low % 2 == 1)) = true := by simp [h, ho]
      rw [hb]
      refine ⟨.inr (.inr ⟨?_, ?_⟩), .inl ?_⟩
      · show (2 * (low + 1) - 1) * G = 2 * n
        rw [show 2 * (low + 1) - 1 = 2 * low + 1 by omega, e1]; omega
      · show (low + 1) % 2 = 0
        omega
      · show 2 * n < (2 * (low + 1) + 1) * G
        rw [e2]; omega
    · have hb : ((decide (G < 2 * rest)) || (G == 2 * rest && low % 2 == 1)) = false := by simp [h, ho]
      rw [hb]
      refine ⟨?_, .inr ⟨?_, ?_⟩⟩
      · show low = 0 ∨ (2 * low - 1) * G < 2 * n ∨ ((2 * low - 1) * G = 2 * n ∧ low % 2 = 0)
        rcases Nat.eq_zero_or_pos low with h0 | h0
        · exact .inl h0
        · have := e3 h0
          exact .inr (.inl (by omega))
      · show 2 * n = (2 * low + 1) * G
        rw [e1]; omega
      · show low % 2 = 0
        omega
  · have hb : ((decide (G < 2 * rest)) || (G == 2 * rest && low % 2 == 1)) = false := by
      rw [decide_eq_false (by omega), Bool.false_or, show (G == 2 * rest) = false from beq_eq_false_iff_ne.2 (by omega)]; rfl
    rw [hb]
    refine ⟨?_, .inl ?_⟩
    · show low = 0 ∨ (2 * low - 1) * G < 2 * n ∨ ((2 * low - 1) * G = 2 * n ∧ low % 2 = 0)
      rcases Nat.eq_zero_or_pos low with h0 | h0
      · exact .inl h0
      · have := e3 h0
        exact .inr (.inl (by omega))
    · show 2 * n < (2 * low + 1) * G
      rw [e1]; omega
theorem cut_even (neg : Bool) (n drop : Nat) : Cut n (2 ^ drop) (Toward.even.cut neg n drop) := by
  have hlog : n < 2 ^ (n.log2 + 1) := Nat.lt_log2_self
  rcases Nat.le_total drop (n.log2 + 2) with h | h
  · have hg : 1 <<< min drop (n.log2 + 2) = 2 ^ drop := by rw [Nat.min_eq_left h, Nat.one_shiftLeft]
    unfold Toward.cut
    rw [hg]
    exact cut_of (Nat.div_add_mod n (2 ^ drop)).symm (Nat.mod_lt _ (Nat.two_pow_pos drop))
  · have hg : 1 <<< min drop (n.log2 + 2) = 2 ^ (n.log2 + 2) := by rw [Nat.min_eq_right h, Nat.one_shiftLeft]
    have hp : 2 ^ (n.log2 + 2) = 2 * 2 ^ (n.log2 + 1) := by rw [Nat.pow_succ 2 (n.log2 + 1)]; omega
    have hd : 2 ^ (n.log2 + 2) ≤ 2 ^ drop := Nat.pow_le_pow_right (by omega) h
    have hl : n / 2 ^ (n.log2 + 2) = 0 := Nat.div_eq_of_lt (by omega)
    have hr : n % 2 ^ (n.log2 + 2) = n := Nat.mod_eq_of_lt (by omega)
    have hc : Toward.even.cut neg n drop = 0 := by
      unfold Toward.cut
      rw [hg]
      show n / 2 ^ (n.log2 + 2) + ((decide (2 ^ (n.log2 + 2) < 2 * (n % 2 ^ (n.log2 + 2)))) || (2 ^ (n.log2 + 2) == 2 * (n % 2 ^ (n.log2 + 2)) && n / 2 ^ (n.log2 + 2) % 2 == 1)).toNat = 0
      rw [hl, hr]
      have h1 : decide (2 ^ (n.log2 + 2) < 2 * n) = false := decide_eq_false (by omega)
      have h2 : (2 ^ (n.log2 + 2) == 2 * n) = false := beq_eq_false_iff_ne.2 (by omega)
      simp only [h1, h2]; rfl
    rw [hc]
    exact ⟨.inl rfl, .inl (by omega)⟩
/-- The near rung of a number. -/
theorem near_cut {n G t c : Nat} (hG : 0 < G) (h : Cut n G c) (hhi : n < 2 ^ 53 * G) (hlo : t = 0 ∨ 2 ^ 52 * G ≤ n) : Near (2 * n * 2 ^ t) G (min (t * 2 ^ 52 + c) iR) := by
  have hP : 0 < 2 ^ t := Nat.two_pow_pos t
  obtain ⟨h1, h2⟩ := h
  have c1 : c ≤ 2 ^ 53 := by
    rcases Nat.lt_or_ge (2 ^ 53) c with x | x
    · exfalso
      have : (2 ^ 54 + 1) * G ≤ (2 * c - 1) * G := Nat.mul_le_mul_right G (by omega)
      rcases h1 with h1 | h1 | ⟨h1, _⟩ <;> omega
    · exact x
  have c2 : t = 0 ∨ 2 ^ 52 ≤ c := by
    rcases hlo with hlo | hlo
    · exact .inl hlo
    · refine .inr ?_
      rcases Nat.lt_or_ge c (2 ^ 52) with x | x
      · exfalso
        have : (2 * c + 1) * G ≤ (2 ^ 53 - 1) * G := Nat.mul_le_mul_right G (by omega)
        rcases h2 with h2 | ⟨h2, _⟩ <;> omega
      · exact x
  have low : t * 2 ^ 52 + c = 0 ∨ Mr (t * 2 ^ 52 + c - 1) * G < 2 * n * 2 ^ t ∨ (Mr (t * 2 ^ 52 + c - 1) * G = 2 * n * 2 ^ t ∧ (t * 2 ^ 52 + c) % 2 = 0) := by
    rcases Nat.eq_zero_or_pos (t * 2 ^ 52 + c) with h0 | h0
    · exact .inl h0
    · by_cases hc : t = 0 ∨ 2 ^ 52 ≤ c - 1
      · have hc0 : 0 < c := by omega
        have m1 : Mr (t * 2 ^ 52 + c - 1) = (2 * c - 1) * 2 ^ t := by
          unfold Mr
          rw [Nat.sub_add_cancel h0, Nat.add_sub_assoc hc0, Vr_at t (c - 1) (by omega) hc, Vr_at t c c1 c2, ← Nat.add_mul]
          congr 1; omega
        rw [m1, Nat.mul_right_comm]
        rcases h1 with h1 | h1 | ⟨h1, h1'⟩
        · omega
        · exact .inr (.inl (Nat.mul_lt_mul_of_pos_right h1 hP))
        · exact .inr (.inr ⟨by rw [h1], by omega⟩)
      · have hc' : c = 2 ^ 52 := by omega
        have hlo' : 2 ^ 52 * G ≤ n := by omega
        have m1 := Mr_lt_Vr (t * 2 ^ 52 + c - 1)
        rw [Nat.sub_add_cancel h0, Vr_at t c c1 c2, hc'] at m1
        rw [hc']
        refine .inr (.inl ?_)
        have a1 := Nat.mul_lt_mul_of_pos_right m1 hG
        have a2 : 2 * (2 ^ 52 * 2 ^ t) * G = 2 * (2 ^ 52 * G) * 2 ^ t := by rw [← Nat.mul_assoc, Nat.mul_right_comm, Nat.mul_assoc 2 (2 ^ 52) G]
        have a3 : 2 * (2 ^ 52 * G) * 2 ^ t ≤ 2 * n * 2 ^ t := Nat.mul_le_mul_right _ (by omega)
        omega
  have hi : 2 * n * 2 ^ t < Mr (t * 2 ^ 52 + c) * G ∨ (2 * n * 2 ^ t = Mr (t * 2 ^ 52 + c) * G ∧ (t * 2 ^ 52 + c) % 2 = 0) := by
    rcases Nat.lt_or_ge c (2 ^ 53) with x | x
    · have m1 : Mr (t * 2 ^ 52 + c) = (2 * c + 1) * 2 ^ t := by
        unfold Mr
        rw [Nat.add_assoc, Vr_at t c c1 c2, Vr_at t (c + 1) (by omega) (by omega), ← Nat.add_mul]
        congr 1; omega
      rw [m1, Nat.mul_right_comm (2 * c + 1)]
      rcases h2 with h2 | ⟨h2, h2'⟩
      · exact .inl (Nat.mul_lt_mul_of_pos_right h2 hP)
      · exact .inr ⟨by rw [h2], by omega⟩
    · have m1 := Vr_lt_Mr (t * 2 ^ 52 + c)
      rw [Vr_at t c c1 c2] at m1
      refine .inl ?_
      have a1 := Nat.mul_lt_mul_of_pos_right m1 hG
      have a2 : 2 * (c * 2 ^ t) * G = 2 * (c * G) * 2 ^ t := by rw [← Nat.mul_assoc, Nat.mul_right_comm, Nat.mul_assoc 2 c G]
      have a4 : 2 ^ 53 * G ≤ c * G := Nat.mul_le_mul_right G x
      have a3 : 2 * n * 2 ^ t ≤ 2 * (c * G) * 2 ^ t := Nat.mul_le_mul_right _ (by omega)
      omega
  rcases Nat.le_total (t * 2 ^ 52 + c) iR with h | h
  · rw [Nat.min_eq_left h]
    exact ⟨h, low, .inr hi⟩
  · rw [Nat.min_eq_right h]
    refine ⟨Nat.le_refl _, ?_, .inl rfl⟩
    rcases Nat.lt_or_eq_of_le h with h' | h'
    · have hm : Mr (iR - 1) < Mr (t * 2 ^ 52 + c - 1) := Mr_mono (by unfold iR at *; omega)
      have hm2 := Nat.mul_lt_mul_of_pos_right hm hG
      refine .inr (.inl ?_)
      rcases low with l | l | ⟨l, _⟩
      · unfold iR at h'; omega
      · omega
      · omega
    · rw [h']; exact low
theorem Near.ratio {A B A' B' r : Nat} (hB : 0 < B) (hB' : 0 < B') (h : Near A B r) (he : A * B' = A' * B) : Near A' B' r := by
  obtain ⟨h0, h1, h2⟩ := h
  have k1 : ∀ m, m * B < A → m * B' < A' := fun m x => by
    have a1 := Nat.mul_lt_mul_of_pos_right x hB'
    rw [he, Nat.mul_right_comm] at a1
    exact Nat.lt_of_mul_lt_mul_right a1
  have k2 : ∀ m, m * B = A → m * B' = A' := fun m x => by
    have a1 : m * B * B' = A * B' := by rw [x]
    rw [he, Nat.mul_right_comm] at a1
    exact Nat.eq_of_mul_eq_mul_right hB a1
  have k3 : ∀ m, A < m * B → A' < m * B' := fun m x => by
    have a1 := Nat.mul_lt_mul_of_pos_right x hB'
    rw [he, Nat.mul_right_comm m] at a1
    exact Nat.lt_of_mul_lt_mul_right a1
  refine ⟨h0, ?_, ?_⟩
  · rcases h1 with h1 | h1 | ⟨h1, p⟩
    · exact .inl h1
    · exact .inr (.inl (k1 _ h1))
    · exact .inr (.inr ⟨k2 _ h1, p⟩)
  · rcases h2 with h2 | h2 | ⟨h2, p⟩
    · exact .inl h2
    · exact .inr (.inl (k3 _ h2))
    · exact .inr (.inr ⟨(k2 _ h2.symm).symm, p⟩)
end Go.Proofs.YtmnkmdfladbgdaaRnd
