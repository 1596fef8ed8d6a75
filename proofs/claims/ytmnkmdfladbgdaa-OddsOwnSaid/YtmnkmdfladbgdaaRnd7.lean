/- Rounding: a quotient cut off to 54 digits and more, its rest told, rounds as the whole one does. -/
import Ieee.Arith
set_option linter.unusedVariables false
namespace Go.Proofs.YtmnkmdfladbgdaaRnd
open Ieee

/-- A rung's number, in units of the least place. -/
def Vr (r : Nat) : Nat := if r < 2 ^ 52 then r else (2 ^ 52 + r % 2 ^ 52) * 2 ^ (r / 2 ^ 52 - 1)
theorem Vr_at (t k : Nat) (hk : k ≤ 2 ^ 53) (h : t = 0 ∨ 2 ^ 52 ≤ k) : Vr (t * 2 ^ 52 + k) = k * 2 ^ t := by
  unfold Vr
  rcases Nat.lt_or_ge k (2 ^ 52) with h1 | h1
  · have ht : t = 0 := by omega
    subst ht
    rw [if_pos (by omega)]; simp
  · rw [if_neg (by omega)]
    rcases Nat.lt_or_ge k (2 ^ 53) with h2 | h2
    · have e1 : (t * 2 ^ 52 + k) / 2 ^ 52 = t + 1 := by omega
      have e2 : (t * 2 ^ 52 + k) % 2 ^ 52 = k - 2 ^ 52 := by omega
      rw [e1,e2,Nat.add_sub_cancel,Nat.add_sub_cancel' h1]
    · have hk' : k = 2 ^ 53 := by omega
      subst hk'
      have e1 : (t * 2 ^ 52 + 2 ^ 53) / 2 ^ 52 = t + 2 := by omega
      have e2 : (t * 2 ^ 52 + 2 ^ 53) % 2 ^ 52 = 0 := by omega
      rw [e1,e2,Nat.add_zero,show t + 2 - 1 = t + 1 by omega,Nat.pow_succ 2 t]
      rw [show (2 : Nat) ^ 53 = 2 ^ 52 * 2 by rfl,Nat.mul_assoc,Nat.mul_comm (2 ^ t) 2]
/-- Each rung is of that form. -/
theorem rung_form (r : Nat) : ∃ t k,r = t * 2 ^ 52 + k ∧ k < 2 ^ 53 ∧ (t = 0 ∨ 2 ^ 52 ≤ k) := by
  rcases Nat.lt_or_ge r (2 ^ 52) with h | h
  · exact ⟨0,r,by omega,by omega,.inl rfl⟩
  · exact ⟨r / 2 ^ 52 - 1,2 ^ 52 + r % 2 ^ 52,by omega,by omega,.inr (by omega)⟩
theorem Vr_step (r : Nat) : Vr r < Vr (r + 1) := by
  obtain ⟨t,k,rfl,hk,h⟩ := rung_form r
  rw [Vr_at t k (by omega) h,Nat.add_assoc,Vr_at t (k + 1) (by omega) (by omega)]
  exact Nat.mul_lt_mul_of_pos_right (Nat.lt_succ_self k) (Nat.two_pow_pos t)
theorem Vr_mono {r s : Nat} (h : r < s) : Vr r < Vr s := by
  induction h with
  | refl => exact Vr_step r
  | step _ ih => exact Nat.lt_trans ih (Vr_step _)
/-- The middle behind a rung, in halves of a unit. -/
def Mr (r : Nat) : Nat := Vr r + Vr (r + 1)
theorem Mr_mono {r s : Nat} (h : r < s) : Mr r < Mr s := Nat.add_lt_add (Vr_mono h) (Vr_mono (Nat.succ_lt_succ h))
theorem Mr_le {r s : Nat} (h : r ≤ s) : Mr r ≤ Mr s := by
  rcases Nat.lt_or_eq_of_le h with h | h
  · exact Nat.le_of_lt (Mr_mono h)
  · rw [h]; exact Nat.le_refl _
theorem Vr_lt_Mr (r : Nat) : 2 * Vr r < Mr r := by have := Vr_step r; unfold Mr; omega
theorem Mr_lt_Vr (r : Nat) : Mr r < 2 * Vr (r + 1) := by have := Vr_step r; unfold Mr; omega

/-- The rung of infinity. -/
def iR : Nat := 2047 * 2 ^ 52
/-- r is the rung nearest to A / B halves of a unit. -/
def Near (A B r : Nat) : Prop :=
  r ≤ iR ∧ (r = 0 ∨ Mr (r - 1) * B < A ∨ (Mr (r - 1) * B = A ∧ r % 2 = 0)) ∧ (r = iR ∨ A < Mr r * B ∨ (A = Mr r * B ∧ r % 2 = 0))
theorem Near.mono {A B r A' B' s : Nat} (hB : 0 < B) (hB' : 0 < B') (h : Near A B r) (h' : Near A' B' s) (hle : A * B' ≤ A' * B) : r ≤ s := by
  rcases Nat.lt_or_ge s r with hlt | hge
  · exfalso
    obtain ⟨h0,h1,_⟩ := h
    obtain ⟨_,_,h2⟩ := h'
    have hm : Mr s ≤ Mr (r - 1) := Mr_le (by omega)
    have a1 : Mr (r - 1) * B ≤ A := by rcases h1 with h1 | h1 | ⟨h1,_⟩ <;> omega
    have a2 : A' ≤ Mr s * B' := by rcases h2 with h2 | h2 | ⟨h2,_⟩ <;> omega
    have b1 : Mr (r - 1) * B * B' ≤ A * B' := Nat.mul_le_mul_right _ a1
    have b2 : A' * B ≤ Mr s * B' * B := Nat.mul_le_mul_right _ a2
    have b3 : Mr s * B' * B ≤ Mr (r - 1) * B' * B := Nat.mul_le_mul_right _ (Nat.mul_le_mul_right _ hm)
    have b4 : Mr (r - 1) * B' * B = Mr (r - 1) * B * B' := Nat.mul_right_comm _ _ _
    have e1 : Mr (r - 1) * B * B' = A * B' := by omega
    have e2 : A' * B = Mr s * B' * B := by omega
    have e3 : Mr s * B' * B = Mr (r - 1) * B' * B := by omega
    have f1 : Mr (r - 1) * B = A := Nat.eq_of_mul_eq_mul_right hB' e1
    have f2 : A' = Mr s * B' := Nat.eq_of_mul_eq_mul_right hB e2
    have f3 : Mr s = Mr (r - 1) := Nat.eq_of_mul_eq_mul_right hB' (Nat.eq_of_mul_eq_mul_right hB e3)
    have f4 : s = r - 1 := by
      rcases Nat.lt_or_ge s (r - 1) with x | x
      · have := Mr_mono x; omega
      · omega
    have g1 : r % 2 = 0 := by rcases h1 with h1 | h1 | ⟨_,h1⟩ <;> omega
    have g2 : s % 2 = 0 := by rcases h2 with h2 | h2 | ⟨_,h2⟩ <;> omega
    omega
  · exact hge
theorem Near.uniq {A B r A' B' s : Nat} (hB : 0 < B) (hB' : 0 < B') (h : Near A B r) (h' : Near A' B' s) (he : A * B' = A' * B) : r = s :=
  Nat.le_antisymm (h.mono hB hB' h' (by omega)) (h'.mono hB' hB h (by omega))
/-- A float is nearest to itself. -/
theorem Near.self {r : Nat} (h : r ≤ iR) : Near (2 * Vr r) 1 r := by
  refine ⟨h,?_,.inr (.inl (by rw [Nat.mul_one]; exact Vr_lt_Mr r))⟩
  rcases Nat.eq_zero_or_pos r with h0 | h0
  · exact .inl h0
  · refine .inr (.inl ?_)
    have := Mr_lt_Vr (r - 1)
    rw [Nat.sub_add_cancel h0] at this
    rw [Nat.mul_one]; exact this
end Go.Proofs.YtmnkmdfladbgdaaRnd
set_option linter.unusedVariables false
namespace Go.Proofs.YtmnkmdfladbgdaaRnd
open Ieee

/-- c is n / G made whole, ties to the even. -/
def Cut (n G c : Nat) : Prop := (c = 0 ∨ (2 * c - 1) * G < 2 * n ∨ ((2 * c - 1) * G = 2 * n ∧ c % 2 = 0)) ∧ (2 * n < (2 * c + 1) * G ∨ (2 * n = (2 * c + 1) * G ∧ c % 2 = 0))
theorem cut_of {n G low rest : Nat} (hn : n = G * low + rest) (hr : rest < G) : Cut n G (low + ((decide (G < 2 * rest)) || (G == 2 * rest && low % 2 == 1)).toNat) := by
  have e1 : (2 * low + 1) * G = 2 * (G * low) + G := by rw [Nat.add_mul,Nat.one_mul,Nat.mul_assoc,Nat.mul_comm low G]
  have e2 : (2 * (low + 1) + 1) * G = 2 * (G * low) + 3 * G := by rw [show 2 * (low + 1) + 1 = 2 * low + 3 by omega,Nat.add_mul,Nat.mul_assoc,Nat.mul_comm low G]
  have e3 : 0 < low → (2 * low - 1) * G + G = 2 * (G * low) := fun h => by
    rw [Nat.sub_mul,Nat.one_mul,Nat.mul_assoc,Nat.mul_comm low G]
    have : G * 1 ≤ G * low := Nat.mul_le_mul_left G h
    omega
  rcases Nat.lt_trichotomy G (2 * rest) with h | h | h
  · have hb : ((decide (G < 2 * rest)) || (G == 2 * rest && low % 2 == 1)) = true := by rw [decide_eq_true h]; rfl
    rw [hb]
    refine ⟨.inr (.inl ?_),.inl ?_⟩
    · show (2 * (low + 1) - 1) * G < 2 * n
      rw [show 2 * (low + 1) - 1 = 2 * low + 1 by omega,e1]; omega
    · show 2 * n < (2 * (low + 1) + 1) * G
      rw [e2]; omega
  · by_cases ho : low % 2 = 1
    · have hb : ((decide (G < 2 * rest)) || (G == 2 * rest && low % 2 == 1)) = true := by simp [h,ho]
      rw [hb]
      refine ⟨.inr (.inr ⟨?_,?_⟩),.inl ?_⟩
      · show (2 * (low + 1) - 1) * G = 2 * n
        rw [show 2 * (low + 1) - 1 = 2 * low + 1 by omega,e1]; omega
      · show (low + 1) % 2 = 0
        omega
      · show 2 * n < (2 * (low + 1) + 1) * G
        rw [e2]; omega
    · have hb : ((decide (G < 2 * rest)) || (G == 2 * rest && low % 2 == 1)) = false := by simp [h,ho]
      rw [hb]
      refine ⟨?_,.inr ⟨?_,?_⟩⟩
      · show low = 0 ∨ (2 * low - 1) * G < 2 * n ∨ ((2 * low - 1) * G = 2 * n ∧ low % 2 = 0)
        rcases Nat.eq_zero_or_pos low with h0 | h0
        · exact .inl h0
        · have := e3 h0
          exact .inr (.inl (by omega))
      · show 2 * n = (2 * low + 1) * G
        rw [e1]; omega
      · show low % 2 = 0
        omega
  · have hb : ((decide (G < 2 * rest)) || (G == 2 * rest && low % 2 == 1)) = false := by
      rw [decide_eq_false (by omega),Bool.false_or,show (G == 2 * rest) = false from beq_eq_false_iff_ne.2 (by omega)]; rfl
    rw [hb]
    refine ⟨?_,.inl ?_⟩
    · show low = 0 ∨ (2 * low - 1) * G < 2 * n ∨ ((2 * low - 1) * G = 2 * n ∧ low % 2 = 0)
      rcases Nat.eq_zero_or_pos low with h0 | h0
      · exact .inl h0
      · have := e3 h0
        exact .inr (.inl (by omega))
    · show 2 * n < (2 * low + 1) * G
      rw [e1]; omega
theorem cut_even (neg : Bool) (n drop : Nat) : Cut n (2 ^ drop) (Toward.even.cut neg n drop) := by
  have hlog : n < 2 ^ (n.log2 + 1) := Nat.lt_log2_self
  rcases Nat.le_total drop (n.log2 + 2) with h | h
  · have hg : 1 <<< min drop (n.log2 + 2) = 2 ^ drop := by rw [Nat.min_eq_left h,Nat.one_shiftLeft]
    unfold Toward.cut
    rw [hg]
    exact cut_of (Nat.div_add_mod n (2 ^ drop)).symm (Nat.mod_lt _ (Nat.two_pow_pos drop))
  · have hg : 1 <<< min drop (n.log2 + 2) = 2 ^ (n.log2 + 2) := by rw [Nat.min_eq_right h,Nat.one_shiftLeft]
    have hp : 2 ^ (n.log2 + 2) = 2 * 2 ^ (n.log2 + 1) := by rw [Nat.pow_succ 2 (n.log2 + 1)]; omega
    have hd : 2 ^ (n.log2 + 2) ≤ 2 ^ drop := Nat.pow_le_pow_right (by omega) h
    have hl : n / 2 ^ (n.log2 + 2) = 0 := Nat.div_eq_of_lt (by omega)
    have hr : n % 2 ^ (n.log2 + 2) = n := Nat.mod_eq_of_lt (by omega)
    have hc : Toward.even.cut neg n drop = 0 := by
      unfold Toward.cut
      rw [hg]
      show n / 2 ^ (n.log2 + 2) + ((decide (2 ^ (n.log2 + 2) < 2 * (n % 2 ^ (n.log2 + 2)))) || (2 ^ (n.log2 + 2) == 2 * (n % 2 ^ (n.log2 + 2)) && n / 2 ^ (n.log2 + 2) % 2 == 1)).toNat = 0
      rw [hl,hr]
      have h1 : decide (2 ^ (n.log2 + 2) < 2 * n) = false := decide_eq_false (by omega)
      have h2 : (2 ^ (n.log2 + 2) == 2 * n) = false := beq_eq_false_iff_ne.2 (by omega)
      simp only [h1,h2]; rfl
    rw [hc]
    exact ⟨.inl rfl,.inl (by omega)⟩
/-- The near rung of a number. -/
theorem near_cut {n G t c : Nat} (hG : 0 < G) (h : Cut n G c) (hhi : n < 2 ^ 53 * G) (hlo : t = 0 ∨ 2 ^ 52 * G ≤ n) : Near (2 * n * 2 ^ t) G (min (t * 2 ^ 52 + c) iR) := by
  have hP : 0 < 2 ^ t := Nat.two_pow_pos t
  obtain ⟨h1,h2⟩ := h
  have c1 : c ≤ 2 ^ 53 := by
    rcases Nat.lt_or_ge (2 ^ 53) c with x | x
    · exfalso
      have : (2 ^ 54 + 1) * G ≤ (2 * c - 1) * G := Nat.mul_le_mul_right G (by omega)
      rcases h1 with h1 | h1 | ⟨h1,_⟩ <;> omega
    · exact x
  have c2 : t = 0 ∨ 2 ^ 52 ≤ c := by
    rcases hlo with hlo | hlo
    · exact .inl hlo
    · refine .inr ?_
      rcases Nat.lt_or_ge c (2 ^ 52) with x | x
      · exfalso
        have : (2 * c + 1) * G ≤ (2 ^ 53 - 1) * G := Nat.mul_le_mul_right G (by omega)
        rcases h2 with h2 | ⟨h2,_⟩ <;> omega
      · exact x
  have low : t * 2 ^ 52 + c = 0 ∨ Mr (t * 2 ^ 52 + c - 1) * G < 2 * n * 2 ^ t ∨ (Mr (t * 2 ^ 52 + c - 1) * G = 2 * n * 2 ^ t ∧ (t * 2 ^ 52 + c) % 2 = 0) := by
    rcases Nat.eq_zero_or_pos (t * 2 ^ 52 + c) with h0 | h0
    · exact .inl h0
    · by_cases hc : t = 0 ∨ 2 ^ 52 ≤ c - 1
      · have hc0 : 0 < c := by omega
        have m1 : Mr (t * 2 ^ 52 + c - 1) = (2 * c - 1) * 2 ^ t := by
          unfold Mr
          rw [Nat.sub_add_cancel h0,Nat.add_sub_assoc hc0,Vr_at t (c - 1) (by omega) hc,Vr_at t c c1 c2,← Nat.add_mul]
          congr 1; omega
        rw [m1,Nat.mul_right_comm]
        rcases h1 with h1 | h1 | ⟨h1,h1'⟩
        · omega
        · exact .inr (.inl (Nat.mul_lt_mul_of_pos_right h1 hP))
        · exact .inr (.inr ⟨by rw [h1],by omega⟩)
      · have hc' : c = 2 ^ 52 := by omega
        have hlo' : 2 ^ 52 * G ≤ n := by omega
        have m1 := Mr_lt_Vr (t * 2 ^ 52 + c - 1)
        rw [Nat.sub_add_cancel h0,Vr_at t c c1 c2,hc'] at m1
        rw [hc']
        refine .inr (.inl ?_)
        have a1 := Nat.mul_lt_mul_of_pos_right m1 hG
        have a2 : 2 * (2 ^ 52 * 2 ^ t) * G = 2 * (2 ^ 52 * G) * 2 ^ t := by rw [← Nat.mul_assoc,Nat.mul_right_comm,Nat.mul_assoc 2 (2 ^ 52) G]
        have a3 : 2 * (2 ^ 52 * G) * 2 ^ t ≤ 2 * n * 2 ^ t := Nat.mul_le_mul_right _ (by omega)
        omega
  have hi : 2 * n * 2 ^ t < Mr (t * 2 ^ 52 + c) * G ∨ (2 * n * 2 ^ t = Mr (t * 2 ^ 52 + c) * G ∧ (t * 2 ^ 52 + c) % 2 = 0) := by
    rcases Nat.lt_or_ge c (2 ^ 53) with x | x
    · have m1 : Mr (t * 2 ^ 52 + c) = (2 * c + 1) * 2 ^ t := by
        unfold Mr
        rw [Nat.add_assoc,Vr_at t c c1 c2,Vr_at t (c + 1) (by omega) (by omega),← Nat.add_mul]
        congr 1; omega
      rw [m1,Nat.mul_right_comm (2 * c + 1)]
      rcases h2 with h2 | ⟨h2,h2'⟩
      · exact .inl (Nat.mul_lt_mul_of_pos_right h2 hP)
      · exact .inr ⟨by rw [h2],by omega⟩
    · have m1 := Vr_lt_Mr (t * 2 ^ 52 + c)
      rw [Vr_at t c c1 c2] at m1
      refine .inl ?_
      have a1 := Nat.mul_lt_mul_of_pos_right m1 hG
      have a2 : 2 * (c * 2 ^ t) * G = 2 * (c * G) * 2 ^ t := by rw [← Nat.mul_assoc,Nat.mul_right_comm,Nat.mul_assoc 2 c G]
      have a4 : 2 ^ 53 * G ≤ c * G := Nat.mul_le_mul_right G x
      have a3 : 2 * n * 2 ^ t ≤ 2 * (c * G) * 2 ^ t := Nat.mul_le_mul_right _ (by omega)
      omega
  rcases Nat.le_total (t * 2 ^ 52 + c) iR with h | h
  · rw [Nat.min_eq_left h]
    exact ⟨h,low,.inr hi⟩
  · rw [Nat.min_eq_right h]
    refine ⟨Nat.le_refl _,?_,.inl rfl⟩
    rcases Nat.lt_or_eq_of_le h with h' | h'
    · have hm : Mr (iR - 1) < Mr (t * 2 ^ 52 + c - 1) := Mr_mono (by unfold iR at *; omega)
      have hm2 := Nat.mul_lt_mul_of_pos_right hm hG
      refine .inr (.inl ?_)
      rcases low with l | l | ⟨l,_⟩
      · unfold iR at h'; omega
      · omega
      · omega
    · rw [h']; exact low
theorem Near.ratio {A B A' B' r : Nat} (hB : 0 < B) (hB' : 0 < B') (h : Near A B r) (he : A * B' = A' * B) : Near A' B' r := by
  obtain ⟨h0,h1,h2⟩ := h
  have k1 : ∀ m,m * B < A → m * B' < A' := fun m x => by
    have a1 := Nat.mul_lt_mul_of_pos_right x hB'
    rw [he,Nat.mul_right_comm] at a1
    exact Nat.lt_of_mul_lt_mul_right a1
  have k2 : ∀ m,m * B = A → m * B' = A' := fun m x => by
    have a1 : m * B * B' = A * B' := by rw [x]
    rw [he,Nat.mul_right_comm] at a1
    exact Nat.eq_of_mul_eq_mul_right hB a1
  have k3 : ∀ m,A < m * B → A' < m * B' := fun m x => by
    have a1 := Nat.mul_lt_mul_of_pos_right x hB'
    rw [he,Nat.mul_right_comm m] at a1
    exact Nat.lt_of_mul_lt_mul_right a1
  refine ⟨h0,?_,?_⟩
  · rcases h1 with h1 | h1 | ⟨h1,p⟩
    · exact .inl h1
    · exact .inr (.inl (k1 _ h1))
    · exact .inr (.inr ⟨k2 _ h1,p⟩)
  · rcases h2 with h2 | h2 | ⟨h2,p⟩
    · exact .inl h2
    · exact .inr (.inl (k3 _ h2))
    · exact .inr (.inr ⟨(k2 _ h2.symm).symm,p⟩)
end Go.Proofs.YtmnkmdfladbgdaaRnd

set_option linter.unusedVariables false
namespace Go.Proofs.YtmnkmdfladbgdaaRnd
open Ieee

/-- The rung that 'nearest' takes. -/
def rung (mag : Nat) (place : Int) : Nat :=
  if mag = 0 then 0 else
    min ((max (place + (mag.log2 : Nat) - ((52 : Nat) : Int)) (-1074) - (-1074)).toNat * 2 ^ 52 + Toward.even.cut false (mag <<< (place - max (place + (mag.log2 : Nat) - ((52 : Nat) : Int)) (-1074)).toNat) (max (place + (mag.log2 : Nat) - ((52 : Nat) : Int)) (-1074) - place).toNat) iR
theorem d_sw : Ieee.double.signWeight = 2 ^ 63 := by decide
theorem d_bn : Ieee.double.binade = 2 ^ 52 := by decide
theorem d_ir : Ieee.double.infRung = iR := by decide
theorem d_lp : Ieee.double.leastPlace = -1074 := by decide
theorem d_fb : Ieee.double.fractionBits = 52 := by decide
theorem nearest_rung (mag : Nat) (place : Int) : Ieee.double.nearest false mag place = rung mag place := by
  unfold Format.nearest rung Format.word
  rw [d_bn,d_ir,d_lp,d_fb]
  by_cases h : mag = 0
  · rw [if_pos h,if_pos h]; simp only [Bool.false_eq_true,if_false]
  · rw [if_neg h,if_neg h]; simp only [Bool.false_eq_true,if_false]
theorem near_rung {mag : Nat} (hm : 0 < mag) (place : Int) : Near (mag * 2 ^ (place + 1075).toNat) (2 ^ (-(place + 1075)).toNat) (rung mag place) := by
  have hlo : 2 ^ mag.log2 ≤ mag := Nat.log2_self_le (by omega)
  have hhi : mag < 2 ^ (mag.log2 + 1) := Nat.lt_log2_self
  unfold rung
  rw [if_neg (by omega)]
  obtain ⟨last,hlast⟩ : ∃ x,x = max (place + (mag.log2 : Nat) - ((52 : Nat) : Int)) (-1074) := ⟨_,rfl⟩
  rw [← hlast]
  generalize mag.log2 = l at *
  have h1 : -1074 ≤ last := by omega
  have h2 : place + l - 52 ≤ last := by omega
  have h3 : last = -1074 ∨ last = place + l - 52 := by omega
  obtain ⟨t,ht⟩ : ∃ t,t = (last - (-1074)).toNat := ⟨_,rfl⟩
  obtain ⟨c,hc⟩ : ∃ t,t = (place - last).toNat := ⟨_,rfl⟩
  obtain ⟨d,hd⟩ : ∃ t,t = (last - place).toNat := ⟨_,rfl⟩
  obtain ⟨a,ha⟩ : ∃ t,t = (place + 1075).toNat := ⟨_,rfl⟩
  obtain ⟨b,hb⟩ : ∃ t,t = (-(place + 1075)).toNat := ⟨_,rfl⟩
  rw [← ht,← hc,← hd,← ha,← hb,Nat.shiftLeft_eq]
  have he : a + d = 1 + c + t + b := by omega
  have key := near_cut (n := mag * 2 ^ c) (G := 2 ^ d) (t := t) (Nat.two_pow_pos d) (cut_even false (mag * 2 ^ c) d) ?_ ?_
  · refine Near.ratio (Nat.two_pow_pos d) (Nat.two_pow_pos b) key ?_
    rw [Nat.mul_assoc mag,← Nat.pow_add,he,Nat.pow_add,Nat.pow_add,Nat.pow_add,Nat.pow_one]
    simp only [Nat.mul_assoc,Nat.mul_comm,Nat.mul_left_comm]
  · have : mag * 2 ^ c < 2 ^ (l + 1) * 2 ^ c := Nat.mul_lt_mul_of_pos_right hhi (Nat.two_pow_pos c)
    rw [← Nat.pow_add] at this
    rw [← Nat.pow_add]
    exact Nat.lt_of_lt_of_le this (Nat.pow_le_pow_right (by omega) (by omega))
  · rcases Nat.eq_zero_or_pos t with h0 | h0
    · exact .inl h0
    · refine .inr ?_
      have : 2 ^ l * 2 ^ c ≤ mag * 2 ^ c := Nat.mul_le_mul_right _ hlo
      rw [← Nat.pow_add] at this
      rw [← Nat.pow_add]
      exact Nat.le_trans (Nat.pow_le_pow_right (by omega) (by omega)) this
theorem near_zero (B : Nat) (hB : 0 < B) : Near 0 B 0 := by
  refine ⟨by unfold iR; omega,.inl rfl,.inr (.inl ?_)⟩
  have : 0 < Mr 0 := by have := Vr_lt_Mr 0; omega
  exact Nat.mul_pos this hB
theorem near_rung' (mag : Nat) (place : Int) : Near (mag * 2 ^ (place + 1075).toNat) (2 ^ (-(place + 1075)).toNat) (rung mag place) := by
  rcases Nat.eq_zero_or_pos mag with h | h
  · subst h
    rw [Nat.zero_mul]
    exact near_zero _ (Nat.two_pow_pos _)
  · exact near_rung h place
/-- What a float from nought on, but infinity, stands for. -/
theorem read_pos {r : Nat} (h : r < iR) : ∃ (m : Nat) (e : Int),Ieee.double.read r = .number false m (e - 1074 : Int) ∧ m * 2 ^ e.toNat = Vr r ∧ 0 ≤ e ∧ (r = 0 → m = 0) ∧ (0 < r → 0 < m) := by
  have h63 : r < 2 ^ 63 := by unfold iR at h; omega
  have hn : (r / 2 ^ 63 % 2 == 1) = false := by
    rw [Nat.div_eq_of_lt h63]; rfl
  unfold Format.read
  rw [d_sw,d_bn,d_ir,d_lp,hn,Nat.mod_eq_of_lt h63]
  unfold Vr
  rcases Nat.lt_or_ge r (2 ^ 52) with x | x
  · refine ⟨r,0,?_,?_,by omega,id,id⟩
    · simp only [if_pos x]; rfl
    · rw [if_pos x]; simp
  · refine ⟨2 ^ 52 + r % 2 ^ 52,((r / 2 ^ 52 - 1 : Nat) : Int),?_,?_,by omega,by omega,by omega⟩
    · simp only [if_neg (Nat.not_lt.2 x),if_pos h]
      congr 1
    · rw [if_neg (Nat.not_lt.2 x),Int.toNat_natCast]
theorem read_inf : Ieee.double.read iR = .infinity false := by decide
/-- The sum. -/
theorem add_near {a b : Nat} (ha : a < iR) (hb : b < iR) : ∃ r,Ieee.double.add a b = some r ∧ Near (2 * (Vr a + Vr b)) 1 r := by
  obtain ⟨m,i,e1,v1,i0,_⟩ := read_pos ha
  obtain ⟨n,j,e2,v2,j0,_⟩ := read_pos hb
  obtain ⟨base,hbase⟩ : ∃ x,x = min (i - 1074) (j - 1074) := ⟨_,rfl⟩
  have ht : signed false m ((i - 1074) - base).toNat + signed false n ((j - 1074) - base).toNat = ((m <<< ((i - 1074) - base).toNat + n <<< ((j - 1074) - base).toNat : Nat) : Int) := by
    simp only [signed]; exact (Int.natCast_add _ _).symm
  refine ⟨rung (m <<< ((i - 1074) - base).toNat + n <<< ((j - 1074) - base).toNat) base,?_,?_⟩
  · unfold Format.add
    rw [e1,e2]
    simp only [Datum.sum,← hbase,ht,Option.map_some,Format.write,Int.natAbs_natCast]
    have hneg : (if ((m <<< ((i - 1074) - base).toNat + n <<< ((j - 1074) - base).toNat : Nat) : Int) = 0 then (false && false) else decide (((m <<< ((i - 1074) - base).toNat + n <<< ((j - 1074) - base).toNat : Nat) : Int) < 0)) = false := by
      split
      · rfl
      · exact decide_eq_false (Int.not_lt.2 (Int.natCast_nonneg _))
    rw [hneg,nearest_rung]
  · refine Near.ratio (Nat.two_pow_pos _) Nat.one_pos (near_rung' _ base) ?_
    have hp : (-(base + 1075)).toNat = 0 := by omega
    rw [hp,Nat.pow_zero,Nat.mul_one,Nat.mul_one,Nat.shiftLeft_eq,Nat.shiftLeft_eq,← v1,← v2,Nat.add_mul,Nat.mul_assoc,Nat.mul_assoc,← Nat.pow_add,← Nat.pow_add]
    have x1 : ((i - 1074) - base).toNat + (base + 1075).toNat = i.toNat + 1 := by omega
    have x2 : ((j - 1074) - base).toNat + (base + 1075).toNat = j.toNat + 1 := by omega
    rw [x1,x2,Nat.pow_succ,Nat.pow_succ]
    simp only [Nat.mul_add,Nat.mul_comm,Nat.mul_left_comm]
/-- The product. -/
theorem mul_near {a b : Nat} (ha : a < iR) (hb : b < iR) : ∃ r,Ieee.double.mul a b = some r ∧ Near (Vr a * Vr b) (2 ^ 1073) r := by
  obtain ⟨m,i,e1,v1,i0,_⟩ := read_pos ha
  obtain ⟨n,j,e2,v2,j0,_⟩ := read_pos hb
  refine ⟨rung (m * n) ((i - 1074) + (j - 1074)),?_,?_⟩
  · unfold Format.mul
    rw [e1,e2]
    simp only [Datum.product,Option.map_some,Format.write]
    rw [← nearest_rung]; rfl
  · suffices hs : ∀ q : Nat,q = 1073 → Near (Vr a * Vr b) (2 ^ q) (rung (m * n) ((i - 1074) + (j - 1074))) from hs 1073 rfl
    intro q hq
    refine Near.ratio (Nat.two_pow_pos _) (Nat.two_pow_pos _) (near_rung' _ _) ?_
    rw [← v1,← v2]
    have x1 : ((i - 1074) + (j - 1074) + 1075).toNat + q = i.toNat + j.toNat + (-((i - 1074) + (j - 1074) + 1075)).toNat := by omega
    rw [Nat.mul_assoc (m * n),← Nat.pow_add,x1,Nat.pow_add,Nat.pow_add]
    simp only [Nat.mul_assoc,Nat.mul_left_comm]
/-- A sum is no less than what was added. -/
theorem add_ge {a b r : Nat} (ha : a < iR) (h : Near (2 * (Vr a + Vr b)) 1 r) : a ≤ r :=
  (Near.self (Nat.le_of_lt ha)).mono Nat.one_pos Nat.one_pos h (by omega)
end Go.Proofs.YtmnkmdfladbgdaaRnd
set_option linter.unusedVariables false
namespace Go.Proofs.YtmnkmdfladbgdaaRnd
open Ieee

/-- A middle is an odd number's double. -/
theorem Mr_form (r : Nat) : ∃ t c,Mr r = c * 2 ^ t ∧ c < 2 ^ 54 := by
  obtain ⟨t,k,rfl,hk,h⟩ := rung_form r
  refine ⟨t,2 * k + 1,?_,by omega⟩
  unfold Mr
  rw [Nat.add_assoc,Vr_at t k (by omega) h,Vr_at t (k + 1) (by omega) (by omega),← Nat.add_mul]
  congr 1; omega
/-- A quotient that is cut off with its rest told stands to the middles as the whole quotient does: X = Q / n is between q and q + 1; the middles are whole numbers of 2 ^ -s times 2 ^ u. -/
theorem sticky_cmp {Q n M S U : Nat} (hn : 0 < n) (hM : S ∣ M * U ∨ M * U < Q / n * S) (hS : 0 < S) :
    (M * U * n < Q * S ↔ 2 * (M * U) < (2 * (Q / n) + (Q % n != 0).toNat) * S) ∧ (M * U * n = Q * S ↔ 2 * (M * U) = (2 * (Q / n) + (Q % n != 0).toNat) * S) := by
  have hdm := Nat.div_add_mod Q n
  have hlt := Nat.mod_lt Q hn
  generalize Q / n = q at *
  generalize Q % n = r at *
  have hQ : Q * S = n * q * S + r * S := by rw [← hdm,Nat.add_mul]
  have hst : (r != 0).toNat ≤ 1 ∧ (r = 0 → (r != 0).toNat = 0) ∧ (0 < r → (r != 0).toNat = 1) := by
    refine ⟨Bool.toNat_le _,fun h => by rw [h]; rfl,fun h => ?_⟩
    rw [bne_iff_ne.2 (by omega)]; rfl
  obtain ⟨s1,s2,s3⟩ := hst
  generalize (r != 0).toNat = st at *
  have hexp : (2 * q + st) * S = 2 * (q * S) + st * S := by rw [Nat.add_mul,Nat.mul_assoc]
  rw [hexp,hQ]
  have c0 : n * q * S = q * S * n := by rw [Nat.mul_comm n q,Nat.mul_right_comm]
  rw [c0]
  have rS : r * S < n * S := Nat.mul_lt_mul_of_pos_right hlt hS
  have nS : n * S = S * n := Nat.mul_comm _ _
  rcases Nat.lt_trichotomy (M * U) (q * S) with x | x | x
  · have a1 : M * U * n < q * S * n := Nat.mul_lt_mul_of_pos_right x hn
    exact ⟨⟨fun _ => by omega,fun _ => by omega⟩,⟨fun _ => by omega,fun _ => by omega⟩⟩
  · rw [x]
    rcases Nat.eq_zero_or_pos r with h0 | h0
    · rw [s2 h0,h0]
      simp
    · rw [s3 h0]
      have : 0 < r * S := Nat.mul_pos h0 hS
      exact ⟨⟨fun _ => by omega,fun _ => by omega⟩,⟨fun _ => by omega,fun _ => by omega⟩⟩
  · have hd : S ∣ M * U := by
      rcases hM with h | h
      · exact h
      · omega
    obtain ⟨w,hw⟩ := hd
    rw [hw] at x ⊢
    have a0 : q * S = S * q := Nat.mul_comm _ _
    have a1 : q < w := by rw [a0] at x; exact Nat.lt_of_mul_lt_mul_left x
    have a2 : S * (q + 1) ≤ S * w := Nat.mul_le_mul_left S a1
    have a3 : S * (q + 1) * n ≤ S * w * n := Nat.mul_le_mul_right n a2
    rw [Nat.mul_add,Nat.mul_one] at a2 a3
    rw [Nat.add_mul] at a3
    rw [a0]
    have sS : st * S ≤ S := by
      have := Nat.mul_le_mul_right S s1
      omega
    exact ⟨⟨fun _ => by omega,fun _ => by omega⟩,⟨fun _ => by omega,fun _ => by omega⟩⟩
theorem pw_lt {x y a b c d : Nat} (h : a + d = c + b) : (x * 2 ^ a < y * 2 ^ b ↔ x * 2 ^ c < y * 2 ^ d) ∧ (x * 2 ^ a = y * 2 ^ b ↔ x * 2 ^ c = y * 2 ^ d) := by
  have e1 : x * 2 ^ a * 2 ^ d = x * 2 ^ c * 2 ^ b := by rw [Nat.mul_assoc,Nat.mul_assoc,← Nat.pow_add,← Nat.pow_add,h]
  have e2 : y * 2 ^ b * 2 ^ d = y * 2 ^ d * 2 ^ b := Nat.mul_right_comm _ _ _
  have pd := Nat.two_pow_pos d
  have pb := Nat.two_pow_pos b
  refine ⟨⟨fun l => ?_,fun l => ?_⟩,⟨fun l => ?_,fun l => ?_⟩⟩
  · have := Nat.mul_lt_mul_of_pos_right l pd
    rw [e1,e2] at this
    exact Nat.lt_of_mul_lt_mul_right this
  · have := Nat.mul_lt_mul_of_pos_right l pb
    rw [← e1,← e2] at this
    exact Nat.lt_of_mul_lt_mul_right this
  · have : x * 2 ^ a * 2 ^ d = y * 2 ^ b * 2 ^ d := by rw [l]
    rw [e1,e2] at this
    exact Nat.eq_of_mul_eq_mul_right pb this
  · have : x * 2 ^ c * 2 ^ b = y * 2 ^ d * 2 ^ b := by rw [l]
    rw [← e1,← e2] at this
    exact Nat.eq_of_mul_eq_mul_right pd this
theorem Near.cmp {A B A' B' r : Nat} (h : Near A B r) (hc : ∀ k,(Mr k * B < A ↔ Mr k * B' < A') ∧ (Mr k * B = A ↔ Mr k * B' = A')) : Near A' B' r := by
  obtain ⟨h0,h1,h2⟩ := h
  refine ⟨h0,?_,?_⟩
  · rcases h1 with h1 | h1 | ⟨h1,p⟩
    · exact .inl h1
    · exact .inr (.inl ((hc _).1.1 h1))
    · exact .inr (.inr ⟨(hc _).2.1 h1,p⟩)
  · rcases h2 with h2 | h2 | ⟨h2,p⟩
    · exact .inl h2
    · refine .inr (.inl ?_)
      have a1 : ¬ Mr r * B' < A' := fun x => by have := (hc r).1.2 x; omega
      have a2 : ¬ Mr r * B' = A' := fun x => by have := (hc r).2.2 x; omega
      omega
    · exact .inr (.inr ⟨((hc r).2.1 h2.symm).symm,p⟩)
theorem quo_big {m n : Nat} (hm : 0 < m) (hn : 0 < n) : 2 ^ 53 ≤ m * 2 ^ (54 + n.log2 - m.log2) / n := by
  have h1 : 2 ^ m.log2 ≤ m := Nat.log2_self_le (by omega)
  have h2 : n < 2 ^ (n.log2 + 1) := Nat.lt_log2_self
  rw [Nat.le_div_iff_mul_le hn]
  have a1 : 2 ^ 53 * n ≤ 2 ^ 53 * 2 ^ (n.log2 + 1) := Nat.mul_le_mul_left _ (Nat.le_of_lt h2)
  have a2 : 2 ^ m.log2 * 2 ^ (54 + n.log2 - m.log2) ≤ m * 2 ^ (54 + n.log2 - m.log2) := Nat.mul_le_mul_right _ h1
  rw [← Nat.pow_add] at a1 a2
  exact Nat.le_trans a1 (Nat.le_trans (Nat.pow_le_pow_right (by omega) (by omega)) a2)
theorem near_zero' (B W : Nat) (h : 0 < B) : Near (0 * W) B 0 := by rw [Nat.zero_mul]; exact near_zero _ h
/-- The quotient. -/
theorem div_near {a b : Nat} (ha : a < iR) (hb : b < iR) (h0 : 0 < b) : ∃ r,Ieee.double.div a b = some r ∧ Near (Vr a * 2 ^ 1075) (Vr b) r := by
  obtain ⟨m,i,e1,v1,i0,m0,m1⟩ := read_pos ha
  obtain ⟨n,j,e2,v2,j0,n0,n1⟩ := read_pos hb
  have hn := n1 h0
  have hn0 : ¬ n = 0 := by omega
  refine ⟨rung (2 * (m <<< (54 + n.log2 - m.log2) / n) + (m <<< (54 + n.log2 - m.log2) % n != 0).toNat) ((i - 1074) - (j - 1074) - (54 + n.log2 - m.log2 : Nat) - 1),?_,?_⟩
  · unfold Format.div
    rw [e1,e2,d_fb]
    simp only [Datum.quotient,if_neg hn0,Option.map_some,Format.write]
    rw [← nearest_rung]; rfl
  · rcases Nat.eq_zero_or_pos m with hm | hm
    · subst hm
      have hv : Vr a = 0 := by rw [← v1,Nat.zero_mul]
      have hz : rung (2 * (0 <<< (54 + n.log2 - Nat.log2 0) / n) + (0 <<< (54 + n.log2 - Nat.log2 0) % n != 0).toNat) ((i - 1074) - (j - 1074) - (54 + n.log2 - Nat.log2 0 : Nat) - 1) = 0 := by
        rw [Nat.zero_shiftLeft,Nat.zero_div,Nat.zero_mod]; rfl
      rw [hz,hv]
      generalize (2 : Nat) ^ 1075 = W
      exact near_zero' _ W (by rw [← v2]; exact Nat.mul_pos hn (Nat.two_pow_pos _))
    · have hbig := quo_big hm hn
      rw [Nat.shiftLeft_eq]
      obtain ⟨more,hmore⟩ : ∃ x,x = 54 + n.log2 - m.log2 := ⟨_,rfl⟩
      rw [← hmore] at hbig ⊢
      obtain ⟨e,he⟩ : ∃ x,x = (i - 1074) - (j - 1074) - (more : Nat) - 1 + 1075 := ⟨_,rfl⟩
      have key := near_rung' (2 * (m * 2 ^ more / n) + (m * 2 ^ more % n != 0).toNat) ((i - 1074) - (j - 1074) - (more : Nat) - 1)
      rw [← he] at key
      refine key.cmp fun k => ?_
      obtain ⟨t,c,hM,hc⟩ := Mr_form k
      have hcond : 2 ^ (e + 1).toNat ∣ Mr k * 2 ^ (-(e + 1)).toNat ∨ Mr k * 2 ^ (-(e + 1)).toNat < m * 2 ^ more / n * 2 ^ (e + 1).toNat := by
        rcases Int.le_total (e + 1) 0 with hh | hh
        · have : (e + 1).toNat = 0 := by omega
          rw [this]; exact .inl (Nat.one_dvd _)
        · have hu : (-(e + 1)).toNat = 0 := by omega
          rw [hu,Nat.pow_zero,Nat.mul_one,hM]
          rcases Nat.le_total (e + 1).toNat t with ht | ht
          · exact .inl (Nat.dvd_trans (Nat.pow_dvd_pow 2 ht) (Nat.dvd_mul_left _ _))
          · rcases Nat.lt_or_eq_of_le ht with ht | ht
            · refine .inr ?_
              have a1 : c * 2 ^ t < 2 ^ 54 * 2 ^ t := Nat.mul_lt_mul_of_pos_right hc (Nat.two_pow_pos t)
              have a2 : 2 ^ 53 * 2 ^ (e + 1).toNat ≤ m * 2 ^ more / n * 2 ^ (e + 1).toNat := Nat.mul_le_mul_right _ hbig
              rw [← Nat.pow_add] at a1 a2
              exact Nat.lt_of_lt_of_le a1 (Nat.le_trans (Nat.pow_le_pow_right (by omega) (by omega)) a2)
            · rw [ht]; exact .inl (Nat.dvd_mul_left _ _)
      obtain ⟨s1,s2⟩ := sticky_cmp (Q := m * 2 ^ more) hn hcond (Nat.two_pow_pos _)
      have p1 := pw_lt (x := 2 * Mr k) (y := 2 * (m * 2 ^ more / n) + (m * 2 ^ more % n != 0).toNat) (a := (-(e + 1)).toNat) (b := (e + 1).toNat) (c := (-e).toNat) (d := e.toNat + 1) (by omega)
      have p2 := pw_lt (x := Mr k * n) (y := m) (a := (-(e + 1)).toNat) (b := more + (e + 1).toNat) (c := j.toNat) (d := i.toNat + 1075) (by omega)
      rw [← v1,← v2]
      generalize 2 * (m * 2 ^ more / n) + (m * 2 ^ more % n != 0).toNat = X at *
      have r1 : 2 * (Mr k * 2 ^ (-(e + 1)).toNat) = 2 * Mr k * 2 ^ (-(e + 1)).toNat := (Nat.mul_assoc _ _ _).symm
      have r2 : Mr k * 2 ^ (-(e + 1)).toNat * n = Mr k * n * 2 ^ (-(e + 1)).toNat := Nat.mul_right_comm _ _ _
      have r3 : m * 2 ^ more * 2 ^ (e + 1).toNat = m * 2 ^ (more + (e + 1).toNat) := by rw [Nat.mul_assoc,← Nat.pow_add]
      have r4 : X * 2 ^ (e.toNat + 1) = 2 * (X * 2 ^ e.toNat) := by rw [Nat.pow_succ]; simp only [Nat.mul_comm,Nat.mul_left_comm]
      have r5 : 2 * Mr k * 2 ^ (-e).toNat = 2 * (Mr k * 2 ^ (-e).toNat) := Nat.mul_assoc _ _ _
      have r6 : Mr k * n * 2 ^ j.toNat = Mr k * (n * 2 ^ j.toNat) := Nat.mul_assoc _ _ _
      have r7 : m * 2 ^ (i.toNat + 1075) = m * 2 ^ i.toNat * 2 ^ 1075 := by rw [Nat.pow_add,Nat.mul_assoc]
      rw [r1,r2,r3] at s1 s2
      rw [r4,r5] at p1
      rw [r6,r7] at p2
      obtain ⟨p1a,p1b⟩ := p1
      obtain ⟨p2a,p2b⟩ := p2
      refine ⟨?_,?_⟩
      · rw [← p2a,s1,p1a]; omega
      · rw [← p2b,s2,p1b]; omega
end Go.Proofs.YtmnkmdfladbgdaaRnd

set_option linter.unusedVariables false
namespace Go.Proofs.YtmnkmdfladbgdaaRnd
open Ieee

/-- What is a float's number is that float. -/
theorem Near.exact {A B r s : Nat} (hB : 0 < B) (h : Near A B r) (hs : s ≤ iR) (he : A = 2 * Vr s * B) : r = s :=
  h.uniq hB Nat.one_pos (Near.self hs) (by rw [Nat.mul_one]; exact he)
theorem int_float {k : Nat} (h0 : 0 < k) (h : k < 2 ^ 53) : ∃ s,s < iR ∧ Vr s = k * 2 ^ 1074 ∧ 0 < s := by
  have h1 : 2 ^ k.log2 ≤ k := Nat.log2_self_le (by omega)
  have h2 : k < 2 ^ (k.log2 + 1) := Nat.lt_log2_self
  have hl : k.log2 ≤ 52 := by
    rcases Nat.lt_or_ge 52 k.log2 with x | x
    · have : 2 ^ 53 ≤ 2 ^ k.log2 := Nat.pow_le_pow_right (by omega) (by omega)
      omega
    · exact x
  generalize k.log2 = l at *
  have a1 : 2 ^ l * 2 ^ (52 - l) ≤ k * 2 ^ (52 - l) := Nat.mul_le_mul_right _ h1
  have a2 : k * 2 ^ (52 - l) < 2 ^ (l + 1) * 2 ^ (52 - l) := Nat.mul_lt_mul_of_pos_right h2 (Nat.two_pow_pos _)
  rw [← Nat.pow_add] at a1 a2
  rw [show l + (52 - l) = 52 by omega] at a1
  rw [show l + 1 + (52 - l) = 53 by omega] at a2
  refine ⟨(1022 + l) * 2 ^ 52 + k * 2 ^ (52 - l),by unfold iR; omega,?_,by omega⟩
  rw [Vr_at (1022 + l) _ (by omega) (.inr a1),Nat.mul_assoc,← Nat.pow_add]
  congr 2; omega
/-- A whole number as a float. -/
def Fi (k : Nat) : Nat := rung k 0
theorem Fi_zero : Fi 0 = 0 := rfl
theorem Fi_spec {k : Nat} (h : k < 2 ^ 53) : Fi k < iR ∧ Vr (Fi k) = k * 2 ^ 1074 ∧ (0 < k → 0 < Fi k) := by
  rcases Nat.eq_zero_or_pos k with h0 | h0
  · subst h0
    have hz : ∀ W : Nat,Vr (Fi 0) = 0 * W := fun W => by rw [Nat.zero_mul,Fi_zero]; unfold Vr; rw [if_pos (by omega)]
    have hz' := hz (2 ^ 1074)
    exact ⟨by rw [Fi_zero]; unfold iR; omega,hz',fun x => by omega⟩
  · obtain ⟨s,hs,hv,hp⟩ := int_float h0 h
    have hn := near_rung' k 0
    have e1 : ((0 : Int) + 1075).toNat = 1075 := by decide
    have e2 : (-((0 : Int) + 1075)).toNat = 0 := by decide
    rw [e1,e2] at hn
    have pw : ∀ q p : Nat,p = q + 1 → k * 2 ^ p = 2 * (k * 2 ^ q) * 2 ^ 0 := fun q p e => by
      subst e
      rw [Nat.pow_zero,Nat.mul_one,Nat.pow_succ]
      simp only [Nat.mul_comm,Nat.mul_left_comm]
    have : Fi k = s := hn.exact (Nat.two_pow_pos 0) (Nat.le_of_lt hs) (by rw [hv]; exact pw 1074 1075 rfl)
    rw [this]
    exact ⟨hs,hv,fun _ => hp⟩
theorem Fi_mono {a b : Nat} (hb : b < 2 ^ 53) (h : a ≤ b) : Fi a ≤ Fi b := by
  rcases Nat.lt_or_ge (Fi b) (Fi a) with x | x
  · have h1 := Vr_mono x
    rw [(Fi_spec hb).2.1,(Fi_spec (Nat.lt_of_le_of_lt h hb)).2.1] at h1
    have := Nat.lt_of_mul_lt_mul_right h1
    omega
  · exact x
/-- Counting by ones. -/
theorem Fi_add {a b : Nat} (h : a + b < 2 ^ 53) : Ieee.double.add (Fi a) (Fi b) = some (Fi (a + b)) := by
  obtain ⟨a1,a2,_⟩ := Fi_spec (k := a) (by omega)
  obtain ⟨b1,b2,_⟩ := Fi_spec (k := b) (by omega)
  obtain ⟨c1,c2,_⟩ := Fi_spec h
  obtain ⟨r,e,hr⟩ := add_near a1 b1
  rw [e,hr.exact Nat.one_pos (Nat.le_of_lt c1) (by rw [a2,b2,c2,← Nat.add_mul,Nat.mul_one])]
theorem add_inf {a : Nat} (ha : a ≤ iR) : Ieee.double.add a iR = some iR ∧ Ieee.double.add iR a = some iR := by
  have hw : Ieee.double.write (.infinity false) = iR := by decide
  rcases Nat.lt_or_eq_of_le ha with h | h
  · obtain ⟨m,i,e1,_⟩ := read_pos h
    constructor
    · unfold Format.add; rw [e1,read_inf]; simp only [Datum.sum,Option.map_some,hw]
    · unfold Format.add; rw [e1,read_inf]; simp only [Datum.sum,Option.map_some,hw]
  · subst h
    constructor <;> (unfold Format.add; rw [read_inf]; simp only [Datum.sum,if_true,Option.map_some,hw])
theorem div_inf {a : Nat} (ha : a < iR) : Ieee.double.div a iR = some 0 := by
  obtain ⟨m,i,e1,_⟩ := read_pos ha
  unfold Format.div
  rw [e1,read_inf]
  simp only [Datum.quotient,Option.map_some,Format.write]
  show some (Ieee.double.nearest false 0 0) = some 0
  rw [nearest_rung]; rfl
/-- Sums from nought on: none is less than what was added. -/
theorem add_up {a b : Nat} (ha : a ≤ iR) (hb : b ≤ iR) : ∃ r,Ieee.double.add a b = some r ∧ r ≤ iR ∧ a ≤ r ∧ b ≤ r := by
  rcases Nat.lt_or_eq_of_le ha with h1 | h1
  · rcases Nat.lt_or_eq_of_le hb with h2 | h2
    · obtain ⟨r,e,hr⟩ := add_near h1 h2
      exact ⟨r,e,hr.1,add_ge h1 hr,add_ge h2 (by rw [Nat.add_comm (Vr b)]; exact hr)⟩
    · subst h2
      exact ⟨iR,(add_inf ha).1,Nat.le_refl _,ha,Nat.le_refl _⟩
  · subst h1
    exact ⟨iR,(add_inf hb).2,Nat.le_refl _,Nat.le_refl _,hb⟩
/-- A share of one that is no less: from nought to one; and shares keep the order. -/
theorem div_share {a b : Nat} (ha : a ≤ b) (hb : b ≤ iR) (ha' : a < iR) (h0 : 0 < b) : ∃ r,Ieee.double.div a b = some r ∧ r ≤ Fi 1 := by
  rcases Nat.lt_or_eq_of_le hb with h2 | h2
  · obtain ⟨r,e,hr⟩ := div_near ha' h2 h0
    obtain ⟨c1,c2,_⟩ := Fi_spec (k := 1) (by omega)
    have hV : Vr a ≤ Vr b := by
      rcases Nat.lt_or_eq_of_le ha with x | x
      · exact Nat.le_of_lt (Vr_mono x)
      · rw [x]; exact Nat.le_refl _
    have hb0 : 0 < Vr b := Nat.lt_of_le_of_lt (Nat.zero_le _) (Vr_mono h0)
    refine ⟨r,e,hr.mono hb0 Nat.one_pos (Near.self (Nat.le_of_lt c1)) ?_⟩
    have hz : ∀ q p : Nat,p = q + 1 → Vr a * 2 ^ p * 1 ≤ 2 * (1 * 2 ^ q) * Vr b := fun q p e => by
      subst e
      rw [Nat.mul_one,Nat.one_mul,← Nat.pow_succ',Nat.mul_comm (2 ^ (q + 1))]
      exact Nat.mul_le_mul_right _ hV
    rw [c2]
    exact hz 1074 1075 rfl
  · subst h2
    exact ⟨0,div_inf ha',Nat.zero_le _⟩
end Go.Proofs.YtmnkmdfladbgdaaRnd

set_option linter.unusedVariables false
namespace Go.Proofs.YtmnkmdfladbgdaaRnd
open Ieee

theorem Cut.uniq {n G c d : Nat} (hG : 0 < G) (h : Cut n G c) (h' : Cut n G d) : c = d := by
  have key : ∀ {c d : Nat},Cut n G c → Cut n G d → ¬ c < d := fun {c d} h h' hlt => by
    obtain ⟨_,h2⟩ := h
    obtain ⟨h1,_⟩ := h'
    have a1 : (2 * c + 1) * G ≤ (2 * d - 1) * G := Nat.mul_le_mul_right G (by omega)
    rcases h1 with h1 | h1 | ⟨h1,p1⟩
    · omega
    · rcases h2 with h2 | ⟨h2,p2⟩ <;> omega
    · rcases h2 with h2 | ⟨h2,p2⟩
      · omega
      · have e : (2 * c + 1) * G = (2 * d - 1) * G := by omega
        have := Nat.eq_of_mul_eq_mul_right hG e
        omega
  rcases Nat.lt_trichotomy c d with x | x | x
  · exact absurd x (key h h')
  · exact x
  · exact absurd x (key h' h)
/-- man over 2^s, half to the even: as the document does it. -/
def half (man s : Nat) : Nat := if 2 ^ (s - 1) < man % 2 ^ s ∨ (man % 2 ^ s = 2 ^ (s - 1) ∧ man / 2 ^ s % 2 = 1) then man / 2 ^ s + 1 else man / 2 ^ s
theorem half_cut {man s : Nat} (hs : 0 < s) : half man s = Toward.even.cut false man s := by
  refine Cut.uniq (Nat.two_pow_pos s) ?_ (cut_even false man s)
  have h := cut_of (n := man) (G := 2 ^ s) (Nat.div_add_mod man (2 ^ s)).symm (Nat.mod_lt _ (Nat.two_pow_pos s))
  have hp : 2 ^ s = 2 * 2 ^ (s - 1) := by rw [← Nat.pow_succ',Nat.succ_eq_add_one,Nat.sub_add_cancel hs]
  have he : half man s = man / 2 ^ s + ((decide (2 ^ s < 2 * (man % 2 ^ s))) || (2 ^ s == 2 * (man % 2 ^ s) && man / 2 ^ s % 2 == 1)).toNat := by
    unfold half
    generalize man / 2 ^ s = q
    generalize man % 2 ^ s = r
    rw [hp]
    generalize 2 ^ (s - 1) = p
    by_cases c1 : p < r
    · rw [if_pos (.inl c1),decide_eq_true (by omega : 2 * p < 2 * r)]; rfl
    · rw [decide_eq_false (by omega : ¬ 2 * p < 2 * r),Bool.false_or]
      by_cases c2 : r = p
      · subst c2
        by_cases c3 : q % 2 = 1
        · rw [if_pos (.inr ⟨rfl,c3⟩),beq_self_eq_true,c3]; rfl
        · rw [if_neg (by omega),show (q % 2 == 1) = false from beq_eq_false_iff_ne.2 c3,Bool.and_false]; rfl
      · rw [if_neg (by omega),show (2 * p == 2 * r) = false from beq_eq_false_iff_ne.2 (by omega)]; rfl
  rw [he]; exact h
theorem cut_zero (neg : Bool) (n : Nat) : Toward.even.cut neg n 0 = n := by
  refine Cut.uniq (G := 1) Nat.one_pos (by have := cut_even neg n 0; rwa [Nat.pow_zero] at this) ⟨?_,.inl (by omega)⟩
  rcases Nat.eq_zero_or_pos n with h | h
  · exact .inl h
  · exact .inr (.inl (by omega))
theorem cut_small {neg : Bool} {n d : Nat} (h : 2 * n < 2 ^ d) : Toward.even.cut neg n d = 0 :=
  Cut.uniq (Nat.two_pow_pos d) (cut_even neg n d) ⟨.inl rfl,.inl (by omega)⟩
/-- The last place that is kept. -/
def lastP (man : Nat) (exp : Int) : Int := max (exp + (man.log2 : Nat) - ((52 : Nat) : Int)) (-1074)
theorem rung_eq {man : Nat} (h : 0 < man) (exp : Int) : rung man exp = min ((lastP man exp - (-1074)).toNat * 2 ^ 52 + Toward.even.cut false (man <<< (exp - lastP man exp).toNat) (lastP man exp - exp).toNat) iR := by
  unfold rung lastP
  rw [if_neg (by omega)]
theorem join_low {man : Nat} (hm : man < 2 ^ 64) {exp : Int} (he : exp < -3000) : rung man exp = 0 := by
  rcases Nat.eq_zero_or_pos man with h | h
  · subst h; rfl
  · have hl : man.log2 < 64 := (Nat.log2_lt (by omega)).2 hm
    have hq : lastP man exp = -1074 := by unfold lastP; omega
    rw [rung_eq h,hq]
    have e1 : (exp - -1074).toNat = 0 := by omega
    have e2 : ((-1074 : Int) - -1074).toNat = 0 := by omega
    have e3 : 65 ≤ (-1074 - exp).toNat := by omega
    rw [e1,e2,Nat.shiftLeft_zero,cut_small,Nat.zero_mul]
    · exact Nat.zero_min _
    · have := Nat.pow_le_pow_right (n := 2) (by omega) e3
      omega
theorem join_high {man : Nat} (h : 0 < man) {exp : Int} (he : 3000 < exp) : rung man exp = iR := by
  rw [rung_eq h]
  refine Nat.min_eq_right ?_
  have hq : exp - 52 ≤ lastP man exp := by unfold lastP; omega
  have : 2947 ≤ (lastP man exp - -1074).toNat := by omega
  unfold iR
  have := Nat.mul_le_mul_right (2 ^ 52) this
  omega
theorem join_far {man : Nat} (h : 0 < man) (hm : man < 2 ^ 64) {exp : Int} (hs : 64 < (lastP man exp - exp).toNat) : rung man exp = 0 := by
  have hl : man.log2 < 64 := (Nat.log2_lt (by omega)).2 hm
  have hq : lastP man exp = -1074 := by
    have h2 := hs
    unfold lastP at h2 ⊢
    omega
  rw [rung_eq h]
  rw [hq] at hs ⊢
  have e1 : (exp - -1074).toNat = 0 := by omega
  have e2 : ((-1074 : Int) - -1074).toNat = 0 := by omega
  rw [e1,e2,Nat.shiftLeft_zero,cut_small,Nat.zero_mul]
  · exact Nat.zero_min _
  · have := Nat.pow_le_pow_right (n := 2) (by omega) (show 65 ≤ (-1074 - exp).toNat from hs)
    omega
/-- What is kept. -/
def kept (man : Nat) (exp : Int) : Nat := if lastP man exp ≤ exp then man * 2 ^ (exp - lastP man exp).toNat else half man (lastP man exp - exp).toNat
theorem join_mid {man : Nat} (h : 0 < man) (exp : Int) : rung man exp = min ((lastP man exp - (-1074)).toNat * 2 ^ 52 + kept man exp) iR := by
  rw [rung_eq h]
  unfold kept
  by_cases c : lastP man exp ≤ exp
  · have e : (lastP man exp - exp).toNat = 0 := by omega
    rw [if_pos c,e,cut_zero,Nat.shiftLeft_eq]
  · have e : (exp - lastP man exp).toNat = 0 := by omega
    rw [if_neg c,e,Nat.shiftLeft_zero,half_cut (by omega)]
end Go.Proofs.YtmnkmdfladbgdaaRnd
set_option linter.unusedVariables false
namespace Go.Proofs.YtmnkmdfladbgdaaRnd
open Ieee

theorem sticky_near {Q d : Nat} (hd : 0 < d) (hbig : 2 ^ 53 ≤ Q / d) (pl : Int) : Near (Q * 2 ^ (pl + 1 + 1075).toNat) (d * 2 ^ (-(pl + 1 + 1075)).toNat) (rung (2 * (Q / d) + (Q % d != 0).toNat) pl) := by
  obtain ⟨e,he⟩ : ∃ x,x = pl + 1075 := ⟨_,rfl⟩
  have key := near_rung' (2 * (Q / d) + (Q % d != 0).toNat) pl
  rw [← he] at key
  have hpl : pl + 1 + 1075 = e + 1 := by omega
  rw [hpl]
  refine key.cmp fun k => ?_
  obtain ⟨t,c,hM,hc⟩ := Mr_form k
  have hcond : 2 ^ (e + 1).toNat ∣ Mr k * 2 ^ (-(e + 1)).toNat ∨ Mr k * 2 ^ (-(e + 1)).toNat < Q / d * 2 ^ (e + 1).toNat := by
    rcases Int.le_total (e + 1) 0 with hh | hh
    · have : (e + 1).toNat = 0 := by omega
      rw [this]; exact .inl (Nat.one_dvd _)
    · have hu : (-(e + 1)).toNat = 0 := by omega
      rw [hu,Nat.pow_zero,Nat.mul_one,hM]
      rcases Nat.le_total (e + 1).toNat t with ht | ht
      · exact .inl (Nat.dvd_trans (Nat.pow_dvd_pow 2 ht) (Nat.dvd_mul_left _ _))
      · rcases Nat.lt_or_eq_of_le ht with ht | ht
        · refine .inr ?_
          have a1 : c * 2 ^ t < 2 ^ 54 * 2 ^ t := Nat.mul_lt_mul_of_pos_right hc (Nat.two_pow_pos t)
          have a2 : 2 ^ 53 * 2 ^ (e + 1).toNat ≤ Q / d * 2 ^ (e + 1).toNat := Nat.mul_le_mul_right _ hbig
          rw [← Nat.pow_add] at a1 a2
          exact Nat.lt_of_lt_of_le a1 (Nat.le_trans (Nat.pow_le_pow_right (by omega) (by omega)) a2)
        · rw [ht]; exact .inl (Nat.dvd_mul_left _ _)
  obtain ⟨s1,s2⟩ := sticky_cmp (Q := Q) hd hcond (Nat.two_pow_pos _)
  have p1 := pw_lt (x := 2 * Mr k) (y := 2 * (Q / d) + (Q % d != 0).toNat) (a := (-(e + 1)).toNat) (b := (e + 1).toNat) (c := (-e).toNat) (d := e.toNat + 1) (by omega)
  generalize 2 * (Q / d) + (Q % d != 0).toNat = X at *
  have r1 : 2 * (Mr k * 2 ^ (-(e + 1)).toNat) = 2 * Mr k * 2 ^ (-(e + 1)).toNat := (Nat.mul_assoc _ _ _).symm
  have r2 : Mr k * 2 ^ (-(e + 1)).toNat * d = Mr k * (d * 2 ^ (-(e + 1)).toNat) := by rw [Nat.mul_assoc,Nat.mul_comm d]
  have r4 : X * 2 ^ (e.toNat + 1) = 2 * (X * 2 ^ e.toNat) := by rw [Nat.pow_succ]; simp only [Nat.mul_comm,Nat.mul_left_comm]
  have r5 : 2 * Mr k * 2 ^ (-e).toNat = 2 * (Mr k * 2 ^ (-e).toNat) := Nat.mul_assoc _ _ _
  rw [r1,r2] at s1 s2
  rw [r4,r5] at p1
  obtain ⟨p1a,p1b⟩ := p1
  refine ⟨?_,?_⟩
  · rw [s1,p1a]; omega
  · rw [s2,p1b]; omega
/-- A number of many digits, cut off with its rest told. -/
theorem rung_cut {n s : Nat} (h : 2 ^ 53 ≤ n / 2 ^ s) (exp : Int) : rung (2 * (n / 2 ^ s) + (n % 2 ^ s != 0).toNat) (exp + s - 1) = rung n exp := by
  have h1 := sticky_near (Nat.two_pow_pos s) h (exp + s - 1)
  have h2 := near_rung' n exp
  refine h1.uniq (Nat.mul_pos (Nat.two_pow_pos s) (Nat.two_pow_pos _)) (Nat.two_pow_pos _) h2 ?_
  have e : (exp + s - 1 + 1 + 1075).toNat + (-(exp + 1075)).toNat = (exp + 1075).toNat + (s + (-(exp + s - 1 + 1 + 1075)).toNat) := by omega
  rw [Nat.mul_assoc,Nat.mul_assoc,← Nat.pow_add,← Nat.pow_add,← Nat.pow_add,e]
/-- A quotient of naturals, cut off twice. -/
theorem div_cut {Q n s : Nat} (hn : 0 < n) : Q / (n * 2 ^ s) = Q / n / 2 ^ s ∧ (Q % (n * 2 ^ s) = 0 ↔ Q % n = 0 ∧ Q / n % 2 ^ s = 0) := by
  refine ⟨(Nat.div_div_eq_div_mul Q n (2 ^ s)).symm,?_⟩
  rw [Nat.mod_mul]
  constructor
  · intro h
    have h1 : Q % n = 0 := by omega
    have h2 : n * (Q / n % 2 ^ s) = 0 := by omega
    rcases Nat.mul_eq_zero.1 h2 with x | x
    · omega
    · exact ⟨h1,x⟩
  · rintro ⟨h1,h2⟩
    rw [h1,h2,Nat.mul_zero]
end Go.Proofs.YtmnkmdfladbgdaaRnd
