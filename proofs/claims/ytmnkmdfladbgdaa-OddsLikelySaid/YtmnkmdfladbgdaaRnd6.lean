/- Rounding: the document's Join, case by case, is the nearest float. -/
import Derived.Test.YtmnkmdfladbgdaaRnd5
set_option linter.unusedVariables false
namespace Go.Proofs.YtmnkmdfladbgdaaRnd
open Ieee

theorem Cut.uniq {n G c d : Nat} (hG : 0 < G) (h : Cut n G c) (h' : Cut n G d) : c = d := by
  have key : ∀ {c d : Nat}, Cut n G c → Cut n G d → ¬ c < d := fun {c d} h h' hlt => by
    obtain ⟨_, h2⟩ := h
    obtain ⟨h1, _⟩ := h'
    have a1 : (2 * c + 1) * G ≤ (2 * d - 1) * G := Nat.mul_le_mul_right G (by omega)
    rcases h1 with h1 | h1 | ⟨h1, p1⟩
    · omega
    · rcases h2 with h2 | ⟨h2, p2⟩ <;> omega
    · rcases h2 with h2 | ⟨h2, p2⟩
      · omega
      · have e : (2 * c + 1) * G = (2 * d - 1) * G := by omega
        have := Nat.eq_of_mul_eq_mul_right hG e
        omega
  rcases Nat.lt_trichotomy c d with x | x | x
  · exact absurd x (key h h')
  · exact x
  · exact absurd x (key h' h)
/-- man over 2^s, half to the even: as the document does it. -/
def half (man s : Nat) : Nat := if 2 ^ (s - 1) < man % 2 ^ s ∨ (man % 2 ^ s = 2 ^ (s - 1) ∧ man / 2 ^ s % 2 = 1) then man / 2 ^ s + 1 else man / 2 ^ s
theorem half_cut {man s : Nat} (hs : 0 < s) : half man s = Toward.even.cut false man s := by
  refine Cut.uniq (Nat.two_pow_pos s) ?_ (cut_even false man s)
  have h := cut_of (n := man) (G := 2 ^ s) (Nat.div_add_mod man (2 ^ s)).symm (Nat.mod_lt _ (Nat.two_pow_pos s))
  have hp : 2 ^ s = 2 * 2 ^ (s - 1) := by rw [← Nat.pow_succ', Nat.succ_eq_add_one, Nat.sub_add_cancel hs]
  have he : half man s = man / 2 ^ s + ((decide (2 ^ s < 2 * (man % 2 ^ s))) || (2 ^ s == 2 * (man % 2 ^ s) && man / 2 ^ s % 2 == 1)).toNat := by
    unfold half
    generalize man / 2 ^ s = q
    generalize man % 2 ^ s = r
    rw [hp]
    generalize 2 ^ (s - 1) = p
    by_cases c1 : p < r
    · rw [if_pos (.inl c1), decide_eq_true (by omega : 2 * p < 2 * r)]; rfl
    · rw [decide_eq_false (by omega : ¬ 2 * p < 2 * r), Bool.false_or]
      by_cases c2 : r = p
      · subst c2
        by_cases c3 : q % 2 = 1
        · rw [if_pos (.inr ⟨rfl, c3⟩), beq_self_eq_true, c3]; rfl
        · rw [if_neg (by omega), show (q % 2 == 1) = false from beq_eq_false_iff_ne.2 c3, Bool.and_false]; rfl
      · rw [if_neg (by omega), show (2 * p == 2 * r) = false from beq_eq_false_iff_ne.2 (by omega)]; rfl
  rw [he]; exact h
theorem cut_zero (neg : Bool) (n : Nat) : Toward.even.cut neg n 0 = n := by
  refine Cut.uniq (G := 1) Nat.one_pos (by have := cut_even neg n 0; rwa [Nat.pow_zero] at this) ⟨?_, .inl (by omega)⟩
  rcases Nat.eq_zero_or_pos n with h | h
  · exact .inl h
  · exact .inr (.inl (by omega))
theorem cut_small {neg : Bool} {n d : Nat} (h : 2 * n < 2 ^ d) : Toward.even.cut neg n d = 0 :=
  Cut.uniq (Nat.two_pow_pos d) (cut_even neg n d) ⟨.inl rfl, .inl (by omega)⟩
/-- The last place that is kept. -/
def lastP (man : Nat) (exp : Int) : Int := max (exp + (man.log2 : Nat) - ((52 : Nat) : Int)) (-1074)
theorem rung_eq {man : Nat} (h : 0 < man) (exp : Int) : rung man exp = min ((lastP man exp - (-1074)).toNat * 2 ^ 52 + Toward.even.cut false (man <<< (exp - lastP man exp).toNat) (lastP man exp - exp).toNat) iR := by
  unfold rung lastP
  rw [if_neg (by omega)]
theorem join_low {man : Nat} (hm : man < 2 ^ 64) {exp : Int} (he : exp < -3000) : rung man exp = 0 := by
  rcases Nat.eq_zero_or_pos man with h | h
  · subst h; rfl
  · have hl : man.log2 < 64 := (Nat.log2_lt (by omega)).2 hm
    have hq : lastP man exp = -1074 := by unfold lastP; omega
    rw [rung_eq h, hq]
    have e1 : (exp - -1074).toNat = 0 := by omega
    have e2 : ((-1074 : Int) - -1074).toNat = 0 := by omega
    have e3 : 65 ≤ (-1074 - exp).toNat := by omega
    rw [e1, e2, Nat.shiftLeft_zero, cut_small, Nat.zero_mul]
    · exact Nat.zero_min _
    · have := Nat.pow_le_pow_right (n := 2) (by omega) e3
      omega
theorem join_high {man : Nat} (h : 0 < man) {exp : Int} (he : 3000 < exp) : rung man exp = iR := by
  rw [rung_eq h]
  refine Nat.min_eq_right ?_
  have hq : exp - 52 ≤ lastP man exp := by unfold lastP; omega
  have : 2947 ≤ (lastP man exp - -1074).toNat := by omega
  unfold iR
  have := Nat.mul_le_mul_right (2 ^ 52) this
  omega
theorem join_far {man : Nat} (h : 0 < man) (hm : man < 2 ^ 64) {exp : Int} (hs : 64 < (lastP man exp - exp).toNat) : rung man exp = 0 := by
  have hl : man.log2 < 64 := (Nat.log2_lt (by omega)).2 hm
  have hq : lastP man exp = -1074 := by
    have h2 := hs
    unfold lastP at h2 ⊢
    omega
  rw [rung_eq h]
  rw [hq] at hs ⊢
  have e1 : (exp - -1074).toNat = 0 := by omega
  have e2 : ((-1074 : Int) - -1074).toNat = 0 := by omega
  rw [e1, e2, Nat.shiftLeft_zero, cut_small, Nat.zero_mul]
  · exact Nat.zero_min _
  · have := Nat.pow_le_pow_right (n := 2) (by omega) (show 65 ≤ (-1074 - exp).toNat from hs)
    omega
/-- What is kept. -/
def kept (man : Nat) (exp : Int) : Nat := if lastP man exp ≤ exp then man * 2 ^ (exp - lastP man exp).toNat else half man (lastP man exp - exp).toNat
theorem join_mid {man : Nat} (h : 0 < man) (exp : Int) : rung man exp = min ((lastP man exp - (-1074)).toNat * 2 ^ 52 + kept man exp) iR := by
  rw [rung_eq h]
  unfold kept
  by_cases c : lastP man exp ≤ exp
  · have e : (lastP man exp - exp).toNat = 0 := by omega
    rw [if_pos c, e, cut_zero, Nat.shiftLeft_eq]
  · have e : (exp - lastP man exp).toNat = 0 := by omega
    rw [if_neg c, e, Nat.shiftLeft_zero, half_cut (by omega)]
end Go.Proofs.YtmnkmdfladbgdaaRnd
