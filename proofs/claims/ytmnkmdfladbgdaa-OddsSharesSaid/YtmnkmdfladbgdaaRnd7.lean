/- Rounding: a quotient cut off to 54 digits and more, its rest told, rounds as the whole one does. -/
import Derived.Test.YtmnkmdfladbgdaaRnd5
set_option linter.unusedVariables false
namespace Go.Proofs.YtmnkmdfladbgdaaRnd
open Ieee

theorem Cut.uniq {n G c d : Nat} (hG : 0 < G) (h : Cut n G c) (h' : Cut n G d) : c = d := by
  have key : ∀ {c d : Nat}, Cut n G c → Cut n G d → ¬ c < d := fun {c d} h h' hlt => by
    obtain ⟨_, h2⟩ := h
    obtain ⟨h1, _⟩ := h'
    have a1 : (2 * c + 1) * G ≤ (2 * d - 1) * G := Nat.mul_le_mul_right G (by omega)
    rcases h1 with h1 | h1 | ⟨h1, p1⟩
    · omega
    · rcases h2 with h2 | ⟨h2, p2⟩ <;> omega
    · rcases h2 with h2 | ⟨h2, p2⟩
      · omega
      · have e : (2 * c + 1) * G = (2 * d - 1) * G := by omega
        have := Nat.eq_of_mul_eq_mul_right hG e
        omega
  rcases Nat.lt_trichotomy c d with x | x | x
  · exact absurd x (key h h')
  · exact x
  · exact absurd x (key h' h)
/-- man over 2^s, half to the even: as the document does it. -/
def half (man s : Nat) : Nat := if 2 ^ (s - 1) < man % 2 ^ s ∨ (man % 2 ^ s = 2 ^ (s - 1) ∧ man / 2 ^ s % 2 = 1) then man / 2 ^ s + 1 else man / 2 ^ s
theorem half_cut {man s : Nat} (hs : 0 < s) : half man s = Toward.even.cut false man s := by
  refine Cut.uniq (Nat.two_pow_pos s) ?_ (cut_even false man s)
  have h := cut_of (n := man) (G := 2 ^ s) (Nat.div_add_mod man (2 ^ s)).symm (Nat.mod_lt _ (Nat.two_pow_pos s))
  have hp : 2 ^ s = 2 * 2 ^ (s - 1) := by rw [← Nat.pow_succ', Nat.succ_eq_add_one, Nat.sub_add_cancel hs]
  have he : half man s = man / 2 ^ s + ((decide (2 ^ s < 2 * (man % 2 ^ s))) || (2 ^ s == 2 * (man % 2 ^ s) && man / 2 ^ s % 2 == 1)).toNat := by
    unfold half
    generalize man / 2 ^ s = q
    generalize man % 2 ^ s = r
    rw [hp]
    generalize 2 ^ (s - 1) = p
    by_cases c1 : p < r
    · rw [if_pos (.inl c1), decide_eq_true (by omega : 2 * p < 2 * r)]; rfl
    · rw [decide_eq_false (by omega : ¬ 2 * p < 2 * r), Bool.false_or]
      by_cases c2 : r = p
      · subst c2
        by_cases c3 : q % 2 = 1
        · rw [if_pos (.inr ⟨rfl, c3⟩), beq_self_eq_true, c3]; rfl
        · rw [if_neg (by omega), show (q % 2 == 1) = false from beq_eq_false_iff_ne.2 c3, Bool.and_false]; rfl
      · rw [if_neg (by omega), show (2 * p == 2 * r) = false from beq_eq_false_iff_ne.2 (by omega)]; rfl
  rw [he]; exact h
theorem cut_zero (neg : Bool) (n : Nat) : Toward.even.cut neg n 0 = n := by
  refine Cut.uniq (G := 1) Nat.one_pos (by have := cut_even neg n 0; rwa [Nat.pow_zero] at this) ⟨?_, .inl (by omega)⟩
  rcases Nat.eq_zero_or_pos n with h | h
  · exact .inl h
  · exact .inr (.inl (by omega))
theorem cut_small {neg : Bool} {n d : Nat} (h : 2 * n < 2 ^ d) : Toward.even.cut neg n d = 0 :=
  Cut.uniq (Nat.two_pow_pos d) (cut_even neg n d) ⟨.inl rfl, .inl (by omega)⟩
/-- The last place that is kept. -/
def lastP (man : Nat) (exp : Int) : Int := max (exp + (man.log2 : Nat) - ((52 : Nat) : Int)) (-1074)
theorem rung_eq {man : Nat} (h : 0 < man) (exp : Int) : rung man exp = min ((lastP man exp - (-1074)).toNat * 2 ^ 52 + Toward.even.cut false (man <<< (exp - lastP man exp).toNat) (lastP man exp - exp).toNat) iR := by
  unfold rung lastP
  rw [if_neg (by omega)]
theorem join_low {man : Nat} (hm : man < 2 ^ 64) {exp : Int} (he : exp < -3000) : rung man exp = 0 := by
  rcases Nat.eq_zero_or_pos man with h | h
  · subst h; rfl
  · have hl : man.log2 < 64 := (Nat.log2_lt (by omega)).2 hm
    have hq : lastP man exp = -1074 := by unfold lastP; omega
    rw [rung_eq h, hq]
    have e1 : (exp - -1074).toNat = 0 := by omega
    have e2 : ((-1074 : Int) - -1074).toNat = 0 := by omega
    have e3 : 65 ≤ (-1074 - exp).toNat := by omega
    rw [e1, e2, Nat.shiftLeft_zero, cut_small, Nat.zero_mul]
    · exact Nat.zero_min _
    · have := Nat.pow_le_pow_right (n := 2) (by omega) e3
      omega
theorem join_high {man : Nat} (h : 0 < man) {exp : Int} (he : 3000 < exp) : rung man exp = iR := by
  rw [rung_eq h]
  refine Nat.min_eq_right ?_
  have hq : exp - 52 ≤ lastP man exp := by unfold lastP; omega
  have : 2947 ≤ (lastP man exp - -1074).toNat := by omega
  unfold iR
  have := Nat.mul_le_mul_right (2 ^ 52) this
  omega
theorem join_far {man : Nat} (h : 0 < man) (hm : man < 2 ^ 64) {exp : Int} (hs : 64 < (lastP man exp - exp).toNat) : rung man exp = 0 := by
  have hl : man.log2 < 64 := (Nat.log2_lt (by omega)).2 hm
  have hq : lastP man exp = -1074 := by
    have h2 := hs
    unfold lastP at h2 ⊢
    omega
  rw [rung_eq h]
  rw [hq] at hs ⊢
  have e1 : (exp - -1074).toNat = 0 := by omega
  have e2 : ((-1074 : Int) - -1074).toNat = 0 := by omega
  rw [e1, e2, Nat.shiftLeft_zero, cut_small, Nat.zero_mul]
  · exact Nat.zero_min _
  · have := Nat.pow_le_pow_right (n := 2) (by omega) (show 65 ≤ (-1074 - exp).toNat from hs)
    omega
/-- What is kept. -/
def kept (man : Nat) (exp : Int) : Nat := if lastP man exp ≤ exp then man * 2 ^ (exp - lastP man exp).toNat else half man (lastP man exp - exp).toNat
theorem join_mid {man : Nat} (h : 0 < man) (exp : Int) : rung man exp = min ((lastP man exp - (-1074)).toNat * 2 ^ 52 + kept man exp) iR := by
  rw [rung_eq h]
  unfold kept
  by_cases c : lastP man exp ≤ exp
  · have e : (lastP man exp - exp).toNat = 0 := by omega
    rw [if_pos c, e, cut_zero, Nat.shiftLeft_eq]
  · have e : (exp - lastP man exp).toNat = 0 := by omega
    rw [if_neg c, e, Nat.shiftLeft_zero, half_cut (by omega)]
end Go.Proofs.YtmnkmdfladbgdaaRnd
set_option linter.unusedVariables false
namespace Go.Proofs.YtmnkmdfladbgdaaRnd
open Ieee

theorem sticky_near {Q d : Nat} (hd : 0 < d) (hbig : 2 ^ 53 ≤ Q / d) (pl : Int) : Near (Q * 2 ^ (pl + 1 + 1075).toNat) (d * 2 ^ (-(pl + 1 + 1075)).toNat) (rung (2 * (Q / d) + (Q % d != 0).toNat) pl) := by
  obtain ⟨e, he⟩ : ∃ x, x = pl + 1075 := ⟨_, rfl⟩
  have key := near_rung' (2 * (Q / d) + (Q % d != 0).toNat) pl
  rw [← he] at key
  have hpl : pl + 1 + 1075 = e + 1 := by omega
  rw [hpl]
  refine key.cmp fun k => ?_
  obtain ⟨t, c, hM, hc⟩ := Mr_form k
  have hcond : 2 ^ (e + 1).toNat ∣ Mr k * 2 ^ (-(e + 1)).toNat ∨ Mr k * 2 ^ (-(e + 1)).toNat < Q / d * 2 ^ (e + 1).toNat := by
    rcases Int.le_total (e + 1) 0 with hh | hh
    · have : (e + 1).toNat = 0 := by omega
      rw [this]; exact .inl (Nat.one_dvd _)
    · have hu : (-(e + 1)).toNat = 0 := by omega
      rw [hu, Nat.pow_zero, Nat.mul_one, hM]
      rcases Nat.le_total (e + 1).toNat t with ht | ht
      · exact .inl (Nat.dvd_trans (Nat.pow_dvd_pow 2 ht) (Nat.dvd_mul_left _ _))
      · rcases Nat.lt_or_eq_of_le ht with ht | ht
        · refine .inr ?_
          have a1 : c * 2 ^ t < 2 ^ 54 * 2 ^ t := Nat.mul_lt_mul_of_pos_right hc (Nat.two_pow_pos t)
          have a2 : 2 ^ 53 * 2 ^ (e + 1).toNat ≤ Q / d * 2 ^ (e + 1).toNat := Nat.mul_le_mul_right _ hbig
          rw [← Nat.pow_add] at a1 a2
          exact Nat.lt_of_lt_of_le a1 (Nat.le_trans (Nat.pow_le_pow_right (by omega) (by omega)) a2)
        · rw [ht]; exact .inl (Nat.dvd_mul_left _ _)
  obtain ⟨s1, s2⟩ := sticky_cmp (Q := Q) hd hcond (Nat.two_pow_pos _)
  have p1 := pw_lt (x := 2 * Mr k) (y := 2 * (Q / d) + (Q % d != 0).toNat) (a := (-(e + 1)).toNat) (b := (e + 1).toNat) (c := (-e).toNat) (d := e.toNat + 1) (by omega)
  generalize 2 * (Q / d) + (Q % d != 0).toNat = X at *
  have r1 : 2 * (Mr k * 2 ^ (-(e + 1)).toNat) = 2 * Mr k * 2 ^ (-(e + 1)).toNat := (Nat.mul_assoc _ _ _).symm
  have r2 : Mr k * 2 ^ (-(e + 1)).toNat * d = Mr k * (d * 2 ^ (-(e + 1)).toNat) := by rw [Nat.mul_assoc, Nat.mul_comm d]
  have r4 : X * 2 ^ (e.toNat + 1) = 2 * (X * 2 ^ e.toNat) := by rw [Nat.pow_succ]; simp only [Nat.mul_comm, Nat.mul_left_comm]
  have r5 : 2 * Mr k * 2 ^ (-e).toNat = 2 * (Mr k * 2 ^ (-e).toNat) := Nat.mul_assoc _ _ _
  rw [r1, r2] at s1 s2
  rw [r4, r5] at p1
  obtain ⟨p1a, p1b⟩ := p1
  refine ⟨?_, ?_⟩
  · rw [s1, p1a]; omega
  · rw [s2, p1b]; omega
/-- A number of many digits, cut off with its rest told. -/
theorem rung_cut {n s : Nat} (h : 2 ^ 53 ≤ n / 2 ^ s) (exp : Int) : rung (2 * (n / 2 ^ s) + (n % 2 ^ s != 0).toNat) (exp + s - 1) = rung n exp := by
  have h1 := sticky_near (Nat.two_pow_pos s) h (exp + s - 1)
  have h2 := near_rung' n exp
  refine h1.uniq (Nat.mul_pos (Nat.two_pow_pos s) (Nat.two_pow_pos _)) (Nat.two_pow_pos _) h2 ?_
  have e : (exp + s - 1 + 1 + 1075).toNat + (-(exp + 1075)).toNat = (exp + 1075).toNat + (s + (-(exp + s - 1 + 1 + 1075)).toNat) := by omega
  rw [Nat.mul_assoc, Nat.mul_assoc, ← Nat.pow_add, ← Nat.pow_add, ← Nat.pow_add, e]
/-- A quotient of naturals, cut off twice. -/
theorem div_cut {Q n s : Nat} (hn : 0 < n) : Q / (n * 2 ^ s) = Q / n / 2 ^ s ∧ (Q % (n * 2 ^ s) = 0 ↔ Q % n = 0 ∧ Q / n % 2 ^ s = 0) := by
  refine ⟨(Nat.div_div_eq_div_mul Q n (2 ^ s)).symm, ?_⟩
  rw [Nat.mod_mul]
  constructor
  · intro h
    have h1 : Q % n = 0 := by omega
    have h2 : n * (Q / n % 2 ^ s) = 0 := by omega
    rcases Nat.mul_eq_zero.1 h2 with x | x
    · omega
    · exact ⟨h1, x⟩
  · rintro ⟨h1, h2⟩
    rw [h1, h2, Nat.mul_zero]
end Go.Proofs.YtmnkmdfladbgdaaRnd
