/- Floats by their bits: how two stand to each other is told by a whole number, the key. -/
import Ieee.Arith
set_option linter.unusedVariables false
set_option linter.unusedSimpArgs false
namespace Go.Proofs.YthhhmmildgijhaaGreatDoorFl
open Ieee

/-- A word's number with its sign, in rungs. -/
def sv (b : Nat) : Int := if 9223372036854775808 ≤ b then -((b % 9223372036854775808 : Nat) : Int) else ((b % 9223372036854775808 : Nat) : Int)
def isN (b : Nat) : Bool := decide (9218868437227405312 < b % 9223372036854775808)
/-- The magnitude of a rung, and its place. -/
def mg (r : Nat) : Nat := if r < 4503599627370496 then r else 4503599627370496 + r % 4503599627370496
def pl (r : Nat) : Int := if r < 4503599627370496 then -1074 else -1074 + ((r / 4503599627370496 - 1 : Nat) : Int)
def mv (r : Nat) : Nat := mg r * 2 ^ (pl r + 1074).toNat

theorem pl_ge (r : Nat) : -1074 ≤ pl r := by unfold pl; split <;> omega
theorem mv_lt {r s : Nat} (h : r < s) : mv r < mv s := by
  unfold mv mg pl
  by_cases h1 : s < 4503599627370496
  · rw [if_pos h1, if_pos (by omega), if_pos (by omega), if_pos h1]
    exact Nat.mul_lt_mul_of_pos_right h (Nat.two_pow_pos _)
  · rw [if_neg h1, if_neg h1]
    by_cases h2 : r < 4503599627370496
    · rw [if_pos h2, if_pos h2]
      have e : ((-1074 : Int) + 1074).toNat = 0 := by rfl
      rw [e, Nat.pow_zero, Nat.mul_one]
      have := Nat.mul_le_mul_left (4503599627370496 + s % 4503599627370496) (Nat.two_pow_pos ((-1074 : Int) + ((s / 4503599627370496 - 1 : Nat) : Int) + 1074).toNat)
      omega
    · rw [if_neg h2, if_neg h2]
      have e1 : ((-1074 : Int) + ((s / 4503599627370496 - 1 : Nat) : Int) + 1074).toNat = s / 4503599627370496 - 1 := by omega
      have e2 : ((-1074 : Int) + ((r / 4503599627370496 - 1 : Nat) : Int) + 1074).toNat = r / 4503599627370496 - 1 := by omega
      rw [e1, e2]
      rcases Nat.lt_or_ge (r / 4503599627370496) (s / 4503599627370496) with h3 | h3
      · obtain ⟨d, hd⟩ : ∃ d, s / 4503599627370496 - 1 = r / 4503599627370496 - 1 + 1 + d := ⟨s / 4503599627370496 - r / 4503599627370496 - 1, by omega⟩
        rw [hd, Nat.pow_add, Nat.pow_add, Nat.pow_one]
        have hp := Nat.two_pow_pos (r / 4503599627370496 - 1)
        have hq := Nat.two_pow_pos d
        generalize 2 ^ (r / 4503599627370496 - 1) = p at *
        generalize 2 ^ d = q at *
        have h4 : (4503599627370496 + r % 4503599627370496) * p < 9007199254740992 * p := Nat.mul_lt_mul_of_pos_right (by omega) hp
        have h5 : 4503599627370496 * (p * 2 * 1) ≤ (4503599627370496 + s % 4503599627370496) * (p * 2 * q) := Nat.mul_le_mul (by omega) (Nat.mul_le_mul_left _ hq)
        omega
      · have h4 : s / 4503599627370496 = r / 4503599627370496 := by have := Nat.div_le_div_right (c := 4503599627370496) (Nat.le_of_lt h); omega
        rw [h4]
        exact Nat.mul_lt_mul_of_pos_right (by omega) (Nat.two_pow_pos _)
theorem mv_le {r s : Nat} (h : r ≤ s) : mv r ≤ mv s := by
  rcases Nat.lt_or_eq_of_le h with h | rfl
  · exact Nat.le_of_lt (mv_lt h)
  · exact Nat.le_refl _
theorem mv_zero : mv 0 = 0 := by simp [mv, mg]
theorem mv_pos {r : Nat} (h : 0 < r) : 0 < mv r := by have := mv_lt h; rw [mv_zero] at this; exact this

theorem cmp_scale (a b : Int) (k : Nat) (hk : 0 < k) : compare (a * k) (b * k) = compare a b := by
  have hk' : (0 : Int) < k := by omega
  rcases Int.lt_trichotomy a b with h | h | h
  · rw [Int.compare_eq_lt.2 h, Int.compare_eq_lt]; exact Int.mul_lt_mul_of_pos_right h hk'
  · subst h; rw [Int.compare_eq_eq.2 (rfl : a * (k : Int) = a * k), Int.compare_eq_eq.2 (rfl : a = a)]
  · rw [Int.compare_eq_gt.2 h, Int.compare_eq_gt]; exact Int.mul_lt_mul_of_pos_right h hk'

theorem signed_scale (s : Bool) (m u k : Nat) : signed s m u * (2 ^ k : Nat) = if s then -((m * 2 ^ (u + k) : Nat) : Int) else ((m * 2 ^ (u + k) : Nat) : Int) := by
  unfold signed
  rw [Nat.shiftLeft_eq, Nat.pow_add, ← Nat.mul_assoc]
  cases s
  · simp
  · simp [Int.neg_mul]

def sg (s : Bool) (r : Nat) : Int := if s then -(r : Int) else (r : Int)
theorem sg_mv (s t : Bool) (r q : Nat) : compare (sg s (mv r)) (sg t (mv q)) = compare (sg s r) (sg t q) := by
  have hr : r = 0 ∨ 0 < mv r := by
    rcases Nat.eq_zero_or_pos r with h | h
    · exact .inl h
    · exact .inr (mv_pos h)
  have hq : q = 0 ∨ 0 < mv q := by
    rcases Nat.eq_zero_or_pos q with h | h
    · exact .inl h
    · exact .inr (mv_pos h)
  have z := mv_zero
  have c1 := @mv_lt r q
  have c2 := @mv_lt q r
  have fin : ∀ a b c d : Int, (a < b ↔ c < d) → (b < a ↔ d < c) → compare a b = compare c d := by
    intro a b c d h1 h2
    rcases Int.lt_trichotomy c d with h | h | h
    · rw [Int.compare_eq_lt.2 h, Int.compare_eq_lt]; exact h1.2 h
    · rw [Int.compare_eq_eq.2 h, Int.compare_eq_eq]; have := mt h1.1; have := mt h2.1; omega
    · rw [Int.compare_eq_gt.2 h, Int.compare_eq_gt]; exact h2.2 h
  have key : (mv r < mv q ↔ r < q) ∧ (mv q < mv r ↔ q < r) := by
    rcases Nat.lt_trichotomy r q with h | h | h
    · have := c1 h; omega
    · subst h; simp
    · have := c2 h; omega
  have hr0 : r = 0 ↔ mv r = 0 := ⟨fun h => by rw [h, z], fun h => by omega⟩
  have hq0 : q = 0 ↔ mv q = 0 := ⟨fun h => by rw [h, z], fun h => by omega⟩
  apply fin <;> cases s <;> cases t <;> simp only [sg, if_true, if_false, Bool.false_eq_true] <;> omega

theorem num_order (s t : Bool) (r q : Nat) :
    (Datum.number s (mg r) (pl r)).order (Datum.number t (mg q) (pl q)) = some (compare (sg s r) (sg t q)) := by
  simp only [Datum.order, Option.some.injEq]
  have p1 := pl_ge r
  have p2 := pl_ge q
  have hb : -1074 ≤ min (pl r) (pl q) := by omega
  rw [← cmp_scale _ _ (2 ^ (min (pl r) (pl q) + 1074).toNat) (Nat.two_pow_pos _), signed_scale, signed_scale, ← sg_mv]
  have e1 : (pl r - min (pl r) (pl q)).toNat + (min (pl r) (pl q) + 1074).toNat = (pl r + 1074).toNat := by omega
  have e2 : (pl q - min (pl r) (pl q)).toNat + (min (pl r) (pl q) + 1074).toNat = (pl q + 1074).toNat := by omega
  rw [e1, e2]
  rfl

theorem read_eq (b : Nat) (hb : b < 18446744073709551616) : double.read b = if b % 9223372036854775808 < 9218868437227405312 then .number (decide (9223372036854775808 ≤ b)) (mg (b % 9223372036854775808)) (pl (b % 9223372036854775808))
    else if b % 9223372036854775808 = 9218868437227405312 then .infinity (decide (9223372036854775808 ≤ b)) else .nan (decide (9223372036854775808 ≤ b)) (b % 9223372036854775808 - 9218868437227405312) := by
  have e1 : double.signWeight = 9223372036854775808 := by rfl
  have e2 : double.binade = 4503599627370496 := by rfl
  have e3 : double.infRung = 9218868437227405312 := by rfl
  have e4 : double.leastPlace = -1074 := by rfl
  have hn : (b / 9223372036854775808 % 2 == 1) = decide (9223372036854775808 ≤ b) := by
    rw [Bool.eq_iff_iff]; simp only [beq_iff_eq, decide_eq_true_eq]; omega
  unfold Format.read
  simp only [e1, e2, e3, e4, hn]
  by_cases h1 : b % 9223372036854775808 < 4503599627370496
  · rw [if_pos h1, if_pos (by omega)]
    simp [mg, pl, h1]
  · rw [if_neg h1]
    by_cases h2 : b % 9223372036854775808 < 9218868437227405312
    · rw [if_pos h2, if_pos h2]
      simp [mg, pl, h1]
    · rw [if_neg h2, if_neg h2]

theorem cmp_lt {a b : Int} (h : a < b) : compare a b = .lt := Int.compare_eq_lt.2 h
theorem cmp_gt {a b : Int} (h : b < a) : compare a b = .gt := Int.compare_eq_gt.2 h
theorem cmp_eq {a b : Int} (h : a = b) : compare a b = .eq := Int.compare_eq_eq.2 h

theorem sv_sg (b : Nat) : sv b = sg (decide (9223372036854775808 ≤ b)) (b % 9223372036854775808) := by
  unfold sv sg; by_cases h : 9223372036854775808 ≤ b <;> simp [h]

theorem order_eq (a b : Nat) (ha : a < 18446744073709551616) (hb : b < 18446744073709551616) :
    double.order a b = if isN a || isN b then none else some (compare (sv a) (sv b)) := by
  unfold Format.order
  rw [read_eq a ha, read_eq b hb]
  have fs : ∀ (x : Bool) (r : Nat), sg x r = if x then -(r : Int) else r := fun _ _ => rfl
  by_cases a1 : a % 9223372036854775808 < 9218868437227405312
  · have an : isN a = false := by simp only [isN, decide_eq_false_iff_not]; omega
    rw [if_pos a1]
    by_cases b1 : b % 9223372036854775808 < 9218868437227405312
    · have bn : isN b = false := by simp only [isN, decide_eq_false_iff_not]; omega
      rw [if_pos b1, an, bn, num_order, sv_sg, sv_sg]; rfl
    · rw [if_neg b1]
      by_cases b2 : b % 9223372036854775808 = 9218868437227405312
      · have bn : isN b = false := by simp only [isN, decide_eq_false_iff_not]; omega
        rw [if_pos b2, an, bn]
        simp only [Datum.order, Bool.or_self, Bool.false_eq_true, if_false, Option.some.injEq]
        symm
        by_cases hs : 9223372036854775808 ≤ b
        · simp only [hs, decide_true, if_true]
          apply cmp_gt; unfold sv; (repeat' split) <;> omega
        · simp only [hs, decide_false, if_false, Bool.false_eq_true]
          apply cmp_lt; unfold sv; (repeat' split) <;> omega
      · have bn : isN b = true := by simp only [isN, decide_eq_true_eq]; omega
        rw [if_neg b2, an, bn]; rfl
  · rw [if_neg a1]
    by_cases a2 : a % 9223372036854775808 = 9218868437227405312
    · have an : isN a = false := by simp only [isN, decide_eq_false_iff_not]; omega
      rw [if_pos a2]
      by_cases b1 : b % 9223372036854775808 < 9218868437227405312
      · have bn : isN b = false := by simp only [isN, decide_eq_false_iff_not]; omega
        rw [if_pos b1, an, bn]
        simp only [Datum.order, Bool.or_self, Bool.false_eq_true, if_false, Option.some.injEq]
        symm
        by_cases hs : 9223372036854775808 ≤ a
        · simp only [hs, decide_true, if_true]
          apply cmp_lt; unfold sv; (repeat' split) <;> omega
        · simp only [hs, decide_false, if_false, Bool.false_eq_true]
          apply cmp_gt; unfold sv; (repeat' split) <;> omega
      · rw [if_neg b1]
        by_cases b2 : b % 9223372036854775808 = 9218868437227405312
        · have bn : isN b = false := by simp only [isN, decide_eq_false_iff_not]; omega
          rw [if_pos b2, an, bn]
          simp only [Datum.order, Bool.or_self, Bool.false_eq_true, if_false, Option.some.injEq]
          symm
          by_cases hs : 9223372036854775808 ≤ a <;> by_cases ht : 9223372036854775808 ≤ b <;> simp only [hs, ht, decide_true, decide_false]
          · rw [cmp_eq (by unfold sv; (repeat' split) <;> omega)]; rfl
          · rw [cmp_lt (by unfold sv; (repeat' split) <;> omega)]; rfl
          · rw [cmp_gt (by unfold sv; (repeat' split) <;> omega)]; rfl
          · rw [cmp_eq (by unfold sv; (repeat' split) <;> omega)]; rfl
        · have bn : isN b = true := by simp only [isN, decide_eq_true_eq]; omega
          rw [if_neg b2, an, bn]; rfl
    · have an : isN a = true := by simp only [isN, decide_eq_true_eq]; omega
      rw [if_neg a2, an]
      simp [Datum.order]

/-- The order of floats by a key. -/
def key (b : Nat) : Nat := if 9218868437227405312 < b % 9223372036854775808 then 0 else if 9223372036854775808 ≤ b then 9218868437227405312 - b % 9223372036854775808 + 1 else 9218868437227405312 + b + 2
def cmpK (a b : Nat) : Int := if key a < key b then -1 else if key b < key a then 1 else 0
theorem key_lt (b : Nat) (hb : b < 18446744073709551616) : key b < 18446744073709551616 := by unfold key; split <;> (try split) <;> omega

theorem fneq_self (a : Nat) (ha : a < 18446744073709551616) : (double.order a a != some .eq) = isN a := by
  rw [order_eq a a ha ha]
  cases h : isN a
  · simp [cmp_eq]
  · simp
theorem flt (a b : Nat) (ha : a < 18446744073709551616) (hb : b < 18446744073709551616) : (double.order a b == some .lt) = (!isN a && !isN b && decide (sv a < sv b)) := by
  rw [order_eq a b ha hb]
  cases h : isN a <;> cases h' : isN b <;> simp
  rcases Int.lt_trichotomy (sv a) (sv b) with h | h | h
  · simp [cmp_lt h, h]
  · simp [cmp_eq h, h]
  · simp [cmp_gt h, show ¬ sv a < sv b by omega]
theorem fgt (a b : Nat) (ha : a < 18446744073709551616) (hb : b < 18446744073709551616) : (double.order a b == some .gt) = (!isN a && !isN b && decide (sv b < sv a)) := by
  rw [order_eq a b ha hb]
  cases h : isN a <;> cases h' : isN b <;> simp
  rcases Int.lt_trichotomy (sv a) (sv b) with h | h | h
  · simp [cmp_lt h, show ¬ sv b < sv a by omega]
  · simp [cmp_eq h, h]
  · simp [cmp_gt h, h]

/-- The program's comparison. -/
def cmpP (a b : Nat) : Int :=
  if isN a && isN b then 0 else if isN a then -1 else if isN b then 1 else if sv a < sv b then -1 else if sv b < sv a then 1
  else if (decide (9223372036854775808 ≤ a) == decide (9223372036854775808 ≤ b)) then 0 else if 9223372036854775808 ≤ a then -1 else 1
theorem cmpP_eq (a b : Nat) (ha : a < 18446744073709551616) (hb : b < 18446744073709551616) : cmpP a b = cmpK a b := by
  unfold cmpP cmpK
  have na : isN a = decide (9218868437227405312 < a % 9223372036854775808) := rfl
  have nb : isN b = decide (9218868437227405312 < b % 9223372036854775808) := rfl
  by_cases h1 : 9218868437227405312 < a % 9223372036854775808 <;> by_cases h2 : 9218868437227405312 < b % 9223372036854775808 <;> simp only [na, nb, h1, h2, decide_true, decide_false, Bool.and_true, Bool.and_false, if_true, if_false, Bool.false_eq_true]
  · have e1 : key a = 0 := by unfold key; rw [if_pos h1]
    have e2 : key b = 0 := by unfold key; rw [if_pos h2]
    rw [e1, e2]; rfl
  · have e1 : key a = 0 := by unfold key; rw [if_pos h1]
    have e2 : 0 < key b := by unfold key; rw [if_neg h2]; split <;> omega
    rw [if_pos (by omega)]
  · have e1 : 0 < key a := by unfold key; rw [if_neg h1]; split <;> omega
    have e2 : key b = 0 := by unfold key; rw [if_pos h2]
    rw [if_neg (by omega), if_pos (by omega)]
  · by_cases s1 : 9223372036854775808 ≤ a <;> by_cases s2 : 9223372036854775808 ≤ b <;> simp only [sv, key, h1, h2, s1, s2, if_true, if_false, decide_true, decide_false, beq_self_eq_true, Bool.false_eq_true, (by rfl : (true == false) = false), (by rfl : (false == true) = false)] <;> (repeat' split) <;> first | rfl | omega | contradiction | simp_all
end Go.Proofs.YthhhmmildgijhaaGreatDoorFl
