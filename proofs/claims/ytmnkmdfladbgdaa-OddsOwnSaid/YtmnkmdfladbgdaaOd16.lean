/- Odds: signed sums: what they come to. -/
import Derived.Test.YtmnkmdfladbgdaaOd12
set_option linter.unusedVariables false
set_option linter.unusedSimpArgs false
namespace Go.Proofs.Ytmnkmdfladbgdaa.Od
open Go Go.Proofs Go.RowKit Go.Proofs.YtmnkmdfladbgdaaAI Go.Proofs.YtmnkmdfladbgdaaFl Go.Proofs.YtmnkmdfladbgdaaRnd

def Sg (a : Nat) : Bool := decide (9223372036854775808 ≤ a)
def Mg (a : Nat) : Nat := a % 9223372036854775808
def wd (s : Bool) (r : Nat) : Nat := if s then 9223372036854775808 + r else r
theorem mv_Vr (r : Nat) : mv r = Vr r := by
  unfold mv mg pl Vr
  rw [show (2 : Nat) ^ 52 = 4503599627370496 from rfl]
  by_cases h : r < 4503599627370496
  · rw [if_pos h,if_pos h,if_pos h,show ((-1074 : Int) + 1074).toNat = 0 by decide,Nat.pow_zero,Nat.mul_one]
  · rw [if_neg h,if_neg h,if_neg h]
    congr 2
    omega
/-- A number's value with its sign, in units of the least place. -/
def Vs (a : Nat) : Int := if Sg a then -(Vr (Mg a) : Int) else (Vr (Mg a) : Int)
theorem cut_neg (neg : Bool) (n d : Nat) : Ieee.Toward.even.cut neg n d = Ieee.Toward.even.cut false n d := rfl
theorem word_wd (neg : Bool) (r : Nat) : Ieee.double.word neg r = wd neg r := by
  unfold Ieee.Format.word wd
  rw [d_sw]
theorem nearest_wd (neg : Bool) (mag : Nat) (place : Int) : Ieee.double.nearest neg mag place = wd neg (rung mag place) := by
  rw [← nearest_rung]
  unfold Ieee.Format.nearest
  simp only [cut_neg neg,word_wd]
  by_cases h : mag = 0
  · rw [if_pos h,if_pos h]; unfold wd; simp
  · rw [if_neg h,if_neg h]; unfold wd; simp
/-- The sum of two numbers, whatever their signs: what is nearest to the whole sum. -/
theorem add_signed {a b : Nat} (ha : a < 18446744073709551616) (hb : b < 18446744073709551616) (fa : Mg a < 9218868437227405312) (fb : Mg b < 9218868437227405312) :
    Ieee.double.add a b = some (wd (if Vs a + Vs b = 0 then (Sg a && Sg b) else decide (Vs a + Vs b < 0)) (rung (Vs a + Vs b).natAbs (-1074))) := by
  have ra := read_eq a ha
  have rb := read_eq b hb
  have fa' : a % 9223372036854775808 < 9218868437227405312 := fa
  have fb' : b % 9223372036854775808 < 9218868437227405312 := fb
  rw [if_pos fa'] at ra
  rw [if_pos fb'] at rb
  have pa := pl_ge (a % 9223372036854775808)
  have pb := pl_ge (b % 9223372036854775808)
  have va : mv (a % 9223372036854775808) = Vr (Mg a) := mv_Vr _
  have vb : mv (b % 9223372036854775808) = Vr (Mg b) := mv_Vr _
  unfold mv at va vb
  have sa : decide (9223372036854775808 ≤ a) = Sg a := rfl
  have sb : decide (9223372036854775808 ≤ b) = Sg b := rfl
  rw [sa] at ra
  rw [sb] at rb
  generalize mg (a % 9223372036854775808) = m at *
  generalize mg (b % 9223372036854775808) = n at *
  generalize pl (a % 9223372036854775808) = i at *
  generalize pl (b % 9223372036854775808) = j at *
  obtain ⟨base,hbase⟩ : ∃ x,x = min i j := ⟨_,rfl⟩
  obtain ⟨total,ht⟩ : ∃ t,t = Ieee.signed (Sg a) m (i - base).toNat + Ieee.signed (Sg b) n (j - base).toNat := ⟨_,rfl⟩
  obtain ⟨k,hk⟩ : ∃ k : Nat,(base + 1074).toNat = k := ⟨_,rfl⟩
  have hT : total * (2 ^ k : Nat) = Vs a + Vs b := by
    rw [ht,Int.add_mul,signed_scale,signed_scale,show (i - base).toNat + k = (i + 1074).toNat by omega,show (j - base).toNat + k = (j + 1074).toNat by omega,va,vb]
    rfl
  have hpos : (0 : Int) < ((2 ^ k : Nat) : Int) := by exact_mod_cast Nat.two_pow_pos k
  have hz : (Vs a + Vs b = 0) ↔ total = 0 := by
    rw [← hT]
    constructor
    · intro h; rcases Int.mul_eq_zero.1 h with h | h
      · exact h
      · omega
    · intro h; rw [h,Int.zero_mul]
  have hn : (Vs a + Vs b < 0) ↔ total < 0 := by
    rw [← hT]
    constructor
    · intro h
      rcases Int.lt_or_le total 0 with x | x
      · exact x
      · have := Int.mul_nonneg x (Int.le_of_lt hpos); omega
    · intro h; exact Int.mul_neg_of_neg_of_pos h hpos
  have habs : (Vs a + Vs b).natAbs = total.natAbs * 2 ^ k := by rw [← hT,Int.natAbs_mul,Int.natAbs_natCast]
  have hr : rung (Vs a + Vs b).natAbs (-1074) = rung total.natAbs base := by
    rw [habs,show (-1074 : Int) = base - (k : Nat) by omega]
    exact rung_shift _ _ _
  unfold Ieee.Format.add
  rw [ra,rb]
  simp only [Ieee.Datum.sum,← hbase,← ht,Option.map_some,Ieee.Format.write]
  rw [nearest_wd,hr]
  congr 2
  by_cases h0 : total = 0
  · rw [if_pos h0,if_pos (hz.2 h0)]
  · rw [if_neg h0,if_neg (fun x => h0 (hz.1 x))]
    rw [decide_eq_decide]
    exact hn.symm
end Go.Proofs.Ytmnkmdfladbgdaa.Od

set_option linter.unusedVariables false
set_option linter.unusedSimpArgs false
namespace Go.Proofs.Ytmnkmdfladbgdaa.Od
open Go Go.Proofs Go.RowKit Go.Proofs.YtmnkmdfladbgdaaAI Go.Proofs.YtmnkmdfladbgdaaFl Go.Proofs.YtmnkmdfladbgdaaRnd


theorem wd_eq {a : Nat} (ha : a < 18446744073709551616) : a = wd (Sg a) (Mg a) := by
  unfold wd Sg Mg
  by_cases h : 9223372036854775808 ≤ a
  · rw [if_pos (decide_eq_true h)]; omega
  · rw [if_neg (by simpa using h)]; omega
end Go.Proofs.Ytmnkmdfladbgdaa.Od
