/- Odds: Join: its loop. -/
import Derived.Test.YtmnkmdfladbgdaaOl12
set_option linter.unusedVariables false
set_option linter.unusedSimpArgs false
namespace Go.Proofs.Ytmnkmdfladbgdaa.Od
open Go Go.Proofs Go.RowKit Go.Proofs.YtmnkmdfladbgdaaAI Go.Proofs.YtmnkmdfladbgdaaFl Go.Proofs.YtmnkmdfladbgdaaRnd


theorem log2_lt64 {man : Nat} (h : man < 18446744073709551616) : man.log2 < 64 := by
  rcases Nat.eq_zero_or_pos man with h0 | h0
  · rw [h0]; decide
  · exact (Nat.log2_lt (by omega)).2 (by omega)
/-- Up to the last place. -/
theorem up_val {man d : Nat} (h0 : 0 < man) (hd : d + man.log2 ≤ 52) : man * 2 ^ d < 9007199254740992 ∧ (d + man.log2 = 52 → 4503599627370496 ≤ man * 2 ^ d) ∧ (d + man.log2 < 52 → man * 2 ^ d < 4503599627370496) := by
  have h1 : 2 ^ man.log2 ≤ man := Nat.log2_self_le (by omega)
  have h2 : man < 2 ^ (man.log2 + 1) := Nat.lt_log2_self
  have h3 : man * 2 ^ d < 2 ^ (man.log2 + 1) * 2 ^ d := Nat.mul_lt_mul_of_pos_right h2 (Nat.two_pow_pos d)
  have h4 : 2 ^ man.log2 * 2 ^ d ≤ man * 2 ^ d := Nat.mul_le_mul_right _ h1
  rw [← Nat.pow_add] at h3 h4
  refine ⟨Nat.lt_of_lt_of_le h3 (Nat.pow_le_pow_right (show 0 < 2 by omega) (show man.log2 + 1 + d ≤ 53 by omega)), fun h => ?_, fun h => ?_⟩
  · rw [show man.log2 + d = 52 by omega] at h4; exact h4
  · exact Nat.lt_of_lt_of_le h3 (Nat.pow_le_pow_right (show 0 < 2 by omega) (show man.log2 + 1 + d ≤ 52 by omega))
/-- Down to the last place. -/
theorem down_val {man s : Nat} (h0 : 0 < man) : (man.log2 = s + 52 → 4503599627370496 ≤ man / 2 ^ s ∧ man / 2 ^ s < 9007199254740992) ∧ (man.log2 < s + 52 → man / 2 ^ s < 4503599627370496) := by
  have h1 : 2 ^ man.log2 ≤ man := Nat.log2_self_le (by omega)
  have h2 : man < 2 ^ (man.log2 + 1) := Nat.lt_log2_self
  refine ⟨fun h => ⟨?_, ?_⟩, fun h => ?_⟩
  · rw [Nat.le_div_iff_mul_le (Nat.two_pow_pos s), show (4503599627370496 : Nat) = 2 ^ 52 from rfl, ← Nat.pow_add, show 52 + s = man.log2 by omega]; exact h1
  · refine Nat.div_lt_of_lt_mul (Nat.lt_of_lt_of_le h2 ?_)
    rw [show (9007199254740992 : Nat) = 2 ^ 53 from rfl, ← Nat.pow_add]
    exact Nat.pow_le_pow_right (by omega) (by omega)
  · refine Nat.div_lt_of_lt_mul (Nat.lt_of_lt_of_le h2 ?_)
    rw [show (4503599627370496 : Nat) = 2 ^ 52 from rfl, ← Nat.pow_add]
    exact Nat.pow_le_pow_right (by omega) (by omega)
theorem jeA_f {q : Int} {m rr : Nat} (hend : rr = min ((q + 1074).toNat * 4503599627370496 + m) 9218868437227405312) (hq : q = -1074) (hm : m < 4503599627370496) : ¬ m = 9007199254740992 ∧ ¬ (m : Int) = 9007199254740992 ∧ (m : Int) < 4503599627370496 ∧ IntKind.u64.wrap ((m : Int)) = ((rr : Nat) : Int) := by
  have hR : rr = m := by omega
  refine ⟨by omega, by omega, by omega, ?_⟩
  exact wu64 hR.symm (by omega)
theorem jeN0_f {q : Int} {m rr : Nat} (hend : rr = min ((q + 1074).toNat * 4503599627370496 + m) 9218868437227405312) (hq : -1074 ≤ q) (h1 : 4503599627370496 ≤ m) (h2 : m < 9007199254740992) (h : ¬ 2046 < q + 1075) :
    ∃ e t u v : Nat, (¬ m = 9007199254740992 ∧ ¬ (m : Int) = 9007199254740992 ∧ ¬ m < 4503599627370496 ∧ ¬ (m : Int) < 4503599627370496) ∧ IntKind.i64.wrap (q + 1075) = (e : Int) ∧ ¬ 2046 < e ∧ ¬ (2046 : Int) < (e : Int) ∧ IntKind.u64.wrap (e : Int) = (e : Int) ∧ IntKind.u64.wrap ((e : Int) * 4503599627370496) = (t : Int) ∧ IntKind.u64.wrap ((t : Int)) = (u : Int) ∧ IntKind.u64.wrap ((u : Int) + (m : Int)) = (v : Int) ∧ IntKind.u64.wrap ((v : Int) - 4503599627370496) = ((rr : Nat) : Int) := by
  obtain ⟨e, he⟩ : ∃ e : Nat, q + 1075 = (e : Int) := ⟨(q + 1075).toNat, by omega⟩
  have hR : rr + 4503599627370496 = e * 4503599627370496 + m := by omega
  have hel : e ≤ 2046 := by omega
  clear hend
  obtain ⟨t, ht⟩ : ∃ t, e * 4503599627370496 = t := ⟨_, rfl⟩
  obtain ⟨u, hu⟩ : ∃ u, t = u := ⟨_, rfl⟩
  obtain ⟨v, hv⟩ : ∃ v, u + m = v := ⟨_, rfl⟩
  refine ⟨e, t, u, v, ⟨by omega, by omega, by omega, by omega⟩, by rw [IntWalk.i64_in _ (by omega)]; exact he, by omega, by omega, wu64 rfl (by omega), ?_, ?_, au64 hv (by omega), ?_⟩
  · have : (e : Int) * 4503599627370496 = ((e * 4503599627370496 : Nat) : Int) := by omega
    rw [this]; exact wu64 ht (by omega)
  · exact wu64 hu (by omega)
  · have : (v : Int) - 4503599627370496 = ((rr : Nat) : Int) := by omega
    rw [this]; exact wu64 rfl (by omega)
theorem jeN1_f {q : Int} {m rr : Nat} (hend : rr = min ((q + 1074).toNat * 4503599627370496 + m) 9218868437227405312) (hq : -1074 ≤ q) (h1 : m = 9007199254740992) (h : ¬ 2046 < q + 1076) :
    ∃ e t u v : Nat, (m : Int) = 9007199254740992 ∧ IntKind.i64.wrap (q + 1) = q + 1 ∧ IntKind.i64.wrap (q + 1 + 1075) = (e : Int) ∧ ¬ 2046 < e ∧ ¬ (2046 : Int) < (e : Int) ∧ IntKind.u64.wrap (e : Int) = (e : Int) ∧ IntKind.u64.wrap ((e : Int) * 4503599627370496) = (t : Int) ∧ IntKind.u64.wrap ((t : Int)) = (u : Int) ∧ IntKind.u64.wrap ((u : Int) + 4503599627370496) = (v : Int) ∧ IntKind.u64.wrap ((v : Int) - 4503599627370496) = ((rr : Nat) : Int) := by
  obtain ⟨e, he⟩ : ∃ e : Nat, q + 1076 = (e : Int) := ⟨(q + 1076).toNat, by omega⟩
  have hR : rr + 4503599627370496 = e * 4503599627370496 + 4503599627370496 := by omega
  have hel : e ≤ 2046 := by omega
  clear hend
  obtain ⟨t, ht⟩ : ∃ t, e * 4503599627370496 = t := ⟨_, rfl⟩
  obtain ⟨u, hu⟩ : ∃ u, t = u := ⟨_, rfl⟩
  obtain ⟨v, hv⟩ : ∃ v, u + 4503599627370496 = v := ⟨_, rfl⟩
  refine ⟨e, t, u, v, by omega, IntWalk.i64_in _ (by omega), by rw [IntWalk.i64_in _ (by omega)]; omega, by omega, by omega, wu64 rfl (by omega), ?_, ?_, @au64 u 4503599627370496 v hv (by omega), ?_⟩
  · have : (e : Int) * 4503599627370496 = ((e * 4503599627370496 : Nat) : Int) := by omega
    rw [this]; exact wu64 ht (by omega)
  · exact wu64 hu (by omega)
  · have : (v : Int) - 4503599627370496 = ((rr : Nat) : Int) := by omega
    rw [this]; exact wu64 rfl (by omega)
theorem jeA_t {q : Int} {m rr : Nat} (hend : rr = min ((q + 1074).toNat * 4503599627370496 + m) 9218868437227405312) (hq : q = -1074) (hm : m < 4503599627370496) : ¬ m = 9007199254740992 ∧ ¬ (m : Int) = 9007199254740992 ∧ (m : Int) < 4503599627370496 ∧ IntKind.u64.wrap (9223372036854775808 + (m : Int)) = ((9223372036854775808 + rr : Nat) : Int) := by
  have hR : rr = m := by omega
  refine ⟨by omega, by omega, by omega, ?_⟩
  exact @au64 9223372036854775808 m _ (by omega) (by omega)
theorem jeN0_t {q : Int} {m rr : Nat} (hend : rr = min ((q + 1074).toNat * 4503599627370496 + m) 9218868437227405312) (hq : -1074 ≤ q) (h1 : 4503599627370496 ≤ m) (h2 : m < 9007199254740992) (h : ¬ 2046 < q + 1075) :
    ∃ e t u v : Nat, (¬ m = 9007199254740992 ∧ ¬ (m : Int) = 9007199254740992 ∧ ¬ m < 4503599627370496 ∧ ¬ (m : Int) < 4503599627370496) ∧ IntKind.i64.wrap (q + 1075) = (e : Int) ∧ ¬ 2046 < e ∧ ¬ (2046 : Int) < (e : Int) ∧ IntKind.u64.wrap (e : Int) = (e : Int) ∧ IntKind.u64.wrap ((e : Int) * 4503599627370496) = (t : Int) ∧ IntKind.u64.wrap (9223372036854775808 + (t : Int)) = (u : Int) ∧ IntKind.u64.wrap ((u : Int) + (m : Int)) = (v : Int) ∧ IntKind.u64.wrap ((v : Int) - 4503599627370496) = ((9223372036854775808 + rr : Nat) : Int) := by
  obtain ⟨e, he⟩ : ∃ e : Nat, q + 1075 = (e : Int) := ⟨(q + 1075).toNat, by omega⟩
  have hR : rr + 4503599627370496 = e * 4503599627370496 + m := by omega
  have hel : e ≤ 2046 := by omega
  clear hend
  obtain ⟨t, ht⟩ : ∃ t, e * 4503599627370496 = t := ⟨_, rfl⟩
  obtain ⟨u, hu⟩ : ∃ u, 9223372036854775808 + t = u := ⟨_, rfl⟩
  obtain ⟨v, hv⟩ : ∃ v, u + m = v := ⟨_, rfl⟩
  refine ⟨e, t, u, v, ⟨by omega, by omega, by omega, by omega⟩, by rw [IntWalk.i64_in _ (by omega)]; exact he, by omega, by omega, wu64 rfl (by omega), ?_, ?_, au64 hv (by omega), ?_⟩
  · have : (e : Int) * 4503599627370496 = ((e * 4503599627370496 : Nat) : Int) := by omega
    rw [this]; exact wu64 ht (by omega)
  · exact @au64 9223372036854775808 t u hu (by omega)
  · have : (v : Int) - 4503599627370496 = ((9223372036854775808 + rr : Nat) : Int) := by omega
    rw [this]; exact wu64 rfl (by omega)
theorem jeN1_t {q : Int} {m rr : Nat} (hend : rr = min ((q + 1074).toNat * 4503599627370496 + m) 9218868437227405312) (hq : -1074 ≤ q) (h1 : m = 9007199254740992) (h : ¬ 2046 < q + 1076) :
    ∃ e t u v : Nat, (m : Int) = 9007199254740992 ∧ IntKind.i64.wrap (q + 1) = q + 1 ∧ IntKind.i64.wrap (q + 1 + 1075) = (e : Int) ∧ ¬ 2046 < e ∧ ¬ (2046 : Int) < (e : Int) ∧ IntKind.u64.wrap (e : Int) = (e : Int) ∧ IntKind.u64.wrap ((e : Int) * 4503599627370496) = (t : Int) ∧ IntKind.u64.wrap (9223372036854775808 + (t : Int)) = (u : Int) ∧ IntKind.u64.wrap ((u : Int) + 4503599627370496) = (v : Int) ∧ IntKind.u64.wrap ((v : Int) - 4503599627370496) = ((9223372036854775808 + rr : Nat) : Int) := by
  obtain ⟨e, he⟩ : ∃ e : Nat, q + 1076 = (e : Int) := ⟨(q + 1076).toNat, by omega⟩
  have hR : rr + 4503599627370496 = e * 4503599627370496 + 4503599627370496 := by omega
  have hel : e ≤ 2046 := by omega
  clear hend
  obtain ⟨t, ht⟩ : ∃ t, e * 4503599627370496 = t := ⟨_, rfl⟩
  obtain ⟨u, hu⟩ : ∃ u, 9223372036854775808 + t = u := ⟨_, rfl⟩
  obtain ⟨v, hv⟩ : ∃ v, u + 4503599627370496 = v := ⟨_, rfl⟩
  refine ⟨e, t, u, v, by omega, IntWalk.i64_in _ (by omega), by rw [IntWalk.i64_in _ (by omega)]; omega, by omega, by omega, wu64 rfl (by omega), ?_, ?_, @au64 u 4503599627370496 v hv (by omega), ?_⟩
  · have : (e : Int) * 4503599627370496 = ((e * 4503599627370496 : Nat) : Int) := by omega
    rw [this]; exact wu64 ht (by omega)
  · exact @au64 9223372036854775808 t u hu (by omega)
  · have : (v : Int) - 4503599627370496 = ((9223372036854775808 + rr : Nat) : Int) := by omega
    rw [this]; exact wu64 rfl (by omega)
theorem jeI0 {q : Int} {m rr : Nat} (hend : rr = min ((q + 1074).toNat * 4503599627370496 + m) 9218868437227405312) (h1 : 4503599627370496 ≤ m) (h2 : m < 9007199254740992) (h : 2046 < q + 1075) (hq2 : q ≤ 4000) : rr = 9218868437227405312 ∧ ¬ m = 9007199254740992 ∧ ¬ (m : Int) = 9007199254740992 ∧ ¬ m < 4503599627370496 ∧ ¬ (m : Int) < 4503599627370496 ∧ IntKind.i64.wrap (q + 1075) = q + 1075 :=
  ⟨by omega, by omega, by omega, by omega, by omega, IntWalk.i64_in _ (by omega)⟩
theorem jeI1 {q : Int} {m rr : Nat} (hend : rr = min ((q + 1074).toNat * 4503599627370496 + m) 9218868437227405312) (h1 : m = 9007199254740992) (h : 2046 < q + 1076) (hq2 : q ≤ 4000) : rr = 9218868437227405312 ∧ (m : Int) = 9007199254740992 ∧ IntKind.i64.wrap (q + 1) = q + 1 ∧ IntKind.i64.wrap (q + 1 + 1075) = q + 1076 :=
  ⟨by omega, by omega, IntWalk.i64_in _ (by omega), by rw [IntWalk.i64_in _ (by omega)]; omega⟩
theorem jmid {man s : Nat} (hm : man < 18446744073709551616) (h0 : 0 < s) (h64 : s < 64) :
    ∃ s1 hf m0 rest t od : Nat, s = s1 + 1 ∧ 2 ^ s1 = hf ∧ man / 2 ^ s = m0 ∧ man % 2 ^ s = rest ∧ m0 % 2 = od ∧ m0 < 9223372036854775808 ∧ IntKind.i64.wrap ((s : Int) - 1) = (s1 : Int) ∧ IntKind.u64.wrap (s1 : Int) = (s1 : Int) ∧ IntKind.u64.wrap (s : Int) = (s : Int) ∧ IntKind.u64.wrap (2 ^ min s1 64) = (hf : Int) ∧ (man : Int).fdiv (2 ^ (min s 64)) = (m0 : Int) ∧
      IntKind.u64.wrap ((m0 : Int) * 2 ^ (min s 64)) = (t : Int) ∧ IntKind.u64.wrap ((man : Int) - (t : Int)) = (rest : Int) ∧ (m0 : Int).tmod 2 = (od : Int) ∧ (m0 : Int) % 2 = (od : Int) ∧ half man s = if hf < rest ∨ (rest = hf ∧ od = 1) then m0 + 1 else m0 := by
  obtain ⟨s1, rfl⟩ : ∃ s1, s = s1 + 1 := ⟨s - 1, by omega⟩
  have hp1 : 2 ^ s1 ≤ 2 ^ 62 := Nat.pow_le_pow_right (by omega) (by omega)
  have hdm := Nat.div_add_mod man (2 ^ (s1 + 1))
  have hml := Nat.mod_lt man (Nat.two_pow_pos (s1 + 1))
  have hm2 : man / 2 ^ (s1 + 1) < 9223372036854775808 := by
    refine Nat.div_lt_of_lt_mul ?_
    have := Nat.two_pow_pos s1
    rw [Nat.pow_succ]; omega
  refine ⟨s1, 2 ^ s1, man / 2 ^ (s1 + 1), man % 2 ^ (s1 + 1), man / 2 ^ (s1 + 1) * 2 ^ (s1 + 1), man / 2 ^ (s1 + 1) % 2, rfl, rfl, rfl, rfl, rfl, hm2, by rw [IntWalk.i64_in _ (by omega)]; omega, wu64 rfl (by omega), wu64 rfl (by omega), ?_, shr64 rfl (by omega), shl64 rfl (by omega) ?_, ?_, rfl, by omega, ?_⟩
  · have := @shl64 1 s1 (2 ^ s1) (by omega) (by omega) (by omega); simpa using this
  · rw [Nat.mul_comm]; omega
  · have e : 2 ^ (s1 + 1) * (man / 2 ^ (s1 + 1)) = man / 2 ^ (s1 + 1) * 2 ^ (s1 + 1) := Nat.mul_comm _ _
    rw [e] at hdm
    have : (man : Int) - ((man / 2 ^ (s1 + 1) * 2 ^ (s1 + 1) : Nat) : Int) = ((man % 2 ^ (s1 + 1) : Nat) : Int) := by omega
    rw [this]; exact wu64 rfl (by omega)
  · unfold half; rw [Nat.add_sub_cancel]
def ej (e : Int) (i : Nat) : Int := e - i
def mu (m i : Nat) : Nat := m * 2 ^ i
/-- What stands at Join's end. -/
theorem join_end {man : Nat} (h0 : 0 < man) {exp q : Int} (hq : lastP man exp = q) {m : Nat} (hm : kept man exp = m) : rung man exp = min ((q + 1074).toNat * 4503599627370496 + m) 9218868437227405312 := by
  have := join_mid h0 exp
  rw [hq, hm] at this
  rw [this, show (q - (-1074)) = q + 1074 by omega]; rfl
set_option maxRecDepth 20000 in
set_option maxHeartbeats 6400000 in
theorem join1 {h0 : Heap} {v7 : Value} {man d : Nat} {exp q : Int} (hm : 0 < d → man * 2 ^ d < 9007199254740992) (he : -3000 ≤ exp) (he2 : exp ≤ 3000) (hd : d = (exp - q).toNat) (hq0 : -2000 ≤ q) (F : Step) (hFF : F = aexecP Try.prog (sO 68) (run Try.prog sO) loopω pt68 (lb68 0)) (t : Tm)
    (ht : forget [0, 3, 4, 5, 6, 10, 11, 12, 13, 14, 15, 16, 17, 18, 19, 20, 21, 22, 23, 24, 25, 26, 27, 28, 29, 30, 31, 32, 33, 34, 35, 36, 37, 38, 39, 40, 41, 42, 43, 44, 45, 46, 47, 48, 49, 50, 51, 52, 53, 54, 55, 56, 57, 58, 59, 60, 61, 62, 63, 64, 65, 66, 67, 68, 69, 70, 71, 72, 73, 74, 75, 76, 77, 78, 79, 80, 81, 82, 83, 84, 85, 86, 87, 88, 89, 90, 91, 92, 93, 94, 95, 96, 97, 98, 99, 100, 101, 102, 103] t = [unk, U man, .int .i64 (ej exp (0)), unk, unk, unk, unk, v7, .int .i64 q, .int .u64 (mu man (0) : Nat), unk, unk, unk, unk, unk, unk, unk, unk, unk, unk, unk, unk, unk, unk, unk, unk, unk, unk, unk, unk, unk, unk, unk, unk, unk, unk, unk, unk, unk, unk, unk, unk, unk, unk, unk, unk, unk, unk, unk, unk, unk, unk, unk, unk, unk, unk, unk, unk, unk, unk, unk, unk, unk, unk, unk, unk, unk, unk, unk, unk, unk, unk, unk, unk, unk, unk, unk, unk, unk, unk, unk, unk, unk, unk, unk, unk, unk, unk, unk, unk, unk, unk, unk, unk, unk, unk, unk, unk, unk, unk, unk, unk, unk, unk]) (hI0 : (h0 = h0 ∧ True)) :
    ∃ h' x33 x34 x35, loopω [0, 3, 4, 5, 6, 10, 11, 12, 13, 14, 15, 16, 17, 18, 19, 20, 21, 22, 23, 24, 25, 26, 27, 28, 29, 30, 31, 32, 33, 34, 35, 36, 37, 38, 39, 40, 41, 42, 43, 44, 45, 46, 47, 48, 49, 50, 51, 52, 53, 54, 55, 56, 57, 58, 59, 60, 61, 62, 63, 64, 65, 66, 67, 68, 69, 70, 71, 72, 73, 74, 75, 76, 77, 78, 79, 80, 81, 82, 83, 84, 85, 86, 87, 88, 89, 90, 91, 92, 93, 94, 95, 96, 97, 98, 99, 100, 101, 102, 103] F t h0 = some (.exit 0, [unk, U man, .int .i64 (ej exp (d)), unk, unk, unk, unk, v7, .int .i64 q, .int .u64 (mu man (d) : Nat), unk, unk, unk, unk, unk, unk, unk, unk, unk, unk, unk, unk, unk, unk, unk, unk, unk, unk, unk, unk, unk, unk, unk, x33, x34, x35, unk, unk, unk, unk, unk, unk, unk, unk, unk, unk, unk, unk, unk, unk, unk, unk, unk, unk, unk, unk, unk, unk, unk, unk, unk, unk, unk, unk, unk, unk, unk, unk, unk, unk, unk, unk, unk, unk, unk, unk, unk, unk, unk, unk, unk, unk, unk, unk, unk, unk, unk, unk, unk, unk, unk, unk, unk, unk, unk, unk, unk, unk, unk, unk, unk, unk, unk, unk], h') ∧ (h' = h0 ∧ True) := by
  subst hFF
  suffices hs : ∃ e t' h', loopω [0, 3, 4, 5, 6, 10, 11, 12, 13, 14, 15, 16, 17, 18, 19, 20, 21, 22, 23, 24, 25, 26, 27, 28, 29, 30, 31, 32, 33, 34, 35, 36, 37, 38, 39, 40, 41, 42, 43, 44, 45, 46, 47, 48, 49, 50, 51, 52, 53, 54, 55, 56, 57, 58, 59, 60, 61, 62, 63, 64, 65, 66, 67, 68, 69, 70, 71, 72, 73, 74, 75, 76, 77, 78, 79, 80, 81, 82, 83, 84, 85, 86, 87, 88, 89, 90, 91, 92, 93, 94, 95, 96, 97, 98, 99, 100, 101, 102, 103] (aexecP Try.prog (sO 68) (run Try.prog sO) loopω pt68 (lb68 0)) t h0 = some (e, t', h') ∧ (e = .exit 0 ∧ ∃ x33 x34 x35, t' = [unk, U man, .int .i64 (ej exp (d)), unk, unk, unk, unk, v7, .int .i64 q, .int .u64 (mu man (d) : Nat), unk, unk, unk, unk, unk, unk, unk, unk, unk, unk, unk, unk, unk, unk, unk, unk, unk, unk, unk, unk, unk, unk, unk, x33, x34, x35, unk, unk, unk, unk, unk, unk, unk, unk, unk, unk, unk, unk, unk, unk, unk, unk, unk, unk, unk, unk, unk, unk, unk, unk, unk, unk, unk, unk, unk, unk, unk, unk, unk, unk, unk, unk, unk, unk, unk, unk, unk, unk, unk, unk, unk, unk, unk, unk, unk, unk, unk, unk, unk, unk, unk, unk, unk, unk, unk, unk, unk, unk, unk, unk, unk, unk, unk, unk] ∧ (h' = h0 ∧ True)) by
    obtain ⟨e, t', h', q1, rfl, x33, x34, x35, rfl, q2⟩ := hs
    exact ⟨h', x33, x34, x35, q1, q2⟩
  simp only [lb68, Try.f68, loopsOf, Option.getD_some, List.nil_append, List.append_nil, List.cons_append, List.getD_cons_zero, List.getD_cons_succ]
  refine loop_by (fun k t h' => ∃ (i : Nat), i + k = d ∧ forget [0, 3, 4, 5, 6, 10, 11, 12, 13, 14, 15, 16, 17, 18, 19, 20, 21, 22, 23, 24, 25, 26, 27, 28, 29, 30, 31, 32, 33, 34, 35, 36, 37, 38, 39, 40, 41, 42, 43, 44, 45, 46, 47, 48, 49, 50, 51, 52, 53, 54, 55, 56, 57, 58, 59, 60, 61, 62, 63, 64, 65, 66, 67, 68, 69, 70, 71, 72, 73, 74, 75, 76, 77, 78, 79, 80, 81, 82, 83, 84, 85, 86, 87, 88, 89, 90, 91, 92, 93, 94, 95, 96, 97, 98, 99, 100, 101, 102, 103] t = [unk, U man, .int .i64 (ej exp (i)), unk, unk, unk, unk, v7, .int .i64 q, .int .u64 (mu man (i) : Nat), unk, unk, unk, unk, unk, unk, unk, unk, unk, unk, unk, unk, unk, unk, unk, unk, unk, unk, unk, unk, unk, unk, unk, unk, unk, unk, unk, unk, unk, unk, unk, unk, unk, unk, unk, unk, unk, unk, unk, unk, unk, unk, unk, unk, unk, unk, unk, unk, unk, unk, unk, unk, unk, unk, unk, unk, unk, unk, unk, unk, unk, unk, unk, unk, unk, unk, unk, unk, unk, unk, unk, unk, unk, unk, unk, unk, unk, unk, unk, unk, unk, unk, unk, unk, unk, unk, unk, unk, unk, unk, unk, unk, unk, unk] ∧ (h' = h0 ∧ True))
    (fun e t' h' => e = .exit 0 ∧ ∃ x33 x34 x35, t' = [unk, U man, .int .i64 (ej exp (d)), unk, unk, unk, unk, v7, .int .i64 q, .int .u64 (mu man (d) : Nat), unk, unk, unk, unk, unk, unk, unk, unk, unk, unk, unk, unk, unk, unk, unk, unk, unk, unk, unk, unk, unk, unk, unk, x33, x34, x35, unk, unk, unk, unk, unk, unk, unk, unk, unk, unk, unk, unk, unk, unk, unk, unk, unk, unk, unk, unk, unk, unk, unk, unk, unk, unk, unk, unk, unk, unk, unk, unk, unk, unk, unk, unk, unk, unk, unk, unk, unk, unk, unk, unk, unk, unk, unk, unk, unk, unk, unk, unk, unk, unk, unk, unk, unk, unk, unk, unk, unk, unk, unk, unk, unk, unk, unk, unk] ∧ (h' = h0 ∧ True)) ?_ (d) _ _ ⟨0, by omega, ht, hI0⟩
  rintro k t h' ⟨i, hi, ht, hI⟩
  rw [ht]
  rcases Nat.lt_or_ge i (d) with h1 | h1
  · obtain ⟨rfl, _⟩ := hI
    have hlt : (q : Int) < ej exp i := by unfold ej; omega
    have w1 : IntKind.i64.wrap (ej exp i - 1) = ej exp (i + 1) := by rw [IntWalk.i64_in _ (by unfold ej; omega)]; unfold ej; omega
    have hle : mu man (i + 1) < 9007199254740992 := by
      have := Nat.mul_le_mul_left man (Nat.pow_le_pow_right (show 0 < 2 by omega) (show i + 1 ≤ d from h1))
      have := hm (by omega)
      unfold mu; omega
    have hms : mu man i * 2 = mu man (i + 1) := by unfold mu; rw [Nat.pow_succ, Nat.mul_assoc]
    obtain ⟨x, hx⟩ : ∃ x, mu man i = x := ⟨_, rfl⟩
    obtain ⟨y, hy⟩ : ∃ y, mu man (i + 1) = y := ⟨_, rfl⟩
    rw [hx, hy] at hms
    rw [hy] at hle
    have w2 : IntKind.u64.wrap ((x : Int) * 2) = (y : Int) := by
      have : (x : Int) * 2 = ((x * 2 : Nat) : Int) := by omega
      rw [this]; exact wu64 hms (by omega)
    rw [hx]
    generalize ej exp i = f at *
    simp (maxSteps := 2000000) -implicitDefEqProofs [px_skip, px_label, px_region, px_draw, qx_seq, qx_cond, px_block, px_loop, px_scope, px_exit, px_ret, seqK_normal, seqK_exit, seqK_ret, condK_true, condK_false, opsK_some, wK_true, wK_false, itK_some, aops_nil, aops_cons, lK_some, aK_some, hK_some, dwK_true, dwK_false, diK_some, dK_light, dK_alloc, dK_heavy, adraw_nil, adraw_cons, aop, cls, light, lightS, binE, aeq, intBin, goInt, pl_int, pl_bool, pl_ptr, pl_slice, aload, isAggT, aeval, tput, awanted, List.range_succ, fin, aresults, aresult, List.replicate, heavy, acallOp, aenter, ble_d, beq_d, firstRegion, readNames, Nxt, isAnc, readsOk, objEq_some, hlt, w1, w2, undef]
    exact ⟨k - 1, by omega, i + 1, by omega, by simp (maxSteps := 2000000) only [forget, List.set_cons_succ, List.set_cons_zero, hy]⟩
  · obtain rfl : i = d := by omega
    obtain ⟨rfl, _⟩ := hI
    have hlt : ¬ ((q : Int) < ej exp i) := by unfold ej; omega
    simp (maxSteps := 2000000) -implicitDefEqProofs [px_skip, px_label, px_region, px_draw, qx_seq, qx_cond, px_block, px_loop, px_scope, px_exit, px_ret, seqK_normal, seqK_exit, seqK_ret, condK_true, condK_false, opsK_some, wK_true, wK_false, itK_some, aops_nil, aops_cons, lK_some, aK_some, hK_some, dwK_true, dwK_false, diK_some, dK_light, dK_alloc, dK_heavy, adraw_nil, adraw_cons, aop, cls, light, lightS, binE, aeq, intBin, goInt, pl_int, pl_bool, pl_ptr, pl_slice, aload, isAggT, aeval, tput, awanted, List.range_succ, fin, aresults, aresult, List.replicate, heavy, acallOp, aenter, ble_d, beq_d, firstRegion, readNames, Nxt, isAnc, readsOk, objEq_some, hlt, undef]
end Go.Proofs.Ytmnkmdfladbgdaa.Od
