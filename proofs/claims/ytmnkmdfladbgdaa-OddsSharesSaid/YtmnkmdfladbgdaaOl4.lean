/- Odds: a natural's digits, told plainly. -/
import Derived.Test.YtmnkmdfladbgdaaOl3
set_option linter.unusedVariables false
set_option linter.unusedSimpArgs false
namespace Go.Proofs.Ytmnkmdfladbgdaa.Od
open Go Go.Proofs Go.Proofs.YtmnkmdfladbgdaaAI

/-- The k lowest limbs. -/
def dg (N : Nat) (k : Nat) : List Nat := (List.range k).map fun j => N / 4294967296 ^ j % 4294967296
theorem dg_zero (N : Nat) : dg N 0 = [] := rfl
theorem dg_succ (N k : Nat) : dg N (k + 1) = dg N k ++ [N / 4294967296 ^ k % 4294967296] := by simp [dg, List.range_succ]
theorem dg_len (N k : Nat) : (dg N k).length = k := by simp [dg]
theorem dg_w (N k : Nat) : W32 (dg N k) := fun x hx => by
  obtain ⟨j, _, rfl⟩ := List.mem_map.1 hx
  exact Nat.mod_lt _ (by omega)
theorem nv_dg (N k : Nat) : nv (dg N k) = N % 4294967296 ^ k := by
  induction k with
  | zero => rw [dg_zero, Nat.pow_zero, Nat.mod_one]; rfl
  | succ k ih => rw [dg_succ, nv_snoc, ih, dg_len, Nat.pow_succ, Nat.mod_mul]
theorem nv_div {l : List Nat} (h : W32 l) (i : Nat) : nv l / 4294967296 ^ i = l.getD i 0 + 4294967296 * (nv l / 4294967296 ^ (i + 1)) := by
  have key : ∀ (l : List Nat) (i : Nat), W32 l → nv l / 4294967296 ^ i % 4294967296 = l.getD i 0 := by
    intro l
    induction l with
    | nil => intro i _; simp [nv]
    | cons x l ih =>
      intro i hw
      have hx := hw x (List.mem_cons_self ..)
      cases i with
      | zero => simp only [Nat.pow_zero, Nat.div_one, nv, List.getD_cons_zero]; omega
      | succ i =>
        rw [Nat.pow_succ, Nat.mul_comm, ← Nat.div_div_eq_div_mul]
        have : nv (x :: l) / 4294967296 = nv l := by rw [nv]; omega
        rw [this, ih i hw.tail, List.getD_cons_succ]
  rw [← key l i h, Nat.pow_succ, ← Nat.div_div_eq_div_mul]
  exact (Nat.mod_add_div _ _).symm
theorem nv_div_len {l : List Nat} (h : W32 l) {i : Nat} (hi : l.length ≤ i) : nv l / 4294967296 ^ i = 0 :=
  Nat.div_eq_of_lt (Nat.lt_of_lt_of_le (nv_lt h) (Nat.pow_le_pow_right (by omega) hi))
/-- A limb of a sum. -/
theorem plus_step {a b : List Nat} (ha : W32 a) (hb : W32 b) {i c : Nat} (h : (nv a + nv b) / 4294967296 ^ i = c + nv a / 4294967296 ^ i + nv b / 4294967296 ^ i) (hc : c ≤ 1) :
    (c + a.getD i 0 + b.getD i 0) % 4294967296 = (nv a + nv b) / 4294967296 ^ i % 4294967296 ∧ (c + a.getD i 0 + b.getD i 0) / 4294967296 ≤ 1 ∧
      (nv a + nv b) / 4294967296 ^ (i + 1) = (c + a.getD i 0 + b.getD i 0) / 4294967296 + nv a / 4294967296 ^ (i + 1) + nv b / 4294967296 ^ (i + 1) := by
  have h1 := nv_div ha i
  have h2 := nv_div hb i
  have h3 := ha.get i
  have h4 := hb.get i
  have h5 : (nv a + nv b) / 4294967296 ^ (i + 1) = (nv a + nv b) / 4294967296 ^ i / 4294967296 := by rw [Nat.pow_succ, Nat.div_div_eq_div_mul]
  rw [h5, h]
  omega
/-- A limb of a difference. -/
theorem minus_step {a b : List Nat} (ha : W32 a) (hb : W32 b) {i c N : Nat} (h : N / 4294967296 ^ i + nv b / 4294967296 ^ i + c = nv a / 4294967296 ^ i) (hc : c ≤ 1) :
    (c + b.getD i 0 ≤ a.getD i 0 → a.getD i 0 - c - b.getD i 0 = N / 4294967296 ^ i % 4294967296 ∧ N / 4294967296 ^ (i + 1) + nv b / 4294967296 ^ (i + 1) + 0 = nv a / 4294967296 ^ (i + 1)) ∧
    (a.getD i 0 < c + b.getD i 0 → a.getD i 0 + 4294967296 - c - b.getD i 0 = N / 4294967296 ^ i % 4294967296 ∧ N / 4294967296 ^ (i + 1) + nv b / 4294967296 ^ (i + 1) + 1 = nv a / 4294967296 ^ (i + 1)) := by
  have h1 := nv_div ha i
  have h2 := nv_div hb i
  have h3 := ha.get i
  have h4 := hb.get i
  have h5 : N / 4294967296 ^ (i + 1) = N / 4294967296 ^ i / 4294967296 := by rw [Nat.pow_succ, Nat.div_div_eq_div_mul]
  rw [h5]
  constructor <;> intro h6 <;> constructor <;> omega
/-- A limb of what is shifted up. -/
theorem shl_step {a : List Nat} (ha : W32 a) {i c s : Nat} (hs : s < 32) (h : nv a * 2 ^ s / 4294967296 ^ i = c + nv a / 4294967296 ^ i * 2 ^ s) (hc : c < 2 ^ s) :
    (a.getD i 0 * 2 ^ s + c) % 4294967296 = nv a * 2 ^ s / 4294967296 ^ i % 4294967296 ∧ (a.getD i 0 * 2 ^ s + c) / 4294967296 < 2 ^ s ∧
      nv a * 2 ^ s / 4294967296 ^ (i + 1) = (a.getD i 0 * 2 ^ s + c) / 4294967296 + nv a / 4294967296 ^ (i + 1) * 2 ^ s := by
  have h1 := nv_div ha i
  have h3 := ha.get i
  have h5 : nv a * 2 ^ s / 4294967296 ^ (i + 1) = nv a * 2 ^ s / 4294967296 ^ i / 4294967296 := by rw [Nat.pow_succ, Nat.div_div_eq_div_mul]
  rw [h5, h, h1]
  have h6 : a.getD i 0 * 2 ^ s + 2 ^ s ≤ 4294967296 * 2 ^ s := by
    rw [← Nat.succ_mul]; exact Nat.mul_le_mul_right _ h3
  have h7 : (a.getD i 0 + 4294967296 * (nv a / 4294967296 ^ (i + 1))) * 2 ^ s = a.getD i 0 * 2 ^ s + 4294967296 * (nv a / 4294967296 ^ (i + 1) * 2 ^ s) := by
    rw [Nat.add_mul, Nat.mul_assoc]
  rw [h7]
  generalize nv a / 4294967296 ^ (i + 1) * 2 ^ s = y at *
  generalize a.getD i 0 * 2 ^ s = z at *
  generalize 2 ^ s = p at *
  refine ⟨by omega, ?_, by omega⟩
  exact Nat.div_lt_of_lt_mul (by omega)
/-- A limb of what is shifted down. -/
theorem shr_step {a : List Nat} (ha : W32 a) {i s : Nat} (hs : s < 32) : (a.getD i 0 + a.getD (i + 1) 0 * 4294967296) / 2 ^ s % 4294967296 = nv a / 4294967296 ^ i / 2 ^ s % 4294967296 := by
  have h1 := nv_div ha i
  have h2 := nv_div ha (i + 1)
  obtain ⟨q, hq⟩ : ∃ q, 4294967296 = 2 ^ s * q := ⟨2 ^ (32 - s), by rw [← Nat.pow_add, show s + (32 - s) = 32 by omega]⟩
  have h3 : nv a / 4294967296 ^ i = (a.getD i 0 + a.getD (i + 1) 0 * 4294967296) + 2 ^ s * (q * 4294967296 * (nv a / 4294967296 ^ (i + 1 + 1))) := by
    rw [h1, h2, ← Nat.mul_assoc, ← Nat.mul_assoc, ← hq]
    generalize nv a / 4294967296 ^ (i + 1 + 1) = y
    omega
  rw [h3, Nat.add_mul_div_left _ _ (Nat.two_pow_pos s), Nat.mul_right_comm, Nat.add_mul_mod_self_right]
theorem shr_pos {n z s j : Nat} (hn : n = 32 * z + s) (a : Nat) : a / 2 ^ n / 4294967296 ^ j = a / 4294967296 ^ (z + j) / 2 ^ s := by
  rw [Nat.div_div_eq_div_mul, Nat.div_div_eq_div_mul, hn, show (4294967296 : Nat) = 2 ^ 32 from rfl, ← Nat.pow_mul, ← Nat.pow_mul, ← Nat.pow_add, ← Nat.pow_add]
  congr 2; omega
theorem shl_val {n z s : Nat} (hn : n = 32 * z + s) (a : Nat) (k : Nat) (h : a * 2 ^ s < 4294967296 ^ k) : nv (List.replicate z 0 ++ dg (a * 2 ^ s) k) = a * 2 ^ n := by
  rw [nv_append, nv_zeros, nv_dg, Nat.mod_eq_of_lt h, List.length_replicate, Nat.zero_add, hn, Nat.pow_add, Nat.pow_mul, Nat.mul_left_comm]
end Go.Proofs.Ytmnkmdfladbgdaa.Od
