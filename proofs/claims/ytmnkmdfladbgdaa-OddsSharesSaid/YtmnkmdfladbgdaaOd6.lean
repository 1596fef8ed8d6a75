/- Odds: the plain theory of shares. -/
import Derived.Test.YtmnkmdfladbgdaaOd5
import Derived.Test.YtmnkmdfladbgdaaRnd7
set_option linter.unusedVariables false
set_option linter.unusedSimpArgs false
namespace Go.Proofs.Ytmnkmdfladbgdaa.Od
open Go Go.Proofs Go.RowKit Go.Proofs.YtmnkmdfladbgdaaAI Go.Proofs.YtmnkmdfladbgdaaFl Go.Proofs.YtmnkmdfladbgdaaRnd

theorem iR_eq : iR = 9218868437227405312 := rfl
/-- Bits of a float from nought on. -/
def Pos (a : Nat) : Prop := a ≤ 9218868437227405312
theorem Pos.lt {a : Nat} (h : Pos a) : a < 18446744073709551616 := by unfold Pos at h; omega
theorem Pos.nan {a : Nat} (h : Pos a) : isN a = false := by unfold Pos at h; unfold isN; simp; omega
theorem Pos.sv {a : Nat} (h : Pos a) : sv a = (a : Int) := by unfold Pos at h; unfold YtmnkmdfladbgdaaFl.sv; rw [if_neg (by omega)]; omega
theorem pos_lt {a b : Nat} (ha : Pos a) (hb : Pos b) : (Ieee.double.order a b == some .lt) = decide (a < b) := by
  rw [flt a b ha.lt hb.lt, ha.nan, hb.nan, ha.sv, hb.sv]
  simp
theorem pos_gt {a b : Nat} (ha : Pos a) (hb : Pos b) : (Ieee.double.order a b == some .gt) = decide (b < a) := by
  rw [fgt a b ha.lt hb.lt, ha.nan, hb.nan, ha.sv, hb.sv]
  simp
theorem pos_eq {a b : Nat} (ha : Pos a) (hb : Pos b) : (Ieee.double.order a b == some .eq) = decide (a = b) := by
  rw [order_eq a b ha.lt hb.lt, ha.nan, hb.nan, ha.sv, hb.sv]
  simp only [Bool.false_eq_true, false_or, or_self, if_false, Bool.or_self]
  rcases Nat.lt_trichotomy a b with h | h | h
  · rw [cmp_lt (by omega)]; simp; omega
  · rw [cmp_eq (by omega)]; simp [h]
  · rw [cmp_gt (by omega)]; simp; omega
theorem worth_pos {b : Nat} (h : b < 18446744073709551616) : Pos (worthB b) := by
  unfold worthB Pos
  split
  · rename_i h1
    unfold key at h1
    split at h1
    · omega
    · split at h1 <;> omega
  · omega
def addB (a b : Nat) : Nat := (Ieee.double.add a b).getD 0
def divB (a b : Nat) : Nat := (Ieee.double.div a b).getD 0
theorem addB_ok {a b : Nat} (ha : Pos a) (hb : Pos b) : Ieee.double.add a b = some (addB a b) ∧ Pos (addB a b) ∧ a ≤ addB a b ∧ b ≤ addB a b := by
  obtain ⟨r, e, h1, h2, h3⟩ := add_up (a := a) (b := b) ha hb
  have : addB a b = r := by unfold addB; rw [e]; rfl
  rw [this]; exact ⟨e, h1, h2, h3⟩
/-- What each position weighs. -/
def wt (ws : List Nat) (turn : Int) (i : Nat) : Nat := worthB (atB ws turn (i : Int))
def wl (ws : List Nat) (turn : Int) (n : Nat) : List Nat := (List.range n).map (wt ws turn)
def sumB (ws : List Nat) (turn : Int) : Nat → Nat
  | 0 => 0
  | n + 1 => addB (sumB ws turn n) (wt ws turn n)
def infB (ws : List Nat) (turn : Int) : Nat → Nat
  | 0 => 0
  | n + 1 => if wt ws turn n = 9218868437227405312 then infB ws turn n + 1 else infB ws turn n
theorem infB_le (ws : List Nat) (turn : Int) (n : Nat) : infB ws turn n ≤ n := by
  induction n with
  | zero => exact Nat.le_refl _
  | succ n ih => unfold infB; split <;> omega
theorem infB_pos {ws : List Nat} {turn : Int} {n i : Nat} (hi : i < n) (h : wt ws turn i = 9218868437227405312) : 0 < infB ws turn n := by
  induction n with
  | zero => omega
  | succ n ih =>
    unfold infB
    split
    · omega
    · rename_i h1
      refine ih ?_
      rcases Nat.lt_or_eq_of_le (Nat.le_of_lt_succ hi) with h2 | rfl
      · exact h2
      · exact absurd h h1
/-- The share of a position that weighs w. -/
def shareB (ws : List Nat) (turn : Int) (n w : Nat) : Nat :=
  if 0 < infB ws turn n then (if w = 9218868437227405312 then divB (Fi 1) (Fi (infB ws turn n)) else 0) else if sumB ws turn n = 0 then divB (Fi 1) (Fi n) else divB w (sumB ws turn n)
def sharesB (ws : List Nat) (turn : Int) (n : Nat) : List Nat := (wl ws turn n).map (shareB ws turn n)
theorem one_lit : Fi 1 = 4607182418800017408 := by kernel_rfl
theorem zero_lit : Fi 0 = 0 := rfl
theorem nearest_fi (n : Nat) : FloatKind.f64.nearest (n : Int) = Fi n := by
  unfold FloatKind.nearest FloatKind.encode FloatKind.format Fi
  rw [← nearest_rung]
  have h1 : decide ((n : Int) < 0) = false := by simp
  show Ieee.double.write (.number (decide ((n : Int) < 0)) _ _) = _
  rw [h1]; rfl
theorem Fi_pos {k : Nat} (h : k < 2 ^ 53) : Pos (Fi k) := Nat.le_of_lt (Fi_spec h).1
theorem Fi_gt {k : Nat} (h : k < 2 ^ 53) : 0 < Fi k ↔ 0 < k := by
  constructor
  · intro h1
    rcases Nat.eq_zero_or_pos k with h0 | h0
    · subst h0; rw [Fi_zero] at h1; omega
    · exact h0
  · exact (Fi_spec h).2.2
theorem divB_ok {a b : Nat} (hab : a ≤ b) (hb : Pos b) (ha : a < 9218868437227405312) (h0 : 0 < b) : Ieee.double.div a b = some (divB a b) ∧ divB a b ≤ 4607182418800017408 := by
  obtain ⟨r, e, h1⟩ := div_share hab hb ha h0
  have : divB a b = r := by unfold divB; rw [e]; rfl
  rw [this, ← one_lit]; exact ⟨e, h1⟩
section
variable {ws : List Nat} (hw : W64 ws) (turn : Int)
include hw
theorem wt_pos (i : Nat) : Pos (wt ws turn i) := worth_pos (atB_lt hw turn _)
theorem sum_ok (n : Nat) : Pos (sumB ws turn n) ∧ ∀ i, i < n → wt ws turn i ≤ sumB ws turn n := by
  induction n with
  | zero => exact ⟨by show (0 : Nat) ≤ _; omega, fun i h => by omega⟩
  | succ n ih =>
    obtain ⟨h1, h2, h3, h4⟩ := addB_ok ih.1 (wt_pos hw turn n)
    refine ⟨h2, fun i hi => ?_⟩
    show _ ≤ addB _ _
    rcases Nat.lt_or_eq_of_le (Nat.le_of_lt_succ hi) with h5 | rfl
    · exact Nat.le_trans (ih.2 i h5) h3
    · exact h4
theorem share_le {n i : Nat} (hi : i < n) (hn : n ≤ 4096) : shareB ws turn n (wt ws turn i) ≤ 4607182418800017408 := by
  have hk := infB_le ws turn n
  have h1 : Fi 1 < 9218868437227405312 := by rw [one_lit]; omega
  unfold shareB
  split
  · split
    · exact (divB_ok (Fi_mono (by omega) (by omega)) (Fi_pos (by omega)) h1 ((Fi_gt (by omega)).2 (by omega))).2
    · omega
  · rename_i h0
    split
    · exact (divB_ok (Fi_mono (by omega) (by omega)) (Fi_pos (by omega)) h1 ((Fi_gt (by omega)).2 (by omega))).2
    · obtain ⟨s1, s2⟩ := sum_ok hw turn n
      refine (divB_ok (s2 i hi) s1 ?_ (by omega)).2
      have := wt_pos hw turn i
      unfold Pos at this
      rcases Nat.lt_or_eq_of_le this with h | h
      · exact h
      · exact absurd (infB_pos hi h) h0
theorem share_mono {n i j : Nat} (hi : i < n) (hj : j < n) (hn : n ≤ 4096) (h : wt ws turn j ≤ wt ws turn i) : shareB ws turn n (wt ws turn j) ≤ shareB ws turn n (wt ws turn i) := by
  have pi := wt_pos hw turn i
  unfold Pos at pi
  unfold shareB
  split
  · split
    · rw [if_pos (by omega)]; exact Nat.le_refl _
    · exact Nat.zero_le _
  · rename_i h0
    split
    · exact Nat.le_refl _
    · obtain ⟨s1, s2⟩ := sum_ok hw turn n
      have hlt : wt ws turn i < 9218868437227405312 := by
        rcases Nat.lt_or_eq_of_le pi with h | h
        · exact h
        · exact absurd (infB_pos hi h) h0
      have d1 := divB_ok (s2 j hj) s1 (by omega) (by omega)
      have d2 := divB_ok (s2 i hi) s1 hlt (by omega)
      exact div_mono h hlt s1 (by omega) d1.1 d2.1
end
end Go.Proofs.Ytmnkmdfladbgdaa.Od
