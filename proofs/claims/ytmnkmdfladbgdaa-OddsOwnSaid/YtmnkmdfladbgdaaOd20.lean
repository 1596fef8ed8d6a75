/- Odds: the document's Add of any two floats. -/
import Derived.Test.YtmnkmdfladbgdaaOl19
import Derived.Test.YtmnkmdfladbgdaaOl13
import Derived.Test.YtmnkmdfladbgdaaOd12
import Derived.Test.YtmnkmdfladbgdaaOd16
set_option linter.unusedVariables false
set_option linter.unusedSimpArgs false
namespace Go.Proofs.Ytmnkmdfladbgdaa.Od
open Go Go.Proofs Go.RowKit Go.Proofs.YtmnkmdfladbgdaaAI Go.Proofs.YtmnkmdfladbgdaaFl Go.Proofs.YtmnkmdfladbgdaaRnd

/-- The document's sum: where there is none, the NaN. -/
def addD (a b : Nat) : Nat := (Ieee.double.add a b).getD 9221120237041090561
theorem read_nan {a : Nat} (ha : a < 18446744073709551616) (h : isN a = true) : ∃ s f,Ieee.double.read a = .nan s f := by
  have h1 : 9218868437227405312 < a % 9223372036854775808 := by simpa [isN] using h
  have := read_eq a ha
  rw [if_neg (by omega),if_neg (by omega)] at this
  exact ⟨_,_,this⟩
theorem read_infM {a : Nat} (ha : a < 18446744073709551616) (h : Mg a = 9218868437227405312) : Ieee.double.read a = .infinity (Sg a) := by
  have h1 : a % 9223372036854775808 = 9218868437227405312 := h
  have := read_eq a ha
  rw [if_neg (by omega),if_pos h1] at this
  exact this
theorem read_fin {a : Nat} (ha : a < 18446744073709551616) (h : Mg a < 9218868437227405312) : ∃ s m p,Ieee.double.read a = .number s m p := by
  have h1 : a % 9223372036854775808 < 9218868437227405312 := h
  have := read_eq a ha
  rw [if_pos h1] at this
  exact ⟨_,_,_,this⟩
theorem write_inf (s : Bool) : Ieee.double.write (.infinity s) = wd s 9218868437227405312 := by
  show Ieee.double.word s Ieee.double.infRung = _
  rw [word_wd]; rfl
theorem add_nan {a b : Nat} (ha : a < 18446744073709551616) (hb : b < 18446744073709551616) (h : isN a = true ∨ isN b = true) : Ieee.double.add a b = none := by
  unfold Ieee.Format.add
  rcases h with h | h
  · obtain ⟨s,f,e⟩ := read_nan ha h
    rw [e]; simp [Ieee.Datum.sum]
  · obtain ⟨s,f,e⟩ := read_nan hb h
    rw [e]
    cases Ieee.double.read a <;> simp [Ieee.Datum.sum]
theorem add_infinf {a b : Nat} (ha : a < 18446744073709551616) (hb : b < 18446744073709551616) (h1 : Mg a = 9218868437227405312) (h2 : Mg b = 9218868437227405312) : Ieee.double.add a b = if a = b then some a else none := by
  unfold Ieee.Format.add
  rw [read_infM ha h1,read_infM hb h2]
  have ea := wd_eq ha
  have eb := wd_eq hb
  by_cases h : Sg a = Sg b
  · have hab : a = b := by rw [ea,eb,h,h1,h2]
    rw [if_pos hab]
    simp only [Ieee.Datum.sum,h,if_true,Option.map_some,write_inf]
    rw [← h,← h1,← ea]
  · have hab : ¬ a = b := fun e => h (by rw [e])
    rw [if_neg hab]
    simp only [Ieee.Datum.sum,h,if_false,Option.map_none]
theorem add_infl {a b : Nat} (ha : a < 18446744073709551616) (hb : b < 18446744073709551616) (h1 : Mg a = 9218868437227405312) (h2 : Mg b < 9218868437227405312) : Ieee.double.add a b = some a ∧ Ieee.double.add b a = some a := by
  obtain ⟨s,m,p,e⟩ := read_fin hb h2
  unfold Ieee.Format.add
  rw [read_infM ha h1,e]
  simp only [Ieee.Datum.sum,Option.map_some,write_inf]
  rw [← h1,← wd_eq ha]
  exact ⟨rfl,rfl⟩
theorem addD_lt {a b : Nat} (ha : a < 18446744073709551616) (hb : b < 18446744073709551616) : addD a b < 18446744073709551616 := by
  have hr : ∀ N e,rung N e ≤ 9218868437227405312 := fun N e => (near_rung' N e).1
  have hw : ∀ s r,r ≤ 9218868437227405312 → wd s r < 18446744073709551616 := fun s r h => by unfold wd; split <;> omega
  by_cases n : isN a = true ∨ isN b = true
  · unfold addD; rw [add_nan ha hb n]; simp only [Option.getD_none]; omega
  · have na : ¬ isN a = true := fun x => n (.inl x)
    have nb : ¬ isN b = true := fun x => n (.inr x)
    have la : Mg a ≤ 9218868437227405312 := Nat.le_of_not_lt fun x => na (by unfold isN; exact decide_eq_true x)
    have lb : Mg b ≤ 9218868437227405312 := Nat.le_of_not_lt fun x => nb (by unfold isN; exact decide_eq_true x)
    by_cases ia : Mg a = 9218868437227405312
    · by_cases ib : Mg b = 9218868437227405312
      · unfold addD; rw [add_infinf ha hb ia ib]; split
        · exact ha
        · simp only [Option.getD_none]; omega
      · unfold addD; rw [(add_infl ha hb ia (by omega)).1]; exact ha
    · by_cases ib : Mg b = 9218868437227405312
      · unfold addD; rw [(add_infl hb ha ib (by omega)).2]; exact hb
      · unfold addD; rw [add_signed ha hb (by omega) (by omega)]; exact hw _ _ (hr _ _)
end Go.Proofs.Ytmnkmdfladbgdaa.Od
