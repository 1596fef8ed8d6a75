/- Odds: Join, no sign. -/
import Derived.Test.YtmnkmdfladbgdaaOl14
import Derived.Test.YtmnkmdfladbgdaaOl15
import Derived.Test.YtmnkmdfladbgdaaOl16
set_option linter.unusedVariables false
set_option linter.unusedSimpArgs false
namespace Go.Proofs.Ytmnkmdfladbgdaa.Od
open Go Go.Proofs Go.RowKit Go.Proofs.YtmnkmdfladbgdaaAI Go.Proofs.YtmnkmdfladbgdaaFl Go.Proofs.YtmnkmdfladbgdaaRnd

theorem join_f {h : Heap} {man : Nat} {exp : Int} (hm : man < 18446744073709551616) (he : -100000 ≤ exp) (he2 : exp ≤ 100000) : run Try.prog sO 68 [.bool false, U man, .int .i64 exp] h = some (U (rung man exp), h) := by
  rcases Nat.eq_zero_or_pos man with h0 | h0
  · exact join_f_low hm he he2 (.inl h0)
  by_cases c1 : exp < -3000
  · exact join_f_low hm he he2 (.inr c1)
  by_cases c2 : 3000 < exp
  · exact join_f_high hm he he2 h0 c2
  have c1' : -3000 ≤ exp := by omega
  have c2' : exp ≤ 3000 := by omega
  have hbl : bl man = man.log2 + 1 := by unfold bl; rw [if_neg (by omega)]
  by_cases cl : exp + (bl man : Nat) - 53 < -1074
  · by_cases cm : lastP man exp ≤ exp
    · exact join_f_up1 hm he he2 h0 c1' c2' cl cm
    · by_cases cf : 64 < (lastP man exp - exp).toNat
      · exact join_f_far hm he he2 h0 c1' c2' cl (by omega) cf
      · by_cases c64 : (lastP man exp - exp).toNat = 64
        · rcases Nat.lt_trichotomy (2 ^ ((lastP man exp - exp).toNat - 1)) (man % 2 ^ (lastP man exp - exp).toNat) with x | x | x
          · exact join_f_s641gt hm he he2 h0 c1' c2' cl (by omega) c64 x
          · exact join_f_s641eq hm he he2 h0 c1' c2' cl (by omega) c64 x.symm
          · exact join_f_s641lt hm he he2 h0 c1' c2' cl (by omega) c64 x
        · rcases Nat.lt_trichotomy (2 ^ ((lastP man exp - exp).toNat - 1)) (man % 2 ^ (lastP man exp - exp).toNat) with x | x | x
          · exact join_f_mid1gt hm he he2 h0 c1' c2' cl (by omega) (by omega) x
          · by_cases y : man / 2 ^ (lastP man exp - exp).toNat % 2 = 1
            · exact join_f_mid1to hm he he2 h0 c1' c2' cl (by omega) (by omega) x.symm y
            · exact join_f_mid1te hm he he2 h0 c1' c2' cl (by omega) (by omega) x.symm y
          · exact join_f_mid1lt hm he he2 h0 c1' c2' cl (by omega) (by omega) x
  · have hlg := log2_lt64 hm
    have hlp : lastP man exp ≤ exp + man.log2 - 52 := by unfold lastP; omega
    by_cases cm : lastP man exp ≤ exp
    · exact join_f_up0 hm he he2 h0 c1' c2' cl cm
    · rcases Nat.lt_trichotomy (2 ^ ((lastP man exp - exp).toNat - 1)) (man % 2 ^ (lastP man exp - exp).toNat) with x | x | x
      · exact join_f_mid0gt hm he he2 h0 c1' c2' cl (by omega) (by omega) x
      · by_cases y : man / 2 ^ (lastP man exp - exp).toNat % 2 = 1
        · exact join_f_mid0to hm he he2 h0 c1' c2' cl (by omega) (by omega) x.symm y
        · exact join_f_mid0te hm he he2 h0 c1' c2' cl (by omega) (by omega) x.symm y
      · exact join_f_mid0lt hm he he2 h0 c1' c2' cl (by omega) (by omega) x
end Go.Proofs.Ytmnkmdfladbgdaa.Od
