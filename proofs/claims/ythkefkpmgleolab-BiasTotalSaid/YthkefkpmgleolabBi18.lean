/- The library's sort: the merge of two rows. -/
import Derived.Test.YthkefkpmgleolabBi16
import Derived.Test.YthkefkpmgleolabBi17
set_option linter.unusedVariables false
set_option linter.unusedSimpArgs false
namespace Go.Proofs.Ythkefkpmgleolab.Bi
open Go Go.Proofs Go.RowKit Go.Proofs.YthkefkpmgleolabAI Go.Proofs.YthkefkpmgleolabFl Go.Proofs.YthkefkpmgleolabSrt

variable {lo : Int → Int → Prop} {tag : Int → Int} {r : Int → Int → Int} {h0 : Heap} {m : Nat} {cap : Value} {N : Int}
/-- The merge. -/
theorem sym_all (hL : LO lo tag (clo r)) (hC : CmpH h0 m cap N r) : ∀ n a c b, a < c → c < b → b - a ≤ n → SymAt lo tag h0 m cap N a c b := by
  intro n
  induction n with
  | zero => intro a c b h1 h2 h3; omega
  | succ n ih =>
    intro a c b h1 h2 h3
    by_cases e1 : c = a + 1
    · exact fun h d hd hdom q1 q2 s1 s2 ht => sym1 hL hC hd hdom e1 h2 q1 q2 s2 ht
    · by_cases e2 : b = c + 1
      · subst e2
        exact fun h d hd hdom q1 q2 s1 s2 ht => sym2 hL hC hd hdom (by omega) q1 q2 s1 ht
      · by_cases hm : (a + b) / 2 < c
        · exact symA hL hC (by omega) (by omega) hm fun a' c' b' z1 z2 z3 => ih a' c' b' z1 z2 (by omega)
        · exact symB hL hC (by omega) (by omega) hm fun a' c' b' z1 z2 z3 => ih a' c' b' z1 z2 (by omega)
end Go.Proofs.Ythkefkpmgleolab.Bi
