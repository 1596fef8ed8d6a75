/- What the bound of the second form gives: no row is longer than it. -/
import Derived.Test.YthkefkpmgleolabRows
import Derived.Test.YthkefkpmgleolabAI15
namespace Go.Proofs.Ythkefkpmgleolab
open Go Go.Proofs.YthkefkpmgleolabAI
theorem bulk_one {H : Type} (d : DataW H) : 1 ≤ Rows.uptoBulk d := by
  cases d with
  | lit l => cases l <;> simp [Rows.uptoBulk]
  | _ => simp [Rows.uptoBulk]
theorem bulk_mem {H : Type} {d : DataW H} {l : List (DataW H)} (h : d ∈ l) : Rows.uptoBulk d ≤ Rows.uptoBulkAll l := by
  induction l with
  | nil => cases h
  | cons x r ih =>
    simp only [Rows.uptoBulkAll]
    rcases List.mem_cons.1 h with rfl | e
    · omega
    · have := ih e; omega
theorem bulk_length {H : Type} (l : List (DataW H)) : l.length ≤ Rows.uptoBulkAll l := by
  induction l with
  | nil => simp [Rows.uptoBulkAll]
  | cons x r ih => have := bulk_one x; simp only [Rows.uptoBulkAll, List.length_cons]; omega
theorem bulk_dlen {H : Type} {l : List (DataW H)} (hk : Rows.uptoSmall H l = true) {j : Nat} {d : DataW H} (hd : l[j]? = some d) {len : Nat} (hb : dlen d = len) : len ≤ 1048576 := by
  have h1 := bulk_mem (List.mem_of_getElem? hd)
  have h2 : Rows.uptoBulkAll l ≤ 1048576 := by simpa [Rows.uptoSmall] using hk
  have h3 : dlen d ≤ Rows.uptoBulk d := by
    cases d with
    | slice e s => have := bulk_length e; simp only [dlen, Rows.uptoBulk]; omega
    | _ => simp [dlen]
  omega
end Go.Proofs.Ythkefkpmgleolab
