/- The law BiasTotal. -/
import Derived.Test.YthkefkpmgleolabBi22
set_option linter.unusedVariables false
set_option linter.unusedSimpArgs false
namespace Go.Proofs.Ythkefkpmgleolab.Bi
open Go Go.Proofs Go.RowKit Go.Proofs.YthkefkpmgleolabAI Go.Proofs.YthkefkpmgleolabFl Go.Proofs.YthkefkpmgleolabSrt

theorem cmpK_lt {a b : Nat} (h : key a < key b) : cmpK a b = -1 := by unfold cmpK; rw [if_pos h]
theorem cmpK_gt {a b : Nat} (h : key b < key a) : cmpK a b = 1 := by unfold cmpK; rw [if_neg (by omega), if_pos h]
theorem cmpK_eq {a b : Nat} (h : key a = key b) : cmpK a b = 0 := by unfold cmpK; rw [if_neg (by omega), if_neg (by omega)]
theorem key_nan (a : Nat) : isN a = true ↔ key a = 0 := by
  unfold isN key; rw [decide_eq_true_eq]
  constructor
  · intro h; rw [if_pos h]
  · intro h; split at h
    · assumption
    · split at h <;> omega
theorem key_inj {a b : Nat} (ha : a < 18446744073709551616) (hb : b < 18446744073709551616) (h : key a = key b) (hn : isN a = false) : a = b := by
  have h1 : ¬ 9218868437227405312 < a % 9223372036854775808 := by simpa [isN] using hn
  have h2 : ¬ 9218868437227405312 < b % 9223372036854775808 := by
    intro h3
    have := (key_nan b).1 (by simp [isN, h3])
    rw [this] at h
    have := (key_nan a).2 h
    rw [hn] at this; cases this
  unfold key at h
  rw [if_neg h1, if_neg h2] at h
  split at h <;> split at h <;> omega
theorem sv_key {a b : Nat} (ha : a < 18446744073709551616) (hb : b < 18446744073709551616) (na : isN a = false) (nb : isN b = false) (h : sv a < sv b) : key a < key b := by
  have h1 : ¬ 9218868437227405312 < a % 9223372036854775808 := by simpa [isN] using na
  have h2 : ¬ 9218868437227405312 < b % 9223372036854775808 := by simpa [isN] using nb
  unfold sv at h; unfold key
  rw [if_neg h1, if_neg h2]
  by_cases s1 : 9223372036854775808 ≤ a <;> by_cases s2 : 9223372036854775808 ≤ b <;> simp only [s1, s2, if_true, if_false] at h ⊢ <;> omega
theorem feq_self (a : Nat) (ha : a < 18446744073709551616) : (Ieee.double.order a a == some .eq) = !isN a := by
  rw [order_eq a a ha ha]
  cases h : isN a
  · simp [cmp_eq]
  · simp
theorem bs_best (ws : List Nat) (i : Nat) : ∀ j, j < i → 0 ≤ bsTo ws i ∧ (key (ws.getD j 0) < key (wt ws (bsTo ws i)) ∨ (key (ws.getD j 0) = key (wt ws (bsTo ws i)) ∧ bsTo ws i ≤ j)) := by
  induction i with
  | zero => intro j hj; omega
  | succ i ih =>
    intro j hj
    have hi0 : wt ws ((i : Nat) : Int) = ws.getD i 0 := rfl
    have hcase : bsTo ws (i + 1) = if bsTo ws i < 0 then (i : Int) else if 0 < cmpK (ws.getD i 0) (wt ws (bsTo ws i)) then (i : Int) else bsTo ws i := rfl
    by_cases h1 : bsTo ws i < 0
    · rw [if_pos h1] at hcase
      rw [hcase, hi0]
      refine ⟨by omega, ?_⟩
      by_cases h2 : j < i
      · have := (ih j h2).1; omega
      · obtain rfl : j = i := by omega
        exact .inr ⟨rfl, by omega⟩
    · rw [if_neg h1] at hcase
      by_cases h3 : 0 < cmpK (ws.getD i 0) (wt ws (bsTo ws i))
      · rw [if_pos h3] at hcase
        rw [hcase, hi0]
        have hk : key (wt ws (bsTo ws i)) < key (ws.getD i 0) := by
          unfold cmpK at h3; split at h3
          · omega
          · split at h3 <;> omega
        refine ⟨by omega, ?_⟩
        by_cases h2 : j < i
        · have := (ih j h2).2; omega
        · obtain rfl : j = i := by omega
          exact .inr ⟨rfl, by omega⟩
      · rw [if_neg h3] at hcase
        rw [hcase]
        have hk : key (ws.getD i 0) ≤ key (wt ws (bsTo ws i)) := by
          unfold cmpK at h3; split at h3
          · omega
          · split at h3 <;> omega
        refine ⟨by omega, ?_⟩
        by_cases h2 : j < i
        · exact (ih j h2).2
        · obtain rfl : j = i := by omega
          have := (bsTo_lt ws j).2
          omega
theorem rank_first {ws : List Nat} {l : List Int} (h : RankOf ws l) (hn : 0 < ws.length) : g l 0 = bsTo ws ws.length := by
  have hlen : l.length = ws.length := by rw [h.1.length_eq, rng_len]
  have hb := bs_best ws ws.length
  obtain ⟨q, hq⟩ : ∃ q : Nat, bsTo ws ws.length = (q : Int) := ⟨(bsTo ws ws.length).toNat, by have := (hb 0 hn).1; omega⟩
  have hqn : q < ws.length := by have := (bsTo_lt ws ws.length).2; omega
  have hm : (q : Int) ∈ l := h.1.mem_iff.2 (by simp only [rng, List.mem_map, List.mem_range]; exact ⟨q, hqn, rfl⟩)
  cases l with
  | nil => simp at hlen; omega
  | cons x xs =>
    show x = _
    rw [hq]
    rcases List.mem_cons.1 hm with e | e
    · exact e.symm
    · have hp := (List.pairwise_cons.1 h.2).1 _ e
      have hx := (rng_dom ws.length) x (h.1.mem_iff.1 (List.mem_cons_self ..))
      have hbx := (hb x.toNat (by omega)).2
      rw [hq] at hbx
      have e1 : ws.getD x.toNat 0 = wt ws x := rfl
      rw [e1] at hbx
      unfold loB at hp
      omega

/-- The loops of a code, in the order of the text. -/
def loopsOf : Code → List Code
  | .seq a b => loopsOf a ++ loopsOf b
  | .cond _ x y => loopsOf x ++ loopsOf y
  | .block _ b => loopsOf b
  | .scope b => loopsOf b
  | .loop b => b :: loopsOf b
  | _ => []
noncomputable def lb6 (i : Nat) : Code := (loopsOf (Try.f6.body.getD .skip)).getD i .skip
theorem tot_a {x y w : Nat} : ¬ (cmpK x w ≤ 0 ∧ cmpK w y ≤ 0 ∧ 0 < cmpK x y) ∧ ¬ (0 ≤ cmpK x w ∧ 0 ≤ cmpK w y ∧ cmpK x y < 0) := by
  unfold cmpK; repeat' split
  all_goals omega
end Go.Proofs.Ythkefkpmgleolab.Bi
