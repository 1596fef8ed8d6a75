/- Odds: naturals as limbs, told plainly. -/
import Derived.Test.YtmnkmdfladbgdaaAI20
set_option linter.unusedVariables false
set_option linter.unusedSimpArgs false
namespace Go.Proofs.Ytmnkmdfladbgdaa.Od
open Go Go.Proofs Go.Proofs.YtmnkmdfladbgdaaAI

/-- What limbs say, the least first. -/
def nv : List Nat → Nat
  | [] => 0
  | x :: l => x + 4294967296 * nv l
def W32 (l : List Nat) : Prop := ∀ x ∈ l, x < 4294967296
/-- A natural's limbs, without noughts at its end. -/
def lm (n : Nat) : List Nat := if h : n = 0 then [] else n % 4294967296 :: lm (n / 4294967296)
termination_by n
decreasing_by omega
theorem lm_zero : lm 0 = [] := by rw [lm]; simp
theorem lm_pos {n : Nat} (h : 0 < n) : lm n = n % 4294967296 :: lm (n / 4294967296) := by rw [lm, dif_neg (by omega)]
theorem nv_lm (n : Nat) : nv (lm n) = n := by
  induction n using Nat.strongRecOn with
  | _ n ih =>
    rcases Nat.eq_zero_or_pos n with h | h
    · rw [h, lm_zero]; rfl
    · rw [lm_pos h, nv, ih _ (by omega)]; omega
theorem lm_w (n : Nat) : W32 (lm n) := by
  induction n using Nat.strongRecOn with
  | _ n ih =>
    rcases Nat.eq_zero_or_pos n with h | h
    · rw [h, lm_zero]; intro x hx; cases hx
    · rw [lm_pos h]
      intro x hx
      rcases List.mem_cons.1 hx with rfl | hx
      · exact Nat.mod_lt _ (by omega)
      · exact ih _ (by omega) x hx
theorem nv_append (l m : List Nat) : nv (l ++ m) = nv l + 4294967296 ^ l.length * nv m := by
  induction l with
  | nil => simp [nv]
  | cons x l ih =>
    rw [List.cons_append, nv, ih, nv, List.length_cons, Nat.pow_succ, Nat.mul_add, ← Nat.mul_assoc, Nat.mul_comm 4294967296 (4294967296 ^ l.length)]
    omega
theorem nv_zeros (k : Nat) : nv (List.replicate k 0) = 0 := by
  induction k with
  | zero => rfl
  | succ k ih => rw [List.replicate_succ, nv, ih]
theorem W32.tail {x : Nat} {l : List Nat} (h : W32 (x :: l)) : W32 l := fun y hy => h y (List.mem_cons_of_mem _ hy)
theorem nv_lt {l : List Nat} (h : W32 l) : nv l < 4294967296 ^ l.length := by
  induction l with
  | nil => simp [nv]
  | cons x l ih =>
    have h1 := ih h.tail
    have h2 := h x (List.mem_cons_self ..)
    rw [nv, List.length_cons, Nat.pow_succ]
    omega
theorem lm_cons {x n : Nat} (hx : x < 4294967296) (h : 0 < x ∨ 0 < n) : lm (x + 4294967296 * n) = x :: lm n := by
  rw [lm_pos (by omega)]
  congr 1
  · omega
  · congr 1; omega
/-- Limbs are the natural's own, and noughts behind. -/
theorem trim_form {l : List Nat} (h : W32 l) : l = lm (nv l) ++ List.replicate (l.length - (lm (nv l)).length) 0 ∧ (lm (nv l)).length ≤ l.length := by
  suffices hs : ∃ k, l = lm (nv l) ++ List.replicate k 0 by
    obtain ⟨k, hk⟩ := hs
    have hl := congrArg List.length hk
    rw [List.length_append, List.length_replicate] at hl
    refine ⟨?_, by omega⟩
    rw [show l.length - (lm (nv l)).length = k by omega]
    exact hk
  induction l with
  | nil => exact ⟨0, by simp [nv, lm_zero]⟩
  | cons x l ih =>
    obtain ⟨k, hk⟩ := ih h.tail
    have hx := h x (List.mem_cons_self ..)
    by_cases h0 : 0 < x ∨ 0 < nv l
    · refine ⟨k, ?_⟩
      rw [nv, lm_cons hx h0, List.cons_append, ← hk]
    · have e1 : x = 0 := by omega
      have e2 : nv l = 0 := by omega
      refine ⟨k + 1, ?_⟩
      rw [e2, lm_zero, List.nil_append] at hk
      rw [nv, e1, e2, Nat.mul_zero, Nat.add_zero, lm_zero, List.nil_append, List.replicate_succ, ← hk]
theorem lm_last {n : Nat} (h : 0 < n) : 0 < (lm n).length ∧ (lm n).getD ((lm n).length - 1) 0 ≠ 0 := by
  induction n using Nat.strongRecOn with
  | _ n ih =>
    rw [lm_pos h]
    refine ⟨by simp, ?_⟩
    rw [List.length_cons, Nat.add_sub_cancel]
    rcases Nat.eq_zero_or_pos (n / 4294967296) with h1 | h1
    · rw [h1, lm_zero]
      simp only [List.length_nil, List.getD_cons_zero]
      omega
    · obtain ⟨h2, h3⟩ := ih _ (by omega) h1
      obtain ⟨j, hj⟩ : ∃ j, (lm (n / 4294967296)).length = j + 1 := ⟨(lm (n / 4294967296)).length - 1, by omega⟩
      rw [hj] at h3 ⊢
      simpa using h3
theorem lm_len {n k : Nat} (h : n < 4294967296 ^ k) : (lm n).length ≤ k := by
  induction k generalizing n with
  | zero => rw [Nat.pow_zero] at h; rw [show n = 0 by omega, lm_zero]; exact Nat.le_refl _
  | succ k ih =>
    rcases Nat.eq_zero_or_pos n with h0 | h0
    · rw [h0, lm_zero]; simp
    · rw [lm_pos h0, List.length_cons]
      have : n / 4294967296 < 4294967296 ^ k := by rw [Nat.pow_succ] at h; exact Nat.div_lt_of_lt_mul (by omega)
      have := ih this
      omega
theorem lm_len_ge {n k : Nat} (h : 4294967296 ^ k ≤ n) : k < (lm n).length := by
  rcases Nat.lt_or_ge k (lm n).length with h1 | h1
  · exact h1
  · have h2 := nv_lt (lm_w n)
    rw [nv_lm] at h2
    have := Nat.pow_le_pow_right (show 0 < 4294967296 by omega) h1
    omega
theorem lm_of {l : List Nat} (h : W32 l) (h0 : l = [] ∨ l.getD (l.length - 1) 0 ≠ 0) : lm (nv l) = l := by
  obtain ⟨h1, h2⟩ := trim_form h
  generalize hk : l.length - (lm (nv l)).length = k at h1
  cases k with
  | zero => rw [List.replicate_zero, List.append_nil] at h1; exact h1.symm
  | succ k =>
    exfalso
    rcases h0 with h0 | h0
    · subst h0; simp at hk
    · refine h0 ?_
      have hl := congrArg List.length h1
      rw [List.length_append, List.length_replicate] at hl
      rw [h1, List.getD_eq_getElem?_getD, List.getElem?_append_right (by rw [List.length_append, List.length_replicate]; omega)]
      simp [List.getElem?_replicate]
theorem nv_take {l : List Nat} {i : Nat} (hi : i < l.length) : nv (l.take (i + 1)) = nv (l.take i) + 4294967296 ^ i * l.getD i 0 := by
  rw [List.take_add_one, List.getElem?_eq_getElem hi, nv_append, List.length_take, Nat.min_eq_left (by omega)]
  simp [nv, List.getD_eq_getElem?_getD, List.getElem?_eq_getElem hi]
theorem nv_snoc (l : List Nat) (x : Nat) : nv (l ++ [x]) = nv l + 4294967296 ^ l.length * x := by
  rw [nv_append]; simp [nv]
theorem W32.get {l : List Nat} (h : W32 l) (i : Nat) : l.getD i 0 < 4294967296 := by
  rw [List.getD_eq_getElem?_getD]
  cases hx : l[i]? with
  | none => simp
  | some x => simpa using h x (List.mem_of_getElem? hx)
theorem W32.snoc {l : List Nat} (h : W32 l) {x : Nat} (hx : x < 4294967296) : W32 (l ++ [x]) := fun y hy => by
  rcases List.mem_append.1 hy with h1 | h1
  · exact h y h1
  · rw [List.mem_singleton.1 h1]; exact hx
theorem W32.nil : W32 [] := fun x hx => by cases hx
/-- Limbs as cells. -/
def u3 (l : List Nat) : List Value := l.map fun (n : Nat) => Value.int .u32 (n : Int)
theorem u3_one (l : List Nat) : (u3 l).all one = true := by simp [u3, one]
theorem u3_len (l : List Nat) : (u3 l).length = l.length := by simp [u3]
theorem u3_snoc (l : List Nat) (x : Nat) : u3 (l ++ [x]) = u3 l ++ [.int .u32 (x : Nat)] := by simp [u3]
theorem u3_get {l : List Nat} {i : Nat} (hi : i < l.length) : (u3 l)[i]? = some (.int .u32 (l.getD i 0 : Nat)) := by
  simp [u3, List.getElem?_eq_getElem hi]
theorem u3_set {l : List Nat} {i : Nat} (hi : i < l.length) (v : Nat) : List.take i (u3 l) ++ Value.int .u32 (v : Nat) :: List.drop (i + 1) (u3 l) = u3 (l.set i v) := by
  unfold u3
  rw [List.map_set, List.set_eq_take_append_cons_drop, if_pos (by simpa using hi)]
theorem sl_u3 {h : Heap} {v : Value} {k : Nat} {l : List Nat} (hs : Sl h v 1 k (u3 l)) {i : Nat} (hi : i < k) :
    ∃ a n c e s gr ro, v = .slice (some a) k n ∧ h.get a.block = some (.cells c e s gr ro) ∧ c[a.off + i]? = some (.int .u32 (l.getD i 0 : Nat)) := by
  have hs0 := hs
  obtain ⟨hl, ⟨rfl, rfl⟩ | ⟨a, n, rfl, _⟩⟩ := hs0
  · omega
  · obtain ⟨c, e, s, gr, ro, hg, _, _, hget⟩ := hs.fit (by omega) (by omega)
    refine ⟨a, n, c, e, s, gr, ro, rfl, hg, ?_⟩
    rw [hget i (by omega)]
    have hi' : i < l.length := by simp only [u3, List.length_map] at hl; omega
    simp [u3, List.getElem?_eq_getElem hi']
end Go.Proofs.Ytmnkmdfladbgdaa.Od
