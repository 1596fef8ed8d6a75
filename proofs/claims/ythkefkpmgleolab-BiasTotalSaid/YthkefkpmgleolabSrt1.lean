/- Sorting in plain lists: what a swap, a rotation, an insertion and a merge come to. -/
set_option linter.unusedVariables false
set_option linter.unusedSimpArgs false
namespace Go.Proofs.YthkefkpmgleolabSrt
variable {α : Type} [Inhabited α]

abbrev g (d : List α) (i : Nat) : α := d.getD i default
def swp (d : List α) (i j : Nat) : List α := (d.set i (g d j)).set j (g d i)
theorem swp_len (d : List α) (i j : Nat) : (swp d i j).length = d.length := by simp [swp]
theorem g_eq (d : List α) {i : Nat} (h : i < d.length) : g d i = d[i] := by simp [g, List.getElem?_eq_getElem h]
theorem g_swp {d : List α} {i j : Nat} (hi : i < d.length) (hj : j < d.length) (k : Nat) : g (swp d i j) k = if k = j then g d i else if k = i then g d j else g d k := by
  simp only [swp, g, List.getD_eq_getElem?_getD, List.getElem?_set, List.length_set]
  by_cases h1 : j = k
  · subst h1; simp [hj]
  · by_cases h2 : i = k
    · subst h2; simp [h1, hi, Ne.symm h1]
    · simp [h1, h2, Ne.symm h1, Ne.symm h2]
theorem swp_perm {d : List α} {i j : Nat} (hi : i < d.length) (hj : j < d.length) : (swp d i j).Perm d := by
  have := List.set_set_perm hi hj
  simp only [swp, g_eq d hi, g_eq d hj]
  exact this

/-- d' is d, its places from a to b put in another order. -/
structure Im (a b : Nat) (d d' : List α) : Prop where
  len : d'.length = d.length
  perm : d'.Perm d
  out : ∀ k, (k < a ∨ b ≤ k) → g d' k = g d k
  img : ∀ k, a ≤ k → k < b → ∃ k', a ≤ k' ∧ k' < b ∧ g d' k = g d k'
theorem Im.refl (a b : Nat) (d : List α) : Im a b d d := ⟨rfl, .refl _, fun _ _ => rfl, fun k h1 h2 => ⟨k, h1, h2, rfl⟩⟩
theorem Im.trans {a b : Nat} {d d' d'' : List α} (h1 : Im a b d d') (h2 : Im a b d' d'') : Im a b d d'' :=
  ⟨h2.len.trans h1.len, h2.perm.trans h1.perm, fun k hk => (h2.out k hk).trans (h1.out k hk), fun k h3 h4 => by
    obtain ⟨k', h5, h6, e⟩ := h2.img k h3 h4
    obtain ⟨k'', h7, h8, e'⟩ := h1.img k' h5 h6
    exact ⟨k'', h7, h8, e.trans e'⟩⟩
theorem Im.mono {a b a' b' : Nat} {d d' : List α} (h : Im a b d d') (h1 : a' ≤ a) (h2 : b ≤ b') : Im a' b' d d' :=
  ⟨h.len, h.perm, fun k hk => h.out k (by omega), fun k h3 h4 => by
    by_cases h5 : k < a ∨ b ≤ k
    · exact ⟨k, h3, h4, h.out k h5⟩
    · obtain ⟨k', h6, h7, e⟩ := h.img k (by omega) (by omega)
      exact ⟨k', by omega, by omega, e⟩⟩
theorem Im.swp {d : List α} {a b i j : Nat} (h1 : a ≤ i) (h2 : i < b) (h3 : a ≤ j) (h4 : j < b) (hb : b ≤ d.length) : Im a b d (swp d i j) := by
  refine ⟨swp_len _ _ _, swp_perm (by omega) (by omega), fun k hk => ?_, fun k hk hk' => ?_⟩
  · rw [g_swp (by omega) (by omega), if_neg (by omega), if_neg (by omega)]
  · rw [g_swp (by omega) (by omega)]
    split
    · exact ⟨i, h1, h2, rfl⟩
    · split
      · exact ⟨j, h3, h4, rfl⟩
      · exact ⟨k, hk, hk', rfl⟩

/-- An order, and what is asked of the comparison: it tells it of a later one and an elder one. -/
structure LO (lo : α → α → Prop) (tag : α → Int) (cl : α → α → Bool) : Prop where
  trans : ∀ x y z, lo x y → lo y z → lo x z
  total : ∀ x y, tag x ≠ tag y → lo x y ∨ lo y x
  asym : ∀ x y, lo x y → ¬ lo y x
  cl : ∀ x y, tag y < tag x → (cl x y = true ↔ lo x y)
def Srt (lo : α → α → Prop) (a b : Nat) (d : List α) : Prop := ∀ i j, a ≤ i → i < j → j < b → lo (g d i) (g d j)
def Tag (tag : α → Int) (a m b : Nat) (d : List α) : Prop := ∀ k l, a ≤ k → k < m → m ≤ l → l < b → tag (g d k) < tag (g d l)

variable {lo : α → α → Prop} {tag : α → Int} {cl : α → α → Bool}

/-! ### Insertion -/
structure InsI (lo : α → α → Prop) (tag : α → Int) (d0 : List α) (a i j : Nat) (d : List α) : Prop where
  im : Im a (i + 1) d0 d
  aj : a ≤ j
  ji : j ≤ i
  srt : ∀ k l, a ≤ k → k < l → l ≤ i → k ≠ j → l ≠ j → lo (g d k) (g d l)
  up : ∀ l, j < l → l ≤ i → lo (g d j) (g d l)
  tg : ∀ k, a ≤ k → k < j → tag (g d k) < tag (g d j)
def Asc (tag : α → Int) (a b : Nat) (d : List α) : Prop := ∀ k l, a ≤ k → k < l → l < b → tag (g d k) < tag (g d l)
theorem ins_start {d0 d : List α} {a b i : Nat} (hi : i < b) (hai : a ≤ i) (h0 : Asc tag a b d0) (him : Im a i d0 d) (hs : Srt lo a i d) : InsI lo tag d0 a i i d := by
  refine ⟨him.mono (by omega) (by omega), hai, Nat.le_refl _, fun k l h1 h2 h3 h4 h5 => hs k l h1 h2 (by omega), fun l h1 h2 => by omega, fun k h1 h2 => ?_⟩
  obtain ⟨k', h3, h4, e⟩ := him.img k h1 h2
  rw [e, him.out i (.inr (Nat.le_refl _))]
  exact h0 k' i h3 h4 hi
theorem ins_step (hL : LO lo tag cl) {d0 d : List α} {a i j : Nat} (hb : i < d.length) (h : InsI lo tag d0 a i (j + 1) d) (haj : a < j + 1) (hc : cl (g d (j + 1)) (g d j) = true) : InsI lo tag d0 a i j (swp d (j + 1) j) := by
  obtain ⟨im, aj, ji, srt, up, tg⟩ := h
  have hlo : lo (g d (j + 1)) (g d j) := (hL.cl _ _ (tg j (by omega) (by omega))).1 hc
  have e := @g_swp α _ d (j + 1) j (by omega) (by omega)
  have ej : g (swp d (j + 1) j) j = g d (j + 1) := by rw [e, if_pos rfl]
  have ej1 : g (swp d (j + 1) j) (j + 1) = g d j := by rw [e, if_neg (by omega), if_pos rfl]
  have eo : ∀ k, k ≠ j → k ≠ j + 1 → g (swp d (j + 1) j) k = g d k := fun k h1 h2 => by rw [e, if_neg h1, if_neg h2]
  refine ⟨im.trans (Im.swp (by omega) (by omega) (by omega) (by omega) (by omega)), by omega, by omega, fun k l h1 h2 h3 h4 h5 => ?_, fun l h1 h2 => ?_, fun k h1 h2 => ?_⟩
  · by_cases hk : k = j + 1
    · subst hk; rw [ej1, eo l (by omega) (by omega)]; exact srt j l (by omega) (by omega) h3 (by omega) (by omega)
    · rw [eo k h4 hk]
      by_cases hl : l = j + 1
      · subst hl; rw [ej1]; exact srt k j h1 (by omega) (by omega) (by omega) (by omega)
      · rw [eo l h5 hl]; exact srt k l h1 h2 h3 hk hl
  · rw [ej]
    by_cases hl : l = j + 1
    · subst hl; rw [ej1]; exact hlo
    · rw [eo l (by omega) hl]; exact up l (by omega) h2
  · rw [ej, eo k (by omega) (by omega)]; exact tg k h1 (by omega)
theorem ins_done (hL : LO lo tag cl) {d0 d : List α} {a i j : Nat} (h : InsI lo tag d0 a i j d) (hx : j = a ∨ (a < j ∧ cl (g d j) (g d (j - 1)) = false)) : Im a (i + 1) d0 d ∧ Srt lo a (i + 1) d := by
  obtain ⟨im, aj, ji, srt, up, tg⟩ := h
  refine ⟨im, fun k l h1 h2 h3 => ?_⟩
  by_cases hk : k = j
  · subst hk; exact up l h2 (by omega)
  · by_cases hl : l = j
    · subst hl
      rcases hx with hx | ⟨hx, hc⟩
      · omega
      · have ht := tg (l - 1) (by omega) (by omega)
        have hlo : lo (g d (l - 1)) (g d l) := by
          rcases hL.total (g d (l - 1)) (g d l) (by omega) with h4 | h4
          · exact h4
          · rw [(hL.cl _ _ ht).2 h4] at hc; cases hc
        by_cases hk2 : k = l - 1
        · subst hk2; exact hlo
        · exact hL.trans _ _ _ (srt k (l - 1) h1 (by omega) (by omega) hk (by omega)) hlo
    · exact srt k l h1 h2 (by omega) hk hl

/-! ### Two ranges are swapped -/
structure SwrI (a b n : Nat) (d0 d : List α) : Prop where
  len : d.length = d0.length
  perm : d.Perm d0
  at_ : ∀ k, g d k = if a ≤ k ∧ k < a + n then g d0 (k - a + b) else if b ≤ k ∧ k < b + n then g d0 (k - b + a) else g d0 k
theorem swr_start (a b : Nat) (d : List α) : SwrI a b 0 d d := ⟨rfl, .refl _, fun k => by rw [if_neg (by omega), if_neg (by omega)]⟩
theorem swr_step {a b n : Nat} {d0 d : List α} (h : SwrI a b n d0 d) (h1 : a + n < b) (h2 : b + n < d0.length) : SwrI a b (n + 1) d0 (swp d (a + n) (b + n)) := by
  have hl := h.len
  refine ⟨by rw [swp_len, h.len], (swp_perm (by omega) (by omega)).trans h.perm, fun k => ?_⟩
  have ea : g d (a + n) = g d0 (a + n) := by rw [h.at_, if_neg (by omega), if_neg (by omega)]
  have eb : g d (b + n) = g d0 (b + n) := by rw [h.at_, if_neg (by omega), if_neg (by omega)]
  rw [g_swp (by omega) (by omega), ea, eb, h.at_ k]
  by_cases e1 : k = b + n
  · subst e1; rw [if_pos rfl, if_neg (by omega), if_pos (by omega)]; congr 1; omega
  · rw [if_neg e1]
    by_cases e2 : k = a + n
    · subst e2; rw [if_pos rfl, if_pos (by omega)]; congr 1; omega
    · rw [if_neg e2]
      by_cases e3 : a ≤ k ∧ k < a + n
      · rw [if_pos e3, if_pos (by omega)]
      · rw [if_neg e3]
        by_cases e4 : b ≤ k ∧ k < b + n
        · rw [if_pos e4, if_neg (by omega), if_pos (by omega)]
        · rw [if_neg e4, if_neg (by omega), if_neg (by omega)]

/-! ### A rotation -/
def rotT (a m b : Nat) (d0 : List α) (k : Nat) : α := if a ≤ k ∧ k < a + (b - m) then g d0 (k + (m - a)) else if a + (b - m) ≤ k ∧ k < b then g d0 (k - (b - m)) else g d0 k
structure RotI (a m b i j : Nat) (d0 d : List α) : Prop where
  len : d.length = d0.length
  perm : d.Perm d0
  lo_ : a + i ≤ m
  hi_ : m + j ≤ b
  pi : 0 < i
  pj : 0 < j
  out : ∀ k, (k < m - i ∨ m + j ≤ k) → g d k = rotT a m b d0 k
  fst : ∀ k, m - i ≤ k → k < m - i + j → rotT a m b d0 k = g d (k + i)
  snd : ∀ k, m - i + j ≤ k → k < m + j → rotT a m b d0 k = g d (k - j)
theorem rot_start {a m b : Nat} (d : List α) (h1 : a < m) (h2 : m < b) : RotI a m b (m - a) (b - m) d d := by
  refine ⟨rfl, .refl _, by omega, by omega, by omega, by omega, fun k hk => ?_, fun k h3 h4 => ?_, fun k h3 h4 => ?_⟩ <;> unfold rotT
  · rw [if_neg (by omega), if_neg (by omega)]
  · rw [if_pos (by omega)]
  · rw [if_neg (by omega), if_pos (by omega)]
theorem rot_gt {a m b i j : Nat} {d0 d d' : List α} (h : RotI a m b i j d0 d) (hij : j < i) (hs : SwrI (m - i) m j d d') : RotI a m b (i - j) j d0 d' := by
  obtain ⟨len, perm, lo_, hi_, pi, pj, out, fst, snd⟩ := h
  refine ⟨hs.len.trans len, hs.perm.trans perm, by omega, by omega, by omega, by omega, fun k hk => ?_, fun k h3 h4 => ?_, fun k h3 h4 => ?_⟩
  · rw [hs.at_]
    by_cases e1 : m - i ≤ k ∧ k < m - i + j
    · rw [if_pos e1, fst k e1.1 e1.2]; congr 1; omega
    · rw [if_neg e1, if_neg (by omega)]; exact out k (by omega)
  · rw [snd k (by omega) (by omega), hs.at_, if_neg (by omega), if_pos (by omega)]; congr 1; omega
  · rw [snd k (by omega) (by omega), hs.at_, if_neg (by omega), if_neg (by omega)]
theorem rot_lt {a m b i j : Nat} {d0 d d' : List α} (h : RotI a m b i j d0 d) (hij : i < j) (hs : SwrI (m - i) (m + j - i) i d d') : RotI a m b i (j - i) d0 d' := by
  obtain ⟨len, perm, lo_, hi_, pi, pj, out, fst, snd⟩ := h
  refine ⟨hs.len.trans len, hs.perm.trans perm, by omega, by omega, by omega, by omega, fun k hk => ?_, fun k h3 h4 => ?_, fun k h3 h4 => ?_⟩
  · rw [hs.at_]
    by_cases e1 : m + j - i ≤ k ∧ k < m + j
    · rw [if_neg (by omega), if_pos (by omega), snd k (by omega) (by omega)]; congr 1; omega
    · rw [if_neg (by omega), if_neg (by omega)]; exact out k (by omega)
  · rw [fst k (by omega) (by omega), hs.at_, if_neg (by omega), if_neg (by omega)]
  · rw [fst k (by omega) (by omega), hs.at_, if_pos (by omega)]; congr 1; omega
theorem rot_done {a m b i : Nat} {d0 d d' : List α} (h : RotI a m b i i d0 d) (hs : SwrI (m - i) m i d d') : d'.length = d0.length ∧ d'.Perm d0 ∧ ∀ k, g d' k = rotT a m b d0 k := by
  obtain ⟨len, perm, lo_, hi_, pi, pj, out, fst, snd⟩ := h
  refine ⟨hs.len.trans len, hs.perm.trans perm, fun k => ?_⟩
  rw [hs.at_]
  by_cases e1 : m - i ≤ k ∧ k < m - i + i
  · rw [if_pos e1, fst k e1.1 e1.2]; congr 1; omega
  · rw [if_neg e1]
    by_cases e2 : m ≤ k ∧ k < m + i
    · rw [if_pos e2, snd k (by omega) (by omega)]; congr 1; omega
    · rw [if_neg e2]; exact out k (by omega)
theorem rot_im {a m b : Nat} {d0 d : List α} (h1 : a ≤ m) (h2 : m ≤ b) (hl : d.length = d0.length) (hp : d.Perm d0) (hg : ∀ k, g d k = rotT a m b d0 k) : Im a b d0 d := by
  refine ⟨hl, hp, fun k hk => ?_, fun k h3 h4 => ?_⟩
  · rw [hg]; unfold rotT; rw [if_neg (by omega), if_neg (by omega)]
  · rw [hg]; unfold rotT
    by_cases e : k < a + (b - m)
    · rw [if_pos ⟨h3, e⟩]; exact ⟨_, by omega, by omega, rfl⟩
    · rw [if_neg (by omega), if_pos (by omega)]; exact ⟨_, by omega, by omega, rfl⟩
end Go.Proofs.YthkefkpmgleolabSrt
