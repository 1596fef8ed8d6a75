/- Merging in place, in plain lists. -/

set_option linter.unusedVariables false
set_option linter.unusedSimpArgs false
namespace Go.Proofs.YtmnkmdfladbgdaaSrt
variable {α : Type} [Inhabited α]

abbrev g (d : List α) (i : Nat) : α := d.getD i default
def swp (d : List α) (i j : Nat) : List α := (d.set i (g d j)).set j (g d i)
theorem swp_len (d : List α) (i j : Nat) : (swp d i j).length = d.length := by simp [swp]
theorem g_eq (d : List α) {i : Nat} (h : i < d.length) : g d i = d[i] := by simp [g,List.getElem?_eq_getElem h]
theorem g_swp {d : List α} {i j : Nat} (hi : i < d.length) (hj : j < d.length) (k : Nat) : g (swp d i j) k = if k = j then g d i else if k = i then g d j else g d k := by
  simp only [swp,g,List.getD_eq_getElem?_getD,List.getElem?_set,List.length_set]
  by_cases h1 : j = k
  · subst h1; simp [hj]
  · by_cases h2 : i = k
    · subst h2; simp [h1,hi,Ne.symm h1]
    · simp [h1,h2,Ne.symm h1,Ne.symm h2]
theorem swp_perm {d : List α} {i j : Nat} (hi : i < d.length) (hj : j < d.length) : (swp d i j).Perm d := by
  have := List.set_set_perm hi hj
  simp only [swp,g_eq d hi,g_eq d hj]
  exact this

/-- d' is d, its places from a to b put in another order. -/
structure Im (a b : Nat) (d d' : List α) : Prop where
  len : d'.length = d.length
  perm : d'.Perm d
  out : ∀ k,(k < a ∨ b ≤ k) → g d' k = g d k
  img : ∀ k,a ≤ k → k < b → ∃ k',a ≤ k' ∧ k' < b ∧ g d' k = g d k'
theorem Im.refl (a b : Nat) (d : List α) : Im a b d d := ⟨rfl,.refl _,fun _ _ => rfl,fun k h1 h2 => ⟨k,h1,h2,rfl⟩⟩
theorem Im.trans {a b : Nat} {d d' d'' : List α} (h1 : Im a b d d') (h2 : Im a b d' d'') : Im a b d d'' :=
  ⟨h2.len.trans h1.len,h2.perm.trans h1.perm,fun k hk => (h2.out k hk).trans (h1.out k hk),fun k h3 h4 => by
    obtain ⟨k',h5,h6,e⟩ := h2.img k h3 h4
    obtain ⟨k'',h7,h8,e'⟩ := h1.img k' h5 h6
    exact ⟨k'',h7,h8,e.trans e'⟩⟩
theorem Im.mono {a b a' b' : Nat} {d d' : List α} (h : Im a b d d') (h1 : a' ≤ a) (h2 : b ≤ b') : Im a' b' d d' :=
  ⟨h.len,h.perm,fun k hk => h.out k (by omega),fun k h3 h4 => by
    by_cases h5 : k < a ∨ b ≤ k
    · exact ⟨k,h3,h4,h.out k h5⟩
    · obtain ⟨k',h6,h7,e⟩ := h.img k (by omega) (by omega)
      exact ⟨k',by omega,by omega,e⟩⟩
theorem Im.swp {d : List α} {a b i j : Nat} (h1 : a ≤ i) (h2 : i < b) (h3 : a ≤ j) (h4 : j < b) (hb : b ≤ d.length) : Im a b d (swp d i j) := by
  refine ⟨swp_len _ _ _,swp_perm (by omega) (by omega),fun k hk => ?_,fun k hk hk' => ?_⟩
  · rw [g_swp (by omega) (by omega),if_neg (by omega),if_neg (by omega)]
  · rw [g_swp (by omega) (by omega)]
    split
    · exact ⟨i,h1,h2,rfl⟩
    · split
      · exact ⟨j,h3,h4,rfl⟩
      · exact ⟨k,hk,hk',rfl⟩

/-- An order, and what is asked of the comparison: it tells it of a later one and an elder one. -/
structure LO (lo : α → α → Prop) (tag : α → Int) (cl : α → α → Bool) : Prop where
  trans : ∀ x y z,lo x y → lo y z → lo x z
  total : ∀ x y,tag x ≠ tag y → lo x y ∨ lo y x
  asym : ∀ x y,lo x y → ¬ lo y x
  cl : ∀ x y,tag y < tag x → (cl x y = true ↔ lo x y)
def Srt (lo : α → α → Prop) (a b : Nat) (d : List α) : Prop := ∀ i j,a ≤ i → i < j → j < b → lo (g d i) (g d j)
def Tag (tag : α → Int) (a m b : Nat) (d : List α) : Prop := ∀ k l,a ≤ k → k < m → m ≤ l → l < b → tag (g d k) < tag (g d l)

variable {lo : α → α → Prop} {tag : α → Int} {cl : α → α → Bool}

/-! ### Insertion -/
structure InsI (lo : α → α → Prop) (tag : α → Int) (d0 : List α) (a i j : Nat) (d : List α) : Prop where
  im : Im a (i + 1) d0 d
  aj : a ≤ j
  ji : j ≤ i
  srt : ∀ k l,a ≤ k → k < l → l ≤ i → k ≠ j → l ≠ j → lo (g d k) (g d l)
  up : ∀ l,j < l → l ≤ i → lo (g d j) (g d l)
  tg : ∀ k,a ≤ k → k < j → tag (g d k) < tag (g d j)
def Asc (tag : α → Int) (a b : Nat) (d : List α) : Prop := ∀ k l,a ≤ k → k < l → l < b → tag (g d k) < tag (g d l)
theorem ins_start {d0 d : List α} {a b i : Nat} (hi : i < b) (hai : a ≤ i) (h0 : Asc tag a b d0) (him : Im a i d0 d) (hs : Srt lo a i d) : InsI lo tag d0 a i i d := by
  refine ⟨him.mono (by omega) (by omega),hai,Nat.le_refl _,fun k l h1 h2 h3 h4 h5 => hs k l h1 h2 (by omega),fun l h1 h2 => by omega,fun k h1 h2 => ?_⟩
  obtain ⟨k',h3,h4,e⟩ := him.img k h1 h2
  rw [e,him.out i (.inr (Nat.le_refl _))]
  exact h0 k' i h3 h4 hi
theorem ins_step (hL : LO lo tag cl) {d0 d : List α} {a i j : Nat} (hb : i < d.length) (h : InsI lo tag d0 a i (j + 1) d) (haj : a < j + 1) (hc : cl (g d (j + 1)) (g d j) = true) : InsI lo tag d0 a i j (swp d (j + 1) j) := by
  obtain ⟨im,aj,ji,srt,up,tg⟩ := h
  have hlo : lo (g d (j + 1)) (g d j) := (hL.cl _ _ (tg j (by omega) (by omega))).1 hc
  have e := @g_swp α _ d (j + 1) j (by omega) (by omega)
  have ej : g (swp d (j + 1) j) j = g d (j + 1) := by rw [e,if_pos rfl]
  have ej1 : g (swp d (j + 1) j) (j + 1) = g d j := by rw [e,if_neg (by omega),if_pos rfl]
  have eo : ∀ k,k ≠ j → k ≠ j + 1 → g (swp d (j + 1) j) k = g d k := fun k h1 h2 => by rw [e,if_neg h1,if_neg h2]
  refine ⟨im.trans (Im.swp (by omega) (by omega) (by omega) (by omega) (by omega)),by omega,by omega,fun k l h1 h2 h3 h4 h5 => ?_,fun l h1 h2 => ?_,fun k h1 h2 => ?_⟩
  · by_cases hk : k = j + 1
    · subst hk; rw [ej1,eo l (by omega) (by omega)]; exact srt j l (by omega) (by omega) h3 (by omega) (by omega)
    · rw [eo k h4 hk]
      by_cases hl : l = j + 1
      · subst hl; rw [ej1]; exact srt k j h1 (by omega) (by omega) (by omega) (by omega)
      · rw [eo l h5 hl]; exact srt k l h1 h2 h3 hk hl
  · rw [ej]
    by_cases hl : l = j + 1
    · subst hl; rw [ej1]; exact hlo
    · rw [eo l (by omega) hl]; exact up l (by omega) h2
  · rw [ej,eo k (by omega) (by omega)]; exact tg k h1 (by omega)
theorem ins_done (hL : LO lo tag cl) {d0 d : List α} {a i j : Nat} (h : InsI lo tag d0 a i j d) (hx : j = a ∨ (a < j ∧ cl (g d j) (g d (j - 1)) = false)) : Im a (i + 1) d0 d ∧ Srt lo a (i + 1) d := by
  obtain ⟨im,aj,ji,srt,up,tg⟩ := h
  refine ⟨im,fun k l h1 h2 h3 => ?_⟩
  by_cases hk : k = j
  · subst hk; exact up l h2 (by omega)
  · by_cases hl : l = j
    · subst hl
      rcases hx with hx | ⟨hx,hc⟩
      · omega
      · have ht := tg (l - 1) (by omega) (by omega)
        have hlo : lo (g d (l - 1)) (g d l) := by
          rcases hL.total (g d (l - 1)) (g d l) (by omega) with h4 | h4
          · exact h4
          · rw [(hL.cl _ _ ht).2 h4] at hc; cases hc
        by_cases hk2 : k = l - 1
        · subst hk2; exact hlo
        · exact hL.trans _ _ _ (srt k (l - 1) h1 (by omega) (by omega) hk (by omega)) hlo
    · exact srt k l h1 h2 (by omega) hk hl

/-! ### Two ranges are swapped -/
structure SwrI (a b n : Nat) (d0 d : List α) : Prop where
  len : d.length = d0.length
  perm : d.Perm d0
  at_ : ∀ k,g d k = if a ≤ k ∧ k < a + n then g d0 (k - a + b) else if b ≤ k ∧ k < b + n then g d0 (k - b + a) else g d0 k
theorem swr_start (a b : Nat) (d : List α) : SwrI a b 0 d d := ⟨rfl,.refl _,fun k => by rw [if_neg (by omega),if_neg (by omega)]⟩
theorem swr_step {a b n : Nat} {d0 d : List α} (h : SwrI a b n d0 d) (h1 : a + n < b) (h2 : b + n < d0.length) : SwrI a b (n + 1) d0 (swp d (a + n) (b + n)) := by
  have hl := h.len
  refine ⟨by rw [swp_len,h.len],(swp_perm (by omega) (by omega)).trans h.perm,fun k => ?_⟩
  have ea : g d (a + n) = g d0 (a + n) := by rw [h.at_,if_neg (by omega),if_neg (by omega)]
  have eb : g d (b + n) = g d0 (b + n) := by rw [h.at_,if_neg (by omega),if_neg (by omega)]
  rw [g_swp (by omega) (by omega),ea,eb,h.at_ k]
  by_cases e1 : k = b + n
  · subst e1; rw [if_pos rfl,if_neg (by omega),if_pos (by omega)]; congr 1; omega
  · rw [if_neg e1]
    by_cases e2 : k = a + n
    · subst e2; rw [if_pos rfl,if_pos (by omega)]; congr 1; omega
    · rw [if_neg e2]
      by_cases e3 : a ≤ k ∧ k < a + n
      · rw [if_pos e3,if_pos (by omega)]
      · rw [if_neg e3]
        by_cases e4 : b ≤ k ∧ k < b + n
        · rw [if_pos e4,if_neg (by omega),if_pos (by omega)]
        · rw [if_neg e4,if_neg (by omega),if_neg (by omega)]

/-! ### A rotation -/
def rotT (a m b : Nat) (d0 : List α) (k : Nat) : α := if a ≤ k ∧ k < a + (b - m) then g d0 (k + (m - a)) else if a + (b - m) ≤ k ∧ k < b then g d0 (k - (b - m)) else g d0 k
structure RotI (a m b i j : Nat) (d0 d : List α) : Prop where
  len : d.length = d0.length
  perm : d.Perm d0
  lo_ : a + i ≤ m
  hi_ : m + j ≤ b
  pi : 0 < i
  pj : 0 < j
  out : ∀ k,(k < m - i ∨ m + j ≤ k) → g d k = rotT a m b d0 k
  fst : ∀ k,m - i ≤ k → k < m - i + j → rotT a m b d0 k = g d (k + i)
  snd : ∀ k,m - i + j ≤ k → k < m + j → rotT a m b d0 k = g d (k - j)
theorem rot_start {a m b : Nat} (d : List α) (h1 : a < m) (h2 : m < b) : RotI a m b (m - a) (b - m) d d := by
  refine ⟨rfl,.refl _,by omega,by omega,by omega,by omega,fun k hk => ?_,fun k h3 h4 => ?_,fun k h3 h4 => ?_⟩ <;> unfold rotT
  · rw [if_neg (by omega),if_neg (by omega)]
  · rw [if_pos (by omega)]
  · rw [if_neg (by omega),if_pos (by omega)]
theorem rot_gt {a m b i j : Nat} {d0 d d' : List α} (h : RotI a m b i j d0 d) (hij : j < i) (hs : SwrI (m - i) m j d d') : RotI a m b (i - j) j d0 d' := by
  obtain ⟨len,perm,lo_,hi_,pi,pj,out,fst,snd⟩ := h
  refine ⟨hs.len.trans len,hs.perm.trans perm,by omega,by omega,by omega,by omega,fun k hk => ?_,fun k h3 h4 => ?_,fun k h3 h4 => ?_⟩
  · rw [hs.at_]
    by_cases e1 : m - i ≤ k ∧ k < m - i + j
    · rw [if_pos e1,fst k e1.1 e1.2]; congr 1; omega
    · rw [if_neg e1,if_neg (by omega)]; exact out k (by omega)
  · rw [snd k (by omega) (by omega),hs.at_,if_neg (by omega),if_pos (by omega)]; congr 1; omega
  · rw [snd k (by omega) (by omega),hs.at_,if_neg (by omega),if_neg (by omega)]
theorem rot_lt {a m b i j : Nat} {d0 d d' : List α} (h : RotI a m b i j d0 d) (hij : i < j) (hs : SwrI (m - i) (m + j - i) i d d') : RotI a m b i (j - i) d0 d' := by
  obtain ⟨len,perm,lo_,hi_,pi,pj,out,fst,snd⟩ := h
  refine ⟨hs.len.trans len,hs.perm.trans perm,by omega,by omega,by omega,by omega,fun k hk => ?_,fun k h3 h4 => ?_,fun k h3 h4 => ?_⟩
  · rw [hs.at_]
    by_cases e1 : m + j - i ≤ k ∧ k < m + j
    · rw [if_neg (by omega),if_pos (by omega),snd k (by omega) (by omega)]; congr 1; omega
    · rw [if_neg (by omega),if_neg (by omega)]; exact out k (by omega)
  · rw [fst k (by omega) (by omega),hs.at_,if_neg (by omega),if_neg (by omega)]
  · rw [fst k (by omega) (by omega),hs.at_,if_pos (by omega)]; congr 1; omega
theorem rot_done {a m b i : Nat} {d0 d d' : List α} (h : RotI a m b i i d0 d) (hs : SwrI (m - i) m i d d') : d'.length = d0.length ∧ d'.Perm d0 ∧ ∀ k,g d' k = rotT a m b d0 k := by
  obtain ⟨len,perm,lo_,hi_,pi,pj,out,fst,snd⟩ := h
  refine ⟨hs.len.trans len,hs.perm.trans perm,fun k => ?_⟩
  rw [hs.at_]
  by_cases e1 : m - i ≤ k ∧ k < m - i + i
  · rw [if_pos e1,fst k e1.1 e1.2]; congr 1; omega
  · rw [if_neg e1]
    by_cases e2 : m ≤ k ∧ k < m + i
    · rw [if_pos e2,snd k (by omega) (by omega)]; congr 1; omega
    · rw [if_neg e2]; exact out k (by omega)
theorem rot_im {a m b : Nat} {d0 d : List α} (h1 : a ≤ m) (h2 : m ≤ b) (hl : d.length = d0.length) (hp : d.Perm d0) (hg : ∀ k,g d k = rotT a m b d0 k) : Im a b d0 d := by
  refine ⟨hl,hp,fun k hk => ?_,fun k h3 h4 => ?_⟩
  · rw [hg]; unfold rotT; rw [if_neg (by omega),if_neg (by omega)]
  · rw [hg]; unfold rotT
    by_cases e : k < a + (b - m)
    · rw [if_pos ⟨h3,e⟩]; exact ⟨_,by omega,by omega,rfl⟩
    · rw [if_neg (by omega),if_pos (by omega)]; exact ⟨_,by omega,by omega,rfl⟩
end Go.Proofs.YtmnkmdfladbgdaaSrt

set_option linter.unusedVariables false
set_option linter.unusedSimpArgs false
set_option linter.unusedSectionVars false
namespace Go.Proofs.YtmnkmdfladbgdaaSrt
variable {α : Type} [Inhabited α] {lo : α → α → Prop} {tag : α → Int} {cl : α → α → Bool}

theorem LO.not (hL : LO lo tag cl) {x y : α} (ht : tag y < tag x) (hc : cl x y = false) : lo y x := by
  rcases hL.total y x (by omega) with h | h
  · exact h
  · rw [(hL.cl _ _ ht).2 h] at hc; cases hc

/-! ### One element, and a sorted row behind it -/
structure B1 (lo : α → α → Prop) (a b i j : Nat) (d : List α) : Prop where
  mi : a + 1 ≤ i
  ij : i ≤ j
  jb : j ≤ b
  lo_ : i = a + 1 ∨ lo (g d (i - 1)) (g d a)
  hi_ : j = b ∨ lo (g d a) (g d j)
theorem b1_up (hL : LO lo tag cl) {a b i j h : Nat} {d : List α} (hB : B1 lo a b i j d) (h1 : i ≤ h) (h2 : h < j) (ht : Tag tag a (a + 1) b d) (hc : cl (g d h) (g d a) = true) : B1 lo a b (h + 1) j d := by
  obtain ⟨mi,ij,jb,lo_,hi_⟩ := hB
  exact ⟨by omega,by omega,jb,.inr ((hL.cl _ _ (ht a h (by omega) (by omega) (by omega) (by omega))).1 hc),hi_⟩
theorem b1_down (hL : LO lo tag cl) {a b i j h : Nat} {d : List α} (hB : B1 lo a b i j d) (h1 : i ≤ h) (h2 : h < j) (ht : Tag tag a (a + 1) b d) (hc : cl (g d h) (g d a) = false) : B1 lo a b i h d := by
  obtain ⟨mi,ij,jb,lo_,hi_⟩ := hB
  exact ⟨mi,h1,by omega,lo_,.inr (hL.not (ht a h (by omega) (by omega) (by omega) (by omega)) hc)⟩
structure S1 (a b k : Nat) (d0 d : List α) : Prop where
  im : Im a b d0 d
  at_ : ∀ l,g d l = if a ≤ l ∧ l < k then g d0 (l + 1) else if l = k then g d0 a else g d0 l
theorem s1_start (a b : Nat) (d : List α) : S1 a b a d d := ⟨Im.refl _ _ _,fun l => by rw [if_neg (by omega)]; split <;> simp_all⟩
theorem s1_step {a b k : Nat} {d0 d : List α} (h : S1 a b k d0 d) (h1 : a ≤ k) (h2 : k + 1 < b) (hb : b ≤ d0.length) : S1 a b (k + 1) d0 (swp d k (k + 1)) := by
  have hl := h.im.len
  have ea : g d k = g d0 a := by rw [h.at_,if_neg (by omega),if_pos rfl]
  have eb : g d (k + 1) = g d0 (k + 1) := by rw [h.at_,if_neg (by omega),if_neg (by omega)]
  refine ⟨h.im.trans (Im.swp h1 (by omega) (by omega) h2 (by omega)),fun l => ?_⟩
  rw [g_swp (by omega) (by omega),ea,eb,h.at_ l]
  by_cases e1 : l = k + 1
  · subst e1; rw [if_pos rfl,if_neg (by omega),if_pos rfl]
  · rw [if_neg e1]
    by_cases e2 : l = k
    · subst e2; rw [if_pos rfl,if_pos (by omega)]
    · rw [if_neg e2]
      by_cases e3 : a ≤ l ∧ l < k
      · rw [if_pos e3,if_pos (by omega)]
      · rw [if_neg e3,if_neg e2,if_neg (by omega),if_neg e1]
theorem m1_done (hL : LO lo tag cl) {a b i : Nat} {d0 d : List α} (hB : B1 lo a b i i d0) (hS : Srt lo (a + 1) b d0) (h : S1 a b (i - 1) d0 d) : Im a b d0 d ∧ Srt lo a b d := by
  obtain ⟨mi,ij,jb,lo_,hi_⟩ := hB
  have A : ∀ l,a + 1 ≤ l → l < i → lo (g d0 l) (g d0 a) := fun l h1 h2 => by
    rcases lo_ with e | e
    · omega
    · by_cases e2 : l = i - 1
      · subst e2; exact e
      · exact hL.trans _ _ _ (hS l (i - 1) h1 (by omega) (by omega)) e
  have B : ∀ l,i ≤ l → l < b → lo (g d0 a) (g d0 l) := fun l h1 h2 => by
    rcases hi_ with e | e
    · omega
    · by_cases e2 : l = i
      · subst e2; exact e
      · exact hL.trans _ _ _ e (hS i l (by omega) (by omega) h2)
  refine ⟨h.im,fun x y h1 h2 h3 => ?_⟩
  rw [h.at_ x,h.at_ y]
  by_cases e1 : x < i - 1
  · rw [if_pos (by omega)]
    by_cases e2 : y < i - 1
    · rw [if_pos (by omega)]; exact hS _ _ (by omega) (by omega) (by omega)
    · rw [if_neg (by omega)]
      by_cases e3 : y = i - 1
      · rw [if_pos e3]; exact A _ (by omega) (by omega)
      · rw [if_neg e3]; exact hS _ _ (by omega) (by omega) (by omega)
  · rw [if_neg (by omega)]
    by_cases e3 : x = i - 1
    · rw [if_pos e3,if_neg (by omega),if_neg (by omega)]; exact B _ (by omega) (by omega)
    · rw [if_neg e3,if_neg (by omega),if_neg (by omega)]; exact hS _ _ (by omega) (by omega) (by omega)

/-! ### A sorted row, and one element behind it -/
structure B2 (lo : α → α → Prop) (a m i j : Nat) (d : List α) : Prop where
  mi : a ≤ i
  ij : i ≤ j
  jb : j ≤ m
  lo_ : i = a ∨ lo (g d (i - 1)) (g d m)
  hi_ : j = m ∨ lo (g d m) (g d j)
theorem b2_up (hL : LO lo tag cl) {a m i j h : Nat} {d : List α} (hB : B2 lo a m i j d) (h1 : i ≤ h) (h2 : h < j) (ht : Tag tag a m (m + 1) d) (hc : cl (g d m) (g d h) = false) : B2 lo a m (h + 1) j d := by
  obtain ⟨mi,ij,jb,lo_,hi_⟩ := hB
  exact ⟨by omega,by omega,jb,.inr (hL.not (ht h m (by omega) (by omega) (by omega) (by omega)) hc),hi_⟩
theorem b2_down (hL : LO lo tag cl) {a m i j h : Nat} {d : List α} (hB : B2 lo a m i j d) (h1 : i ≤ h) (h2 : h < j) (ht : Tag tag a m (m + 1) d) (hc : cl (g d m) (g d h) = true) : B2 lo a m i h d := by
  obtain ⟨mi,ij,jb,lo_,hi_⟩ := hB
  exact ⟨mi,h1,by omega,lo_,.inr ((hL.cl _ _ (ht h m (by omega) (by omega) (by omega) (by omega))).1 hc)⟩
structure S2 (a m k : Nat) (d0 d : List α) : Prop where
  im : Im a (m + 1) d0 d
  at_ : ∀ l,g d l = if k < l ∧ l ≤ m then g d0 (l - 1) else if l = k then g d0 m else g d0 l
theorem s2_start (a m : Nat) (d : List α) : S2 a m m d d := ⟨Im.refl _ _ _,fun l => by rw [if_neg (by omega)]; split <;> simp_all⟩
theorem s2_step {a m k : Nat} {d0 d : List α} (h : S2 a m (k + 1) d0 d) (h1 : a ≤ k) (h2 : k + 1 ≤ m) (hb : m < d0.length) : S2 a m k d0 (swp d (k + 1) k) := by
  have hl := h.im.len
  have ea : g d (k + 1) = g d0 m := by rw [h.at_,if_neg (by omega),if_pos rfl]
  have eb : g d k = g d0 k := by rw [h.at_,if_neg (by omega),if_neg (by omega)]
  refine ⟨h.im.trans (Im.swp (by omega) (by omega) (by omega) (by omega) (by omega)),fun l => ?_⟩
  rw [g_swp (by omega) (by omega),ea,eb,h.at_ l]
  by_cases e1 : l = k
  · subst e1; rw [if_pos rfl,if_neg (by omega),if_pos rfl]
  · rw [if_neg e1]
    by_cases e2 : l = k + 1
    · subst e2; rw [if_pos rfl,if_pos (by omega)]; rfl
    · rw [if_neg e2]
      by_cases e3 : k + 1 < l ∧ l ≤ m
      · rw [if_pos e3,if_pos (by omega)]
      · rw [if_neg e3,if_neg e2,if_neg (by omega),if_neg e1]
theorem m2_done (hL : LO lo tag cl) {a m i : Nat} {d0 d : List α} (hB : B2 lo a m i i d0) (hS : Srt lo a m d0) (h : S2 a m i d0 d) : Im a (m + 1) d0 d ∧ Srt lo a (m + 1) d := by
  obtain ⟨mi,ij,jb,lo_,hi_⟩ := hB
  have A : ∀ l,a ≤ l → l < i → lo (g d0 l) (g d0 m) := fun l h1 h2 => by
    rcases lo_ with e | e
    · omega
    · by_cases e2 : l = i - 1
      · subst e2; exact e
      · exact hL.trans _ _ _ (hS l (i - 1) h1 (by omega) (by omega)) e
  have B : ∀ l,i ≤ l → l < m → lo (g d0 m) (g d0 l) := fun l h1 h2 => by
    rcases hi_ with e | e
    · omega
    · by_cases e2 : l = i
      · subst e2; exact e
      · exact hL.trans _ _ _ e (hS i l (by omega) (by omega) h2)
  refine ⟨h.im,fun x y h1 h2 h3 => ?_⟩
  rw [h.at_ x,h.at_ y]
  by_cases e1 : x < i
  · rw [if_neg (by omega),if_neg (by omega)]
    by_cases e2 : i < y
    · rw [if_pos (by omega)]
      by_cases e4 : x = y - 1
      · omega
      · exact hS _ _ (by omega) (by omega) (by omega)
    · rw [if_neg (by omega)]
      by_cases e3 : y = i
      · rw [if_pos e3]; exact A _ (by omega) (by omega)
      · rw [if_neg e3]; exact hS _ _ (by omega) (by omega) (by omega)
  · by_cases e3 : x = i
    · rw [if_neg (by omega),if_pos e3,if_pos (by omega)]; exact B _ (by omega) (by omega)
    · rw [if_pos (by omega),if_pos (by omega)]; exact hS _ _ (by omega) (by omega) (by omega)

/-! ### The split -/
def spS (a m b : Nat) : Nat := if (a + b) / 2 < m then (a + b) / 2 + m - b else a
def spR (a m b : Nat) : Nat := if (a + b) / 2 < m then (a + b) / 2 else m
structure Bs (lo : α → α → Prop) (a m b s r : Nat) (d : List α) : Prop where
  s0 : spS a m b ≤ s
  sr : s ≤ r
  r0 : r ≤ spR a m b
  lo_ : s = spS a m b ∨ lo (g d (s - 1)) (g d ((a + b) / 2 + m - s))
  hi_ : r = spR a m b ∨ lo (g d ((a + b) / 2 + m - 1 - r)) (g d r)
theorem bs_start {a m b : Nat} {d : List α} (h1 : a < m) (h2 : m < b) : Bs lo a m b (spS a m b) (spR a m b) d := by
  refine ⟨Nat.le_refl _,?_,Nat.le_refl _,.inl rfl,.inl rfl⟩
  unfold spS spR; split <;> omega
theorem bs_rng {a m b c : Nat} (h1 : a < m) (h2 : m < b) (h3 : spS a m b ≤ c) (h4 : c < spR a m b) : a ≤ c ∧ c < m ∧ m ≤ (a + b) / 2 + m - 1 - c ∧ (a + b) / 2 + m - 1 - c < b := by
  unfold spS at h3; unfold spR at h4; split at h3 <;> split at h4 <;> omega
theorem bs_up (hL : LO lo tag cl) {a m b s r c : Nat} {d : List α} (h1 : a < m) (h2 : m < b) (hB : Bs lo a m b s r d) (h3 : s ≤ c) (h4 : c < r) (ht : Tag tag a m b d) (hc : cl (g d ((a + b) / 2 + m - 1 - c)) (g d c) = false) : Bs lo a m b (c + 1) r d := by
  obtain ⟨s0,sr,r0,lo_,hi_⟩ := hB
  obtain ⟨q1,q2,q3,q4⟩ := @bs_rng a m b c h1 h2 (by omega) (by omega)
  refine ⟨by omega,by omega,r0,.inr ?_,hi_⟩
  have e : (a + b) / 2 + m - (c + 1) = (a + b) / 2 + m - 1 - c := by omega
  rw [e,Nat.add_sub_cancel]
  exact hL.not (ht c _ q1 q2 q3 q4) hc
theorem bs_down (hL : LO lo tag cl) {a m b s r c : Nat} {d : List α} (h1 : a < m) (h2 : m < b) (hB : Bs lo a m b s r d) (h3 : s ≤ c) (h4 : c < r) (ht : Tag tag a m b d) (hc : cl (g d ((a + b) / 2 + m - 1 - c)) (g d c) = true) : Bs lo a m b s c d := by
  obtain ⟨s0,sr,r0,lo_,hi_⟩ := hB
  obtain ⟨q1,q2,q3,q4⟩ := @bs_rng a m b c h1 h2 (by omega) (by omega)
  exact ⟨s0,h3,by omega,lo_,.inr ((hL.cl _ _ (ht c _ q1 q2 q3 q4)).1 hc)⟩
/-- What the two halves are, behind the rotation. -/
structure Half (lo : α → α → Prop) (tag : α → Int) (a m b s : Nat) (d1 : List α) : Prop where
  as : a ≤ s
  smid : s ≤ (a + b) / 2
  mide : (a + b) / 2 ≤ (a + b) / 2 + m - s
  eb : (a + b) / 2 + m - s ≤ b
  s1 : Srt lo a s d1
  s2 : Srt lo s ((a + b) / 2) d1
  t1 : Tag tag a s ((a + b) / 2) d1
  s3 : Srt lo ((a + b) / 2) ((a + b) / 2 + m - s) d1
  s4 : Srt lo ((a + b) / 2 + m - s) b d1
  t2 : Tag tag ((a + b) / 2) ((a + b) / 2 + m - s) b d1
  x : ∀ k l,a ≤ k → k < (a + b) / 2 → (a + b) / 2 ≤ l → l < b → lo (g d1 k) (g d1 l)
theorem half (hL : LO lo tag cl) {a m b s : Nat} {d d1 : List α} (h1 : a < m) (h2 : m < b) (hB : Bs lo a m b s s d) (hS1 : Srt lo a m d) (hS2 : Srt lo m b d) (ht : Tag tag a m b d) (hg : ∀ k,g d1 k = rotT s m ((a + b) / 2 + m - s) d k) : Half lo tag a m b s d1 := by
  obtain ⟨s0,sr,r0,lo_,hi_⟩ := hB
  have q : a ≤ s ∧ s ≤ (a + b) / 2 ∧ s ≤ m ∧ (a + b) / 2 + m - s ≤ b := by
    unfold spS at s0; unfold spR at r0; split at s0 <;> split at r0 <;> omega
  obtain ⟨q1,q2,q3,q4⟩ := q
  generalize hmid : (a + b) / 2 = mid at *
  -- the four pieces
  have p1 : ∀ k,k < s → g d1 k = g d k := fun k hk => by rw [hg]; unfold rotT; rw [if_neg (by omega),if_neg (by omega)]
  have p2 : ∀ k,s ≤ k → k < mid → g d1 k = g d (k + (m - s)) := fun k h3 h4 => by rw [hg]; unfold rotT; rw [if_pos (by omega)]
  have p3 : ∀ k,mid ≤ k → k < mid + m - s → g d1 k = g d (k - (mid - s)) := fun k h3 h4 => by
    rw [hg]; unfold rotT; rw [if_neg (by omega),if_pos (by omega)]; congr 1; omega
  have p4 : ∀ k,mid + m - s ≤ k → g d1 k = g d k := fun k h3 => by rw [hg]; unfold rotT; rw [if_neg (by omega),if_neg (by omega)]
  -- A1 before B2
  have x1 : ∀ k l,a ≤ k → k < s → mid + m - s ≤ l → l < b → lo (g d k) (g d l) := fun k l h3 h4 h5 h6 => by
    have hsp : s ≠ spS a m b := by
      intro e; unfold spS at e; rw [hmid] at e; split at e <;> omega
    rcases lo_ with e | e
    · exact absurd e hsp
    · have e1 : k = s - 1 ∨ lo (g d k) (g d (s - 1)) := by
        by_cases e : k = s - 1
        · exact .inl e
        · exact .inr (hS1 k (s - 1) h3 (by omega) (by omega))
      have e2 : l = mid + m - s ∨ lo (g d (mid + m - s)) (g d l) := by
        by_cases e : l = mid + m - s
        · exact .inl e
        · exact .inr (hS2 (mid + m - s) l (by omega) (by omega) h6)
      have e3 : lo (g d k) (g d (mid + m - s)) := by
        rcases e1 with e1 | e1
        · rw [e1]; exact e
        · exact hL.trans _ _ _ e1 e
      rcases e2 with e2 | e2
      · rw [e2]; exact e3
      · exact hL.trans _ _ _ e3 e2
  -- B1 before A2
  have x2 : ∀ k l,m ≤ k → k < mid + m - s → s ≤ l → l < m → lo (g d k) (g d l) := fun k l h3 h4 h5 h6 => by
    have hsp : s ≠ spR a m b := by
      intro e; unfold spR at e; rw [hmid] at e; split at e <;> omega
    rcases hi_ with e | e
    · exact absurd e hsp
    · have e1 : k = mid + m - 1 - s ∨ lo (g d k) (g d (mid + m - 1 - s)) := by
        by_cases e : k = mid + m - 1 - s
        · exact .inl e
        · exact .inr (hS2 k (mid + m - 1 - s) h3 (by omega) (by omega))
      have e2 : l = s ∨ lo (g d s) (g d l) := by
        by_cases e : l = s
        · exact .inl e
        · exact .inr (hS1 s l (by omega) (by omega) h6)
      have e3 : lo (g d k) (g d s) := by
        rcases e1 with e1 | e1
        · rw [e1]; exact e
        · exact hL.trans _ _ _ e1 e
      rcases e2 with e2 | e2
      · rw [e2]; exact e3
      · exact hL.trans _ _ _ e3 e2
  constructor
  · exact q1
  · rw [hmid]; exact q2
  · rw [hmid]; omega
  · rw [hmid]; exact q4
  · intro i j h3 h4 h5; rw [p1 i (by omega),p1 j (by omega)]; exact hS1 i j h3 h4 (by omega)
  · rw [hmid]; intro i j h3 h4 h5; rw [p2 i (by omega) (by omega),p2 j (by omega) (by omega)]; exact hS2 _ _ (by omega) (by omega) (by omega)
  · rw [hmid]; intro i j h3 h4 h5 h6; rw [p1 i (by omega),p2 j (by omega) (by omega)]; exact ht _ _ (by omega) (by omega) (by omega) (by omega)
  · rw [hmid]; intro i j h3 h4 h5; rw [p3 i (by omega) (by omega),p3 j (by omega) (by omega)]; exact hS1 _ _ (by omega) (by omega) (by omega)
  · rw [hmid]; intro i j h3 h4 h5; rw [p4 i (by omega),p4 j (by omega)]; exact hS2 _ _ (by omega) (by omega) (by omega)
  · rw [hmid]; intro i j h3 h4 h5 h6; rw [p3 i (by omega) (by omega),p4 j (by omega)]; exact ht _ _ (by omega) (by omega) (by omega) (by omega)
  · rw [hmid]
    intro k l h3 h4 h5 h6
    by_cases e1 : k < s
    · rw [p1 k e1]
      by_cases e2 : l < mid + m - s
      · rw [p3 l h5 e2]; exact hS1 _ _ (by omega) (by omega) (by omega)
      · rw [p4 l (by omega)]; exact x1 _ _ h3 e1 (by omega) h6
    · rw [p2 k (by omega) h4]
      by_cases e2 : l < mid + m - s
      · rw [p3 l h5 e2]; exact x2 _ _ (by omega) (by omega) (by omega) (by omega)
      · rw [p4 l (by omega)]; exact hS2 _ _ (by omega) (by omega) (by omega)
theorem rotT_id {s m e : Nat} (d : List α) (hs : s ≤ m) (he : m ≤ e) (h : s = m ∨ e = m) (k : Nat) : rotT s m e d k = g d k := by
  unfold rotT
  rcases h with rfl | rfl
  · by_cases h1 : s ≤ k ∧ k < s + (e - s)
    · rw [if_pos h1]; congr 1; omega
    · rw [if_neg h1,if_neg (by omega)]
  · by_cases h1 : s + (e - e) ≤ k ∧ k < e
    · rw [if_neg (by omega),if_pos h1]; congr 1; omega
    · rw [if_neg (by omega),if_neg h1]
/-- The halves, each in order, make the whole. -/
theorem join {a c b : Nat} {d1 d2 d3 : List α} (hac : a ≤ c) (hcb : c ≤ b) (hx : ∀ k l,a ≤ k → k < c → c ≤ l → l < b → lo (g d1 k) (g d1 l)) (h2 : Im a c d1 d2) (s2 : Srt lo a c d2) (h3 : Im c b d2 d3) (s3 : Srt lo c b d3) : Im a b d1 d3 ∧ Srt lo a b d3 := by
  refine ⟨(h2.mono (Nat.le_refl _) hcb).trans (h3.mono hac (Nat.le_refl _)),fun i j h4 h5 h6 => ?_⟩
  by_cases e1 : j < c
  · rw [h3.out i (by omega),h3.out j (by omega)]; exact s2 i j h4 h5 e1
  · by_cases e2 : c ≤ i
    · exact s3 i j e2 h5 h6
    · obtain ⟨j',h7,h8,e⟩ := h3.img j (by omega) h6
      obtain ⟨i',h9,h10,e'⟩ := h2.img i h4 (by omega)
      rw [h3.out i (by omega),e',e,h2.out j' (by omega)]
      exact hx i' j' h9 h10 h7 h8

theorem Tag.im {a b x n : Nat} {d d' : List α} (h : Tag tag 0 x n d) (hi : Im a b d d') (hx : x ≤ a ∨ b ≤ x) (hb : b ≤ n) : Tag tag 0 x n d' := by
  intro k l h1 h2 h3 h4
  have hk : ∃ k',k' < x ∧ g d' k = g d k' := by
    by_cases e : k < a ∨ b ≤ k
    · exact ⟨k,h2,hi.out k e⟩
    · obtain ⟨k',h5,h6,e'⟩ := hi.img k (by omega) (by omega); exact ⟨k',by omega,e'⟩
  have hl : ∃ l',x ≤ l' ∧ l' < n ∧ g d' l = g d l' := by
    by_cases e : l < a ∨ b ≤ l
    · exact ⟨l,h3,h4,hi.out l e⟩
    · obtain ⟨l',h5,h6,e'⟩ := hi.img l (by omega) (by omega); exact ⟨l',by omega,by omega,e'⟩
  obtain ⟨k',h5,e1⟩ := hk
  obtain ⟨l',h6,h7,e2⟩ := hl
  rw [e1,e2]; exact h k' l' (by omega) h5 h6 h7
theorem Srt.im {a b x y : Nat} {d d' : List α} (h : Srt lo x y d) (hi : Im a b d d') (hx : y ≤ a ∨ b ≤ x) : Srt lo x y d' := by
  intro i j h1 h2 h3
  rw [hi.out i (by omega),hi.out j (by omega)]; exact h i j h1 h2 h3

/-! ### Blocks -/
theorem gap {k x p : Nat} (h1 : k ∣ x) (h2 : k ∣ p) (h : p < x) : p + k ≤ x := by
  have := Nat.le_of_dvd (by omega) (Nat.dvd_sub h1 h2); omega
/-- The first blocks, one after the other. -/
structure Fi (lo : α → α → Prop) (tag : α → Int) (n p : Nat) (d0 d : List α) : Prop where
  im : Im 0 p d0 d
  pn : p ≤ n
  div : 20 ∣ p
  srt : ∀ x,20 ∣ x → x + 20 ≤ p → Srt lo x (x + 20) d
  tg : ∀ x,20 ∣ x → Tag tag 0 x n d
theorem fi_start {n : Nat} {d : List α} (h0 : Asc tag 0 n d) : Fi lo tag n 0 d d :=
  ⟨Im.refl _ _ _,Nat.zero_le _,⟨0,rfl⟩,fun x _ h => by omega,fun x _ k l h1 h2 h3 h4 => h0 k l h1 (by omega) h4⟩
theorem fi_asc {n p : Nat} {d0 d : List α} (h : Fi lo tag n p d0 d) (h0 : Asc tag 0 n d0) {b : Nat} (hb : b ≤ n) : Asc tag p b d := by
  intro k l h1 h2 h3
  rw [h.im.out k (by omega),h.im.out l (by omega)]; exact h0 k l (by omega) h2 (by omega)
theorem fi_step {n p : Nat} {d0 d d' : List α} (h : Fi lo tag n p d0 d) (hn : p + 20 ≤ n) (hi : Im p (p + 20) d d') (hs : Srt lo p (p + 20) d') : Fi lo tag n (p + 20) d0 d' := by
  refine ⟨(h.im.mono (Nat.le_refl _) (by omega)).trans (hi.mono (by omega) (Nat.le_refl _)),hn,Nat.dvd_add h.div ⟨1,rfl⟩,fun x h1 h2 => ?_,fun x hx => ?_⟩
  · by_cases e : x = p
    · subst e; exact hs
    · have := h.div; exact (h.srt x h1 (by omega)).im hi (by omega)
  · have := h.div; exact (h.tg x hx).im hi (by omega) hn
/-- Blocks of bs are in order behind p, twice as long ones ahead of it. -/
structure Bk (lo : α → α → Prop) (tag : α → Int) (n bs p : Nat) (d0 d : List α) : Prop where
  im : Im 0 n d0 d
  pn : p ≤ n
  div : 2 * bs ∣ p
  ahead : ∀ x,2 * bs ∣ x → x + 2 * bs ≤ p → Srt lo x (x + 2 * bs) d
  behind : ∀ x,bs ∣ x → p ≤ x → Srt lo x (min (x + bs) n) d
  tg : ∀ x,(2 * bs ∣ x ∨ (bs ∣ x ∧ p ≤ x)) → Tag tag 0 x n d
theorem fi_done {n p : Nat} {d0 d d' : List α} (h : Fi lo tag n p d0 d) (hn : n < p + 20) (hi : Im p n d d') (hs : Srt lo p n d') : Bk lo tag n 20 0 d0 d' := by
  have im : Im 0 n d0 d' := (h.im.mono (Nat.le_refl _) h.pn).trans (hi.mono (by omega) (Nat.le_refl _))
  have hd := h.div
  refine ⟨im,Nat.zero_le _,⟨0,rfl⟩,fun x h1 h2 => by omega,fun x h1 h2 => ?_,fun x hx => ?_⟩
  · by_cases e : x + 20 ≤ p
    · have : min (x + 20) n = x + 20 := by have := h.pn; omega
      rw [this]; exact (h.srt x h1 e).im hi (by omega)
    · intro i j h3 h4 h5; exact hs i j (by omega) h4 (by omega)
  · have h20 : 20 ∣ x := by omega
    exact (h.tg x h20).im hi (by omega) (Nat.le_refl _)
theorem bk_pre {n bs p : Nat} {d0 d : List α} (h : Bk lo tag n bs p d0 d) {b : Nat} (hb : p + bs < b) (hbn : b ≤ n) (hb2 : b ≤ p + 2 * bs) : Srt lo p (p + bs) d ∧ Srt lo (p + bs) b d ∧ Tag tag p (p + bs) b d := by
  have h1 : bs ∣ p := Nat.dvd_trans ⟨2,by omega⟩ h.div
  have h2 : bs ∣ p + bs := Nat.dvd_add h1 ⟨1,by omega⟩
  refine ⟨?_,fun i j h3 h4 h5 => h.behind (p + bs) h2 (by omega) i j h3 h4 (by omega),fun k l h3 h4 h5 h6 => h.tg (p + bs) (.inr ⟨h2,by omega⟩) k l (by omega) h4 h5 (by omega)⟩
  have := h.behind p h1 (Nat.le_refl _)
  have e : min (p + bs) n = p + bs := by omega
  rwa [e] at this
theorem bk_step {n bs p : Nat} {d0 d d' : List α} (h : Bk lo tag n bs p d0 d) (hbs : 0 < bs) (hn : p + 2 * bs ≤ n) (hi : Im p (p + 2 * bs) d d') (hs : Srt lo p (p + 2 * bs) d') : Bk lo tag n bs (p + 2 * bs) d0 d' := by
  refine ⟨h.im.trans (hi.mono (by omega) hn),hn,Nat.dvd_add h.div ⟨1,by omega⟩,fun x h1 h2 => ?_,fun x h1 h2 => (h.behind x h1 (by omega)).im hi (by omega),fun x hx => ?_⟩
  · by_cases e : x = p
    · subst e; exact hs
    · have hlt : x < p ∨ p < x := by omega
      rcases hlt with e | e
      · have := gap h.div h1 e; exact (h.ahead x h1 this).im hi (by omega)
      · have := gap h1 h.div e; omega
  · have hd : x ≤ p ∨ p + 2 * bs ≤ x := by
      rcases hx with e | ⟨_,e⟩
      · by_cases e2 : x ≤ p
        · exact .inl e2
        · exact .inr (gap e h.div (by omega))
      · exact .inr e
    refine (h.tg x ?_).im hi (by omega) hn
    rcases hx with e | ⟨e,e2⟩
    · exact .inl e
    · exact .inr ⟨e,by omega⟩
theorem bk_done {n bs p : Nat} {d0 d d' : List α} (h : Bk lo tag n bs p d0 d) (hbs : 0 < bs) (hn : n < p + 2 * bs) (hi : Im p n d d') (hs : Srt lo p n d') : Bk lo tag n (2 * bs) 0 d0 d' := by
  have hpn := h.pn
  have side : ∀ x,2 * bs ∣ x → x ≤ p ∨ n ≤ x := fun x hx => by
    by_cases e : x ≤ p
    · exact .inl e
    · have := gap hx h.div (by omega); exact .inr (by omega)
  refine ⟨h.im.trans (hi.mono (by omega) (Nat.le_refl _)),Nat.zero_le _,⟨0,rfl⟩,fun x h1 h2 => by omega,fun x h1 h2 => ?_,fun x hx => ?_⟩
  · by_cases e : x = p
    · subst e; intro i j h3 h4 h5; exact hs i j h3 h4 (by omega)
    · rcases side x h1 with e2 | e2
      · have := gap h.div h1 (by omega)
        intro i j h3 h4 h5
        exact ((h.ahead x h1 this).im hi (by omega)) i j h3 h4 (by omega)
      · intro i j h3 h4 h5; omega
  · have h1 : 2 * bs ∣ x := by
      rcases hx with e | ⟨e,_⟩
      · exact Nat.dvd_trans ⟨2,by omega⟩ e
      · exact e
    exact (h.tg x (.inl h1)).im hi (side x h1) (Nat.le_refl _)
theorem bk_rest {n bs p : Nat} {d0 d : List α} (h : Bk lo tag n bs p d0 d) (hn : n ≤ p + bs) : Srt lo p n d := by
  have h1 : bs ∣ p := Nat.dvd_trans ⟨2,by omega⟩ h.div
  have := h.behind p h1 (Nat.le_refl _)
  have e : min (p + bs) n = n := by omega
  rwa [e] at this
theorem bk_end {n bs : Nat} {d0 d : List α} (h : Bk lo tag n bs 0 d0 d) (hn : n ≤ bs) : Im 0 n d0 d ∧ Srt lo 0 n d := by
  have := h.behind 0 ⟨0,rfl⟩ (Nat.le_refl _)
  have e : min (0 + bs) n = n := by omega
  rw [e] at this
  exact ⟨h.im,this⟩
end Go.Proofs.YtmnkmdfladbgdaaSrt
