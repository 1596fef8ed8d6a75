/- An interpreter of our own over an abstract heap: the definitions. Names stand for blocks; a slice behind a growing append has a capacity that nobody knows. -/
import Derived.Orders
import Derived.Scope
import Derived.Laws.Cells
import Derived.Laws.CopyRow
set_option linter.unusedVariables false
set_option linter.unusedSimpArgs false
namespace Go.Proofs.YthhhmmildgijhaaGreatDoorAI
open Go

/-! ### 1. A trie -/
inductive T (α : Type) where
  | nil
  | node (l : T α) (v : Option α) (r : T α)

noncomputable section
def T.get {α : Type} (t : T α) : Nat → Option α :=
  T.rec (motive := fun _ => Nat → Option α) (fun _ => none)
    (fun _ v _ ihl ihr n => Nat.rec (motive := fun _ => Option α) v (fun k _ => Bool.rec (motive := fun _ => Option α) (ihr (Nat.div k 2)) (ihl (Nat.div k 2)) (Nat.beq (Nat.mod k 2) 0)) n) t
def T.path {α : Type} (x : Option α) (f : Nat) : Nat → T α :=
  Nat.rec (motive := fun _ => Nat → T α) (fun _ => .nil)
    (fun _ ih n => Nat.rec (motive := fun _ => T α) (.node .nil x .nil) (fun k _ => Bool.rec (motive := fun _ => T α) (.node .nil none (ih (Nat.div k 2))) (.node (ih (Nat.div k 2)) none .nil) (Nat.beq (Nat.mod k 2) 0)) n) f
def T.set {α : Type} (f : Nat) (t : T α) (n : Nat) (x : Option α) : T α :=
  T.rec (motive := fun _ => Nat → T α) (fun n => T.path x f n)
    (fun l v r ihl ihr n => Nat.rec (motive := fun _ => T α) (.node l x r) (fun k _ => Bool.rec (motive := fun _ => T α) (.node l v (ihr (Nat.div k 2))) (.node (ihl (Nat.div k 2)) v r) (Nat.beq (Nat.mod k 2) 0)) n) t n

theorem T.get_nil {α : Type} (n : Nat) : (T.nil : T α).get n = none := rfl
theorem T.get_zero {α : Type} (l r : T α) (v : Option α) : (T.node l v r).get 0 = v := rfl
theorem T.get_succ {α : Type} (l r : T α) (v : Option α) (k : Nat) : (T.node l v r).get (k + 1) = bif Nat.beq (k % 2) 0 then l.get (k / 2) else r.get (k / 2) := by
  show (Bool.rec (r.get (k / 2)) (l.get (k / 2)) (Nat.beq (k % 2) 0) : Option α) = _
  cases Nat.beq (k % 2) 0 <;> rfl
theorem T.path_zero {α : Type} (x : Option α) (f : Nat) : T.path x (f + 1) 0 = .node .nil x .nil := rfl
theorem T.path_succ {α : Type} (x : Option α) (f k : Nat) : T.path x (f + 1) (k + 1) = bif Nat.beq (k % 2) 0 then .node (T.path x f (k / 2)) none .nil else .node .nil none (T.path x f (k / 2)) := by
  show (Bool.rec (.node .nil none (T.path x f (k / 2))) (.node (T.path x f (k / 2)) none .nil) (Nat.beq (k % 2) 0) : T α) = _
  cases Nat.beq (k % 2) 0 <;> rfl
theorem T.set_nil {α : Type} (x : Option α) (f n : Nat) : T.set f .nil n x = T.path x f n := rfl
theorem T.set_zero {α : Type} (x : Option α) (f : Nat) (l r : T α) (v : Option α) : T.set f (.node l v r) 0 x = .node l x r := rfl
theorem T.set_succ {α : Type} (x : Option α) (f k : Nat) (l r : T α) (v : Option α) : T.set f (.node l v r) (k + 1) x = bif Nat.beq (k % 2) 0 then .node (T.set f l (k / 2) x) v r else .node l v (T.set f r (k / 2) x) := by
  show (Bool.rec (.node l v (T.set f r (k / 2) x)) (.node (T.set f l (k / 2) x) v r) (Nat.beq (k % 2) 0) : T α) = _
  cases Nat.beq (k % 2) 0 <;> rfl
theorem T.beq_iff (k : Nat) : Nat.beq (k % 2) 0 = decide (k % 2 = 0) := by
  by_cases h : k % 2 = 0
  · simp [h]
  · cases hb : Nat.beq (k % 2) 0 with
    | true => exact absurd (Nat.eq_of_beq_eq_true hb) h
    | false => simp [h]

theorem T.get_path {α : Type} (x : Option α) : ∀ (f n m : Nat), n < f → (T.path x f n).get m = if m = n then x else none := by
  intro f
  induction f with
  | zero => intro n m h; omega
  | succ f ih =>
    intro n m h
    cases n with
    | zero =>
      rw [T.path_zero]
      cases m with
      | zero => rfl
      | succ m => rw [T.get_succ, T.get_nil, if_neg (by omega)]; cases Nat.beq (m % 2) 0 <;> rfl
    | succ k =>
      rw [T.path_succ]
      have hk : k / 2 < f := by omega
      cases m with
      | zero => rw [if_neg (by omega)]; cases Nat.beq (k % 2) 0 <;> rfl
      | succ j =>
        rw [T.beq_iff]
        by_cases hkz : k % 2 = 0
        · rw [decide_eq_true hkz]
          simp only [cond_true]
          rw [T.get_succ, T.beq_iff, T.get_nil, ih _ _ hk]
          by_cases hjz : j % 2 = 0
          · rw [decide_eq_true hjz]
            simp only [cond_true]
            by_cases hj : j = k
            · subst hj; simp
            · rw [if_neg (by omega), if_neg (by omega)]
          · rw [decide_eq_false hjz]
            simp only [cond_false]
            rw [if_neg (by omega)]
        · rw [decide_eq_false hkz]
          simp only [cond_false]
          rw [T.get_succ, T.beq_iff, T.get_nil, ih _ _ hk]
          by_cases hjz : j % 2 = 0
          · rw [decide_eq_true hjz]
            simp only [cond_true]
            rw [if_neg (by omega)]
          · rw [decide_eq_false hjz]
            simp only [cond_false]
            by_cases hj : j = k
            · subst hj; simp
            · rw [if_neg (by omega), if_neg (by omega)]

theorem T.get_set {α : Type} (x : Option α) : ∀ (f : Nat) (t : T α) (n m : Nat), n < f → (T.set f t n x).get m = if m = n then x else t.get m := by
  intro f t
  induction t with
  | nil => intro n m h; rw [T.set_nil, T.get_path x f n m h, T.get_nil]
  | node l v r ihl ihr =>
    intro n m h
    cases n with
    | zero =>
      rw [T.set_zero]
      cases m with
      | zero => rfl
      | succ m => rw [T.get_succ, T.get_succ, if_neg (by omega)]
    | succ k =>
      rw [T.set_succ]
      have hk : k / 2 < f := by omega
      cases m with
      | zero => rw [if_neg (by omega)]; cases Nat.beq (k % 2) 0 <;> rfl
      | succ j =>
        rw [T.beq_iff]
        by_cases hkz : k % 2 = 0
        · rw [decide_eq_true hkz]
          simp only [cond_true]
          rw [T.get_succ, T.get_succ, T.beq_iff, ihl _ _ hk]
          by_cases hjz : j % 2 = 0
          · rw [decide_eq_true hjz]
            simp only [cond_true]
            by_cases hj : j = k
            · subst hj; simp
            · rw [if_neg (by omega), if_neg (by omega)]
          · rw [decide_eq_false hjz]
            simp only [cond_false]
            rw [if_neg (by omega)]
        · rw [decide_eq_false hkz]
          simp only [cond_false]
          rw [T.get_succ, T.get_succ, T.beq_iff, ihr _ _ hk]
          by_cases hjz : j % 2 = 0
          · rw [decide_eq_true hjz]
            simp only [cond_true]
            rw [if_neg (by omega)]
          · rw [decide_eq_false hjz]
            simp only [cond_false]
            by_cases hj : j = k
            · subst hj; simp
            · rw [if_neg (by omega), if_neg (by omega)]
end

/-! ### 2. Objects, heaps -/
/-- What is no row of cells. -/
inductive AOth where
  | iter (s : ByteArray) (pos : Nat)
  | map (es : List MapEntry) (clock : Nat)
  | miter (m : Option Nat) (since : Nat) (seen : List Nat) (stepped : Nat)
inductive AObj where
  | cells (c : List Value) (e : TypeId) (esz : Nat) (grow ro : Bool)
  | oth (o : AOth)
def AObj.own : AObj → Bool
  | .cells _ _ _ _ ro => !ro
  | .oth _ => true

/-- The program's variables: so many; what those that are told hold. Names below NG are theirs. -/
def NG : Nat := 7
def gtab : List (Nat × List Value × TypeId × Nat) := [(0, [1, 10, 100, 1000, 10000, 100000, 1000000, 10000000, 100000000, 1000000000, 10000000000, 100000000000, 1000000000000, 10000000000000, 100000000000000, 1000000000000000, 10000000000000000, 100000000000000000, 1000000000000000000, 10000000000000000000].map (Value.int .u64), 374, 20), (1, [0, 0, 0, 0, 0, 0, 0, 0, 0, 1, 1, 1, 1, 1, 0, 0, 0, 0, 0, 0, 0, 0, 0, 0, 0, 0, 0, 0, 0, 0, 0, 0, 1, 0, 0, 0, 0, 0, 0, 0, 0, 0, 0, 0, 0, 0, 0, 0, 0, 0, 0, 0, 0, 0, 0, 0, 0, 0, 0, 0, 0, 0, 0, 0, 0, 0, 0, 0, 0, 0, 0, 0, 0, 0, 0, 0, 0, 0, 0, 0, 0, 0, 0, 0, 0, 0, 0, 0, 0, 0, 0, 0, 0, 0, 0, 0, 0, 0, 0, 0, 0, 0, 0, 0, 0, 0, 0, 0, 0, 0, 0, 0, 0, 0, 0, 0, 0, 0, 0, 0, 0, 0, 0, 0, 0, 0, 0, 0, 0, 0, 0, 0, 0, 0, 0, 0, 0, 0, 0, 0, 0, 0, 0, 0, 0, 0, 0, 0, 0, 0, 0, 0, 0, 0, 0, 0, 0, 0, 0, 0, 0, 0, 0, 0, 0, 0, 0, 0, 0, 0, 0, 0, 0, 0, 0, 0, 0, 0, 0, 0, 0, 0, 0, 0, 0, 0, 0, 0, 0, 0, 0, 0, 0, 0, 0, 0, 0, 0, 0, 0, 0, 0, 0, 0, 0, 0, 0, 0, 0, 0, 0, 0, 0, 0, 0, 0, 0, 0, 0, 0, 0, 0, 0, 0, 0, 0, 0, 0, 0, 0, 0, 0, 0, 0, 0, 0, 0, 0, 0, 0, 0, 0, 0, 0, 0, 0, 0, 0, 0, 0, 0, 0, 0, 0, 0, 0].map (Value.int .u8), 405, 256), (2, [0, 1, 28, 2, 29, 14, 24, 3, 30, 22, 20, 15, 25, 17, 4, 8, 31, 27, 13, 23, 21, 19, 16, 7, 26, 12, 18, 6, 11, 5, 10, 9].map (Value.int .u8), 437, 32), (3, [0, 1, 56, 2, 57, 49, 28, 3, 61, 58, 42, 50, 38, 29, 17, 4, 62, 47, 59, 36, 45, 43, 51, 22, 53, 39, 33, 30, 24, 18, 12, 5, 63, 55, 48, 27, 60, 41, 37, 16, 46, 35, 44, 21, 52, 32, 23, 11, 54, 26, 40, 15, 34, 20, 31, 10, 25, 14, 19, 9, 13, 8, 7, 6].map (Value.int .u8), 438, 64), (5, [.chan (some 1)], 3, 1)]
def gobj (n : Nat) : Option AObj :=
  match gtab.find? fun x => Nat.beq x.1 n with
  | some (_, c, e, s) => some (.cells c e s false true)
  | none => none

/-- The one variable of which more may be told for a while. -/
def mlG : Nat := 5
def gobjM (ml : Option Value) (n : Nat) : Option AObj :=
  match ml with
  | none => gobj n
  | some v => bif Nat.beq n mlG then some (.cells [v] 3 1 false true) else gobj n

structure Heap where
  m : T AObj
  cnt : Nat
  dfs : List Value
  ml : Option Value

def Heap.next (h : Heap) : Nat := NG + h.cnt
def Heap.bare (ml : Option Value) : Heap := ⟨.nil, 0, [], ml⟩
def Heap.empty : Heap := .bare none
noncomputable section
def Heap.get (h : Heap) (n : Nat) : Option AObj := bif Nat.blt n NG then gobjM h.ml n else bif Nat.blt n h.next then h.m.get n else none
def Heap.put (h : Heap) (n : Nat) (o : Option AObj) : Heap := ⟨T.set (n + 1) h.m n o, h.cnt, h.dfs, h.ml⟩
def Heap.new (h : Heap) (o : AObj) : Heap := ⟨T.set (h.next + 1) h.m h.next (some o), h.cnt + 1, h.dfs, h.ml⟩
/-- The deferred calls. -/
def Heap.defs (h : Heap) (ds : List Value) : Heap := ⟨h.m, h.cnt, ds, h.ml⟩

theorem blt_t {n m : Nat} (h : n < m) : Nat.blt n m = true := Nat.ble_eq_true_of_le (Nat.succ_le_of_lt h)
theorem blt_lt {n m : Nat} (h : Nat.blt n m = true) : n < m := Nat.le_of_ble_eq_true h
theorem blt_f {n m : Nat} (h : m ≤ n) : Nat.blt n m = false := by
  cases hb : Nat.blt n m with
  | false => rfl
  | true => have := blt_lt hb; omega
theorem blt_ge {n m : Nat} (h : Nat.blt n m = false) : m ≤ n := by
  rcases Nat.lt_or_ge n m with h1 | h1
  · rw [blt_t h1] at h; cases h
  · exact h1
theorem ble_t {n m : Nat} (h : n ≤ m) : Nat.ble n m = true := Nat.ble_eq_true_of_le h
theorem ble_le {n m : Nat} (h : Nat.ble n m = true) : n ≤ m := Nat.le_of_ble_eq_true h
theorem ble_f {n m : Nat} (h : m < n) : Nat.ble n m = false := by
  cases hb : Nat.ble n m with
  | false => rfl
  | true => have := ble_le hb; omega
theorem beq_t {n m : Nat} (h : n = m) : Nat.beq n m = true := by subst h; exact Nat.beq_refl n
theorem beq_f {n m : Nat} (h : n ≠ m) : Nat.beq n m = false := by
  cases hb : Nat.beq n m with
  | false => rfl
  | true => exact absurd (Nat.eq_of_beq_eq_true hb) h

theorem Heap.NG_le (h : Heap) : NG ≤ h.next := Nat.le_add_right _ _
theorem gobj_lt {n : Nat} {h : Heap} (hn : n < NG) : h.get n = gobjM h.ml n := by
  unfold Heap.get; rw [blt_t hn]; rfl
theorem gobj_ro {n : Nat} {o : AObj} (h : gobj n = some o) : ∃ c e s, o = .cells c e s false true := by
  unfold gobj at h
  split at h
  · cases h; exact ⟨_, _, _, rfl⟩
  · cases h
theorem gobjM_ro {ml : Option Value} {n : Nat} {o : AObj} (h : gobjM ml n = some o) : ∃ c e s, o = .cells c e s false true := by
  unfold gobjM at h
  split at h
  · exact gobj_ro h
  · cases hb : Nat.beq n mlG with
    | true => rw [hb] at h; cases h; exact ⟨_, _, _, rfl⟩
    | false => rw [hb] at h; exact gobj_ro h
theorem Heap.get_bare {ml : Option Value} {n : Nat} (hn : NG ≤ n) : (Heap.bare ml).get n = none := by
  unfold Heap.get
  rw [blt_f hn, blt_f (show (Heap.bare ml).next ≤ n from hn)]; rfl
theorem Heap.get_lt {h : Heap} {n : Nat} {o : AObj} (e : h.get n = some o) : n < h.next := by
  unfold Heap.get at e
  have hN := h.NG_le
  cases ha : Nat.blt n NG with
  | true => exact Nat.lt_of_lt_of_le (blt_lt ha) hN
  | false =>
    rw [ha] at e
    cases hb : Nat.blt n h.next with
    | true => exact blt_lt hb
    | false => rw [hb] at e; cases e
theorem Heap.get_of_ge {h : Heap} {n : Nat} (e : h.next ≤ n) : h.get n = none := by
  cases hg : h.get n with
  | none => rfl
  | some o => have := Heap.get_lt hg; omega
theorem Heap.own_ge {h : Heap} {n : Nat} {o : AObj} (e : h.get n = some o) (ho : o.own = true) : NG ≤ n := by
  rcases Nat.lt_or_ge n NG with h1 | h1
  · rw [gobj_lt h1] at e
    obtain ⟨c, t, s, rfl⟩ := gobjM_ro e
    cases ho
  · exact h1
theorem Heap.get_put {h : Heap} {n m : Nat} {o : Option AObj} (hg : NG ≤ n) (hn : n < h.next) : (h.put n o).get m = if m = n then o else h.get m := by
  unfold Heap.get
  have hx : (h.put n o).next = h.next := rfl
  rw [hx]
  unfold Heap.put
  simp only [T.get_set o (n + 1) h.m n m (by omega)]
  by_cases e : m = n
  · subst e; simp [blt_t hn, blt_f hg]
  · simp [e]
theorem Heap.get_new {h : Heap} {m : Nat} {o : AObj} : (h.new o).get m = if m = h.next then some o else h.get m := by
  have hN := h.NG_le
  unfold Heap.get
  have hx : (h.new o).next = h.next + 1 := rfl
  rw [hx]
  unfold Heap.new
  simp only [T.get_set _ (h.next + 1) h.m h.next m (by omega)]
  by_cases e : m = h.next
  · subst e; simp [blt_t (Nat.lt_succ_self h.next), blt_f hN]
  · simp only [e, if_false]
    rcases Nat.lt_or_ge m h.next with h1 | h1
    · rw [blt_t h1, blt_t (show m < h.next + 1 by omega)]
    · rw [blt_f h1, blt_f (show h.next + 1 ≤ m by omega)]
theorem Heap.next_put (h : Heap) (n : Nat) (o : Option AObj) : (h.put n o).next = h.next := rfl
theorem Heap.next_new (h : Heap) (o : AObj) : (h.new o).next = h.next + 1 := rfl
theorem Heap.get_defs (h : Heap) (ds : List Value) : (h.defs ds).get = h.get := rfl
theorem Heap.next_defs (h : Heap) (ds : List Value) : (h.defs ds).next = h.next := rfl
theorem Heap.ml_put (h : Heap) (n : Nat) (o : Option AObj) : (h.put n o).ml = h.ml := rfl
theorem Heap.dfs_put (h : Heap) (n : Nat) (o : Option AObj) : (h.put n o).dfs = h.dfs := rfl
theorem Heap.dfs_new (h : Heap) (o : AObj) : (h.new o).dfs = h.dfs := rfl

/-! ### 3. Values -/
/-- A value of which nothing is known. -/
def unk : Value := .chan (some 0)
def isUnk : Value → Bool
  | .chan _ => true
  | _ => false
/-- An int of which nothing is known; one that isn't less than k; one that is. -/
def anyInt : Value := .chan (some 1)
def geInt (k : Nat) : Value := .chan (some (2 * k + 3))
def ltInt (k : Nat) : Value := .chan (some (2 * k + 4))
/-- An int beside one that isn't known. -/
def cmpUnk (op : BinOp) (a : Int) (q : Nat) : Option Value :=
  match q % 2, q - 3 with
  | 1, r =>
    match op with
    | .leq => if a ≤ ((r / 2 : Nat) : Int) then some (.bool true) else none
    | .gtr => if a ≤ ((r / 2 : Nat) : Int) then some (.bool false) else none
    | _ => none
  | _, r =>
    match op with
    | .leq => if ((r / 2 : Nat) : Int) ≤ a then some (.bool false) else none
    | .gtr => if ((r / 2 : Nat) : Int) ≤ a then some (.bool true) else none
    | _ => none
/-- One cell's value, known. -/
def one : Value → Bool
  | .agg _ | .tuple _ | .chan _ => false
  | _ => true
/-- No address, nothing unknown. -/
def plainN : Nat → Value → Bool
  | 0, _ => false
  | d + 1, v =>
    match v with
    | .bool _ | .int .. | .string _ | .nilFunc | .nilIface | .complex .. => true
    | .float _ b => Nat.blt b (2 ^ 64)
    | .pointer none => true
    | .slice none 0 0 => true
    | .map none => true
    | .func _ a b => a.toList.all (plainN d) && b.toList.all (plainN d)
    | .iface _ v => plainN d v
    | .agg cs | .tuple cs => cs.toList.all (plainN d)
    | _ => false
def plain (v : Value) : Bool := plainN 8 v

/-- The cells of a value that is stored. -/
def okCells (v : Value) : Option (List Value) :=
  match v with
  | .agg cs => bif cs.toList.all one then some cs.toList else none
  | v => bif one v then some [v] else none

/-! ### 4. What runs without memory -/
def pureRun {α : Type} (P : Program) : Sem α → Option α
  | .pure a => some a
  | .program k => pureRun P (k P)
  | .mark _ k => pureRun P k
  | _ => none

theorem pureRun_run {α : Type} {P : Program} : ∀ {m : Sem α} {a : α}, pureRun P m = some a → ∀ w, m.run P w = .ok a w := by
  intro m
  induction m with
  | pure a => intro b h w; simp only [pureRun, Option.some.injEq] at h; subst h; rfl
  | program k ih => intro b h w; simp only [pureRun] at h; exact ih P h w
  | mark m k ih => intro b h w; simp only [pureRun] at h; exact ih h w
  | _ => intro b h w; simp [pureRun] at h

def isSelect : Op → Bool
  | .select .. => true
  | _ => false
def purerule (P : Program) (ρ : Operand → Value) (o : Oper) : Option Value :=
  bif !isSelect o.op && o.op.operands.toList.all (fun x => plain (ρ x)) then
    match pureRun P (execOp ρ o) with
    | some (.value v) => bif plain v then some v else none
    | _ => none
  else none

/-! ### 5. The operations -/
def szOf (P : Program) (t : TypeId) : Option Nat := (P.info? t).map (·.size)
def isAggT (d : TypeDesc) : Bool :=
  match d with
  | .struct _ | .array _ _ => true
  | _ => false

def aload (P : Program) (t : TypeId) (n off : Nat) (g : Nat → Option AObj) : Option Value :=
  match g n with
  | some (.cells c _ _ _ _) =>
    match P.underlying t with
    | some d =>
      bif isAggT d then
        match szOf P t with
        | some sz => bif Nat.ble (off + sz) c.length then some (.agg ((c.drop off).take sz).toArray) else none
        | none => none
      else c[off]?
    | none => none
  | _ => none

def afieldAddr (P : Program) (s : TypeId) (x : Value) (f : Nat) : Option Value :=
  match P.underlying s, x with
  | some (.struct fields), .pointer (some ⟨n, off, none⟩) =>
    match fields[f]? with
    | some fl =>
      match szOf P fl.type with
      | some (_ + 1) => some (.pointer (some ⟨n, off + fl.offset, none⟩))
      | _ => none
    | none => none
  | _, _ => none

def aindexAddr (P : Program) (t : TypeId) (x i : Value) : Option Value :=
  match P.underlying t, x, i with
  | some (.slice e), .slice (some ⟨n, off, _⟩) len _, .int _ k =>
    match szOf P e with
    | some sz => if 0 ≤ k ∧ k < len then some (.pointer (some ⟨n, off + k.toNat * sz, none⟩)) else none
    | none => none
  | some (.array len e), .pointer (some ⟨n, off, none⟩), .int _ k =>
    match szOf P e with
    | some sz => if 0 ≤ k ∧ k < len then some (.pointer (some ⟨n, off + k.toNat * sz, none⟩)) else none
    | none => none
  | _, _, _ => none

/-- A bound of a slice expression: an int. -/
def abound (d : Nat) : Option Value → Option Nat
  | none => some d
  | some (.int _ k) => if 0 ≤ k then some k.toNat else none
  | some _ => none

def aslice (P : Program) (t : TypeId) (x : Value) (lo hi mx : Option Value) : Option Value :=
  match P.underlying t, x with
  | some (.slice e), .slice a len cap =>
    match szOf P e, a with
    | some sz, some ⟨n, off, none⟩ =>
      match abound 0 lo, abound len hi, abound cap mx with
      | some l, some h, some m =>
        bif Nat.ble l h && Nat.ble h m && Nat.ble m cap && (hi.isSome || mx.isNone) then
          some (.slice (some ⟨n, bif Nat.beq m l then off else off + l * sz, none⟩) (h - l) (m - l)) else none
      | _, _, _ => none
    | some sz, some ⟨n, off, some _⟩ =>
      match mx with
      | none =>
        match abound 0 lo, abound len hi with
        | some l, some h => bif Nat.ble l h && Nat.ble h len && Nat.beq cap sz then some (.slice (some ⟨n, off + l * sz, some 0⟩) (h - l) sz) else none
        | _, _ => none
      | some mv =>
        match abound 0 lo, abound len hi, abound 0 (some mv) with
        | some l, some h, some m => bif Nat.ble l h && Nat.ble h m && Nat.ble m len && hi.isSome then some (.slice (some ⟨n, off + l * sz, none⟩) (h - l) (m - l)) else none
        | _, _, _ => none
    | some _, none =>
      match abound 0 lo, abound len hi, abound cap mx with
      | some 0, some 0, some 0 => bif (hi.isSome || mx.isNone) && Nat.beq len 0 && Nat.beq cap 0 then some (.slice none 0 0) else none
      | _, _, _ => none
    | none, _ => none
  | _, _ => none

def apart (P : Program) (t : TypeId) (cs : Array Value) (off : Nat) : Option Value :=
  match P.underlying t with
  | some d =>
    bif isAggT d then
      match szOf P t with
      | some sz => some (.agg (cs.extract off (off + sz)))
      | none => none
    else cs[off]?
  | none => none

def afield (P : Program) (t : TypeId) (x : Value) (f : Nat) : Option Value :=
  match P.underlying t, x with
  | some (.struct fields), .agg cs =>
    match fields[f]? with
    | some fl => apart P fl.type cs fl.offset
    | none => none
  | _, _ => none

/-- A field's place. -/
def aplaces (P : Program) (fields : Array Field) : Option (List (Nat × Nat)) := fields.toList.mapM fun f => (szOf P f.type).map fun s => (f.offset, s)

def abuild (P : Program) (t : TypeId) (parts : List (Nat × Value)) : Option Value :=
  match P.underlying t, (P.info? t).bind (·.zero) with
  | some (.struct fields), some z =>
    match aplaces P fields with
    | some pl =>
      bif plain z && parts.all (fun p => !isUnk p.2) then
        match Instr.fill (pl.toArray[·]?) z.cells parts with
        | some cs => some (.agg cs)
        | none => none
      else none
    | none => none
  | some (.array _ e), some z =>
    match szOf P e with
    | some s =>
      bif plain z && parts.all (fun p => !isUnk p.2) then
        match Instr.fill (fun i => some (i * s, s)) z.cells parts with
        | some cs => some (.agg cs)
        | none => none
      else none
    | none => none
  | _, _ => none

/-- Are two structs of whole numbers the same? -/
def aeqFields (P : Program) (xs ys : Array Value) : List Field → Option Bool
  | [] => some true
  | f :: fs =>
    match f.name == "_", P.underlying f.type, apart P f.type xs f.offset, apart P f.type ys f.offset, aeqFields P xs ys fs with
    | false, some (.int _), some (.int k a), some (.int k' b), some r => bif decide (k = k') then some ((a == b) && r) else none
    | _, _, _, _, _ => none
def aggOk (P : Program) (t : TypeId) : Bool := !P.stoodInHeld t && !P.eqGuardType P.depth t

/-- Are two values the same? Where addresses are. -/
def aeq (P : Program) (t : TypeId) (x y : Value) (g : Nat → Option AObj) : Option Bool :=
  match P.underlying t, x, y with
  | some (.pointer _), .pointer none, .pointer (some ⟨_, _, none⟩) => some false
  | some (.pointer _), .pointer (some ⟨_, _, none⟩), .pointer none => some false
  | some (.pointer e), .pointer (some ⟨n, i, none⟩), .pointer (some ⟨m, j, none⟩) =>
    match szOf P e with
    | some (_ + 1) =>
      bif Nat.beq n m then some (Nat.beq i j) else
        match g n, g m with
        | some (.cells _ _ _ _ false), some (.cells _ _ _ _ false) => some false
        | _, _ => none
    | _ => none
  | some (.slice _), .slice none _ _, .slice (some _) _ _ => some false
  | some (.slice _), .slice (some _) _ _, .slice none _ _ => some false
  | some (.func ..), .nilFunc, .func .. => some false
  | some (.func ..), .func .., .nilFunc => some false
  | some (.interface _), .nilIface, .iface .. => some false
  | some (.interface _), .iface .., .nilIface => some false
  | some (.pointer _), .pointer none, .pointer none => some true
  | some (.slice _), .slice none _ _, .slice none _ _ => some true
  | some (.struct fields), .agg xs, .agg ys => bif aggOk P t then aeqFields P xs ys fields.toList else none
  | _, _, _ => none

/-- The names that such a comparison, or a load, looks into. -/
def readNames (ρ : Operand → Value) (o : Oper) : List Nat :=
  match o.op with
  | .load _ a => match ρ a with
    | .pointer (some ⟨n, _, _⟩) => [n]
    | _ => []
  | .binOp _ _ x y _ => match ρ x, ρ y with
    | .pointer (some ⟨n, _, _⟩), .pointer (some ⟨m, _, _⟩) => [n, m]
    | _, _ => []
  | _ => []

def atypeAssert (P : Program) (x : Value) (asserted : TypeId) (ok : Bool) : Option Value :=
  match P.underlying asserted, x with
  | some (.interface want), .iface t v =>
    match P.info? t with
    | some i =>
      match Instr.missingMethod want i.methods with
      | none => some (bif ok then .tuple #[.iface t v, .bool true] else .iface t v)
      | some _ => none
    | none => none
  | some d, .nilIface =>
    bif ok then
      match (P.info? asserted).bind (·.zero) with
      | some z => bif plain z then some (.tuple #[z, .bool false]) else none
      | none => none
    else none
  | some _, .iface t v =>
    bif Nat.beq t asserted then some (bif ok then .tuple #[v, .bool true] else v) else
      bif ok then
        match (P.info? asserted).bind (·.zero) with
        | some z => bif plain z then some (.tuple #[z, .bool false]) else none
        | none => none
      else none
  | _, _ => none

/-- What is there at once. -/
def atOnce (s : Sem Value) : Option Value :=
  match s with
  | .pure v => bif plain v then some v else none
  | _ => none
def intBin (op : BinOp) (k : IntKind) (a b : Int) : Option Value :=
  match op with
  | .add => some (.int k (k.wrap (a + b)))
  | .sub => some (.int k (k.wrap (a - b)))
  | .mul => some (.int k (k.wrap (a * b)))
  | .quo => bif decide (b = 0) then none else some (.int k (k.wrap (a.tdiv b)))
  | .rem => bif decide (b = 0) then none else some (.int k (a.tmod b))
  | .eql => some (.bool (a == b))
  | .neq => some (.bool (a != b))
  | .lss => some (.bool (decide (a < b)))
  | .leq => some (.bool (decide (a ≤ b)))
  | .gtr => some (.bool (decide (a > b)))
  | .geq => some (.bool (decide (a ≥ b)))
  | .and | .or | .xor | .andNot => atOnce (Op.intBits op k a b)
  | _ => none
def intShift (op : BinOp) (k : IntKind) (a : Int) (k' : IntKind) (b : Int) : Option Value :=
  match op with
  | .shl | .shr => atOnce (Op.shift op k a k' b)
  | _ => bif decide (k = k') then intBin op k a b else none
def boolBin (op : BinOp) (a b : Bool) : Option Value :=
  match op with
  | .eql => some (.bool (a == b))
  | .neq => some (.bool (!(a == b)))
  | _ => none
/-- Sums of floats: a NaN that is made, and what comes of one, has unknown bits: it is told as 2 ^ 64. -/
def afloat (u v : Value) : Option Value :=
  match u, v with
  | .float .f64 a, .float .f64 b =>
    bif Nat.blt a (2 ^ 64) && Nat.blt b (2 ^ 64) then
      match Ieee.double.add a b with
      | some r => bif Nat.blt r (2 ^ 64) then some (.float .f64 r) else none
      | none => some (.float .f64 (2 ^ 64))
    else bif Nat.ble a (2 ^ 64) && Nat.ble b (2 ^ 64) then some (.float .f64 (2 ^ 64)) else none
  | _, _ => none
/-- A NaN of unknown bits, compared. -/
def nanCmp (op : BinOp) (a b : Nat) : Option Value :=
  bif (Nat.beq a (2 ^ 64) && Nat.ble b (2 ^ 64)) || (Nat.beq b (2 ^ 64) && Nat.ble a (2 ^ 64)) then
    match op with
    | .neq => some (.bool true)
    | .eql | .lss | .leq | .gtr | .geq => some (.bool false)
    | _ => none
  else none
/-- Is it a sum of floats? -/
def isFl (P : Program) (op : BinOp) (t : TypeId) : Bool :=
  match op with
  | .add => match P.underlying t with | some (.float .f64) => true | _ => false
  | _ => false
def binE (P : Program) (op : BinOp) (t : TypeId) (u v : Value) (g : Nat → Option AObj) : Option Value :=
  match op with
  | .eql => (aeq P t u v g).map Value.bool
  | .neq => (aeq P t u v g).map fun b => Value.bool (!b)
  | _ => none

def bcat (a b : ByteArray) : ByteArray := ⟨(a.data.toList ++ b.data.toList).toArray⟩
def bsub (s : ByteArray) (l h : Nat) : ByteArray := ⟨((s.data.toList.drop l).take (h - l)).toArray⟩
def beqL : List UInt8 → List UInt8 → Bool
  | [], [] => true
  | a :: x, b :: y => bif Nat.beq a.toNat b.toNat then beqL x y else false
  | _, _ => false
def sliceStr (s : ByteArray) (lo hi mx : Option Value) : Option Value :=
  match mx, abound 0 lo, abound s.size hi with
  | none, some l, some h => bif Nat.ble l h && Nat.ble h s.size then some (.string (bsub s l h)) else none
  | _, _, _ => none
def indexStr (s : ByteArray) (i : Value) : Option Value :=
  match i with
  | .int _ (.ofNat k) => (s.data.toList[k]?).map fun b => .int .u8 b.toNat
  | _ => none
def strBin (op : BinOp) (a b : ByteArray) : Option Value :=
  match op with
  | .add => bif Nat.blt (a.size + b.size) (2 ^ 40) then some (.string (bcat a b)) else none
  | .eql => some (.bool (beqL a.data.toList b.data.toList))
  | .neq => some (.bool (!beqL a.data.toList b.data.toList))
  | _ => none
def idxL (c : Nat) : List UInt8 → Nat → Int
  | [], _ => -1
  | b :: l, i => bif Nat.beq b.toNat c then (i : Int) else idxL c l (i + 1)

/-- A method's value behind an interface's: the method is the dynamic type's own, by a pointer. -/
def methodHere (P : Program) (name : String) (first : Array Value) : Bool :=
  match first.toList with
  | .iface t _ :: _ => match P.info? t with
    | some i => match i.methods.find? (·.name == name) with
      | some m => match m.path.toList, m.func with
        | [], some (_, true) => true
        | _, _ => false
      | none => false
    | none => false
  | _ => false
def lightS (P : Program) (ρ : Operand → Value) (o : Oper) (g : Nat → Option AObj) : Option Value :=
  match o.op with
  | .move x | .assign x => some (ρ x)
  | .pick c a b => match ρ c with
    | .bool t => some (bif t then ρ a else ρ b)
    | _ => none
  | .load t a => match ρ a with
    | .pointer (some ⟨n, off, none⟩) => aload P t n off g
    | _ => none
  | .nilCheck x => match ρ x with
    | .pointer (some a) => some (.pointer (some a))
    | .func (.func f) a b => some (.func (.func f) a b)
    | .func (.method name) a b => bif methodHere P name a then some (.func (.method name) a b) else none
    | .iface t v => some (.iface t v)
    | _ => none
  | .fieldAddr s x f => afieldAddr P s (ρ x) f
  | .indexAddr t x i => aindexAddr P t (ρ x) (ρ i)
  | .slice t x lo hi mx => match ρ x with
    | .string s => match P.underlying t with
      | some .string => sliceStr s (lo.map ρ) (hi.map ρ) (mx.map ρ)
      | _ => none
    | v => aslice P t v (lo.map ρ) (hi.map ρ) (mx.map ρ)
  | .index t x i => match ρ x with
    | .string s => match P.underlying t with
      | some .string => indexStr s (ρ i)
      | _ => none
    | _ => none
  | .makeInterface t x => match P.underlying t with
    | some (.interface _) => none
    | some _ => some (.iface t (ρ x))
    | none => none
  | .makeFunc fn first captured => some (.func fn (first.map ρ) (captured.map ρ))
  | .extract x i => match ρ x with
    | .tuple vs => vs[i]?
    | _ => none
  | .field t x f => afield P t (ρ x) f
  | .build t parts => abuild P t (parts.map fun (i, x) => (i, ρ x)).toList
  | .binOp op t x y _ => match ρ x, ρ y with
    | .int k a, .int k' b => intShift op k a k' b
    | .bool a, .bool b => match P.underlying t with
      | some .bool => boolBin op a b
      | _ => none
    | .float .f64 a, .float .f64 b => nanCmp op a b
    | .string a, .string b => strBin op a b
    | .int .i64 a, .chan (some q) => bif Nat.ble 3 q then cmpUnk op a q else none
    | u, v => binE P op t u v g
  | .unOp op _ x => match op, ρ x with
    | .not, .bool b => some (.bool (!b))
    | op, .int k n => atOnce (Op.unary op (.int k n))
    | _, _ => none
  | .convert src dst x => match P.underlying src, P.underlying dst, ρ x with
    | some _, some (.int k), .int _ n => some (.int k (k.wrap n))
    | _, _, _ => none
  | .typeAssert x _ asserted ok => atypeAssert P (ρ x) asserted ok
  | .call c => match c.callee with
    | .builtin .len => match c.args.toList, c.argTypes[0]? with
      | [x], some t => match P.underlying t, ρ x with
        | some (.slice _), .slice _ n _ => some (goInt n)
        | some .string, .string s => some (goInt s.size)
        | _, _ => none
      | _, _ => none
    | _ => none
  | _ => none

def light (P : Program) (ρ : Operand → Value) (o : Oper) (g : Nat → Option AObj) : Option Value :=
  match lightS P ρ o g with
  | some v => some v
  | none => purerule P ρ o

/-- Is it a map's type? a function that is converted in memory? -/
def isMapT (P : Program) (t : TypeId) : Bool :=
  match P.underlying t with
  | some (.map _ _) => true
  | _ => false
def memConv (P : Program) (src dst : TypeId) : Bool :=
  match P.underlying src, P.underlying dst with
  | some (.slice _), some .string | some .string, some (.slice _) | some (.pointer _), some .unsafePointer | some .unsafePointer, some (.pointer _) => true
  | _, _ => false

/-- What makes a new block, and needs none. -/
def aalloc (P : Program) (ρ : Operand → Value) (o : Oper) : Option (AObj × (Nat → Value)) :=
  match o.op with
  | .alloc t => match (P.info? t).bind (·.zero), szOf P t with
    | some z, some sz => match okCells z with
      | some cs => bif plain z && Nat.beq cs.length sz then some (.cells cs t sz false false, fun n => .pointer (some ⟨n, 0, none⟩)) else none
      | none => none
    | _, _ => none
  | .box t x => match okCells (ρ x), szOf P t with
    | some cs, some sz => some (.cells cs t sz false false, fun n => .pointer (some ⟨n, 0, none⟩))
    | _, _ => none
  | .buildSlice t len parts => match P.underlying t with
    | some (.slice e) => match szOf P e, (P.info? e).bind (·.zero) with
      | some (s + 1), some z =>
        bif Nat.ble (len * (s + 1)) (2 ^ 24) && plain z && Nat.beq z.cells.size (s + 1) && z.cells.toList.all one && (parts.toList.all fun p => (okCells (ρ p.2)).isSome) then
          match Instr.fill (fun i => some (i * (s + 1), s + 1)) ((List.replicate len z.cells.toList).flatten).toArray (parts.map fun (i, x) => (i, ρ x)).toList with
          | some cs => some (.cells cs.toList e (s + 1) false false, fun n => .slice (some ⟨n, 0, none⟩) len len)
          | none => none
        else none
      | _, _ => none
    | _ => none
  | .makeSlice t l c => match P.underlying t, ρ l, ρ c with
    | some (.slice e), .int _ n, .int _ m => match P.info? e with
      | some i => match i.zero with
        | some z =>
          bif plain z && Nat.beq z.cells.size i.size && z.cells.toList.all one && Nat.blt 0 i.size then
            if 0 ≤ n ∧ n ≤ m ∧ i.bytes * m ≤ 2 ^ 48 ∧ m ≤ 2 ^ 48 then
              some (.cells (List.replicate m.toNat z.cells.toList).flatten e i.size false false, fun b => .slice (some ⟨b, 0, none⟩) n.toNat m.toNat) else none
          else none
        | none => none
      | none => none
    | _, _, _ => none
  | _ => none

/-- The cells that a slice (or a string's bytes) holds. -/
def acells (sz : Nat) (x : Value) (h : Heap) : Option (List Value × Nat) :=
  match x with
  | .slice none 0 0 => some ([], 0)
  | .slice (some ⟨n, off, _⟩) len _ =>
    bif Nat.beq len 0 then some ([], 0) else
      match h.get n with
      | some (.cells c _ _ _ _) => bif Nat.ble (off + len * sz) c.length then some ((c.drop off).take (len * sz), len) else none
      | _ => none
  | .string s => bif Nat.beq sz 1 then some (s.data.toList.map fun b => .int .u8 b.toNat, s.size) else none
  | _ => none

def aappendE (P : Program) (e : TypeId) (s x : Value) (h : Heap) : Option (Value × Heap) :=
  match P.info? e with
    | some i => match i.zero with
      | some z =>
        match acells i.size x h with
        | some (new, k) =>
          bif Nat.blt 0 i.size && plain z && Nat.beq z.cells.size i.size && z.cells.toList.all one then
          bif Nat.beq k 0 then
            match s with
            | .slice a len cap => some (s, h)
            | _ => none
          else
            match s with
            | .slice a len cap =>
              bif Nat.ble ((len + k) * i.bytes) (2 ^ 47) && Nat.ble (len + k) (2 ^ 47) then
                match a with
                | none => bif Nat.beq len 0 && Nat.beq cap 0 then some (.slice (some ⟨h.next, 0, some 0⟩) k i.size, h.new (.cells new e i.size true false)) else none
                | some ⟨n, off, known⟩ =>
                  match known with
                  | none =>
                    bif Nat.ble (len + k) cap then
                      match h.get n with
                      | some (.cells c e' esz gr false) =>
                        bif Nat.ble (off + (len + k) * i.size) c.length && new.all one then
                          some (.slice (some ⟨n, off, none⟩) (len + k) cap, h.put n (some (.cells (c.take (off + len * i.size) ++ new ++ c.drop (off + (len + k) * i.size)) e' esz gr false))) else none
                      | _ => none
                    else
                      match acells i.size s h with
                      | some (old, _) => some (.slice (some ⟨h.next, 0, some 0⟩) (len + k) i.size, h.new (.cells (old ++ new) e i.size true false))
                      | none => none
                  | some _ =>
                    match h.get n with
                    | some (.cells c e' esz true false) =>
                      bif Nat.beq (off + len * i.size) c.length && Nat.beq cap i.size && Nat.beq e e' && new.all one then
                        some (.slice (some ⟨h.next, 0, some 0⟩) (len + k) i.size, (h.put n none).new (.cells (c.drop off ++ new) e i.size true false)) else none
                    | _ => none
              else none
            | _ => none
          else none
        | none => none
      | none => none
    | none => none

def appends : TypeDesc → Bool
  | .slice _ | .string => true
  | _ => false
def aappend (P : Program) (t xt : TypeId) (s x : Value) (h : Heap) : Option (Value × Heap) :=
  match P.underlying t, P.underlying xt with
  | some (.slice e), some d => bif appends d then aappendE P e s x h else none
  | _, _ => none

def astore (P : Program) (t : TypeId) (a v : Value) (h : Heap) : Option Heap :=
  match a, okCells v, szOf P t with
  | .pointer (some ⟨n, off, none⟩), some cs, some sz =>
    match h.get n with
    | some (.cells c e esz gr false) =>
      bif Nat.beq cs.length sz && Nat.ble (off + sz) c.length then some (h.put n (some (.cells (c.take off ++ cs ++ c.drop (off + sz)) e esz gr false))) else none
    | _ => none
  | _, _, _ => none

abbrev Rec := FuncId → List Value → Heap → Option (Value × Heap)

/-- The function that hands back what it is given. -/
def noEscF : FuncId := 132
/-- The one that looks for a byte in a string. -/
def idxByteF : FuncId := 261
/-- The one that looks for a string in another. -/
def idxStrF : FuncId := 302
def aindex (a b : ByteArray) : Int :=
  match (List.range (a.size + 1 - b.size)).find? fun i => beqL ((a.data.toList.drop i).take b.size) b.data.toList with
  | some i => (i : Int)
  | none => -1
/-- A call: of a function without arguments: by itself. -/
def aenter (rec : Rec) (f : FuncId) (args : List Value) (h : Heap) : Option (Value × Heap) := rec f args h

/-- The key's kind: one that is told by looking. -/
def keyKind : TypeDesc → Bool
  | .int _ | .string | .bool | .pointer _ => true
  | _ => false
def aentries (x : Value) (h : Heap) : Option (List MapEntry) :=
  match x with
  | .map none => some []
  | .map (some n) => match h.get n with
    | some (.oth (.map es _)) => some es
    | _ => none
  | _ => none
/-- A key's entry: by looking; by addresses where the keys are pointers. -/
def afindA (P : Program) (t : TypeId) (k : Value) (g : Nat → Option AObj) : List MapEntry → Nat → Option (Option (Nat × Value))
  | [], _ => some none
  | e :: es, i => match aeq P t k e.key g with
    | some true => some (some (i, e.val))
    | some false => afindA P t k g es (i + 1)
    | none => none
def afind (P : Program) (t : TypeId) (kd : TypeDesc) (k : Value) (g : Nat → Option AObj) (es : List MapEntry) : Option (Option (Nat × Value)) :=
  match kd with
  | .pointer _ => afindA P t k g es 0
  | kd => Instr.findNow kd k es 0
def alookup (P : Program) (t : TypeId) (x k : Value) (ok : Bool) (h : Heap) : Option Value :=
  match P.underlying t with
  | some (.map key elem) =>
    match P.underlying key, (P.info? elem).bind (·.zero) with
    | some kd, some z =>
      bif keyKind kd && plain z then
        match aentries x h with
        | some es => match afind P key kd k h.get es with
          | some (some (_, v)) => some (bif ok then .tuple #[v, .bool true] else v)
          | some none => some (bif ok then .tuple #[z, .bool false] else z)
          | none => none
        | none => none
      else none
    | _, _ => none
  | _ => none
def amapUpdate (P : Program) (t : TypeId) (m k v : Value) (h : Heap) : Option Heap :=
  match P.underlying t, m with
  | some (.map key _), .map (some n) =>
    match P.underlying key, h.get n with
    | some kd, some (.oth (.map es clock)) =>
      bif keyKind kd then
        match afind P key kd k h.get es with
        | some (some (i, _)) => match es[i]? with
          | some e => some (h.put n (some (.oth (.map (es.set i ⟨k, v, e.born⟩) clock))))
          | none => none
        | some none => some (h.put n (some (.oth (.map (es ++ [⟨k, v, clock⟩]) (clock + 1)))))
        | none => none
      else none
    | _, _ => none
  | _, _ => none
def amakeMap (P : Program) (t : TypeId) (r : Option Value) (h : Heap) : Option (Value × Heap) :=
  match r with
  | none => some (.map (some h.next), h.new (.oth (.map [] 0)))
  | some (.int _ _) => match P.underlying t with
    | some (.map _ _) => some (.map (some h.next), h.new (.oth (.map [] 0)))
    | _ => none
  | some _ => none
def arange (P : Program) (t : TypeId) (x : Value) (h : Heap) : Option (Value × Heap) :=
  match P.underlying t, x with
  | some .string, .string s => some (.pointer (some ⟨h.next, 0, none⟩), h.new (.oth (.iter s 0)))
  | some (.map _ _), .map none => some (.pointer (some ⟨h.next, 0, none⟩), h.new (.oth (.miter none 0 [] 0)))
  | some (.map _ _), .map (some n) => match h.get n with
    | some (.oth (.map _ clock)) => some (.pointer (some ⟨h.next, 0, none⟩), h.new (.oth (.miter (some n) clock [] clock)))
    | _ => none
  | _, _ => none
def anext (x : Value) (isStr : Bool) (h : Heap) : Option (Value × Heap) :=
  match x with
  | .pointer (some ⟨r, 0, none⟩) =>
    match h.get r, isStr with
    | some (.oth (.iter s pos)), true =>
      bif Nat.blt pos s.size then
        match Utf8.decode s pos with
        | (c, wd) => some (.tuple #[.bool true, goInt pos, .int .i32 c], h.put r (some (.oth (.iter s (pos + wd)))))
      else some (.tuple #[.bool false], h)
    | some (.oth (.miter none _ _ _)), false => some (.tuple #[.bool false], h)
    | some (.oth (.miter (some m) since seen last)), false =>
      match h.get m with
      | some (.oth (.map es clock)) =>
        bif !seen.isEmpty && !es.isEmpty && es.all (fun e => Nat.ble last e.born) then none else
        match es.filter (fun e => !seen.contains e.born) with
        | [] => some (.tuple #[.bool false], h)
        | [e] => bif Nat.blt e.born since then some (.tuple #[.bool true, e.key, e.val], h.put r (some (.oth (.miter (some m) since (seen ++ [e.born]) clock)))) else none
        | _ => none
      | _ => none
    | _, _ => none
  | _ => none
/-- The entry that a walk over a map stands at. -/
def aentry (x : Value) (h : Heap) : Option Value :=
  match x with
  | .pointer (some ⟨r, 0, none⟩) =>
    match h.get r with
    | some (.oth (.miter (some m) _ seen stepped)) => match seen.getLast?, h.get m with
      | some stamp, some (.oth (.map es clock)) => bif Nat.beq clock stepped then match es.find? fun e => Nat.beq e.born stamp with
        | some e => some (.tuple #[e.key, e.val])
        | none => none
        else none
      | _, _ => none
    | _ => none
  | _ => none
/-- The entry of a key, made where it is lacking. -/
def amapEntry (P : Program) (t : TypeId) (m k : Value) (h : Heap) : Option (Value × Heap) :=
  match P.underlying t, m with
  | some (.map key elem), .map (some n) =>
    match P.underlying key, (P.info? elem).bind (·.zero), h.get n with
    | some kd, some z, some (.oth (.map es clock)) =>
      bif keyKind kd && plain z then
        match Instr.findNow kd k es 0 with
        | some (some (i, v)) => match es[i]? with
          | some e => some (.tuple #[v, goInt e.born], h.put n (some (.oth (.map (es.set i ⟨k, e.val, e.born⟩) clock))))
          | none => none
        | some none => some (.tuple #[z, goInt clock], h.put n (some (.oth (.map (es ++ [⟨k, z, clock⟩]) (clock + 1)))))
        | none => none
      else none
    | _, _, _ => none
  | _, _ => none
def aentryStore (m s x : Value) (h : Heap) : Option Heap :=
  match m, s with
  | .map (some n), .int _ b =>
    match h.get n with
    | some (.oth (.map es clock)) => match es.findIdx? fun e => decide ((e.born : Int) = b) with
      | some i => match es[i]? with
        | some e => some (h.put n (some (.oth (.map (es.set i ⟨e.key, x, e.born⟩) clock))))
        | none => none
      | none => none
    | _ => none
  | _, _ => none
/-- Bytes out of cells. -/
def cellBytes : List Value → Option (List UInt8)
  | [] => some []
  | .int .u8 n :: vs => match n with
    | .ofNat k => bif Nat.blt k 256 then (cellBytes vs).map (k.toUInt8 :: ·) else none
    | _ => none
  | _ => none
def aconv (P : Program) (src dst : TypeId) (x : Value) (h : Heap) : Option (Value × Heap) :=
  match P.underlying src, P.underlying dst with
  | some (.slice e), some .string => match P.underlying e with
    | some (.int .u8) => match x, acells 1 x h with
      | .slice _ _ _, some (cs, _) => (cellBytes cs).map fun l => (.string ⟨l.toArray⟩, h)
      | _, _ => none
    | _ => none
  | some (.pointer t), some .unsafePointer => match x with
    | .pointer none => some (.pointer none, h)
    | .pointer (some ⟨n, off, none⟩) => match h.get n, szOf P t with
      | some (.cells c _ _ _ _), some (_ + 1) => bif Nat.blt off c.length then some (x, h) else none
      | _, _ => none
    | _ => none
  | some .unsafePointer, some (.pointer u) => match x with
    | .pointer none => some (.pointer none, h)
    | .pointer (some ⟨n, off, none⟩) => match h.get n, P.cellsOf u with
      | some (.cells c e _ false false), _ + 1 => bif liesAt P P.depth e (c.length / P.cellsOf e) off u 1 then some (x, h) else none
      | _, _ => none
    | _ => none
  | _, _ => none
def acopy (P : Program) (t : TypeId) (dst src : Value) (h : Heap) : Option (Value × Heap) :=
  match P.underlying t with
  | some (.slice e) => match szOf P e with
    | some (sz + 1) => match dst, acells (sz + 1) src h with
      | .slice (some ⟨n, off, _⟩) len _, some (new, k) =>
        match h.get n with
        | some (.cells c e' esz gr false) =>
          bif Nat.beq k len && Nat.blt 0 len && Nat.ble (off + len * (sz + 1)) c.length && new.all one then
            some (goInt k, h.put n (some (.cells (c.take off ++ new ++ c.drop (off + k * (sz + 1))) e' esz gr false))) else none
        | _ => none
      | _, _ => none
    | _ => none
  | _ => none
def abuiltin (P : Program) (b : Builtin) (ts : List TypeId) (vs : List Value) (h : Heap) : Option (Value × Heap) :=
  match b, ts, vs with
  | .append, [t, xt], [s, x] => aappend P t xt s x h
  | .copy, t :: _, [d, x] => acopy P t d x h
  | .len, t :: _, [x] => match P.underlying t with
    | some (.map _ _) => (aentries x h).map fun es => (goInt es.length, h)
    | _ => none
  | .unsafeSliceData, _, [x] => match x with
    | .slice none 0 0 => some (.pointer none, h)
    | .slice (some ⟨n, off, _⟩) (_ + 1) _ => some (.pointer (some ⟨n, off, none⟩), h)
    | _ => none
  | .unsafeString, t :: _ :: [], [x, l] => match x, l with
    | .pointer none, .int _ 0 => some (.string .empty, h)
    | .pointer (some ⟨n, off, none⟩), .int _ (.ofNat k) => match P.underlying t, h.get n with
      | some (.pointer u), some (.cells c e _ _ false) =>
        bif Nat.beq k 0 then some (.string .empty, h) else
        bif Nat.beq u e && Nat.blt k (2 ^ 62) && Nat.beq (P.cellsOf e) 1 && Nat.ble (off + k) c.length then
          (cellBytes ((c.drop off).take k)).map fun l => (.string ⟨l.toArray⟩, h.put n none)
        else none
      | _, _ => none
    | _, _ => none
  | _, _, _ => none

/-- May a function's body be entered? -/
def enters (P : Program) (f : FuncId) : Bool :=
  match P.funcs[f]? with
  | some fn => fn.name != "runtime.NumGoroutine" && fn.body.isSome
  | none => false

def acallOp (P : Program) (rec : Rec) (ρ : Operand → Value) (c : Call) (h : Heap) : Option (Value × Heap) :=
  match c.callee with
  | .value f => match ρ f with
    | .func (.func k) first captured => bif enters P k then aenter rec k (first.toList ++ (c.args.map ρ).toList ++ captured.toList) h else
      bif Nat.beq k noEscF then match first.toList ++ (c.args.map ρ).toList ++ captured.toList with
        | [x] => some (x, h)
        | _ => none
      else bif Nat.beq k idxByteF then match first.toList ++ (c.args.map ρ).toList ++ captured.toList with
        | [.string a, .int .u8 (.ofNat n)] => bif Nat.blt n 256 then some (goInt (idxL n a.data.toList 0), h) else none
        | _ => none
      else bif Nat.beq k idxStrF then match first.toList ++ (c.args.map ρ).toList ++ captured.toList, h.get mlG with
        | [.string a, .string b], some (.cells [.chan (some q)] _ _ _ _) =>
          bif Nat.ble 3 q && Nat.beq (q % 2) 1 && Nat.ble b.size ((q - 3) / 2) && Nat.ble 2 b.size && Nat.blt a.size 4294967281 then some (goInt (aindex a b), h) else none
        | _, _ => none
      else none
    | _ => none
  | .invoke r name => match ρ r with
    | .iface t v => match P.info? t with
      | some i => match i.methods.find? (·.name == name) with
        | some m => match m.path.toList, m.func, P.underlying t with
          | [], some (f, true), some (.pointer _) => bif enters P f then aenter rec f (v :: (c.args.map ρ).toList) h else none
          | [], some (f, false), some d => match d with
            | .pointer _ => none
            | _ => bif enters P f then aenter rec f (v :: (c.args.map ρ).toList) h else none
          | _, _, _ => none
        | none => none
      | none => none
    | _ => none
  | .builtin b => abuiltin P b c.argTypes.toList (c.args.toList.map ρ) h

def heavy (P : Program) (rec : Rec) (ρ : Operand → Value) (o : Oper) (h : Heap) : Option (Value × Heap) :=
  match o.op with
  | .store t a v => (astore P t (ρ a) (ρ v) h).map fun h' => (undef, h')
  | .call c => acallOp P rec ρ c h
  | .binOp op t x y _ => bif isFl P op t then (afloat (ρ x) (ρ y)).map fun v => (v, h) else none
  | .makeMap t r => amakeMap P t (r.map ρ) h
  | .lookup t x k ok => (alookup P t (ρ x) (ρ k) ok h).map fun v => (v, h)
  | .mapUpdate t m k x | .insert t m k x => (amapUpdate P t (ρ m) (ρ k) (ρ x) h).map fun h' => (undef, h')
  | .range t x => arange P t (ρ x) h
  | .next it isStr => anext (ρ it) isStr h
  | .entry it => (aentry (ρ it) h).map fun v => (v, h)
  | .mapEntry t m k => amapEntry P t (ρ m) (ρ k) h
  | .entryStore _ m s x => (aentryStore (ρ m) (ρ s) (ρ x) h).map fun h' => (undef, h')
  | .convert src dst x => aconv P src dst (ρ x) h
  | _ => none

inductive Cls where
  | light | alloc | heavy | dfr
  deriving DecidableEq

def cls (P : Program) (o : Oper) : Cls :=
  match o.op with
  | .alloc _ | .box .. | .buildSlice .. | .makeSlice .. => .alloc
  | .store .. => .heavy
  | .binOp op t _ _ _ => bif isFl P op t then .heavy else .light
  | .call c => match c.callee with
    | .builtin .append | .builtin .copy | .builtin .unsafeSliceData | .builtin .unsafeString => .heavy
    | .builtin .len => bif (match c.argTypes.toList with | t :: _ => isMapT P t | _ => false) then .heavy else .light
    | .builtin _ => .light
    | .value (.func f) => bif enters P f || Nat.beq f noEscF || Nat.beq f idxByteF || Nat.beq f idxStrF then .heavy else .light
    | _ => .heavy
  | .makeMap .. | .lookup .. | .mapUpdate .. | .insert .. | .range .. | .next .. | .entry .. | .mapEntry .. | .entryStore .. => .heavy
  | .convert src dst _ => bif memConv P src dst then .heavy else .light
  | .defer _ => .dfr
  | _ => .light

/-- A deferred call: a function's value with its arguments. -/
def adefer (ρ : Operand → Value) (o : Oper) (h : Heap) : Option (Value × Heap) :=
  match o.op with
  | .defer c => match c.callee with
    | .value f => match ρ f with
      | .func (.func k) first captured => some (undef, h.defs (.func (.func k) (first ++ c.args.map ρ) captured :: h.dfs))
      | _ => none
    | _ => none
  | _ => none

def aop (P : Program) (rec : Rec) (ρ : Operand → Value) (o : Oper) (h : Heap) : Option (Value × Heap) :=
  match cls P o with
  | .light => (light P ρ o h.get).map fun v => (v, h)
  | .alloc => (aalloc P ρ o).map fun x => (x.2 h.next, h.new x.1)
  | .heavy => heavy P rec ρ o h
  | .dfr => adefer ρ o h

/-! ### 6. Frames -/
abbrev Tm := List Value
def aeval (t : Tm) : Operand → Value
  | .tmp i => t.getD i undef
  | .const v => bif plain v then v else unk
  | .global g => bif Nat.blt g NG then .pointer (some ⟨g, 0, none⟩) else unk
  | .func f => .func (.func f) #[] #[]
def tput (t : Tm) (d : Option Tmp) (v : Value) : Tm :=
  match d with
  | some i => t.set i v
  | none => t
/-- Is a guarded operation wanted? none: not known. -/
def awanted (ops : Array Oper) (o : Oper) (t : Tm) : Option Bool :=
  match o.guard with
  | none => some true
  | some (j, want) => match ((ops[j]?).bind (·.dst)).bind (t[·]?) with
    | some (.bool b) => some (b == want)
    | some (.tuple _) => some false
    | _ => none

def aops (P : Program) (rec : Rec) (ops : Array Oper) : List Nat → Tm → Heap → Option (Tm × Heap)
  | [], t, h => some (t, h)
  | i :: is, t, h => match ops[i]? with
    | none => none
    | some o => match awanted ops o t with
      | none => none
      | some false => aops P rec ops is (tput t o.dst undef) h
      | some true => match aop P rec (aeval t) o h with
        | none => none
        | some (v, h') => aops P rec ops is (tput t o.dst v) h'

/-! ### 7. A region that draws its order -/
def ancGo : List Oper → List (List Nat) → List (List Nat)
  | [], acc => acc
  | o :: os, acc => ancGo os (acc ++ [((o.after.toList.filter (Region.binds .any)).flatMap fun e => e.on :: acc.getD e.on []).eraseDups])
def ancs (ops : Array Oper) : List (List Nat) := ancGo ops.toList []
def isAnc (anc : List (List Nat)) (x y : Nat) : Bool := (anc.getD y []).contains x

/-- May x stand ahead of y in our order, if nothing binds them? -/
def mayFloat : Cls → Cls → Bool
  | .heavy, .light | .heavy, .heavy | .alloc, .heavy | .alloc, .light | .dfr, _ | _, .dfr => false
  | _, _ => true

def readyB (ops : Array Oper) (done : List Nat) (i : Nat) : Bool :=
  !done.contains i && match ops[i]? with
    | some o => o.after.toList.all fun e => !Region.binds .any e || done.contains e.on
    | none => false
def nextOf (P : Program) (ops : Array Oper) (done : List Nat) (n : Nat) : Option Nat :=
  let rs := (List.range n).filter (readyB ops done)
  match rs.find? (fun i => match ops[i]? with | some o => cls P o == .light | none => false) with
  | some i => some i
  | none => match rs.find? (fun i => match ops[i]? with | some o => cls P o == .heavy | none => false) with
    | some i => some i
    | none => rs.head?
def ordGo (P : Program) (ops : Array Oper) (n : Nat) : Nat → List Nat → List Nat
  | 0, done => done.reverse
  | f + 1, done => match nextOf P ops done n with
    | some i => ordGo P ops n f (i :: done)
    | none => done.reverse

def isStore (o : Oper) : Bool :=
  match o.op with
  | .store .. => true
  | _ => false
/-- The name that a store writes. -/
def storeNames (ρ : Operand → Value) (o : Oper) : List Nat :=
  match o.op with
  | .store _ a _ => match ρ a with
    | .pointer (some ⟨n, _, _⟩) => [n]
    | _ => []
  | _ => []
/-- The pairs of an order: each with what stands behind it. -/
def pairsOk (P : Program) (ops : Array Oper) (anc : List (List Nat)) : List Nat → Bool
  | [] => true
  | x :: ys => (ys.all fun y => !Nat.beq x y && (isAnc anc x y || match ops[x]?, ops[y]? with
      | some a, some b => (mayFloat (cls P a) (cls P b) || (isStore a && isStore b)) && a.apart ops b
      | _, _ => false) && !isAnc anc y x && (match ops[x]?, ops[y]? with
      | some a, some b => (match a.dst with | some d => b.dst != some d | none => true) && (match b.dst with | some d => isAnc anc x y || !(a.looksAt ops).contains d | none => true)
      | _, _ => false)) && pairsOk P ops anc ys

def planOk (P : Program) (ops : Array Oper) (ord : List Nat) : Bool :=
  Nat.beq ord.length ops.size && (List.range ops.size).all (fun i => ord.contains i && !isAnc (ancs ops) i i) && (ops.toList.all fun o => o.after.toList.all fun e => Nat.blt e.on ops.size) && pairsOk P ops (ancs ops) ord

def plan (P : Program) (ops : Array Oper) : Option (List Nat) :=
  let ord := ordGo P ops ops.size ops.size []
  bif planOk P ops ord then some ord else none

/-! ### 8. Are two objects the same? -/
mutual
def veq : Value → Value → Bool
  | .bool a, .bool b => a == b
  | .int k n, .int l m => k == l && n == m
  | .float k n, .float l m => k == l && n == m
  | .complex k a b, .complex l c d => k == l && a == c && b == d
  | .string a, .string b => decide (a = b)
  | .pointer a, .pointer b => a == b
  | .slice a n c, .slice b m d => a == b && n == m && c == d
  | .map a, .map b => a == b
  | .chan a, .chan b => a == b
  | .func f a b, .func g c d => f == g && veqA a c && veqA b d
  | .nilFunc, .nilFunc => true
  | .iface t v, .iface u w => t == u && veq v w
  | .nilIface, .nilIface => true
  | .agg a, .agg b => veqA a b
  | .tuple a, .tuple b => veqA a b
  | _, _ => false
  termination_by structural x => x
def veqA : Array Value → Array Value → Bool
  | ⟨a⟩, ⟨b⟩ => veqL a b
  termination_by structural x => x
def veqL : List Value → List Value → Bool
  | [], [] => true
  | x :: xs, y :: ys => veq x y && veqL xs ys
  | _, _ => false
  termination_by structural x => x
end
mutual
theorem veq_eq : ∀ (x y : Value), veq x y = true ↔ x = y
  | .bool a, y => by cases y <;> simp [veq]
  | .int k n, y => by cases y <;> simp [veq]
  | .float k n, y => by cases y <;> simp [veq]
  | .complex k a b, y => by cases y <;> simp [veq, and_assoc]
  | .string a, y => by cases y <;> simp [veq]
  | .pointer a, y => by cases y <;> simp [veq]
  | .slice a n c, y => by cases y <;> simp [veq, and_assoc]
  | .map a, y => by cases y <;> simp [veq]
  | .chan a, y => by cases y <;> simp [veq]
  | .func f a b, y => by cases y <;> simp [veq, and_assoc, veqA_eq a, veqA_eq b]
  | .nilFunc, y => by cases y <;> simp [veq]
  | .iface t v, y => by cases y <;> simp [veq, veq_eq v]
  | .nilIface, y => by cases y <;> simp [veq]
  | .agg a, y => by cases y <;> simp [veq, veqA_eq a]
  | .tuple a, y => by cases y <;> simp [veq, veqA_eq a]
theorem veqA_eq : ∀ (x y : Array Value), veqA x y = true ↔ x = y
  | ⟨a⟩, ⟨b⟩ => by simp [veqA, veqL_eq a]
theorem veqL_eq : ∀ (x y : List Value), veqL x y = true ↔ x = y
  | [], y => by cases y <;> simp [veqL]
  | x :: xs, y => by cases y <;> simp [veqL, veq_eq x, veqL_eq xs]
end
instance : DecidableEq Value := fun a b => decidable_of_iff _ (veq_eq a b)

def objEq : Option AObj → Option AObj → Bool
  | some (.cells c e n g r), some (.cells c' e' n' g' r') => decide (c = c') && Nat.beq e e' && Nat.beq n n' && (g == g') && (r == r')
  | _, _ => false
theorem objEq_eq {a b : Option AObj} (h : objEq a b = true) : a = b := by
  unfold objEq at h
  split at h
  · simp only [Bool.and_eq_true, decide_eq_true_eq, beq_iff_eq] at h
    obtain ⟨⟨⟨⟨rfl, h2⟩, h3⟩, rfl⟩, rfl⟩ := h
    rw [Nat.eq_of_beq_eq_true h2, Nat.eq_of_beq_eq_true h3]
  · cases h

/-! ### 9. A region that draws, in our order -/
def readsOk (anc : List (List Nat)) (i : Nat) (reads : List (Nat × List Nat)) (h h' : Heap) : Bool :=
  reads.all fun r => isAnc anc r.1 i || r.2.all fun n => objEq (h.get n) (h'.get n)

def adraw (P : Program) (rec : Rec) (ops : Array Oper) (anc : List (List Nat)) : List Nat → List (Nat × List Nat) → Tm → Heap → Option (Tm × Heap)
  | [], _, t, h => some (t, h)
  | i :: is, reads, t, h => match ops[i]? with
    | none => none
    | some o => match awanted ops o t with
      | none => none
      | some false => adraw P rec ops anc is reads (tput t o.dst undef) h
      | some true => match cls P o with
        | .light => match light P (aeval t) o h.get with
          | none => none
          | some v => adraw P rec ops anc is ((i, readNames (aeval t) o) :: reads) (tput t o.dst v) h
        | .alloc => match aalloc P (aeval t) o with
          | none => none
          | some x => adraw P rec ops anc is reads (tput t o.dst (x.2 h.next)) (h.new x.1)
        | .heavy => match heavy P rec (aeval t) o h with
          | none => none
          | some (v, h') => match storeNames (aeval t) o with
            | [m] => bif reads.all (fun r => isAnc anc r.1 i || !r.2.contains m) then adraw P rec ops anc is ((i, [m]) :: reads) (tput t o.dst v) h' else none
            | _ => bif !isStore o && readsOk anc i reads h h' && Nat.ble h.next h'.next then adraw P rec ops anc is reads (tput t o.dst v) h' else none
        | .dfr => none

/-! ### 10. Code -/
inductive AEx where
  | normal
  | exit (id : Nat)
  | ret
  | goto (l : Nat)

abbrev Step := Tm → Heap → Option (AEx × Tm × Heap)

def forget : List Nat → Tm → Tm
  | [], t => t
  | i :: is, t => forget is (t.set i unk)

def aloop (ks : List Nat) : Nat → Step → Step
  | 0, _, _, _ => none
  | n + 1, f, t, h => match f (forget ks t) h with
    | some (.normal, t', h') => aloop ks n f t' h'
    | r => r

def firstRegion : Code → Nat
  | .region id _ _ => id
  | .seq a _ => firstRegion a
  | .block _ a | .loop a | .scope a => firstRegion a
  | _ => 0

abbrev Scr := FuncId → Nat → List Nat

def aexec (P : Program) (ks : Nat → List Nat) (rec : Rec) (lp : List Nat → Step → Step) (sc : Code → Nat → Step) : Code → Step
  | .skip, t, h => some (.normal, t, h)
  | .label _, t, h => some (.normal, t, h)
  | .region _ ops draw, t, h =>
    bif draw then
      match plan P ops with
      | some ord => (adraw P rec ops (ancs ops) ord [] t h).map fun x => (.normal, x.1, x.2)
      | none => none
    else (aops P rec ops (List.range ops.size) t h).map fun x => (.normal, x.1, x.2)
  | .seq a b, t, h => match aexec P ks rec lp sc a t h with
    | some (.normal, t', h') => aexec P ks rec lp sc b t' h'
    | r => r
  | .cond c x y, t, h => match aeval t c with
    | .bool true => aexec P ks rec lp sc x t h
    | .bool false => aexec P ks rec lp sc y t h
    | _ => none
  | .block id b, t, h => match aexec P ks rec lp sc b t h with
    | some (.exit j, t', h') => bif Nat.beq j id then some (.normal, t', h') else some (.exit j, t', h')
    | r => r
  | .loop b, t, h => lp (ks (firstRegion b)) (aexec P ks rec lp sc b) t h
  | .scope b, t, h => match aexec P ks rec lp sc b t h with
    | some (.goto l, t', h') => sc b l t' h'
    | r => r
  | .goto l, t, h => some (.goto l, t, h)
  | .exit id, t, h => some (.exit id, t, h)
  | .ret, t, h => some (.ret, t, h)
  | _, _, _ => none

/-- Jumps within a scope. -/
def ascope (X : Code → Step) : Nat → Code → Nat → Step
  | 0, _, _, _, _ => none
  | n + 1, b, l, t, h => match findLabel b l with
    | some rest => match X rest t h with
      | some (.goto l', t', h') => ascope X n b l' t' h'
      | r => r
    | none => some (.goto l, t, h)
def aexecL (P : Program) (ks : Nat → List Nat) (rec : Rec) (N : Nat) : Nat → Code → Step
  | 0 => aexec P ks rec (fun js => aloop js N) (fun _ _ _ _ => none)
  | d + 1 => aexec P ks rec (fun js => aloop js N) (ascope (aexecL P ks rec N d) N)

/-! A function that is called by a defer statement -/
def isRecover (o : Oper) : Bool :=
  match o.op with
  | .call c => match c.callee with
    | .builtin .recover => true
    | _ => false
  | _ => false
def aopsR (P : Program) (rec : Rec) (ops : Array Oper) : List Nat → Tm → Heap → Option (Tm × Heap)
  | [], t, h => some (t, h)
  | i :: is, t, h => match ops[i]? with
    | none => none
    | some o => match awanted ops o t with
      | none => none
      | some false => aopsR P rec ops is (tput t o.dst undef) h
      | some true => bif isRecover o then aopsR P rec ops is (tput t o.dst .nilIface) h else
        match cls P o with
        | .dfr => none
        | _ => match aop P rec (aeval t) o h with
          | none => none
          | some (v, h') => aopsR P rec ops is (tput t o.dst v) h'
def aexecR (P : Program) (rec : Rec) (X : Code → Step) : Code → Step
  | .seq a b, t, h => match aexecR P rec X a t h with
    | some (.normal, t', h') => aexecR P rec X b t' h'
    | r => r
  | .region id ops draw, t, h => bif draw then X (.region id ops draw) t h else (aopsR P rec ops (List.range ops.size) t h).map fun x => (.normal, x.1, x.2)
  | .cond c x y, t, h => match aeval t c with
    | .bool true => aexecR P rec X x t h
    | .bool false => aexecR P rec X y t h
    | _ => none
  | c, t, h => X c t h

def aresult (P : Program) (t : Tm) (h : Heap) : ResultVar → Option Value
  | .tmp i => some (t.getD i undef)
  | .cell a ty => match t.getD a undef with
    | .pointer (some ⟨n, off, none⟩) => aload P ty n off h.get
    | _ => none
def aresults (P : Program) (fn : Func) (t : Tm) (h : Heap) : Option Value :=
  match fn.results.toList.mapM (aresult P t h) with
  | some [v] => some v
  | some vs => some (.tuple vs.toArray)
  | none => none

/-- The deferred calls, one by one. -/
def adefs (P : Program) (run : FuncId → List Value → Heap → Option Heap) : List Value → Heap → Option Heap
  | [], h => some h
  | .func (.func k) args captured :: ds, h => bif enters P k then
      match run k (args.toList ++ captured.toList) h with
      | some h' => adefs P run ds h'
      | none => none
    else none
  | _, _ => none
def atmps (fn : Func) (args : List Value) : Tm := args ++ List.replicate (fn.ntmps - args.length) undef
def arund (P : Program) (ks : Scr) (rec : Rec) (k : Nat) (f : FuncId) (args : List Value) (h : Heap) : Option Heap :=
  match P.funcs[f]? with
  | some fn => match fn.body with
    | some c => match aexecR P rec (aexecL P (ks f) rec k 2) c (atmps fn args) (h.defs []) with
      | some (.normal, t, h1) | some (.ret, t, h1) => match h1.dfs, aresults P fn t h1 with
        | [], some _ => some (h1.defs h.dfs)
        | _, _ => none
      | _ => none
    | none => none
  | none => none

/-- The function that looks at that variable. -/
def forkF : Nat := 306
/-- How a call ended. -/
def aend (P : Program) (fn : Func) : AEx × Tm × Heap → Option Value
  | (.normal, t, h1) | (.ret, t, h1) => match h1.dfs, aresults P fn t h1 with
    | [], some v => bif plain v then some v else none
    | _, _ => none
  | _ => none
/-- One call, its callees' answers given. -/
def acallW (P : Program) (ks : Scr) (rec : Rec) (k : Nat) (f : FuncId) (args : List Value) (h : Heap) : Option (Value × Heap) :=
  match P.funcs[f]? with
    | some fn => match fn.body with
      | some c => bif Nat.beq f forkF && args.all plain && h.ml.isNone then
          match args with
          | [_, .string s] => match aexecL P (ks f) rec k 2 c (atmps fn args) (.bare (some (geInt s.size))), aexecL P (ks f) rec k 2 c (atmps fn args) (.bare (some (ltInt s.size))) with
            | some r1, some r2 => match aend P fn r1, aend P fn r2 with
              | some v1, some v2 => bif veq v1 v2 then some (v1, h) else none
              | _, _ => none
            | _, _ => none
          | _ => none
        else match aexecL P (ks f) rec k 2 c (atmps fn args) (h.defs []) with
        | some (.normal, t, h1) | some (.ret, t, h1) => match adefs P (arund P ks rec k) h1.dfs (h1.defs []) with
          | some h2 => (aresults P fn t h2).map fun v => (v, h2.defs h.dfs)
          | none => none
        | _ => none
      | none => none
    | none => none
def acall (P : Program) (ks : Scr) : Nat → Rec
  | 0, _, _, _ => none
  | k + 1, f, args, h => acallW P ks (acall P ks k) k f args h

end
end Go.Proofs.YthhhmmildgijhaaGreatDoorAI
