/- An interpreter of our own over an abstract heap: the definitions. Names stand for blocks; a slice behind a growing append has a capacity that nobody knows. -/
import Derived.Orders
import Derived.Scope
import Derived.Laws.Cells
import Derived.Laws.CopyRow
set_option linter.unusedVariables false
set_option linter.unusedSimpArgs false
namespace Go.Proofs.YthhhmmildgijhaaGreatDoorSI
open Go

/-! ### 1. A trie -/
inductive T (α : Type) where
  | nil
  | node (l : T α) (v : Option α) (r : T α)

def T.get {α : Type} : T α → Nat → Option α
  | .nil, _ => none
  | .node l v r, n =>
    match n with
    | 0 => v
    | k + 1 => bif Nat.beq (k % 2) 0 then l.get (k / 2) else r.get (k / 2)

def T.set {α : Type} : Nat → T α → Nat → Option α → T α
  | 0, t, _, _ => t
  | f + 1, t, n, x =>
    match n with
    | 0 => match t with
      | .nil => .node .nil x .nil
      | .node l _ r => .node l x r
    | k + 1 => match t with
      | .nil => bif Nat.beq (k % 2) 0 then .node (T.set f .nil (k / 2) x) none .nil else .node .nil none (T.set f .nil (k / 2) x)
      | .node l v r => bif Nat.beq (k % 2) 0 then .node (T.set f l (k / 2) x) v r else .node l v (T.set f r (k / 2) x)

theorem T.get_nil {α : Type} (n : Nat) : (T.nil : T α).get n = none := rfl

theorem T.get_set {α : Type} (x : Option α) : ∀ (f : Nat) (t : T α) (n m : Nat), n < f → (T.set f t n x).get m = if m = n then x else t.get m := by
  intro f
  induction f with
  | zero => intro t n m h; omega
  | succ f ih =>
    intro t n m h
    cases n with
    | zero =>
      cases t with
      | nil => cases m with
        | zero => simp [T.set, T.get]
        | succ m => simp only [T.set, T.get, Nat.succ_ne_zero, if_false]; cases (Nat.beq (m % 2) 0) <;> rfl
      | node l v r => cases m with
        | zero => simp [T.set, T.get]
        | succ m => simp [T.set, T.get]
    | succ k =>
      have hk : k / 2 < f := by omega
      have key : ∀ (l r : T α) (v : Option α), T.get (bif Nat.beq (k % 2) 0 then T.node (T.set f l (k / 2) x) v r else T.node l v (T.set f r (k / 2) x)) m = if m = k + 1 then x else (T.node l v r).get m := by
        intro l r v
        cases m with
        | zero =>
          rw [if_neg (by omega)]
          cases (Nat.beq (k % 2) 0) <;> rfl
        | succ j =>
          by_cases hj : j = k
          · subst hj
            rw [if_pos rfl]
            cases hb : Nat.beq (j % 2) 0
            · simp only [cond_false, T.get, hb]; rw [ih r _ _ hk, if_pos rfl]
            · simp only [cond_true, T.get, hb]; rw [ih l _ _ hk, if_pos rfl]
          · rw [if_neg (by omega)]
            cases hb : Nat.beq (k % 2) 0 <;> cases hc : Nat.beq (j % 2) 0 <;> simp only [cond_false, cond_true, T.get, hc]
            · rw [ih r _ _ hk, if_neg]
              have h1 : ¬ k % 2 = 0 := fun e => by rw [e] at hb; cases hb
              have h2 : ¬ j % 2 = 0 := fun e => by rw [e] at hc; cases hc
              omega
            · rw [ih l _ _ hk, if_neg]
              have h1 : k % 2 = 0 := Nat.eq_of_beq_eq_true hb
              have h2 : j % 2 = 0 := Nat.eq_of_beq_eq_true hc
              omega
      cases t with
      | nil =>
        have := key .nil .nil none
        simp only [T.set]
        rw [this]
        have e : (T.node .nil none .nil : T α).get m = T.nil.get m := by
          cases m with
          | zero => rfl
          | succ m => simp only [T.get]; cases (Nat.beq (m % 2) 0) <;> rfl
        rw [e]
      | node l v r => simpa only [T.set] using key l r v

/-! ### 2. Objects, heaps -/
inductive AObj where
  | cells (c : List Value) (e : TypeId) (esz : Nat) (grow ro : Bool)

structure Heap where
  m : T AObj
  next : Nat

def Heap.empty : Heap := ⟨.nil, 0⟩
def Heap.get (h : Heap) (n : Nat) : Option AObj := bif Nat.blt n h.next then h.m.get n else none
def Heap.put (h : Heap) (n : Nat) (o : Option AObj) : Heap := ⟨T.set (n + 1) h.m n o, h.next⟩
def Heap.new (h : Heap) (o : AObj) : Heap := ⟨T.set (h.next + 1) h.m h.next (some o), h.next + 1⟩

theorem blt_t {n m : Nat} (h : n < m) : Nat.blt n m = true := Nat.ble_eq_true_of_le (Nat.succ_le_of_lt h)
theorem blt_lt {n m : Nat} (h : Nat.blt n m = true) : n < m := Nat.le_of_ble_eq_true h
theorem blt_f {n m : Nat} (h : m ≤ n) : Nat.blt n m = false := by
  cases hb : Nat.blt n m with
  | false => rfl
  | true => have := blt_lt hb; omega
theorem blt_ge {n m : Nat} (h : Nat.blt n m = false) : m ≤ n := by
  rcases Nat.lt_or_ge n m with h1 | h1
  · rw [blt_t h1] at h; cases h
  · exact h1
theorem ble_t {n m : Nat} (h : n ≤ m) : Nat.ble n m = true := Nat.ble_eq_true_of_le h
theorem ble_le {n m : Nat} (h : Nat.ble n m = true) : n ≤ m := Nat.le_of_ble_eq_true h
theorem ble_f {n m : Nat} (h : m < n) : Nat.ble n m = false := by
  cases hb : Nat.ble n m with
  | false => rfl
  | true => have := ble_le hb; omega
theorem beq_t {n m : Nat} (h : n = m) : Nat.beq n m = true := by subst h; exact Nat.beq_refl n
theorem beq_f {n m : Nat} (h : n ≠ m) : Nat.beq n m = false := by
  cases hb : Nat.beq n m with
  | false => rfl
  | true => exact absurd (Nat.eq_of_beq_eq_true hb) h

theorem Heap.get_empty (n : Nat) : Heap.empty.get n = none := by
  show (bif Nat.blt n 0 then _ else none) = none; rw [blt_f (Nat.zero_le n)]; rfl
theorem Heap.get_lt {h : Heap} {n : Nat} {o : AObj} (e : h.get n = some o) : n < h.next := by
  unfold Heap.get at e
  cases hb : Nat.blt n h.next with
  | true => exact blt_lt hb
  | false => rw [hb] at e; cases e
theorem Heap.get_of_ge {h : Heap} {n : Nat} (e : h.next ≤ n) : h.get n = none := by
  cases hg : h.get n with
  | none => rfl
  | some o => have := Heap.get_lt hg; omega
theorem Heap.get_put {h : Heap} {n m : Nat} {o : Option AObj} (hn : n < h.next) : (h.put n o).get m = if m = n then o else h.get m := by
  unfold Heap.get Heap.put
  simp only [T.get_set o (n + 1) h.m n m (by omega)]
  by_cases e : m = n
  · subst e; simp [blt_t hn]
  · simp [e]
theorem Heap.get_new {h : Heap} {m : Nat} {o : AObj} : (h.new o).get m = if m = h.next then some o else h.get m := by
  unfold Heap.get Heap.new
  simp only [T.get_set _ (h.next + 1) h.m h.next m (by omega)]
  by_cases e : m = h.next
  · subst e; simp [blt_t (Nat.lt_succ_self h.next)]
  · simp only [e, if_false]
    rcases Nat.lt_or_ge m h.next with h1 | h1
    · rw [blt_t h1, blt_t (show m < h.next + 1 by omega)]
    · rw [blt_f h1, blt_f (show h.next + 1 ≤ m by omega)]
theorem Heap.next_put (h : Heap) (n : Nat) (o : Option AObj) : (h.put n o).next = h.next := rfl
theorem Heap.next_new (h : Heap) (o : AObj) : (h.new o).next = h.next + 1 := rfl

/-! ### 3. Values -/
/-- A value of which nothing is known. -/
def unk : Value := .chan (some 0)
def isUnk : Value → Bool
  | .chan _ => true
  | _ => false
/-- One cell's value, known. -/
def one : Value → Bool
  | .agg _ | .tuple _ | .chan _ => false
  | _ => true
/-- No address, nothing unknown. -/
def plainN : Nat → Value → Bool
  | 0, _ => false
  | d + 1, v =>
    match v with
    | .bool _ | .int .. | .string _ | .nilFunc | .nilIface | .complex .. => true
    | .float _ b => Nat.blt b (2 ^ 64)
    | .pointer none => true
    | .slice none 0 0 => true
    | .map none => true
    | .func _ a b => a.toList.all (plainN d) && b.toList.all (plainN d)
    | .iface _ v => plainN d v
    | .agg cs | .tuple cs => cs.toList.all (plainN d)
    | _ => false
def plain (v : Value) : Bool := plainN 8 v

/-- The cells of a value that is stored. -/
def okCells (v : Value) : Option (List Value) :=
  match v with
  | .agg cs => bif cs.toList.all one then some cs.toList else none
  | v => bif one v then some [v] else none

/-! ### 4. What runs without memory -/
def pureRun {α : Type} (P : Program) : Sem α → Option α
  | .pure a => some a
  | .program k => pureRun P (k P)
  | .mark _ k => pureRun P k
  | _ => none

theorem pureRun_run {α : Type} {P : Program} : ∀ {m : Sem α} {a : α}, pureRun P m = some a → ∀ w, m.run P w = .ok a w := by
  intro m
  induction m with
  | pure a => intro b h w; simp only [pureRun, Option.some.injEq] at h; subst h; rfl
  | program k ih => intro b h w; simp only [pureRun] at h; exact ih P h w
  | mark m k ih => intro b h w; simp only [pureRun] at h; exact ih h w
  | _ => intro b h w; simp [pureRun] at h

def isSelect : Op → Bool
  | .select .. => true
  | _ => false
def purerule (P : Program) (ρ : Operand → Value) (o : Oper) : Option Value :=
  bif !isSelect o.op && o.op.operands.toList.all (fun x => plain (ρ x)) then
    match pureRun P (execOp ρ o) with
    | some (.value v) => bif plain v then some v else none
    | _ => none
  else none

/-! ### 5. The operations -/
def szOf (P : Program) (t : TypeId) : Option Nat := (P.info? t).map (·.size)
def isAggT (d : TypeDesc) : Bool :=
  match d with
  | .struct _ | .array _ _ => true
  | _ => false

def aload (P : Program) (t : TypeId) (n off : Nat) (g : Nat → Option AObj) : Option Value :=
  match g n with
  | some (.cells c _ _ _ _) =>
    match P.underlying t with
    | some d =>
      bif isAggT d then
        match szOf P t with
        | some sz => bif Nat.ble (off + sz) c.length then some (.agg ((c.drop off).take sz).toArray) else none
        | none => none
      else c[off]?
    | none => none
  | none => none

def afieldAddr (P : Program) (s : TypeId) (x : Value) (f : Nat) : Option Value :=
  match P.underlying s, x with
  | some (.struct fields), .pointer (some ⟨n, off, none⟩) =>
    match fields[f]? with
    | some fl =>
      match szOf P fl.type with
      | some (_ + 1) => some (.pointer (some ⟨n, off + fl.offset, none⟩))
      | _ => none
    | none => none
  | _, _ => none

def aindexAddr (P : Program) (t : TypeId) (x i : Value) : Option Value :=
  match P.underlying t, x, i with
  | some (.slice e), .slice (some ⟨n, off, _⟩) len _, .int _ k =>
    match szOf P e with
    | some sz => if 0 ≤ k ∧ k < len then some (.pointer (some ⟨n, off + k.toNat * sz, none⟩)) else none
    | none => none
  | some (.array len e), .pointer (some ⟨n, off, none⟩), .int _ k =>
    match szOf P e with
    | some sz => if 0 ≤ k ∧ k < len then some (.pointer (some ⟨n, off + k.toNat * sz, none⟩)) else none
    | none => none
  | _, _, _ => none

/-- A bound of a slice expression: an int. -/
def abound (d : Nat) : Option Value → Option Nat
  | none => some d
  | some (.int _ k) => if 0 ≤ k then some k.toNat else none
  | some _ => none

def aslice (P : Program) (t : TypeId) (x : Value) (lo hi mx : Option Value) : Option Value :=
  match P.underlying t, x with
  | some (.slice e), .slice a len cap =>
    match szOf P e, a with
    | some sz, some ⟨n, off, none⟩ =>
      match abound 0 lo, abound len hi, abound cap mx with
      | some l, some h, some m =>
        bif Nat.ble l h && Nat.ble h m && Nat.ble m cap && (hi.isSome || mx.isNone) then
          some (.slice (some ⟨n, bif Nat.beq m l then off else off + l * sz, none⟩) (h - l) (m - l)) else none
      | _, _, _ => none
    | some sz, some ⟨n, off, some _⟩ =>
      match mx with
      | none =>
        match abound 0 lo, abound len hi with
        | some l, some h => bif Nat.ble l h && Nat.ble h len && Nat.beq cap sz then some (.slice (some ⟨n, off + l * sz, some 0⟩) (h - l) sz) else none
        | _, _ => none
      | some mv =>
        match abound 0 lo, abound len hi, abound 0 (some mv) with
        | some l, some h, some m => bif Nat.ble l h && Nat.ble h m && Nat.ble m len && hi.isSome then some (.slice (some ⟨n, off + l * sz, none⟩) (h - l) (m - l)) else none
        | _, _, _ => none
    | some _, none =>
      match abound 0 lo, abound len hi, abound cap mx with
      | some 0, some 0, some 0 => bif (hi.isSome || mx.isNone) && Nat.beq len 0 && Nat.beq cap 0 then some (.slice none 0 0) else none
      | _, _, _ => none
    | none, _ => none
  | _, _ => none

def apart (P : Program) (t : TypeId) (cs : Array Value) (off : Nat) : Option Value :=
  match P.underlying t with
  | some d =>
    bif isAggT d then
      match szOf P t with
      | some sz => some (.agg (cs.extract off (off + sz)))
      | none => none
    else cs[off]?
  | none => none

def afield (P : Program) (t : TypeId) (x : Value) (f : Nat) : Option Value :=
  match P.underlying t, x with
  | some (.struct fields), .agg cs =>
    match fields[f]? with
    | some fl => apart P fl.type cs fl.offset
    | none => none
  | _, _ => none

/-- A field's place. -/
def aplaces (P : Program) (fields : Array Field) : Option (List (Nat × Nat)) := fields.toList.mapM fun f => (szOf P f.type).map fun s => (f.offset, s)

def abuild (P : Program) (t : TypeId) (parts : List (Nat × Value)) : Option Value :=
  match P.underlying t, (P.info? t).bind (·.zero) with
  | some (.struct fields), some z =>
    match aplaces P fields with
    | some pl =>
      bif plain z && parts.all (fun p => !isUnk p.2) then
        match Instr.fill (pl.toArray[·]?) z.cells parts with
        | some cs => some (.agg cs)
        | none => none
      else none
    | none => none
  | some (.array _ e), some z =>
    match szOf P e with
    | some s =>
      bif plain z && parts.all (fun p => !isUnk p.2) then
        match Instr.fill (fun i => some (i * s, s)) z.cells parts with
        | some cs => some (.agg cs)
        | none => none
      else none
    | none => none
  | _, _ => none

/-- Are two structs of whole numbers the same? -/
def aeqFields (P : Program) (xs ys : Array Value) : List Field → Option Bool
  | [] => some true
  | f :: fs =>
    match f.name == "_", P.underlying f.type, apart P f.type xs f.offset, apart P f.type ys f.offset, aeqFields P xs ys fs with
    | false, some (.int _), some (.int k a), some (.int k' b), some r => bif decide (k = k') then some ((a == b) && r) else none
    | _, _, _, _, _ => none
def aggOk (P : Program) (t : TypeId) : Bool := !P.stoodInHeld t && !P.eqGuardType P.depth t

/-- Are two values the same? Where addresses are. -/
def aeq (P : Program) (t : TypeId) (x y : Value) (g : Nat → Option AObj) : Option Bool :=
  match P.underlying t, x, y with
  | some (.pointer _), .pointer none, .pointer (some ⟨_, _, none⟩) => some false
  | some (.pointer _), .pointer (some ⟨_, _, none⟩), .pointer none => some false
  | some (.pointer e), .pointer (some ⟨n, i, none⟩), .pointer (some ⟨m, j, none⟩) =>
    match szOf P e with
    | some (_ + 1) =>
      bif Nat.beq n m then some (Nat.beq i j) else
        match g n, g m with
        | some (.cells _ _ _ _ false), some (.cells _ _ _ _ false) => some false
        | _, _ => none
    | _ => none
  | some (.slice _), .slice none _ _, .slice (some _) _ _ => some false
  | some (.slice _), .slice (some _) _ _, .slice none _ _ => some false
  | some (.func ..), .nilFunc, .func .. => some false
  | some (.func ..), .func .., .nilFunc => some false
  | some (.interface _), .nilIface, .iface .. => some false
  | some (.interface _), .iface .., .nilIface => some false
  | some (.pointer _), .pointer none, .pointer none => some true
  | some (.slice _), .slice none _ _, .slice none _ _ => some true
  | some (.struct fields), .agg xs, .agg ys => bif aggOk P t then aeqFields P xs ys fields.toList else none
  | _, _, _ => none

/-- The names that such a comparison, or a load, looks into. -/
def readNames (ρ : Operand → Value) (o : Oper) : List Nat :=
  match o.op with
  | .load _ a => match ρ a with
    | .pointer (some ⟨n, _, _⟩) => [n]
    | _ => []
  | .binOp _ _ x y _ => match ρ x, ρ y with
    | .pointer (some ⟨n, _, _⟩), .pointer (some ⟨m, _, _⟩) => [n, m]
    | _, _ => []
  | _ => []

def atypeAssert (P : Program) (x : Value) (asserted : TypeId) (ok : Bool) : Option Value :=
  match P.underlying asserted, x with
  | some (.interface want), .iface t v =>
    match P.info? t with
    | some i =>
      match Instr.missingMethod want i.methods with
      | none => some (bif ok then .tuple #[.iface t v, .bool true] else .iface t v)
      | some _ => none
    | none => none
  | some (.interface _), .nilIface => none
  | some _, .iface t v =>
    bif Nat.beq t asserted then some (bif ok then .tuple #[v, .bool true] else v) else
      bif ok then
        match (P.info? asserted).bind (·.zero) with
        | some z => bif plain z then some (.tuple #[z, .bool false]) else none
        | none => none
      else none
  | _, _ => none

def intBin (op : BinOp) (k : IntKind) (a b : Int) : Option Value :=
  match op with
  | .add => some (.int k (k.wrap (a + b)))
  | .sub => some (.int k (k.wrap (a - b)))
  | .mul => some (.int k (k.wrap (a * b)))
  | .quo => bif decide (b = 0) then none else some (.int k (k.wrap (a.tdiv b)))
  | .rem => bif decide (b = 0) then none else some (.int k (a.tmod b))
  | .eql => some (.bool (a == b))
  | .neq => some (.bool (a != b))
  | .lss => some (.bool (decide (a < b)))
  | .leq => some (.bool (decide (a ≤ b)))
  | .gtr => some (.bool (decide (a > b)))
  | .geq => some (.bool (decide (a ≥ b)))
  | _ => none
def binE (P : Program) (op : BinOp) (t : TypeId) (u v : Value) (g : Nat → Option AObj) : Option Value :=
  match op with
  | .eql => (aeq P t u v g).map Value.bool
  | .neq => (aeq P t u v g).map fun b => Value.bool (!b)
  | _ => none

/-- A method's value behind an interface's: the method is the dynamic type's own, by a pointer. -/
def methodHere (P : Program) (name : String) (first : Array Value) : Bool :=
  match first.toList with
  | .iface t _ :: _ => match P.info? t with
    | some i => match i.methods.find? (·.name == name) with
      | some m => match m.path.toList, m.func with
        | [], some (_, true) => true
        | _, _ => false
      | none => false
    | none => false
  | _ => false
def lightS (P : Program) (ρ : Operand → Value) (o : Oper) (g : Nat → Option AObj) : Option Value :=
  match o.op with
  | .move x | .assign x => some (ρ x)
  | .pick c a b => match ρ c with
    | .bool t => some (bif t then ρ a else ρ b)
    | _ => none
  | .load t a => match ρ a with
    | .pointer (some ⟨n, off, none⟩) => aload P t n off g
    | _ => none
  | .nilCheck x => match ρ x with
    | .pointer (some a) => some (.pointer (some a))
    | .func (.func f) a b => some (.func (.func f) a b)
    | .func (.method name) a b => bif methodHere P name a then some (.func (.method name) a b) else none
    | .iface t v => some (.iface t v)
    | _ => none
  | .fieldAddr s x f => afieldAddr P s (ρ x) f
  | .indexAddr t x i => aindexAddr P t (ρ x) (ρ i)
  | .slice t x lo hi mx => aslice P t (ρ x) (lo.map ρ) (hi.map ρ) (mx.map ρ)
  | .makeInterface t x => match P.underlying t with
    | some (.interface _) => none
    | some _ => some (.iface t (ρ x))
    | none => none
  | .makeFunc fn first captured => some (.func fn (first.map ρ) (captured.map ρ))
  | .extract x i => match ρ x with
    | .tuple vs => vs[i]?
    | _ => none
  | .field t x f => afield P t (ρ x) f
  | .build t parts => abuild P t (parts.map fun (i, x) => (i, ρ x)).toList
  | .binOp op t x y _ => match ρ x, ρ y with
    | .int k a, .int k' b => bif decide (k = k') then intBin op k a b else none
    | u, v => binE P op t u v g
  | .unOp op _ x => match op, ρ x with
    | .not, .bool b => some (.bool (!b))
    | _, _ => none
  | .typeAssert x _ asserted ok => atypeAssert P (ρ x) asserted ok
  | .call c => match c.callee with
    | .builtin .len => match c.args.toList, c.argTypes[0]? with
      | [x], some t => match P.underlying t, ρ x with
        | some (.slice _), .slice _ n _ => some (goInt n)
        | _, _ => none
      | _, _ => none
    | _ => none
  | _ => none

def light (P : Program) (ρ : Operand → Value) (o : Oper) (g : Nat → Option AObj) : Option Value :=
  match lightS P ρ o g with
  | some v => some v
  | none => purerule P ρ o

/-- What makes a new block, and needs none. -/
def aalloc (P : Program) (ρ : Operand → Value) (o : Oper) : Option (AObj × (Nat → Value)) :=
  match o.op with
  | .alloc t => match (P.info? t).bind (·.zero), szOf P t with
    | some z, some sz => match okCells z with
      | some cs => bif plain z && Nat.beq cs.length sz then some (.cells cs t sz false false, fun n => .pointer (some ⟨n, 0, none⟩)) else none
      | none => none
    | _, _ => none
  | .box t x => match okCells (ρ x), szOf P t with
    | some cs, some sz => some (.cells cs t sz false false, fun n => .pointer (some ⟨n, 0, none⟩))
    | _, _ => none
  | .buildSlice t len parts => match P.underlying t with
    | some (.slice e) => match szOf P e, (P.info? e).bind (·.zero) with
      | some (s + 1), some z =>
        bif Nat.ble (len * (s + 1)) (2 ^ 24) && plain z && Nat.beq z.cells.size (s + 1) && z.cells.toList.all one && (parts.toList.all fun p => (okCells (ρ p.2)).isSome) then
          match Instr.fill (fun i => some (i * (s + 1), s + 1)) ((List.replicate len z.cells.toList).flatten).toArray (parts.map fun (i, x) => (i, ρ x)).toList with
          | some cs => some (.cells cs.toList e (s + 1) false false, fun n => .slice (some ⟨n, 0, none⟩) len len)
          | none => none
        else none
      | _, _ => none
    | _ => none
  | .makeSlice t l c => match P.underlying t, ρ l, ρ c with
    | some (.slice e), .int _ n, .int _ m => match P.info? e with
      | some i => match i.zero with
        | some z =>
          bif plain z && Nat.beq z.cells.size i.size && z.cells.toList.all one && Nat.blt 0 i.size then
            if 0 ≤ n ∧ n ≤ m ∧ i.bytes * m ≤ 2 ^ 48 ∧ m ≤ 2 ^ 48 then
              some (.cells (List.replicate m.toNat z.cells.toList).flatten e i.size false false, fun b => .slice (some ⟨b, 0, none⟩) n.toNat m.toNat) else none
          else none
        | none => none
      | none => none
    | _, _, _ => none
  | _ => none

/-- The cells that a slice (or a string's bytes) holds. -/
def acells (sz : Nat) (x : Value) (h : Heap) : Option (List Value × Nat) :=
  match x with
  | .slice none 0 0 => some ([], 0)
  | .slice (some ⟨n, off, _⟩) len _ =>
    bif Nat.beq len 0 then some ([], 0) else
      match h.get n with
      | some (.cells c _ _ _ _) => bif Nat.ble (off + len * sz) c.length then some ((c.drop off).take (len * sz), len) else none
      | none => none
  | .string s => bif Nat.beq sz 1 then some (s.data.toList.map fun b => .int .u8 b.toNat, s.size) else none
  | _ => none

def aappendE (P : Program) (e : TypeId) (s x : Value) (h : Heap) : Option (Value × Heap) :=
  match P.info? e with
    | some i => match i.zero with
      | some z =>
        match acells i.size x h with
        | some (new, k) =>
          bif Nat.blt 0 i.size && plain z && Nat.beq z.cells.size i.size && z.cells.toList.all one then
          bif Nat.beq k 0 then
            match s with
            | .slice a len cap => some (s, h)
            | _ => none
          else
            match s with
            | .slice a len cap =>
              bif Nat.ble ((len + k) * i.bytes) (2 ^ 47) && Nat.ble (len + k) (2 ^ 47) then
                match a with
                | none => bif Nat.beq len 0 && Nat.beq cap 0 then some (.slice (some ⟨h.next, 0, some 0⟩) k i.size, h.new (.cells new e i.size true false)) else none
                | some ⟨n, off, known⟩ =>
                  match known with
                  | none =>
                    bif Nat.ble (len + k) cap then
                      match h.get n with
                      | some (.cells c e' esz gr false) =>
                        bif Nat.ble (off + (len + k) * i.size) c.length && new.all one then
                          some (.slice (some ⟨n, off, none⟩) (len + k) cap, h.put n (some (.cells (c.take (off + len * i.size) ++ new ++ c.drop (off + (len + k) * i.size)) e' esz gr false))) else none
                      | _ => none
                    else
                      match acells i.size s h with
                      | some (old, _) => some (.slice (some ⟨h.next, 0, some 0⟩) (len + k) i.size, h.new (.cells (old ++ new) e i.size true false))
                      | none => none
                  | some _ =>
                    match h.get n with
                    | some (.cells c e' esz true false) =>
                      bif Nat.beq (off + len * i.size) c.length && Nat.beq cap i.size && Nat.beq e e' && new.all one then
                        some (.slice (some ⟨h.next, 0, some 0⟩) (len + k) i.size, (h.put n none).new (.cells (c.drop off ++ new) e i.size true false)) else none
                    | _ => none
              else none
            | _ => none
          else none
        | none => none
      | none => none
    | none => none

def appends : TypeDesc → Bool
  | .slice _ | .string => true
  | _ => false
def aappend (P : Program) (t xt : TypeId) (s x : Value) (h : Heap) : Option (Value × Heap) :=
  match P.underlying t, P.underlying xt with
  | some (.slice e), some d => bif appends d then aappendE P e s x h else none
  | _, _ => none

def astore (P : Program) (t : TypeId) (a v : Value) (h : Heap) : Option Heap :=
  match a, okCells v, szOf P t with
  | .pointer (some ⟨n, off, none⟩), some cs, some sz =>
    match h.get n with
    | some (.cells c e esz gr false) =>
      bif Nat.beq cs.length sz && Nat.ble (off + sz) c.length then some (h.put n (some (.cells (c.take off ++ cs ++ c.drop (off + sz)) e esz gr false))) else none
    | _ => none
  | _, _, _ => none

abbrev Rec := FuncId → List Value → Heap → Option (Value × Heap)

/-- A call: of a function without arguments: by itself. -/
def aenter (rec : Rec) (f : FuncId) (args : List Value) (h : Heap) : Option (Value × Heap) :=
  match args with
  | [] => match rec f [] .empty with
    | some (v, _) => bif plain v then some (v, h) else none
    | none => none
  | _ => rec f args h

/-- May a function's body be entered? -/
def enters (P : Program) (f : FuncId) : Bool :=
  match P.funcs[f]? with
  | some fn => fn.name != "runtime.NumGoroutine" && fn.body.isSome
  | none => false

def acallOp (P : Program) (rec : Rec) (ρ : Operand → Value) (c : Call) (h : Heap) : Option (Value × Heap) :=
  match c.callee with
  | .value f => match ρ f with
    | .func (.func k) first captured => bif enters P k then aenter rec k (first.toList ++ (c.args.map ρ).toList ++ captured.toList) h else none
    | _ => none
  | .invoke r name => match ρ r with
    | .iface t v => match P.info? t with
      | some i => match i.methods.find? (·.name == name) with
        | some m => match m.path.toList, m.func, P.underlying t with
          | [], some (f, true), some (.pointer _) => bif enters P f then aenter rec f (v :: (c.args.map ρ).toList) h else none
          | [], some (f, false), some d => match d with
            | .pointer _ => none
            | _ => bif enters P f then aenter rec f (v :: (c.args.map ρ).toList) h else none
          | _, _, _ => none
        | none => none
      | none => none
    | _ => none
  | .builtin .append => match c.args.toList, c.argTypes.toList with
    | [s, x], [t, xt] => aappend P t xt (ρ s) (ρ x) h
    | _, _ => none
  | _ => none

def heavy (P : Program) (rec : Rec) (ρ : Operand → Value) (o : Oper) (h : Heap) : Option (Value × Heap) :=
  match o.op with
  | .store t a v => (astore P t (ρ a) (ρ v) h).map fun h' => (undef, h')
  | .call c => acallOp P rec ρ c h
  | _ => none

inductive Cls where
  | light | alloc | heavy
  deriving DecidableEq

def cls (P : Program) (o : Oper) : Cls :=
  match o.op with
  | .alloc _ | .box .. | .buildSlice .. | .makeSlice .. => .alloc
  | .store .. => .heavy
  | .call c => match c.callee with
    | .builtin .append => .heavy
    | .builtin _ => .light
    | .value (.func f) => bif enters P f then .heavy else .light
    | _ => .heavy
  | _ => .light

def aop (P : Program) (rec : Rec) (ρ : Operand → Value) (o : Oper) (h : Heap) : Option (Value × Heap) :=
  match cls P o with
  | .light => (light P ρ o h.get).map fun v => (v, h)
  | .alloc => (aalloc P ρ o).map fun x => (x.2 h.next, h.new x.1)
  | .heavy => heavy P rec ρ o h

/-! ### 6. Frames -/
abbrev Tm := List Value
def aeval (t : Tm) : Operand → Value
  | .tmp i => t.getD i undef
  | .const v => bif plain v then v else unk
  | .global g => unk
  | .func f => .func (.func f) #[] #[]
def tput (t : Tm) (d : Option Tmp) (v : Value) : Tm :=
  match d with
  | some i => t.set i v
  | none => t
/-- Is a guarded operation wanted? none: not known. -/
def awanted (ops : Array Oper) (o : Oper) (t : Tm) : Option Bool :=
  match o.guard with
  | none => some true
  | some (j, want) => match ((ops[j]?).bind (·.dst)).bind (t[·]?) with
    | some (.bool b) => some (b == want)
    | some (.tuple _) => some false
    | _ => none

def aops (P : Program) (rec : Rec) (ops : Array Oper) : List Nat → Tm → Heap → Option (Tm × Heap)
  | [], t, h => some (t, h)
  | i :: is, t, h => match ops[i]? with
    | none => none
    | some o => match awanted ops o t with
      | none => none
      | some false => aops P rec ops is (tput t o.dst undef) h
      | some true => match aop P rec (aeval t) o h with
        | none => none
        | some (v, h') => aops P rec ops is (tput t o.dst v) h'

/-! ### 7. A region that draws its order -/
def ancGo : List Oper → List (List Nat) → List (List Nat)
  | [], acc => acc
  | o :: os, acc => ancGo os (acc ++ [((o.after.toList.filter (Region.binds .any)).flatMap fun e => e.on :: acc.getD e.on []).eraseDups])
def ancs (ops : Array Oper) : List (List Nat) := ancGo ops.toList []
def isAnc (anc : List (List Nat)) (x y : Nat) : Bool := (anc.getD y []).contains x

/-- May x stand ahead of y in our order, if nothing binds them? -/
def mayFloat : Cls → Cls → Bool
  | .heavy, .light | .heavy, .heavy | .alloc, .heavy | .alloc, .light => false
  | _, _ => true

def readyB (ops : Array Oper) (done : List Nat) (i : Nat) : Bool :=
  !done.contains i && match ops[i]? with
    | some o => o.after.toList.all fun e => !Region.binds .any e || done.contains e.on
    | none => false
def nextOf (P : Program) (ops : Array Oper) (done : List Nat) (n : Nat) : Option Nat :=
  let rs := (List.range n).filter (readyB ops done)
  match rs.find? (fun i => match ops[i]? with | some o => cls P o == .light | none => false) with
  | some i => some i
  | none => match rs.find? (fun i => match ops[i]? with | some o => cls P o == .heavy | none => false) with
    | some i => some i
    | none => rs.head?
def ordGo (P : Program) (ops : Array Oper) (n : Nat) : Nat → List Nat → List Nat
  | 0, done => done.reverse
  | f + 1, done => match nextOf P ops done n with
    | some i => ordGo P ops n f (i :: done)
    | none => done.reverse

/-- The pairs of an order: each with what stands behind it. -/
def pairsOk (P : Program) (ops : Array Oper) (anc : List (List Nat)) : List Nat → Bool
  | [] => true
  | x :: ys => (ys.all fun y => !Nat.beq x y && (isAnc anc x y || match ops[x]?, ops[y]? with
      | some a, some b => mayFloat (cls P a) (cls P b) && a.apart ops b
      | _, _ => false) && !isAnc anc y x && (match ops[x]?, ops[y]? with
      | some a, some b => (match a.dst with | some d => b.dst != some d | none => true) && (match b.dst with | some d => !(a.looksAt ops).contains d | none => true)
      | _, _ => false)) && pairsOk P ops anc ys

def planOk (P : Program) (ops : Array Oper) (ord : List Nat) : Bool :=
  Nat.beq ord.length ops.size && (List.range ops.size).all (fun i => ord.contains i && !isAnc (ancs ops) i i) && (ops.toList.all fun o => o.after.toList.all fun e => Nat.blt e.on ops.size) && pairsOk P ops (ancs ops) ord

def plan (P : Program) (ops : Array Oper) : Option (List Nat) :=
  let ord := ordGo P ops ops.size ops.size []
  bif planOk P ops ord then some ord else none

/-! ### 8. Are two objects the same? -/
mutual
def veq : Value → Value → Bool
  | .bool a, .bool b => a == b
  | .int k n, .int l m => k == l && n == m
  | .float k n, .float l m => k == l && n == m
  | .complex k a b, .complex l c d => k == l && a == c && b == d
  | .string a, .string b => decide (a = b)
  | .pointer a, .pointer b => a == b
  | .slice a n c, .slice b m d => a == b && n == m && c == d
  | .map a, .map b => a == b
  | .chan a, .chan b => a == b
  | .func f a b, .func g c d => f == g && veqA a c && veqA b d
  | .nilFunc, .nilFunc => true
  | .iface t v, .iface u w => t == u && veq v w
  | .nilIface, .nilIface => true
  | .agg a, .agg b => veqA a b
  | .tuple a, .tuple b => veqA a b
  | _, _ => false
  termination_by structural x => x
def veqA : Array Value → Array Value → Bool
  | ⟨a⟩, ⟨b⟩ => veqL a b
  termination_by structural x => x
def veqL : List Value → List Value → Bool
  | [], [] => true
  | x :: xs, y :: ys => veq x y && veqL xs ys
  | _, _ => false
  termination_by structural x => x
end
mutual
theorem veq_eq : ∀ (x y : Value), veq x y = true ↔ x = y
  | .bool a, y => by cases y <;> simp [veq]
  | .int k n, y => by cases y <;> simp [veq]
  | .float k n, y => by cases y <;> simp [veq]
  | .complex k a b, y => by cases y <;> simp [veq, and_assoc]
  | .string a, y => by cases y <;> simp [veq]
  | .pointer a, y => by cases y <;> simp [veq]
  | .slice a n c, y => by cases y <;> simp [veq, and_assoc]
  | .map a, y => by cases y <;> simp [veq]
  | .chan a, y => by cases y <;> simp [veq]
  | .func f a b, y => by cases y <;> simp [veq, and_assoc, veqA_eq a, veqA_eq b]
  | .nilFunc, y => by cases y <;> simp [veq]
  | .iface t v, y => by cases y <;> simp [veq, veq_eq v]
  | .nilIface, y => by cases y <;> simp [veq]
  | .agg a, y => by cases y <;> simp [veq, veqA_eq a]
  | .tuple a, y => by cases y <;> simp [veq, veqA_eq a]
theorem veqA_eq : ∀ (x y : Array Value), veqA x y = true ↔ x = y
  | ⟨a⟩, ⟨b⟩ => by simp [veqA, veqL_eq a]
theorem veqL_eq : ∀ (x y : List Value), veqL x y = true ↔ x = y
  | [], y => by cases y <;> simp [veqL]
  | x :: xs, y => by cases y <;> simp [veqL, veq_eq x, veqL_eq xs]
end
instance : DecidableEq Value := fun a b => decidable_of_iff _ (veq_eq a b)

def objEq : Option AObj → Option AObj → Bool
  | some (.cells c e n g r), some (.cells c' e' n' g' r') => decide (c = c') && Nat.beq e e' && Nat.beq n n' && (g == g') && (r == r')
  | _, _ => false
theorem objEq_eq {a b : Option AObj} (h : objEq a b = true) : a = b := by
  unfold objEq at h
  split at h
  · simp only [Bool.and_eq_true, decide_eq_true_eq, beq_iff_eq] at h
    obtain ⟨⟨⟨⟨rfl, h2⟩, h3⟩, rfl⟩, rfl⟩ := h
    rw [Nat.eq_of_beq_eq_true h2, Nat.eq_of_beq_eq_true h3]
  · cases h
theorem objEq_self (a : AObj) : objEq (some a) (some a) = true := by
  cases a; simp [objEq]

/-! ### 9. A region that draws, in our order -/
def readsOk (anc : List (List Nat)) (i : Nat) (reads : List (Nat × List Nat)) (h h' : Heap) : Bool :=
  reads.all fun r => isAnc anc r.1 i || r.2.all fun n => objEq (h.get n) (h'.get n)

def adraw (P : Program) (rec : Rec) (ops : Array Oper) (anc : List (List Nat)) : List Nat → List (Nat × List Nat) → Tm → Heap → Option (Tm × Heap)
  | [], _, t, h => some (t, h)
  | i :: is, reads, t, h => match ops[i]? with
    | none => none
    | some o => match awanted ops o t with
      | none => none
      | some false => adraw P rec ops anc is reads (tput t o.dst undef) h
      | some true => match cls P o with
        | .light => match light P (aeval t) o h.get with
          | none => none
          | some v => adraw P rec ops anc is ((i, readNames (aeval t) o) :: reads) (tput t o.dst v) h
        | .alloc => match aalloc P (aeval t) o with
          | none => none
          | some x => adraw P rec ops anc is reads (tput t o.dst (x.2 h.next)) (h.new x.1)
        | .heavy => match heavy P rec (aeval t) o h with
          | none => none
          | some (v, h') => bif readsOk anc i reads h h' && Nat.ble h.next h'.next then adraw P rec ops anc is reads (tput t o.dst v) h' else none

/-! ### 10. Code -/
inductive AEx where
  | normal
  | exit (id : Nat)
  | ret

abbrev Step := Tm → Heap → Option (AEx × Tm × Heap)

def forget : List Nat → Tm → Tm
  | [], t => t
  | i :: is, t => forget is (t.set i unk)

def aloop (ks : List Nat) : Nat → Step → Step
  | 0, _, _, _ => none
  | n + 1, f, t, h => match f (forget ks t) h with
    | some (.normal, t', h') => aloop ks n f t' h'
    | r => r

def firstRegion : Code → Nat
  | .region id _ _ => id
  | .seq a _ => firstRegion a
  | .block _ a | .loop a | .scope a => firstRegion a
  | _ => 0

abbrev Scr := FuncId → Nat → List Nat

def aexec (P : Program) (ks : Nat → List Nat) (rec : Rec) (lp : List Nat → Step → Step) : Code → Step
  | .skip, t, h => some (.normal, t, h)
  | .label _, t, h => some (.normal, t, h)
  | .region _ ops draw, t, h =>
    bif draw then
      match plan P ops with
      | some ord => (adraw P rec ops (ancs ops) ord [] t h).map fun x => (.normal, x.1, x.2)
      | none => none
    else (aops P rec ops (List.range ops.size) t h).map fun x => (.normal, x.1, x.2)
  | .seq a b, t, h => match aexec P ks rec lp a t h with
    | some (.normal, t', h') => aexec P ks rec lp b t' h'
    | r => r
  | .cond c x y, t, h => match aeval t c with
    | .bool true => aexec P ks rec lp x t h
    | .bool false => aexec P ks rec lp y t h
    | _ => none
  | .block id b, t, h => match aexec P ks rec lp b t h with
    | some (.exit j, t', h') => bif Nat.beq j id then some (.normal, t', h') else some (.exit j, t', h')
    | r => r
  | .loop b, t, h => lp (ks (firstRegion b)) (aexec P ks rec lp b) t h
  | .scope b, t, h => aexec P ks rec lp b t h
  | .exit id, t, h => some (.exit id, t, h)
  | .ret, t, h => some (.ret, t, h)
  | _, _, _ => none

def aresult (P : Program) (t : Tm) (h : Heap) : ResultVar → Option Value
  | .tmp i => some (t.getD i undef)
  | .cell a ty => match t.getD a undef with
    | .pointer (some ⟨n, off, none⟩) => aload P ty n off h.get
    | _ => none
def aresults (P : Program) (fn : Func) (t : Tm) (h : Heap) : Option Value :=
  match fn.results.toList.mapM (aresult P t h) with
  | some [v] => some v
  | some vs => some (.tuple vs.toArray)
  | none => none

def acall (P : Program) (ks : Scr) : Nat → Rec
  | 0, _, _, _ => none
  | k + 1, f, args, h => match P.funcs[f]? with
    | some fn => match fn.body with
      | some c => match aexec P (ks f) (acall P ks k) (fun js => aloop js k) c (args ++ List.replicate (fn.ntmps - args.length) undef) h with
        | some (.normal, t, h') | some (.ret, t, h') => (aresults P fn t h').map fun v => (v, h')
        | _ => none
      | none => none
    | none => none

end Go.Proofs.YthhhmmildgijhaaGreatDoorSI
