/- The quick interpreter: as the other one, but that frames are tries: for closed runs that the kernel reckons. -/
import Derived.Test.YthhhmmildgijhaaGreatDoorAI1
set_option linter.unusedVariables false
set_option linter.unusedSimpArgs false
namespace Go.Proofs.YthhhmmildgijhaaGreatDoorAI
open Go
noncomputable section

abbrev Fr := T Value
def fat (n : Nat) (t : Fr) (i : Nat) : Value :=
  bif Nat.blt i n then match t.get i with
    | some v => v
    | none => undef
  else undef
def fput (n : Nat) (t : Fr) (d : Option Tmp) (v : Value) : Fr :=
  match d with
  | some i => bif Nat.blt i n then T.set (i + 1) t i (some v) else t
  | none => t
def fstartGo : List Value → Nat → Fr → Fr
  | [], _, m => m
  | v :: vs, i, m => fstartGo vs (i + 1) (T.set (i + 1) m i (some v))
def fstart (vs : List Value) : Fr := fstartGo vs 0 .nil
def fsize (fn : Func) (args : List Value) : Nat := args.length + (fn.ntmps - args.length)
def fev (n : Nat) (t : Fr) : Operand → Value
  | .tmp i => fat n t i
  | .const v => bif plain v then v else unk
  | .global g => bif Nat.blt g NG then .pointer (some ⟨g, 0, none⟩) else unk
  | .func f => .func (.func f) #[] #[]
def fwanted (n : Nat) (ops : Array Oper) (o : Oper) (t : Fr) : Option Bool :=
  match o.guard with
  | none => some true
  | some (j, want) => match (ops[j]?).bind (·.dst) with
    | some i => bif Nat.blt i n then match fat n t i with
      | .bool b => some (b == want)
      | .tuple _ => some false
      | _ => none
      else none
    | none => none

/-! ### The switches, each branch a definition of its own: so that the kernel carries little about -/
def q_pick (v a b : Value) : Option Value := match v with
  | .bool t => some (bif t then a else b)
  | _ => none
def q_load (P : Program) (t : TypeId) (v : Value) (g : Nat → Option AObj) : Option Value := match v with
  | .pointer (some ⟨n, off, none⟩) => aload P t n off g
  | _ => none
def q_nil (P : Program) (v : Value) : Option Value := match v with
  | .pointer (some a) => some (.pointer (some a))
  | .func (.func f) a b => some (.func (.func f) a b)
  | .func (.method name) a b => bif methodHere P name a then some (.func (.method name) a b) else none
  | .iface t v => some (.iface t v)
  | _ => none
def q_slice (P : Program) (t : TypeId) (v : Value) (lo hi mx : Option Value) : Option Value := match v with
  | .string s => match P.underlying t with
    | some .string => sliceStr s lo hi mx
    | _ => none
  | v => aslice P t v lo hi mx
def q_index (P : Program) (t : TypeId) (v i : Value) : Option Value := match v with
  | .string s => match P.underlying t with
    | some .string => indexStr s i
    | _ => none
  | _ => none
def q_mki (P : Program) (t : TypeId) (v : Value) : Option Value := match P.underlying t with
  | some (.interface _) => none
  | some _ => some (.iface t v)
  | none => none
def q_ext (v : Value) (i : Nat) : Option Value := match v with
  | .tuple vs => vs[i]?
  | _ => none
def q_bin (P : Program) (op : BinOp) (t : TypeId) (u v : Value) (g : Nat → Option AObj) : Option Value := match u, v with
  | .int k a, .int k' b => intShift op k a k' b
  | .bool a, .bool b => match P.underlying t with
    | some .bool => boolBin op a b
    | _ => none
  | .float .f64 a, .float .f64 b => nanCmp op a b
  | .string a, .string b => strBin op a b
  | .int .i64 a, .chan (some q) => bif Nat.ble 3 q then cmpUnk op a q else none
  | u, v => binE P op t u v g
def q_un (op : UnOp) (v : Value) : Option Value := match op, v with
  | .not, .bool b => some (.bool (!b))
  | op, .int k n => atOnce (Op.unary op (.int k n))
  | _, _ => none
def q_conv (P : Program) (src dst : TypeId) (v : Value) : Option Value := match P.underlying src, P.underlying dst, v with
  | some _, some (.int k), .int _ n => some (.int k (k.wrap n))
  | _, _, _ => none
def q_len (P : Program) (ρ : Operand → Value) (c : Call) : Option Value := match c.callee with
  | .builtin .len => match c.args.toList, c.argTypes[0]? with
    | [x], some t => match P.underlying t, ρ x with
      | some (.slice _), .slice _ n _ => some (goInt n)
      | some .string, .string s => some (goInt s.size)
      | _, _ => none
    | _, _ => none
  | _ => none
def qlightS (P : Program) (ρ : Operand → Value) (o : Oper) (g : Nat → Option AObj) : Option Value :=
  match o.op with
  | .move x | .assign x => some (ρ x)
  | .pick c a b => q_pick (ρ c) (ρ a) (ρ b)
  | .load t a => q_load P t (ρ a) g
  | .nilCheck x => q_nil P (ρ x)
  | .fieldAddr s x f => afieldAddr P s (ρ x) f
  | .indexAddr t x i => aindexAddr P t (ρ x) (ρ i)
  | .slice t x lo hi mx => q_slice P t (ρ x) (lo.map ρ) (hi.map ρ) (mx.map ρ)
  | .index t x i => q_index P t (ρ x) (ρ i)
  | .makeInterface t x => q_mki P t (ρ x)
  | .makeFunc fn first captured => some (.func fn (first.map ρ) (captured.map ρ))
  | .extract x i => q_ext (ρ x) i
  | .field t x f => afield P t (ρ x) f
  | .build t parts => abuild P t (parts.map fun (i, x) => (i, ρ x)).toList
  | .binOp op t x y _ => q_bin P op t (ρ x) (ρ y) g
  | .unOp op _ x => q_un op (ρ x)
  | .convert src dst x => q_conv P src dst (ρ x)
  | .typeAssert x _ asserted ok => atypeAssert P (ρ x) asserted ok
  | .call c => q_len P ρ c
  | _ => none
theorem qlightS_eq (P : Program) (ρ : Operand → Value) (o : Oper) (g : Nat → Option AObj) : qlightS P ρ o g = lightS P ρ o g := by
  obtain ⟨dst, op, type, pos, after, guard⟩ := o
  cases op <;> rfl
def qlight (P : Program) (ρ : Operand → Value) (o : Oper) (g : Nat → Option AObj) : Option Value :=
  match qlightS P ρ o g with
  | some v => some v
  | none => purerule P ρ o
theorem qlight_eq (P : Program) (ρ : Operand → Value) (o : Oper) (g : Nat → Option AObj) : qlight P ρ o g = light P ρ o g := by
  unfold qlight light; rw [qlightS_eq]; cases lightS P ρ o g <;> rfl
/-- What is not by itself. -/
def q_ext3 (k : FuncId) (args : List Value) (h : Heap) : Option (Value × Heap) :=
  bif Nat.beq k noEscF then match args with
    | [x] => some (x, h)
    | _ => none
  else bif Nat.beq k idxByteF then match args with
    | [.string a, .int .u8 (.ofNat n)] => bif Nat.blt n 256 then some (goInt (idxL n a.data.toList 0), h) else none
    | _ => none
  else bif Nat.beq k idxStrF then match args, h.get mlG with
    | [.string a, .string b], some (.cells [.chan (some q)] _ _ _ _) =>
      bif Nat.ble 3 q && Nat.beq (q % 2) 1 && Nat.ble b.size ((q - 3) / 2) && Nat.ble 2 b.size && Nat.blt a.size 4294967281 then some (goInt (aindex a b), h) else none
    | _, _ => none
  else none
def q_callv (P : Program) (rec : Rec) (v : Value) (args : List Value) (h : Heap) : Option (Value × Heap) := match v with
  | .func (.func k) first captured => bif enters P k then aenter rec k (first.toList ++ args ++ captured.toList) h else q_ext3 k (first.toList ++ args ++ captured.toList) h
  | _ => none
def q_calli (P : Program) (rec : Rec) (v : Value) (name : String) (args : List Value) (h : Heap) : Option (Value × Heap) := match v with
  | .iface t v => match P.info? t with
    | some i => match i.methods.find? (·.name == name) with
      | some m => match m.path.toList, m.func, P.underlying t with
        | [], some (f, true), some (.pointer _) => bif enters P f then aenter rec f (v :: args) h else none
        | [], some (f, false), some d => match d with
          | .pointer _ => none
          | _ => bif enters P f then aenter rec f (v :: args) h else none
        | _, _, _ => none
      | none => none
    | none => none
  | _ => none
def q_call (P : Program) (rec : Rec) (ρ : Operand → Value) (c : Call) (h : Heap) : Option (Value × Heap) :=
  match c.callee with
  | .value f => q_callv P rec (ρ f) (c.args.map ρ).toList h
  | .invoke r name => q_calli P rec (ρ r) name (c.args.map ρ).toList h
  | .builtin b => abuiltin P b c.argTypes.toList (c.args.toList.map ρ) h
theorem q_call_eq (P : Program) (rec : Rec) (ρ : Operand → Value) (c : Call) (h : Heap) : q_call P rec ρ c h = acallOp P rec ρ c h := by
  obtain ⟨callee, args, ts⟩ := c
  cases callee <;> rfl
def q_store (P : Program) (t : TypeId) (a v : Value) (h : Heap) : Option (Value × Heap) := (astore P t a v h).map fun h' => (undef, h')
def qheavy (P : Program) (rec : Rec) (ρ : Operand → Value) (o : Oper) (h : Heap) : Option (Value × Heap) :=
  match o.op with
  | .store t a v => q_store P t (ρ a) (ρ v) h
  | .call c => q_call P rec ρ c h
  | _ => heavy P rec ρ o h
theorem qheavy_eq (P : Program) (rec : Rec) (ρ : Operand → Value) (o : Oper) (h : Heap) : qheavy P rec ρ o h = heavy P rec ρ o h := by
  unfold qheavy
  split
  · rename_i t a v ho; simp only [heavy, ho, q_store]
  · rename_i c ho; simp only [heavy, ho, q_call_eq]
  · rfl
def q_alloc (P : Program) (t : TypeId) : Option (AObj × (Nat → Value)) := match (P.info? t).bind (·.zero), szOf P t with
  | some z, some sz => match okCells z with
    | some cs => bif plain z && Nat.beq cs.length sz then some (.cells cs t sz false false, fun n => .pointer (some ⟨n, 0, none⟩)) else none
    | none => none
  | _, _ => none
def q_box (P : Program) (t : TypeId) (v : Value) : Option (AObj × (Nat → Value)) := match okCells v, szOf P t with
  | some cs, some sz => some (.cells cs t sz false false, fun n => .pointer (some ⟨n, 0, none⟩))
  | _, _ => none
def qalloc (P : Program) (ρ : Operand → Value) (o : Oper) : Option (AObj × (Nat → Value)) :=
  match o.op with
  | .alloc t => q_alloc P t
  | .box t x => q_box P t (ρ x)
  | _ => aalloc P ρ o
theorem qalloc_eq (P : Program) (ρ : Operand → Value) (o : Oper) : qalloc P ρ o = aalloc P ρ o := by
  unfold qalloc
  split
  · rename_i t ho; simp only [aalloc, ho]; rfl
  · rename_i t x ho; simp only [aalloc, ho]; rfl
  · rfl
def qop (P : Program) (rec : Rec) (ρ : Operand → Value) (o : Oper) (h : Heap) : Option (Value × Heap) :=
  match cls P o with
  | .light => (qlight P ρ o h.get).map fun v => (v, h)
  | .alloc => (qalloc P ρ o).map fun x => (x.2 h.next, h.new x.1)
  | .heavy => qheavy P rec ρ o h
  | .dfr => adefer ρ o h
theorem qop_eq (P : Program) (rec : Rec) (ρ : Operand → Value) (o : Oper) (h : Heap) : qop P rec ρ o h = aop P rec ρ o h := by
  unfold qop aop; rw [qlight_eq, qalloc_eq, qheavy_eq]; cases cls P o <;> rfl

/-! ### A heap made plain before it is handed on -/
def nk {α : Type} (n : Nat) (k : Nat → α) : α := Nat.rec (motive := fun _ => α) (k 0) (fun p _ => k (p + 1)) n
def ok_ {α β : Type} (x : Option β) (k : Option β → α) : α := match x with
  | none => k none
  | some v => k (some v)
def lk {α β : Type} (x : List β) (k : List β → α) : α := match x with
  | [] => k []
  | v :: l => k (v :: l)
def hk {α : Type} (h : Heap) (k : Heap → α) : α := match h with
  | ⟨m, c, d, ml⟩ => nk c fun c' => lk d fun d' => ok_ ml fun ml' => k ⟨m, c', d', ml'⟩
theorem hk_eq {α : Type} (h : Heap) (k : Heap → α) : hk h k = k h := by
  obtain ⟨m, c, d, ml⟩ := h
  cases c <;> cases d <;> cases ml <;> rfl

def fops (P : Program) (rec : Rec) (n : Nat) (ops : Array Oper) : List Oper → Fr → Heap → Option (Fr × Heap)
  | [], t, h => some (t, h)
  | o :: os, t, h => match fwanted n ops o t with
    | none => none
    | some false => fops P rec n ops os (fput n t o.dst undef) h
    | some true => match qop P rec (fev n t) o h with
      | none => none
      | some (v, h') => hk h' fun h'' => fops P rec n ops os (fput n t o.dst v) h''

def fdraw (P : Program) (rec : Rec) (n : Nat) (ops : Array Oper) (anc : List (List Nat)) : List Nat → List (Nat × List Nat) → Fr → Heap → Option (Fr × Heap)
  | [], _, t, h => some (t, h)
  | i :: is, reads, t, h => match ops[i]? with
    | none => none
    | some o => match fwanted n ops o t with
      | none => none
      | some false => fdraw P rec n ops anc is reads (fput n t o.dst undef) h
      | some true => match cls P o with
        | .light => match qlight P (fev n t) o h.get with
          | none => none
          | some v => fdraw P rec n ops anc is ((i, readNames (fev n t) o) :: reads) (fput n t o.dst v) h
        | .alloc => match qalloc P (fev n t) o with
          | none => none
          | some x => hk (h.new x.1) fun h'' => fdraw P rec n ops anc is reads (fput n t o.dst (x.2 h.next)) h''
        | .heavy => match qheavy P rec (fev n t) o h with
          | none => none
          | some (v, h') => match storeNames (fev n t) o with
            | [m] => bif reads.all (fun r => isAnc anc r.1 i || !r.2.contains m) then hk h' fun h'' => fdraw P rec n ops anc is ((i, [m]) :: reads) (fput n t o.dst v) h'' else none
            | _ => bif !isStore o && readsOk anc i reads h h' && Nat.ble h.next h'.next then hk h' fun h'' => fdraw P rec n ops anc is reads (fput n t o.dst v) h'' else none
        | .dfr => none


abbrev FStep := Fr → Heap → Option (AEx × Fr × Heap)

def fforget (n : Nat) : List Nat → Fr → Fr
  | [], t => t
  | i :: is, t => fforget n is (fput n t (some i) unk)

def floop (q : Nat) (ks : List Nat) : Nat → FStep → FStep
  | 0, _, _, _ => none
  | n + 1, f, t, h => match f (fforget q ks t) h with
    | some (.normal, t', h') => floop q ks n f t' h'
    | r => r


def fexec (P : Program) (ks : Nat → List Nat) (rec : Rec) (n : Nat) (lp : List Nat → FStep → FStep) (sc : Code → Nat → FStep) : Code → FStep
  | .skip, t, h => some (.normal, t, h)
  | .label _, t, h => some (.normal, t, h)
  | .region _ ops draw, t, h =>
    bif draw then
      match plan P ops with
      | some ord => match fdraw P rec n ops (ancs ops) ord [] t h with
        | some (t', h') => some (.normal, t', h')
        | none => none
      | none => none
    else match fops P rec n ops ops.toList t h with
      | some (t', h') => some (.normal, t', h')
      | none => none
  | .seq a b, t, h => match fexec P ks rec n lp sc a t h with
    | some (.normal, t', h') => fexec P ks rec n lp sc b t' h'
    | r => r
  | .cond c x y, t, h => match fev n t c with
    | .bool true => fexec P ks rec n lp sc x t h
    | .bool false => fexec P ks rec n lp sc y t h
    | _ => none
  | .block id b, t, h => match fexec P ks rec n lp sc b t h with
    | some (.exit j, t', h') => bif Nat.beq j id then some (.normal, t', h') else some (.exit j, t', h')
    | r => r
  | .loop b, t, h => lp (ks (firstRegion b)) (fexec P ks rec n lp sc b) t h
  | .scope b, t, h => match fexec P ks rec n lp sc b t h with
    | some (.goto l, t', h') => sc b l t' h'
    | r => r
  | .goto l, t, h => some (.goto l, t, h)
  | .exit id, t, h => some (.exit id, t, h)
  | .ret, t, h => some (.ret, t, h)
  | _, _, _ => none

/-- Jumps within a scope. -/
def fscope (X : Code → FStep) : Nat → Code → Nat → FStep
  | 0, _, _, _, _ => none
  | n + 1, b, l, t, h => match findLabel b l with
    | some rest => match X rest t h with
      | some (.goto l', t', h') => fscope X n b l' t' h'
      | r => r
    | none => some (.goto l, t, h)
def fexecL (P : Program) (ks : Nat → List Nat) (rec : Rec) (n N : Nat) : Nat → Code → FStep
  | 0 => fexec P ks rec n (fun js => floop n js N) (fun _ _ _ _ => none)
  | d + 1 => fexec P ks rec n (fun js => floop n js N) (fscope (fexecL P ks rec n N d) N)


def fopsR (P : Program) (rec : Rec) (n : Nat) (ops : Array Oper) : List Nat → Fr → Heap → Option (Fr × Heap)
  | [], t, h => some (t, h)
  | i :: is, t, h => match ops[i]? with
    | none => none
    | some o => match fwanted n ops o t with
      | none => none
      | some false => fopsR P rec n ops is (fput n t o.dst undef) h
      | some true => bif isRecover o then fopsR P rec n ops is (fput n t o.dst .nilIface) h else
        match cls P o with
        | .dfr => none
        | _ => match qop P rec (fev n t) o h with
          | none => none
          | some (v, h') => fopsR P rec n ops is (fput n t o.dst v) h'
def fexecR (P : Program) (rec : Rec) (n : Nat) (X : Code → FStep) : Code → FStep
  | .seq a b, t, h => match fexecR P rec n X a t h with
    | some (.normal, t', h') => fexecR P rec n X b t' h'
    | r => r
  | .region id ops draw, t, h => bif draw then X (.region id ops draw) t h else (fopsR P rec n ops (List.range ops.size) t h).map fun x => (.normal, x.1, x.2)
  | .cond c x y, t, h => match fev n t c with
    | .bool true => fexecR P rec n X x t h
    | .bool false => fexecR P rec n X y t h
    | _ => none
  | c, t, h => X c t h

def fresult (P : Program) (n : Nat) (t : Fr) (h : Heap) : ResultVar → Option Value
  | .tmp i => some ((fat n t i))
  | .cell a ty => match (fat n t a) with
    | .pointer (some ⟨n, off, none⟩) => aload P ty n off h.get
    | _ => none
def fresults (P : Program) (n : Nat) (fn : Func) (t : Fr) (h : Heap) : Option Value :=
  match fn.results.toList.mapM (fresult P n t h) with
  | some [v] => some v
  | some vs => some (.tuple vs.toArray)
  | none => none

def frund (P : Program) (ks : Scr) (rec : Rec) (k : Nat) (f : FuncId) (args : List Value) (h : Heap) : Option Heap :=
  match P.funcs[f]? with
  | some fn => match fn.body with
    | some c => match fexecR P rec (fsize fn args) (fexecL P (ks f) rec (fsize fn args) k 2) c (fstart args) (h.defs []) with
      | some (.normal, t, h1) | some (.ret, t, h1) => match h1.dfs, fresults P (fsize fn args) fn t h1 with
        | [], some _ => some (h1.defs h.dfs)
        | _, _ => none
      | _ => none
    | none => none
  | none => none

/-- How a call ended. -/
def fend (P : Program) (n : Nat) (fn : Func) : AEx × Fr × Heap → Option Value
  | (.normal, t, h1) | (.ret, t, h1) => match h1.dfs, fresults P n fn t h1 with
    | [], some v => bif plain v then some v else none
    | _, _ => none
  | _ => none
/-- Calls whose answers are told. -/
abbrev Tab := List (FuncId × List (List UInt8) × Value)
def sameStrs : List (List UInt8) → List Value → Bool
  | [], [] => true
  | a :: l, .string x :: xs => bif beqL a x.data.toList then sameStrs l xs else false
  | _, _ => false
def tlook : Tab → FuncId → List Value → Option Value
  | [], _, _ => none
  | (g, l, v) :: tab, f, args => bif Nat.beq f g && sameStrs l args && plain v then some v else tlook tab f args
/-- One call, its callees' answers given. -/
def fcallW (P : Program) (ks : Scr) (tab : Tab) (rec : Rec) (k : Nat) (f : FuncId) (args : List Value) (h : Heap) : Option (Value × Heap) :=
  match tlook tab f args with
  | some v => some (v, h)
  | none => match P.funcs[f]? with
    | some fn => match fn.body with
      | some c => bif Nat.beq f forkF && args.all plain && h.ml.isNone then
          match args with
          | [_, .string s] => match fexecL P (ks f) rec (fsize fn args) k 2 c (fstart args) (.bare (some (geInt s.size))), fexecL P (ks f) rec (fsize fn args) k 2 c (fstart args) (.bare (some (ltInt s.size))) with
            | some r1, some r2 => match fend P (fsize fn args) fn r1, fend P (fsize fn args) fn r2 with
              | some v1, some v2 => bif veq v1 v2 then some (v1, h) else none
              | _, _ => none
            | _, _ => none
          | _ => none
        else match fexecL P (ks f) rec (fsize fn args) k 2 c (fstart args) (h.defs []) with
        | some (.normal, t, h1) | some (.ret, t, h1) => match adefs P (frund P ks rec k) h1.dfs (h1.defs []) with
          | some h2 => (fresults P (fsize fn args) fn t h2).map fun v => (v, h2.defs h.dfs)
          | none => none
        | _ => none
      | none => none
    | none => none
def fcall (P : Program) (ks : Scr) (tab : Tab) : Nat → Rec
  | 0, _, _, _ => none
  | k + 1, f, args, h => fcallW P ks tab (fcall P ks tab k) k f args h

end

end Go.Proofs.YthhhmmildgijhaaGreatDoorAI
