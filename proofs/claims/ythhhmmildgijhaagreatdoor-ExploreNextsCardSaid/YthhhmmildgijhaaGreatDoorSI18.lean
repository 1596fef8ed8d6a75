/- The interpreter's steps, put so that simp does what comes first, first. -/
import Derived.Test.YthhhmmildgijhaaGreatDoorSI17
set_option linter.unusedVariables false
set_option linter.unusedSimpArgs false
namespace Go.Proofs.YthhhmmildgijhaaGreatDoorSI
open Go Go.RowKit

def seqK (x : Option (AEx × Tm × Heap)) (k : Step) : Option (AEx × Tm × Heap) := match x with
  | some (.normal, t', h') => k t' h'
  | r => r
theorem seqK_normal (t h k) : seqK (some (.normal, t, h)) k = k t h := rfl
theorem seqK_exit (i t h k) : seqK (some (.exit i, t, h)) k = some (.exit i, t, h) := rfl
theorem seqK_ret (t h k) : seqK (some (.ret, t, h)) k = some (.ret, t, h) := rfl
def condK (v : Value) (x y : Step) (t : Tm) (h : Heap) : Option (AEx × Tm × Heap) := match v with
  | .bool true => x t h
  | .bool false => y t h
  | _ => none
theorem condK_true (x y t h) : condK (.bool true) x y t h = x t h := rfl
theorem condK_false (x y t h) : condK (.bool false) x y t h = y t h := rfl
def opsK (x : Option (Value × Heap)) (d : Option Tmp) (k : Tm → Heap → Option (Tm × Heap)) (t : Tm) : Option (Tm × Heap) := match x with
  | some (v, h) => k (tput t d v) h
  | none => none
theorem opsK_some (v h d k t) : opsK (some (v, h)) d k t = k (tput t d v) h := rfl
def wK (P : Program) (rec : Rec) (w : Option Bool) (o : Oper) (k : Tm → Heap → Option (Tm × Heap)) (t : Tm) (h : Heap) : Option (Tm × Heap) := match w with
  | none => none
  | some false => k (tput t o.dst undef) h
  | some true => opsK (aop P rec (aeval t) o h) o.dst k t
theorem wK_true (P rec o k t h) : wK P rec (some true) o k t h = opsK (aop P rec (aeval t) o h) o.dst k t := rfl
theorem wK_false (P rec o k t h) : wK P rec (some false) o k t h = k (tput t o.dst undef) h := rfl
def itK (P : Program) (rec : Rec) (ops : Array Oper) (x : Option Oper) (k : Tm → Heap → Option (Tm × Heap)) (t : Tm) (h : Heap) : Option (Tm × Heap) := match x with
  | none => none
  | some o => wK P rec (awanted ops o t) o k t h
theorem itK_some (P rec ops o k t h) : itK P rec ops (some o) k t h = wK P rec (awanted ops o t) o k t h := rfl
section
variable {P : Program} {ks : Nat → List Nat} {rec : Rec} {lp : List Nat → Step → Step} {pt : PlanTab} {t : Tm} {h : Heap}
theorem qx_seq (a b) : aexecP P ks rec lp pt (.seq a b) t h = seqK (aexecP P ks rec lp pt a t h) (aexecP P ks rec lp pt b) := by simp only [aexecP]; rfl
theorem qx_cond (c x y) : aexecP P ks rec lp pt (.cond c x y) t h = condK (aeval t c) (aexecP P ks rec lp pt x) (aexecP P ks rec lp pt y) t h := by simp only [aexecP]; rfl
theorem aops_nil (ops : Array Oper) : aops P rec ops [] t h = some (t, h) := rfl
theorem aops_cons (ops : Array Oper) (i is) : aops P rec ops (i :: is) t h = itK P rec ops ops[i]? (aops P rec ops is) t h := by
  rw [aops]
  cases ops[i]? with
  | none => rfl
  | some o =>
    simp only [itK, wK]
    cases awanted ops o t with
    | none => rfl
    | some b => cases b with
      | false => rfl
      | true =>
        simp only [opsK]
        cases aop P rec (aeval t) o h with
        | none => rfl
        | some x => rfl
end
abbrev DK := List (Nat × List Nat) → Tm → Heap → Option (Tm × Heap)
def lK (x : Option Value) (d : Option Tmp) (k : Tm → Heap → Option (Tm × Heap)) (t : Tm) (h : Heap) : Option (Tm × Heap) := match x with
  | some v => k (tput t d v) h
  | none => none
theorem lK_some (v d k t h) : lK (some v) d k t h = k (tput t d v) h := rfl
def aK (x : Option (AObj × (Nat → Value))) (d : Option Tmp) (k : Tm → Heap → Option (Tm × Heap)) (t : Tm) (h : Heap) : Option (Tm × Heap) := match x with
  | some x => k (tput t d (x.2 h.next)) (h.new x.1)
  | none => none
theorem aK_some (o f d k t h) : aK (some (o, f)) d k t h = k (tput t d (f h.next)) (h.new o) := rfl
def hK (x : Option (Value × Heap)) (anc : List (List Nat)) (i : Nat) (reads : List (Nat × List Nat)) (d : Option Tmp) (k : Tm → Heap → Option (Tm × Heap)) (t : Tm) (h : Heap) : Option (Tm × Heap) := match x with
  | some (v, h') => bif readsOk anc i reads h h' && Nat.ble h.next h'.next then k (tput t d v) h' else none
  | none => none
theorem hK_some (v h' anc i reads d k t h) : hK (some (v, h')) anc i reads d k t h = bif readsOk anc i reads h h' && Nat.ble h.next h'.next then k (tput t d v) h' else none := rfl
def dK (P : Program) (rec : Rec) (anc : List (List Nat)) (o : Oper) (i : Nat) (k : DK) (reads : List (Nat × List Nat)) (t : Tm) (h : Heap) : Cls → Option (Tm × Heap)
  | .light => lK (light P (aeval t) o h.get) o.dst (k ((i, readNames (aeval t) o) :: reads)) t h
  | .alloc => aK (aalloc P (aeval t) o) o.dst (k reads) t h
  | .heavy => hK (heavy P rec (aeval t) o h) anc i reads o.dst (k reads) t h
def dwK (P : Program) (rec : Rec) (anc : List (List Nat)) (w : Option Bool) (o : Oper) (i : Nat) (k : DK) (reads : List (Nat × List Nat)) (t : Tm) (h : Heap) : Option (Tm × Heap) := match w with
  | none => none
  | some false => k reads (tput t o.dst undef) h
  | some true => dK P rec anc o i k reads t h (cls P o)
theorem dwK_true (P rec anc o i k reads t h) : dwK P rec anc (some true) o i k reads t h = dK P rec anc o i k reads t h (cls P o) := rfl
theorem dwK_false (P rec anc o i k reads t h) : dwK P rec anc (some false) o i k reads t h = k reads (tput t o.dst undef) h := rfl
def diK (P : Program) (rec : Rec) (ops : Array Oper) (anc : List (List Nat)) (x : Option Oper) (i : Nat) (k : DK) (reads : List (Nat × List Nat)) (t : Tm) (h : Heap) : Option (Tm × Heap) := match x with
  | none => none
  | some o => dwK P rec anc (awanted ops o t) o i k reads t h
theorem diK_some (P rec ops anc o i k reads t h) : diK P rec ops anc (some o) i k reads t h = dwK P rec anc (awanted ops o t) o i k reads t h := rfl
section
variable {P : Program} {rec : Rec} {t : Tm} {h : Heap}
theorem dK_light (anc o i k reads) : dK P rec anc o i k reads t h .light = lK (light P (aeval t) o h.get) o.dst (k ((i, readNames (aeval t) o) :: reads)) t h := rfl
theorem dK_alloc (anc o i k reads) : dK P rec anc o i k reads t h .alloc = aK (aalloc P (aeval t) o) o.dst (k reads) t h := rfl
theorem dK_heavy (anc o i k reads) : dK P rec anc o i k reads t h .heavy = hK (heavy P rec (aeval t) o h) anc i reads o.dst (k reads) t h := rfl
theorem adraw_nil (ops : Array Oper) (anc reads) : adraw P rec ops anc [] reads t h = some (t, h) := rfl
theorem adraw_cons (ops : Array Oper) (anc i is reads) : adraw P rec ops anc (i :: is) reads t h = diK P rec ops anc ops[i]? i (adraw P rec ops anc is) reads t h := by
  rw [adraw]
  cases ops[i]? with
  | none => rfl
  | some o =>
    simp only [diK, dwK]
    cases awanted ops o t with
    | none => rfl
    | some b => cases b with
      | false => rfl
      | true =>
        simp only
        cases cls P o with
        | light => simp only [dK, lK]; cases light P (aeval t) o h.get <;> rfl
        | alloc => simp only [dK, aK]; cases aalloc P (aeval t) o <;> rfl
        | heavy => simp only [dK, hK]; cases heavy P rec (aeval t) o h <;> rfl
end
end Go.Proofs.YthhhmmildgijhaaGreatDoorSI
