/- Code whose drawing regions' orders are told ahead, by a table. -/
import Derived.Test.YthhhmmildgijhaaGreatDoorSI16
set_option linter.unusedVariables false
set_option linter.unusedSimpArgs false
namespace Go.Proofs.YthhhmmildgijhaaGreatDoorSI
open Go Go.RowKit

abbrev PlanTab := Nat → List Nat × List (List Nat)
def aexecP (P : Program) (ks : Nat → List Nat) (rec : Rec) (lp : List Nat → Step → Step) (pt : PlanTab) : Code → Step
  | .region i ops true => fun t h => (adraw P rec ops (pt i).2 (pt i).1 [] t h).map fun x => (.normal, x.1, x.2)
  | .seq a b => fun t h => match aexecP P ks rec lp pt a t h with
    | some (.normal, t', h') => aexecP P ks rec lp pt b t' h'
    | r => r
  | .cond c x y => fun t h => match aeval t c with
    | .bool true => aexecP P ks rec lp pt x t h
    | .bool false => aexecP P ks rec lp pt y t h
    | _ => none
  | .block id b => fun t h => match aexecP P ks rec lp pt b t h with
    | some (.exit j, t', h') => bif Nat.beq j id then some (.normal, t', h') else some (.exit j, t', h')
    | r => r
  | .loop b => fun t h => lp (ks (firstRegion b)) (aexecP P ks rec lp pt b) t h
  | .scope b => fun t h => aexecP P ks rec lp pt b t h
  | c => fun t h => aexec P ks rec lp c t h

def nlEq : List Nat → List Nat → Bool
  | [], [] => true
  | a :: as, b :: bs => Nat.beq a b && nlEq as bs
  | _, _ => false
theorem nlEq_eq : ∀ {a b : List Nat}, nlEq a b = true → a = b
  | [], [], _ => rfl
  | a :: as, b :: bs, h => by
    simp only [nlEq, Bool.and_eq_true] at h
    rw [Nat.eq_of_beq_eq_true h.1, nlEq_eq h.2]
def nllEq : List (List Nat) → List (List Nat) → Bool
  | [], [] => true
  | a :: as, b :: bs => nlEq a b && nllEq as bs
  | _, _ => false
theorem nllEq_eq : ∀ {a b : List (List Nat)}, nllEq a b = true → a = b
  | [], [], _ => rfl
  | a :: as, b :: bs, h => by
    simp only [nllEq, Bool.and_eq_true] at h
    rw [nlEq_eq h.1, nllEq_eq h.2]

def planned (P : Program) (pt : PlanTab) : Code → Bool
  | .region i ops true => (match plan P ops with | some o => nlEq o (pt i).1 | none => false) && nllEq (ancs ops) (pt i).2
  | .seq a b => planned P pt a && planned P pt b
  | .cond _ x y => planned P pt x && planned P pt y
  | .block _ b => planned P pt b
  | .loop b => planned P pt b
  | .scope b => planned P pt b
  | _ => true

theorem aexecP_eq {P : Program} {ks : Nat → List Nat} {rec : Rec} {lp : List Nat → Step → Step} {pt : PlanTab} : ∀ (c : Code), planned P pt c = true → aexecP P ks rec lp pt c = aexec P ks rec lp c := by
  intro c
  induction c with
  | region i ops draw =>
    intro h
    cases draw with
    | false => rfl
    | true =>
      funext t h'
      simp only [planned, Bool.and_eq_true] at h
      obtain ⟨h1, h2⟩ := h
      rw [ax_draw]
      split at h1
      · rename_i o ho
        rw [ho, nlEq_eq h1, nllEq_eq h2]
        simp only [aexecP]
      · cases h1
  | seq a b iha ihb =>
    intro h
    simp only [planned, Bool.and_eq_true] at h
    funext t h'
    rw [ax_seq]
    simp only [aexecP, iha h.1, ihb h.2]
    rfl
  | cond c x y ihx ihy =>
    intro h
    simp only [planned, Bool.and_eq_true] at h
    funext t h'
    rw [ax_cond]
    simp only [aexecP, ihx h.1, ihy h.2]
    rfl
  | block i b ih =>
    intro h
    simp only [planned] at h
    funext t h'
    rw [ax_block]
    simp only [aexecP, ih h]
    rfl
  | loop b ih =>
    intro h
    simp only [planned] at h
    funext t h'
    rw [ax_loop]
    simp only [aexecP, ih h]
  | scope b ih =>
    intro h
    simp only [planned] at h
    funext t h'
    rw [ax_scope]
    simp only [aexecP, ih h]
  | _ => intro _; rfl

/-- A run's end, the orders told. -/
theorem run_finP {P : Program} {s : Scr} {f : FuncId} {fn : Func} {c : Code} {args : List Value} {h : Heap} {x : Value × Heap} (pt : PlanTab) (hf : P.funcs[f]? = some fn) (hb : fn.body = some c) (hp : planned P pt c = true)
    (hx : fin P fn (aexecP P (s f) (run P s) loopω pt c (args ++ List.replicate (fn.ntmps - args.length) undef) h) = some x) : run P s f args h = some x := by
  refine run_fin hf hb ?_
  rw [aexecP_eq c hp] at hx
  exact hx
section
variable {P : Program} {ks : Nat → List Nat} {rec : Rec} {lp : List Nat → Step → Step} {pt : PlanTab} {t : Tm} {h : Heap}
theorem px_skip : aexecP P ks rec lp pt .skip t h = some (.normal, t, h) := by simp only [aexecP]; exact ax_skip
theorem px_label (i) : aexecP P ks rec lp pt (.label i) t h = some (.normal, t, h) := by simp only [aexecP]; exact ax_label i
theorem px_region (i ops) : aexecP P ks rec lp pt (.region i ops false) t h = (aops P rec ops (List.range ops.size) t h).map fun x => (.normal, x.1, x.2) := by simp only [aexecP]; exact ax_region i ops
theorem px_draw (i ops) : aexecP P ks rec lp pt (.region i ops true) t h = (adraw P rec ops (pt i).2 (pt i).1 [] t h).map fun x => (.normal, x.1, x.2) := by simp only [aexecP]
theorem px_seq (a b) : aexecP P ks rec lp pt (.seq a b) t h = match aexecP P ks rec lp pt a t h with
    | some (.normal, t', h') => aexecP P ks rec lp pt b t' h'
    | r => r := by simp only [aexecP]
theorem px_cond (c x y) : aexecP P ks rec lp pt (.cond c x y) t h = match aeval t c with
    | .bool true => aexecP P ks rec lp pt x t h
    | .bool false => aexecP P ks rec lp pt y t h
    | _ => none := by simp only [aexecP]
theorem px_block (i b) : aexecP P ks rec lp pt (.block i b) t h = match aexecP P ks rec lp pt b t h with
    | some (.exit j, t', h') => bif Nat.beq j i then some (.normal, t', h') else some (.exit j, t', h')
    | r => r := by simp only [aexecP]
theorem px_loop (b) : aexecP P ks rec lp pt (.loop b) t h = lp (ks (firstRegion b)) (aexecP P ks rec lp pt b) t h := by simp only [aexecP]
theorem px_scope (b) : aexecP P ks rec lp pt (.scope b) t h = aexecP P ks rec lp pt b t h := by simp only [aexecP]
theorem px_exit (i) : aexecP P ks rec lp pt (.exit i) t h = some (.exit i, t, h) := by simp only [aexecP]; exact ax_exit i
theorem px_ret : aexecP P ks rec lp pt .ret t h = some (.ret, t, h) := by simp only [aexecP]; exact ax_ret
end
end Go.Proofs.YthhhmmildgijhaaGreatDoorSI
