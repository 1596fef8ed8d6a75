/- The quick interpreter is sound, with a table of calls that are told. -/
import Derived.Test.YthhhmmildgijhaaGreatDoorAF2
import Derived.Test.YthhhmmildgijhaaGreatDoorAI115
set_option linter.unusedVariables false
set_option linter.unusedSimpArgs false
namespace Go.Proofs.YthhhmmildgijhaaGreatDoorAI
open Go

section
variable {P : Program} {base : Nat}

/-- What the table tells is so. -/
def TabOK (P : Program) (base : Nat) (tab : Tab) : Prop :=
  ∀ g l v, (g, l, v) ∈ tab → plain v = true → ∀ (args : List Value), sameStrs l args = true → ∀ (h : Heap) (σ : Sig) (w : World) (args' : Array Value), Rep base (· < h.next) σ h.get w → LRep (· < h.next) σ args args'.toList →
    Calls P g args' w fun e w' => ∃ v' σ', e = .returned v' ∧ Moves base (· < h.next) σ h.get w (· < h.next) σ' h.get w' ∧ VRep (· < h.next) σ' v v'

theorem tlook_in : ∀ {tab : Tab} {f : FuncId} {args : List Value} {v : Value}, tlook tab f args = some v → ∃ l, (f, l, v) ∈ tab ∧ sameStrs l args = true ∧ plain v = true
  | [], f, args, v, h => by cases h
  | (g, l, u) :: tab, f, args, v, h => by
    simp only [tlook] at h
    cases hb : Nat.beq f g && sameStrs l args && plain u with
    | true =>
      rw [hb] at h
      simp only [cond_true, Option.some.injEq] at h
      subst h
      simp only [Bool.and_eq_true] at hb
      obtain rfl := Nat.eq_of_beq_eq_true hb.1.1
      exact ⟨l, by simp, hb.1.2, hb.2⟩
    | false =>
      rw [hb] at h
      obtain ⟨l', h1, h2, h3⟩ := tlook_in (tab := tab) h
      exact ⟨l', by simp [h1], h2, h3⟩

theorem fcall_both (hmix : P.follows .mixedOrders = true) (hne : ExtOK P) (ks : Scr) {tab : Tab} (htab : TabOK P base tab) : ∀ (k : Nat), RecOK P base (fcall P ks tab k) ∧ RecD (fcall P ks tab k) := by
  intro k
  induction k with
  | zero => exact ⟨⟨hne, fun f args h v h' hr => (by cases hr)⟩, fun f args h v h' hr => (by cases hr)⟩
  | succ k ih =>
    have both : ∀ (f : FuncId) (args : List Value) (h : Heap) (v : Value) (h' : Heap), fcall P ks tab (k + 1) f args h = some (v, h') → h'.dfs = h.dfs ∧ ∀ (σ : Sig) (w : World) (args' : Array Value),
        Rep base (· < h.next) σ h.get w → LRep (· < h.next) σ args args'.toList →
        Calls P f args' w fun e w' => ∃ v' σ', e = .returned v' ∧ Moves base (· < h.next) σ h.get w (· < h'.next) σ' h'.get w' ∧ VRep (· < h'.next) σ' v v' := by
      intro f args h v h' hr
      simp only [fcall] at hr
      cases hl : tlook tab f args with
      | some u =>
        unfold fcallW at hr
        rw [hl] at hr
        simp only [Option.some.injEq, Prod.mk.injEq] at hr
        obtain ⟨rfl, rfl⟩ := hr
        obtain ⟨l, h1, h2, h3⟩ := tlook_in hl
        exact ⟨rfl, fun σ w args' hrep hargs => htab f l u h1 h3 args h2 h σ w args' hrep hargs⟩
      | none =>
        rw [← fcallW_eq ks tab k f args h hl] at hr
        exact step_both hmix ks k ih.1 ih.2 f args h v h' hr
    exact ⟨⟨hne, fun f args h v h' hr => (both f args h v h' hr).2⟩, fun f args h v h' hr => (both f args h v h' hr).1⟩

theorem sameStrs_plain : ∀ {l : List (List UInt8)} {args : List Value}, sameStrs l args = true → args = l.map fun a => .string ⟨a.toArray⟩
  | [], [], _ => rfl
  | [], _ :: _, h => by cases h
  | a :: l, [], h => by cases h
  | a :: l, y :: xs, h => by
    cases y with
    | string x =>
      simp only [sameStrs] at h
      cases hb : beqL a x.data.toList with
      | false => rw [hb] at h; cases h
      | true =>
        rw [hb] at h
        simp only [cond_true] at h
        rw [beqL_eq] at hb
        have e : a = x.data.toList := eq_of_beq hb
        rw [sameStrs_plain h]
        simp only [List.map_cons, List.cons.injEq, Value.string.injEq, and_true]
        apply ByteArray.ext
        rw [e]
    | _ => cases h

theorem strs_plain (l : List (List UInt8)) : (l.map fun a => Value.string ⟨a.toArray⟩).all plain = true := by
  induction l with
  | nil => rfl
  | cons a l ih => simp only [List.map_cons, List.all_cons, ih, Bool.and_true]; rfl

theorem TabOK.nil : TabOK P base [] := fun g l v h => by cases h

/-- One call more is told. -/
theorem TabOK.cons (hmix : P.follows .mixedOrders = true) (hne : ExtOK P) (ks : Scr) {tab : Tab} (htab : TabOK P base tab) {k : Nat} {g : FuncId} {l : List (List UInt8)} {v : Value} {h' : Heap}
    (hrun : fcall P ks tab k g (l.map fun a => .string ⟨a.toArray⟩) .empty = some (v, h')) : TabOK P base ((g, l, v) :: tab) := by
  intro g1 l1 v1 hin hp args hs h σ w args' hrep hargs
  rcases List.mem_cons.1 hin with e | hin
  · simp only [Prod.mk.injEq] at e
    obtain ⟨rfl, rfl, rfl⟩ := e
    have ea := sameStrs_plain hs
    subst ea
    refine ((fcall_both hmix hne ks htab k).1.2 _ _ .empty _ h' hrun σ w args' (Rep.empty hrep) (LRep.plain (strs_plain _) hargs)).mono ?_
    rintro e w' ⟨v', σ', rfl, hm, hv⟩
    obtain rfl := VRep.plain_eq 8 hp hv
    exact ⟨_, σ, rfl, Moves.kept hrep hm, VRep.plain_refl 8 hp⟩
  · exact htab g1 l1 v1 hin hp args hs h σ w args' hrep hargs

/-- A call that begins with the program's variables alone. -/
theorem fcall_law (hmix : P.follows .mixedOrders = true) (hne : ExtOK P) {ks : Scr} {tab : Tab} {k : Nat} {f : FuncId} {args : List Value} {v : Value} {h' : Heap} {W : World} (htab : TabOK P W.heap.size tab) (hrun : fcall P ks tab k f args .empty = some (v, h')) (hp : plain v = true)
    {σ : Sig} {args' : Array Value} (hg : Glob W.heap.size (· < NG) σ W) (hl : LRep (· < NG) σ args args'.toList) : Calls P f args' W fun e W' => e = .returned v ∧ RowKit.Below W.heap.size W W' := by
  refine ((fcall_both hmix hne ks htab k).1.2 f args .empty v h' hrun σ W args' (Rep.start hg (Nat.le_refl _)) hl).mono ?_
  rintro e W' ⟨v', σ', rfl, hm, hv⟩
  obtain rfl := VRep.plain_eq 8 hp hv
  refine ⟨rfl, hm.os, hm.tape, hm.output, hm.size, fun b hb => hm.frame b hb fun ⟨n, ⟨o, h, ho⟩, _⟩ => ?_⟩
  have h1 : n < NG := Heap.get_lt h
  have h2 := Heap.own_ge h ho
  omega

end
end Go.Proofs.YthhhmmildgijhaaGreatDoorAI
