/- A walk over a map of which the order is not known: every way is run. -/
import Derived.Test.YthhhmmildgijhaaGreatDoorAF3
set_option linter.unusedVariables false
set_option linter.unusedSimpArgs false
namespace Go.Proofs.YthhhmmildgijhaaGreatDoorAI
open Go
noncomputable section

/-! ### Are two values, two objects the same? (for the kernel) -/
mutual
def qeq : Value → Value → Bool
  | .bool a, y => match y with | .bool b => Bool.rec (Bool.rec true false b) b a | _ => false
  | .int k n, y => match y with | .int l m => (k == l) && (n == m) | _ => false
  | .float k n, y => match y with | .float l m => (k == l) && Nat.beq n m | _ => false
  | .complex k a b, y => match y with | .complex l c d => (k == l) && Nat.beq a c && Nat.beq b d | _ => false
  | .string a, y => match y with | .string b => beqL a.data.toList b.data.toList | _ => false
  | .pointer a, y => match y with | .pointer b => a == b | _ => false
  | .slice a n c, y => match y with | .slice b m d => (a == b) && Nat.beq n m && Nat.beq c d | _ => false
  | .map a, y => match y with | .map b => a == b | _ => false
  | .chan a, y => match y with | .chan b => a == b | _ => false
  | .func f a b, y => match y with | .func g c d => (f == g) && qeqA a c && qeqA b d | _ => false
  | .nilFunc, y => match y with | .nilFunc => true | _ => false
  | .iface t v, y => match y with | .iface u w => Nat.beq t u && qeq v w | _ => false
  | .nilIface, y => match y with | .nilIface => true | _ => false
  | .agg a, y => match y with | .agg b => qeqA a b | _ => false
  | .tuple a, y => match y with | .tuple b => qeqA a b | _ => false
  termination_by structural x => x
def qeqA : Array Value → Array Value → Bool
  | ⟨a⟩, ⟨b⟩ => qeqL a b
  termination_by structural x => x
def qeqL : List Value → List Value → Bool
  | [], [] => true
  | x :: xs, y :: ys => qeq x y && qeqL xs ys
  | _, _ => false
  termination_by structural x => x
end
theorem str_of_beqL {a b : ByteArray} (h : beqL a.data.toList b.data.toList = true) : a = b := by
  rw [beqL_eq] at h
  have := eq_of_beq h
  exact ByteArray.ext (Array.toList_inj.1 this)
mutual
theorem qeq_eq : ∀ (x y : Value), qeq x y = true → x = y
  | .bool a, y, h => by cases y <;> simp only [qeq, Bool.false_eq_true] at h ; rename_i b; cases a <;> cases b <;> first | rfl | cases h
  | .int k n, y, h => by cases y <;> simp [qeq] at h ⊢ ; exact h
  | .float k n, y, h => by cases y <;> simp [qeq] at h ⊢ ; exact h
  | .complex k a b, y, h => by cases y <;> simp [qeq, and_assoc] at h ⊢ ; exact h
  | .string a, y, h => by cases y <;> simp only [qeq, Bool.false_eq_true] at h ; rw [str_of_beqL h]
  | .pointer a, y, h => by cases y <;> simp [qeq] at h ⊢ ; exact h
  | .slice a n c, y, h => by cases y <;> simp [qeq, and_assoc] at h ⊢ ; exact h
  | .map a, y, h => by cases y <;> simp [qeq] at h ⊢ ; exact h
  | .chan a, y, h => by cases y <;> simp [qeq] at h ⊢ ; exact h
  | .func f a b, y, h => by
    cases y <;> simp only [qeq, Bool.false_eq_true, Bool.and_eq_true, beq_iff_eq] at h
    obtain ⟨⟨rfl, h1⟩, h2⟩ := h
    rw [qeqA_eq _ _ h1, qeqA_eq _ _ h2]
  | .nilFunc, y, h => by cases y <;> simp [qeq] at h ⊢
  | .iface t v, y, h => by
    cases y <;> simp only [qeq, Bool.false_eq_true, Bool.and_eq_true] at h
    rw [Nat.eq_of_beq_eq_true h.1, qeq_eq _ _ h.2]
  | .nilIface, y, h => by cases y <;> simp [qeq] at h ⊢
  | .agg a, y, h => by cases y <;> simp only [qeq, Bool.false_eq_true] at h ; rw [qeqA_eq _ _ h]
  | .tuple a, y, h => by cases y <;> simp only [qeq, Bool.false_eq_true] at h ; rw [qeqA_eq _ _ h]
theorem qeqA_eq : ∀ (x y : Array Value), qeqA x y = true → x = y
  | ⟨a⟩, ⟨b⟩, h => by simp only [qeqA] at h; rw [qeqL_eq _ _ h]
theorem qeqL_eq : ∀ (x y : List Value), qeqL x y = true → x = y
  | [], y, h => by cases y <;> first | rfl | cases h
  | x :: xs, y, h => by
    cases y with
    | nil => cases h
    | cons y ys =>
      simp only [qeqL, Bool.and_eq_true] at h
      rw [qeq_eq _ _ h.1, qeqL_eq _ _ h.2]
end

def eeq (a b : MapEntry) : Bool := qeq a.key b.key && qeq a.val b.val && Nat.beq a.born b.born
def eeqL : List MapEntry → List MapEntry → Bool
  | [], [] => true
  | a :: l, b :: m => eeq a b && eeqL l m
  | _, _ => false
def neqL : List Nat → List Nat → Bool
  | [], [] => true
  | a :: l, b :: m => Nat.beq a b && neqL l m
  | _, _ => false
def oeq : AObj → AObj → Bool
  | .cells c e n g r, .cells c' e' n' g' r' => qeqL c c' && Nat.beq e e' && Nat.beq n n' && (g == g') && (r == r')
  | .oth (.iter s p), .oth (.iter s' p') => beqL s.data.toList s'.data.toList && Nat.beq p p'
  | .oth (.map es c), .oth (.map es' c') => eeqL es es' && Nat.beq c c'
  | .oth (.miter m s l n), .oth (.miter m' s' l' n') => (m == m') && Nat.beq s s' && neqL l l' && Nat.beq n n'
  | _, _ => false
theorem eeqL_eq : ∀ (x y : List MapEntry), eeqL x y = true → x = y
  | [], y, h => by cases y <;> first | rfl | cases h
  | x :: xs, y, h => by
    cases y with
    | nil => cases h
    | cons y ys =>
      simp only [eeqL, eeq, Bool.and_eq_true] at h
      obtain ⟨⟨⟨h1, h2⟩, h3⟩, h4⟩ := h
      rw [eeqL_eq _ _ h4]
      obtain ⟨k, v, b⟩ := x
      obtain ⟨k', v', b'⟩ := y
      simp only at h1 h2 h3
      rw [qeq_eq _ _ h1, qeq_eq _ _ h2, Nat.eq_of_beq_eq_true h3]
theorem neqL_eq : ∀ (x y : List Nat), neqL x y = true → x = y
  | [], y, h => by cases y <;> first | rfl | cases h
  | x :: xs, y, h => by
    cases y with
    | nil => cases h
    | cons y ys =>
      simp only [neqL, Bool.and_eq_true] at h
      rw [Nat.eq_of_beq_eq_true h.1, neqL_eq _ _ h.2]
theorem oeq_eq {a b : AObj} (h : oeq a b = true) : a = b := by
  unfold oeq at h
  split at h
  · simp only [Bool.and_eq_true, beq_iff_eq] at h
    obtain ⟨⟨⟨⟨h1, h2⟩, h3⟩, rfl⟩, rfl⟩ := h
    rw [qeqL_eq _ _ h1, Nat.eq_of_beq_eq_true h2, Nat.eq_of_beq_eq_true h3]
  · simp only [Bool.and_eq_true] at h
    rw [str_of_beqL h.1, Nat.eq_of_beq_eq_true h.2]
  · simp only [Bool.and_eq_true] at h
    rw [eeqL_eq _ _ h.1, Nat.eq_of_beq_eq_true h.2]
  · simp only [Bool.and_eq_true, beq_iff_eq] at h
    obtain ⟨⟨⟨rfl, h2⟩, h3⟩, h4⟩ := h
    rw [Nat.eq_of_beq_eq_true h2, neqL_eq _ _ h3, Nat.eq_of_beq_eq_true h4]
  · cases h

/-! ### Heaps by lists -/
abbrev Objs := List (Nat × AObj)
def mkT : Objs → T AObj
  | [] => .nil
  | (n, o) :: l => T.set (n + 1) (mkT l) n (some o)
def mkH (cnt : Nat) (l : Objs) : Heap := ⟨mkT l, cnt, [], none⟩
/-- Does the heap hold these? -/
def holds (g : Nat → Option AObj) : Objs → Bool
  | [] => true
  | (n, o) :: l => match g n with
    | some o' => bif oeq o' o then holds g l else false
    | none => false

theorem mkT_mem : ∀ {l : Objs} {n : Nat} {o : AObj}, (mkT l).get n = some o → (n, o) ∈ l
  | [], n, o, h => by cases h
  | (m, p) :: l, n, o, h => by
    simp only [mkT] at h
    rw [T.get_set _ _ _ _ _ (Nat.lt_succ_self m)] at h
    by_cases e : n = m
    · subst e; simp at h; subst h; simp
    · simp only [e, if_false] at h
      exact List.mem_cons_of_mem _ (mkT_mem h)
theorem holds_mem {g : Nat → Option AObj} : ∀ {l : Objs}, holds g l = true → ∀ n o, (n, o) ∈ l → g n = some o
  | [], _, n, o, hm => by cases hm
  | (m, p) :: l, h, n, o, hm => by
    simp only [holds] at h
    cases hg : g m with
    | none => rw [hg] at h; cases h
    | some o' =>
      rw [hg] at h
      simp only at h
      cases he : oeq o' p with
      | false => rw [he] at h; cases h
      | true =>
        rw [he] at h
        simp only [cond_true] at h
        rcases List.mem_cons.1 hm with e | hm
        · simp only [Prod.mk.injEq] at e
          obtain ⟨rfl, rfl⟩ := e
          rw [hg, oeq_eq he]
        · exact holds_mem h n o hm
theorem mkH_sub {h : Heap} {cnt : Nat} {l : Objs} (hml : h.ml = none) (hh : holds h.get l = true) (n : Nat) (o : AObj) (hg : (mkH cnt l).get n = some o) : h.get n = some o := by
  have h1 := hg
  unfold Heap.get at h1
  cases hb : Nat.blt n NG with
  | true =>
    rw [gobj_lt (blt_lt hb), hml]
    rw [hb] at h1
    exact h1
  | false =>
    rw [hb] at h1
    simp only [cond_false] at h1
    cases hb2 : Nat.blt n (mkH cnt l).next with
    | false => rw [hb2] at h1; cases h1
    | true =>
      rw [hb2] at h1
      exact holds_mem hh n o (mkT_mem h1)

structure Ent where
  g : FuncId
  args : List Value
  cnt : Nat
  ins : Objs
  v : Value
  cnt' : Nat
  outs : Objs

def hlook : List Ent → FuncId → List Value → Heap → Option (Value × Heap)
  | [], _, _, _ => none
  | ⟨g, as, c, ins, v, c', outs⟩ :: l, f, args, h => bif Nat.beq f g && Nat.beq h.cnt c && qeqL args as && h.ml.isNone && holds h.get ins then some (v, (mkH c' outs).defs h.dfs) else hlook l f args h

/-- Where told answers are looked up. -/
abbrev Look := FuncId → List Value → Heap → Option (Value × Heap)
def orL (a b : Look) : Look := fun f args h => match a f args h with
  | some r => some r
  | none => b f args h
def tabL (tab : Tab) : Look := fun f args h => match tlook tab f args with
  | some v => some (v, h)
  | none => none
def noL : Look := fun _ _ _ => none
def gcall (P : Program) (ks : Scr) (L : Look) : Nat → Rec
  | 0, _, _, _ => none
  | k + 1, f, args, h => match L f args h with
    | some r => some r
    | none => fcallW P ks [] (gcall P ks L k) k f args h
/-- Does a run end so? -/
def endsSo (v : Value) (cnt : Nat) (outs : Objs) : Option (Value × Heap) → Bool
  | some (u, h) => qeq u v && Nat.beq h.cnt cnt && h.ml.isNone && holds h.get outs
  | none => false
end

section
variable {P : Program} {base : Nat}

theorem Moves.sub {D D' : Nat → Prop} {σ σ' : Sig} {g g' g'' : Nat → Option AObj} {w w' : World} (h : Moves base D σ g w D' σ' g' w') (hs : ∀ n o, g'' n = some o → g' n = some o) : Moves base D σ g w D' σ' g'' w' :=
  ⟨h.mono, h.ext, h.rep.sub hs, h.os, h.tape, h.output, h.size, h.frame, fun b ⟨n, ⟨o, hg, ho⟩, e⟩ => h.own b ⟨n, ⟨o, hs _ _ hg, ho⟩, e⟩⟩
theorem Moves.wid {D D' : Nat → Prop} {σ σ' : Sig} {g g' g0 : Nat → Option AObj} {w w' : World} (h : Moves base D σ g w D' σ' g' w') (hs : ∀ n o, g n = some o → g0 n = some o) : Moves base D σ g0 w D' σ' g' w' :=
  ⟨h.mono, h.ext, h.rep, h.os, h.tape, h.output, h.size, fun b hb hn => h.frame b hb fun ⟨n, ⟨o, hg, ho⟩, e⟩ => hn ⟨n, ⟨o, hs _ _ hg, ho⟩, e⟩,
    fun b hb => (h.own b hb).imp (fun ⟨n, ⟨o, hg, ho⟩, e⟩ => ⟨n, ⟨o, hs _ _ hg, ho⟩, e⟩) id⟩

/-- What an entry tells is so. -/
def EntOK (P : Program) (base : Nat) (e : Ent) : Prop :=
  ∀ (σ : Sig) (w : World) (args' : Array Value), Rep base (· < (mkH e.cnt e.ins).next) σ (mkH e.cnt e.ins).get w → LRep (· < (mkH e.cnt e.ins).next) σ e.args args'.toList →
    Calls P e.g args' w fun x w' => ∃ v' σ', x = .returned v' ∧ Moves base (· < (mkH e.cnt e.ins).next) σ (mkH e.cnt e.ins).get w (· < (mkH e.cnt' e.outs).next) σ' (mkH e.cnt' e.outs).get w' ∧ VRep (· < (mkH e.cnt' e.outs).next) σ' e.v v'
def EntsOK (P : Program) (base : Nat) (l : List Ent) : Prop := ∀ e ∈ l, EntOK P base e

theorem EntsOK.nil : EntsOK P base [] := fun e h => by cases h
theorem EntsOK.cons {e : Ent} {l : List Ent} (he : EntOK P base e) (h : EntsOK P base l) : EntsOK P base (e :: l) := fun x hx => by
  rcases List.mem_cons.1 hx with rfl | hx
  · exact he
  · exact h x hx
theorem EntsOK.append {l m : List Ent} (h : EntsOK P base l) (k : EntsOK P base m) : EntsOK P base (l ++ m) := fun x hx => (List.mem_append.1 hx).elim (h x) (k x)

theorem hlook_in : ∀ {l : List Ent} {f : FuncId} {args : List Value} {h : Heap} {r : Value × Heap}, hlook l f args h = some r →
    ∃ e ∈ l, e.g = f ∧ h.cnt = e.cnt ∧ args = e.args ∧ h.ml = none ∧ holds h.get e.ins = true ∧ r = (e.v, (mkH e.cnt' e.outs).defs h.dfs)
  | [], f, args, h, r, e => by cases e
  | ⟨g, as, c, ins, v, c', outs⟩ :: l, f, args, h, r, e => by
    simp only [hlook] at e
    cases hb : Nat.beq f g && Nat.beq h.cnt c && qeqL args as && h.ml.isNone && holds h.get ins with
    | true =>
      rw [hb] at e
      simp only [cond_true, Option.some.injEq] at e
      simp only [Bool.and_eq_true] at hb
      obtain ⟨⟨⟨⟨h1, h2⟩, h3⟩, h4⟩, h5⟩ := hb
      exact ⟨_, List.mem_cons_self .., (Nat.eq_of_beq_eq_true h1).symm, Nat.eq_of_beq_eq_true h2, qeqL_eq _ _ h3, Option.isNone_iff_eq_none.1 h4, h5, e.symm⟩
    | false =>
      rw [hb] at e
      obtain ⟨x, hx, rest⟩ := hlook_in (l := l) e
      exact ⟨x, List.mem_cons_of_mem _ hx, rest⟩

def LookOK (P : Program) (base : Nat) (L : Look) : Prop :=
  ∀ (f : FuncId) (args : List Value) (h : Heap) (v : Value) (h' : Heap), L f args h = some (v, h') → h'.dfs = h.dfs ∧ ∀ (σ : Sig) (w : World) (args' : Array Value),
    Rep base (· < h.next) σ h.get w → LRep (· < h.next) σ args args'.toList →
    Calls P f args' w fun e w' => ∃ v' σ', e = .returned v' ∧ Moves base (· < h.next) σ h.get w (· < h'.next) σ' h'.get w' ∧ VRep (· < h'.next) σ' v v'
theorem LookOK.none : LookOK P base noL := fun f args h v h' hr => by cases hr
theorem LookOK.or {a b : Look} (ha : LookOK P base a) (hb : LookOK P base b) : LookOK P base (orL a b) := fun f args h v h' hr => by
  unfold orL at hr
  cases hx : a f args h with
  | some r => rw [hx] at hr; simp only [Option.some.injEq] at hr; subst hr; exact ha f args h v h' hx
  | none => rw [hx] at hr; exact hb f args h v h' hr
theorem LookOK.tab {tab : Tab} (htab : TabOK P base tab) : LookOK P base (tabL tab) := fun f args h v h' hr => by
  unfold tabL at hr
  cases hl : tlook tab f args with
  | none => rw [hl] at hr; cases hr
  | some u =>
    rw [hl] at hr
    simp only [Option.some.injEq, Prod.mk.injEq] at hr
    obtain ⟨rfl, rfl⟩ := hr
    obtain ⟨l, h1, h2, h3⟩ := tlook_in hl
    exact ⟨rfl, fun σ w args' hrep hargs => htab f l u h1 h3 args h2 h σ w args' hrep hargs⟩
theorem LookOK.ents {ents : List Ent} (hents : EntsOK P base ents) : LookOK P base (hlook ents) := fun f args h v h' hlk => by
  obtain ⟨e, he, rfl, hc, rfl, hml, hin, hres⟩ := hlook_in hlk
  simp only [Prod.mk.injEq] at hres
  obtain ⟨rfl, rfl⟩ := hres
  refine ⟨rfl, fun σ w args' hrep hargs => ?_⟩
  have hn : (mkH e.cnt e.ins).next = h.next := by show NG + e.cnt = NG + h.cnt; rw [hc]
  have hsub : ∀ n o, (mkH e.cnt e.ins).get n = some o → h.get n = some o := mkH_sub hml hin
  have := hents e he σ w args' (by rw [hn]; exact hrep.sub hsub) (by rw [hn]; exact hargs)
  refine this.mono ?_
  rintro x w' ⟨v', σ', rfl, hm, hv⟩
  rw [hn] at hm
  exact ⟨v', σ', rfl, hm.wid hsub, hv⟩

theorem gcall_both (hmix : P.follows .mixedOrders = true) (hne : ExtOK P) (ks : Scr) {L : Look} (hL : LookOK P base L) : ∀ (k : Nat), RecOK P base (gcall P ks L k) ∧ RecD (gcall P ks L k) := by
  intro k
  induction k with
  | zero => exact ⟨⟨hne, fun f args h v h' hr => (by cases hr)⟩, fun f args h v h' hr => (by cases hr)⟩
  | succ k ih =>
    have both : ∀ (f : FuncId) (args : List Value) (h : Heap) (v : Value) (h' : Heap), gcall P ks L (k + 1) f args h = some (v, h') → h'.dfs = h.dfs ∧ ∀ (σ : Sig) (w : World) (args' : Array Value),
        Rep base (· < h.next) σ h.get w → LRep (· < h.next) σ args args'.toList →
        Calls P f args' w fun e w' => ∃ v' σ', e = .returned v' ∧ Moves base (· < h.next) σ h.get w (· < h'.next) σ' h'.get w' ∧ VRep (· < h'.next) σ' v v' := by
      intro f args h v h' hr
      simp only [gcall] at hr
      cases hlk : L f args h with
      | some r =>
        rw [hlk] at hr
        simp only [Option.some.injEq] at hr
        subst hr
        exact hL f args h v h' hlk
      | none =>
        rw [hlk] at hr
        simp only at hr
        rw [← fcallW_eq ks [] k f args h rfl] at hr
        exact step_both hmix ks k ih.1 ih.2 f args h v h' hr
    exact ⟨⟨hne, fun f args h v h' hr => (both f args h v h' hr).2⟩, fun f args h v h' hr => (both f args h v h' hr).1⟩

theorem endsSo_some {v : Value} {cnt : Nat} {outs : Objs} {x : Option (Value × Heap)} (h : endsSo v cnt outs x = true) : ∃ h', x = some (v, h') ∧ h'.cnt = cnt ∧ ∀ n o, (mkH cnt outs).get n = some o → h'.get n = some o := by
  cases x with
  | none => cases h
  | some p =>
    obtain ⟨u, h'⟩ := p
    simp only [endsSo, Bool.and_eq_true] at h
    obtain ⟨⟨⟨h1, h2⟩, h3⟩, h4⟩ := h
    rw [qeq_eq _ _ h1]
    exact ⟨h', rfl, Nat.eq_of_beq_eq_true h2, mkH_sub (Option.isNone_iff_eq_none.1 h3) h4⟩

/-- An entry that was run. -/
theorem EntOK.run (hmix : P.follows .mixedOrders = true) (hne : ExtOK P) (ks : Scr) {L : Look} (hL : LookOK P base L) {k : Nat} {e : Ent}
    (h : endsSo e.v e.cnt' e.outs (gcall P ks L k e.g e.args (mkH e.cnt e.ins)) = true) : EntOK P base e := by
  intro σ w args' hrep hargs
  obtain ⟨h', hrun, hc, hsub⟩ := endsSo_some h
  refine ((gcall_both hmix hne ks hL k).1.2 _ _ _ _ _ hrun σ w args' hrep hargs).mono ?_
  rintro x w' ⟨v', σ', rfl, hm, hv⟩
  have hn : (mkH e.cnt' e.outs).next = h'.next := by show NG + e.cnt' = NG + h'.cnt; rw [hc]
  rw [hn]
  exact ⟨v', σ', rfl, hm.sub hsub, hv⟩

end
end Go.Proofs.YthhhmmildgijhaaGreatDoorAI
set_option linter.unusedVariables false
set_option linter.unusedSimpArgs false
namespace Go.Proofs.YthhhmmildgijhaaGreatDoorAI
open Go
noncomputable section

/-! ### Other names -/
def sh (d n : Nat) : Nat := bif Nat.blt n NG then n else n + d
mutual
def shV (d : Nat) : Value → Value
  | .pointer (some ⟨n, o, s⟩) => .pointer (some ⟨sh d n, o, s⟩)
  | .slice (some ⟨n, o, s⟩) l c => .slice (some ⟨sh d n, o, s⟩) l c
  | .map (some n) => .map (some (sh d n))
  | .func f a b => .func f (shA d a) (shA d b)
  | .iface t v => .iface t (shV d v)
  | .agg a => .agg (shA d a)
  | .tuple a => .tuple (shA d a)
  | v => v
  termination_by structural x => x
def shA (d : Nat) : Array Value → Array Value
  | ⟨a⟩ => ⟨shL d a⟩
  termination_by structural x => x
def shL (d : Nat) : List Value → List Value
  | [] => []
  | v :: l => shV d v :: shL d l
  termination_by structural x => x
end
def shE (d : Nat) (e : MapEntry) : MapEntry := ⟨shV d e.key, shV d e.val, e.born⟩
def shO (d : Nat) : AObj → AObj
  | .cells c e s g r => .cells (shL d c) e s g r
  | .oth (.map es c) => .oth (.map (es.map (shE d)) c)
  | .oth (.miter (some m) s l n) => .oth (.miter (some (sh d m)) s l n)
  | o => o
theorem shL_length (d : Nat) : ∀ (l : List Value), (shL d l).length = l.length
  | [] => rfl
  | v :: l => by simp [shL, shL_length d l]
theorem shL_get (d : Nat) : ∀ (l : List Value) (i : Nat), (shL d l)[i]? = (l[i]?).map (shV d)
  | [], i => rfl
  | v :: l, 0 => rfl
  | v :: l, i + 1 => by simp only [shL, List.getElem?_cons_succ]; exact shL_get d l i
theorem shV_undef (d : Nat) : shV d undef = undef := rfl
theorem shL_getD (d : Nat) (l : List Value) (i : Nat) : (shL d l).getD i undef = shV d (l.getD i undef) := by
  rw [List.getD_eq_getElem?_getD, List.getD_eq_getElem?_getD, shL_get]
  cases l[i]? <;> rfl
theorem shA_size (d : Nat) (a : Array Value) : (shA d a).size = a.size := by cases a; simp [shA, shL_length]
theorem shA_getD (d : Nat) (a : Array Value) (i : Nat) : (shA d a).getD i undef = shV d (a.getD i undef) := by
  cases a with
  | mk l => rw [arr_getD, arr_getD]; exact shL_getD d l i
theorem shO_own (d : Nat) (o : AObj) : (shO d o).own = o.own := by
  cases o with
  | cells => rfl
  | oth o => cases o with
    | iter => rfl
    | map => rfl
    | miter m s l n => cases m <;> rfl

theorem VRep.shift {D D2 : Nat → Prop} {σ σ2 : Sig} {d : Nat} {v v' : Value} (h : VRep D σ v v') (hσ : ∀ n, D n → D2 (sh d n) ∧ σ2 (sh d n) = σ n) : VRep D2 σ2 (shV d v) v' := by
  induction h with
  | unk v => exact .unk v
  | bool b => exact .bool b
  | int k n => exact .int k n
  | float k b h => exact .float k b h
  | fnan h => exact .fnan h
  | complex k a b => exact .complex k a b
  | string s => exact .string s
  | nilFunc => exact .nilFunc
  | nilIface => exact .nilIface
  | anyI n => exact .anyI n
  | geI h => exact .geI h
  | ltI h => exact .ltI h
  | mapNil => exact .mapNil
  | map hD => rw [← (hσ _ hD).2]; exact .map (hσ _ hD).1
  | ptrNil => exact .ptrNil
  | ptr hD => rw [← (hσ _ hD).2]; exact .ptr (hσ _ hD).1
  | sliceNil => exact .sliceNil
  | slice hD hl ha => exact .slice (hσ _ hD).1 hl (by rw [(hσ _ hD).2]; exact ha)
  | sliceU hD hl ha hc => exact .sliceU (hσ _ hD).1 hl (by rw [(hσ _ hD).2]; exact ha) (by rw [(hσ _ hD).2]; exact hc)
  | func f ha hb h1 h2 ih1 ih2 =>
    refine .func f (by rw [shA_size]; exact ha) (by rw [shA_size]; exact hb) (fun i hi => ?_) (fun i hi => ?_)
    · rw [shA_getD]; rw [shA_size] at hi; exact ih1 i hi
    · rw [shA_getD]; rw [shA_size] at hi; exact ih2 i hi
  | iface t h ih => exact .iface t ih
  | agg ha h ih => exact .agg (by rw [shA_size]; exact ha) fun i hi => by rw [shA_getD]; rw [shA_size] at hi; exact ih i hi
  | tuple ha h ih => exact .tuple (by rw [shA_size]; exact ha) fun i hi => by rw [shA_getD]; rw [shA_size] at hi; exact ih i hi

section
variable {D D2 : Nat → Prop} {σ σ2 : Sig} {d : Nat}
theorem LRep.shift {a b : List Value} (h : LRep D σ a b) (hσ : ∀ n, D n → D2 (sh d n) ∧ σ2 (sh d n) = σ n) : LRep D2 σ2 (shL d a) b :=
  ⟨by rw [shL_length]; exact h.len, fun i hi => by rw [shL_getD]; rw [shL_length] at hi; exact (h.at_ i hi).shift hσ⟩
theorem ERep.shift {e e' : MapEntry} (h : ERep D σ e e') (hσ : ∀ n, D n → D2 (sh d n) ∧ σ2 (sh d n) = σ n) : ERep D2 σ2 (shE d e) e' := ⟨h.key.shift hσ, h.val.shift hσ, h.born⟩
theorem ORep.shift {o y : AOth} {o' : Obj} (h : ORep D σ o o') (hσ : ∀ n, D n → D2 (sh d n) ∧ σ2 (sh d n) = σ n) (he : shO d (.oth o) = .oth y) : ORep D2 σ2 y o' := by
  cases h with
  | iter s pos => cases he; exact .iter s pos
  | map clock hl h =>
    simp only [shO, AObj.oth.injEq] at he
    subst he
    refine .map clock (by simpa using hl) fun i e e' h1 h2 => ?_
    rw [List.getElem?_map] at h1
    simp only [Option.map_eq_some_iff] at h1
    obtain ⟨e0, h0, rfl⟩ := h1
    exact (h i e0 e' h0 h2).shift hσ
  | miterNil a b c => cases he; exact .miterNil a b c
  | @miter m hm a b c =>
    simp only [shO, AObj.oth.injEq] at he
    subst he
    rw [← (hσ m hm).2]
    exact .miter (hσ m hm).1 a b c
end

/-! ### Entries -/
structure Fre where
  g : FuncId
  args : List Value
  v : Value
  cnt' : Nat
  outs : Objs

def mkAt (d : Nat) (m : T AObj) : Objs → T AObj
  | [] => m
  | (n, o) :: l => T.set (n + d + 1) (mkAt d m l) (n + d) (some (shO d o))
def freeB (m : T AObj) : Nat → Nat → Bool
  | 0, _ => true
  | k + 1, n => match m.get n with
    | none => freeB m k (n + 1)
    | some _ => false
def inRange (cnt : Nat) : Objs → Bool
  | [] => true
  | (n, _) :: l => Nat.ble NG n && Nat.blt n (NG + cnt) && inRange cnt l
def mrg (h : Heap) (cnt : Nat) (outs : Objs) : Heap := ⟨mkAt h.cnt h.m outs, h.cnt + cnt, h.dfs, h.ml⟩
def flook : List Fre → Look
  | [], _, _, _ => none
  | ⟨g, as, v, c, outs⟩ :: l, f, args, h => bif Nat.beq f g && h.ml.isNone && qeqL args as && args.all plain && inRange c outs && freeB h.m c h.next then some (shV h.cnt v, mrg h c outs) else flook l f args h

theorem freeB_get {m : T AObj} : ∀ {k n : Nat}, freeB m k n = true → ∀ x, n ≤ x → x < n + k → m.get x = none
  | 0, n, _, x, h1, h2 => by omega
  | k + 1, n, h, x, h1, h2 => by
    simp only [freeB] at h
    cases hg : m.get n with
    | some o => rw [hg] at h; cases h
    | none =>
      rw [hg] at h
      by_cases e : x = n
      · subst e; exact hg
      · exact freeB_get h x (by omega) (by omega)
theorem inRange_mem {cnt : Nat} : ∀ {l : Objs}, inRange cnt l = true → ∀ n o, (n, o) ∈ l → NG ≤ n ∧ n < NG + cnt
  | [], _, n, o, hm => by cases hm
  | (m, p) :: l, h, n, o, hm => by
    simp only [inRange, Bool.and_eq_true] at h
    rcases List.mem_cons.1 hm with e | hm
    · simp only [Prod.mk.injEq] at e
      obtain ⟨rfl, rfl⟩ := e
      exact ⟨ble_le h.1.1, blt_lt h.1.2⟩
    · exact inRange_mem h.2 n o hm
theorem mkAt_get {d : Nat} {m : T AObj} : ∀ {l : Objs} {x : Nat} {o : AObj}, (mkAt d m l).get x = some o → m.get x = some o ∨ ∃ n o0, x = n + d ∧ (mkT l).get n = some o0 ∧ o = shO d o0
  | [], x, o, h => .inl h
  | (k, p) :: l, x, o, h => by
    simp only [mkAt] at h
    rw [T.get_set _ _ _ _ _ (Nat.lt_succ_self (k + d))] at h
    by_cases e : x = k + d
    · subst e
      simp only [if_true, Option.some.injEq] at h
      subst h
      refine .inr ⟨k, p, rfl, ?_, rfl⟩
      simp only [mkT]
      rw [T.get_set _ _ _ _ _ (Nat.lt_succ_self k), if_pos rfl]
    · simp only [e, if_false] at h
      rcases mkAt_get h with h1 | ⟨n, o0, rfl, h2, h3⟩
      · exact .inl h1
      · refine .inr ⟨n, o0, rfl, ?_, h3⟩
        simp only [mkT]
        rw [T.get_set _ _ _ _ _ (Nat.lt_succ_self k), if_neg (by omega)]
        exact h2

theorem mrg_get {h : Heap} {cnt : Nat} {outs : Objs} (hr : inRange cnt outs = true) (hf : freeB h.m cnt h.next = true) {x : Nat} {o : AObj} (hg : (mrg h cnt outs).get x = some o) :
    (x < h.next ∧ h.get x = some o) ∨ (∃ n o0, NG ≤ n ∧ n < NG + cnt ∧ x = n + h.cnt ∧ (mkH cnt outs).get n = some o0 ∧ o = shO h.cnt o0) := by
  have hN := h.NG_le
  have hnx : (mrg h cnt outs).next = h.next + cnt := by show NG + (h.cnt + cnt) = NG + h.cnt + cnt; omega
  unfold Heap.get at hg
  cases hb : Nat.blt x NG with
  | true =>
    rw [hb] at hg
    refine .inl ⟨Nat.lt_of_lt_of_le (blt_lt hb) hN, ?_⟩
    rw [gobj_lt (blt_lt hb)]
    exact hg
  | false =>
    rw [hb] at hg
    simp only [cond_false] at hg
    cases hb2 : Nat.blt x (mrg h cnt outs).next with
    | false => rw [hb2] at hg; cases hg
    | true =>
      rw [hb2] at hg
      simp only [cond_true] at hg
      have hlt := blt_lt hb2
      rw [hnx] at hlt
      rcases mkAt_get hg with h1 | ⟨n, o0, rfl, h2, rfl⟩
      · rcases Nat.lt_or_ge x h.next with h3 | h3
        · refine .inl ⟨h3, ?_⟩
          unfold Heap.get
          rw [hb, blt_t h3]
          exact h1
        · rw [freeB_get hf x h3 hlt] at h1; cases h1
      · obtain ⟨h3, h4⟩ := inRange_mem hr n o0 (mkT_mem h2)
        refine .inr ⟨n, o0, h3, h4, rfl, ?_, rfl⟩
        unfold Heap.get
        rw [blt_f h3, blt_t (show n < (mkH cnt outs).next from h4)]
        exact h2
end

section
variable {P : Program} {base : Nat}

/-- From no memory of its own to what is told: beside what was there. -/
theorem Moves.fresh {h : Heap} {cnt : Nat} {outs : Objs} {σ σ1 : Sig} {w w' : World} (hr : Rep base (· < h.next) σ h.get w)
    (hm : Moves base (· < NG) σ Heap.empty.get w (· < (mkH cnt outs).next) σ1 (mkH cnt outs).get w') (hin : inRange cnt outs = true) (hf : freeB h.m cnt h.next = true) :
    Moves base (· < h.next) σ h.get w (· < (mrg h cnt outs).next) (fun x => if x < h.next then σ x else σ1 (x - h.cnt)) (mrg h cnt outs).get w' ∧
      ∀ n, n < (mkH cnt outs).next → sh h.cnt n < (mrg h cnt outs).next ∧ (if sh h.cnt n < h.next then σ (sh h.cnt n) else σ1 (sh h.cnt n - h.cnt)) = σ1 n := by
  have hN := h.NG_le
  have hnx : (mrg h cnt outs).next = h.next + cnt := by show NG + (h.cnt + cnt) = NG + h.cnt + cnt; omega
  have hnB : (mkH cnt outs).next = NG + cnt := rfl
  have hnh : h.next = NG + h.cnt := rfl
  have hσ : ∀ n, n < (mkH cnt outs).next → sh h.cnt n < (mrg h cnt outs).next ∧ (if sh h.cnt n < h.next then σ (sh h.cnt n) else σ1 (sh h.cnt n - h.cnt)) = σ1 n := by
    intro n hn
    unfold sh
    rcases Nat.lt_or_ge n NG with h1 | h1
    · rw [blt_t h1]
      simp only [cond_true]
      rw [if_pos (by omega)]
      exact ⟨by omega, (hm.ext n h1).symm⟩
    · rw [blt_f h1]
      simp only [cond_false]
      rw [if_neg (by omega)]
      exact ⟨by omega, by rw [Nat.add_sub_cancel]⟩
  have hno : ∀ b, ¬ Owned Heap.empty.get σ b := fun b ⟨n, ⟨o, hg, ho⟩, _⟩ => by
    have h1 : n < NG := Heap.get_lt hg
    have h2 := Heap.own_ge hg ho
    omega
  have hk : ∀ b, b < w.heap.size → w'.heap[b]? = w.heap[b]? := fun b hb => hm.frame b hb (hno b)
  have hown : ∀ b, Owned (mkH cnt outs).get σ1 b → w.heap.size ≤ b := fun b hb => (hm.own b hb).resolve_left (hno b)
  have hs1 : ∀ x, x < h.next → (if x < h.next then σ x else σ1 (x - h.cnt)) = σ x := fun x hx => if_pos hx
  have hs2 : ∀ n, NG ≤ n → (if n + h.cnt < h.next then σ (n + h.cnt) else σ1 (n + h.cnt - h.cnt)) = σ1 n := fun n hn => by rw [if_neg (by omega), Nat.add_sub_cancel]
  have nonro : ∀ x, NonRo (mrg h cnt outs).get x → (x < h.next ∧ NonRo h.get x) ∨ ∃ n, NG ≤ n ∧ x = n + h.cnt ∧ NonRo (mkH cnt outs).get n := by
    rintro x ⟨o, hg, ho⟩
    rcases mrg_get hin hf hg with ⟨h1, h2⟩ | ⟨n, o0, h1, _, rfl, h3, rfl⟩
    · exact .inl ⟨h1, o, h2, ho⟩
    · exact .inr ⟨n, h1, rfl, o0, h3, by rw [shO_own] at ho; exact ho⟩
  refine ⟨⟨fun n hn => by rw [hnx]; omega, fun n hn => if_pos hn, ⟨?_, ?_, ?_, ?_, ?_, ?_, Nat.le_trans hr.size hm.size⟩, hm.os, hm.tape, hm.output, hm.size, fun b hb _ => hk b hb, ?_⟩, hσ⟩
  · exact hr.gl.mono (fun n hn => by rw [hnx]; omega) (fun n hn => if_pos hn) fun b hb => hk b (Nat.lt_of_lt_of_le hb hr.size)
  · intro x c e s gr ro hg
    rcases mrg_get hin hf hg with ⟨h1, h2⟩ | ⟨n, o0, h1, h1', rfl, h3, h4⟩
    · obtain ⟨_, C, t, fr, r⟩ := hr.obj x c e s gr ro h2
      have hlt : (σ x).blk < w.heap.size := (Array.getElem?_eq_some_iff.1 r.heap).1
      refine ⟨by rw [hnx]; omega, C, t, fr, ?_⟩
      have es := hs1 x h1
      exact ⟨by rw [es, hk _ hlt]; exact r.heap, by rw [es]; exact r.fit, by rw [es]; exact r.rel.mono (fun n hn => by rw [hnx]; omega) (fun n hn => if_pos hn), r.mine, by rw [es]; exact r.grow, by rw [es]; exact r.exact⟩
    · cases o0 with
      | oth o => exfalso; cases o with
        | iter => cases h4
        | map => cases h4
        | miter m _ _ _ => cases m <;> cases h4
      | cells c0 e0 s0 gr0 ro0 =>
        simp only [shO, AObj.cells.injEq] at h4
        obtain ⟨rfl, rfl, rfl, rfl, rfl⟩ := h4
        obtain ⟨_, C, t, fr, r⟩ := hm.rep.obj n c0 _ _ _ _ h3
        refine ⟨by rw [hnx]; omega, C, t, fr, ?_⟩
        have es := hs2 n h1
        exact ⟨by rw [es]; exact r.heap, by rw [es, shL_length]; exact r.fit, by rw [es, shL_length]; exact r.rel.shift hσ, r.mine, by rw [es]; exact r.grow, by rw [es, shL_length]; exact r.exact⟩
  · intro x o hg
    rcases mrg_get hin hf hg with ⟨h1, h2⟩ | ⟨n, o0, h1, h1', rfl, h3, h4⟩
    · obtain ⟨_, h0, o', ho', hrep⟩ := hr.oth x o h2
      rw [hs1 x h1]
      exact ⟨by rw [hnx]; omega, h0, o', by rw [hk _ (Array.getElem?_eq_some_iff.1 ho').1]; exact ho', hrep.mono (fun n hn => by rw [hnx]; omega) (fun n hn => if_pos hn)⟩
    · cases o0 with
      | cells => cases h4
      | oth o0 =>
        obtain ⟨_, h0, o', ho', hrep⟩ := hm.rep.oth n o0 h3
        rw [hs2 n h1]
        exact ⟨by rw [hnx]; omega, h0, o', ho', hrep.shift hσ h4.symm⟩
  · intro x hx
    rcases nonro x hx with ⟨h1, h2⟩ | ⟨n, h1, rfl, h2⟩
    · rw [hs1 x h1]; exact hr.own x h2
    · rw [hs2 n h1]; exact hm.rep.own n h2
  · rintro x ⟨o, hg, ho⟩
    rcases mrg_get hin hf hg with ⟨h1, h2⟩ | ⟨n, o0, h1, _, rfl, h3, rfl⟩
    · rw [hs1 x h1]; exact hr.old x ⟨o, h2, ho⟩
    · rw [hs2 n h1]; exact hm.rep.old n ⟨o0, h3, by rw [shO_own] at ho; exact ho⟩
  · intro x y hx hy hne
    rcases nonro x hx with ⟨h1, h2⟩ | ⟨n, h1, rfl, h2⟩
    · rcases nonro y hy with ⟨h3, h4⟩ | ⟨m, h3, rfl, h4⟩
      · rw [hs1 x h1, hs1 y h3]; exact hr.inj x y h2 h4 hne
      · rw [hs1 x h1, hs2 m h3]
        have a1 := hr.nonro_lt h2
        have a2 := hown _ ⟨m, h4, rfl⟩
        omega
    · rcases nonro y hy with ⟨h3, h4⟩ | ⟨m, h3, rfl, h4⟩
      · rw [hs2 n h1, hs1 y h3]
        have a1 := hr.nonro_lt h4
        have a2 := hown _ ⟨n, h2, rfl⟩
        omega
      · rw [hs2 n h1, hs2 m h3]; exact hm.rep.inj n m h2 h4 (fun e => hne (by rw [e]))
  · rintro b ⟨x, hx, rfl⟩
    rcases nonro x hx with ⟨h1, h2⟩ | ⟨n, h1, rfl, h2⟩
    · exact .inl ⟨x, h2, (congrArg Pl.blk (hs1 x h1)).symm⟩
    · refine .inr (hown _ ⟨n, h2, (congrArg Pl.blk (hs2 n h1)).symm⟩)

/-- What an entry tells is so. -/
def FreOK (P : Program) (base : Nat) (e : Fre) : Prop :=
  ∀ (σ : Sig) (w : World) (args' : Array Value), Rep base (· < NG) σ Heap.empty.get w → LRep (· < NG) σ e.args args'.toList →
    Calls P e.g args' w fun x w' => ∃ v' σ', x = .returned v' ∧ Moves base (· < NG) σ Heap.empty.get w (· < (mkH e.cnt' e.outs).next) σ' (mkH e.cnt' e.outs).get w' ∧ VRep (· < (mkH e.cnt' e.outs).next) σ' e.v v'
def FresOK (P : Program) (base : Nat) (l : List Fre) : Prop := ∀ e ∈ l, FreOK P base e
theorem FresOK.nil : FresOK P base [] := fun e h => by cases h
theorem FresOK.cons {e : Fre} {l : List Fre} (he : FreOK P base e) (h : FresOK P base l) : FresOK P base (e :: l) := fun x hx => by
  rcases List.mem_cons.1 hx with rfl | hx
  · exact he
  · exact h x hx

theorem flook_in : ∀ {l : List Fre} {f : FuncId} {args : List Value} {h : Heap} {r : Value × Heap}, flook l f args h = some r →
    ∃ e ∈ l, e.g = f ∧ h.ml = none ∧ args = e.args ∧ args.all plain = true ∧ inRange e.cnt' e.outs = true ∧ freeB h.m e.cnt' h.next = true ∧ r = (shV h.cnt e.v, mrg h e.cnt' e.outs)
  | [], f, args, h, r, e => by cases e
  | ⟨g, as, v, c, outs⟩ :: l, f, args, h, r, e => by
    simp only [flook] at e
    cases hb : Nat.beq f g && h.ml.isNone && qeqL args as && args.all plain && inRange c outs && freeB h.m c h.next with
    | true =>
      rw [hb] at e
      simp only [cond_true, Option.some.injEq] at e
      simp only [Bool.and_eq_true] at hb
      obtain ⟨⟨⟨⟨⟨h1, h2⟩, h3⟩, h4⟩, h5⟩, h6⟩ := hb
      exact ⟨_, List.mem_cons_self .., (Nat.eq_of_beq_eq_true h1).symm, Option.isNone_iff_eq_none.1 h2, qeqL_eq _ _ h3, h4, h5, h6, e.symm⟩
    | false =>
      rw [hb] at e
      obtain ⟨x, hx, rest⟩ := flook_in (l := l) e
      exact ⟨x, List.mem_cons_of_mem _ hx, rest⟩

theorem LookOK.fres {l : List Fre} (hl : FresOK P base l) : LookOK P base (flook l) := fun f args h v h' hlk => by
  obtain ⟨e, he, rfl, hml, rfl, hp, hin, hf, hres⟩ := flook_in hlk
  simp only [Prod.mk.injEq] at hres
  obtain ⟨rfl, rfl⟩ := hres
  refine ⟨rfl, fun σ w args' hrep hargs => ?_⟩
  refine (hl e he σ w args' (Rep.empty hrep) (LRep.plain hp hargs)).mono ?_
  rintro x w' ⟨v', σ1, rfl, hm, hv⟩
  obtain ⟨h1, h2⟩ := Moves.fresh hrep hm hin hf
  exact ⟨v', _, rfl, h1, hv.shift h2⟩

theorem FreOK.run (hmix : P.follows .mixedOrders = true) (hne : ExtOK P) (ks : Scr) {L : Look} (hL : LookOK P base L) {k : Nat} {e : Fre}
    (h : endsSo e.v e.cnt' e.outs (gcall P ks L k e.g e.args .empty) = true) : FreOK P base e := by
  intro σ w args' hrep hargs
  obtain ⟨h', hrun, hc, hsub⟩ := endsSo_some h
  refine ((gcall_both hmix hne ks hL k).1.2 _ _ _ _ _ hrun σ w args' hrep hargs).mono ?_
  rintro x w' ⟨v', σ', rfl, hm, hv⟩
  have hn : (mkH e.cnt' e.outs).next = h'.next := by show NG + e.cnt' = NG + h'.cnt; rw [hc]
  rw [hn]
  exact ⟨v', σ', rfl, hm.sub hsub, hv⟩

end
end Go.Proofs.YthhhmmildgijhaaGreatDoorAI
set_option linter.unusedVariables false
set_option linter.unusedSimpArgs false
namespace Go.Proofs.YthhhmmildgijhaaGreatDoorAI
open Go

noncomputable section
/-- Where a walk over a map may go on: each way's answer and memory. -/
def nextWays (x : Value) (h : Heap) : Option (List (Value × Heap)) :=
  match x with
  | .pointer (some ⟨r, 0, none⟩) =>
    match h.get r with
    | some (.oth (.miter (some m) since seen last)) =>
      match h.get m with
      | some (.oth (.map es clock)) =>
        bif !seen.isEmpty && !es.isEmpty && es.all (fun e => Nat.ble last e.born) then none else
        bif (es.filter (fun e => !seen.contains e.born)).isEmpty then none else
        bif es.all (fun e => Nat.blt e.born since) then
          some ((es.filter (fun e => !seen.contains e.born)).map fun e => (.tuple #[.bool true, e.key, e.val], h.put r (some (.oth (.miter (some m) since (seen ++ [e.born]) clock))))) else none
      | _ => none
    | _ => none
  | _ => none
end

section
variable {P : Program} {base : Nat} {D : Nat → Prop} {σ : Sig} {g : Nat → Option AObj} {w : World}

theorem run_pickNext (P : Program) (n : Nat) (hn : 0 < n) (w : World) : ∃ k w', k < n ∧ (choose (.mapNext n)).run P w = .ok k w' ∧ (w' = w ∨ w' = w.drew) := by
  rw [run_choose_drew]
  by_cases h : Question.forced (.mapNext n) = true
  · rw [if_pos h]; exact ⟨0, w, hn, rfl, .inl rfl⟩
  · rw [if_neg h]
    refine ⟨_, _, ?_, rfl, .inr rfl⟩
    simp only [Question.cut]
    exact Nat.mod_lt _ hn

theorem nextWays_sound {h : Heap} (hr : Rep base (· < h.next) σ h.get w) {x x' : Value} {ways : List (Value × Heap)} {ty : TypeId} (ha : nextWays x h = some ways) (hx : VRep (· < h.next) σ x x') :
    ∃ p ∈ ways, ∃ v' w', (Instr.next x' false ty).run P w = .ok v' w' ∧ Moves base (· < h.next) σ h.get w (· < p.2.next) σ p.2.get w' ∧ VRep (· < p.2.next) σ p.1 v' ∧ p.2.dfs = h.dfs := by
  unfold nextWays at ha
  split at ha
  · rename_i r
    obtain ⟨hD, rfl⟩ := hx.inv_ptr
    rw [Nat.add_zero]
    split at ha
    · rename_i m since seen last hg
      obtain ⟨_, h0, o0, hb, hrep⟩ := hr.oth r _ hg
      cases hrep with
      | miter hDm =>
        split at ha
        · rename_i es clock hgm
          obtain ⟨_, _, o1, hb1, hrep1⟩ := hr.oth m _ hgm
          cases hrep1 with
          | @map _ es' _ hl he =>
            have hgo := run_getObj_oth (P := P) hb (by intro _ _ _ h; cases h)
            have hgo1 := run_getObj_oth (P := P) hb1 (by intro _ _ _ h; cases h)
            have hl' : es.length = es'.toList.length := by simpa using hl
            have he' : ∀ (j : Nat) (e e' : MapEntry), es[j]? = some e → es'.toList[j]? = some e' → ERep (· < h.next) σ e e' := fun j e e' h1 h2 => he j e e' h1 (by simpa using h2)
            rw [h0]
            cases hbad : (!seen.isEmpty && !es.isEmpty && es.all (fun e => Nat.ble last e.born)) with
            | true => rw [hbad] at ha; cases ha
            | false =>
              rw [hbad] at ha
              simp only [cond_false] at ha
              have hall : (es'.toList.all fun e => decide (e.born ≥ last)) = es.all (fun e => Nat.ble last e.born) := by
                have := all_rep (fun b => Nat.ble last b) es es'.toList hl' he'
                rw [this]
                congr 1
                funext e
                rw [Bool.eq_iff_iff]; simp [Nat.ble_eq]
              have hbad' : (!seen.toArray.isEmpty && !es'.isEmpty && es'.all (fun e => decide (e.born ≥ last))) = false := by
                rw [← hbad, ← hall]
                have : es'.isEmpty = es.isEmpty := by rw [Bool.eq_iff_iff]; simp [← Array.size_eq_zero_iff, ← hl]
                rw [this]
                simp
              obtain ⟨hf1, hf2⟩ := filter_rep (fun b => !seen.contains b) es es'.toList hl' he'
              have hleft : es'.filter (fun e => !seen.toArray.contains e.born) = (es'.toList.filter (fun e => !seen.contains e.born)).toArray := by
                apply Array.ext'
                simp
              cases hemp : (es.filter (fun e => !seen.contains e.born)).isEmpty with
              | true => rw [hemp] at ha; cases ha
              | false =>
                rw [hemp] at ha
                simp only [cond_false] at ha
                cases hold : es.all (fun e => Nat.blt e.born since) with
                | false => rw [hold] at ha; cases ha
                | true =>
                  rw [hold] at ha
                  simp only [cond_true, Option.some.injEq] at ha
                  subst ha
                  generalize hL : es.filter (fun e => !seen.contains e.born) = L at *
                  generalize hL' : es'.toList.filter (fun e => !seen.contains e.born) = L' at *
                  have hlt : ∀ e ∈ L', e.born < since := by
                    have h1 : es'.toList.all (fun e => Nat.blt e.born since) = true := by rw [← all_rep (fun b => Nat.blt b since) es es'.toList hl' he']; exact hold
                    intro e hmem
                    rw [← hL'] at hmem
                    exact blt_lt (List.all_eq_true.1 h1 e (List.mem_filter.1 hmem).1)
                  have hLpos : 0 < L'.length := by
                    rw [← hf1]
                    cases L with
                    | nil => cases hemp
                    | cons a l => simp
                  have hold' : L'.toArray.filter (fun e => decide (e.born < since)) = L'.toArray := by
                    apply Array.ext'
                    simp only [Array.toList_filter, List.filter_eq_self]
                    intro e hmem
                    simpa using hlt e hmem
                  have hnew' : L'.toArray.filter (fun e => decide (e.born ≥ since)) = #[] := by
                    apply Array.ext'
                    simp only [Array.toList_filter, List.filter_eq_nil_iff]
                    intro e hmem
                    have := hlt e hmem
                    simp; omega
                  have hne : L'.toArray.isEmpty = false := by cases L' with | nil => simp at hLpos | cons a l => rfl
                  obtain ⟨k, w1, hk, hch, hw1⟩ := run_pickNext P L'.length hLpos w
                  have hset : ∀ o, (setObj (σ r).blk o).run P w1 = .ok () { w1 with heap := w1.heap.setIfInBounds (σ r).blk o } := fun o => by
                    refine run_setObj_oth (o0 := .mapIter (some (σ m).blk) since seen.toArray last) ?_ (by intro _ _ _ h; cases h)
                    rcases hw1 with rfl | rfl <;> exact hb
                  obtain ⟨e', hke'⟩ : ∃ e', L'[k]? = some e' := ⟨L'[k], List.getElem?_eq_getElem hk⟩
                  obtain ⟨e, hke⟩ : ∃ e, L[k]? = some e := ⟨L[k]'(by omega), List.getElem?_eq_getElem _⟩
                  have hee := hf2 k e e' hke hke'
                  have hm1 : Moves base (· < h.next) σ h.get w (· < h.next) σ h.get w1 := by
                    rcases hw1 with rfl | rfl
                    · exact .refl hr
                    · exact .drew hr
                  refine ⟨(.tuple #[.bool true, e.key, e.val], h.put r (some (.oth (.miter (some m) since (seen ++ [e.born]) clock)))), List.mem_map.2 ⟨e, List.mem_of_getElem? hke, rfl⟩, .tuple #[.bool true, e'.key, e'.val], _, ?_,
                    hm1.trans (put_oth hm1.rep hg (o := .mapIter (some (σ m).blk) since (seen ++ [e.born]).toArray clock) (ORep.miter (D := (· < h.next)) (σ := σ) hDm since (seen ++ [e.born]) clock)), .mkTuple (.cons (.bool _) (.cons hee.key (.cons hee.val .nil))), rfl⟩
                  have hcand : ((L'.toArray.filter (fun e => decide (e.born < since)) ++ L'.toArray.filter (fun e => decide (e.born ≥ since))).map some).size = L'.length := by rw [hold', hnew']; simp
                  have hat : ((L'.toArray.filter (fun e => decide (e.born < since)) ++ L'.toArray.filter (fun e => decide (e.born ≥ since))).map some)[k]? = some (some e') := by
                    rw [hold', hnew']; simp [hke']
                  simp only [Instr.next, Sem.run_bind, hgo, hgo1, Result.andThen_ok, hbad', hleft, Bool.false_eq_true, if_false]
                  have hemp' : (L'.toArray.filter (fun e => decide (e.born < since))).isEmpty = false := by rw [hold']; exact hne
                  simp only [hemp', Bool.false_eq_true, if_false, Array.empty_append, hcand, hch, Result.andThen_ok, hat]
                  simp [hset, hee.born]
        · cases ha
    · cases ha
  · cases ha

/-! ### Where a run stands -/
/-- A frame and a heap of the interpreter's stand for an activation and a world. -/
def At (base : Nat) (h0 : Heap) (σ0 : Sig) (w0 : World) (t : Tm) (h : Heap) (a : Act) (w : World) : Prop :=
  ∃ σ, LRep (· < h.next) σ t a.tmps.toList ∧ DRep (· < h.next) σ h.dfs a.defers ∧ Moves base (· < h0.next) σ0 h0.get w0 (· < h.next) σ h.get w
theorem At.piece {h0 : Heap} {σ0 : Sig} {w0 : World} {X : Step} {n : Nat} {Y : FStep} {c : Code} (hX : StepOK P base X c) (hs : SameStep n X Y) {t t' : Fr} {h h' : Heap} {e : AEx} (hx : Y t h = some (e, t', h'))
    {a : Act} {w : World} (hA : At base h0 σ0 w0 (fabs n t) h a w) : c.wp P (fun ex a' w' => ex = toExit e ∧ At base h0 σ0 w0 (fabs n t') h' a' w') a w := by
  obtain ⟨σ, h1, h2, h3⟩ := hA
  have hx' : X (fabs n t) h = some (absE n (e, t', h')) := by rw [hs t h, hx]; rfl
  refine wp_mono (hX _ _ _ hx' a w σ h1 h2 h3.rep) ?_
  rintro ex a' w' ⟨he, σ', q1, q2, q3⟩
  exact ⟨he, σ', q1, q2, h3.trans q3⟩
theorem At.seq {h0 : Heap} {σ0 : Sig} {w0 : World} {X : Step} {n : Nat} {Y : FStep} {c d : Code} (hX : StepOK P base X c) (hs : SameStep n X Y) {t t' : Fr} {h h' : Heap} (hx : Y t h = some (.normal, t', h'))
    {Q : Exit → Act → World → Prop} {a : Act} {w : World} (hA : At base h0 σ0 w0 (fabs n t) h a w) (hd : ∀ a' w', At base h0 σ0 w0 (fabs n t') h' a' w' → d.wp P Q a' w') : (c.seq d).wp P Q a w := by
  refine wp_seq (wp_mono (At.piece hX hs hx hA) ?_)
  rintro ex a' w' ⟨rfl, hA'⟩
  exact hd a' w' hA'

end

noncomputable section
/-- A function that walks over a map once, whichever way: does each way end as the entry tells? -/
def forkRun (P : Program) (ks : Scr) (rec : Rec) (k : Nat) (e : Ent) (fn : Func) (c0 c1 c2 c3 c4 : Code) (i id : Nat) (ops : Array Oper) (is : List Nat) (o0 : Oper) (x : Operand) (B Z : Code) : Bool :=
  match fexecL P (ks e.g) rec (fsize fn e.args) k 2 c0 (fstart e.args) (mkH e.cnt e.ins) with
  | some (.normal, t1, h1) => match fexecL P (ks e.g) rec (fsize fn e.args) k 2 c1 t1 h1 with
    | some (.normal, t2, h2) => match fexecL P (ks e.g) rec (fsize fn e.args) k 2 c2 t2 h2 with
      | some (.normal, t3, h3) => match fexecL P (ks e.g) rec (fsize fn e.args) k 2 c3 t3 h3 with
        | some (.normal, t4, h4) => match fexecL P (ks e.g) rec (fsize fn e.args) k 2 c4 t4 h4 with
          | some (.normal, t5, h5) => match nextWays (fev (fsize fn e.args) t5 x) h5 with
            | some ways => ways.all fun p => match aops P rec ops is (tput (fabs (fsize fn e.args) t5) o0.dst p.1) p.2 with
              | some (t6, h6) => Nat.beq t6.length (fsize fn e.args) && match fexecL P (ks e.g) rec (fsize fn e.args) k 2 B (fstart t6) h6 with
                | some (.normal, t7, h7) => match fexecL P (ks e.g) rec (fsize fn e.args) k 2 (.loop (.seq (.region id ops false) B)) t7 h7 with
                  | some (.exit j, t8, h8) => Nat.beq j i && match fexecL P (ks e.g) rec (fsize fn e.args) k 2 Z t8 h8 with
                    | some (.ret, t9, h9) => h9.dfs.isEmpty && endsSo e.v e.cnt' e.outs ((fresults P (fsize fn e.args) fn t9 h9).map fun v => (v, h9))
                    | _ => false
                  | _ => false
                | _ => false
              | none => false
            | none => false
          | _ => false
        | _ => false
      | _ => false
    | _ => false
  | _ => false
end

section
variable {P : Program} {base : Nat}
theorem fabs_start (l : List Value) : fabs l.length (fstart l) = l := by
  have := fstart_eq { (default : Func) with ntmps := 0 } l
  have e1 : fsize { (default : Func) with ntmps := 0 } l = l.length := by unfold fsize; simp
  have e2 : atmps { (default : Func) with ntmps := 0 } l = l := by unfold atmps; simp
  rw [e1, e2] at this
  exact this

theorem fork_sound (hmix : P.follows .mixedOrders = true) (ks : Scr) {rec : Rec} (hrec : RecOK P base rec) (hrd : RecD rec) {k : Nat} {e : Ent} {fn : Func} {c0 c1 c2 c3 c4 B Z : Code} {i id : Nat} {ops : Array Oper} {is : List Nat} {o0 : Oper} {x : Operand}
    (hf : P.funcs[e.g]? = some fn) (hb : fn.body = some (c0.seq (c1.seq (c2.seq (c3.seq ((c4.seq (.block i (.loop (.seq (.region id ops false) B)))).seq Z))))))
    (h0 : ops[0]? = some o0) (hop : o0.op = .next x false) (hg : o0.guard = none) (his : List.range ops.size = 0 :: is)
    (hrun : forkRun P ks rec k e fn c0 c1 c2 c3 c4 i id ops is o0 x B Z = true) : EntOK P base e := by
  intro σ w args' hrep hargs
  have hX : ∀ c, StepOK P base (aexecL P (ks e.g) rec k 2 c) c := aexecL_sound hmix hrec hrd (ks e.g) k 2
  have hS : ∀ c, SameStep (fsize fn e.args) (aexecL P (ks e.g) rec k 2 c) (fexecL P (ks e.g) rec (fsize fn e.args) k 2 c) := fexecL_eq (fsize fn e.args) (ks e.g) k 2
  unfold forkRun at hrun
  split at hrun
  case h_2 => cases hrun
  rename_i t1 h1 x0
  split at hrun
  case h_2 => cases hrun
  rename_i t2 h2 x1
  split at hrun
  case h_2 => cases hrun
  rename_i t3 h3 x2
  split at hrun
  case h_2 => cases hrun
  rename_i t4 h4 x3
  split at hrun
  case h_2 => cases hrun
  rename_i t5 h5 x4
  split at hrun
  case h_2 => cases hrun
  rename_i ways hways
  have hA0 : At base (mkH e.cnt e.ins) σ w (fabs (fsize fn e.args) (fstart e.args)) (mkH e.cnt e.ins) { tmps := args' ++ Array.replicate (fn.ntmps - args'.size) undef, defers := [] } w := by
    rw [fstart_eq]
    exact ⟨σ, atmps_rep fn hargs, .nil, .refl hrep⟩
  refine calls_of_wp hf hb ?_
  refine At.seq (hX c0) (hS c0) x0 hA0 fun a1 w1 hA1 => ?_
  refine At.seq (hX c1) (hS c1) x1 hA1 fun a2 w2 hA2 => ?_
  refine At.seq (hX c2) (hS c2) x2 hA2 fun a3 w3 hA3 => ?_
  refine At.seq (hX c3) (hS c3) x3 hA3 fun a4 w4 hA4 => ?_
  refine wp_seq ?_
  refine At.seq (hX c4) (hS c4) x4 hA4 fun a5 w5 hA5 => ?_
  refine wp_block ?_
  refine wp_loop_rounds (k + 1) ?_
  rw [rounds_succ]
  refine wp_seq (wp_region ?_)
  rw [his]
  unfold wpOps
  rw [h0]
  simp only
  obtain ⟨σ5, hT5, hD5, hm5⟩ := hA5
  have hev := eval_rep hT5 hm5.rep.gl.names
  have hw : Region.wanted o0 (yielded ops a5.tmps) = true := by simp [Region.wanted, hg]
  rw [hw]
  simp only [if_true]
  have hxv : VRep (· < h5.next) σ5 (fev (fsize fn e.args) t5 x) (a5.eval x) := by rw [fev_eq]; exact hev x
  obtain ⟨p, hp, v', w6, hnext, hm6, hv6, hdf⟩ := nextWays_sound (P := P) (ty := o0.type) hm5.rep hways hxv
  have hpr := List.all_eq_true.1 hrun p hp
  split at hpr
  case h_2 => cases hpr
  rename_i t6 h6 x5
  simp only [Bool.and_eq_true] at hpr
  obtain ⟨hlen, hpr⟩ := hpr
  have hlen := Nat.eq_of_beq_eq_true hlen
  split at hpr
  case h_2 => cases hpr
  rename_i t7 h7 x6
  split at hpr
  case h_2 => cases hpr
  rename_i j t8 h8 x7
  simp only [Bool.and_eq_true] at hpr
  obtain ⟨hj, hpr⟩ := hpr
  obtain rfl := Nat.eq_of_beq_eq_true hj
  split at hpr
  case h_2 => cases hpr
  rename_i t9 h9 x8
  simp only [Bool.and_eq_true] at hpr
  obtain ⟨hd9, hend⟩ := hpr
  have hop0 : (execOp a5.eval o0).run P w5 = .ok (.value v') w6 := by simp [execOp, hop, hnext]
  refine .inl ?_
  unfold Oper.wp
  rw [hop0]
  simp only [Oper.upon]
  refine aops_sound hrec hrd is _ _ _ _ x5 (a5.put o0.dst v') w6 σ5 _ (put_rep (hT5.mono (fun n hn => hm6.mono n hn) (fun _ _ => rfl)) o0.dst hv6) (by rw [put_defers', hdf]; exact hD5.mono (fun n hn => hm6.mono n hn) (fun _ _ => rfl)) hm6.rep ?_
  intro a6 w7 σ6 hT6 hD6 hm7
  have hA6 : At base (mkH e.cnt e.ins) σ w (fabs (fsize fn e.args) (fstart t6)) h6 a6 w7 := by
    rw [← hlen, fabs_start]
    exact ⟨σ6, hT6, hD6, (hm5.trans hm6).trans hm7⟩
  refine wp_mono (At.piece (hX B) (hS B) x6 hA6) ?_
  rintro ex a7 w8 ⟨rfl, σ7, hT7, hD7, hm8⟩
  have hlp : aloop (ks e.g (firstRegion (.seq (.region id ops false) B))) k (aexecL P (ks e.g) rec k 2 (.seq (.region id ops false) B)) (fabs (fsize fn e.args) t7) h7 = some (.exit j, fabs (fsize fn e.args) t8, h8) := by
    have := hS (.loop (.seq (.region id ops false) B)) t7 h7
    rw [x7] at this
    exact this
  refine aloop_sound (hX _) k _ _ _ hlp a7 w8 σ7 hT7 hD7 hm8.rep _ ?_
  rintro ex a8 w9 ⟨rfl, σ8, hT8, hD8, hm9⟩
  simp only [toExit, Exit.inBlock, if_true, Exit.then]
  have hA8 : At base (mkH e.cnt e.ins) σ w (fabs (fsize fn e.args) t8) h8 a8 w9 := ⟨σ8, hT8, hD8, hm8.trans hm9⟩
  refine wp_mono (At.piece (hX Z) (hS Z) x8 hA8) ?_
  rintro ex a9 w10 ⟨rfl, σ9, hT9, hD9, hm10⟩
  obtain ⟨hh, hre, hc, hsub⟩ := endsSo_some hend
  cases hres : fresults P (fsize fn e.args) fn t9 h9 with
  | none => rw [hres] at hre; cases hre
  | some u =>
    rw [hres] at hre
    simp only [Option.map_some, Option.some.injEq, Prod.mk.injEq] at hre
    obtain ⟨rfl, rfl⟩ := hre
    rw [← fresults_eq] at hres
    obtain ⟨u', hru, hu⟩ := aresults_sound (P := P) hres hT9 hm10.rep
    have hn : (mkH e.cnt' e.outs).next = h9.next := by show NG + e.cnt' = NG + h9.cnt; rw [hc]
    have hdd : h9.dfs = [] := List.isEmpty_iff.1 hd9
    rw [hdd] at hD9
    refine ⟨hD9.nil_inv, u', hru, u', σ9, rfl, ?_, ?_⟩
    · rw [hn]; exact hm10.sub hsub
    · rw [hn]; exact hu

end
end Go.Proofs.YthhhmmildgijhaaGreatDoorAI
