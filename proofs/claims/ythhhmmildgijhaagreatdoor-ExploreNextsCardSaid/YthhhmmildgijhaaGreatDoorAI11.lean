/- The interpreter is sound: what it answers, every run of the model answers. -/
import Derived.Test.YthhhmmildgijhaaGreatDoorAI10
import Derived.Recover
set_option linter.unusedVariables false
set_option linter.unusedSimpArgs false
namespace Go.Proofs.YthhhmmildgijhaaGreatDoorAI
open Go

section
variable {P : Program} {base : Nat} {rec : Rec}

def toExit : AEx → Exit
  | .normal => .normal
  | .exit i => .exit i
  | .ret => .ret
  | .goto l => .goto l

/-- What code leaves. -/
def Lvs (base : Nat) (h : Heap) (σ : Sig) (w : World) (r : AEx × Tm × Heap) : Exit → Act → World → Prop := fun e a' w' =>
  e = toExit r.1 ∧ ∃ σ', LRep (· < r.2.2.next) σ' r.2.1 a'.tmps.toList ∧ DRep (· < r.2.2.next) σ' r.2.2.dfs a'.defers ∧ Moves base (· < h.next) σ h.get w (· < r.2.2.next) σ' r.2.2.get w'
theorem Lvs.trans {h h1 : Heap} {σ σ1 : Sig} {w w1 : World} {r : AEx × Tm × Heap} {e : Exit} {a' : Act} {w' : World} (hm : Moves base (· < h.next) σ h.get w (· < h1.next) σ1 h1.get w1) (hl : Lvs base h1 σ1 w1 r e a' w') : Lvs base h σ w r e a' w' := by
  obtain ⟨he, σ', q1, q2, q3⟩ := hl
  exact ⟨he, σ', q1, q2, hm.trans q3⟩
/-- A step of the interpreter's stands for code. -/
def StepOK (P : Program) (base : Nat) (f : Step) (c : Code) : Prop :=
  ∀ (t : Tm) (h : Heap) (r : AEx × Tm × Heap), f t h = some r → ∀ (a : Act) (w : World) (σ : Sig), LRep (· < h.next) σ t a.tmps.toList → DRep (· < h.next) σ h.dfs a.defers → Rep base (· < h.next) σ h.get w → c.wp P (Lvs base h σ w r) a w

theorem forget_rep {D : Nat → Prop} {σ : Sig} : ∀ (ks : List Nat) {t l : List Value}, LRep D σ t l → LRep D σ (forget ks t) l := by
  intro ks
  induction ks with
  | nil => intro t l h; exact h
  | cons i is ih =>
    intro t l h
    refine ih ⟨by simpa using h.len, fun j hj => ?_⟩
    by_cases e : i = j
    · subst e
      have hj' : i < t.length := by simpa using hj
      have : (t.set i unk).getD i undef = unk := by simp [List.getD, List.getElem?_set, hj']
      rw [this]; exact .unk _
    · have : (t.set i unk).getD j undef = t.getD j undef := by simp [List.getD, List.getElem?_set_ne e]
      rw [this]; exact h.getD j

theorem aloop_sound {c : Code} {f : Step} {ks : List Nat} (hf : StepOK P base f c) :
    ∀ (n : Nat) (t : Tm) (h : Heap) (r : AEx × Tm × Heap), aloop ks n f t h = some r → ∀ (a : Act) (w : World) (σ : Sig), LRep (· < h.next) σ t a.tmps.toList → DRep (· < h.next) σ h.dfs a.defers → Rep base (· < h.next) σ h.get w →
      ∀ (Q : Exit → Act → World → Prop), (∀ e a' w', Lvs base h σ w r e a' w' → Q e a' w') → Code.rounds P c Q n a w := by
  intro n
  induction n with
  | zero => intro t h r hr; cases hr
  | succ n ih =>
    intro t h r hr a w σ hT hD hrep Q hQ
    simp only [aloop] at hr
    rw [rounds_succ]
    cases hx : f (forget ks t) h with
    | none => rw [hx] at hr; cases hr
    | some x =>
      obtain ⟨e, t1, h1⟩ := x
      rw [hx] at hr
      refine wp_mono (hf _ _ _ hx a w σ (forget_rep ks hT) hD hrep) ?_
      rintro ex a1 w1 ⟨rfl, σ1, hT1, hD1, hm1⟩
      cases e with
      | normal =>
        simp only at hr
        simp only [toExit, Exit.then]
        exact ih _ _ _ hr a1 w1 σ1 hT1 hD1 hm1.rep Q fun e a' w' hl => hQ _ _ _ (hl.trans hm1)
      | exit i =>
        simp only [Option.some.injEq] at hr
        subst hr
        exact hQ _ _ _ ⟨rfl, σ1, hT1, hD1, hm1⟩
      | ret =>
        simp only [Option.some.injEq] at hr
        subst hr
        exact hQ _ _ _ ⟨rfl, σ1, hT1, hD1, hm1⟩
      | goto l =>
        simp only [Option.some.injEq] at hr
        subst hr
        exact hQ _ _ _ ⟨rfl, σ1, hT1, hD1, hm1⟩

/-! Jumps -/
/-- What is left to run of a scope. -/
def InScope (P : Program) (c rest : Code) (Q : Exit → Act → World → Prop) (a : Act) (w : World) : Prop :=
  ∀ (b : Frame) (k : List Item) (cs : List Frame), ∃ e a' w', Q e a' w' ∧ Arrives P (lone (b.at a (.code rest :: .inScope c :: k)) cs w) b k cs e a' w'
def JumpTo (P : Program) (c : Code) (l : Nat) (Q : Exit → Act → World → Prop) (a : Act) (w : World) : Prop :=
  (∃ rest, findLabel c l = some rest ∧ InScope P c rest Q a w) ∨ (findLabel c l = none ∧ Q (.goto l) a w)
def Exit.jumps (P : Program) (c : Code) (Q : Exit → Act → World → Prop) : Exit → Act → World → Prop
  | .goto l, a, w => JumpTo P c l Q a w
  | e, a, w => Q e a w

theorem inScope_of_wp {c rest : Code} {Q : Exit → Act → World → Prop} {a : Act} {w : World} (h : rest.wp P (Exit.jumps P c Q) a w) : InScope P c rest Q a w := by
  intro b k cs
  obtain ⟨e, a₁, w₁, hq, harr⟩ := h b (.inScope c :: k) cs
  cases e with
  | normal => exact ⟨.normal, a₁, w₁, hq, Steps.trans harr (.one step_inScope)⟩
  | exit id => exact ⟨.exit id, a₁, w₁, hq, fun k' hk => harr k' (by simp [exitTo, hk])⟩
  | goto l =>
    rcases hq with ⟨rest', hf, hs⟩ | ⟨hf, hq⟩
    · obtain ⟨e₂, a₂, w₂, hq₂, harr₂⟩ := hs b k cs
      have hg : gotoIn l (.inScope c :: k) = some (.code rest' :: .inScope c :: k) := by simp [gotoIn, hf]
      exact ⟨e₂, a₂, w₂, hq₂, .of_steps (harr _ hg) harr₂⟩
    · exact ⟨.goto l, a₁, w₁, hq, fun k' hk => harr k' (by simp [gotoIn, hf, hk])⟩
  | ret => exact ⟨_, a₁, w₁, hq, harr⟩
  | panic ch => exact ⟨_, a₁, w₁, hq, harr⟩
  | outgrown => exact ⟨_, a₁, w₁, hq, harr⟩
theorem wp_scope_of {c : Code} {Q : Exit → Act → World → Prop} {a : Act} {w : World} (h : c.wp P (Exit.jumps P c Q) a w) : (Code.scope c).wp P Q a w := by
  intro b k cs
  obtain ⟨e, a', w', hq, harr⟩ := inScope_of_wp h b k cs
  exact ⟨e, a', w', hq, .of_steps (.one step_scope) harr⟩

def ScopeOK (P : Program) (base : Nat) (sc : Code → Nat → Step) : Prop :=
  ∀ (b : Code) (l : Nat) (t : Tm) (h : Heap) (r : AEx × Tm × Heap), sc b l t h = some r → ∀ (a : Act) (w : World) (σ : Sig), LRep (· < h.next) σ t a.tmps.toList → DRep (· < h.next) σ h.dfs a.defers → Rep base (· < h.next) σ h.get w →
    ∀ (Q : Exit → Act → World → Prop), (∀ e a' w', Lvs base h σ w r e a' w' → Q e a' w') → JumpTo P b l Q a w

theorem ascope_sound {X : Code → Step} (hX : ∀ c, StepOK P base (X c) c) : ∀ n, ScopeOK P base (ascope X n) := by
  intro n
  induction n with
  | zero => intro b l t h r hr; cases hr
  | succ n ih =>
    intro b l t h r hr a w σ hT hD hrep Q hQ
    simp only [ascope] at hr
    cases hf : findLabel b l with
    | none =>
      rw [hf] at hr
      simp only [Option.some.injEq] at hr
      subst hr
      exact .inr ⟨hf, hQ _ _ _ ⟨rfl, σ, hT, hD, .refl hrep⟩⟩
    | some rest =>
      rw [hf] at hr
      simp only at hr
      refine .inl ⟨rest, hf, inScope_of_wp ?_⟩
      cases hx : X rest t h with
      | none => rw [hx] at hr; cases hr
      | some x =>
        obtain ⟨e, t1, h1⟩ := x
        rw [hx] at hr
        refine wp_mono (hX _ _ _ _ hx a w σ hT hD hrep) ?_
        rintro ex a1 w1 ⟨rfl, σ1, hT1, hD1, hm1⟩
        cases e with
        | goto l' =>
          simp only at hr
          exact ih _ _ _ _ _ hr a1 w1 σ1 hT1 hD1 hm1.rep Q fun e a' w' hl => hQ _ _ _ (hl.trans hm1)
        | normal =>
          simp only [Option.some.injEq] at hr
          subst hr
          exact hQ _ _ _ ⟨rfl, σ1, hT1, hD1, hm1⟩
        | exit i =>
          simp only [Option.some.injEq] at hr
          subst hr
          exact hQ _ _ _ ⟨rfl, σ1, hT1, hD1, hm1⟩
        | ret =>
          simp only [Option.some.injEq] at hr
          subst hr
          exact hQ _ _ _ ⟨rfl, σ1, hT1, hD1, hm1⟩

theorem aexec_sound (hmix : P.follows .mixedOrders = true) (hrec : RecOK P base rec) (hrd : RecD rec) (ks : Nat → List Nat) (N : Nat) {sc : Code → Nat → Step} (hsc : ScopeOK P base sc) : ∀ (c : Code), StepOK P base (aexec P ks rec (fun js => aloop js N) sc c) c := by
  intro c
  induction c with
  | skip =>
    intro t h r hr a w σ hT hD hrep
    simp only [aexec, Option.some.injEq] at hr
    subst hr
    exact wp_skip ⟨rfl, σ, hT, hD, .refl hrep⟩
  | label l =>
    intro t h r hr a w σ hT hD hrep
    simp only [aexec, Option.some.injEq] at hr
    subst hr
    exact wp_label ⟨rfl, σ, hT, hD, .refl hrep⟩
  | region id ops draw =>
    intro t h r hr a w σ hT hD hrep
    simp only [aexec] at hr
    cases draw with
    | false =>
      simp only [cond_false] at hr
      cases hx : aops P rec ops (List.range ops.size) t h with
      | none => rw [hx] at hr; cases hr
      | some x =>
        obtain ⟨t1, h1⟩ := x
        rw [hx] at hr
        simp only [Option.map_some, Option.some.injEq] at hr
        subst hr
        exact wp_region (aops_sound hrec hrd _ _ _ _ _ hx a w σ _ hT hD hrep fun a' w' σ' h1 h2 h3 => ⟨rfl, σ', h1, h2, h3⟩)
    | true =>
      simp only [cond_true] at hr
      unfold plan at hr
      cases hp : planOk P ops (ordGo P ops ops.size ops.size []) with
      | false => simp only [hp, cond_false] at hr; cases hr
      | true =>
        simp only [hp, cond_true] at hr
        cases hx : adraw P rec ops (ancs ops) (ordGo P ops ops.size ops.size []) [] t h with
        | none => rw [hx] at hr; cases hr
        | some x =>
          obtain ⟨t1, h1⟩ := x
          rw [hx] at hr
          simp only [Option.map_some, Option.some.injEq] at hr
          subst hr
          refine wp_region_any hmix ?_
          have hd := Moves.drew hrep
          refine adraw_sound hrec hp hx hT hd.rep fun a' w' σ' h1 h2 h3 => ⟨rfl, σ', h1, ?_, hd.trans h3⟩
          rw [h2, adraw_dfs hrd _ _ _ _ _ _ hx]
          exact hD.mono h3.mono h3.ext
  | seq x y ihx ihy =>
    intro t h r hr a w σ hT hD hrep
    simp only [aexec] at hr
    refine wp_seq ?_
    cases hx : aexec P ks rec (fun js => aloop js N) sc x t h with
    | none => rw [hx] at hr; cases hr
    | some q =>
      obtain ⟨e, t1, h1⟩ := q
      rw [hx] at hr
      refine wp_mono (ihx _ _ _ hx a w σ hT hD hrep) ?_
      rintro ex a1 w1 ⟨rfl, σ1, hT1, hD1, hm1⟩
      cases e with
      | normal =>
        simp only at hr
        simp only [toExit, Exit.then]
        exact wp_mono (ihy _ _ _ hr a1 w1 σ1 hT1 hD1 hm1.rep) fun e a' w' hl => hl.trans hm1
      | exit i =>
        simp only [Option.some.injEq] at hr
        subst hr
        exact ⟨rfl, σ1, hT1, hD1, hm1⟩
      | ret =>
        simp only [Option.some.injEq] at hr
        subst hr
        exact ⟨rfl, σ1, hT1, hD1, hm1⟩
      | goto l =>
        simp only [Option.some.injEq] at hr
        subst hr
        exact ⟨rfl, σ1, hT1, hD1, hm1⟩
  | cond c x y ihx ihy =>
    intro t h r hr a w σ hT hD hrep
    simp only [aexec] at hr
    have hc := eval_rep hT hrep.gl.names c
    split at hr
    · rename_i he
      rw [he] at hc
      exact wp_cond_true hc.inv_bool (ihx _ _ _ hr a w σ hT hD hrep)
    · rename_i he
      rw [he] at hc
      exact wp_cond_false hc.inv_bool (ihy _ _ _ hr a w σ hT hD hrep)
    · cases hr
  | block id b ih =>
    intro t h r hr a w σ hT hD hrep
    simp only [aexec] at hr
    refine wp_block ?_
    cases hx : aexec P ks rec (fun js => aloop js N) sc b t h with
    | none => rw [hx] at hr; cases hr
    | some q =>
      obtain ⟨e, t1, h1⟩ := q
      rw [hx] at hr
      refine wp_mono (ih _ _ _ hx a w σ hT hD hrep) ?_
      rintro ex a1 w1 ⟨rfl, σ1, hT1, hD1, hm1⟩
      cases e with
      | normal =>
        simp only [Option.some.injEq] at hr
        subst hr
        exact ⟨rfl, σ1, hT1, hD1, hm1⟩
      | exit j =>
        simp only at hr
        simp only [toExit, Exit.inBlock]
        cases hb : Nat.beq j id with
        | true =>
          rw [hb] at hr
          simp only [cond_true, Option.some.injEq] at hr
          subst hr
          rw [if_pos (Nat.eq_of_beq_eq_true hb)]
          exact ⟨rfl, σ1, hT1, hD1, hm1⟩
        | false =>
          rw [hb] at hr
          simp only [cond_false, Option.some.injEq] at hr
          subst hr
          rw [if_neg (fun e => by subst e; simp at hb)]
          exact ⟨rfl, σ1, hT1, hD1, hm1⟩
      | ret =>
        simp only [Option.some.injEq] at hr
        subst hr
        exact ⟨rfl, σ1, hT1, hD1, hm1⟩
      | goto l =>
        simp only [Option.some.injEq] at hr
        subst hr
        exact ⟨rfl, σ1, hT1, hD1, hm1⟩
  | loop b ih =>
    intro t h r hr a w σ hT hD hrep
    simp only [aexec] at hr
    exact wp_loop_rounds N (aloop_sound ih N t h r hr a w σ hT hD hrep _ fun e a' w' h => h)
  | scope b ih =>
    intro t h r hr a w σ hT hD hrep
    simp only [aexec] at hr
    refine wp_scope_of ?_
    cases hx : aexec P ks rec (fun js => aloop js N) sc b t h with
    | none => rw [hx] at hr; cases hr
    | some q =>
      obtain ⟨e, t1, h1⟩ := q
      rw [hx] at hr
      refine wp_mono (ih _ _ _ hx a w σ hT hD hrep) ?_
      rintro ex a1 w1 ⟨rfl, σ1, hT1, hD1, hm1⟩
      cases e with
      | goto l =>
        simp only at hr
        exact hsc _ _ _ _ _ hr a1 w1 σ1 hT1 hD1 hm1.rep _ fun e a' w' hl => hl.trans hm1
      | normal =>
        simp only [Option.some.injEq] at hr
        subst hr
        exact ⟨rfl, σ1, hT1, hD1, hm1⟩
      | exit i =>
        simp only [Option.some.injEq] at hr
        subst hr
        exact ⟨rfl, σ1, hT1, hD1, hm1⟩
      | ret =>
        simp only [Option.some.injEq] at hr
        subst hr
        exact ⟨rfl, σ1, hT1, hD1, hm1⟩
  | exit id =>
    intro t h r hr a w σ hT hD hrep
    simp only [aexec, Option.some.injEq] at hr
    subst hr
    exact wp_exit ⟨rfl, σ, hT, hD, .refl hrep⟩
  | ret =>
    intro t h r hr a w σ hT hD hrep
    simp only [aexec, Option.some.injEq] at hr
    subst hr
    exact wp_ret ⟨rfl, σ, hT, hD, .refl hrep⟩
  | goto l =>
    intro t h r hr a w σ hT hD hrep
    simp only [aexec, Option.some.injEq] at hr
    subst hr
    exact wp_goto ⟨rfl, σ, hT, hD, .refl hrep⟩
  | rangeFunc f ps x y _ _ => intro t h r hr; simp [aexec] at hr
  | refuse s => intro t h r hr; simp [aexec] at hr

theorem aexecL_sound (hmix : P.follows .mixedOrders = true) (hrec : RecOK P base rec) (hrd : RecD rec) (ks : Nat → List Nat) (N : Nat) : ∀ (d : Nat) (c : Code), StepOK P base (aexecL P ks rec N d c) c := by
  intro d
  induction d with
  | zero => exact aexec_sound hmix hrec hrd ks N (fun b l t h r hr => by cases hr)
  | succ d ih => exact aexec_sound hmix hrec hrd ks N (ascope_sound ih N)

/-! results -/
theorem aresults_sound {fn : Func} {t : Tm} {h : Heap} {v : Value} (hv : aresults P fn t h = some v) {a : Act} {w : World} {σ : Sig} (hT : LRep (· < h.next) σ t a.tmps.toList) (hr : Rep base (· < h.next) σ h.get w) :
    ∃ v', (results fn a.tmps).run P w = .ok v' w ∧ VRep (· < h.next) σ v v' := by
  unfold aresults at hv
  have one_ : ∀ (x : ResultVar) (u : Value), aresult P t h x = some u → ∃ u', (match x with
      | .tmp i => pure (a.tmps.getD i undef)
      | .cell i ty => do loadVar ty (← asAddr (a.tmps.getD i undef)) : Sem Value).run P w = .ok u' w ∧ VRep (· < h.next) σ u u' := by
    intro x u hu
    cases x with
    | tmp i =>
      simp only [aresult, Option.some.injEq] at hu
      subst hu
      exact ⟨_, rfl, by rw [arr_getD]; exact hT.getD i⟩
    | cell i ty =>
      simp only [aresult] at hu
      split at hu
      · rename_i n off he
        have h1 : VRep (· < h.next) σ (List.getD t i undef) (a.tmps.getD i undef) := by rw [arr_getD]; exact hT.getD i
        rw [he] at h1
        obtain ⟨_, e1⟩ := h1.inv_ptr
        obtain ⟨_, u', _, hrun, hu'⟩ := aload_sound (P := P) hr hu
        refine ⟨u', ?_, hu'⟩
        simp only [e1, asAddr, pure_bind, hrun]
      · cases hu
  have all_ : ∀ (l : List ResultVar) (us : List Value), l.mapM (aresult P t h) = some us → ∃ us', (l.mapM (m := Sem) fun
      | .tmp i => pure (a.tmps.getD i undef)
      | .cell i ty => do loadVar ty (← asAddr (a.tmps.getD i undef))).run P w = .ok us' w ∧ LRep (· < h.next) σ us us' := by
    intro l
    induction l with
    | nil => intro us hus; simp at hus; subst hus; exact ⟨[], rfl, .nil⟩
    | cons x l ih =>
      intro us hus
      simp only [List.mapM_cons] at hus
      cases h1 : aresult P t h x with
      | none => rw [h1] at hus; simp at hus
      | some u =>
        rw [h1] at hus
        cases h2 : l.mapM (aresult P t h) with
        | none => rw [h2] at hus; simp at hus
        | some us2 =>
          rw [h2] at hus
          simp at hus
          subst hus
          obtain ⟨u', q1, q2⟩ := one_ x u h1
          obtain ⟨us', q3, q4⟩ := ih us2 h2
          refine ⟨u' :: us', ?_, .cons q2 q4⟩
          rw [List.mapM_cons]
          simp only [Sem.run_bind, q1, q3, Result.andThen_ok, Sem.run_pure]
  cases hm : fn.results.toList.mapM (aresult P t h) with
  | none => rw [hm] at hv; cases hv
  | some us =>
    rw [hm] at hv
    obtain ⟨us', q1, q2⟩ := all_ _ _ hm
    have q3 := arr_mapM (P := P) (w := w) _ fn.results q1
    have run : (results fn a.tmps).run P w = .ok (if h : us'.toArray.size = 1 then us'.toArray[0] else .tuple us'.toArray) w := by
      unfold results
      simp only [Sem.run_bind]
      erw [q3]
      rfl
    refine ⟨_, run, ?_⟩
    cases us with
    | nil =>
      simp only [Option.some.injEq] at hv
      subst hv
      have hn : us' = [] := List.eq_nil_of_length_eq_zero q2.len.symm
      subst hn
      exact .mkTuple .nil
    | cons u us =>
      cases us with
      | nil =>
        simp only [Option.some.injEq] at hv
        subst hv
        have hl := q2.len
        match us', hl, q2 with
        | [u'], _, q2 => exact q2.rel (i := 0) rfl rfl
      | cons u2 us =>
        simp only [Option.some.injEq] at hv
        subst hv
        have hl := q2.len
        rw [dif_neg (by simp at hl ⊢; omega)]
        exact .mkTuple (by simpa using q2)

end
end Go.Proofs.YthhhmmildgijhaaGreatDoorAI
