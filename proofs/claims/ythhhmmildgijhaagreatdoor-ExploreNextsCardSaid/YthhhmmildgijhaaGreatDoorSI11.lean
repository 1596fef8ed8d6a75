/- The interpreter is sound: what it answers, every run of the model answers. -/
import Derived.Test.YthhhmmildgijhaaGreatDoorSI10
set_option linter.unusedVariables false
set_option linter.unusedSimpArgs false
namespace Go.Proofs.YthhhmmildgijhaaGreatDoorSI
open Go

section
variable {P : Program} {base : Nat} {rec : Rec}

def toExit : AEx → Exit
  | .normal => .normal
  | .exit i => .exit i
  | .ret => .ret

/-- What code leaves. -/
def Leaves (base : Nat) (h : Heap) (σ : Sig) (w : World) (d : List Deferred) (r : AEx × Tm × Heap) : Exit → Act → World → Prop := fun e a' w' =>
  e = toExit r.1 ∧ ∃ σ', LRep (· < r.2.2.next) σ' r.2.1 a'.tmps.toList ∧ a'.defers = d ∧ Moves base (· < h.next) σ h.get w (· < r.2.2.next) σ' r.2.2.get w'

theorem forget_rep {D : Nat → Prop} {σ : Sig} : ∀ (ks : List Nat) {t l : List Value}, LRep D σ t l → LRep D σ (forget ks t) l := by
  intro ks
  induction ks with
  | nil => intro t l h; exact h
  | cons i is ih =>
    intro t l h
    refine ih ⟨by simpa using h.len, fun j hj => ?_⟩
    by_cases e : i = j
    · subst e
      have hj' : i < t.length := by simpa using hj
      have : (t.set i unk).getD i undef = unk := by simp [List.getD, List.getElem?_set, hj']
      rw [this]; exact .unk _
    · have : (t.set i unk).getD j undef = t.getD j undef := by simp [List.getD, List.getElem?_set_ne e]
      rw [this]; exact h.getD j

theorem aloop_sound {c : Code} {f : Step} {ks : List Nat} (hf : ∀ (t : Tm) (h : Heap) (r : AEx × Tm × Heap), f t h = some r → ∀ (a : Act) (w : World) (σ : Sig), LRep (· < h.next) σ t a.tmps.toList → Rep base (· < h.next) σ h.get w → c.wp P (Leaves base h σ w a.defers r) a w) :
    ∀ (n : Nat) (t : Tm) (h : Heap) (r : AEx × Tm × Heap), aloop ks n f t h = some r → ∀ (a : Act) (w : World) (σ : Sig), LRep (· < h.next) σ t a.tmps.toList → Rep base (· < h.next) σ h.get w →
      ∀ (Q : Exit → Act → World → Prop), (∀ e a' w', Leaves base h σ w a.defers r e a' w' → Q e a' w') → Code.rounds P c Q n a w := by
  intro n
  induction n with
  | zero => intro t h r hr; cases hr
  | succ n ih =>
    intro t h r hr a w σ hT hrep Q hQ
    simp only [aloop] at hr
    rw [rounds_succ]
    cases hx : f (forget ks t) h with
    | none => rw [hx] at hr; cases hr
    | some x =>
      obtain ⟨e, t1, h1⟩ := x
      rw [hx] at hr
      refine wp_mono (hf _ _ _ hx a w σ (forget_rep ks hT) hrep) ?_
      rintro ex a1 w1 ⟨rfl, σ1, hT1, hd1, hm1⟩
      cases e with
      | normal =>
        simp only at hr
        simp only [toExit, Exit.then]
        refine ih _ _ _ hr a1 w1 σ1 hT1 hm1.rep Q ?_
        rintro e a' w' ⟨he, σ', hT', hd', hm'⟩
        exact hQ _ _ _ ⟨he, σ', hT', hd'.trans hd1, hm1.trans hm'⟩
      | exit i =>
        simp only [Option.some.injEq] at hr
        subst hr
        exact hQ _ _ _ ⟨rfl, σ1, hT1, hd1, hm1⟩
      | ret =>
        simp only [Option.some.injEq] at hr
        subst hr
        exact hQ _ _ _ ⟨rfl, σ1, hT1, hd1, hm1⟩

theorem aexec_sound (hmix : P.follows .mixedOrders = true) (hrec : RecOK P base rec) (ks : Nat → List Nat) (N : Nat) : ∀ (c : Code) (t : Tm) (h : Heap) (r : AEx × Tm × Heap), aexec P ks rec (fun js => aloop js N) c t h = some r →
    ∀ (a : Act) (w : World) (σ : Sig), LRep (· < h.next) σ t a.tmps.toList → Rep base (· < h.next) σ h.get w → c.wp P (Leaves base h σ w a.defers r) a w := by
  intro c
  induction c with
  | skip =>
    intro t h r hr a w σ hT hrep
    simp only [aexec, Option.some.injEq] at hr
    subst hr
    exact wp_skip ⟨rfl, σ, hT, rfl, .refl hrep⟩
  | label l =>
    intro t h r hr a w σ hT hrep
    simp only [aexec, Option.some.injEq] at hr
    subst hr
    exact wp_label ⟨rfl, σ, hT, rfl, .refl hrep⟩
  | region id ops draw =>
    intro t h r hr a w σ hT hrep
    simp only [aexec] at hr
    cases draw with
    | false =>
      simp only [cond_false] at hr
      cases hx : aops P rec ops (List.range ops.size) t h with
      | none => rw [hx] at hr; cases hr
      | some x =>
        obtain ⟨t1, h1⟩ := x
        rw [hx] at hr
        simp only [Option.map_some, Option.some.injEq] at hr
        subst hr
        exact wp_region (aops_sound hrec _ _ _ _ _ hx a w σ _ hT hrep fun a' w' σ' h1 h2 h3 => ⟨rfl, σ', h1, h2, h3⟩)
    | true =>
      simp only [cond_true] at hr
      unfold plan at hr
      cases hp : planOk P ops (ordGo P ops ops.size ops.size []) with
      | false => simp only [hp, cond_false] at hr; cases hr
      | true =>
        simp only [hp, cond_true] at hr
        cases hx : adraw P rec ops (ancs ops) (ordGo P ops ops.size ops.size []) [] t h with
        | none => rw [hx] at hr; cases hr
        | some x =>
          obtain ⟨t1, h1⟩ := x
          rw [hx] at hr
          simp only [Option.map_some, Option.some.injEq] at hr
          subst hr
          refine wp_region_any hmix ?_
          have hd := Moves.drew hrep
          exact adraw_sound hrec hp hx hT hd.rep fun a' w' σ' h1 h2 h3 => ⟨rfl, σ', h1, h2, hd.trans h3⟩
  | seq x y ihx ihy =>
    intro t h r hr a w σ hT hrep
    simp only [aexec] at hr
    refine wp_seq ?_
    cases hx : aexec P ks rec (fun js => aloop js N) x t h with
    | none => rw [hx] at hr; cases hr
    | some q =>
      obtain ⟨e, t1, h1⟩ := q
      rw [hx] at hr
      refine wp_mono (ihx _ _ _ hx a w σ hT hrep) ?_
      rintro ex a1 w1 ⟨rfl, σ1, hT1, hd1, hm1⟩
      cases e with
      | normal =>
        simp only at hr
        simp only [toExit, Exit.then]
        refine wp_mono (ihy _ _ _ hr a1 w1 σ1 hT1 hm1.rep) ?_
        rintro e a' w' ⟨he, σ', hT', hd', hm'⟩
        exact ⟨he, σ', hT', hd'.trans hd1, hm1.trans hm'⟩
      | exit i =>
        simp only [Option.some.injEq] at hr
        subst hr
        exact ⟨rfl, σ1, hT1, hd1, hm1⟩
      | ret =>
        simp only [Option.some.injEq] at hr
        subst hr
        exact ⟨rfl, σ1, hT1, hd1, hm1⟩
  | cond c x y ihx ihy =>
    intro t h r hr a w σ hT hrep
    simp only [aexec] at hr
    have hc := eval_rep hT c
    split at hr
    · rename_i he
      rw [he] at hc
      exact wp_cond_true hc.inv_bool (ihx _ _ _ hr a w σ hT hrep)
    · rename_i he
      rw [he] at hc
      exact wp_cond_false hc.inv_bool (ihy _ _ _ hr a w σ hT hrep)
    · cases hr
  | block id b ih =>
    intro t h r hr a w σ hT hrep
    simp only [aexec] at hr
    refine wp_block ?_
    cases hx : aexec P ks rec (fun js => aloop js N) b t h with
    | none => rw [hx] at hr; cases hr
    | some q =>
      obtain ⟨e, t1, h1⟩ := q
      rw [hx] at hr
      refine wp_mono (ih _ _ _ hx a w σ hT hrep) ?_
      rintro ex a1 w1 ⟨rfl, σ1, hT1, hd1, hm1⟩
      cases e with
      | normal =>
        simp only [Option.some.injEq] at hr
        subst hr
        exact ⟨rfl, σ1, hT1, hd1, hm1⟩
      | exit j =>
        simp only at hr
        simp only [toExit, Exit.inBlock]
        cases hb : Nat.beq j id with
        | true =>
          rw [hb] at hr
          simp only [cond_true, Option.some.injEq] at hr
          subst hr
          rw [if_pos (Nat.eq_of_beq_eq_true hb)]
          exact ⟨rfl, σ1, hT1, hd1, hm1⟩
        | false =>
          rw [hb] at hr
          simp only [cond_false, Option.some.injEq] at hr
          subst hr
          rw [if_neg (fun e => by subst e; simp at hb)]
          exact ⟨rfl, σ1, hT1, hd1, hm1⟩
      | ret =>
        simp only [Option.some.injEq] at hr
        subst hr
        exact ⟨rfl, σ1, hT1, hd1, hm1⟩
  | loop b ih =>
    intro t h r hr a w σ hT hrep
    simp only [aexec] at hr
    exact wp_loop_rounds N (aloop_sound ih N t h r hr a w σ hT hrep _ fun e a' w' h => h)
  | scope b ih =>
    intro t h r hr a w σ hT hrep
    simp only [aexec] at hr
    refine wp_scope_straight (wp_mono (ih _ _ _ hr a w σ hT hrep) ?_)
    rintro ex a1 w1 ⟨rfl, hrest⟩
    obtain ⟨e, t1, h1⟩ := r
    cases e <;> exact ⟨rfl, hrest⟩
  | exit id =>
    intro t h r hr a w σ hT hrep
    simp only [aexec, Option.some.injEq] at hr
    subst hr
    exact wp_exit ⟨rfl, σ, hT, rfl, .refl hrep⟩
  | ret =>
    intro t h r hr a w σ hT hrep
    simp only [aexec, Option.some.injEq] at hr
    subst hr
    exact wp_ret ⟨rfl, σ, hT, rfl, .refl hrep⟩
  | rangeFunc f ps x y _ _ => intro t h r hr; simp [aexec] at hr
  | goto l => intro t h r hr; simp [aexec] at hr
  | refuse s => intro t h r hr; simp [aexec] at hr

/-! results -/
theorem aresults_sound {fn : Func} {t : Tm} {h : Heap} {v : Value} (hv : aresults P fn t h = some v) {a : Act} {w : World} {σ : Sig} (hT : LRep (· < h.next) σ t a.tmps.toList) (hr : Rep base (· < h.next) σ h.get w) :
    ∃ v', (results fn a.tmps).run P w = .ok v' w ∧ VRep (· < h.next) σ v v' := by
  unfold aresults at hv
  have one_ : ∀ (x : ResultVar) (u : Value), aresult P t h x = some u → ∃ u', (match x with
      | .tmp i => pure (a.tmps.getD i undef)
      | .cell i ty => do loadVar ty (← asAddr (a.tmps.getD i undef)) : Sem Value).run P w = .ok u' w ∧ VRep (· < h.next) σ u u' := by
    intro x u hu
    cases x with
    | tmp i =>
      simp only [aresult, Option.some.injEq] at hu
      subst hu
      exact ⟨_, rfl, by rw [arr_getD]; exact hT.getD i⟩
    | cell i ty =>
      simp only [aresult] at hu
      split at hu
      · rename_i n off he
        have h1 : VRep (· < h.next) σ (List.getD t i undef) (a.tmps.getD i undef) := by rw [arr_getD]; exact hT.getD i
        rw [he] at h1
        obtain ⟨_, e1⟩ := h1.inv_ptr
        obtain ⟨_, u', _, hrun, hu'⟩ := aload_sound (P := P) hr hu
        refine ⟨u', ?_, hu'⟩
        simp only [e1, asAddr, pure_bind, hrun]
      · cases hu
  have all_ : ∀ (l : List ResultVar) (us : List Value), l.mapM (aresult P t h) = some us → ∃ us', (l.mapM (m := Sem) fun
      | .tmp i => pure (a.tmps.getD i undef)
      | .cell i ty => do loadVar ty (← asAddr (a.tmps.getD i undef))).run P w = .ok us' w ∧ LRep (· < h.next) σ us us' := by
    intro l
    induction l with
    | nil => intro us hus; simp at hus; subst hus; exact ⟨[], rfl, .nil⟩
    | cons x l ih =>
      intro us hus
      simp only [List.mapM_cons] at hus
      cases h1 : aresult P t h x with
      | none => rw [h1] at hus; simp at hus
      | some u =>
        rw [h1] at hus
        cases h2 : l.mapM (aresult P t h) with
        | none => rw [h2] at hus; simp at hus
        | some us2 =>
          rw [h2] at hus
          simp at hus
          subst hus
          obtain ⟨u', q1, q2⟩ := one_ x u h1
          obtain ⟨us', q3, q4⟩ := ih us2 h2
          refine ⟨u' :: us', ?_, .cons q2 q4⟩
          rw [List.mapM_cons]
          simp only [Sem.run_bind, q1, q3, Result.andThen_ok, Sem.run_pure]
  cases hm : fn.results.toList.mapM (aresult P t h) with
  | none => rw [hm] at hv; cases hv
  | some us =>
    rw [hm] at hv
    obtain ⟨us', q1, q2⟩ := all_ _ _ hm
    have q3 := arr_mapM (P := P) (w := w) _ fn.results q1
    have run : (results fn a.tmps).run P w = .ok (if h : us'.toArray.size = 1 then us'.toArray[0] else .tuple us'.toArray) w := by
      unfold results
      simp only [Sem.run_bind]
      erw [q3]
      rfl
    refine ⟨_, run, ?_⟩
    cases us with
    | nil =>
      simp only [Option.some.injEq] at hv
      subst hv
      have hn : us' = [] := List.eq_nil_of_length_eq_zero q2.len.symm
      subst hn
      exact .mkTuple .nil
    | cons u us =>
      cases us with
      | nil =>
        simp only [Option.some.injEq] at hv
        subst hv
        have hl := q2.len
        match us', hl, q2 with
        | [u'], _, q2 => exact q2.rel (i := 0) rfl rfl
      | cons u2 us =>
        simp only [Option.some.injEq] at hv
        subst hv
        have hl := q2.len
        rw [dif_neg (by simp at hl ⊢; omega)]
        exact .mkTuple (by simpa using q2)

/-! calls -/
theorem acall_sound (hmix : P.follows .mixedOrders = true) (ks : Scr) : ∀ (k : Nat), RecOK P base (acall P ks k) := by
  intro k
  induction k with
  | zero => intro f args h v h' hr; cases hr
  | succ k ih =>
    intro f args h v h' hr σ w args' hrep hargs
    simp only [acall] at hr
    split at hr
    · rename_i fn hf
      split at hr
      · rename_i c hb
        have fin : ∀ (ex : AEx) (t1 : Tm) (h1 : Heap), (ex = .normal ∨ ex = .ret) → aexec P (ks f) (acall P ks k) (fun js => aloop js k) c (args ++ List.replicate (fn.ntmps - args.length) undef) h = some (ex, t1, h1) → (aresults P fn t1 h1).map (fun v => (v, h1)) = some (v, h') →
            Calls P f args' w fun e w' => ∃ v' σ', e = .returned v' ∧ Moves base (· < h.next) σ h.get w (· < h'.next) σ' h'.get w' ∧ VRep (· < h'.next) σ' v v' := by
          intro ex t1 h1 hex hrun hres
          cases hv : aresults P fn t1 h1 with
          | none => rw [hv] at hres; cases hres
          | some u =>
            rw [hv] at hres
            simp only [Option.map_some, Option.some.injEq, Prod.mk.injEq] at hres
            obtain ⟨rfl, rfl⟩ := hres
            refine calls_of_wp hf hb (wp_mono (aexec_sound hmix ih (ks f) k c _ _ _ hrun _ w σ ?_ hrep) ?_)
            · have hl := hargs.len
              simp only [Array.toList_append, Array.toList_replicate]
              have e1 : args.length = args'.size := by simpa using hl
              rw [e1]
              refine hargs.append ?_
              generalize fn.ntmps - args'.size = m
              induction m with
              | zero => exact .nil
              | succ m ihm => rw [List.replicate_succ]; exact .cons undef_rep ihm
            · rintro e a1 w1 ⟨he, σ1, hT1, hd1, hm1⟩
              obtain ⟨u', hru, hu⟩ := aresults_sound (P := P) hv hT1 hm1.rep
              rcases hex with rfl | rfl <;> (subst he; exact ⟨hd1, u', hru, u', σ1, rfl, hm1, hu⟩)
        split at hr
        · rename_i t1 h1 hx
          exact fin .normal t1 h1 (.inl rfl) hx hr
        · rename_i t1 h1 hx
          exact fin .ret t1 h1 (.inr rfl) hx hr
        · cases hr
      · cases hr
    · cases hr

end
end Go.Proofs.YthhhmmildgijhaaGreatDoorSI
