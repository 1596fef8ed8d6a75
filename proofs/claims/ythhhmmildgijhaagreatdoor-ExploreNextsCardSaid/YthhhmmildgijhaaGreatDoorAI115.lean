/- Calls, deferred calls too: what the interpreter answers, every run of the model answers. -/
import Derived.Test.YthhhmmildgijhaaGreatDoorAI11
import Derived.Below
set_option linter.unusedVariables false
set_option linter.unusedSimpArgs false
namespace Go.Proofs.YthhhmmildgijhaaGreatDoorAI
open Go

section
variable {P : Program} {base : Nat} {rec : Rec}

/-! A deferred function's code -/
theorem wpS_mono {c : Code} {Q Q' : Exit → Act → List Frame → World → Prop} {a : Act} {cs : List Frame} {w : World} (h : c.wpS P Q a cs w) (hq : ∀ e a' cs' w', Q e a' cs' w' → Q' e a' cs' w') : c.wpS P Q' a cs w :=
  fun b k hb hr => let ⟨e, a', cs', w', q, r⟩ := h b k hb hr; ⟨e, a', cs', w', hq _ _ _ _ q, r⟩

theorem run_recover {o : Oper} (h : isRecover o = true) (ρ : Operand → Value) (w : World) : (execOp ρ o).run P w = .ok .recover w := by
  unfold isRecover at h
  split at h
  · rename_i c ho
    split at h
    · rename_i hc
      simp [execOp, ho, resolve, hc, invoke, builtin]
    · cases h
  · cases h

theorem aopsR_sound (hrec : RecOK P base rec) (hrd : RecD rec) {ops : Array Oper} {cs : List Frame} (hcs : recoverD cs = none) : ∀ (is : List Nat) (t : Tm) (h : Heap) (t' : Tm) (h' : Heap), aopsR P rec ops is t h = some (t', h') →
    ∀ (a : Act) (w : World) (σ : Sig) (Q : Exit → Act → List Frame → World → Prop), LRep (· < h.next) σ t a.tmps.toList → DRep (· < h.next) σ h.dfs a.defers → Rep base (· < h.next) σ h.get w →
      (∀ a' w' σ', LRep (· < h'.next) σ' t' a'.tmps.toList → DRep (· < h'.next) σ' h'.dfs a'.defers → Moves base (· < h.next) σ h.get w (· < h'.next) σ' h'.get w' → Q .normal a' cs w') → wpOpsS P ops Q is a cs w := by
  intro is
  induction is with
  | nil =>
    intro t h t' h' ha a w σ Q hT hD hr hQ
    simp only [aopsR, Option.some.injEq, Prod.mk.injEq] at ha
    obtain ⟨rfl, rfl⟩ := ha
    exact hQ a w σ hT hD (.refl hr)
  | cons i is ih =>
    intro t h t' h' ha a w σ Q hT hD hr hQ
    simp only [aopsR] at ha
    simp only [wpOpsS]
    cases ho : ops[i]? with
    | none => rw [ho] at ha; cases ha
    | some o =>
      rw [ho] at ha
      simp only at ha ⊢
      cases hw : awanted ops o t with
      | none => rw [hw] at ha; cases ha
      | some b =>
        rw [hw] at ha
        rw [wanted_rep hT hw]
        cases b with
        | false =>
          simp only [Bool.false_eq_true, if_false] at ha ⊢
          exact ih _ _ _ _ ha _ w σ Q (put_rep hT _ undef_rep) (by rw [put_defers']; exact hD) hr hQ
        | true =>
          simp only [if_true] at ha ⊢
          cases hrc : isRecover o with
          | true =>
            rw [hrc] at ha
            simp only [cond_true] at ha
            rw [run_recover hrc]
            simp only [hcs]
            exact ih _ _ _ _ ha _ w σ Q (put_rep hT _ .nilIface) (by rw [put_defers']; exact hD) hr hQ
          | false =>
            rw [hrc] at ha
            simp only [cond_false] at ha
            have step : ∀ v h1, cls P o ≠ .dfr → aop P rec (aeval t) o h = some (v, h1) → aopsR P rec ops is (tput t o.dst v) h1 = some (t', h') →
                (match (execOp a.eval o).run P w with
                | .ok .recover w' => match recoverD cs with
                  | some (v, cs') => wpOpsS P ops Q is (a.put o.dst v) cs' w'
                  | none => wpOpsS P ops Q is (a.put o.dst .nilIface) cs w'
                | r => o.upon P a (fun a' w' => wpOpsS P ops Q is a' cs w') (fun e a' w' => Q e a' cs w') r) := by
              intro v h1 hc hop ha
              have key := aop_sound hrec (eval_rep hT hr.gl.names) hr hc hop (fun a' w' => wpOpsS P ops Q is a' cs w') (fun e a' w' => Q e a' cs w') fun v' w' σ' hv hm => by
                have hT' := hT.mono hm.mono hm.ext
                have hD' := hD.mono hm.mono hm.ext
                exact ih _ _ _ _ ha _ w' σ' Q (put_rep hT' _ hv) (by rw [put_defers', aop_dfs hrd hc hop]; exact hD') hm.rep (fun a'' w'' σ'' q1 q2 q3 => hQ a'' w'' σ'' q1 q2 (hm.trans q3))
              unfold Oper.wp at key
              revert key
              generalize (execOp a.eval o).run P w = R
              intro key
              split
              · exact False.elim key
              · exact key
            cases hc : cls P o with
            | dfr => rw [hc] at ha; cases ha
            | light =>
              rw [hc] at ha
              simp only at ha
              cases hop : aop P rec (aeval t) o h with
              | none => rw [hop] at ha; cases ha
              | some x => rw [hop] at ha; exact step x.1 x.2 (by rw [hc]; exact Cls.noConfusion) hop ha
            | alloc =>
              rw [hc] at ha
              simp only at ha
              cases hop : aop P rec (aeval t) o h with
              | none => rw [hop] at ha; cases ha
              | some x => rw [hop] at ha; exact step x.1 x.2 (by rw [hc]; exact Cls.noConfusion) hop ha
            | heavy =>
              rw [hc] at ha
              simp only at ha
              cases hop : aop P rec (aeval t) o h with
              | none => rw [hop] at ha; cases ha
              | some x => rw [hop] at ha; exact step x.1 x.2 (by rw [hc]; exact Cls.noConfusion) hop ha

theorem aexecR_sound (hrec : RecOK P base rec) (hrd : RecD rec) {X : Code → Step} (hX : ∀ c, StepOK P base (X c) c) {cs : List Frame} (hcs : recoverD cs = none) : ∀ (c : Code) (t : Tm) (h : Heap) (r : AEx × Tm × Heap), aexecR P rec X c t h = some r →
    ∀ (a : Act) (w : World) (σ : Sig), LRep (· < h.next) σ t a.tmps.toList → DRep (· < h.next) σ h.dfs a.defers → Rep base (· < h.next) σ h.get w → c.wpS P (fun e a' cs' w' => cs' = cs ∧ Lvs base h σ w r e a' w') a cs w := by
  have dflt : ∀ (c : Code) (t : Tm) (h : Heap) (r : AEx × Tm × Heap), X c t h = some r →
    ∀ (a : Act) (w : World) (σ : Sig), LRep (· < h.next) σ t a.tmps.toList → DRep (· < h.next) σ h.dfs a.defers → Rep base (· < h.next) σ h.get w → c.wpS P (fun e a' cs' w' => cs' = cs ∧ Lvs base h σ w r e a' w') a cs w :=
    fun c t h r hr a w σ hT hD hrep => wpS_of_wp (wp_mono (hX _ _ _ _ hr a w σ hT hD hrep) fun e a' w' hl => ⟨rfl, hl⟩)
  intro c
  induction c with
  | seq x y ihx ihy =>
    intro t h r hr a w σ hT hD hrep
    simp only [aexecR] at hr
    refine wpS_seq ?_
    cases hx : aexecR P rec X x t h with
    | none => rw [hx] at hr; cases hr
    | some q =>
      obtain ⟨e, t1, h1⟩ := q
      rw [hx] at hr
      refine wpS_mono (ihx _ _ _ hx a w σ hT hD hrep) ?_
      rintro ex a1 cs1 w1 ⟨rfl, rfl, σ1, hT1, hD1, hm1⟩
      cases e with
      | normal =>
        simp only at hr
        simp only [toExit, Exit.thenS]
        exact wpS_mono (ihy _ _ _ hr a1 w1 σ1 hT1 hD1 hm1.rep) fun e a' cs' w' ⟨hc, hl⟩ => ⟨hc, hl.trans hm1⟩
      | exit i =>
        simp only [Option.some.injEq] at hr
        subst hr
        exact ⟨rfl, rfl, σ1, hT1, hD1, hm1⟩
      | ret =>
        simp only [Option.some.injEq] at hr
        subst hr
        exact ⟨rfl, rfl, σ1, hT1, hD1, hm1⟩
      | goto l =>
        simp only [Option.some.injEq] at hr
        subst hr
        exact ⟨rfl, rfl, σ1, hT1, hD1, hm1⟩
  | cond c x y ihx ihy =>
    intro t h r hr a w σ hT hD hrep
    simp only [aexecR] at hr
    have hc := eval_rep hT hrep.gl.names c
    split at hr
    · rename_i he
      rw [he] at hc
      exact wpS_cond (t := true) hc.inv_bool (ihx _ _ _ hr a w σ hT hD hrep)
    · rename_i he
      rw [he] at hc
      exact wpS_cond (t := false) hc.inv_bool (ihy _ _ _ hr a w σ hT hD hrep)
    · cases hr
  | region id ops draw =>
    intro t h r hr a w σ hT hD hrep
    simp only [aexecR] at hr
    cases draw with
    | true => exact dflt _ _ _ _ hr a w σ hT hD hrep
    | false =>
      simp only [cond_false] at hr
      cases hx : aopsR P rec ops (List.range ops.size) t h with
      | none => rw [hx] at hr; cases hr
      | some x =>
        obtain ⟨t1, h1⟩ := x
        rw [hx] at hr
        simp only [Option.map_some, Option.some.injEq] at hr
        subst hr
        exact wpS_region (aopsR_sound hrec hrd hcs _ _ _ _ _ hx a w σ _ hT hD hrep fun a' w' σ' h1 h2 h3 => ⟨rfl, rfl, σ', h1, h2, h3⟩)
  | skip => intro t h r hr; exact dflt _ _ _ _ hr
  | label l => intro t h r hr; exact dflt _ _ _ _ hr
  | block id b _ => intro t h r hr; exact dflt _ _ _ _ hr
  | loop b _ => intro t h r hr; exact dflt _ _ _ _ hr
  | scope b _ => intro t h r hr; exact dflt _ _ _ _ hr
  | exit id => intro t h r hr; exact dflt _ _ _ _ hr
  | ret => intro t h r hr; exact dflt _ _ _ _ hr
  | goto l => intro t h r hr; exact dflt _ _ _ _ hr
  | rangeFunc f ps x y _ _ => intro t h r hr; exact dflt _ _ _ _ hr
  | refuse s => intro t h r hr; exact dflt _ _ _ _ hr

theorem atmps_rep {D : Nat → Prop} {σ : Sig} {args : List Value} {args' : Array Value} (fn : Func) (hl : LRep D σ args args'.toList) : LRep D σ (atmps fn args) (args' ++ Array.replicate (fn.ntmps - args'.size) undef).toList := by
  have e1 : args.length = args'.size := by simpa using hl.len
  unfold atmps
  simp only [Array.toList_append, Array.toList_replicate]
  rw [e1]
  refine hl.append ?_
  generalize fn.ntmps - args'.size = m
  induction m with
  | zero => exact .nil
  | succ m ihm => rw [List.replicate_succ]; exact .cons undef_rep ihm

theorem arund_sound (hmix : P.follows .mixedOrders = true) (hrec : RecOK P base rec) (hrd : RecD rec) (ks : Scr) (k : Nat) {f : FuncId} {args : List Value} {h h' : Heap} (ha : arund P ks rec k f args h = some h') {args' : Array Value} {w : World} {σ : Sig}
    (hr : Rep base (· < h.next) σ h.get w) (hl : LRep (· < h.next) σ args args'.toList) :
    h'.dfs = h.dfs ∧ CallsD P f args' .returning w fun e u' w' => u' = .returning ∧ ∃ v σ', e = .returned v ∧ Moves base (· < h.next) σ h.get w (· < h'.next) σ' h'.get w' := by
  unfold arund at ha
  split at ha
  · rename_i fn hf
    split at ha
    · rename_i c hb
      have fin : ∀ (ex : AEx) (t1 : Tm) (h1 : Heap), (ex = .normal ∨ ex = .ret) → aexecR P rec (aexecL P (ks f) rec k 2) c (atmps fn args) (h.defs []) = some (ex, t1, h1) → (match h1.dfs, aresults P fn t1 h1 with
          | [], some _ => some (h1.defs h.dfs)
          | _, _ => none) = some h' →
          h'.dfs = h.dfs ∧ CallsD P f args' .returning w fun e u' w' => u' = .returning ∧ ∃ v σ', e = .returned v ∧ Moves base (· < h.next) σ h.get w (· < h'.next) σ' h'.get w' := by
        intro ex t1 h1 hex hrun hres
        split at hres
        · rename_i v hd1 hv
          simp only [Option.some.injEq] at hres
          subst hres
          refine ⟨rfl, callsD_of_wpS hf hb fun c₀ cs hu => ?_⟩
          have hcs : recoverD (c₀ :: cs) = none := by simp [recoverD, hu]
          refine wpS_mono (aexecR_sound hrec hrd (aexecL_sound hmix hrec hrd (ks f) k 2) hcs c _ _ _ hrun _ w σ (atmps_rep fn hl) .nil hr) ?_
          rintro e a1 cs1 w1 ⟨rfl, rfl, σ1, hT1, hD1, hm1⟩
          simp only at hT1 hD1 hm1
          rw [hd1] at hD1
          obtain ⟨u', hru, hu'⟩ := aresults_sound (P := P) hv hT1 hm1.rep
          have hc0 : c₀ :: cs = { c₀ with mode := .returning } :: cs := by rw [← hu]
          rcases hex with rfl | rfl
          · exact ⟨hD1.nil_inv, .returning, hc0, u', hru, rfl, u', σ1, rfl, hm1⟩
          · exact ⟨hD1.nil_inv, .returning, hc0, u', hru, rfl, u', σ1, rfl, hm1⟩
        · cases hres
      split at ha
      · rename_i t1 h1 hx
        exact fin .normal t1 h1 (.inl rfl) hx ha
      · rename_i t1 h1 hx
        exact fin .ret t1 h1 (.inr rfl) hx ha
      · cases ha
    · cases ha
  · cases ha

theorem adefs_sound (hmix : P.follows .mixedOrders = true) (hrec : RecOK P base rec) (hrd : RecD rec) (ks : Scr) (k : Nat) {fn : Func} {R : Ending → World → Prop} : ∀ (ds : List Value) (h h2 : Heap), adefs P (arund P ks rec k) ds h = some h2 →
    ∀ (defers : List Deferred) (w : World) (σ : Sig) (t : Tm) (tmps : Array Value), DRep (· < h.next) σ ds defers → Rep base (· < h.next) σ h.get w → LRep (· < h.next) σ t tmps.toList →
      (∀ w' σ', Moves base (· < h.next) σ h.get w (· < h2.next) σ' h2.get w' → LRep (· < h2.next) σ' t tmps.toList → ∃ v, (results fn tmps).run P w' = .ok v w' ∧ R (.returned v) w') →
      Go.Leaves P fn tmps R defers .returning w := by
  intro ds
  induction ds with
  | nil =>
    intro h h2 ha defers w σ t tmps hD hr hT hR
    simp only [adefs, Option.some.injEq] at ha
    subst ha
    obtain rfl := hD.nil_inv
    exact hR w σ (.refl hr) hT
  | cons d ds ih =>
    intro h h2 ha defers w σ t tmps hD hr hT hR
    cases hD with
    | @cons kf args args' cap cap' _ ds' hla hlc hD =>
      simp only [adefs] at ha
      cases he : enters P kf with
      | false => rw [he] at ha; cases ha
      | true =>
        rw [he] at ha
        simp only [cond_true] at ha
        cases hx : arund P ks rec k kf (args.toList ++ cap.toList) h with
        | none => rw [hx] at ha; cases ha
        | some h1 =>
          rw [hx] at ha
          obtain ⟨_, hcd⟩ := arund_sound hmix hrec hrd ks k hx (args' := args' ++ cap') hr (by rw [Array.toList_append]; exact hla.append hlc)
          refine leaves_cons (f := kf) (args := args' ++ cap') (by intro e; cases e) (by simp [invoke, run_callFunc he]) (hcd.mono ?_)
          rintro e u' w' ⟨rfl, v, σ', rfl, hm⟩
          show Go.Leaves P fn tmps R ds' (settle .returning) w'
          exact ih h1 h2 ha ds' w' σ' t tmps (hD.mono hm.mono hm.ext) hm.rep (hT.mono hm.mono hm.ext) fun w'' σ'' hm' => hR w'' σ'' (hm.trans hm')

theorem LRep.plain {D D' : Nat → Prop} {σ σ' : Sig} : ∀ {a b : List Value}, a.all plain = true → LRep D σ a b → LRep D' σ' a b
  | [], b, _, h => by have := List.length_eq_zero_iff.1 h.len.symm; subst this; exact .nil
  | x :: xs, [], _, h => by have := h.len; simp at this
  | x :: xs, y :: ys, hp, h => by
    simp only [List.all_cons, Bool.and_eq_true] at hp
    have h0 := h.rel (i := 0) rfl rfl
    have h1 : LRep D σ xs ys := by simpa using h.drop 1
    rw [VRep.plain_eq 8 hp.1 h0]
    exact .cons (VRep.plain_refl 8 hp.1) (LRep.plain hp.2 h1)

theorem aend_sound {fn : Func} {r : AEx × Tm × Heap} {v : Value} (h : aend P fn r = some v) : (r.1 = .normal ∨ r.1 = .ret) ∧ r.2.2.dfs = [] ∧ aresults P fn r.2.1 r.2.2 = some v ∧ plain v = true := by
  have key : ∀ (t : Tm) (h1 : Heap), (match h1.dfs, aresults P fn t h1 with
      | [], some v => bif plain v then some v else none
      | _, _ => none) = some v → h1.dfs = [] ∧ aresults P fn t h1 = some v ∧ plain v = true := by
    intro t h1 hx
    split at hx
    · rename_i u hd hu
      cases hp : plain u with
      | false => rw [hp] at hx; cases hx
      | true =>
        rw [hp] at hx
        simp only [cond_true, Option.some.injEq] at hx
        subst hx
        exact ⟨hd, hu, hp⟩
    · cases hx
  obtain ⟨e, t, h1⟩ := r
  cases e with
  | normal => exact ⟨.inl rfl, key t h1 h⟩
  | ret => exact ⟨.inr rfl, key t h1 h⟩
  | exit i => cases h
  | goto l => cases h

/-- One call: sound, if its callees' answers are, and what is deferred stays. -/
theorem step_both (hmix : P.follows .mixedOrders = true) (ks : Scr) (k : Nat) (ih : RecOK P base rec) (ihd : RecD rec) : ∀ (f : FuncId) (args : List Value) (h : Heap) (v : Value) (h' : Heap), acallW P ks rec k f args h = some (v, h') → h'.dfs = h.dfs ∧ ∀ (σ : Sig) (w : World) (args' : Array Value),
    Rep base (· < h.next) σ h.get w → LRep (· < h.next) σ args args'.toList →
    Calls P f args' w fun e w' => ∃ v' σ', e = .returned v' ∧ Moves base (· < h.next) σ h.get w (· < h'.next) σ' h'.get w' ∧ VRep (· < h'.next) σ' v v' := by
  intro f args h v h' hr
  simp only [acallW] at hr
  split at hr
  · rename_i fn hf
    split at hr
    · rename_i c hb
      cases hfk : Nat.beq f forkF && args.all plain && h.ml.isNone with
      | true =>
        rw [hfk] at hr
        simp only [cond_true] at hr
        simp only [Bool.and_eq_true] at hfk
        split at hr
        · rename_i x s
          split at hr
          · rename_i r1 r2 hx1 hx2
            split at hr
            · rename_i v1 v2 he1 he2
              cases hv12 : veq v1 v2 with
              | false => rw [hv12] at hr; cases hr
              | true =>
                rw [hv12] at hr
                simp only [cond_true, Option.some.injEq, Prod.mk.injEq] at hr
                obtain ⟨rfl, rfl⟩ := hr
                obtain rfl := (veq_eq _ _).1 hv12
                refine ⟨rfl, fun σ w args' hrep hargs => ?_⟩
                obtain ⟨m, _, htold⟩ := hrep.told
                have go : ∀ (u : Value) (r : AEx × Tm × Heap), VRep (· < NG) σ u (.int .i64 m) → aexecL P (ks f) rec k 2 c (atmps fn [x, .string s]) (.bare (some u)) = some r → aend P fn r = some v1 →
                    Calls P f args' w fun e w' => ∃ v' σ', e = .returned v' ∧ Moves base (· < h.next) σ h.get w (· < h.next) σ' h.get w' ∧ VRep (· < h.next) σ' v1 v' := by
                  intro u r hu hx he
                  have hL := aexecL_sound hmix ih ihd (ks f) k 2 c _ _ _ hx { tmps := args' ++ Array.replicate (fn.ntmps - args'.size) undef, defers := [] } w σ (atmps_rep fn (LRep.plain hfk.1.2 hargs)) .nil (htold u hu)
                  refine calls_of_wp hf hb (wp_mono hL ?_)
                  rintro e a1 w1 ⟨he', σ1, hT1, hD1, hm1⟩
                  obtain ⟨q1, q2, q3, q4⟩ := aend_sound he
                  rw [q2] at hD1
                  obtain ⟨u', hru, hu'⟩ := aresults_sound (P := P) q3 hT1 hm1.rep
                  obtain rfl := VRep.plain_eq 8 q4 hu'
                  have hk := Moves.kept hrep hm1
                  rcases q1 with q1 | q1 <;> (rw [q1] at he'; subst he'; exact ⟨hD1.nil_inv, u', hru, u', σ, rfl, hk, VRep.plain_refl 8 q4⟩)
                rcases Int.lt_or_le m (s.size : Int) with hlt | hge
                · exact go (ltInt s.size) r2 (.ltI hlt) hx2 he2
                · exact go (geInt s.size) r1 (.geI hge) hx1 he1
            · cases hr
          · cases hr
        · cases hr
      | false =>
        rw [hfk] at hr
        simp only [cond_false] at hr
        have fin : ∀ (ex : AEx) (t1 : Tm) (h1 : Heap), (ex = .normal ∨ ex = .ret) → aexecL P (ks f) rec k 2 c (atmps fn args) (h.defs []) = some (ex, t1, h1) →
            (match adefs P (arund P ks rec k) h1.dfs (h1.defs []) with
            | some h2 => (aresults P fn t1 h2).map fun v => (v, h2.defs h.dfs)
            | none => none) = some (v, h') → h'.dfs = h.dfs ∧ ∀ (σ : Sig) (w : World) (args' : Array Value),
            Rep base (· < h.next) σ h.get w → LRep (· < h.next) σ args args'.toList →
            Calls P f args' w fun e w' => ∃ v' σ', e = .returned v' ∧ Moves base (· < h.next) σ h.get w (· < h'.next) σ' h'.get w' ∧ VRep (· < h'.next) σ' v v' := by
          intro ex t1 h1 hex hrun hres
          cases hd : adefs P (arund P ks rec k) h1.dfs (h1.defs []) with
          | none => rw [hd] at hres; cases hres
          | some h2 =>
            rw [hd] at hres
            simp only at hres
            cases hv : aresults P fn t1 h2 with
            | none => rw [hv] at hres; cases hres
            | some u =>
              rw [hv] at hres
              simp only [Option.map_some, Option.some.injEq, Prod.mk.injEq] at hres
              obtain ⟨rfl, rfl⟩ := hres
              refine ⟨rfl, fun σ w args' hrep hargs => ?_⟩
              have hL := aexecL_sound hmix ih ihd (ks f) k 2 c _ _ _ hrun { tmps := args' ++ Array.replicate (fn.ntmps - args'.size) undef, defers := [] } w σ (atmps_rep fn hargs) .nil hrep
              refine calls_of_wp_defers hf hb (wp_mono hL ?_)
              rintro e a1 w1 ⟨he, σ1, hT1, hD1, hm1⟩
              simp only at hT1 hD1 hm1
              have hlv : Go.Leaves P fn a1.tmps (fun e w' => ∃ v' σ', e = .returned v' ∧ Moves base (· < h.next) σ h.get w (· < (h2.defs h.dfs).next) σ' (h2.defs h.dfs).get w' ∧ VRep (· < (h2.defs h.dfs).next) σ' u v') a1.defers .returning w1 :=
                adefs_sound hmix ih ihd ks k h1.dfs (h1.defs []) h2 hd a1.defers w1 σ1 t1 a1.tmps hD1 hm1.rep hT1 fun w2 σ2 hm2 hT2 => by
                  obtain ⟨u', hru, hu⟩ := aresults_sound (P := P) hv hT2 hm2.rep
                  exact ⟨u', hru, u', σ2, rfl, hm1.trans hm2, hu⟩
              rcases hex with rfl | rfl <;> (subst he; exact hlv)
        split at hr
        · rename_i t1 h1 hx
          exact fin .normal t1 h1 (.inl rfl) hx hr
        · rename_i t1 h1 hx
          exact fin .ret t1 h1 (.inr rfl) hx hr
        · cases hr
    · cases hr
  · cases hr

/-- The interpreter's calls: sound, and what is deferred stays. -/
theorem acall_both (hmix : P.follows .mixedOrders = true) (hne : ExtOK P) (ks : Scr) : ∀ (k : Nat), RecOK P base (acall P ks k) ∧ RecD (acall P ks k) := by
  intro k
  induction k with
  | zero => exact ⟨⟨hne, fun f args h v h' hr => (by cases hr)⟩, fun f args h v h' hr => (by cases hr)⟩
  | succ k ih =>
    have both := step_both hmix ks k ih.1 ih.2
    exact ⟨⟨hne, fun f args h v h' hr => (both f args h v h' hr).2⟩, fun f args h v h' hr => (both f args h v h' hr).1⟩

theorem acall_sound (hmix : P.follows .mixedOrders = true) (hne : ExtOK P) (ks : Scr) (k : Nat) : RecOK P base (acall P ks k) := (acall_both hmix hne ks k).1

/-- A call that begins with the program's variables alone. -/
theorem acall_law (hmix : P.follows .mixedOrders = true) (hne : ExtOK P) {ks : Scr} {k : Nat} {f : FuncId} {args : List Value} {v : Value} {h' : Heap} (hrun : acall P ks k f args .empty = some (v, h')) (hp : plain v = true)
    {W : World} {σ : Sig} {args' : Array Value} (hg : Glob W.heap.size (· < NG) σ W) (hl : LRep (· < NG) σ args args'.toList) : Calls P f args' W fun e W' => e = .returned v ∧ RowKit.Below W.heap.size W W' := by
  refine ((acall_sound hmix hne ks k).2 f args .empty v h' hrun σ W args' (Rep.start hg (Nat.le_refl _)) hl).mono ?_
  rintro e W' ⟨v', σ', rfl, hm, hv⟩
  obtain rfl := VRep.plain_eq 8 hp hv
  refine ⟨rfl, hm.os, hm.tape, hm.output, hm.size, fun b hb => hm.frame b hb fun ⟨n, ⟨o, h, ho⟩, _⟩ => ?_⟩
  have h1 : n < NG := Heap.get_lt h
  have h2 := Heap.own_ge h ho
  omega

end
end Go.Proofs.YthhhmmildgijhaaGreatDoorAI
