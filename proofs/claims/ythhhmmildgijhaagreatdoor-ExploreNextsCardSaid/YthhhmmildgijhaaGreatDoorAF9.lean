/- A function that ranges over a closure, two rounds of it, the second left by a return: the whole call. -/
import Derived.Test.YthhhmmildgijhaaGreatDoorAF6
import Derived.RangeFuncRecord
import Derived.LoopNIn
set_option linter.unusedVariables false
set_option linter.unusedSimpArgs false
namespace Go.Proofs.YthhhmmildgijhaaGreatDoorAI
open Go

/-- The fence that asks nothing: in a round, or in none. -/
def wideAt (ro : Option Nat) : Fence := { Fence.wide with round := ro }

section
variable {P : Program} {base : Nat} {rec : Rec} {ro : Option Nat} {n : Nat}

theorem calls_at {f : FuncId} {args : Array Value} {w : World} {R : Ending → World → Prop} (h : Calls P f args w R) : CallsIn (wideAt ro) n P f args w R := (callsIn_wide (n := n)).2 h
theorem rows_at {row : String} {args : Array Value} {w : World} {R : Value → World → Prop} (h : Rows P row args w R) : RowsIn (wideAt ro) n P row args w R := fun c cs _ =>
  let ⟨v, w', r, s⟩ := h c cs; ⟨v, w', r, stepsIn_wide.2 s⟩

/-- An operation that is no defer statement is carried out there as everywhere. -/
theorem oper_at {o : Oper} {a : Act} {w : World} {K : Act → World → Prop} {Q : Exit → Act → World → Prop} (hop : ∀ c, o.op ≠ .defer c) (h : o.wp P a w K Q) : o.wpIn (wideAt ro) n P a w K Q := by
  refine ⟨fun _ _ => trivial, ?_⟩
  have hs : o.semAt (wideAt ro).round a.eval = execOp a.eval o := Oper.semAt_eq _ _ _ hop
  rw [hs]
  unfold Oper.wp at h
  revert h
  generalize (execOp a.eval o).run P w = r
  intro h
  cases r with
  | ok x w' => cases x with
    | value v => exact h
    | skip => exact h
    | defer d => exact h
    | enter f args => exact ⟨fun hd => (by cases hd), calls_at h⟩
    | row row args => exact ⟨fun hd => (by cases hd), rows_at h⟩
    | _ => exact h.elim
  | halt e w' => cases e with
    | panic v => exact h
    | _ => exact h.elim

def noDfr (ops : Array Oper) : Bool := ops.toList.all fun o => match o.op with
  | .defer _ => false
  | _ => true
theorem noDfr_at {ops : Array Oper} (h : noDfr ops = true) {i : Nat} {o : Oper} (ho : ops[i]? = some o) : ∀ c, o.op ≠ .defer c := by
  intro c e
  have hm : o ∈ ops.toList := by
    rw [← Array.getElem?_toList] at ho
    exact List.mem_of_getElem? ho
  have := List.all_eq_true.1 h o hm
  rw [e] at this
  cases this
theorem cls_dfr {o : Oper} (h : ∀ c, o.op ≠ .defer c) : cls P o ≠ .dfr := by
  obtain ⟨dst, op, type, pos, after, guard⟩ := o
  intro e
  cases op with
  | defer c => exact h c rfl
  | binOp op t x y yt => simp only [cls] at e; cases hf : isFl P op t <;> rw [hf] at e <;> cases e
  | convert src dst x => simp only [cls] at e; cases hf : memConv P src dst <;> rw [hf] at e <;> cases e
  | call c =>
    simp only [cls] at e
    have hv : ∀ b : Bool, (bif b then Cls.heavy else Cls.light) ≠ .dfr := fun b => by cases b <;> (intro e; cases e)
    split at e <;> first
      | exact absurd e (hv _)
      | (cases e; done)
  | _ => cases e

theorem aopsIn_sound (hrec : RecOK P base rec) (hrd : RecD rec) {ops : Array Oper} (hno : noDfr ops = true) : ∀ (is : List Nat) (t : Tm) (h : Heap) (t' : Tm) (h' : Heap), aops P rec ops is t h = some (t', h') →
    ∀ (js : List Nat) (a : Act) (w : World) (σ : Sig) (Q : Exit → Act → World → Prop), LRep (· < h.next) σ t a.tmps.toList → DRep (· < h.next) σ h.dfs a.defers → Rep base (· < h.next) σ h.get w →
      (∀ a' w' σ', LRep (· < h'.next) σ' t' a'.tmps.toList → DRep (· < h'.next) σ' h'.dfs a'.defers → Moves base (· < h.next) σ h.get w (· < h'.next) σ' h'.get w' → wpOpsIn (wideAt ro) n P ops Q js a' w') → wpOpsIn (wideAt ro) n P ops Q (is ++ js) a w := by
  intro is
  induction is with
  | nil =>
    intro t h t' h' ha js a w σ Q hT hD hr hQ
    simp only [aops, Option.some.injEq, Prod.mk.injEq] at ha
    obtain ⟨rfl, rfl⟩ := ha
    exact hQ a w σ hT hD (.refl hr)
  | cons i is ih =>
    intro t h t' h' ha js a w σ Q hT hD hr hQ
    simp only [aops] at ha
    rw [List.cons_append]
    unfold wpOpsIn
    cases ho : ops[i]? with
    | none => rw [ho] at ha; cases ha
    | some o =>
      rw [ho] at ha
      simp only at ha ⊢
      cases hw : awanted ops o t with
      | none => rw [hw] at ha; cases ha
      | some b =>
        rw [hw] at ha
        rw [wanted_rep hT hw]
        cases b with
        | false =>
          simp only [Bool.false_eq_true, if_false] at ha ⊢
          exact ⟨fun _ _ => trivial, ih _ _ _ _ ha js _ w σ Q (put_rep hT _ undef_rep) (by rw [put_defers']; exact hD) hr hQ⟩
        | true =>
          simp only [if_true] at ha ⊢
          cases hop : aop P rec (aeval t) o h with
          | none => rw [hop] at ha; cases ha
          | some x =>
            obtain ⟨v, h1⟩ := x
            rw [hop] at ha
            have hev := eval_rep hT hr.gl.names
            have hnd := noDfr_at hno ho
            have hc : cls P o ≠ .dfr := cls_dfr hnd
            refine oper_at hnd (aop_sound hrec hev hr hc hop _ _ fun v' w' σ' hv hm => ?_)
            have hT' := hT.mono hm.mono hm.ext
            have hD' := hD.mono hm.mono hm.ext
            exact ih _ _ _ _ ha js _ w' σ' Q (put_rep hT' _ hv) (by rw [put_defers', aop_dfs hrd hc hop]; exact hD') hm.rep (fun a'' w'' σ'' q1 q2 q3 => hQ a'' w'' σ'' q1 q2 (hm.trans q3))
end

/-- Code without loops and draws. -/
noncomputable def sexec (P : Program) (rec : Rec) : Code → Step
  | .skip, t, h => some (.normal, t, h)
  | .region _ ops draw, t, h => bif draw || !noDfr ops then none else (aops P rec ops (List.range ops.size) t h).map fun x => (.normal, x.1, x.2)
  | .seq a b, t, h => match sexec P rec a t h with
    | some (.normal, t', h') => sexec P rec b t' h'
    | r => r
  | .cond c x y, t, h => match aeval t c with
    | .bool true => sexec P rec x t h
    | .bool false => sexec P rec y t h
    | _ => none
  | .block id b, t, h => match sexec P rec b t h with
    | some (.exit j, t', h') => bif Nat.beq j id then some (.normal, t', h') else some (.exit j, t', h')
    | r => r
  | .exit id, t, h => some (.exit id, t, h)
  | .ret, t, h => some (.ret, t, h)
  | _, _, _ => none

section
variable {P : Program} {base : Nat} {rec : Rec} {ro : Option Nat} {n : Nat}
theorem sexec_sound (hrec : RecOK P base rec) (hrd : RecD rec) : ∀ (c : Code) (t : Tm) (h : Heap) (r : AEx × Tm × Heap), sexec P rec c t h = some r → ∀ (a : Act) (w : World) (σ : Sig), LRep (· < h.next) σ t a.tmps.toList → DRep (· < h.next) σ h.dfs a.defers → Rep base (· < h.next) σ h.get w →
    c.wpIn (wideAt ro) n P (Lvs base h σ w r) a w := by
  intro c
  induction c with
  | skip =>
    intro t h r hr a w σ hT hD hrep
    simp only [sexec, Option.some.injEq] at hr
    subst hr
    exact wpIn_skip ⟨rfl, σ, hT, hD, .refl hrep⟩
  | region id ops draw =>
    intro t h r hr a w σ hT hD hrep
    simp only [sexec] at hr
    cases hb : (draw || !noDfr ops) with
    | true => rw [hb] at hr; cases hr
    | false =>
      rw [hb] at hr
      simp only [Bool.or_eq_false_iff, Bool.not_eq_false'] at hb
      obtain ⟨rfl, hno⟩ := hb
      simp only [cond_false] at hr
      cases hx : aops P rec ops (List.range ops.size) t h with
      | none => rw [hx] at hr; cases hr
      | some x =>
        obtain ⟨t1, h1⟩ := x
        rw [hx] at hr
        simp only [Option.map_some, Option.some.injEq] at hr
        subst hr
        refine wpIn_region ?_
        rw [← List.append_nil (List.range ops.size)]
        exact aopsIn_sound hrec hrd hno _ _ _ _ _ hx [] a w σ _ hT hD hrep fun a' w' σ' h1 h2 h3 => ⟨rfl, σ', h1, h2, h3⟩
  | seq x y ihx ihy =>
    intro t h r hr a w σ hT hD hrep
    simp only [sexec] at hr
    refine wpIn_seq ?_
    cases hx : sexec P rec x t h with
    | none => rw [hx] at hr; cases hr
    | some q =>
      obtain ⟨e, t1, h1⟩ := q
      rw [hx] at hr
      refine wpIn_mono (ihx _ _ _ hx a w σ hT hD hrep) ?_
      rintro ex a1 w1 ⟨rfl, σ1, hT1, hD1, hm1⟩
      cases e with
      | normal =>
        simp only at hr
        simp only [toExit, Exit.then]
        exact wpIn_mono (ihy _ _ _ hr a1 w1 σ1 hT1 hD1 hm1.rep) fun e a' w' hl => hl.trans hm1
      | exit i => simp only [Option.some.injEq] at hr; subst hr; exact ⟨rfl, σ1, hT1, hD1, hm1⟩
      | ret => simp only [Option.some.injEq] at hr; subst hr; exact ⟨rfl, σ1, hT1, hD1, hm1⟩
      | goto l => simp only [Option.some.injEq] at hr; subst hr; exact ⟨rfl, σ1, hT1, hD1, hm1⟩
  | cond c x y ihx ihy =>
    intro t h r hr a w σ hT hD hrep
    simp only [sexec] at hr
    have hev := eval_rep hT hrep.gl.names c
    split at hr
    · rename_i e
      rw [e] at hev
      exact wpIn_cond_true hev.inv_bool (ihx _ _ _ hr a w σ hT hD hrep)
    · rename_i e
      rw [e] at hev
      exact wpIn_cond_false hev.inv_bool (ihy _ _ _ hr a w σ hT hD hrep)
    · cases hr
  | block id b ih =>
    intro t h r hr a w σ hT hD hrep
    simp only [sexec] at hr
    refine wpIn_block ?_
    cases hx : sexec P rec b t h with
    | none => rw [hx] at hr; cases hr
    | some q =>
      obtain ⟨e, t1, h1⟩ := q
      rw [hx] at hr
      refine wpIn_mono (ih _ _ _ hx a w σ hT hD hrep) ?_
      rintro ex a1 w1 ⟨rfl, σ1, hT1, hD1, hm1⟩
      cases e with
      | normal => simp only [Option.some.injEq] at hr; subst hr; exact ⟨rfl, σ1, hT1, hD1, hm1⟩
      | exit j =>
        simp only at hr
        simp only [toExit, Exit.inBlock]
        cases hb : Nat.beq j id with
        | true =>
          rw [hb] at hr
          simp only [cond_true, Option.some.injEq] at hr
          subst hr
          rw [if_pos (Nat.eq_of_beq_eq_true hb)]
          exact ⟨rfl, σ1, hT1, hD1, hm1⟩
        | false =>
          rw [hb] at hr
          simp only [cond_false, Option.some.injEq] at hr
          subst hr
          rw [if_neg (fun e => by subst e; simp at hb)]
          exact ⟨rfl, σ1, hT1, hD1, hm1⟩
      | ret => simp only [Option.some.injEq] at hr; subst hr; exact ⟨rfl, σ1, hT1, hD1, hm1⟩
      | goto l => simp only [Option.some.injEq] at hr; subst hr; exact ⟨rfl, σ1, hT1, hD1, hm1⟩
  | exit id =>
    intro t h r hr a w σ hT hD hrep
    simp only [sexec, Option.some.injEq] at hr
    subst hr
    exact wpIn_exit ⟨rfl, σ, hT, hD, .refl hrep⟩
  | ret =>
    intro t h r hr a w σ hT hD hrep
    simp only [sexec, Option.some.injEq] at hr
    subst hr
    exact wpIn_ret ⟨rfl, σ, hT, hD, .refl hrep⟩
  | label l => intro t h r hr; cases hr
  | loop b ih => intro t h r hr; cases hr
  | scope b ih => intro t h r hr; cases hr
  | goto l => intro t h r hr; cases hr
  | rangeFunc f ps x y _ _ => intro t h r hr; cases hr
  | refuse s => intro t h r hr; cases hr

/-! ### Memory that bears no name -/
/-- Blocks without a name, made since, may turn. -/
theorem Moves.anon {D D' : Nat → Prop} {σ σ' : Sig} {g g' : Nat → Option AObj} {w w1 w2 : World} (hbase : base ≤ w.heap.size) (h : Moves base D σ g w D' σ' g' w1) (hs : w1.heap.size ≤ w2.heap.size) (ho : w2.os = w1.os) (ht : w2.tape = w1.tape) (hou : w2.output = w1.output)
    (hb : ∀ b, b < w1.heap.size → (b < w.heap.size ∨ Owned g' σ' b) → w2.heap[b]? = w1.heap[b]?) : Moves base D σ g w D' σ' g' w2 := by
  have hold : ∀ b, b < base → w2.heap[b]? = w1.heap[b]? := fun b hlt => hb b (by have := h.size; omega) (.inl (by omega))
  refine ⟨h.mono, h.ext, ⟨h.rep.gl.mono (fun _ h => h) (fun _ _ => rfl) hold, ?_, ?_, h.rep.own, h.rep.old, h.rep.inj, Nat.le_trans h.rep.size hs⟩, ho.trans h.os, ht.trans h.tape, hou.trans h.output, Nat.le_trans h.size hs, fun b hb' hn => ?_, h.own⟩
  · intro n c e s gr ro hg
    obtain ⟨hD, C, t, fr, r⟩ := h.rep.obj n c e s gr ro hg
    have hlt : (σ' n).blk < w1.heap.size := (Array.getElem?_eq_some_iff.1 r.heap).1
    have hk : w2.heap[(σ' n).blk]? = w1.heap[(σ' n).blk]? := by
      cases ro with
      | false => exact hb _ hlt (.inr ⟨n, ⟨_, hg, rfl⟩, rfl⟩)
      | true => exact hold _ (h.rep.old n ⟨_, hg, rfl⟩)
    exact ⟨hD, C, t, fr, ⟨by rw [hk]; exact r.heap, r.fit, r.rel, r.mine, r.grow, r.exact⟩⟩
  · intro n o hg
    obtain ⟨hD, h0, o', ho', hrep⟩ := h.rep.oth n o hg
    exact ⟨hD, h0, o', by rw [hb _ (Array.getElem?_eq_some_iff.1 ho').1 (.inr ⟨n, ⟨_, hg, rfl⟩, rfl⟩)]; exact ho', hrep⟩
  · rw [hb b (Nat.lt_of_lt_of_le hb' h.size) (.inl hb')]
    exact h.frame b hb' hn

end
end Go.Proofs.YthhhmmildgijhaaGreatDoorAI
set_option linter.unusedVariables false
set_option linter.unusedSimpArgs false
namespace Go.Proofs.YthhhmmildgijhaaGreatDoorAI
open Go

noncomputable section
/-- One turn of the closure's loop, up to the call of what is handed in. -/
def iterRun (P : Program) (rec : Rec) (X : Code → FStep) (n : Nat) (e0 e1 e2 e3 : Code) (ops : Array Oper) (is : List Nat) (yf : Operand) (u : Fr) (k : Heap) : Option (Tm × Heap × Nat) :=
  match X e0 u k with
  | some (.normal, u1, k1) => match X e1 u1 k1 with
    | some (.normal, u2, k2) => match X e2 u2 k2 with
      | some (.normal, u3, k3) => match X e3 u3 k3 with
        | some (.normal, u4, k4) => match aops P rec ops is (fabs n u4) k4 with
          | some (t5, k5) => match aeval t5 yf with
            | .func (.yield m) a b => bif Nat.beq a.size 0 && Nat.beq b.size 0 && k5.dfs.isEmpty then some (t5, k5, m) else none
            | _ => none
          | none => none
        | _ => none
      | _ => none
    | _ => none
  | _ => none
/-- One round of the range's body. -/
def roundRun (P : Program) (rec : Rec) (asg bdy : Code) (p1 p2 : Nat) (tA : Tm) (v1 v2 : Value) (h : Heap) : Option (Bool × Heap) :=
  match sexec P rec asg ((tA.set p1 v1).set p2 v2) h with
  | some (.normal, t1, h1) => match sexec P rec bdy t1 h1 with
    | some (.normal, _, h2) => bif h1.dfs.isEmpty && h2.dfs.isEmpty then some (true, h2) else none
    | some (.ret, _, h2) => bif h1.dfs.isEmpty && h2.dfs.isEmpty then some (false, h2) else none
    | _ => none
  | _ => none
end

section
variable {P : Program} {base : Nat} {rec : Rec} {N : Nat} {h0 : Heap} {σ0 : Sig} {w0 : World}

/-- Where such a loop stands. -/
structure InR (base : Nat) (h0 : Heap) (σ0 : Sig) (w0 : World) (L : Loop) (tA : Tm) (l : Nat) (h : Heap) (σ : Sig) (w : World) : Prop where
  bs : base ≤ w0.heap.size
  lp : w.heap[l]? = some (.loop L)
  blk : w.heap[L.defers]? = some (.deferred (some []))
  nl : ¬ Owned h.get σ l
  nd : ¬ Owned h.get σ L.defers
  old : w0.heap.size ≤ L.defers
  beh : l = L.defers + 1
  tA : LRep (· < h.next) σ tA L.tmps.toList
  mv : Moves base (· < h0.next) σ0 h0.get w0 (· < h.next) σ h.get w

theorem InR.move {L : Loop} {tA : Tm} {l : Nat} {h h' : Heap} {σ σ' : Sig} {w w' : World} (hI : InR base h0 σ0 w0 L tA l h σ w) (hm : Moves base (· < h.next) σ h.get w (· < h'.next) σ' h'.get w') : InR base h0 σ0 w0 L tA l h' σ' w' := by
  have h1 : l < w.heap.size := (Array.getElem?_eq_some_iff.1 hI.lp).1
  have h2 : L.defers < w.heap.size := (Array.getElem?_eq_some_iff.1 hI.blk).1
  exact ⟨hI.bs, by rw [hm.frame l h1 hI.nl]; exact hI.lp, by rw [hm.frame _ h2 hI.nd]; exact hI.blk,
    fun ho => (hm.own l ho).elim hI.nl (fun hge => by omega), fun ho => (hm.own _ ho).elim hI.nd (fun hge => by omega), hI.old, hI.beh, hI.tA.mono hm.mono hm.ext, hI.mv.trans hm⟩

theorem InR.turn {L L' : Loop} {tA : Tm} {l : Nat} {h : Heap} {σ : Sig} {w : World} (hI : InR base h0 σ0 w0 L tA l h σ w) (hd : L'.defers = L.defers) (ht : L'.tmps = L.tmps) : InR base h0 σ0 w0 L' tA l h σ (w.putObj l (.loop L')) := by
  have h1 : l < w.heap.size := (Array.getElem?_eq_some_iff.1 hI.lp).1
  have hne : L.defers ≠ l := by have := hI.beh; omega
  refine ⟨hI.bs, World.putObj_heap_same h1, by rw [hd, World.putObj_heap_other hne]; exact hI.blk, hI.nl, by rw [hd]; exact hI.nd, by rw [hd]; exact hI.old, by rw [hd]; exact hI.beh, by rw [ht]; exact hI.tA, ?_⟩
  refine hI.mv.anon hI.bs (by rw [World.putObj_size]; exact Nat.le_refl _) rfl rfl rfl fun b hb hor => World.putObj_heap_other ?_
  rintro rfl
  rcases hor with h2 | h2
  · have := hI.old; have := hI.beh; omega
  · exact hI.nl h2

theorem InR.start {L : Loop} {tA : Tm} {h : Heap} {σ : Sig} {w : World} (hbs : base ≤ w0.heap.size) (hT : LRep (· < h.next) σ tA L.tmps.toList) (hm : Moves base (· < h0.next) σ0 h0.get w0 (· < h.next) σ h.get w) (hd : L.defers = w.heap.size) :
    InR base h0 σ0 w0 L tA (w.heap.size + 1) h σ ((w.alloc (.deferred (some []))).alloc (.loop L)) := by
  have hown : ∀ b, Owned h.get σ b → b < w.heap.size := fun b ⟨n, hn, e⟩ => e ▸ hm.rep.nonro_lt hn
  have hsz : (w.alloc (.deferred (some []))).heap.size = w.heap.size + 1 := alloc_size _ _
  have hold : ∀ b, b < w.heap.size → ((w.alloc (.deferred (some []))).alloc (.loop L)).heap[b]? = w.heap[b]? := fun b hb => by
    rw [alloc_heap_lt _ _ (by omega), alloc_heap_lt _ _ hb]
  refine ⟨hbs, ?_, ?_, fun ho => ?_, fun ho => ?_, by rw [hd]; exact hm.size, by rw [hd], hT, ?_⟩
  · have := alloc_heap_new (w.alloc (.deferred (some []))) (.loop L)
    rw [hsz] at this
    exact this
  · rw [hd, alloc_heap_lt _ _ (by omega)]
    exact alloc_heap_new w _
  · have := hown _ ho; omega
  · have := hown _ ho; rw [hd] at this; omega
  · refine hm.anon hbs ?_ rfl rfl rfl fun b hb _ => hold b hb
    rw [alloc_size, hsz]; omega

/-- A frame beside such a loop. -/
def St (base : Nat) (h0 : Heap) (σ0 : Sig) (w0 : World) (L : Loop) (tA : Tm) (l : Nat) (t : Tm) (h : Heap) (a : Act) (w : World) : Prop :=
  ∃ σ, LRep (· < h.next) σ t a.tmps.toList ∧ DRep (· < h.next) σ h.dfs a.defers ∧ InR base h0 σ0 w0 L tA l h σ w

theorem St.piece {L : Loop} {tA : Tm} {l : Nat} {X : Step} {n : Nat} {Y : FStep} {c : Code} (hX : StepOK P base X c) (hs : SameStep n X Y) {t t' : Fr} {h h' : Heap} {e : AEx} (hx : Y t h = some (e, t', h'))
    {a : Act} {w : World} (hA : St base h0 σ0 w0 L tA l (fabs n t) h a w) : c.wpIn (wideAt none) N P (fun ex a' w' => ex = toExit e ∧ St base h0 σ0 w0 L tA l (fabs n t') h' a' w') a w := by
  obtain ⟨σ, h1, h2, h3⟩ := hA
  have hx' : X (fabs n t) h = some (absE n (e, t', h')) := by rw [hs t h, hx]; rfl
  refine (wpIn_wide (n := N)).2 (wp_mono (hX _ _ _ hx' a w σ h1 h2 h3.mv.rep) ?_)
  rintro ex a' w' ⟨he, σ', q1, q2, q3⟩
  exact ⟨he, σ', q1, q2, h3.move q3⟩
theorem St.seq {L : Loop} {tA : Tm} {l : Nat} {X : Step} {n : Nat} {Y : FStep} {c d : Code} (hX : StepOK P base X c) (hs : SameStep n X Y) {t t' : Fr} {h h' : Heap} (hx : Y t h = some (.normal, t', h'))
    {Q : Exit → Act → World → Prop} {a : Act} {w : World} (hA : St base h0 σ0 w0 L tA l (fabs n t) h a w) (hd : ∀ a' w', St base h0 σ0 w0 L tA l (fabs n t') h' a' w' → d.wpIn (wideAt none) N P Q a' w') : (c.seq d).wpIn (wideAt none) N P Q a w := by
  refine wpIn_seq (wpIn_mono (St.piece hX hs hx hA) ?_)
  rintro ex a' w' ⟨rfl, hA'⟩
  exact hd a' w' hA'
theorem At.seqIn {X : Step} {n : Nat} {Y : FStep} {c d : Code} (hX : StepOK P base X c) (hs : SameStep n X Y) {t t' : Fr} {h h' : Heap} (hx : Y t h = some (.normal, t', h'))
    {Q : Exit → Act → World → Prop} {a : Act} {w : World} (hA : At base h0 σ0 w0 (fabs n t) h a w) (hd : ∀ a' w', At base h0 σ0 w0 (fabs n t') h' a' w' → d.wpIn (wideAt none) N P Q a' w') : (c.seq d).wpIn (wideAt none) N P Q a w := by
  refine wpIn_seq ((wpIn_wide (n := N)).2 (wp_mono (At.piece hX hs hx hA) ?_))
  rintro ex a' w' ⟨rfl, hA'⟩
  exact hd a' w' hA'

/-- What a round leaves of the loop's record. -/
def lafter (L : Loop) (b : Bool) : Loop := { L with state := if b then .ready else .done, pending := if b then none else some .ret }

theorem round_sound (hrec : RecOK P base rec) (hrd : RecD rec) {L : Loop} {tA : Tm} {l p1 p2 : Nat} {v1 v2 v1' v2' : Value} {h h2 : Heap} {b : Bool} (hrun : roundRun P rec L.assign L.body p1 p2 tA v1 v2 h = some (b, h2))
    (hst : L.state = .ready) (hpe : L.pending = none) {σ : Sig} {w : World} (hI : InR base h0 σ0 w0 L tA l h σ w) (hv1 : VRep (· < h.next) σ v1 v1') (hv2 : VRep (· < h.next) σ v2 v2') (hdf : h.dfs = []) :
    RoundIn (wideAt none) N P l L.fn ((L.tmps.setIfInBounds p1 v1').setIfInBounds p2 v2') L.assign L.body w fun e w' => e = .returned (.bool b) ∧ ∃ σ', InR base h0 σ0 w0 (lafter L b) tA l h2 σ' w' ∧ (∀ n, n < h.next → n < h2.next) ∧ ∀ n, n < h.next → σ' n = σ n := by
  refine roundIn_of_wpIn trivial ?_
  unfold roundRun at hrun
  split at hrun
  case h_2 => cases hrun
  rename_i t1 h1 x1
  have hT0 : LRep (· < h.next) σ ((tA.set p1 v1).set p2 v2) ((L.tmps.setIfInBounds p1 v1').setIfInBounds p2 v2').toList := by
    simp only [Array.toList_setIfInBounds]
    exact (hI.tA.set p1 hv1).set p2 hv2
  have w1 := sexec_sound (ro := some l) (n := N) hrec hrd L.assign _ _ _ x1 { tmps := (L.tmps.setIfInBounds p1 v1').setIfInBounds p2 v2', defers := [] } w σ hT0 (by rw [hdf]; exact .nil) hI.mv.rep
  refine wpIn_mono w1 ?_
  rintro ex a1 w1 ⟨rfl, σ1, hT1, hD1, hm1⟩
  simp only [toExit, Exit.then]
  have hI1 := hI.move hm1
  have hbr := run_beginRound (P := P) hI1.lp hst
  refine ⟨_, hbr, ?_⟩
  have hI2 : InR base h0 σ0 w0 { L with state := .busy } tA l h1 σ1 (w1.putObj l (.loop { L with state := .busy })) := hI1.turn rfl rfl
  have fin : ∀ (e : AEx) (t2 : Tm) (h2 : Heap) (c : Bool), sexec P rec L.body t1 h1 = some (e, t2, h2) → ((e = .normal ∧ c = true) ∨ (e = .ret ∧ c = false)) →
      L.body.wpIn (wideAt (some l)) N P (roundPost P l fun e w' => e = .returned (.bool c) ∧ ∃ σ', InR base h0 σ0 w0 (lafter L c) tA l h2 σ' w' ∧ (∀ n, n < h.next → n < h2.next) ∧ ∀ n, n < h.next → σ' n = σ n) a1 (w1.putObj l (.loop { L with state := .busy })) := by
    intro e t2 h2 c x2 hec
    have w2 := sexec_sound (ro := some l) (n := N) hrec hrd L.body _ _ _ x2 a1 (w1.putObj l (.loop { L with state := .busy })) σ1 hT1 hD1 hI2.mv.rep
    refine wpIn_mono w2 ?_
    rintro ex a2 w2 ⟨rfl, σ2, hT2, hD2, hm2⟩
    have hI3 := hI2.move hm2
    have hmono : ∀ n, n < h.next → n < h2.next := fun n hn => hm2.mono n (hm1.mono n hn)
    have hext : ∀ n, n < h.next → σ2 n = σ n := fun n hn => (hm2.ext n (hm1.mono n hn)).trans (hm1.ext n hn)
    rcases hec with ⟨rfl, rfl⟩ | ⟨rfl, rfl⟩
    · exact ⟨_, _, run_endRound none hI3.lp, rfl, σ2, hI3.turn (L' := lafter L true) rfl rfl, hmono, hext⟩
    · exact ⟨_, _, run_endRound (some .ret) hI3.lp, rfl, σ2, hI3.turn (L' := lafter L false) rfl rfl, hmono, hext⟩
  split at hrun
  · rename_i t2 h2' x2
    cases hb : h1.dfs.isEmpty && h2'.dfs.isEmpty with
    | false => rw [hb] at hrun; cases hrun
    | true =>
      rw [hb] at hrun
      simp only [cond_true, Option.some.injEq, Prod.mk.injEq] at hrun
      obtain ⟨rfl, rfl⟩ := hrun
      exact fin _ _ _ _ x2 (.inl ⟨rfl, rfl⟩)
  · rename_i t2 h2' x2
    cases hb : h1.dfs.isEmpty && h2'.dfs.isEmpty with
    | false => rw [hb] at hrun; cases hrun
    | true =>
      rw [hb] at hrun
      simp only [cond_true, Option.some.injEq, Prod.mk.injEq] at hrun
      obtain ⟨rfl, rfl⟩ := hrun
      exact fin _ _ _ _ x2 (.inr ⟨rfl, rfl⟩)
  · cases hrun

theorem roundRun_dfs {asg bdy : Code} {p1 p2 : Nat} {tA : Tm} {v1 v2 : Value} {h h2 : Heap} {b : Bool} (hrun : roundRun P rec asg bdy p1 p2 tA v1 v2 h = some (b, h2)) : h2.dfs = [] := by
  unfold roundRun at hrun
  split at hrun
  case h_2 => cases hrun
  rename_i t1 h1 _
  split at hrun
  · rename_i t2 h2' _
    cases hb : h1.dfs.isEmpty && h2'.dfs.isEmpty with
    | false => rw [hb] at hrun; cases hrun
    | true =>
      rw [hb] at hrun
      simp only [cond_true, Option.some.injEq, Prod.mk.injEq] at hrun
      obtain ⟨rfl, rfl⟩ := hrun
      simp only [Bool.and_eq_true] at hb
      exact List.isEmpty_iff.1 hb.2
  · rename_i t2 h2' _
    cases hb : h1.dfs.isEmpty && h2'.dfs.isEmpty with
    | false => rw [hb] at hrun; cases hrun
    | true =>
      rw [hb] at hrun
      simp only [cond_true, Option.some.injEq, Prod.mk.injEq] at hrun
      obtain ⟨rfl, rfl⟩ := hrun
      simp only [Bool.and_eq_true] at hb
      exact List.isEmpty_iff.1 hb.2
  · cases hrun

theorem iter_sound (hrec : RecOK P base rec) (hrd : RecD rec) {X : Code → Step} {Y : Code → FStep} {n : Nat} (hX : ∀ c, StepOK P base (X c) c) (hS : ∀ c, SameStep n (X c) (Y c))
    {e0 e1 e2 e3 e4 : Code} {id m : Nat} {ops : Array Oper} {is js : List Nat} {iy : Nat} {oy : Oper} {yf x y : Operand} {ty : Array TypeId} (hno : noDfr ops = true) (his : List.range ops.size = is ++ iy :: js) (hoy : ops[iy]? = some oy) (hyo : oy.op = .call { callee := .value yf, args := #[x, y], argTypes := ty }) (hyg : oy.guard = none)
    {L : Loop} {tA : Tm} {l p1 p2 : Nat} (hps : L.params = #[p1, p2]) (hst : L.state = .ready) (hpe : L.pending = none)
    {u : Fr} {k k5 k6 k8 : Heap} {t5 t8 : Tm} {b : Bool} (hit : iterRun P rec Y n e0 e1 e2 e3 ops is yf u k = some (t5, k5, l)) (hro : roundRun P rec L.assign L.body p1 p2 tA (aeval t5 x) (aeval t5 y) k5 = some (b, k6))
    (hjs : aops P rec ops js (tput t5 oy.dst (.bool b)) k6 = some (t8, k8))
    {Q : Exit → Act → World → Prop} {a : Act} {w : World} (hA : St base h0 σ0 w0 L tA l (fabs n u) k a w) (hQ : ∀ a' w', St base h0 σ0 w0 (lafter L b) tA l t8 k8 a' w' → e4.wpIn (wideAt none) N P (Exit.inBlock m Q) a' w') :
    (e0.seq (.block m (e1.seq (e2.seq (e3.seq ((Code.region id ops false).seq e4)))))).wpIn (wideAt none) N P Q a w := by
  unfold iterRun at hit
  split at hit
  case h_2 => cases hit
  rename_i u1 k1 x0
  split at hit
  case h_2 => cases hit
  rename_i u2 k2 x1
  split at hit
  case h_2 => cases hit
  rename_i u3 k3 x2
  split at hit
  case h_2 => cases hit
  rename_i u4 k4 x3
  split at hit
  case h_2 => cases hit
  rename_i t5' k5' x4
  split at hit
  case h_2 => cases hit
  rename_i q ca cb hyf
  cases hb : Nat.beq ca.size 0 && Nat.beq cb.size 0 && k5'.dfs.isEmpty with
  | false => rw [hb] at hit; cases hit
  | true =>
    rw [hb] at hit
    simp only [cond_true, Option.some.injEq, Prod.mk.injEq] at hit
    obtain ⟨rfl, rfl, rfl⟩ := hit
    simp only [Bool.and_eq_true] at hb
    obtain ⟨⟨hca, hcb⟩, hdf⟩ := hb
    have hdf := List.isEmpty_iff.1 hdf
    have hca : ca = #[] := Array.eq_empty_of_size_eq_zero (Nat.eq_of_beq_eq_true hca)
    have hcb : cb = #[] := Array.eq_empty_of_size_eq_zero (Nat.eq_of_beq_eq_true hcb)
    subst hca hcb
    refine St.seq (hX e0) (hS e0) x0 hA fun a1 w1 hA1 => ?_
    refine wpIn_block ?_
    refine St.seq (hX e1) (hS e1) x1 hA1 fun a2 w2 hA2 => ?_
    refine St.seq (hX e2) (hS e2) x2 hA2 fun a3 w3 hA3 => ?_
    refine St.seq (hX e3) (hS e3) x3 hA3 fun a4 w4 hA4 => ?_
    refine wpIn_seq (wpIn_region ?_)
    rw [his]
    obtain ⟨σ4, hT4, hD4, hI4⟩ := hA4
    refine aopsIn_sound hrec hrd hno is _ _ _ _ x4 (iy :: js) a4 w4 σ4 _ hT4 hD4 hI4.mv.rep ?_
    intro a5 w5 σ5 hT5 hD5 hm5
    have hI5 := hI4.move hm5
    unfold wpOpsIn
    rw [hoy]
    simp only
    have hw : Region.wanted oy (yielded ops a5.tmps) = true := by simp [Region.wanted, hyg]
    rw [hw]
    simp only [if_true]
    have hev := eval_rep hT5 hI5.mv.rep.gl.names
    have hyv : a5.eval yf = .func (.yield q) #[] #[] := by
      have h1 := hev yf
      rw [hyf] at h1
      obtain ⟨c, d, h2, h3, h4⟩ := h1.inv_func
      have e1 : c = #[] := Array.eq_empty_of_size_eq_zero (by have := h3.size; simpa using this.symm)
      have e2 : d = #[] := Array.eq_empty_of_size_eq_zero (by have := h4.size; simpa using this.symm)
      rw [h2, e1, e2]
    refine ⟨fun _ _ => trivial, ?_⟩
    have hs : oy.semAt (wideAt none).round a5.eval = execOp a5.eval oy := Oper.semAt_eq _ _ _ (noDfr_at hno hoy)
    have hy := run_yield (P := P) (args := #[a5.eval x, a5.eval y]) hI5.lp (by rw [hps]; rfl)
    have hrunY : (oy.semAt (wideAt none).round a5.eval).run P w5 = .ok (.round q L.fn ((L.tmps.setIfInBounds p1 (a5.eval x)).setIfInBounds p2 (a5.eval y)) L.assign L.body) w5 := by
      rw [hs]
      have : (execOp a5.eval oy).run P w5 = (Instr.yield q #[a5.eval x, a5.eval y]).run P w5 := by
        simp [execOp, hyo, resolve, hyv, Deferred.ofValue, invoke]
      rw [this, hy, hps]
      simp
    rw [hrunY]
    refine ⟨fun hd => (by cases hd), ?_⟩
    refine (round_sound (N := N - 1) hrec hrd hro hst hpe hI5 (hev x) (hev y) hdf).mono ?_
    rintro ex w6 ⟨rfl, σ6, hI6, hmono, hext⟩
    have hd6 : k6.dfs = [] := roundRun_dfs hro
    have hT6 : LRep (· < k6.next) σ6 (tput t5' oy.dst (.bool b)) (a5.put oy.dst (.bool b)).tmps.toList := put_rep (hT5.mono hmono hext) oy.dst (.bool b)
    have hD6 : DRep (· < k6.next) σ6 k6.dfs (a5.put oy.dst (.bool b)).defers := by
      rw [hd6, put_defers']
      rw [hdf] at hD5
      rw [hD5.nil_inv]; exact .nil
    show wpOpsIn (wideAt none) N P ops _ js (a5.put oy.dst (.bool b)) w6
    rw [← List.append_nil js]
    refine aopsIn_sound hrec hrd hno js _ _ _ _ hjs [] _ w6 σ6 _ hT6 hD6 hI6.mv.rep ?_
    intro a8 w8 σ8 hT8 hD8 hm8
    exact hQ a8 w8 ⟨σ8, hT8, hD8, hI6.move hm8⟩

end
end Go.Proofs.YthhhmmildgijhaaGreatDoorAI
set_option linter.unusedVariables false
set_option linter.unusedSimpArgs false
namespace Go.Proofs.YthhhmmildgijhaaGreatDoorAI
open Go

noncomputable section
/-- The pieces of such a function and of the closure. -/
structure Rng where
  gB : FuncId
  fnA : Func
  fnB : Func
  c0 : Code
  c1 : Code
  c2 : Code
  c3 : Code
  c4 : Code
  i : Nat
  g : Operand
  p1 : Nat
  p2 : Nat
  asg : Code
  bdy : Code
  Z : Code
  d0 : Code
  d1 : Code
  j : Nat
  m : Nat
  e0 : Code
  e1 : Code
  e2 : Code
  e3 : Code
  e4 : Code
  id : Nat
  ops : Array Oper
  is : List Nat
  js : List Nat
  iy : Nat
  oy : Oper
  yf : Operand
  x : Operand
  y : Operand
def Rng.bodyA (R : Rng) : Code := R.c0.seq (R.c1.seq (R.c2.seq (R.c3.seq ((R.c4.seq (.block R.i (.rangeFunc R.g #[R.p1, R.p2] R.asg R.bdy))).seq R.Z))))
def Rng.bodyB (R : Rng) : Code := R.d0.seq (R.d1.seq (.block R.j (.loop (R.e0.seq (.block R.m (R.e1.seq (R.e2.seq (R.e3.seq ((Code.region R.id R.ops false).seq R.e4)))))))))

/-- The closure's run, from its frame on; the range's frame beside it. -/
def rngB (P : Program) (rec : Rec) (R : Rng) (Y : Code → FStep) (n : Nat) (tA : Tm) (u : Fr) (k : Heap) : Option (Heap × List Nat) :=
  match Y R.d0 u k with
  | some (.normal, u1, k1) => match Y R.d1 u1 k1 with
    | some (.normal, u2, k2) => match iterRun P rec Y n R.e0 R.e1 R.e2 R.e3 R.ops R.is R.yf u2 k2 with
      | some (t5, k5, m1) => match roundRun P rec R.asg R.bdy R.p1 R.p2 tA (aeval t5 R.x) (aeval t5 R.y) k5 with
        | some (true, k6) => match aops P rec R.ops R.js (tput t5 R.oy.dst (.bool true)) k6 with
          | some (t8, k8) => match sexec P rec R.e4 t8 k8 with
            | some (.normal, t9, k9) => bif Nat.beq t9.length n then match iterRun P rec Y n R.e0 R.e1 R.e2 R.e3 R.ops R.is R.yf (fstart t9) k9 with
              | some (t10, k10, m2) => match roundRun P rec R.asg R.bdy R.p1 R.p2 tA (aeval t10 R.x) (aeval t10 R.y) k10 with
                | some (false, k11) => match aops P rec R.ops R.js (tput t10 R.oy.dst (.bool false)) k11 with
                  | some (t13, k13) => match sexec P rec R.e4 t13 k13 with
                    | some (.ret, t14, k14) => match aresults P R.fnB t14 k14 with
                      | some _ => bif k14.dfs.isEmpty then some (k14, [m1, m2]) else none
                      | none => none
                    | _ => none
                  | none => none
                | _ => none
              | none => none
              else none
            | _ => none
          | none => none
        | _ => none
      | none => none
    | _ => none
  | _ => none

def rngA (P : Program) (ks : Scr) (rec : Rec) (k : Nat) (e : Fre) (R : Rng) (l : Nat) : Option (List Nat) :=
  match fexecL P (ks e.g) rec (fsize R.fnA e.args) k 2 R.c0 (fstart e.args) .empty with
  | some (.normal, t1, h1) => match fexecL P (ks e.g) rec (fsize R.fnA e.args) k 2 R.c1 t1 h1 with
    | some (.normal, t2, h2) => match fexecL P (ks e.g) rec (fsize R.fnA e.args) k 2 R.c2 t2 h2 with
      | some (.normal, t3, h3) => match fexecL P (ks e.g) rec (fsize R.fnA e.args) k 2 R.c3 t3 h3 with
        | some (.normal, t4, h4) => match fexecL P (ks e.g) rec (fsize R.fnA e.args) k 2 R.c4 t4 h4 with
          | some (.normal, t5, h5) => match fev (fsize R.fnA e.args) t5 R.g with
            | .func (.func q) first cap => bif Nat.beq q R.gB && h5.dfs.isEmpty && enters P q then
              match rngB P rec R (fexecL P (ks q) rec (fsize R.fnB (first.toList ++ [.func (.yield l) #[] #[]] ++ cap.toList)) k 2) (fsize R.fnB (first.toList ++ [.func (.yield l) #[] #[]] ++ cap.toList)) (fabs (fsize R.fnA e.args) t5) (fstart (first.toList ++ [.func (.yield l) #[] #[]] ++ cap.toList)) h5 with
              | some (k14, ms) => bif endsSo e.v e.cnt' e.outs ((fresults P (fsize R.fnA e.args) R.fnA t5 k14).map fun v => (v, k14)) then some ms else none
              | none => none
              else none
            | _ => none
          | _ => none
        | _ => none
      | _ => none
    | _ => none
  | _ => none
end

section
variable {P : Program} {base : Nat} {rec : Rec} {h0 : Heap} {σ0 : Sig} {w0 : World}

theorem rngB_sound (hrec : RecOK P base rec) (hrd : RecD rec) {R : Rng} {ty : Array TypeId} {X : Code → Step} {Y : Code → FStep} {n : Nat} (hX : ∀ c, StepOK P base (X c) c) (hS : ∀ c, SameStep n (X c) (Y c))
    (hno : noDfr R.ops = true) (his : List.range R.ops.size = R.is ++ R.iy :: R.js) (hoy : R.ops[R.iy]? = some R.oy) (hyo : R.oy.op = .call { callee := .value R.yf, args := #[R.x, R.y], argTypes := ty }) (hyg : R.oy.guard = none)
    (hfB : P.funcs[R.gB]? = some R.fnB) (hbB : R.fnB.body = some R.bodyB) {L : Loop} {tA : Tm} {l : Nat} (hps : L.params = #[R.p1, R.p2]) (hst : L.state = .ready) (hpe : L.pending = none) (hasg : L.assign = R.asg) (hbdy : L.body = R.bdy)
    {u : Fr} {k k' : Heap} (hrun : rngB P rec R Y n tA u k = some (k', [l, l])) {args : Array Value} {w : World} (hA : St base h0 σ0 w0 L tA l (fabs n u) k { tmps := args ++ Array.replicate (R.fnB.ntmps - args.size) undef, defers := [] } w) :
    CallsIn (wideAt none) 1 P R.gB args w fun e w' => (∃ v, e = .returned v) ∧ ∃ σ', InR base h0 σ0 w0 (lafter (lafter L true) false) tA l k' σ' w' ∧ k'.dfs = [] := by
  unfold rngB at hrun
  split at hrun
  case h_2 => cases hrun
  rename_i u1 k1 x0
  split at hrun
  case h_2 => cases hrun
  rename_i u2 k2 x1
  split at hrun
  case h_2 => cases hrun
  rename_i t5 k5 m1 x2
  split at hrun
  case h_2 => cases hrun
  rename_i k6 x3
  split at hrun
  case h_2 => cases hrun
  rename_i t8 k8 x4
  split at hrun
  case h_2 => cases hrun
  rename_i t9 k9 x5
  cases hlen : Nat.beq t9.length n with
  | false => rw [hlen] at hrun; cases hrun
  | true =>
    rw [hlen] at hrun
    simp only [cond_true] at hrun
    have hlen := Nat.eq_of_beq_eq_true hlen
    split at hrun
    case h_2 => cases hrun
    rename_i t10 k10 m2 x6
    split at hrun
    case h_2 => cases hrun
    rename_i k11 x7
    split at hrun
    case h_2 => cases hrun
    rename_i t13 k13 x8
    split at hrun
    case h_2 => cases hrun
    rename_i t14 k14 x9
    split at hrun
    case h_2 => cases hrun
    rename_i v14 x10
    cases hdf : k14.dfs.isEmpty with
    | false => rw [hdf] at hrun; cases hrun
    | true =>
      rw [hdf] at hrun
      simp only [cond_true, Option.some.injEq, Prod.mk.injEq, List.cons.injEq, and_true] at hrun
      obtain ⟨rfl, rfl, rfl⟩ := hrun
      have hdf := List.isEmpty_iff.1 hdf
      refine callsIn_of_wp hfB hbB trivial ?_ rfl
      unfold Rng.bodyB
      refine St.seq (hX _) (hS _) x0 hA fun a1 w1 hA1 => ?_
      refine St.seq (hX _) (hS _) x1 hA1 fun a2 w2 hA2 => ?_
      refine wpIn_block ?_
      refine wpIn_loop_rounds 2 ?_
      rw [roundsIn_succ]
      rw [← hasg, ← hbdy] at x3 x7
      refine iter_sound (ty := ty) hrec hrd hX hS hno his hoy hyo hyg hps hst hpe x2 x3 x4 hA2 fun a3 w3 hA3 => ?_
      obtain ⟨σ3, hT3, hD3, hI3⟩ := hA3
      refine wpIn_mono (sexec_sound hrec hrd R.e4 _ _ _ x5 a3 w3 σ3 hT3 hD3 hI3.mv.rep) ?_
      rintro ex a4 w4 ⟨rfl, σ4, hT4, hD4, hm4⟩
      simp only [toExit, Exit.inBlock, Exit.then]
      have hA4 : St base h0 σ0 w0 (lafter L true) tA m2 (fabs n (fstart t9)) k9 a4 w4 := by
        rw [← hlen, fabs_start]
        exact ⟨σ4, hT4, hD4, hI3.move hm4⟩
      rw [roundsIn_succ]
      refine iter_sound (L := lafter L true) (ty := ty) hrec hrd hX hS hno his hoy hyo hyg hps rfl rfl x6 x7 x8 hA4 fun a5 w5 hA5 => ?_
      obtain ⟨σ5, hT5, hD5, hI5⟩ := hA5
      refine wpIn_mono (sexec_sound hrec hrd R.e4 _ _ _ x9 a5 w5 σ5 hT5 hD5 hI5.mv.rep) ?_
      rintro ex a6 w6 ⟨rfl, σ6, hT6, hD6, hm6⟩
      simp only [toExit, Exit.inBlock, Exit.then]
      have hI6 := hI5.move hm6
      obtain ⟨u', hru, hu⟩ := aresults_sound (P := P) x10 hT6 hI6.mv.rep
      simp only at hD6
      rw [hdf] at hD6
      exact ⟨hD6.nil_inv, u', hru, ⟨u', rfl⟩, σ6, hI6, hdf⟩

theorem rng_sound (hmix : P.follows .mixedOrders = true) (ks : Scr) (hrec : RecOK P base rec) (hrd : RecD rec) {k : Nat} {e : Fre} {R : Rng} {ty : Array TypeId}
    (hno : noDfr R.ops = true) (his : List.range R.ops.size = R.is ++ R.iy :: R.js) (hoy : R.ops[R.iy]? = some R.oy) (hyo : R.oy.op = .call { callee := .value R.yf, args := #[R.x, R.y], argTypes := ty }) (hyg : R.oy.guard = none)
    (hfA : P.funcs[e.g]? = some R.fnA) (hbA : R.fnA.body = some R.bodyA) (hfB : P.funcs[R.gB]? = some R.fnB) (hbB : R.fnB.body = some R.bodyB)
    (hrun : ∀ l, rngA P ks rec k e R l = some [l, l]) : FreOK P base e := by
  intro σ w args' hrep hargs
  have hXA : ∀ c, StepOK P base (aexecL P (ks e.g) rec k 2 c) c := aexecL_sound hmix hrec hrd (ks e.g) k 2
  have hSA : ∀ c, SameStep (fsize R.fnA e.args) (aexecL P (ks e.g) rec k 2 c) (fexecL P (ks e.g) rec (fsize R.fnA e.args) k 2 c) := fexecL_eq (fsize R.fnA e.args) (ks e.g) k 2
  have hrun0 := hrun 0
  unfold rngA at hrun
  have hA0 : At base .empty σ w (fabs (fsize R.fnA e.args) (fstart e.args)) .empty { tmps := args' ++ Array.replicate (R.fnA.ntmps - args'.size) undef, defers := [] } w := by
    rw [fstart_eq]
    exact ⟨σ, atmps_rep R.fnA hargs, .nil, .refl hrep⟩
  refine (callsIn_wide (n := 2)).1 (callsIn_of_wp_marks hfA hbA trivial ?_ rfl)
  show Code.wpIn (wideAt none) 2 P R.bodyA _ _ w
  unfold Rng.bodyA
  split at hrun
  case h_2 => exact absurd (hrun 0) (by simp)
  rename_i t1 h1 x0
  split at hrun
  case h_2 => exact absurd (hrun 0) (by simp)
  rename_i t2 h2 x1
  split at hrun
  case h_2 => exact absurd (hrun 0) (by simp)
  rename_i t3 h3 x2
  split at hrun
  case h_2 => exact absurd (hrun 0) (by simp)
  rename_i t4 h4 x3
  split at hrun
  case h_2 => exact absurd (hrun 0) (by simp)
  rename_i t5 h5 x4
  split at hrun
  case h_2 => exact absurd (hrun 0) (by simp)
  rename_i q first cap hg
  cases hb : Nat.beq q R.gB && h5.dfs.isEmpty && enters P q with
  | false => rw [hb] at hrun; exact absurd (hrun 0) (by simp)
  | true =>
    rw [hb] at hrun
    simp only [cond_true] at hrun
    simp only [Bool.and_eq_true] at hb
    obtain ⟨⟨hq, hdf5⟩, henq⟩ := hb
    obtain rfl := Nat.eq_of_beq_eq_true hq
    have hdf5 := List.isEmpty_iff.1 hdf5
    refine At.seqIn (hXA _) (hSA _) x0 hA0 fun a1 w1 hA1 => ?_
    refine At.seqIn (hXA _) (hSA _) x1 hA1 fun a2 w2 hA2 => ?_
    refine At.seqIn (hXA _) (hSA _) x2 hA2 fun a3 w3 hA3 => ?_
    refine At.seqIn (hXA _) (hSA _) x3 hA3 fun a4 w4 hA4 => ?_
    refine wpIn_seq ?_
    refine At.seqIn (hXA _) (hSA _) x4 hA4 fun a5 w5 hA5 => ?_
    obtain ⟨σ5, hT5, hD5, hm5⟩ := hA5
    refine wpIn_block ?_
    refine wpIn_rangeFunc ?_
    intro fn _
    have hev := eval_rep hT5 hm5.rep.gl.names R.g
    rw [← fev_eq, hg] at hev
    obtain ⟨first', cap', hgv, hl1, hl2⟩ := hev.inv_func
    let L : Loop := { state := .ready, pending := none, fn, tmps := a5.tmps, params := #[R.p1, R.p2], assign := R.asg, body := R.bdy, defers := w5.heap.size }
    have hI : InR base .empty σ w L (fabs (fsize R.fnA e.args) t5) (w5.heap.size + 1) h5 σ5 ((w5.alloc (.deferred (some []))).alloc (.loop L)) := InR.start hrep.size hT5 hm5 rfl
    have hen := run_enterLoop_outer (P := P) (w := w5) fn a5.tmps #[R.p1, R.p2] R.asg R.bdy
    refine ⟨w5.heap.size + 1, [{ target := .collected w5.heap.size, args := #[] }], (w5.alloc (.deferred (some []))).alloc (.loop L), { target := .fn (.func R.gB) cap', args := first' ++ #[Value.func (Fn.yield (w5.heap.size + 1)) #[] #[]] }, (w5.alloc (.deferred (some []))).alloc (.loop L), R.gB,
      first' ++ #[Value.func (Fn.yield (w5.heap.size + 1)) #[] #[]] ++ cap', (w5.alloc (.deferred (some []))).alloc (.loop L), hen, ?_, fun _ _ => trivial, ?_, fun hd => (by cases hd), ?_⟩
    · have hec : a5.eval (.const (Value.func (Fn.yield (w5.heap.size + 1)) #[] #[])) = Value.func (Fn.yield (w5.heap.size + 1)) #[] #[] := rfl
      simp [resolve, hgv, Deferred.ofValue, hec]
    · simp [invoke, run_callFunc henq]
    · have hr := hrun (w5.heap.size + 1)
      split at hr
      case h_2 => cases hr
      rename_i k14 ms xB
      cases hend : endsSo e.v e.cnt' e.outs ((fresults P (fsize R.fnA e.args) R.fnA t5 k14).map fun v => (v, k14)) with
      | false => rw [hend] at hr; cases hr
      | true =>
        rw [hend] at hr
        simp only [cond_true, Option.some.injEq] at hr
        subst hr
        have hXB : ∀ c, StepOK P base (aexecL P (ks R.gB) rec k 2 c) c := aexecL_sound hmix hrec hrd (ks R.gB) k 2
        have hargsB : LRep (· < h5.next) σ5 (first.toList ++ [Value.func (Fn.yield (w5.heap.size + 1)) #[] #[]] ++ cap.toList) (first' ++ #[Value.func (Fn.yield (w5.heap.size + 1)) #[] #[]] ++ cap').toList := by
          simp only [Array.toList_append]
          exact (hl1.append (.cons (VRep.func (a := #[]) (b := #[]) (a' := #[]) (b' := #[]) (Fn.yield (w5.heap.size + 1)) rfl rfl (fun i hi => absurd hi (Nat.not_lt_zero i)) (fun i hi => absurd hi (Nat.not_lt_zero i))) .nil)).append hl2
        have hSt : St base .empty σ w L (fabs (fsize R.fnA e.args) t5) (w5.heap.size + 1) (fabs (fsize R.fnB (first.toList ++ [Value.func (Fn.yield (w5.heap.size + 1)) #[] #[]] ++ cap.toList)) (fstart (first.toList ++ [Value.func (Fn.yield (w5.heap.size + 1)) #[] #[]] ++ cap.toList))) h5
            { tmps := (first' ++ #[Value.func (Fn.yield (w5.heap.size + 1)) #[] #[]] ++ cap') ++ Array.replicate (R.fnB.ntmps - (first' ++ #[Value.func (Fn.yield (w5.heap.size + 1)) #[] #[]] ++ cap').size) undef, defers := [] } ((w5.alloc (.deferred (some []))).alloc (.loop L)) := by
          rw [fstart_eq]
          exact ⟨σ5, atmps_rep R.fnB hargsB, by rw [hdf5]; exact .nil, hI⟩
        refine (rngB_sound (R := R) (ty := ty) hrec hrd hXB (fexecL_eq _ (ks R.gB) k 2) hno his hoy hyo hyg hfB hbB (L := L) rfl rfl rfl rfl rfl xB hSt).mono ?_
        rintro ex w6 ⟨⟨v6, rfl⟩, σ6, hI6, hdf6⟩
        have hel := run_endLoop (P := P) hI6.lp (by simp [lafter])
        have hI7 := hI6.turn (L' := { lafter (lafter L true) false with state := .exhausted }) rfl rfl
        refine ⟨_, _, hel, ?_⟩
        refine wpIn_ret ?_
        rw [hdf5] at hD5
        have hd5 : a5.defers = [] := hD5.nil_inv
        show LeavesInM (wideAt none) 2 P R.fnA a5.tmps _ ([{ target := .collected w5.heap.size, args := #[] }] ++ a5.defers) .returning _
        rw [hd5]
        refine ⟨by simp, .inl ⟨_, _, rfl, run_takeDeferred hI7.blk, ?_⟩⟩
        obtain ⟨hh, hre, hc, hsub⟩ := endsSo_some hend
        cases hres : fresults P (fsize R.fnA e.args) R.fnA t5 k14 with
        | none => rw [hres] at hre; cases hre
        | some uu =>
          rw [hres] at hre
          simp only [Option.map_some, Option.some.injEq, Prod.mk.injEq] at hre
          obtain ⟨rfl, rfl⟩ := hre
          rw [← fresults_eq] at hres
          have hdef : (lafter (lafter L true) false).defers = w5.heap.size := rfl
          have hm8 := hI7.mv.anon hI7.bs (w2 := (World.putObj w6 (w5.heap.size + 1) (.loop { lafter (lafter L true) false with state := .exhausted })).putObj w5.heap.size (.deferred none)) (by simp only [World.putObj_size]; exact Nat.le_refl _) rfl rfl rfl fun b hb hor => World.putObj_heap_other (by
            intro hbe
            rcases hor with h2 | h2
            · have h3 : w.heap.size ≤ w5.heap.size := hI7.old
              rw [hbe] at h2
              exact absurd h2 (Nat.not_lt.2 h3)
            · rw [hbe] at h2
              exact hI7.nd h2)
          obtain ⟨u', hru, hu⟩ := aresults_sound (P := P) (a := a5) hres hI7.tA hm8.rep
          have hn : (mkH e.cnt' e.outs).next = k14.next := by show NG + e.cnt' = NG + k14.cnt; rw [hc]
          refine ⟨u', hru, u', σ6, rfl, ?_, ?_⟩
          · rw [hn]; exact hm8.sub hsub
          · rw [hn]; exact hu

end
end Go.Proofs.YthhhmmildgijhaaGreatDoorAI
