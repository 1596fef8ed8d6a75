/- A region that draws its order: the theorem. -/
import Derived.Test.YthhhmmildgijhaaGreatDoorSI9
set_option linter.unusedVariables false
set_option linter.unusedSimpArgs false
namespace Go.Proofs.YthhhmmildgijhaaGreatDoorSI
open Go

/-! ### 1. What binds -/
def GoodAnc (ops : Array Oper) (r : List (List Nat)) : Prop :=
  (∀ j x, x ∈ r.getD j [] → ∃ o, ops[j]? = some o ∧ ∃ e ∈ o.after.toList, Region.binds .any e = true ∧ (e.on = x ∨ (e.on < j ∧ x ∈ r.getD e.on []))) ∧
  (∀ j o, j < r.length → ops[j]? = some o → ∀ e ∈ o.after.toList, Region.binds .any e = true → e.on ∈ r.getD j [])

theorem getD_app_lt {α : Type} {l r : List α} {i : Nat} {d : α} (h : i < l.length) : (l ++ r).getD i d = l.getD i d := by
  simp [List.getD, List.getElem?_append_left h]
theorem getD_ge {α : Type} {l : List α} {i : Nat} {d : α} (h : l.length ≤ i) : l.getD i d = d := by
  simp [List.getD, List.getElem?_eq_none h]

theorem ancGo_good {ops : Array Oper} : ∀ (os : List Oper) (acc : List (List Nat)), (∀ j, os[j]? = ops[acc.length + j]?) → GoodAnc ops acc → acc.length + os.length = ops.size →
    GoodAnc ops (ancGo os acc) ∧ (ancGo os acc).length = ops.size := by
  intro os
  induction os with
  | nil => intro acc _ h hl; exact ⟨h, by simpa [ancGo] using hl⟩
  | cons o os ih =>
    intro acc hos h hl
    have ho : ops[acc.length]? = some o := by have := hos 0; simpa using this.symm
    simp only [ancGo]
    refine ih _ (fun j => by have := hos (j + 1); simp only [List.getElem?_cons_succ] at this; rw [this, List.length_append]; congr 1; simp; omega) ⟨?_, ?_⟩ (by simp at hl ⊢; omega)
    · intro j x hx
      rcases Nat.lt_or_ge j acc.length with hj | hj
      · rw [getD_app_lt hj] at hx
        obtain ⟨o', ho', e, he, hb, hor⟩ := h.1 j x hx
        refine ⟨o', ho', e, he, hb, hor.imp id fun ⟨h1, h2⟩ => ⟨h1, ?_⟩⟩
        rw [getD_app_lt (by omega)]; exact h2
      · rcases Nat.eq_or_lt_of_le hj with hj | hj
        · subst hj
          have e1 : (acc ++ [((o.after.toList.filter (Region.binds .any)).flatMap fun e => e.on :: acc.getD e.on []).eraseDups]).getD acc.length [] = ((o.after.toList.filter (Region.binds .any)).flatMap fun e => e.on :: acc.getD e.on []).eraseDups := by
            simp [List.getD]
          rw [e1, List.mem_eraseDups, List.mem_flatMap] at hx
          obtain ⟨e, he, hx⟩ := hx
          rw [List.mem_filter] at he
          refine ⟨o, ho, e, he.1, he.2, ?_⟩
          rcases List.mem_cons.1 hx with hx | hx
          · exact .inl hx.symm
          · right
            rcases Nat.lt_or_ge e.on acc.length with h1 | h1
            · exact ⟨h1, by rw [getD_app_lt h1]; exact hx⟩
            · rw [getD_ge h1] at hx; cases hx
        · rw [getD_ge (by simp; omega)] at hx; cases hx
    · intro j o' hj ho' e he hb
      rcases Nat.lt_or_ge j acc.length with h1 | h1
      · rw [getD_app_lt h1]; exact h.2 j o' h1 ho' e he hb
      · have : j = acc.length := by simp at hj; omega
        subst this
        rw [ho] at ho'
        cases ho'
        have e1 : (acc ++ [((o.after.toList.filter (Region.binds .any)).flatMap fun e => e.on :: acc.getD e.on []).eraseDups]).getD acc.length [] = ((o.after.toList.filter (Region.binds .any)).flatMap fun e => e.on :: acc.getD e.on []).eraseDups := by
          simp [List.getD]
        rw [e1, List.mem_eraseDups, List.mem_flatMap]
        exact ⟨e, List.mem_filter.2 ⟨he, hb⟩, List.mem_cons_self ..⟩

theorem ancs_good (ops : Array Oper) : GoodAnc ops (ancs ops) ∧ (ancs ops).length = ops.size :=
  ancGo_good ops.toList [] (fun j => by simp) ⟨fun j x hx => by simp at hx, fun j o hj => by simp at hj⟩ (by simp)

theorem isAnc_mem {anc : List (List Nat)} {x y : Nat} : isAnc anc x y = true ↔ x ∈ anc.getD y [] := by
  unfold isAnc; simp

/-- What is listed is closed. -/
theorem anc_closed {ops : Array Oper} {S : Nat → Bool} (hS : ∀ j o, S j = true → ops[j]? = some o → ∀ e ∈ o.after.toList, Region.binds .any e = true → S e.on = true) :
    ∀ (y x : Nat), isAnc (ancs ops) x y = true → S y = true → S x = true := by
  intro y
  induction y using Nat.strongRecOn with
  | _ y ih =>
    intro x hx hy
    obtain ⟨o, ho, e, he, hb, hor⟩ := (ancs_good ops).1.1 y x (isAnc_mem.1 hx)
    have h1 := hS y o hy ho e he hb
    rcases hor with rfl | ⟨hlt, hm⟩
    · exact h1
    · exact ih e.on hlt x (isAnc_mem.2 hm) h1
/-- What is ready has all that binds it behind it. -/
theorem anc_ready {ops : Array Oper} {S : Nat → Bool} (hS : ∀ j o, S j = true → ops[j]? = some o → ∀ e ∈ o.after.toList, Region.binds .any e = true → S e.on = true) {y : Nat} {o : Oper} (ho : ops[y]? = some o)
    (hr : ∀ e ∈ o.after.toList, Region.binds .any e = true → S e.on = true) (x : Nat) (hx : isAnc (ancs ops) x y = true) : S x = true := by
  obtain ⟨o', ho', e, he, hb, hor⟩ := (ancs_good ops).1.1 y x (isAnc_mem.1 hx)
  rw [ho] at ho'
  cases ho'
  have h1 := hr e he hb
  rcases hor with rfl | ⟨hlt, hm⟩
  · exact h1
  · exact anc_closed hS e.on x (isAnc_mem.2 hm) h1

/-! ### 2. The pairs -/
structure PairOK (P : Program) (ops : Array Oper) (x y : Ev) : Prop where
  ne : x.i ≠ y.i
  flt : isAnc (ancs ops) x.i y.i = true ∨ (mayFloat (cls P x.o) (cls P y.o) = true ∧ x.o.apart ops y.o = true)
  not : isAnc (ancs ops) y.i x.i = false
  dst : ∀ d, x.o.dst = some d → y.o.dst ≠ some d
  look : ∀ d, y.o.dst = some d → d ∉ x.o.looksAt ops

theorem pairs_of {P : Program} {ops : Array Oper} : ∀ (evs : List Ev), (∀ e ∈ evs, ops[e.i]? = some e.o) → pairsOk P ops (ancs ops) (evs.map (·.i)) = true → List.Pairwise (PairOK P ops) evs := by
  intro evs
  induction evs with
  | nil => intro _ _; exact .nil
  | cons x evs ih =>
    intro hop hp
    simp only [List.map_cons, pairsOk, Bool.and_eq_true] at hp
    refine List.pairwise_cons.2 ⟨fun y hy => ?_, ih (fun e he => hop e (List.mem_cons_of_mem _ he)) hp.2⟩
    have h1 := List.all_eq_true.1 hp.1 y.i (List.mem_map.2 ⟨y, hy, rfl⟩)
    rw [hop x (List.mem_cons_self ..), hop y (List.mem_cons_of_mem _ hy)] at h1
    simp only [Bool.and_eq_true, Bool.or_eq_true, Bool.not_eq_true'] at h1
    obtain ⟨⟨⟨q0, q1⟩, q2⟩, q3, q4⟩ := h1
    refine ⟨fun e => ?_, q1, q2, fun d hd e => ?_, fun d hd hm => ?_⟩
    · rw [e, Nat.beq_refl] at q0; cases q0
    · rw [hd, e] at q3; simp at q3
    · rw [hd] at q4; simp at q4; exact q4 hm

theorem chain_ops {P : Program} {rec : Rec} {ops : Array Oper} {anc : List (List Nat)} {evs : List Ev} : ∀ {past : List Ev} {t : Tm} {h : Heap} {t' : Tm} {h' : Heap}, Chain P rec ops anc past t h evs t' h' → ∀ e ∈ evs, ops[e.i]? = some e.o := by
  induction evs with
  | nil => intro past t h t' h' _ e he; cases he
  | cons x evs ih =>
    intro past t h t' h' hc e he
    obtain ⟨h1, h2⟩ := hc
    rcases List.mem_cons.1 he with rfl | he
    · exact h1.op
    · exact ih h2 e he

theorem count_lt {S S' : Nat → Bool} {evs : List Ev} {e : Ev} (he : e ∈ evs) (h0 : S e.i = false) (h1 : S' e.i = true) (hm : ∀ i, S i = true → S' i = true) :
    (evs.filter fun x => !S' x.i).length < (evs.filter fun x => !S x.i).length := by
  have le : ∀ l : List Ev, (l.filter fun x => !S' x.i).length ≤ (l.filter fun x => !S x.i).length := by
    intro l
    induction l with
    | nil => simp
    | cons x l ih =>
      simp only [List.filter_cons]
      cases hs : S x.i with
      | true => simp [hm _ hs, ih]
      | false => cases hs' : S' x.i <;> simp <;> omega
  induction evs with
  | nil => cases he
  | cons x evs ih =>
    simp only [List.filter_cons]
    rcases List.mem_cons.1 he with rfl | he
    · simp [h0, h1]; have := le evs; omega
    · have := ih he
      cases hs : S x.i with
      | true => simp [hm _ hs, this]
      | false => cases hs' : S' x.i <;> simp <;> omega

theorem first_out {S : Nat → Bool} : ∀ (evs : List Ev), (∃ e ∈ evs, S e.i = false) → ∃ pre e post, evs = pre ++ e :: post ∧ (∀ x ∈ pre, S x.i = true) ∧ S e.i = false := by
  intro evs
  induction evs with
  | nil => rintro ⟨e, he, _⟩; cases he
  | cons x evs ih =>
    intro h
    cases hs : S x.i with
    | false => exact ⟨[], x, evs, rfl, (fun y hy => by cases hy), hs⟩
    | true =>
      obtain ⟨e, he, h0⟩ := h
      rcases List.mem_cons.1 he with rfl | he
      · rw [hs] at h0; cases h0
      · obtain ⟨pre, e', post, rfl, h1, h2⟩ := ih ⟨e, he, h0⟩
        refine ⟨x :: pre, e', post, rfl, fun y hy => ?_, h2⟩
        rcases List.mem_cons.1 hy with rfl | hy
        · exact hs
        · exact h1 y hy

/-! ### 3. A run in our order -/
theorem shadow {P : Program} {base : Nat} {rec : Rec} (hrec : RecOK P base rec) {ops : Array Oper} {anc : List (List Nat)} {evs : List Ev} : ∀ {past : List Ev} {t : Tm} {h : Heap} {t' : Tm} {h' : Heap}, Chain P rec ops anc past t h evs t' h' →
    (∃ (a : Act) (w : World) (σ : Sig), LRep (· < h.next) σ t a.tmps.toList ∧ Rep base (· < h.next) σ h.get w) → ∃ (a : Act) (w : World) (σ : Sig), LRep (· < h'.next) σ t' a.tmps.toList ∧ Rep base (· < h'.next) σ h'.get w := by
  induction evs with
  | nil => intro past t h t' h' hc hx; obtain ⟨rfl, rfl⟩ := hc; exact hx
  | cons e evs ih =>
    intro past t h t' h' hc hx
    obtain ⟨h1, h2⟩ := hc
    obtain ⟨a, w, σ, hT, hr⟩ := hx
    have e1 := h1.tm
    have e2 := h1.hp
    subst e1; subst e2
    refine ih h2 ?_
    have kind := h1.kind
    unfold EvK at kind
    have go : aop P rec (aeval e.t) e.o e.h = some (e.v, e.h') → ∃ (a : Act) (w : World) (σ : Sig), LRep (· < e.h'.next) σ (tput e.t e.o.dst e.v) a.tmps.toList ∧ Rep base (· < e.h'.next) σ e.h'.get w := fun hop => by
      obtain ⟨v', w', σ', hv, hm⟩ := (aop_sound hrec (eval_rep hT) hr hop).exists
      exact ⟨a.put e.o.dst v', w', σ', put_rep (hT.mono hm.mono hm.ext) _ hv, hm.rep⟩
    cases hk : e.k with
    | off =>
      rw [hk] at kind
      obtain ⟨_, hv, hh⟩ := kind
      rw [hv, hh]
      exact ⟨a.put e.o.dst undef, w, σ, put_rep hT _ undef_rep, hr⟩
    | light =>
      rw [hk] at kind
      obtain ⟨_, hc, hl, hh⟩ := kind
      exact go (by unfold aop; rw [hc]; simp [hl, hh])
    | alloc x =>
      rw [hk] at kind
      obtain ⟨_, hc, mk, hl, hv, hh⟩ := kind
      exact go (by unfold aop; rw [hc]; simp [hl, hv, hh])
    | heavy =>
      rw [hk] at kind
      obtain ⟨_, hc, hl, _⟩ := kind
      exact go (by unfold aop; rw [hc]; exact hl)


/-! ### 4. One operation, out of our order -/
section
variable {P : Program} {base : Nat} {rec : Rec} {ops : Array Oper}

theorem mayFloat_heavy {c : Cls} (h : mayFloat c .heavy = true) : c = .light := by cases c <;> first | rfl | (simp [mayFloat] at h)
theorem mayFloat_light {c : Cls} (h : mayFloat c .light = true) : c = .light := by cases c <;> first | rfl | (simp [mayFloat] at h)

theorem EvK.cls_heavy {anc : List (List Nat)} {past : List Ev} {e : Ev} (h : EvK P rec ops anc past e) (hk : e.k = .heavy) : cls P e.o = .heavy := by
  unfold EvK at h; rw [hk] at h; exact h.2.1
theorem EvK.cls_turns {anc : List (List Nat)} {past : List Ev} {e : Ev} (h : EvK P rec ops anc past e) (hk : e.k.turns = true) : cls P e.o = .heavy ∨ cls P e.o = .alloc := by
  unfold EvK at h
  cases hh : e.k with
  | off => rw [hh] at hk; cases hk
  | light => rw [hh] at hk; cases hk
  | alloc x => rw [hh] at h; exact .inr h.2.1
  | heavy => rw [hh] at h; exact .inl h.2.1

theorem chain_kind {anc : List (List Nat)} {evs : List Ev} : ∀ {past : List Ev} {t : Tm} {h : Heap} {t' : Tm} {h' : Heap}, Chain P rec ops anc past t h evs t' h' → ∀ e ∈ evs, ∃ past', EvK P rec ops anc past' e ∧ ∀ r ∈ past, r ∈ past' := by
  induction evs with
  | nil => intro past t h t' h' _ e he; cases he
  | cons x evs ih =>
    intro past t h t' h' hc e he
    obtain ⟨h1, h2⟩ := hc
    rcases List.mem_cons.1 he with rfl | he
    · exact ⟨past, h1.kind, fun r hr => hr⟩
    · obtain ⟨p, k1, k2⟩ := ih h2 e he
      exact ⟨p, k1, fun r hr => k2 r (List.mem_cons_of_mem _ hr)⟩

theorem step_sound (hrec : RecOK P base rec) {evs : List Ev} {t0 t1 : Tm} {h0 h1 : Heap} (hc : Chain P rec ops (ancs ops) [] t0 h0 evs t1 h1) (hpw : List.Pairwise (PairOK P ops) evs)
    (hsh : ∃ (a : Act) (w : World) (σ : Sig), LRep (· < h0.next) σ t0 a.tmps.toList ∧ Rep base (· < h0.next) σ h0.get w)
    {S S' : Nat → Bool} {pre post : List Ev} {e : Ev} (hev : evs = pre ++ e :: post) (hcl : ∀ x y, isAnc (ancs ops) x y = true → S y = true → S x = true) (hrd : ∀ x, isAnc (ancs ops) x e.i = true → S x = true) (hout : S e.i = false)
    (hS' : S' e.i = true) (hSS : ∀ j, j ≠ e.i → S' j = S j)
    {a : Act} {w : World} {σ : Sig} (hr : Rep base (foldD S evs (· < h0.next)) σ (foldG S evs h0.get) w) (hT : LRep (foldD S evs (· < h0.next)) σ (foldT S evs t0) a.tmps.toList)
    {K : Act → World → Prop} {Q : Exit → Act → World → Prop}
    (hK : ∀ a' w' σ', LRep (foldD S' evs (· < h0.next)) σ' (foldT S' evs t0) a'.tmps.toList → a'.defers = a.defers → Moves base (foldD S evs (· < h0.next)) σ (foldG S evs h0.get) w (foldD S' evs (· < h0.next)) σ' (foldG S' evs h0.get) w' → K a' w') :
    wpOp P ops Q e.i K a w := by
  obtain ⟨c1, c2, c3⟩ := Chain.split (hev ▸ hc)
  have hle1 := c1.le
  have hle3 := c3.le
  have hge : ∀ z ∈ post, e.h'.next ≤ z.h.next := fun z hz => (hle3.2 z hz).1
  have hle2 := c2.le
  rw [hev] at hpw
  obtain ⟨pw1, pw2, pw3⟩ := List.pairwise_append.1 hpw
  obtain ⟨pw4, pw5⟩ := List.pairwise_cons.1 pw2
  have preR : ∀ x ∈ pre, PairOK P ops x e := fun x hx => pw3 x hx e (List.mem_cons_self ..)
  have postR : ∀ y ∈ post, PairOK P ops e y := pw4
  have preS : ∀ x ∈ pre, S' x.i = S x.i := fun x hx => hSS _ (preR x hx).ne
  have postS : ∀ y ∈ post, S' y.i = S y.i := fun y hy => hSS _ (Ne.symm (postR y hy).ne)
  obtain ⟨fp1, fp2, fp3⟩ := fold_congr preS
  obtain ⟨fq1, fq2, fq3⟩ := fold_congr postS
  -- the temporaries
  have slot : ∀ s ∈ e.o.looksAt ops, (foldT S evs t0)[s]? = e.t[s]? := by
    intro s hs
    rw [hev, foldT_append]
    simp only [foldT]
    rw [hout]
    simp only [Bool.false_eq_true, if_false]
    rw [foldT_far (fun y hy hd => (postR y hy).look s hd hs)]
    exact foldT_slot c1 (fun x hx hd => by
      rcases (preR x hx).flt with h | ⟨_, h⟩
      · exact hrd _ h
      · exact absurd hs ((Oper.apart_spec h).1 s hd)) rfl rfl
  have hT' : foldT S' evs t0 = tput (foldT S evs t0) e.o.dst e.v := by
    rw [hev, foldT_append, foldT_append, fp1]
    simp only [foldT, fq1, hS', hout, if_true, Bool.false_eq_true, if_false]
    exact foldT_comm (fun y hy d hd => (postR y hy).dst d hd)
  have op_eq : ∀ x ∈ e.o.op.operands, aeval e.t x = aeval (foldT S evs t0) x := by
    intro x hx
    cases x with
    | tmp s =>
      have := slot s (List.mem_append_left _ (List.mem_filterMap.2 ⟨.tmp s, by simpa using hx, rfl⟩))
      simp only [aeval, List.getD, this]
    | _ => rfl
  have want_eq : awanted ops e.o (foldT S evs t0) = awanted ops e.o e.t := by
    unfold awanted
    cases hg : e.o.guard with
    | none => rfl
    | some jw =>
      obtain ⟨j, want⟩ := jw
      simp only
      cases hd : (ops[j]?).bind (·.dst) with
      | none => rfl
      | some d =>
        have := slot d (List.mem_append_right _ (by simp [hg, hd]))
        simp only [Option.bind_some, this]
  -- the heap
  have hG' : foldG S' evs h0.get = foldG S post (stepG e (foldG S pre h0.get)) := by
    rw [hev, foldG_append, fp2]
    simp only [foldG, fq2, hS', if_true]
  have hD' : foldD S' evs (· < h0.next) = foldD S post (stepD e (foldD S pre (· < h0.next))) := by
    rw [hev, foldD_append, fp3]
    simp only [foldD, fq3, hS', if_true]
  have hG : foldG S evs h0.get = foldG S post (foldG S pre h0.get) := by
    rw [hev, foldG_append]
    simp only [foldG, hout, Bool.false_eq_true, if_false]
  have hD : foldD S evs (· < h0.next) = foldD S post (foldD S pre (· < h0.next)) := by
    rw [hev, foldD_append]
    simp only [foldD, hout, Bool.false_eq_true, if_false]
  have kind := c2.kind
  have noanc : ∀ y ∈ post, isAnc (ancs ops) e.i y.i = true → S y.i = true → False := fun y _ h1 h2 => by
    have := hcl _ _ h1 h2; rw [hout] at this; cases this
  unfold wpOp
  rw [c2.op]
  simp only
  rw [wanted_rep hT (want_eq.trans (show awanted ops e.o e.t = some (match e.k with | .off => false | _ => true) by
    unfold EvK at kind
    cases hk : e.k <;> rw [hk] at kind <;> exact kind.1))]
  cases hk : e.k with
  | off =>
    simp only [Bool.false_eq_true, if_false]
    unfold EvK at kind
    rw [hk] at kind
    have eG : foldG S' evs h0.get = foldG S evs h0.get := by rw [hG', hG]; simp only [stepG, hk]
    have eD : foldD S' evs (· < h0.next) = foldD S evs (· < h0.next) := by rw [hD', hD]; simp only [stepD, hk]
    refine hK _ _ σ ?_ (put_defers' _ _ _) ?_
    · rw [eD, hT', kind.2.1]; exact put_rep hT _ undef_rep
    · rw [eD, eG]; exact .refl hr
  | light =>
    simp only [if_true]
    have kind' := kind
    unfold EvK at kind
    rw [hk] at kind
    obtain ⟨_, hcls, hl, hh⟩ := kind
    have eG : foldG S' evs h0.get = foldG S evs h0.get := by rw [hG', hG]; simp only [stepG, hk]
    have eD : foldD S' evs (· < h0.next) = foldD S evs (· < h0.next) := by rw [hD', hD]; simp only [stepD, hk]
    have hpre : ∀ x ∈ pre, x.k.turns = true → S x.i = true := fun x hx hxk => by
      rcases (preR x hx).flt with h | ⟨h, _⟩
      · exact hrd _ h
      · rw [hcls] at h
        obtain ⟨past', kx, _⟩ := chain_kind c1 x hx
        have h2 := mayFloat_light h
        rcases kx.cls_turns hxk with h3 | h3 <;> rw [h2] at h3 <;> cases h3
    have hwhole := (foldG_whole c1 hpre).1
    have hl2 : light P (aeval (foldT S evs t0)) e.o (foldG S evs h0.get) = some e.v := by
      rw [← light_congrρ op_eq]
      refine light_mono (fun n hn x hx => ?_) hl
      have hnlt : n < e.h'.next := by have := Heap.get_lt hx; omega
      rw [hG, hwhole]
      refine foldG_reads c3 hnlt hx (.inl (by rw [hh]; exact hx)) (fun z hz hSz hkz hzx => ?_) (pw5.imp_of_mem fun {a b} ha hb hR hka hkb hSb => ?_)
      · obtain ⟨past', kz, hpast⟩ := chain_kind c3 z hz
        have kz' := kz
        unfold EvK at kz
        rw [hkz] at kz
        rcases kz.2.2.2 e (hpast e (List.mem_cons_self ..)) hk with h4 | h4
        · exact (noanc z hz h4 hSz).elim
        · exact h4 n hn x hzx
      · rcases hR.flt with h | ⟨h, _⟩
        · exact hcl _ _ h hSb
        · obtain ⟨_, ka, _⟩ := chain_kind c3 a ha
          obtain ⟨_, kb, _⟩ := chain_kind c3 b hb
          rw [kb.cls_heavy hkb] at h
          have := mayFloat_heavy h
          rw [ka.cls_heavy hka] at this
          cases this
    obtain ⟨v', hrun, hv⟩ := light_sound (eval_rep hT) hr hl2
    refine .inl ?_
    unfold Oper.wp
    rw [hrun]
    refine hK _ _ σ ?_ (put_defers' _ _ _) ?_
    · rw [eD, hT']; exact put_rep hT _ hv
    · rw [eD, eG]; exact .refl hr
  | alloc x =>
    simp only [if_true]
    unfold EvK at kind
    rw [hk] at kind
    obtain ⟨_, hcls, mk, hl, hv, hh⟩ := kind
    have hno : ∀ z ∈ post, S z.i = true → z.k ≠ .heavy := fun z hz hSz hkz => by
      rcases (postR z hz).flt with h | ⟨h, _⟩
      · exact noanc z hz h hSz
      · obtain ⟨_, kz, _⟩ := chain_kind c3 z hz
        rw [kz.cls_heavy hkz] at h
        have := mayFloat_heavy h
        rw [hcls] at this
        cases this
    have hlt : e.h.next < e.h'.next := by rw [hh]; exact Nat.lt_succ_self _
    obtain ⟨b1, b2⟩ := foldG_behind (S := S) (e := e) hno hge (fun _ => .inl hlt)
    have eG : foldG S' evs h0.get = fun m => if m = e.h.next then some x else foldG S evs h0.get m := by
      rw [hG', b1, hG]; simp only [stepG, hk]
    have eD : foldD S' evs (· < h0.next) = fun m => foldD S evs (· < h0.next) m ∨ m = e.h.next := by
      rw [hD', hD]
      funext m
      apply propext
      rw [b2]
      simp only [stepD, hk]
    -- the name is new
    have hpreD : ∀ n, foldD S pre (· < h0.next) n → n < e.h.next := by
      have mon : ∀ (l : List Ev) (D : Nat → Prop), (∀ n, D n → n < e.h.next) → (∀ x ∈ l, x.h'.next ≤ e.h.next) → (∀ x ∈ l, x.k.turns = true → x.k ≠ .heavy → x.h.next < e.h.next) → ∀ n, foldD S l D n → n < e.h.next := by
        intro l
        induction l with
        | nil => intro D h _ _ n hn; exact h n hn
        | cons y l ih =>
          intro D h hl1 hl2 n hn
          simp only [foldD] at hn
          refine ih _ ?_ (fun x hx => hl1 x (List.mem_cons_of_mem _ hx)) (fun x hx => hl2 x (List.mem_cons_of_mem _ hx)) n hn
          intro m hm
          split at hm
          · cases hky : y.k with
            | off => simp only [stepD, hky] at hm; exact h m hm
            | light => simp only [stepD, hky] at hm; exact h m hm
            | alloc q =>
              simp only [stepD, hky] at hm
              rcases hm with hm | hm
              · exact h m hm
              · rw [hm]; exact hl2 y (List.mem_cons_self ..) (by rw [hky]; rfl) (by rw [hky]; simp)
            | heavy =>
              simp only [stepD, hky] at hm
              rcases hm with hm | hm
              · have := hl1 y (List.mem_cons_self ..); omega
              · exact h m hm
          · exact h m hm
      refine mon pre _ (fun n hn => by have := hle1.1; omega) (fun x hx => (hle1.2 x hx).2.2) (fun x hx hxk hnh => ?_)
      obtain ⟨_, kx, _⟩ := chain_kind c1 x hx
      unfold EvK at kx
      cases hkx : x.k with
      | off => rw [hkx] at hxk; cases hxk
      | light => rw [hkx] at hxk; cases hxk
      | alloc q =>
        rw [hkx] at kx
        obtain ⟨_, _, _, _, _, e5⟩ := kx
        have := (hle1.2 x hx).2.2
        rw [e5, Heap.next_new] at this
        omega
      | heavy => exact absurd hkx hnh
    have hnew : ¬ foldD S evs (· < h0.next) e.h.next := by
      rw [hD]
      have far : ∀ (l : List Ev) (D : Nat → Prop), ¬ D e.h.next → (∀ z ∈ l, S z.i = true → z.k ≠ .heavy) → (∀ z ∈ l, e.h'.next ≤ z.h.next) → ¬ foldD S l D e.h.next := by
        intro l
        induction l with
        | nil => intro D h _ _; exact h
        | cons y l ih =>
          intro D h q1 q2
          simp only [foldD]
          refine ih _ ?_ (fun z hz => q1 z (List.mem_cons_of_mem _ hz)) (fun z hz => q2 z (List.mem_cons_of_mem _ hz))
          split
          · rename_i hSy
            cases hky : y.k with
            | off => simp only [stepD, hky]; exact h
            | light => simp only [stepD, hky]; exact h
            | alloc q =>
              simp only [stepD, hky]
              rintro (h6 | h6)
              · exact h h6
              · have := q2 y (List.mem_cons_self ..); omega
            | heavy => exact absurd hky (q1 y (List.mem_cons_self ..) hSy)
          · exact h
      exact far post _ (fun h => Nat.lt_irrefl _ (hpreD _ h)) hno hge
    have hl2 := hl
    rw [aalloc_congr op_eq] at hl2
    obtain ⟨c, ty, s, C, v', hx, hrun, hlr, hvv⟩ := aalloc_sound (P := P) (w := w) (eval_rep hT) hl2
    simp only at hx
    have hm := hr.alloc hnew (c := c) (e := ty) (s := s) (gr := false) (C := C) (by have := hlr.len; simp at this; omega) (by rw [hlr.len, List.take_length]; exact hlr)
    rw [← hx] at hm
    refine .inl ?_
    unfold Oper.wp
    rw [hrun]
    refine hK _ _ _ ?_ (put_defers' _ _ _) (by rw [eD, eG]; exact hm)
    rw [eD, hT', hv]
    exact put_rep (hT.mono hm.mono hm.ext) _ (hvv e.h.next _ _ (.inr rfl) (Sig.upd_same _ _ _))
  | heavy =>
    simp only [if_true]
    have kind' := kind
    unfold EvK at kind
    rw [hk] at kind
    obtain ⟨_, hcls, hl, _⟩ := kind
    have hpre : ∀ x ∈ pre, x.k.turns = true → S x.i = true := fun x hx hxk => by
      rcases (preR x hx).flt with h | ⟨h, _⟩
      · exact hrd _ h
      · rw [hcls] at h
        obtain ⟨past', kx, _⟩ := chain_kind c1 x hx
        have h2 := mayFloat_heavy h
        rcases kx.cls_turns hxk with h3 | h3 <;> rw [h2] at h3 <;> cases h3
    have hno : ∀ z ∈ post, S z.i = true → z.k ≠ .heavy := fun z hz hSz hkz => by
      rcases (postR z hz).flt with h | ⟨h, _⟩
      · exact noanc z hz h hSz
      · obtain ⟨_, kz, _⟩ := chain_kind c3 z hz
        rw [kz.cls_heavy hkz] at h
        have := mayFloat_heavy h
        rw [hcls] at this
        cases this
    obtain ⟨w1, w2⟩ := foldG_whole c1 hpre
    obtain ⟨b1, b2⟩ := foldG_behind (S := S) (e := e) hno hge (fun _ => .inr hk)
    have eG : foldG S' evs h0.get = fun m => if m < e.h'.next then e.h'.get m else foldG S evs h0.get m := by
      rw [hG', b1, hG]; simp only [stepG, hk]
    have eD : foldD S' evs (· < h0.next) = fun m => m < e.h'.next ∨ foldD S evs (· < h0.next) m := by
      rw [hD', hD]
      funext m
      apply propext
      rw [b2]
      simp only [stepD, hk]
    -- behind our place stand new blocks alone
    have far : ∀ (l : List Ev) (g : Nat → Option AObj) (D : Nat → Prop), (∀ z ∈ l, S z.i = true → z.k ≠ .heavy) → (∀ z ∈ l, e.h'.next ≤ z.h.next) →
        (∀ n, n < e.h'.next → foldG S l g n = g n) ∧ (∀ n, n < e.h'.next → (foldD S l D n ↔ D n)) ∧ (∀ n, D n → foldD S l D n) := by
      intro l
      induction l with
      | nil => intro g D _ _; exact ⟨fun _ _ => rfl, fun _ _ => Iff.rfl, fun _ h => h⟩
      | cons y l ih =>
        intro g D q1 q2
        have q3 := q2 y (List.mem_cons_self ..)
        simp only [foldG, foldD]
        obtain ⟨i1, i2, i3⟩ := ih (if S y.i = true then stepG y g else g) (if S y.i = true then stepD y D else D) (fun z hz => q1 z (List.mem_cons_of_mem _ hz)) (fun z hz => q2 z (List.mem_cons_of_mem _ hz))
        refine ⟨fun n hn => ?_, fun n hn => ?_, fun n hn => i3 n ?_⟩
        · rw [i1 n hn]
          split
          · rename_i hSy
            cases hky : y.k with
            | off => simp only [stepG, hky]
            | light => simp only [stepG, hky]
            | alloc q => simp only [stepG, hky]; rw [if_neg (by omega)]
            | heavy => exact absurd hky (q1 y (List.mem_cons_self ..) hSy)
          · rfl
        · rw [i2 n hn]
          split
          · rename_i hSy
            cases hky : y.k with
            | off => simp only [stepD, hky]
            | light => simp only [stepD, hky]
            | alloc q => simp only [stepD, hky]; constructor <;> intro h <;> first | exact .inl h | (rcases h with h | h <;> first | exact h | omega)
            | heavy => exact absurd hky (q1 y (List.mem_cons_self ..) hSy)
          · exact Iff.rfl
        · split
          · rename_i hSy
            cases hky : y.k with
            | off => simp only [stepD, hky]; exact hn
            | light => simp only [stepD, hky]; exact hn
            | alloc q => simp only [stepD, hky]; exact .inl hn
            | heavy => exact absurd hky (q1 y (List.mem_cons_self ..) hSy)
          · exact hn
    obtain ⟨f1, f2, f3⟩ := far post (foldG S pre h0.get) (foldD S pre (· < h0.next)) hno hge
    have hsub : ∀ n o, e.h.get n = some o → foldG S evs h0.get n = some o := fun n o hn => by
      have := Heap.get_lt hn
      rw [hG, f1 n (by omega), w1]; exact hn
    have hD0 : ∀ n, n < e.h.next → foldD S evs (· < h0.next) n := fun n hn => by
      rw [hD]; exact f3 n ((w2 n).2 hn)
    have hDx : ∀ n, foldD S evs (· < h0.next) n → n < e.h.next ∨ e.h'.next ≤ n := fun n hn => by
      rcases Nat.lt_or_ge n e.h'.next with h5 | h5
      · rw [hD, f2 n h5] at hn; exact .inl ((w2 n).1 hn)
      · exact .inr h5
    obtain ⟨a2, w2', σ2, hT2, hr2⟩ := shadow hrec c1 hsh
    have hrh : Rep base (· < e.h.next) σ e.h.get w := (hr.sub hsub).both hr2
    have hl2 := hl
    -- what the operation looks at
    classical
    have hρ : ∀ x, VRep (· < e.h.next) σ (if x ∈ e.o.op.operands then aeval e.t x else unk) (a.eval x) := fun x => by
      by_cases hx : x ∈ e.o.op.operands
      · rw [if_pos hx]
        have h6 := eval_rep hT x
        rw [← op_eq x hx] at h6
        exact h6.both (eval_rep hT2 x)
      · rw [if_neg hx]; exact .unk _
    rw [heavy_congr (ρ' := fun x => if x ∈ e.o.op.operands then aeval e.t x else unk) (fun x hx => (if_pos hx).symm)] at hl2
    refine .inl (heavy_sound hrec hρ hrh hl2 _ _ fun v' w' σ' hv hm => ?_)
    have hfr := Moves.framed hr hsub hle2 hD0 hDx hm
    refine hK _ _ _ ?_ (put_defers' _ _ _) (by rw [eD, eG]; exact hfr)
    rw [eD, hT']
    refine put_rep (hT.mono hfr.mono hfr.ext) _ ?_
    exact hv.mono (fun n hn => .inl hn) (fun n hn => if_pos hn)


/-! ### 5. The region -/
theorem adraw_sound (hrec : RecOK P base rec) {ord : List Nat} (hpl : planOk P ops ord = true) {t t' : Tm} {h h' : Heap} (ha : adraw P rec ops (ancs ops) ord [] t h = some (t', h')) {a : Act} {w : World} {σ : Sig}
    (hT : LRep (· < h.next) σ t a.tmps.toList) (hr : Rep base (· < h.next) σ h.get w) {Q : Exit → Act → World → Prop}
    (hQ : ∀ a' w' σ', LRep (· < h'.next) σ' t' a'.tmps.toList → a'.defers = a.defers → Moves base (· < h.next) σ h.get w (· < h'.next) σ' h'.get w' → Q .normal a' w') :
    wpAny P .any ops Q ops.size (Array.replicate ops.size false) a w := by
  unfold planOk at hpl
  simp only [Bool.and_eq_true] at hpl
  obtain ⟨⟨⟨p1, p2⟩, p3⟩, p4⟩ := hpl
  obtain ⟨evs, he, hc⟩ := adraw_chain ord [] [] t h t' h' (fun r hr => by cases hr) ha
  have hops := chain_ops hc
  rw [← he] at p4
  have hpw := pairs_of evs hops p4
  have hsh : ∃ (a : Act) (w : World) (σ : Sig), LRep (· < h.next) σ t a.tmps.toList ∧ Rep base (· < h.next) σ h.get w := ⟨a, w, σ, hT, hr⟩
  have hmem : ∀ i, i < ops.size → ∃ e ∈ evs, e.i = i := fun i hi => by
    have h1 := List.all_eq_true.1 p2 i (List.mem_range.2 hi)
    simp only [Bool.and_eq_true, List.contains_iff_mem] at h1
    rw [← he] at h1
    obtain ⟨e, h2, h3⟩ := List.mem_map.1 h1.1
    exact ⟨e, h2, h3⟩
  have hself : ∀ i, i < ops.size → isAnc (ancs ops) i i = false := fun i hi => by
    have h1 := List.all_eq_true.1 p2 i (List.mem_range.2 hi)
    simp only [Bool.and_eq_true, Bool.not_eq_true'] at h1
    exact h1.2
  have hedge : ∀ (j : Nat) (o : Oper), ops[j]? = some o → ∀ e ∈ o.after.toList, e.on < ops.size := fun j o ho e hx => by
    have h1 := List.all_eq_true.1 p3 o (by rw [← Array.getElem?_toList] at ho; exact List.mem_of_getElem? ho)
    exact blt_lt (List.all_eq_true.1 h1 e hx)
  have main : ∀ (fuel : Nat) (listed : Array Bool) (a1 : Act) (w1 : World) (σ1 : Sig), listed.size = ops.size →
      (∀ j o, listed.getD j false = true → ops[j]? = some o → ∀ e ∈ o.after.toList, Region.binds .any e = true → listed.getD e.on false = true) →
      ((evs.filter fun x => !listed.getD x.i false).length ≤ fuel) → a1.defers = a.defers →
      LRep (foldD (listed.getD · false) evs (· < h.next)) σ1 (foldT (listed.getD · false) evs t) a1.tmps.toList →
      Moves base (· < h.next) σ h.get w (foldD (listed.getD · false) evs (· < h.next)) σ1 (foldG (listed.getD · false) evs h.get) w1 →
      wpAny P .any ops Q fuel listed a1 w1 := by
    have fin : ∀ (listed : Array Bool) (a1 : Act) (w1 : World) (σ1 : Sig), (∀ e ∈ evs, listed.getD e.i false = true) → a1.defers = a.defers →
        LRep (foldD (listed.getD · false) evs (· < h.next)) σ1 (foldT (listed.getD · false) evs t) a1.tmps.toList →
        Moves base (· < h.next) σ h.get w (foldD (listed.getD · false) evs (· < h.next)) σ1 (foldG (listed.getD · false) evs h.get) w1 → Q .normal a1 w1 := by
      intro listed a1 w1 σ1 hall hd hT1 hm1
      obtain ⟨e1, e2⟩ := foldG_whole (S := (listed.getD · false)) hc (fun e he _ => hall e he)
      have e3 := foldT_all (S := (listed.getD · false)) hc hall
      have e4 : foldD (listed.getD · false) evs (· < h.next) = (· < h'.next) := funext fun n => propext (e2 n)
      rw [e4, e3] at hT1
      rw [e4, e1] at hm1
      exact hQ a1 w1 σ1 hT1 hd hm1
    have ready_all : ∀ (listed : Array Bool), listed.size = ops.size → Region.ready .any ops listed = [] → ∀ e ∈ evs, listed.getD e.i false = true := by
      intro listed hsz hnil
      apply Classical.byContradiction
      intro hno
      have hex : ∃ e ∈ evs, listed.getD e.i false = false := by
        apply Classical.byContradiction
        intro h2
        apply hno
        intro e he
        cases hb : listed.getD e.i false with
        | true => rfl
        | false => exact absurd ⟨e, he, hb⟩ h2
      obtain ⟨pre, e, post, rfl, q1, q2⟩ := first_out (S := (listed.getD · false)) evs hex
      have hoe := hops e (by simp)
      have hlt : e.i < ops.size := (Array.getElem?_eq_some_iff.1 hoe).1
      have hrdy : e.i ∈ Region.ready .any ops listed := by
        rw [mem_ready]
        refine ⟨?_, e.o, hoe, fun x hx hb => ?_⟩
        · have hi : e.i < listed.size := by omega
          have q2' : listed.getD e.i false = false := q2
          simp only [Array.getD, hi, dif_pos] at q2' ⊢
          exact q2'
        · have hx' : x ∈ e.o.after.toList := by simpa using hx
          obtain ⟨z, hz, hzi⟩ := hmem x.on (hedge e.i e.o hoe x hx')
          have hanc : isAnc (ancs ops) x.on e.i = true := isAnc_mem.2 ((ancs_good ops).1.2 e.i e.o (by rw [(ancs_good ops).2]; exact hlt) hoe x hx' hb)
          obtain ⟨pw1, pw2, pw3⟩ := List.pairwise_append.1 hpw
          obtain ⟨pw4, pw5⟩ := List.pairwise_cons.1 pw2
          rcases List.mem_append.1 hz with hz | hz
          · rw [← hzi]; exact q1 z hz
          · rcases List.mem_cons.1 hz with rfl | hz
            · rw [← hzi, hself _ hlt] at hanc; cases hanc
            · rw [← hzi, (pw4 z hz).not] at hanc; cases hanc
      rw [hnil] at hrdy
      cases hrdy
    intro fuel
    induction fuel with
    | zero =>
      intro listed a1 w1 σ1 hsz hcl hcnt hd hT1 hm1
      have hall : ∀ e ∈ evs, listed.getD e.i false = true := fun e he => by
        cases hb : listed.getD e.i false with
        | true => rfl
        | false =>
          have h1 : e ∈ evs.filter fun x => !listed.getD x.i false := List.mem_filter.2 ⟨he, by simpa using hb⟩
          have h2 := List.length_pos_of_mem h1
          omega
      refine ⟨?_, fin listed a1 w1 σ1 hall hd hT1 hm1⟩
      apply List.eq_nil_iff_forall_not_mem.2
      intro j hj
      rw [mem_ready] at hj
      obtain ⟨hj, o, ho, _⟩ := hj
      have hlt : j < ops.size := (Array.getElem?_eq_some_iff.1 ho).1
      obtain ⟨e, he, rfl⟩ := hmem j hlt
      have h1 := hall e he
      have hi : e.i < listed.size := by omega
      simp only [Array.getD, hi, dif_pos] at h1 hj
      rw [h1] at hj; cases hj
    | succ fuel ih =>
      intro listed a1 w1 σ1 hsz hcl hcnt hd hT1 hm1
      refine ⟨fun hnil => fin listed a1 w1 σ1 (ready_all listed hsz hnil) hd hT1 hm1, fun i hi => ?_⟩
      rw [mem_ready] at hi
      obtain ⟨hi0, o, ho, hrdy⟩ := hi
      have hlt : i < ops.size := (Array.getElem?_eq_some_iff.1 ho).1
      obtain ⟨e, hme, rfl⟩ := hmem i hlt
      have hil : e.i < listed.size := by omega
      have hout : listed.getD e.i false = false := by
        simp only [Array.getD, hil, dif_pos] at hi0 ⊢; exact hi0
      obtain ⟨pre, post, hev⟩ := List.append_of_mem hme
      have eo : e.o = o := by have := hops e hme; rw [ho] at this; cases this; rfl
      have hin : (listed.setIfInBounds e.i true).getD e.i false = true := by simp [hil]
      have hne : ∀ j, j ≠ e.i → (listed.setIfInBounds e.i true).getD j false = listed.getD j false := fun j hj => getD_set_ne false (Ne.symm hj)
      have hS : ∀ j o, (listed.getD · false) j = true → ops[j]? = some o → ∀ e ∈ o.after.toList, Region.binds .any e = true → (listed.getD · false) e.on = true := hcl
      refine step_sound (S := (listed.getD · false)) (S' := ((listed.setIfInBounds e.i true).getD · false)) hrec hc hpw hsh hev (fun x y => anc_closed hS y x) (fun x => anc_ready hS ho (fun x hx hb => hrdy x (by simpa using hx) hb) x) hout hin hne hm1.rep hT1 (fun a2 w2 σ2 hT2 hd2 hm2 => ?_)
      refine ih _ a2 w2 σ2 (by simpa using hsz) (fun j o' hj ho' x hx hb => ?_) ?_ (hd2.trans hd) hT2 (hm1.trans hm2)
      · by_cases hje : j = e.i
        · subst hje
          rw [ho] at ho'
          cases ho'
          exact getD_set_true (hrdy x (by simpa using hx) hb)
        · rw [hne j hje] at hj
          exact getD_set_true (hcl j o' hj ho' x hx hb)
      · have := count_lt (S := (listed.getD · false)) (S' := ((listed.setIfInBounds e.i true).getD · false)) hme hout hin (fun i hi => getD_set_true hi)
        omega
  have hsz0 : (Array.replicate ops.size false).size = ops.size := by simp
  have hfalse : ∀ j, (Array.replicate ops.size false).getD j false = false := fun j => by
    simp only [Array.getD]
    split <;> simp
  have hfold : ∀ (l : List Ev) (u : Tm) (g : Nat → Option AObj) (D : Nat → Prop), foldT (fun j => (Array.replicate ops.size false).getD j false) l u = u ∧ foldG (fun j => (Array.replicate ops.size false).getD j false) l g = g ∧ foldD (fun j => (Array.replicate ops.size false).getD j false) l D = D := by
    intro l
    induction l with
    | nil => intro u g D; exact ⟨rfl, rfl, rfl⟩
    | cons x l ih =>
      intro u g D
      have ih' := ih u g D
      simp only [hfalse] at ih'
      simp only [foldT, foldG, foldD, hfalse, Bool.false_eq_true, if_false]
      exact ih'
  obtain ⟨z1, z2, z3⟩ := hfold evs t h.get (· < h.next)
  refine main ops.size _ a w σ hsz0 (fun j o hj => by rw [hfalse] at hj; cases hj) ?_ rfl (by rw [z1, z3]; exact hT) (by rw [z2, z3]; exact .refl hr)
  have h1 := List.length_filter_le (fun x => !(Array.replicate ops.size false).getD x.i false) evs
  have h2 : evs.length = ops.size := by
    have h3 := Nat.eq_of_beq_eq_true p1
    rw [← he] at h3
    simpa using h3
  omega

end
end Go.Proofs.YthhhmmildgijhaaGreatDoorSI
