/- A region that draws its order: whatever order the tape gives, what our order answers. -/
import Derived.Test.YthhhmmildgijhaaGreatDoorAI8
set_option linter.unusedVariables false
set_option linter.unusedSimpArgs false
namespace Go.Proofs.YthhhmmildgijhaaGreatDoorAI
open Go

/-! ### 1. Frames -/
section
variable {P : Program} {base : Nat} {D : Nat → Prop} {σ : Sig} {w : World}

theorem eval_rep {t : Tm} {a : Act} (h : LRep D σ t a.tmps.toList) (hG : ∀ n, n < NG → D n ∧ (σ n).blk = n ∧ (σ n).off = 0) (x : Operand) : VRep D σ (aeval t x) (a.eval x) := by
  cases x with
  | tmp i => simp only [aeval, Act.eval]; rw [arr_getD]; exact h.getD i
  | const v =>
    simp only [aeval, Act.eval]
    cases hp : plain v with
    | true => exact VRep.plain_refl 8 hp
    | false => exact .unk _
  | global g =>
    simp only [aeval, Act.eval]
    cases hb : Nat.blt g NG with
    | false => exact .unk _
    | true =>
      obtain ⟨h1, h2, h3⟩ := hG g (blt_lt hb)
      have := VRep.ptr (D := D) (σ := σ) (off := 0) h1
      rwa [h2, h3] at this
  | func f => exact .mkFunc .nil .nil

theorem put_rep {t : Tm} {a : Act} (h : LRep D σ t a.tmps.toList) (d : Option Tmp) {v v' : Value} (hv : VRep D σ v v') : LRep D σ (tput t d v) (a.put d v').tmps.toList := by
  cases d with
  | none => exact h
  | some d => simp only [tput, Act.put, Array.toList_setIfInBounds]; exact h.set d hv

theorem put_defers' (a : Act) (d : Option Tmp) (v : Value) : (a.put d v).defers = a.defers := by cases d <;> rfl

theorem wanted_rep {t : Tm} {a : Act} {ops : Array Oper} {o : Oper} {b : Bool} (h : LRep D σ t a.tmps.toList) (hw : awanted ops o t = some b) : Region.wanted o (yielded ops a.tmps) = b := by
  unfold awanted at hw
  unfold Region.wanted
  cases hg : o.guard with
  | none => rw [hg] at hw; simpa using hw
  | some jw =>
    obtain ⟨j, want⟩ := jw
    rw [hg] at hw
    simp only at hw ⊢
    unfold yielded
    cases hd : (ops[j]?).bind (·.dst) with
    | none => rw [hd] at hw; simp at hw
    | some d =>
      rw [hd] at hw
      simp only [Option.bind_some] at hw ⊢
      cases ht : t[d]? with
      | none => rw [ht] at hw; simp at hw
      | some v =>
        rw [ht] at hw
        obtain ⟨v', hv', hr⟩ := h.get? ht
        rw [Array.getElem?_toList] at hv'
        rw [hv']
        cases v <;> simp at hw
        · obtain rfl := hr.inv_bool
          simp only
          rw [← hw]
          rename_i bb
          cases bb <;> cases want <;> rfl
        · obtain ⟨_, rfl, _⟩ := hr.inv_tuple
          subst hw
          rfl

/-- Deferred calls. -/
inductive DRep (D : Nat → Prop) (σ : Sig) : List Value → List Deferred → Prop
  | nil : DRep D σ [] []
  | cons {k : FuncId} {args args' cap cap' : Array Value} {ds : List Value} {ds' : List Deferred} (ha : LRep D σ args.toList args'.toList) (hc : LRep D σ cap.toList cap'.toList) (h : DRep D σ ds ds') :
      DRep D σ (.func (.func k) args cap :: ds) ({ target := .fn (.func k) cap', args := args' } :: ds')
theorem DRep.mono {D' : Nat → Prop} {σ' : Sig} {l : List Value} {l' : List Deferred} (h : DRep D σ l l') (hD : ∀ n, D n → D' n) (hσ : ∀ n, D n → σ' n = σ n) : DRep D' σ' l l' := by
  induction h with
  | nil => exact .nil
  | cons ha hc _ ih => exact .cons (ha.mono hD hσ) (hc.mono hD hσ) ih
theorem DRep.nil_inv {l' : List Deferred} (h : DRep D σ [] l') : l' = [] := by cases h; rfl

theorem adefer_sound {h h' : Heap} {ρ : Operand → Value} {a : Act} {o : Oper} {v : Value} (hρ : ∀ x, VRep (· < h.next) σ (ρ x) (a.eval x)) (hd : DRep (· < h.next) σ h.dfs a.defers) (ha : adefer ρ o h = some (v, h')) :
    v = undef ∧ h'.get = h.get ∧ h'.next = h.next ∧ ∃ d, (execOp a.eval o).run P w = .ok (.defer d) w ∧ DRep (· < h.next) σ h'.dfs (d :: a.defers) := by
  unfold adefer at ha
  split at ha
  · rename_i c ho
    split at ha
    · rename_i f hc
      split at ha
      · rename_i k first captured hf
        have h1 := hρ f
        rw [hf] at h1
        obtain ⟨first', captured', e1, l1, l2⟩ := h1.inv_func
        simp only [Option.some.injEq, Prod.mk.injEq] at ha
        obtain ⟨rfl, rfl⟩ := ha
        refine ⟨rfl, rfl, rfl, ⟨.fn (.func k) captured', first' ++ c.args.map a.eval⟩, ?_, ?_⟩
        · simp [execOp, ho, resolve, hc, e1, Deferred.ofValue]
        · refine .cons ?_ l2 hd
          rw [Array.toList_append, Array.toList_append]
          exact l1.append (map_rep hρ c.args)
      · cases ha
    · cases ha
  · cases ha

/-- What was deferred stays so. -/
def RecD (rec : Rec) : Prop := ∀ (f : FuncId) (args : List Value) (h : Heap) (v : Value) (h' : Heap), rec f args h = some (v, h') → h'.dfs = h.dfs

theorem aenter_dfs {rec : Rec} (hd : RecD rec) {f : FuncId} {args : List Value} {h h' : Heap} {v : Value} (ha : aenter rec f args h = some (v, h')) : h'.dfs = h.dfs := by
  unfold aenter at ha
  exact hd _ _ _ _ _ ha

theorem aappendE_dfs {e : TypeId} {s x v : Value} {h h' : Heap} (ha : aappendE P e s x h = some (v, h')) : h'.dfs = h.dfs := by
  unfold aappendE at ha
  simp only [Bool.cond_eq_ite] at ha
  repeat' (split at ha)
  all_goals first
    | (cases ha; done)
    | (cases ha; rfl)

theorem acopy_dfs {t : TypeId} {x y v : Value} {h h' : Heap} (ha : acopy P t x y h = some (v, h')) : h'.dfs = h.dfs := by
  unfold acopy at ha
  simp only [Bool.cond_eq_ite] at ha
  repeat' (split at ha)
  all_goals first
    | (cases ha; done)
    | (cases ha; rfl)

theorem abuiltin_dfs {b : Builtin} {ts : List TypeId} {vs : List Value} {v : Value} {h h' : Heap} (ha : abuiltin P b ts vs h = some (v, h')) : h'.dfs = h.dfs := by
  unfold abuiltin at ha
  split at ha
  · unfold aappend at ha
    split at ha
    · rename_i e d _ _
      cases hp : appends d with
      | false => rw [hp] at ha; cases ha
      | true => rw [hp] at ha; exact aappendE_dfs ha
    · cases ha
  · exact acopy_dfs ha
  · split at ha
    · rename_i x _ _ _
      revert ha
      generalize aentries _ h = r
      intro ha
      cases r with
      | none => cases ha
      | some es => cases ha; rfl
    · cases ha
  · split at ha
    · cases ha; rfl
    · cases ha; rfl
    · cases ha
  · simp only [Bool.cond_eq_ite] at ha
    repeat' (split at ha)
    all_goals first
      | (cases ha; done)
      | (cases ha; rfl)
      | (revert ha; generalize cellBytes _ = r; intro ha; cases r with
        | none => cases ha
        | some l => cases ha; rfl)
  · cases ha

theorem heavy_dfs {rec : Rec} (hd : RecD rec) {ρ : Operand → Value} {o : Oper} {h h' : Heap} {v : Value} (ha : heavy P rec ρ o h = some (v, h')) : h'.dfs = h.dfs := by
  unfold heavy at ha
  split at ha
  · rename_i t x y ho
    unfold astore at ha
    simp only [Bool.cond_eq_ite] at ha
    repeat' (split at ha)
    all_goals first
      | (cases ha; done)
      | (cases ha; rfl)
  · rename_i c ho
    unfold acallOp at ha
    simp only [Bool.cond_eq_ite] at ha
    repeat' (split at ha)
    all_goals first
      | (cases ha; done)
      | exact aenter_dfs hd ha
      | exact abuiltin_dfs ha
      | (cases ha; rfl)
  · rename_i op t x y yt ho
    cases hf : isFl P op t with
    | false => rw [hf] at ha; cases ha
    | true =>
      rw [hf] at ha
      cases hl : afloat (ρ x) (ρ y) with
      | none => rw [hl] at ha; cases ha
      | some u => rw [hl] at ha; cases ha; rfl
  · unfold amakeMap at ha
    repeat' (split at ha)
    all_goals first
      | (cases ha; done)
      | (cases ha; rfl)
  · rename_i t x k ok ho
    cases hl : alookup P t (ρ x) (ρ k) ok h with
    | none => rw [hl] at ha; cases ha
    | some u => rw [hl] at ha; cases ha; rfl
  · rename_i t m k x ho
    unfold amapUpdate at ha
    simp only [Bool.cond_eq_ite] at ha
    repeat' (split at ha)
    all_goals first
      | (cases ha; done)
      | (cases ha; rfl)
  · rename_i t m k x ho
    unfold amapUpdate at ha
    simp only [Bool.cond_eq_ite] at ha
    repeat' (split at ha)
    all_goals first
      | (cases ha; done)
      | (cases ha; rfl)
  · unfold arange at ha
    repeat' (split at ha)
    all_goals first
      | (cases ha; done)
      | (cases ha; rfl)
  · unfold anext at ha
    simp only [Bool.cond_eq_ite] at ha
    repeat' (split at ha)
    all_goals first
      | (cases ha; done)
      | (cases ha; rfl)
  · rename_i it ho
    cases hl : aentry (ρ it) h with
    | none => rw [hl] at ha; cases ha
    | some u => rw [hl] at ha; cases ha; rfl
  · unfold amapEntry at ha
    simp only [Bool.cond_eq_ite] at ha
    repeat' (split at ha)
    all_goals first
      | (cases ha; done)
      | (cases ha; rfl)
  · rename_i t m s x ho
    unfold aentryStore at ha
    repeat' (split at ha)
    all_goals first
      | (cases ha; done)
      | (cases ha; rfl)
  · rename_i src dst x ho
    unfold aconv at ha
    simp only [Bool.cond_eq_ite] at ha
    repeat' (split at ha)
    all_goals first
      | (cases ha; done)
      | (cases ha; rfl)
      | (revert ha; generalize cellBytes _ = r; intro ha; cases r with
        | none => cases ha
        | some l => cases ha; rfl)
  · cases ha

theorem aop_dfs {rec : Rec} (hd : RecD rec) {ρ : Operand → Value} {o : Oper} {h h' : Heap} {v : Value} (hdfr : cls P o ≠ .dfr) (ha : aop P rec ρ o h = some (v, h')) : h'.dfs = h.dfs := by
  unfold aop at ha
  split at ha
  · cases hl : light P ρ o h.get with
    | none => rw [hl] at ha; cases ha
    | some u => rw [hl] at ha; cases ha; rfl
  · cases hl : aalloc P ρ o with
    | none => rw [hl] at ha; cases ha
    | some x => rw [hl] at ha; cases ha; rfl
  · exact heavy_dfs hd ha
  · rename_i hx
    exact absurd hx hdfr

theorem adraw_dfs {rec : Rec} (hrd : RecD rec) {ops : Array Oper} {anc : List (List Nat)} : ∀ (is : List Nat) (reads : List (Nat × List Nat)) (t : Tm) (h : Heap) (t' : Tm) (h' : Heap), adraw P rec ops anc is reads t h = some (t', h') → h'.dfs = h.dfs := by
  intro is
  induction is with
  | nil => intro reads t h t' h' ha; simp only [adraw, Option.some.injEq, Prod.mk.injEq] at ha; rw [← ha.2]
  | cons i is ih =>
    intro reads t h t' h' ha
    simp only [adraw] at ha
    split at ha
    · cases ha
    · split at ha
      · cases ha
      · exact ih _ _ _ _ _ ha
      · split at ha
        · split at ha
          · cases ha
          · exact ih _ _ _ _ _ ha
        · split at ha
          · cases ha
          · have := ih _ _ _ _ _ ha
            exact this
        · split at ha
          · cases ha
          · rename_i v h1 hv
            have h2 := heavy_dfs hrd hv
            split at ha
            · rename_i m _
              revert ha
              generalize (reads.all fun r => isAnc anc r.1 i || !r.2.contains m) = b
              intro ha
              cases b with
              | false => cases ha
              | true => exact (ih _ _ _ _ _ ha).trans h2
            · rename_i o _ _ _ _ _ _
              revert ha
              generalize (!isStore _ && readsOk anc i reads h h1 && Nat.ble h.next h1.next) = b
              intro ha
              cases b with
              | false => cases ha
              | true => exact (ih _ _ _ _ _ ha).trans h2
        · cases ha

theorem aops_sound {rec : Rec} (hrec : RecOK P base rec) (hrd : RecD rec) {ops : Array Oper} : ∀ (is : List Nat) (t : Tm) (h : Heap) (t' : Tm) (h' : Heap), aops P rec ops is t h = some (t', h') →
    ∀ (a : Act) (w : World) (σ : Sig) (Q : Exit → Act → World → Prop), LRep (· < h.next) σ t a.tmps.toList → DRep (· < h.next) σ h.dfs a.defers → Rep base (· < h.next) σ h.get w →
      (∀ a' w' σ', LRep (· < h'.next) σ' t' a'.tmps.toList → DRep (· < h'.next) σ' h'.dfs a'.defers → Moves base (· < h.next) σ h.get w (· < h'.next) σ' h'.get w' → Q .normal a' w') → wpOps P ops Q is a w := by
  intro is
  induction is with
  | nil =>
    intro t h t' h' ha a w σ Q hT hD hr hQ
    simp only [aops, Option.some.injEq, Prod.mk.injEq] at ha
    obtain ⟨rfl, rfl⟩ := ha
    exact hQ a w σ hT hD (.refl hr)
  | cons i is ih =>
    intro t h t' h' ha a w σ Q hT hD hr hQ
    simp only [aops] at ha
    unfold wpOps
    cases ho : ops[i]? with
    | none => rw [ho] at ha; cases ha
    | some o =>
      rw [ho] at ha
      simp only at ha ⊢
      cases hw : awanted ops o t with
      | none => rw [hw] at ha; cases ha
      | some b =>
        rw [hw] at ha
        rw [wanted_rep hT hw]
        cases b with
        | false =>
          simp only [Bool.false_eq_true, if_false] at ha ⊢
          refine ih _ _ _ _ ha _ w σ Q (put_rep hT _ undef_rep) (by rw [put_defers']; exact hD) hr hQ
        | true =>
          simp only [if_true] at ha ⊢
          cases hop : aop P rec (aeval t) o h with
          | none => rw [hop] at ha; cases ha
          | some x =>
            obtain ⟨v, h1⟩ := x
            rw [hop] at ha
            have hev := eval_rep hT hr.gl.names
            by_cases hc : cls P o = .dfr
            · have hop' : adefer (aeval t) o h = some (v, h1) := by unfold aop at hop; rw [hc] at hop; exact hop
              obtain ⟨rfl, hg, hn, d, hrun, hd'⟩ := adefer_sound (P := P) (w := w) hev hD hop'
              refine .inl ?_
              unfold Oper.wp
              rw [hrun]
              simp only [Oper.upon]
              refine ih _ _ _ _ ha _ w σ Q (by rw [hn]; exact put_rep (a := { a with defers := d :: a.defers }) hT o.dst undef_rep) (by rw [hn, put_defers']; exact hd') (by rw [hn, hg]; exact hr) (fun a' w' σ' q1 q2 q3 => hQ a' w' σ' q1 q2 (by rw [hn, hg] at q3; exact q3))
            · refine .inl (aop_sound hrec hev hr hc hop _ _ fun v' w' σ' hv hm => ?_)
              have hT' := hT.mono hm.mono hm.ext
              have hD' := hD.mono hm.mono hm.ext
              exact ih _ _ _ _ ha _ w' σ' Q (put_rep hT' _ hv) (by rw [put_defers', aop_dfs hrd hc hop]; exact hD') hm.rep (fun a'' w'' σ'' q1 q2 q3 => hQ a'' w'' σ'' q1 q2 (hm.trans q3))
end

/-! ### 2. What our order did -/
inductive EK where
  | off
  | light
  | alloc (x : AObj)
  | heavy
  | store (n : Nat)

structure Ev where
  i : Nat
  o : Oper
  t : Tm
  h : Heap
  v : Value
  h' : Heap
  k : EK

section
variable (P : Program) (rec : Rec) (ops : Array Oper) (anc : List (List Nat))

def EvK (past : List Ev) (e : Ev) : Prop :=
  match e.k with
  | .off => awanted ops e.o e.t = some false ∧ e.v = undef ∧ e.h' = e.h
  | .light => awanted ops e.o e.t = some true ∧ cls P e.o = .light ∧ light P (aeval e.t) e.o e.h.get = some e.v ∧ e.h' = e.h
  | .alloc x => awanted ops e.o e.t = some true ∧ cls P e.o = .alloc ∧ ∃ mk, aalloc P (aeval e.t) e.o = some (x, mk) ∧ e.v = mk e.h.next ∧ e.h' = e.h.new x
  | .heavy => awanted ops e.o e.t = some true ∧ cls P e.o = .heavy ∧ heavy P rec (aeval e.t) e.o e.h = some (e.v, e.h') ∧
      (∀ r ∈ past, r.k = .light → isAnc anc r.i e.i = true ∨ ∀ n ∈ readNames (aeval r.t) r.o, ∀ x, e.h.get n = some x → e.h'.get n = some x) ∧ isStore e.o = false
  | .store n => awanted ops e.o e.t = some true ∧ cls P e.o = .heavy ∧ heavy P rec (aeval e.t) e.o e.h = some (e.v, e.h') ∧ storeNames (aeval e.t) e.o = [n] ∧
      ∀ r ∈ past, isAnc anc r.i e.i = true ∨ ((r.k = .light → n ∉ readNames (aeval r.t) r.o) ∧ ∀ m, r.k = .store m → m ≠ n)

structure EvOK (past : List Ev) (t : Tm) (h : Heap) (e : Ev) : Prop where
  op : ops[e.i]? = some e.o
  tm : e.t = t
  hp : e.h = h
  le : e.h.next ≤ e.h'.next
  kind : EvK P rec ops anc past e

def Chain : List Ev → Tm → Heap → List Ev → Tm → Heap → Prop
  | _, t, h, [], t', h' => t' = t ∧ h' = h
  | past, t, h, e :: es, t', h' => EvOK P rec ops anc past t h e ∧ Chain (e :: past) (tput t e.o.dst e.v) e.h' es t' h'
end

section
variable {P : Program} {rec : Rec} {ops : Array Oper} {anc : List (List Nat)}

/-- A store: one name's object turns. -/
theorem store_put {ρ : Operand → Value} {o : Oper} {h h' : Heap} {v : Value} {n : Nat} (hn : storeNames ρ o = [n]) (hl : heavy P rec ρ o h = some (v, h')) :
    ∃ t a x off, o.op = .store t a x ∧ ρ a = .pointer (some ⟨n, off, none⟩) ∧ astore P t (ρ a) (ρ x) h = some h' ∧ v = undef ∧ NG ≤ n ∧ n < h.next ∧ ∃ y, h' = h.put n (some y) := by
  unfold storeNames at hn
  split at hn
  · rename_i t a x ho
    split at hn
    · rename_i m off sp ha
      simp only [List.cons.injEq, and_true] at hn
      subst hn
      simp only [heavy, ho] at hl
      cases hs : astore P t (ρ a) (ρ x) h with
      | none => rw [hs] at hl; cases hl
      | some h1 =>
        rw [hs] at hl
        simp only [Option.map_some, Option.some.injEq, Prod.mk.injEq] at hl
        obtain ⟨rfl, rfl⟩ := hl
        have hs' := hs
        unfold astore at hs
        split at hs
        · rename_i n' off' cs sz e hcs hsz
          rw [ha] at e
          simp only [Value.pointer.injEq, Option.some.injEq, Addr.mk.injEq] at e
          obtain ⟨rfl, rfl, rfl⟩ := e
          split at hs
          · rename_i c e' esz gr hg
            cases hb : Nat.beq cs.length sz && Nat.ble (off + sz) c.length with
            | false => rw [hb] at hs; cases hs
            | true =>
              rw [hb] at hs
              simp only [cond_true, Option.some.injEq] at hs
              exact ⟨t, a, x, off, ho, ha, hs', rfl, Heap.own_ge hg rfl, Heap.get_lt hg, _, hs.symm⟩
          · cases hs
        · cases hs
    · cases hn
  · cases hn

theorem adraw_chain : ∀ (ord : List Nat) (reads : List (Nat × List Nat)) (past : List Ev) (t : Tm) (h : Heap) (t' : Tm) (h' : Heap),
    (∀ r ∈ past, (r.k = .light → (r.i, readNames (aeval r.t) r.o) ∈ reads) ∧ (∀ m, r.k = .store m → (r.i, [m]) ∈ reads)) → adraw P rec ops anc ord reads t h = some (t', h') →
    ∃ evs, evs.map (·.i) = ord ∧ Chain P rec ops anc past t h evs t' h' := by
  intro ord
  induction ord with
  | nil =>
    intro reads past t h t' h' hp ha
    simp only [adraw, Option.some.injEq, Prod.mk.injEq] at ha
    exact ⟨[], rfl, ha.1.symm, ha.2.symm⟩
  | cons i is ih =>
    intro reads past t h t' h' hp ha
    have grow : ∀ (q : Ev) (x : Nat × List Nat), ((q.k = .light → (q.i, readNames (aeval q.t) q.o) ∈ x :: reads) ∧ (∀ m, q.k = .store m → (q.i, [m]) ∈ x :: reads)) →
        ∀ r ∈ q :: past, (r.k = .light → (r.i, readNames (aeval r.t) r.o) ∈ x :: reads) ∧ (∀ m, r.k = .store m → (r.i, [m]) ∈ x :: reads) := by
      intro q x hq r hr
      rcases List.mem_cons.1 hr with rfl | hr
      · exact hq
      · exact ⟨fun hk => List.mem_cons_of_mem _ ((hp r hr).1 hk), fun m hk => List.mem_cons_of_mem _ ((hp r hr).2 m hk)⟩
    have same : ∀ (q : Ev), (q.k ≠ .light ∧ ∀ m, q.k ≠ .store m) → ∀ r ∈ q :: past, (r.k = .light → (r.i, readNames (aeval r.t) r.o) ∈ reads) ∧ (∀ m, r.k = .store m → (r.i, [m]) ∈ reads) := by
      intro q hq r hr
      rcases List.mem_cons.1 hr with rfl | hr
      · exact ⟨fun hk => absurd hk hq.1, fun m hk => absurd hk (hq.2 m)⟩
      · exact hp r hr
    simp only [adraw] at ha
    cases ho : ops[i]? with
    | none => rw [ho] at ha; cases ha
    | some o =>
      rw [ho] at ha
      simp only at ha
      cases hw : awanted ops o t with
      | none => rw [hw] at ha; cases ha
      | some b =>
        rw [hw] at ha
        cases b with
        | false =>
          simp only at ha
          obtain ⟨evs, he, hc⟩ := ih reads (⟨i, o, t, h, undef, h, .off⟩ :: past) _ _ _ _ (same _ ⟨fun h => (by cases h), fun m h => (by cases h)⟩) ha
          exact ⟨⟨i, o, t, h, undef, h, .off⟩ :: evs, by simp [he], ⟨ho, rfl, rfl, Nat.le_refl _, hw, rfl, rfl⟩, hc⟩
        | true =>
          simp only at ha
          cases hcl : cls P o with
          | dfr => rw [hcl] at ha; cases ha
          | light =>
            rw [hcl] at ha
            simp only at ha
            cases hl : light P (aeval t) o h.get with
            | none => rw [hl] at ha; cases ha
            | some v =>
              rw [hl] at ha
              obtain ⟨evs, he, hc⟩ := ih _ (⟨i, o, t, h, v, h, .light⟩ :: past) _ _ _ _ (grow _ _ ⟨fun _ => List.mem_cons_self .., fun m h => (by cases h)⟩) ha
              exact ⟨⟨i, o, t, h, v, h, .light⟩ :: evs, by simp [he], ⟨ho, rfl, rfl, Nat.le_refl _, hw, hcl, hl, rfl⟩, hc⟩
          | alloc =>
            rw [hcl] at ha
            simp only at ha
            cases hl : aalloc P (aeval t) o with
            | none => rw [hl] at ha; cases ha
            | some x =>
              rw [hl] at ha
              obtain ⟨evs, he, hc⟩ := ih reads (⟨i, o, t, h, x.2 h.next, h.new x.1, .alloc x.1⟩ :: past) _ _ _ _ (same _ ⟨fun h => (by cases h), fun m h => (by cases h)⟩) ha
              exact ⟨⟨i, o, t, h, x.2 h.next, h.new x.1, .alloc x.1⟩ :: evs, by simp [he], ⟨ho, rfl, rfl, Nat.le_succ _, hw, hcl, x.2, hl, rfl, rfl⟩, hc⟩
          | heavy =>
            rw [hcl] at ha
            simp only at ha
            cases hl : heavy P rec (aeval t) o h with
            | none => rw [hl] at ha; cases ha
            | some x =>
              obtain ⟨v, h1⟩ := x
              rw [hl] at ha
              simp only at ha
              split at ha
              · rename_i m hm
                cases hb : (reads.all fun r => isAnc anc r.1 i || !r.2.contains m) with
                | false => rw [hb] at ha; cases ha
                | true =>
                  rw [hb] at ha
                  simp only [cond_true] at ha
                  obtain ⟨evs, he, hc⟩ := ih _ (⟨i, o, t, h, v, h1, .store m⟩ :: past) _ _ _ _ (grow _ _ ⟨fun h => (by cases h), fun m' h => (by cases h; exact List.mem_cons_self ..)⟩) ha
                  obtain ⟨_, _, _, _, _, _, _, _, _, _, y, hy⟩ := store_put hm hl
                  refine ⟨⟨i, o, t, h, v, h1, .store m⟩ :: evs, by simp [he], ⟨ho, rfl, rfl, by rw [hy]; exact Nat.le_refl _, hw, hcl, hl, hm, fun r hr => ?_⟩, hc⟩
                  obtain ⟨p1, p2⟩ := hp r hr
                  by_cases hanc : isAnc anc r.i i = true
                  · exact .inl hanc
                  · refine .inr ⟨fun hk => ?_, fun m' hk e => ?_⟩
                    · have h2 := List.all_eq_true.1 hb _ (p1 hk)
                      simp only [hanc, Bool.false_or] at h2
                      simpa using h2
                    · have h2 := List.all_eq_true.1 hb _ (p2 m' hk)
                      simp only [hanc, Bool.false_or] at h2
                      subst e
                      simp at h2
              · cases hb : !isStore o && readsOk anc i reads h h1 && Nat.ble h.next h1.next with
                | false => rw [hb] at ha; cases ha
                | true =>
                  rw [hb] at ha
                  simp only [cond_true] at ha
                  simp only [Bool.and_eq_true, Bool.not_eq_true'] at hb
                  obtain ⟨evs, he, hc⟩ := ih reads (⟨i, o, t, h, v, h1, .heavy⟩ :: past) _ _ _ _ (same _ ⟨fun h => (by cases h), fun m h => (by cases h)⟩) ha
                  refine ⟨⟨i, o, t, h, v, h1, .heavy⟩ :: evs, by simp [he], ⟨ho, rfl, rfl, ble_le hb.2, hw, hcl, hl, fun r hr hk => ?_, hb.1.1⟩, hc⟩
                  have h2 := List.all_eq_true.1 hb.1.2 _ ((hp r hr).1 hk)
                  simp only [Bool.or_eq_true] at h2
                  refine h2.imp id fun h3 n hn x hx => ?_
                  have h4 := objEq_eq (List.all_eq_true.1 h3 n hn)
                  simp only at hx ⊢
                  rw [← h4]; exact hx

theorem Chain.split {pre post : List Ev} {e : Ev} : ∀ {past : List Ev} {t : Tm} {h : Heap} {t' : Tm} {h' : Heap}, Chain P rec ops anc past t h (pre ++ e :: post) t' h' →
    Chain P rec ops anc past t h pre e.t e.h ∧ EvOK P rec ops anc (pre.reverse ++ past) e.t e.h e ∧ Chain P rec ops anc (e :: (pre.reverse ++ past)) (tput e.t e.o.dst e.v) e.h' post t' h' := by
  induction pre with
  | nil =>
    intro past t h t' h' hc
    obtain ⟨h1, h2⟩ := hc
    have e1 := h1.tm
    have e2 := h1.hp
    subst e1; subst e2
    exact ⟨⟨rfl, rfl⟩, h1, h2⟩
  | cons x pre ih =>
    intro past t h t' h' hc
    obtain ⟨h1, h2⟩ := hc
    obtain ⟨k1, k2, k3⟩ := ih h2
    have e1 : (x :: pre).reverse ++ past = pre.reverse ++ (x :: past) := by simp
    rw [e1]
    exact ⟨⟨h1, k1⟩, k2, k3⟩

theorem Chain.le {evs : List Ev} : ∀ {past : List Ev} {t : Tm} {h : Heap} {t' : Tm} {h' : Heap}, Chain P rec ops anc past t h evs t' h' → h.next ≤ h'.next ∧ ∀ e ∈ evs, h.next ≤ e.h.next ∧ e.h.next ≤ e.h'.next ∧ e.h'.next ≤ h'.next := by
  induction evs with
  | nil => intro past t h t' h' hc; obtain ⟨_, rfl⟩ := hc; exact ⟨Nat.le_refl _, fun e he => by cases he⟩
  | cons x evs ih =>
    intro past t h t' h' hc
    obtain ⟨h1, h2⟩ := hc
    obtain ⟨k1, k2⟩ := ih h2
    have e2 := h1.hp
    have e3 := h1.le
    subst e2
    refine ⟨by omega, fun e he => ?_⟩
    rcases List.mem_cons.1 he with rfl | he
    · exact ⟨Nat.le_refl _, e3, k1⟩
    · have := k2 e he; omega

/-! ### 3. A part of what our order did -/
noncomputable def stepG (e : Ev) (g : Nat → Option AObj) : Nat → Option AObj :=
  match e.k with
  | .off | .light => g
  | .alloc x => fun m => if m = e.h.next then some x else g m
  | .heavy => fun m => if m < e.h'.next then e.h'.get m else g m
  | .store n => fun m => if m = n then e.h'.get n else g m
noncomputable def stepD (e : Ev) (D : Nat → Prop) : Nat → Prop :=
  match e.k with
  | .off | .light | .store _ => D
  | .alloc _ => fun m => D m ∨ m = e.h.next
  | .heavy => fun m => m < e.h'.next ∨ D m
def foldT (S : Nat → Bool) : List Ev → Tm → Tm
  | [], t => t
  | e :: es, t => foldT S es (if S e.i then tput t e.o.dst e.v else t)
noncomputable def foldG (S : Nat → Bool) : List Ev → (Nat → Option AObj) → (Nat → Option AObj)
  | [], g => g
  | e :: es, g => foldG S es (if S e.i then stepG e g else g)
noncomputable def foldD (S : Nat → Bool) : List Ev → (Nat → Prop) → (Nat → Prop)
  | [], D => D
  | e :: es, D => foldD S es (if S e.i then stepD e D else D)

theorem foldT_append (S : Nat → Bool) (a b : List Ev) (t : Tm) : foldT S (a ++ b) t = foldT S b (foldT S a t) := by
  induction a generalizing t with
  | nil => rfl
  | cons x a ih => simp only [List.cons_append, foldT, ih]
theorem foldG_append (S : Nat → Bool) (a b : List Ev) (g : Nat → Option AObj) : foldG S (a ++ b) g = foldG S b (foldG S a g) := by
  induction a generalizing g with
  | nil => rfl
  | cons x a ih => simp only [List.cons_append, foldG, ih]
theorem foldD_append (S : Nat → Bool) (a b : List Ev) (D : Nat → Prop) : foldD S (a ++ b) D = foldD S b (foldD S a D) := by
  induction a generalizing D with
  | nil => rfl
  | cons x a ih => simp only [List.cons_append, foldD, ih]

theorem fold_congr {S S' : Nat → Bool} {evs : List Ev} (h : ∀ e ∈ evs, S e.i = S' e.i) : foldT S evs = foldT S' evs ∧ foldG S evs = foldG S' evs ∧ foldD S evs = foldD S' evs := by
  induction evs with
  | nil => exact ⟨rfl, rfl, rfl⟩
  | cons x evs ih =>
    obtain ⟨h1, h2, h3⟩ := ih fun e he => h e (List.mem_cons_of_mem _ he)
    have hx := h x (List.mem_cons_self ..)
    refine ⟨?_, ?_, ?_⟩
    · funext t; simp only [foldT, hx, h1]
    · funext g; simp only [foldG, hx, h2]
    · funext D; simp only [foldD, hx, h3]

def EK.hv : EK → Bool
  | .heavy | .store _ => true
  | _ => false
def EK.turns : EK → Bool
  | .off | .light => false
  | _ => true

/-- Where all that turns the heap is in, the heap is ours. -/
theorem foldG_whole {S : Nat → Bool} {evs : List Ev} : ∀ {past : List Ev} {t : Tm} {h : Heap} {t' : Tm} {h' : Heap}, Chain P rec ops anc past t h evs t' h' → (∀ e ∈ evs, e.k.turns = true → S e.i = true) →
    foldG S evs h.get = h'.get ∧ ∀ n, foldD S evs (· < h.next) n ↔ n < h'.next := by
  have congD : ∀ (S : Nat → Bool) (evs : List Ev) (D D' : Nat → Prop), (∀ n, D n ↔ D' n) → ∀ n, foldD S evs D n ↔ foldD S evs D' n := by
    intro S evs D D' h
    have : D = D' := funext fun n => propext (h n)
    rw [this]; exact fun _ => Iff.rfl
  induction evs with
  | nil => intro past t h t' h' hc _; obtain ⟨_, rfl⟩ := hc; exact ⟨rfl, fun n => Iff.rfl⟩
  | cons x evs ih =>
    intro past t h t' h' hc hS
    obtain ⟨h1, h2⟩ := hc
    obtain ⟨k1, k2⟩ := ih h2 fun e he => hS e (List.mem_cons_of_mem _ he)
    have ehp := h1.hp
    have hle := h1.le
    have kind := h1.kind
    subst ehp
    have hx := hS x (List.mem_cons_self ..)
    simp only [foldG, foldD]
    unfold EvK at kind
    have key : (if S x.i = true then stepG x x.h.get else x.h.get) = x.h'.get ∧ ∀ n, (if S x.i = true then stepD x (· < x.h.next) else (· < x.h.next)) n ↔ n < x.h'.next := by
      cases hk : x.k with
      | off =>
        rw [hk] at kind
        simp only [stepG, stepD, hk, kind.2.2, ite_self]
        exact ⟨trivial, fun n => by first | exact Iff.rfl | trivial⟩
      | light =>
        rw [hk] at kind
        simp only [stepG, stepD, hk, kind.2.2.2, ite_self]
        exact ⟨trivial, fun n => by first | exact Iff.rfl | trivial⟩
      | alloc y =>
        rw [hk] at kind hx
        obtain ⟨_, _, mk, _, _, e⟩ := kind
        rw [if_pos (hx rfl), if_pos (hx rfl), e]
        simp only [stepG, stepD, hk]
        refine ⟨?_, fun n => ?_⟩
        · funext m; rw [Heap.get_new]
        · rw [Heap.next_new]; omega
      | heavy =>
        rw [hk] at hx
        rw [if_pos (hx rfl), if_pos (hx rfl)]
        simp only [stepG, stepD, hk]
        refine ⟨?_, fun n => by omega⟩
        funext m
        by_cases hm : m < x.h'.next
        · rw [if_pos hm]
        · rw [if_neg hm, Heap.get_of_ge (by omega), Heap.get_of_ge (by omega)]
      | store n =>
        rw [hk] at hx kind
        obtain ⟨_, _, hl, hsn, _⟩ := kind
        obtain ⟨_, _, _, _, _, _, _, _, hNG, hlt, y, hy⟩ := store_put hsn hl
        rw [if_pos (hx rfl), if_pos (hx rfl)]
        simp only [stepG, stepD, hk]
        refine ⟨?_, fun n => by rw [hy]; exact Iff.rfl⟩
        funext m
        rw [hy, Heap.get_put hNG hlt, Heap.get_put hNG hlt]
        by_cases hm : m = n
        · subst hm; simp
        · simp [hm]
    rw [key.1]
    refine ⟨k1, fun n => ?_⟩
    rw [congD S evs _ (· < x.h'.next) key.2 n]
    exact k2 n

/-- Behind: only new blocks: they commute with what stands ahead. -/
theorem foldG_behind {S : Nat → Bool} {e : Ev} {post : List Ev} (hno : ∀ z ∈ post, S z.i = true → z.k.hv = false ∨ (∃ n m, e.k = .store n ∧ z.k = .store m ∧ m ≠ n)) (hge : ∀ z ∈ post, e.h'.next ≤ z.h.next) (hlt : e.k.turns = true → e.h.next < e.h'.next ∨ e.k = .heavy ∨ ∃ n, e.k = .store n ∧ n < e.h'.next) (hst : ∀ n, e.k = .store n → n < e.h'.next) :
    (∀ g, foldG S post (stepG e g) = stepG e (foldG S post g)) ∧ (∀ D n, foldD S post (stepD e D) n ↔ stepD e (foldD S post D) n) := by
  have congD : ∀ (S : Nat → Bool) (evs : List Ev) (D D' : Nat → Prop), (∀ n, D n ↔ D' n) → ∀ n, foldD S evs D n ↔ foldD S evs D' n := by
    intro S evs D D' h
    have : D = D' := funext fun n => propext (h n)
    rw [this]; exact fun _ => Iff.rfl
  induction post with
  | nil => exact ⟨fun g => rfl, fun D n => Iff.rfl⟩
  | cons z post ih =>
    obtain ⟨h1, h2⟩ := ih (fun z hz => hno z (List.mem_cons_of_mem _ hz)) (fun z hz => hge z (List.mem_cons_of_mem _ hz))
    have hz1 := hno z (List.mem_cons_self ..)
    have hz2 := hge z (List.mem_cons_self ..)
    simp only [foldG, foldD]
    cases hS : S z.i with
    | false => simp only [Bool.false_eq_true, if_false]; exact ⟨h1, h2⟩
    | true =>
      simp only [if_true]
      have hzk := hz1 hS
      have comm : (∀ g, stepG z (stepG e g) = stepG e (stepG z g)) ∧ (∀ D n, stepD z (stepD e D) n ↔ stepD e (stepD z D) n) := by
        cases hk : z.k with
        | off => simp only [stepG, stepD, hk]; exact ⟨fun _ => trivial, fun _ _ => by first | exact Iff.rfl | trivial⟩
        | light => simp only [stepG, stepD, hk]; exact ⟨fun _ => trivial, fun _ _ => by first | exact Iff.rfl | trivial⟩
        | heavy =>
          rcases hzk with h | ⟨n, m, _, h, _⟩
          · rw [hk] at h; cases h
          · rw [hk] at h; cases h
        | store m =>
          rcases hzk with h | ⟨n, m', hke, h, hne⟩
          · rw [hk] at h; cases h
          · rw [hk] at h
            cases h
            simp only [stepG, stepD, hk, hke]
            refine ⟨fun g => ?_, fun D n => by first | exact Iff.rfl | trivial⟩
            funext q
            by_cases h3 : q = m
            · rw [if_pos h3, if_neg (by omega), if_pos h3]
            · rw [if_neg h3, if_neg h3]
        | alloc y =>
          cases hke : e.k with
          | off => simp only [stepG, stepD, hk, hke]; exact ⟨fun _ => trivial, fun _ _ => by first | exact Iff.rfl | trivial⟩
          | light => simp only [stepG, stepD, hk, hke]; exact ⟨fun _ => trivial, fun _ _ => by first | exact Iff.rfl | trivial⟩
          | alloc q =>
            have hl : e.h.next < e.h'.next := by
              rcases hlt (by rw [hke]; rfl) with h | h | ⟨n, h, _⟩
              · exact h
              · rw [hke] at h; cases h
              · rw [hke] at h; cases h
            simp only [stepG, stepD, hk, hke]
            refine ⟨fun g => ?_, fun D n => by
              constructor
              · rintro ((h | h) | h)
                · exact .inl (.inl h)
                · exact .inr h
                · exact .inl (.inr h)
              · rintro ((h | h) | h)
                · exact .inl (.inl h)
                · exact .inr h
                · exact .inl (.inr h)⟩
            funext m
            by_cases h3 : m = z.h.next
            · rw [if_pos h3, if_neg (by omega), if_pos h3]
            · rw [if_neg h3, if_neg h3]
          | store n =>
            have hn : n < e.h'.next := by
              rcases hlt (by rw [hke]; rfl) with h | h | ⟨n', h, h'⟩
              · exact hst n hke
              · rw [hke] at h; cases h
              · rw [hke] at h; cases h; exact h'
            simp only [stepG, stepD, hk, hke]
            refine ⟨fun g => ?_, fun D n => by first | exact Iff.rfl | trivial⟩
            funext m
            by_cases h3 : m = z.h.next
            · rw [if_pos h3, if_neg (by omega), if_pos h3]
            · rw [if_neg h3, if_neg h3]
          | heavy =>
            simp only [stepG, stepD, hk, hke]
            refine ⟨fun g => ?_, fun D n => or_assoc⟩
            funext m
            by_cases h3 : m = z.h.next
            · rw [if_pos h3, if_neg (by omega), if_pos h3]
            · rw [if_neg h3, if_neg h3]
      refine ⟨fun g => by rw [comm.1, h1], fun D n => ?_⟩
      rw [congD S post _ _ (comm.2 D) n]
      exact h2 _ n

/-- What a light operation looked into stays. -/
theorem foldG_reads {S : Nat → Bool} {n : Nat} {x : AObj} {post : List Ev} : ∀ {past : List Ev} {t : Tm} {h : Heap} {t' : Tm} {h' : Heap} {g : Nat → Option AObj}, Chain P rec ops anc past t h post t' h' → n < h.next → g n = some x →
    (h.get n = some x ∨ ∀ z ∈ post, S z.i = true → z.k ≠ .heavy) →
    (∀ z ∈ post, S z.i = true → z.k = .heavy → z.h.get n = some x → z.h'.get n = some x) →
    (∀ z ∈ post, S z.i = true → z.k ≠ .store n) →
    List.Pairwise (fun a b => a.k.hv = true → b.k = .heavy → S b.i = true → S a.i = true) post →
    foldG S post g n = some x := by
  induction post with
  | nil => intro past t h t' h' g _ _ hg _ _ _ _; exact hg
  | cons z post ih =>
    intro past t h t' h' g hc hn hg hor hkeep hstore hpw
    obtain ⟨h1, h2⟩ := hc
    have ehp := h1.hp
    have hle := h1.le
    have kind := h1.kind
    subst ehp
    obtain ⟨p1, p2⟩ := List.pairwise_cons.1 hpw
    simp only [foldG]
    unfold EvK at kind
    have hgz : (if S z.i = true then stepG z g else g) n = some x := by
      cases hS : S z.i with
      | false => simpa using hg
      | true =>
        simp only [if_true]
        cases hk : z.k with
        | off => simp only [stepG, hk]; exact hg
        | light => simp only [stepG, hk]; exact hg
        | alloc y => simp only [stepG, hk]; rw [if_neg (by omega)]; exact hg
        | store m =>
          simp only [stepG, hk]
          rw [if_neg (fun e => hstore z (List.mem_cons_self ..) hS (by rw [hk, e]))]
          exact hg
        | heavy =>
          simp only [stepG, hk]
          rw [if_pos (by omega)]
          rcases hor with ho | ho
          · exact hkeep z (List.mem_cons_self ..) hS hk ho
          · exact absurd hk (ho z (List.mem_cons_self ..) hS)
    refine ih h2 (by omega) hgz ?_ (fun y hy => hkeep y (List.mem_cons_of_mem _ hy)) (fun y hy => hstore y (List.mem_cons_of_mem _ hy)) p2
    rcases hor with ho | ho
    · cases hk : z.k with
      | off => rw [hk] at kind; rw [kind.2.2]; exact .inl ho
      | light => rw [hk] at kind; rw [kind.2.2.2]; exact .inl ho
      | alloc y =>
        rw [hk] at kind
        obtain ⟨_, _, mk, _, _, e⟩ := kind
        rw [e, Heap.get_new, if_neg (by omega)]; exact .inl ho
      | store m =>
        rw [hk] at kind
        obtain ⟨_, _, hl, hsn, _⟩ := kind
        obtain ⟨_, _, _, _, _, _, _, _, hNG, hlt, y, hy⟩ := store_put hsn hl
        by_cases hm : n = m
        · subst hm
          cases hS : S z.i with
          | true => exact absurd hk (hstore z (List.mem_cons_self ..) hS)
          | false =>
            refine .inr fun y hy hSy hky => ?_
            have h5 := p1 y hy (by rw [hk]; rfl) hky hSy
            rw [hS] at h5
            cases h5
        · rw [hy, Heap.get_put hNG hlt, if_neg hm]; exact .inl ho
      | heavy =>
        cases hS : S z.i with
        | true => exact .inl (hkeep z (List.mem_cons_self ..) hS hk ho)
        | false =>
          refine .inr fun y hy hSy hky => ?_
          have h5 := p1 y hy (by rw [hk]; rfl) hky hSy
          rw [hS] at h5
          cases h5
    · exact .inr fun y hy => ho y (List.mem_cons_of_mem _ hy)

/-- One name's object: as our order has it. -/
theorem foldG_at {S : Nat → Bool} {n : Nat} {pre : List Ev} : ∀ {past : List Ev} {t : Tm} {h : Heap} {t' : Tm} {h' : Heap} {g : Nat → Option AObj}, Chain P rec ops anc past t h pre t' h' → g n = h.get n →
    (∀ x ∈ pre, x.k.turns = true → S x.i = true ∨ ∃ m, x.k = .store m ∧ m ≠ n) → foldG S pre g n = h'.get n := by
  induction pre with
  | nil => intro past t h t' h' g hc hg _; obtain ⟨_, rfl⟩ := hc; exact hg
  | cons x pre ih =>
    intro past t h t' h' g hc hg hS
    obtain ⟨h1, h2⟩ := hc
    have ehp := h1.hp
    have hle := h1.le
    have kind := h1.kind
    subst ehp
    have hx := hS x (List.mem_cons_self ..)
    simp only [foldG]
    refine ih h2 ?_ fun y hy => hS y (List.mem_cons_of_mem _ hy)
    unfold EvK at kind
    cases hk : x.k with
    | off => rw [hk] at kind; simp only [stepG, hk, ite_self, kind.2.2]; exact hg
    | light => rw [hk] at kind; simp only [stepG, hk, ite_self, kind.2.2.2]; exact hg
    | alloc y =>
      rw [hk] at kind hx
      obtain ⟨_, _, mk, _, _, e⟩ := kind
      rcases hx rfl with h | ⟨m, h, _⟩
      · rw [if_pos h, e, Heap.get_new]
        simp only [stepG, hk]
        split
        · rfl
        · exact hg
      · cases h
    | heavy =>
      rw [hk] at hx
      rcases hx rfl with h | ⟨m, h, _⟩
      · rw [if_pos h]
        simp only [stepG, hk]
        by_cases hm : n < x.h'.next
        · rw [if_pos hm]
        · rw [if_neg hm, hg, Heap.get_of_ge (by omega), Heap.get_of_ge (by omega)]
      · cases h
    | store m =>
      rw [hk] at kind hx
      obtain ⟨_, _, hl, hsn, _⟩ := kind
      obtain ⟨_, _, _, _, _, _, _, _, hNG, hlt, y, hy⟩ := store_put hsn hl
      by_cases hm : n = m
      · subst hm
        rcases hx rfl with h | ⟨m, h, hne⟩
        · rw [if_pos h]
          simp only [stepG, hk, if_true]
        · cases h; exact absurd rfl hne
      · rw [hy, Heap.get_put hNG hlt, if_neg hm]
        split
        · simp only [stepG, hk]; rw [if_neg hm]; exact hg
        · exact hg

/-! the temporaries -/
theorem tput_length (t : Tm) (d : Option Tmp) (v : Value) : (tput t d v).length = t.length := by cases d <;> simp [tput]
theorem tput_ne {t : Tm} {d : Option Tmp} {v : Value} {s : Nat} (h : d ≠ some s) : (tput t d v)[s]? = t[s]? := by
  cases d with
  | none => rfl
  | some d => simp only [tput]; rw [List.getElem?_set_ne (fun e => h (by rw [e]))]
theorem tput_same {t t' : Tm} {d : Option Tmp} {v : Value} {s : Nat} (hl : t.length = t'.length) (h : t[s]? = t'[s]?) : (tput t d v)[s]? = (tput t' d v)[s]? := by
  cases d with
  | none => exact h
  | some d => simp only [tput, List.getElem?_set, hl, h]
theorem tput_comm {t : Tm} {d e : Option Tmp} {u v : Value} (h : ∀ x, d = some x → e ≠ some x) : tput (tput t d u) e v = tput (tput t e v) d u := by
  cases d with
  | none => rfl
  | some d => cases e with
    | none => rfl
    | some e => simp only [tput]; exact List.set_comm _ _ (fun q => h d rfl (by rw [q]))

theorem foldT_slot {S : Nat → Bool} {s : Nat} {evs : List Ev} : ∀ {past : List Ev} {t u : Tm} {h : Heap} {t' : Tm} {h' : Heap}, Chain P rec ops anc past t h evs t' h' → (∀ e ∈ evs, e.o.dst = some s → S e.i = true) → t.length = u.length → t[s]? = u[s]? →
    (foldT S evs u)[s]? = t'[s]? := by
  induction evs with
  | nil => intro past t u h t' h' hc _ _ hs; obtain ⟨rfl, _⟩ := hc; exact hs.symm
  | cons x evs ih =>
    intro past t u h t' h' hc hS hl hs
    obtain ⟨h1, h2⟩ := hc
    simp only [foldT]
    refine ih h2 (fun e he => hS e (List.mem_cons_of_mem _ he)) ?_ ?_
    · rw [tput_length]; split
      · rw [tput_length]; exact hl
      · exact hl
    · by_cases hd : x.o.dst = some s
      · rw [if_pos (hS x (List.mem_cons_self ..) hd)]; exact tput_same hl hs
      · rw [tput_ne hd]
        split
        · rw [tput_ne hd]; exact hs
        · exact hs
theorem foldT_far {S : Nat → Bool} {s : Nat} {evs : List Ev} : ∀ {u : Tm}, (∀ e ∈ evs, S e.i = true → e.o.dst ≠ some s) → (foldT S evs u)[s]? = u[s]? := by
  induction evs with
  | nil => intro u _; rfl
  | cons x evs ih =>
    intro u hS
    simp only [foldT]
    rw [ih fun e he => hS e (List.mem_cons_of_mem _ he)]
    split
    · rename_i hs; exact tput_ne (hS x (List.mem_cons_self ..) hs)
    · rfl
theorem foldT_comm {S : Nat → Bool} {d : Option Tmp} {v : Value} {evs : List Ev} : ∀ {u : Tm}, (∀ e ∈ evs, ∀ x, d = some x → e.o.dst ≠ some x) → foldT S evs (tput u d v) = tput (foldT S evs u) d v := by
  induction evs with
  | nil => intro u _; rfl
  | cons x evs ih =>
    intro u hS
    simp only [foldT]
    rw [← ih fun e he => hS e (List.mem_cons_of_mem _ he)]
    split
    · rw [tput_comm (hS x (List.mem_cons_self ..))]
    · rfl
theorem foldT_length {S : Nat → Bool} {evs : List Ev} : ∀ {u : Tm}, (foldT S evs u).length = u.length := by
  induction evs with
  | nil => intro u; rfl
  | cons x evs ih => intro u; simp only [foldT, ih]; split <;> simp [tput_length]
theorem foldT_all {evs : List Ev} {S : Nat → Bool} : ∀ {past : List Ev} {t : Tm} {h : Heap} {t' : Tm} {h' : Heap}, Chain P rec ops anc past t h evs t' h' → (∀ e ∈ evs, S e.i = true) → foldT S evs t = t' := by
  induction evs with
  | nil => intro past t h t' h' hc _; obtain ⟨rfl, _⟩ := hc; rfl
  | cons x evs ih =>
    intro past t h t' h' hc hS
    obtain ⟨_, h2⟩ := hc
    simp only [foldT]
    rw [if_pos (hS x (List.mem_cons_self ..))]
    exact ih h2 fun e he => hS e (List.mem_cons_of_mem _ he)
end
end Go.Proofs.YthhhmmildgijhaaGreatDoorAI
