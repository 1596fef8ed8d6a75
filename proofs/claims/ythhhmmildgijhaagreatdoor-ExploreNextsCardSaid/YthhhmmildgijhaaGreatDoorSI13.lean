/- From a run of the interpreter to a call in the model: a law's arguments are memory that nobody writes. -/
import Derived.Test.YthhhmmildgijhaaGreatDoorSI11
import Derived.Below
set_option linter.unusedVariables false
set_option linter.unusedSimpArgs false
namespace Go.Proofs.YthhhmmildgijhaaGreatDoorSI
open Go

section
variable {P : Program}

/-! ### 1. More fuel, the same answer -/
def RecLe (r r' : Rec) : Prop := ∀ f args h x, r f args h = some x → r' f args h = some x

theorem aenter_mono {r r' : Rec} (hr : RecLe r r') {f : FuncId} {args : List Value} {h : Heap} {x : Value × Heap} (ha : aenter r f args h = some x) : aenter r' f args h = some x := by
  cases args with
  | nil =>
    simp only [aenter] at ha ⊢
    cases hx : r f [] .empty with
    | none => rw [hx] at ha; cases ha
    | some y => rw [hx] at ha; rw [hr _ _ _ _ hx]; exact ha
  | cons a as => simp only [aenter] at ha ⊢; exact hr _ _ _ _ ha

theorem acallOp_mono {r r' : Rec} (hr : RecLe r r') {ρ : Operand → Value} {c : Call} {h : Heap} {x : Value × Heap} (ha : acallOp P r ρ c h = some x) : acallOp P r' ρ c h = some x := by
  have en : ∀ {b : Bool} {f : FuncId} {args : List Value}, (bif b then aenter r f args h else none) = some x → (bif b then aenter r' f args h else none) = some x := fun {b f args} hb => by
    cases b with
    | false => cases hb
    | true => exact aenter_mono hr hb
  unfold acallOp at ha ⊢
  split at ha
  · split at ha
    · exact en ha
    · cases ha
  · split at ha
    · split at ha
      · split at ha
        · split at ha
          · exact en ha
          · split at ha
            · cases ha
            · exact en ha
          · cases ha
        · cases ha
      · cases ha
    · cases ha
  · split at ha
    · exact ha
    · cases ha
  · cases ha

theorem heavy_mono {r r' : Rec} (hr : RecLe r r') {ρ : Operand → Value} {o : Oper} {h : Heap} {x : Value × Heap} (ha : heavy P r ρ o h = some x) : heavy P r' ρ o h = some x := by
  unfold heavy at ha ⊢
  split at ha
  · exact ha
  · exact acallOp_mono hr ha
  · cases ha

theorem aop_mono {r r' : Rec} (hr : RecLe r r') {ρ : Operand → Value} {o : Oper} {h : Heap} {x : Value × Heap} (ha : aop P r ρ o h = some x) : aop P r' ρ o h = some x := by
  unfold aop at ha ⊢
  split at ha
  · exact ha
  · exact ha
  · exact heavy_mono hr ha

theorem aops_mono {r r' : Rec} (hr : RecLe r r') {ops : Array Oper} : ∀ (is : List Nat) {t : Tm} {h : Heap} {x : Tm × Heap}, aops P r ops is t h = some x → aops P r' ops is t h = some x := by
  intro is
  induction is with
  | nil => intro t h x ha; exact ha
  | cons i is ih =>
    intro t h x ha
    simp only [aops] at ha ⊢
    split at ha
    · cases ha
    · split at ha
      · cases ha
      · exact ih ha
      · split at ha
        · cases ha
        · rename_i v h' hop
          rw [aop_mono hr hop]
          exact ih ha

theorem adraw_mono {r r' : Rec} (hr : RecLe r r') {ops : Array Oper} {anc : List (List Nat)} : ∀ (is : List Nat) {reads : List (Nat × List Nat)} {t : Tm} {h : Heap} {x : Tm × Heap}, adraw P r ops anc is reads t h = some x → adraw P r' ops anc is reads t h = some x := by
  intro is
  induction is with
  | nil => intro reads t h x ha; exact ha
  | cons i is ih =>
    intro reads t h x ha
    simp only [adraw] at ha ⊢
    split at ha
    · cases ha
    · split at ha
      · cases ha
      · exact ih ha
      · split at ha
        · split at ha
          · cases ha
          · exact ih ha
        · split at ha
          · cases ha
          · exact ih ha
        · split at ha
          · cases ha
          · rename_i v h' hop
            rw [heavy_mono hr hop]
            simp only
            rename_i o _ _ _ _
            cases hb : readsOk anc i reads h h' && Nat.ble h.next h'.next with
            | false => rw [hb] at ha; cases ha
            | true => rw [hb] at ha; exact ih ha

theorem aloop_le {ks : List Nat} {f f' : Step} (hf : ∀ t h x, f t h = some x → f' t h = some x) : ∀ (n m : Nat), n ≤ m → ∀ {t : Tm} {h : Heap} {x : AEx × Tm × Heap}, aloop ks n f t h = some x → aloop ks m f' t h = some x := by
  intro n
  induction n with
  | zero => intro m _ t h x ha; cases ha
  | succ n ih =>
    intro m hm t h x ha
    obtain ⟨m, rfl⟩ : ∃ k, m = k + 1 := ⟨m - 1, by omega⟩
    simp only [aloop] at ha ⊢
    cases hx : f (forget ks t) h with
    | none => rw [hx] at ha; cases ha
    | some y =>
      rw [hx] at ha
      rw [hf _ _ _ hx]
      obtain ⟨e, t1, h1⟩ := y
      cases e with
      | normal => exact ih m (by omega) ha
      | exit i => exact ha
      | ret => exact ha

theorem aexec_le {js : Nat → List Nat} {r r' : Rec} (hr : RecLe r r') {lp lp' : List Nat → Step → Step} (hlp : ∀ ks f f', (∀ t h x, f t h = some x → f' t h = some x) → ∀ t h x, lp ks f t h = some x → lp' ks f' t h = some x) :
    ∀ (c : Code) {t : Tm} {h : Heap} {x : AEx × Tm × Heap}, aexec P js r lp c t h = some x → aexec P js r' lp' c t h = some x := by
  intro c
  induction c with
  | region id ops draw =>
    intro t h x ha
    simp only [aexec] at ha ⊢
    cases draw with
    | false =>
      simp only [cond_false] at ha ⊢
      cases hx : aops P r ops (List.range ops.size) t h with
      | none => rw [hx] at ha; cases ha
      | some y => rw [hx] at ha; rw [aops_mono hr _ hx]; exact ha
    | true =>
      simp only [cond_true] at ha ⊢
      split at ha
      · rename_i ord ho
        cases hx : adraw P r ops (ancs ops) ord [] t h with
        | none => rw [hx] at ha; cases ha
        | some y => rw [hx] at ha; rw [adraw_mono hr _ hx]; exact ha
      · cases ha
  | seq a b iha ihb =>
    intro t h x ha
    simp only [aexec] at ha ⊢
    cases hx : aexec P js r lp a t h with
    | none => rw [hx] at ha; cases ha
    | some y =>
      rw [hx] at ha
      rw [iha hx]
      obtain ⟨e, t1, h1⟩ := y
      cases e with
      | normal => exact ihb ha
      | exit i => exact ha
      | ret => exact ha
  | cond c a b iha ihb =>
    intro t h x ha
    simp only [aexec] at ha ⊢
    split at ha
    · exact iha ha
    · exact ihb ha
    · cases ha
  | block id b ih =>
    intro t h x ha
    simp only [aexec] at ha ⊢
    cases hx : aexec P js r lp b t h with
    | none => rw [hx] at ha; cases ha
    | some y => rw [hx] at ha; rw [ih hx]; exact ha
  | loop b ih =>
    intro t h x ha
    simp only [aexec] at ha ⊢
    exact hlp _ _ _ (fun t h x => ih) _ _ _ ha
  | scope b ih => intro t h x ha; simp only [aexec] at ha ⊢; exact ih ha
  | _ => intro t h x ha; exact ha

theorem acall_le (s : Scr) : ∀ (k : Nat), RecLe (acall P s k) (acall P s (k + 1)) := by
  intro k
  induction k with
  | zero => intro f args h x ha; cases ha
  | succ k ih =>
    intro f args h x ha
    rw [acall] at ha ⊢
    cases hf : P.funcs[f]? with
    | none => rw [hf] at ha; cases ha
    | some fn =>
      rw [hf] at ha
      simp only at ha ⊢
      cases hb : fn.body with
      | none => rw [hb] at ha; cases ha
      | some c =>
        rw [hb] at ha
        simp only at ha ⊢
        cases hx : aexec P (s f) (acall P s k) (fun js => aloop js k) c (args ++ List.replicate (fn.ntmps - args.length) undef) h with
        | none => rw [hx] at ha; cases ha
        | some y =>
          rw [hx] at ha
          rw [aexec_le (lp := fun js => aloop js k) (lp' := fun js => aloop js (k + 1)) ih (fun ks f f' hf t h x => aloop_le hf k (k + 1) (by omega)) c hx]
          exact ha

theorem acall_le' (s : Scr) {k m : Nat} (hkm : k ≤ m) : RecLe (acall P s k) (acall P s m) := by
  obtain ⟨d, rfl⟩ : ∃ d, m = k + d := ⟨m - k, by omega⟩
  induction d with
  | zero => intro f args h x ha; exact ha
  | succ d ih => intro f args h x ha; exact acall_le s _ _ _ _ _ (ih (by omega) _ _ _ _ ha)

/-! ### 2. Without fuel -/
open Classical in
noncomputable def run (P : Program) (s : Scr) : Rec := fun f args h => if hx : ∃ x, ∃ k, acall P s k f args h = some x then some hx.choose else none

theorem run_iff {s : Scr} {f : FuncId} {args : List Value} {h : Heap} {x : Value × Heap} : run P s f args h = some x ↔ ∃ k, acall P s k f args h = some x := by
  unfold run
  constructor
  · intro hr
    split at hr
    · rename_i hx
      simp only [Option.some.injEq] at hr
      rw [← hr]; exact hx.choose_spec
    · cases hr
  · rintro ⟨k, hk⟩
    have hx : ∃ x, ∃ k, acall P s k f args h = some x := ⟨x, k, hk⟩
    rw [dif_pos hx]
    obtain ⟨m, hm⟩ := hx.choose_spec
    have h1 := acall_le' s (Nat.le_max_left k m) _ _ _ _ hk
    have h2 := acall_le' s (Nat.le_max_right k m) _ _ _ _ hm
    rw [h1] at h2
    exact h2.symm

open Classical in
noncomputable def loopω (ks : List Nat) (f : Step) : Step := fun t h => if hx : ∃ x, ∃ n, aloop ks n f t h = some x then some hx.choose else none

theorem loopω_iff {ks : List Nat} {f : Step} {t : Tm} {h : Heap} {x : AEx × Tm × Heap} : loopω ks f t h = some x ↔ ∃ n, aloop ks n f t h = some x := by
  unfold loopω
  constructor
  · intro hr
    split at hr
    · rename_i hx
      simp only [Option.some.injEq] at hr
      rw [← hr]; exact hx.choose_spec
    · cases hr
  · rintro ⟨k, hk⟩
    have hx : ∃ x, ∃ n, aloop ks n f t h = some x := ⟨x, k, hk⟩
    rw [dif_pos hx]
    obtain ⟨m, hm⟩ := hx.choose_spec
    have h1 := aloop_le (fun _ _ _ h => h) k (max k m) (Nat.le_max_left k m) hk
    have h2 := aloop_le (fun _ _ _ h => h) m (max k m) (Nat.le_max_right k m) hm
    rw [h1] at h2
    exact h2.symm

/-- One round. -/
theorem loopω_round {ks : List Nat} {f : Step} {t t' : Tm} {h h' : Heap} {x : AEx × Tm × Heap} (h1 : f (forget ks t) h = some (.normal, t', h')) (h2 : loopω ks f t' h' = some x) : loopω ks f t h = some x := by
  obtain ⟨n, hn⟩ := loopω_iff.1 h2
  exact loopω_iff.2 ⟨n + 1, by simp only [aloop, h1]; exact hn⟩
/-- The end. -/
theorem loopω_exit {ks : List Nat} {f : Step} {t t' : Tm} {h h' : Heap} {i : Nat} (h1 : f (forget ks t) h = some (.exit i, t', h')) : loopω ks f t h = some (.exit i, t', h') :=
  loopω_iff.2 ⟨1, by simp only [aloop, h1]⟩
theorem loopω_ret {ks : List Nat} {f : Step} {t t' : Tm} {h h' : Heap} (h1 : f (forget ks t) h = some (.ret, t', h')) : loopω ks f t h = some (.ret, t', h') :=
  loopω_iff.2 ⟨1, by simp only [aloop, h1]⟩

/-- Code, without fuel. -/
noncomputable abbrev exec (P : Program) (s : Scr) (f : FuncId) : Code → Step := aexec P (s f) (run P s) loopω

/-! What is there without fuel is there with enough. -/
def Evt (p : Nat → Prop) : Prop := ∃ K, ∀ k, K ≤ k → p k
theorem Evt.and {p q : Nat → Prop} (hp : Evt p) (hq : Evt q) : Evt fun k => p k ∧ q k := by
  obtain ⟨a, ha⟩ := hp
  obtain ⟨b, hb⟩ := hq
  exact ⟨max a b, fun k hk => ⟨ha k (by omega), hb k (by omega)⟩⟩
theorem Evt.mono {p q : Nat → Prop} (hp : Evt p) (h : ∀ k, p k → q k) : Evt q := by
  obtain ⟨a, ha⟩ := hp
  exact ⟨a, fun k hk => h k (ha k hk)⟩
theorem Evt.of {p : Nat → Prop} (h : ∀ k, p k) : Evt p := ⟨0, fun k _ => h k⟩

theorem run_evt {s : Scr} {f : FuncId} {args : List Value} {h : Heap} {x : Value × Heap} (hr : run P s f args h = some x) : Evt fun k => acall P s k f args h = some x := by
  obtain ⟨k, hk⟩ := run_iff.1 hr
  exact ⟨k, fun m hm => acall_le' s hm _ _ _ _ hk⟩

theorem aenter_evt {s : Scr} {f : FuncId} {args : List Value} {h : Heap} {x : Value × Heap} (ha : aenter (run P s) f args h = some x) : Evt fun k => aenter (acall P s k) f args h = some x := by
  cases args with
  | nil =>
    simp only [aenter] at ha ⊢
    cases hx : run P s f [] .empty with
    | none => rw [hx] at ha; cases ha
    | some y =>
      rw [hx] at ha
      exact (run_evt hx).mono fun k hk => by rw [hk]; exact ha
  | cons a as => simp only [aenter] at ha ⊢; exact run_evt ha

theorem acallOp_evt {s : Scr} {ρ : Operand → Value} {c : Call} {h : Heap} {x : Value × Heap} (ha : acallOp P (run P s) ρ c h = some x) : Evt fun k => acallOp P (acall P s k) ρ c h = some x := by
  have en : ∀ {b : Bool} {f : FuncId} {args : List Value}, (bif b then aenter (run P s) f args h else none) = some x → Evt fun k => (bif b then aenter (acall P s k) f args h else none) = some x := fun {b f args} hb => by
    cases b with
    | false => cases hb
    | true => exact aenter_evt hb
  unfold acallOp at ha ⊢
  split at ha
  · split at ha
    · exact en ha
    · cases ha
  · split at ha
    · split at ha
      · split at ha
        · split at ha
          · exact en ha
          · split at ha
            · cases ha
            · exact en ha
          · cases ha
        · cases ha
      · cases ha
    · cases ha
  · split at ha
    · exact .of fun _ => ha
    · cases ha
  · cases ha

theorem heavy_evt {s : Scr} {ρ : Operand → Value} {o : Oper} {h : Heap} {x : Value × Heap} (ha : heavy P (run P s) ρ o h = some x) : Evt fun k => heavy P (acall P s k) ρ o h = some x := by
  unfold heavy at ha ⊢
  split at ha
  · exact .of fun _ => ha
  · exact acallOp_evt ha
  · cases ha

theorem aop_evt {s : Scr} {ρ : Operand → Value} {o : Oper} {h : Heap} {x : Value × Heap} (ha : aop P (run P s) ρ o h = some x) : Evt fun k => aop P (acall P s k) ρ o h = some x := by
  unfold aop at ha ⊢
  split at ha
  · exact .of fun _ => ha
  · exact .of fun _ => ha
  · exact heavy_evt ha

theorem aops_evt {s : Scr} {ops : Array Oper} : ∀ (is : List Nat) {t : Tm} {h : Heap} {x : Tm × Heap}, aops P (run P s) ops is t h = some x → Evt fun k => aops P (acall P s k) ops is t h = some x := by
  intro is
  induction is with
  | nil => intro t h x ha; exact .of fun _ => ha
  | cons i is ih =>
    intro t h x ha
    simp only [aops] at ha ⊢
    split at ha
    · cases ha
    · split at ha
      · cases ha
      · exact ih ha
      · split at ha
        · cases ha
        · rename_i v h' hop
          exact ((aop_evt hop).and (ih ha)).mono fun k hk => by rw [hk.1]; exact hk.2

theorem adraw_evt {s : Scr} {ops : Array Oper} {anc : List (List Nat)} : ∀ (is : List Nat) {reads : List (Nat × List Nat)} {t : Tm} {h : Heap} {x : Tm × Heap}, adraw P (run P s) ops anc is reads t h = some x → Evt fun k => adraw P (acall P s k) ops anc is reads t h = some x := by
  intro is
  induction is with
  | nil => intro reads t h x ha; exact .of fun _ => ha
  | cons i is ih =>
    intro reads t h x ha
    simp only [adraw] at ha ⊢
    split at ha
    · cases ha
    · split at ha
      · cases ha
      · exact ih ha
      · split at ha
        · split at ha
          · cases ha
          · exact ih ha
        · split at ha
          · cases ha
          · exact ih ha
        · split at ha
          · cases ha
          · rename_i v h' hop
            cases hb : readsOk anc i reads h h' && Nat.ble h.next h'.next with
            | false => rw [hb] at ha; cases ha
            | true =>
              rw [hb] at ha
              exact ((heavy_evt hop).and (ih ha)).mono fun k hk => by rw [hk.1]; simp only [hb]; exact hk.2

theorem aloop_evt {ks : List Nat} {f : Step} {F : Nat → Step} (hF : ∀ t h x, f t h = some x → Evt fun k => F k t h = some x) (hmono : ∀ k m, k ≤ m → ∀ t h x, F k t h = some x → F m t h = some x) :
    ∀ (n : Nat) {t : Tm} {h : Heap} {x : AEx × Tm × Heap}, aloop ks n f t h = some x → Evt fun k => aloop ks k (F k) t h = some x := by
  intro n
  induction n with
  | zero => intro t h x ha; cases ha
  | succ n ih =>
    intro t h x ha
    simp only [aloop] at ha
    cases hx : f (forget ks t) h with
    | none => rw [hx] at ha; cases ha
    | some y =>
      rw [hx] at ha
      obtain ⟨e, t1, h1⟩ := y
      have h1' := hF _ _ _ hx
      cases e with
      | normal =>
        obtain ⟨K, hK⟩ := h1'.and (ih ha)
        refine ⟨K + 1, fun k hk => ?_⟩
        obtain ⟨k, rfl⟩ : ∃ j, k = j + 1 := ⟨k - 1, by omega⟩
        obtain ⟨q1, q2⟩ := hK k (by omega)
        simp only [aloop]
        rw [hmono k (k + 1) (by omega) _ _ _ q1]
        exact aloop_le (fun t h x => hmono k (k + 1) (by omega) t h x) k k (Nat.le_refl _) q2
      | exit i =>
        obtain ⟨K, hK⟩ := h1'
        refine ⟨K + 1, fun k hk => ?_⟩
        obtain ⟨k, rfl⟩ : ∃ j, k = j + 1 := ⟨k - 1, by omega⟩
        simp only [aloop]
        rw [hK (k + 1) (by omega)]
        exact ha
      | ret =>
        obtain ⟨K, hK⟩ := h1'
        refine ⟨K + 1, fun k hk => ?_⟩
        obtain ⟨k, rfl⟩ : ∃ j, k = j + 1 := ⟨k - 1, by omega⟩
        simp only [aloop]
        rw [hK (k + 1) (by omega)]
        exact ha

theorem exec_evt {s : Scr} {js : Nat → List Nat} : ∀ (c : Code) {t : Tm} {h : Heap} {x : AEx × Tm × Heap}, aexec P js (run P s) loopω c t h = some x → Evt fun k => aexec P js (acall P s k) (fun is => aloop is k) c t h = some x := by
  intro c
  induction c with
  | region id ops draw =>
    intro t h x ha
    simp only [aexec] at ha ⊢
    cases draw with
    | false =>
      simp only [cond_false] at ha ⊢
      cases hx : aops P (run P s) ops (List.range ops.size) t h with
      | none => rw [hx] at ha; cases ha
      | some y => rw [hx] at ha; exact (aops_evt _ hx).mono fun k hk => by rw [hk]; exact ha
    | true =>
      simp only [cond_true] at ha ⊢
      split at ha
      · rename_i ord ho
        cases hx : adraw P (run P s) ops (ancs ops) ord [] t h with
        | none => rw [hx] at ha; cases ha
        | some y => rw [hx] at ha; exact (adraw_evt _ hx).mono fun k hk => by rw [hk]; exact ha
      · cases ha
  | seq a b iha ihb =>
    intro t h x ha
    simp only [aexec] at ha ⊢
    cases hx : aexec P js (run P s) loopω a t h with
    | none => rw [hx] at ha; cases ha
    | some y =>
      rw [hx] at ha
      obtain ⟨e, t1, h1⟩ := y
      cases e with
      | normal => exact ((iha hx).and (ihb ha)).mono fun k hk => by rw [hk.1]; exact hk.2
      | exit i => exact (iha hx).mono fun k hk => by rw [hk]; exact ha
      | ret => exact (iha hx).mono fun k hk => by rw [hk]; exact ha
  | cond c a b iha ihb =>
    intro t h x ha
    simp only [aexec] at ha ⊢
    split at ha
    · exact iha ha
    · exact ihb ha
    · cases ha
  | block id b ih =>
    intro t h x ha
    simp only [aexec] at ha ⊢
    cases hx : aexec P js (run P s) loopω b t h with
    | none => rw [hx] at ha; cases ha
    | some y => rw [hx] at ha; exact (ih hx).mono fun k hk => by rw [hk]; exact ha
  | loop b ih =>
    intro t h x ha
    simp only [aexec] at ha ⊢
    obtain ⟨n, hn⟩ := loopω_iff.1 ha
    refine aloop_evt (fun t h x => ih) (fun k m hkm t h x hx => ?_) n hn
    exact aexec_le (lp := fun js => aloop js k) (lp' := fun js => aloop js m) (acall_le' s hkm) (fun ks f f' hf t h x => aloop_le hf k m hkm) b hx
  | scope b ih => intro t h x ha; simp only [aexec] at ha ⊢; exact ih ha
  | _ => intro t h x ha; exact .of fun _ => ha

/-- A function's run, put together. -/
theorem run_of {s : Scr} {f : FuncId} {fn : Func} {c : Code} {args : List Value} {h h' : Heap} {t : Tm} {e : AEx} {v : Value} (hf : P.funcs[f]? = some fn) (hb : fn.body = some c)
    (hx : exec P s f c (args ++ List.replicate (fn.ntmps - args.length) undef) h = some (e, t, h')) (he : e = .normal ∨ e = .ret) (hv : aresults P fn t h' = some v) : run P s f args h = some (v, h') := by
  obtain ⟨K, hK⟩ := exec_evt c hx
  refine run_iff.2 ⟨K + 1, ?_⟩
  rw [acall]
  simp only [hf, hb]
  rw [hK K (Nat.le_refl _)]
  rcases he with rfl | rfl <;> simp [hv]

/-- The model answers what 'run' answers. -/
theorem run_sound {base : Nat} (hmix : P.follows .mixedOrders = true) (s : Scr) : RecOK P base (run P s) := by
  intro f args h v h' hr
  obtain ⟨k, hk⟩ := run_iff.1 hr
  exact acall_sound hmix s k f args h v h' hk

end
end Go.Proofs.YthhhmmildgijhaaGreatDoorSI
set_option linter.unusedVariables false
set_option linter.unusedSimpArgs false
namespace Go.Proofs.YthhhmmildgijhaaGreatDoorSI
open Go Go.RowKit

/-- A run's end: from what the body came to. -/
def fin (P : Program) (fn : Func) (x : Option (AEx × Tm × Heap)) : Option (Value × Heap) :=
  match x with
  | some (.normal, t, h') | some (.ret, t, h') => (aresults P fn t h').map fun v => (v, h')
  | _ => none

theorem run_fin {P : Program} {s : Scr} {f : FuncId} {fn : Func} {c : Code} {args : List Value} {h : Heap} {x : Value × Heap} (hf : P.funcs[f]? = some fn) (hb : fn.body = some c)
    (hx : fin P fn (exec P s f c (args ++ List.replicate (fn.ntmps - args.length) undef) h) = some x) : run P s f args h = some x := by
  cases he : exec P s f c (args ++ List.replicate (fn.ntmps - args.length) undef) h with
  | none => rw [he] at hx; cases hx
  | some y =>
    obtain ⟨e, t, h'⟩ := y
    rw [he] at hx
    cases e with
    | exit i => cases hx
    | normal =>
      simp only [fin] at hx
      cases hv : aresults P fn t h' with
      | none => rw [hv] at hx; cases hx
      | some v => rw [hv] at hx; cases hx; exact run_of hf hb he (.inl rfl) hv
    | ret =>
      simp only [fin] at hx
      cases hv : aresults P fn t h' with
      | none => rw [hv] at hx; cases hx
      | some v => rw [hv] at hx; cases hx; exact run_of hf hb he (.inr rfl) hv

/-- A closed call, settled by the kernel. -/
theorem run_closed {P : Program} {s : Scr} {f : FuncId} {v : Value} (k : Nat) (h : ((acall P (fun _ _ => []) k f [] .empty).map fun x => x.1) = some v) (hs : s = fun _ _ => []) : ∃ h', run P s f [] .empty = some (v, h') := by
  subst hs
  cases hx : acall P (fun _ _ => []) k f [] .empty with
  | none => rw [hx] at h; cases h
  | some x =>
    rw [hx] at h
    simp only [Option.map_some, Option.some.injEq] at h
    subst h
    exact ⟨x.2, run_iff.2 ⟨k, hx⟩⟩

/-- All that is there is read only. -/
def AllRo (h : Heap) : Prop := ∀ n, ¬ NonRo h.get n

theorem law_calls {P : Program} {s : Scr} {f : FuncId} {args : List Value} {h h' : Heap} {v : Value} (hmix : P.follows .mixedOrders = true) (hro : AllRo h) (hrun : run P s f args h = some (v, h')) (hp : plain v = true)
    {W : World} {σ : Sig} {args' : Array Value} (hr : Rep W.heap.size (· < h.next) σ h.get W) (hl : LRep (· < h.next) σ args args'.toList) :
    Calls P f args' W fun e W' => e = .returned v ∧ Below W.heap.size W W' := by
  refine (run_sound hmix s f args h v h' hrun σ W args' hr hl).mono ?_
  rintro e W' ⟨v', σ', rfl, hm, hv⟩
  obtain rfl := VRep.plain_eq 8 hp hv
  exact ⟨rfl, hm.os, hm.tape, hm.output, hm.size, fun k hk => hm.frame k hk (fun ⟨n, hn, _⟩ => hro n hn)⟩

/-- No argument in memory. -/
theorem law_plain {P : Program} {s : Scr} {f : FuncId} {args : List Value} {h' : Heap} {v : Value} (hmix : P.follows .mixedOrders = true) (hrun : run P s f args .empty = some (v, h')) (hp : plain v = true) (ha : ∀ x ∈ args, plain x = true) (W : World) :
    Calls P f args.toArray W fun e W' => e = .returned v ∧ Below W.heap.size W W' := by
  refine law_calls hmix (fun n ⟨_, _, _, _, h⟩ => by rw [Heap.get_empty] at h; cases h) hrun hp (σ := fun _ => ⟨0, 0, 0⟩) (Rep.none _ W (Nat.le_refl _) _) ?_
  have : ∀ l : List Value, (∀ x ∈ l, plain x = true) → LRep (· < Heap.empty.next) (fun _ => ⟨0, 0, 0⟩) l l := by
    intro l
    induction l with
    | nil => intro _; exact .nil
    | cons x l ih => intro h; exact .cons (VRep.plain_refl 8 (h x (List.mem_cons_self ..))) (ih fun y hy => h y (List.mem_cons_of_mem _ hy))
  simpa using this args ha

/-! ### Arguments in memory -/
def Heap.push (h : Heap) (o : Option AObj) : Heap := ⟨T.set (h.next + 1) h.m h.next o, h.next + 1⟩
theorem Heap.next_push (h : Heap) (o : Option AObj) : (h.push o).next = h.next + 1 := rfl
theorem Heap.get_push {h : Heap} {m : Nat} {o : Option AObj} : (h.push o).get m = if m = h.next then o else h.get m := by
  unfold Heap.get Heap.push
  simp only [T.get_set _ (h.next + 1) h.m h.next m (by omega)]
  by_cases e : m = h.next
  · subst e; simp [blt_t (Nat.lt_succ_self h.next)]
  · simp only [e, if_false]
    rcases Nat.lt_or_ge m h.next with h1 | h1
    · rw [blt_t h1, blt_t (show m < h.next + 1 by omega)]
    · rw [blt_f h1, blt_f (show h.next + 1 ≤ m by omega)]

theorem Rep.push {base : Nat} {h : Heap} {σ : Sig} {w : World} (hr : Rep base (· < h.next) σ h.get w) (pl : Pl) (o : Option (List Value × TypeId × Nat))
    (ho : ∀ c e s, o = some (c, e, s) → pl.blk < base ∧ ∃ C t fr, w.heap[pl.blk]? = some (.cells C t fr) ∧ pl.off + c.length ≤ C.size ∧ LRep (· < h.next) σ c ((C.toList.drop pl.off).take c.length)) :
    Rep base (· < (h.push (o.map fun x => .cells x.1 x.2.1 x.2.2 false true)).next) (σ.upd h.next pl) (h.push (o.map fun x => .cells x.1 x.2.1 x.2.2 false true)).get w := by
  have hσ : ∀ m, m < h.next → σ.upd h.next pl m = σ m := fun m hm => Sig.upd_ne σ _ (Nat.ne_of_lt hm)
  have hD : ∀ m, m < h.next → m < h.next + 1 := fun m hm => by omega
  have hnon : ∀ m, NonRo (h.push (o.map fun x => .cells x.1 x.2.1 x.2.2 false true)).get m → m < h.next ∧ NonRo h.get m := by
    rintro m ⟨c, e, s, gr, hg⟩
    rw [Heap.get_push] at hg
    split at hg
    · cases o with
      | none => cases hg
      | some x => simp at hg
    · exact ⟨Heap.get_lt hg, c, e, s, gr, hg⟩
  refine ⟨?_, ?_, ?_, ?_, hr.size⟩
  · intro m c e s gr ro hg
    rw [Heap.get_push] at hg
    rw [Heap.next_push]
    split at hg
    · rename_i hm
      subst hm
      cases o with
      | none => cases hg
      | some x =>
        obtain ⟨c1, e1, s1⟩ := x
        simp only [Option.map_some, Option.some.injEq, AObj.cells.injEq] at hg
        obtain ⟨rfl, rfl, rfl, rfl, rfl⟩ := hg
        obtain ⟨hb, C, t, fr, q1, q2, q3⟩ := ho _ _ _ rfl
        have es := Sig.upd_same σ h.next pl
        exact ⟨Nat.lt_succ_self _, C, t, fr, ⟨by rw [es]; exact q1, by rw [es]; exact q2, by rw [es]; exact q3.mono hD hσ, (fun hh => by cases hh), (fun hh => by cases hh)⟩⟩
    · have hlt := Heap.get_lt hg
      obtain ⟨_, C, t, fr, r⟩ := hr.object hg
      have es := hσ m hlt
      exact ⟨by omega, C, t, fr, ⟨by rw [es]; exact r.heap, by rw [es]; exact r.fit, by rw [es]; exact r.rel.mono hD hσ, r.mine, by rw [es]; exact r.grow⟩⟩
  · intro m hm
    obtain ⟨h1, h2⟩ := hnon m hm
    rw [hσ m h1]; exact hr.own m h2
  · rintro m ⟨c, e, s, gr, hg⟩
    rw [Heap.get_push] at hg
    split at hg
    · rename_i hm
      subst hm
      cases o with
      | none => cases hg
      | some x =>
        obtain ⟨c1, e1, s1⟩ := x
        rw [Sig.upd_same]
        exact (ho _ _ _ rfl).1
    · rw [hσ m (Heap.get_lt hg)]; exact hr.old m ⟨c, e, s, gr, hg⟩
  · intro m k hm hk hne
    obtain ⟨h1, h2⟩ := hnon m hm
    obtain ⟨h3, h4⟩ := hnon k hk
    rw [hσ m h1, hσ k h3]; exact hr.inj m k h2 h4 hne

theorem AllRo.push {h : Heap} (hro : AllRo h) (o : Option (List Value × TypeId × Nat)) : AllRo (h.push (o.map fun x => .cells x.1 x.2.1 x.2.2 false true)) := by
  rintro m ⟨c, e, s, gr, hg⟩
  rw [Heap.get_push] at hg
  split at hg
  · cases o with
    | none => cases hg
    | some x => simp at hg
  · exact hro m ⟨c, e, s, gr, hg⟩

theorem allRo_empty : AllRo .empty := fun n ⟨_, _, _, _, h⟩ => by rw [Heap.get_empty] at h; cases h

/-- What an argument of a slice's type is to the interpreter: nil, or a name's cells. -/
def argSlice (n : Nat) (esz : Nat) : Option Nat → Value
  | none => .slice none 0 0
  | some len => .slice (some ⟨n, 0, some 0⟩) len esz
def argObj (e esz : Nat) (cs : List Value) : Option AObj := (if cs = [] then none else some (cs, e, esz) : Option (List Value × TypeId × Nat)).map fun x => .cells x.1 x.2.1 x.2.2 false true

/-- One argument more: a slice whose cells are known. -/
theorem arg_slice {h : Heap} {σ : Sig} {W : World} (hr : Rep W.heap.size (· < h.next) σ h.get W) (hro : AllRo h) (e esz : Nat) {a : Addr} {len cap : Nat} {cs : List Value} (hl : len ≤ cap) (hc : cs.length = len * esz) (hz : 0 < esz)
    (hcell : ∀ j v, cs[j]? = some v → W.cell? (a.add j) = some v) (hsp : cs ≠ [] → a.spot = none) (hp : ∀ v ∈ cs, plain v = true) (hsp2 : 0 < cap → a.spot = none) :
    ∃ σ', Rep W.heap.size (· < (h.push (argObj e esz cs)).next) σ' (h.push (argObj e esz cs)).get W ∧ AllRo (h.push (argObj e esz cs)) ∧ (∀ m, m < h.next → σ' m = σ m) ∧
      VRep (· < (h.push (argObj e esz cs)).next) σ' (argSlice h.next esz (some len)) (.slice (some a) len cap) := by
  refine ⟨σ.upd h.next ⟨a.block, a.off, a.off + cap * esz⟩, hr.push _ _ ?_, hro.push _, fun m hm => Sig.upd_ne σ _ (Nat.ne_of_lt hm), ?_⟩
  · intro c e' s hx
    split at hx
    · cases hx
    · rename_i hne
      simp only [Option.some.injEq, Prod.mk.injEq] at hx
      obtain ⟨rfl, rfl, rfl⟩ := hx
      have hsp := hsp hne
      obtain ⟨b, o, sp⟩ := a
      simp only at hsp
      subst hsp
      have hpos : 0 < cs.length := List.length_pos_iff.2 hne
      have h0 := hcell 0 cs[0] (List.getElem?_eq_getElem hpos)
      rw [add_at] at h0
      have hob : ∃ C t fr, W.heap[b]? = some (.cells C t fr) := by
        unfold World.cell? at h0
        split at h0
        · rename_i C t fr hh; exact ⟨C, t, fr, hh⟩
        · cases h0
      obtain ⟨C, t, fr, hh⟩ := hob
      have hcs : ∀ j v, cs[j]? = some v → C[o + j]? = some v := fun j v hv => by
        have := hcell j v hv
        rw [add_at, cell_at hh] at this
        exact this
      have hfit : o + cs.length ≤ C.size := by
        have h1 := hcs (cs.length - 1) cs[cs.length - 1] (List.getElem?_eq_getElem (by omega))
        have := (Array.getElem?_eq_some_iff.1 h1).1
        omega
      refine ⟨(Array.getElem?_eq_some_iff.1 hh).1, C, t, fr, hh, hfit, ?_⟩
      refine .of (by simp; omega) fun j v v' e1 e2 => ?_
      have hj : j < cs.length := (List.getElem?_eq_some_iff.1 e1).1
      rw [List.getElem?_take_of_lt hj, List.getElem?_drop, Array.getElem?_toList, hcs j v e1] at e2
      cases e2
      exact VRep.plain_refl 8 (hp v (List.mem_of_getElem? e1))
  · refine .sliceU (Nat.lt_succ_self _) hl (fun h0 => ?_) ?_
    · rw [Sig.upd_same]
      have := hsp2 h0
      obtain ⟨b, o, sp⟩ := a
      simp only at this
      subst this
      simp
    · rw [Sig.upd_same]; simp
theorem arg_nil {h : Heap} {σ : Sig} {W : World} (hr : Rep W.heap.size (· < h.next) σ h.get W) (hro : AllRo h) (e esz : Nat) :
    ∃ σ', Rep W.heap.size (· < (h.push (argObj e esz [])).next) σ' (h.push (argObj e esz [])).get W ∧ AllRo (h.push (argObj e esz [])) ∧ (∀ m, m < h.next → σ' m = σ m) ∧
      VRep (· < (h.push (argObj e esz [])).next) σ' (argSlice h.next esz none) (.slice none 0 0) :=
  ⟨σ.upd h.next ⟨0, 0, 0⟩, hr.push _ none (fun _ _ _ hx => by cases hx), hro.push none, fun m hm => Sig.upd_ne σ _ (Nat.ne_of_lt hm), .sliceNil⟩

end Go.Proofs.YthhhmmildgijhaaGreatDoorSI
