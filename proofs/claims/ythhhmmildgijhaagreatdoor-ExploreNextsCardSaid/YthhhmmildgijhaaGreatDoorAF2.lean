/- The quick interpreter does what the other one does. -/
import Derived.Test.YthhhmmildgijhaaGreatDoorAF1
set_option linter.unusedVariables false
set_option linter.unusedSimpArgs false
namespace Go.Proofs.YthhhmmildgijhaaGreatDoorAI
open Go

/-- A frame as a list. -/
noncomputable def fabs (n : Nat) (t : Fr) : Tm := (List.range n).map fun i => fat n t i

theorem fabs_length (n : Nat) (t : Fr) : (fabs n t).length = n := by simp [fabs]
theorem fabs_get (n : Nat) (t : Fr) (i : Nat) : (fabs n t)[i]? = if i < n then some (fat n t i) else none := by
  unfold fabs
  rw [List.getElem?_map]
  by_cases h : i < n
  · rw [if_pos h, List.getElem?_range h]; rfl
  · rw [if_neg h, List.getElem?_eq_none (by simp; omega)]; rfl
theorem fat_out {n : Nat} {t : Fr} {i : Nat} (h : ¬ i < n) : fat n t i = undef := by
  unfold fat; rw [blt_f (by omega)]; rfl
theorem fabs_getD (n : Nat) (t : Fr) (i : Nat) : (fabs n t).getD i undef = fat n t i := by
  rw [List.getD, fabs_get]
  by_cases h : i < n
  · rw [if_pos h]; rfl
  · rw [if_neg h, fat_out h]; rfl
theorem fat_set {n : Nat} {t : Fr} {i j : Nat} {v : Value} (hj : j < n) : fat n (T.set (i + 1) t i (some v)) j = if j = i then v else fat n t j := by
  unfold fat
  rw [blt_t hj, T.get_set _ _ _ _ _ (Nat.lt_succ_self i)]
  by_cases h : j = i
  · rw [if_pos h, if_pos h]; rfl
  · rw [if_neg h, if_neg h]
theorem fabs_put (n : Nat) (t : Fr) (d : Option Tmp) (v : Value) : fabs n (fput n t d v) = tput (fabs n t) d v := by
  cases d with
  | none => rfl
  | some i =>
    simp only [fput, tput]
    apply List.ext_getElem?
    intro j
    rw [List.getElem?_set, fabs_get, fabs_get, fabs_length]
    by_cases hi : i < n
    · rw [blt_t hi]
      simp only [cond_true]
      by_cases hj : j < n
      · rw [if_pos hj, fat_set hj]
        by_cases hij : i = j
        · subst hij; simp [hj]
        · rw [if_neg (fun e => hij e.symm), if_neg hij, if_pos hj]
      · rw [if_neg hj]
        by_cases hij : i = j
        · subst hij; exact absurd hi hj
        · rw [if_neg hij, if_neg hj]
    · rw [blt_f (Nat.le_of_not_lt hi)]
      simp only [cond_false]
      by_cases hij : i = j
      · subst hij
        rw [if_pos rfl, if_neg hi, if_neg hi]
      · rw [if_neg hij]
theorem fev_eq (n : Nat) (t : Fr) : fev n t = aeval (fabs n t) := by
  funext x
  cases x with
  | tmp i => simp only [fev, aeval]; rw [fabs_getD]
  | const v => rfl
  | global g => rfl
  | func f => rfl
theorem fwanted_eq (n : Nat) (ops : Array Oper) (o : Oper) (t : Fr) : fwanted n ops o t = awanted ops o (fabs n t) := by
  unfold fwanted awanted
  cases o.guard with
  | none => rfl
  | some jw =>
    obtain ⟨j, want⟩ := jw
    simp only
    cases (ops[j]?).bind (·.dst) with
    | none => rfl
    | some d =>
      simp only [Option.bind_some]
      rw [fabs_get]
      by_cases h : d < n
      · rw [blt_t h, if_pos h]; simp only [cond_true]; cases fat n t d <;> rfl
      · rw [blt_f (Nat.le_of_not_lt h), if_neg h]; rfl

section
variable {P : Program} {rec : Rec}

noncomputable def absR (n : Nat) (x : Fr × Heap) : Tm × Heap := (fabs n x.1, x.2)
noncomputable def absE (n : Nat) (x : AEx × Fr × Heap) : AEx × Tm × Heap := (x.1, fabs n x.2.1, x.2.2)

theorem fops_go (n : Nat) (ops : Array Oper) : ∀ (l : List Oper) (k : Nat), ops.toList.drop k = l → ∀ (t : Fr) (h : Heap), aops P rec ops (List.range' k l.length) (fabs n t) h = (fops P rec n ops l t h).map (absR n) := by
  intro l
  induction l with
  | nil => intro k _ t h; rfl
  | cons o l ih =>
    intro k hk0 t h
    have ho : ops[k]? = some o := by
      have := congrArg (fun q => q[0]?) hk0
      simpa [List.getElem?_drop] using this
    have hd : ops.toList.drop (k + 1) = l := by
      have := congrArg List.tail hk0
      simpa [List.tail_drop] using this
    simp only [List.length_cons, List.range'_succ, aops, fops, ho]
    rw [fwanted_eq]
    cases awanted ops o (fabs n t) with
    | none => rfl
    | some b =>
      cases b with
      | false => simp only; rw [← fabs_put, ih (k + 1) hd]
      | true =>
        simp only
        rw [qop_eq, fev_eq]
        cases aop P rec (aeval (fabs n t)) o h with
        | none => rfl
        | some x => obtain ⟨v, h'⟩ := x; simp only; rw [hk_eq, ← fabs_put, ih (k + 1) hd]
theorem fops_eq (n : Nat) (ops : Array Oper) (t : Fr) (h : Heap) : aops P rec ops (List.range ops.size) (fabs n t) h = (fops P rec n ops ops.toList t h).map (absR n) := by
  have := fops_go (P := P) (rec := rec) n ops ops.toList 0 rfl t h
  rwa [Array.length_toList, ← List.range_eq_range'] at this

theorem fopsR_eq (n : Nat) (ops : Array Oper) : ∀ (is : List Nat) (t : Fr) (h : Heap), aopsR P rec ops is (fabs n t) h = (fopsR P rec n ops is t h).map (absR n) := by
  intro is
  induction is with
  | nil => intro t h; rfl
  | cons i is ih =>
    intro t h
    simp only [aopsR, fopsR]
    cases ops[i]? with
    | none => rfl
    | some o =>
      simp only
      rw [fwanted_eq]
      cases awanted ops o (fabs n t) with
      | none => rfl
      | some b =>
        cases b with
        | false => simp only; rw [← fabs_put, ih]
        | true =>
          simp only
          cases isRecover o with
          | true => simp only [cond_true]; rw [← fabs_put, ih]
          | false =>
            simp only [cond_false]
            rw [qop_eq, fev_eq]
            cases cls P o <;> first
              | rfl
              | (simp only
                 cases aop P rec (aeval (fabs n t)) o h with
                 | none => rfl
                 | some x => obtain ⟨v, h'⟩ := x; simp only; rw [← fabs_put, ih])

theorem fdraw_eq (n : Nat) (ops : Array Oper) (anc : List (List Nat)) : ∀ (is : List Nat) (reads : List (Nat × List Nat)) (t : Fr) (h : Heap), adraw P rec ops anc is reads (fabs n t) h = (fdraw P rec n ops anc is reads t h).map (absR n) := by
  intro is
  induction is with
  | nil => intro reads t h; rfl
  | cons i is ih =>
    intro reads t h
    simp only [adraw, fdraw]
    cases ops[i]? with
    | none => rfl
    | some o =>
      simp only
      rw [fwanted_eq, fev_eq]
      cases awanted ops o (fabs n t) with
      | none => rfl
      | some b =>
        cases b with
        | false => simp only; rw [← fabs_put, ih]
        | true =>
          simp only
          rw [qlight_eq, qalloc_eq, qheavy_eq]
          cases cls P o with
          | dfr => rfl
          | light =>
            simp only
            cases light P (aeval (fabs n t)) o h.get with
            | none => rfl
            | some v => simp only; rw [← fabs_put, ih]
          | alloc =>
            simp only
            cases aalloc P (aeval (fabs n t)) o with
            | none => rfl
            | some x => simp only; rw [hk_eq, ← fabs_put, ih]
          | heavy =>
            simp only
            cases heavy P rec (aeval (fabs n t)) o h with
            | none => rfl
            | some x =>
              obtain ⟨v, h'⟩ := x
              simp only
              have many : ∀ (b : Bool), (bif b then adraw P rec ops anc is reads (tput (fabs n t) o.dst v) h' else none) = (bif b then hk h' fun h'' => fdraw P rec n ops anc is reads (fput n t o.dst v) h'' else none).map (absR n) := by
                intro b
                cases b with
                | false => rfl
                | true => simp only [cond_true]; rw [hk_eq, ← fabs_put, ih]
              generalize storeNames (aeval (fabs n t)) o = sn
              match sn with
              | [] => exact many _
              | [m] =>
                simp only
                cases (reads.all fun r => isAnc anc r.1 i || !r.2.contains m) with
                | false => rfl
                | true => simp only [cond_true]; rw [hk_eq, ← fabs_put, ih]
              | _ :: _ :: _ => exact many _

theorem fforget_eq (n : Nat) : ∀ (ks : List Nat) (t : Fr), forget ks (fabs n t) = fabs n (fforget n ks t) := by
  intro ks
  induction ks with
  | nil => intro t; rfl
  | cons k ks ih =>
    intro t
    simp only [forget, fforget]
    rw [← ih, fabs_put]
    rfl

/-- Two steps that are one. -/
def SameStep (n : Nat) (f : Step) (g : FStep) : Prop := ∀ (t : Fr) (h : Heap), f (fabs n t) h = (g t h).map (absE n)

theorem floop_eq {n : Nat} {f : Step} {g : FStep} (hfg : SameStep n f g) (ks : List Nat) : ∀ (k : Nat), SameStep n (aloop ks k f) (floop n ks k g) := by
  intro k
  induction k with
  | zero => intro t h; rfl
  | succ k ih =>
    intro t h
    simp only [aloop, floop]
    rw [fforget_eq, hfg]
    cases g (fforget n ks t) h with
    | none => rfl
    | some r =>
      obtain ⟨e, t', h'⟩ := r
      cases e with
      | normal => exact ih t' h'
      | exit i => rfl
      | ret => rfl
      | goto l => rfl

theorem fexec_eq (n : Nat) (ks : Nat → List Nat) {lp : List Nat → Step → Step} {lpF : List Nat → FStep → FStep} {sc : Code → Nat → Step} {scF : Code → Nat → FStep}
    (hlp : ∀ js f g, SameStep n f g → SameStep n (lp js f) (lpF js g)) (hsc : ∀ b l, SameStep n (sc b l) (scF b l)) : ∀ (c : Code), SameStep n (aexec P ks rec lp sc c) (fexec P ks rec n lpF scF c) := by
  intro c
  induction c with
  | skip => intro t h; rfl
  | label l => intro t h; rfl
  | region id ops draw =>
    intro t h
    simp only [aexec, fexec]
    cases draw with
    | false =>
      simp only [cond_false]
      rw [fops_eq]
      cases fops P rec n ops ops.toList t h <;> rfl
    | true =>
      simp only [cond_true]
      cases plan P ops with
      | none => rfl
      | some ord =>
        simp only
        rw [fdraw_eq]
        cases fdraw P rec n ops (ancs ops) ord [] t h <;> rfl
  | seq x y ihx ihy =>
    intro t h
    simp only [aexec, fexec]
    rw [ihx]
    cases fexec P ks rec n lpF scF x t h with
    | none => rfl
    | some r =>
      obtain ⟨e, t', h'⟩ := r
      cases e with
      | normal => exact ihy t' h'
      | exit i => rfl
      | ret => rfl
      | goto l => rfl
  | cond c x y ihx ihy =>
    intro t h
    simp only [aexec, fexec]
    rw [fev_eq]
    generalize aeval (fabs n t) c = v
    cases v with
    | bool b => cases b with
      | true => exact ihx t h
      | false => exact ihy t h
    | _ => rfl
  | block id b ih =>
    intro t h
    simp only [aexec, fexec]
    rw [ih]
    cases fexec P ks rec n lpF scF b t h with
    | none => rfl
    | some r =>
      obtain ⟨e, t', h'⟩ := r
      cases e with
      | normal => rfl
      | exit i => simp only [Option.map_some, absE]; cases Nat.beq i id <;> rfl
      | ret => rfl
      | goto l => rfl
  | loop b ih =>
    intro t h
    simp only [aexec, fexec]
    exact hlp _ _ _ ih t h
  | scope b ih =>
    intro t h
    simp only [aexec, fexec]
    rw [ih]
    cases fexec P ks rec n lpF scF b t h with
    | none => rfl
    | some r =>
      obtain ⟨e, t', h'⟩ := r
      cases e with
      | normal => rfl
      | exit i => rfl
      | ret => rfl
      | goto l => exact hsc b l t' h'
  | exit id => intro t h; rfl
  | ret => intro t h; rfl
  | goto l => intro t h; rfl
  | rangeFunc f ps x y _ _ => intro t h; rfl
  | refuse s => intro t h; rfl

theorem fscope_eq {n : Nat} {X : Code → Step} {Y : Code → FStep} (hXY : ∀ c, SameStep n (X c) (Y c)) : ∀ (k : Nat) (b : Code) (l : Nat), SameStep n (ascope X k b l) (fscope Y k b l) := by
  intro k
  induction k with
  | zero => intro b l t h; rfl
  | succ k ih =>
    intro b l t h
    simp only [ascope, fscope]
    cases findLabel b l with
    | none => rfl
    | some rest =>
      simp only
      rw [hXY]
      cases Y rest t h with
      | none => rfl
      | some r =>
        obtain ⟨e, t', h'⟩ := r
        cases e with
        | normal => rfl
        | exit i => rfl
        | ret => rfl
        | goto l' => exact ih b l' t' h'

theorem fexecL_eq (n : Nat) (ks : Nat → List Nat) (N : Nat) : ∀ (d : Nat) (c : Code), SameStep n (aexecL P ks rec N d c) (fexecL P ks rec n N d c) := by
  intro d
  induction d with
  | zero => exact fexec_eq n ks (fun js f g hfg => floop_eq hfg js N) (fun b l t h => rfl)
  | succ d ih => exact fexec_eq n ks (fun js f g hfg => floop_eq hfg js N) (fscope_eq ih N)

theorem fexecR_eq (n : Nat) {X : Code → Step} {Y : Code → FStep} (hXY : ∀ c, SameStep n (X c) (Y c)) : ∀ (c : Code), SameStep n (aexecR P rec X c) (fexecR P rec n Y c) := by
  intro c
  induction c with
  | seq x y ihx ihy =>
    intro t h
    simp only [aexecR, fexecR]
    rw [ihx]
    cases fexecR P rec n Y x t h with
    | none => rfl
    | some r =>
      obtain ⟨e, t', h'⟩ := r
      cases e with
      | normal => exact ihy t' h'
      | exit i => rfl
      | ret => rfl
      | goto l => rfl
  | region id ops draw =>
    intro t h
    simp only [aexecR, fexecR]
    cases draw with
    | true => simp only [cond_true]; exact hXY _ t h
    | false =>
      simp only [cond_false]
      rw [fopsR_eq]
      cases fopsR P rec n ops (List.range ops.size) t h <;> rfl
  | cond c x y ihx ihy =>
    intro t h
    simp only [aexecR, fexecR]
    rw [fev_eq]
    generalize aeval (fabs n t) c = v
    cases v with
    | bool b => cases b with
      | true => exact ihx t h
      | false => exact ihy t h
    | _ => rfl
  | skip => intro t h; exact hXY _ t h
  | label l => intro t h; exact hXY _ t h
  | block id b _ => intro t h; exact hXY _ t h
  | loop b _ => intro t h; exact hXY _ t h
  | scope b _ => intro t h; exact hXY _ t h
  | exit id => intro t h; exact hXY _ t h
  | ret => intro t h; exact hXY _ t h
  | goto l => intro t h; exact hXY _ t h
  | rangeFunc f ps x y _ _ => intro t h; exact hXY _ t h
  | refuse s => intro t h; exact hXY _ t h

theorem fresult_eq (n : Nat) (t : Fr) (h : Heap) (x : ResultVar) : aresult P (fabs n t) h x = fresult P n t h x := by
  cases x with
  | tmp i => simp only [aresult, fresult]; rw [fabs_getD]
  | cell a ty => simp only [aresult, fresult]; rw [fabs_getD]; rfl
theorem fresults_eq (n : Nat) (fn : Func) (t : Fr) (h : Heap) : aresults P fn (fabs n t) h = fresults P n fn t h := by
  unfold aresults fresults
  have : aresult P (fabs n t) h = fresult P n t h := funext (fresult_eq n t h)
  rw [this]; rfl
theorem fend_eq (n : Nat) (fn : Func) (r : AEx × Fr × Heap) : aend P fn (absE n r) = fend P n fn r := by
  obtain ⟨e, t, h⟩ := r
  cases e with
  | normal => simp only [absE, aend, fend]; rw [fresults_eq]; rfl
  | ret => simp only [absE, aend, fend]; rw [fresults_eq]; rfl
  | exit i => rfl
  | goto l => rfl

theorem fstartGo_get : ∀ (vs : List Value) (k : Nat) (m : Fr) (i : Nat), (fstartGo vs k m).get i = if k ≤ i ∧ i < k + vs.length then vs[i - k]? else m.get i := by
  intro vs
  induction vs with
  | nil => intro k m i; rw [if_neg (by simp only [List.length_nil]; omega)]; rfl
  | cons v vs ih =>
    intro k m i
    simp only [fstartGo]
    rw [ih]
    simp only [List.length_cons]
    by_cases h1 : k + 1 ≤ i ∧ i < k + 1 + vs.length
    · rw [if_pos h1, if_pos (by omega)]
      have : i - k = (i - (k + 1)) + 1 := by omega
      rw [this, List.getElem?_cons_succ]
    · rw [if_neg h1, T.get_set _ _ _ _ _ (Nat.lt_succ_self k)]
      by_cases h2 : i = k
      · subst h2; rw [if_pos rfl, if_pos (by omega)]; simp
      · rw [if_neg h2, if_neg (by omega)]
theorem fstart_eq (fn : Func) (args : List Value) : fabs (fsize fn args) (fstart args) = atmps fn args := by
  apply List.ext_getElem?
  intro i
  rw [fabs_get]
  unfold atmps fsize
  rw [List.getElem?_append]
  by_cases h1 : i < args.length
  · rw [if_pos (by omega), if_pos h1]
    unfold fat
    rw [blt_t (by omega)]
    simp only [cond_true]
    unfold fstart
    rw [fstartGo_get, if_pos (by omega), Nat.sub_zero, List.getElem?_eq_getElem h1]
  · rw [if_neg h1, List.getElem?_replicate]
    by_cases h2 : i < args.length + (fn.ntmps - args.length)
    · rw [if_pos h2, if_pos (by omega)]
      unfold fat
      rw [blt_t (by omega)]
      simp only [cond_true]
      unfold fstart
      rw [fstartGo_get, if_neg (by omega)]
      rfl
    · rw [if_neg h2, if_neg (by omega)]

theorem frund_eq (ks : Scr) (k : Nat) (f : FuncId) (args : List Value) (h : Heap) : arund P ks rec k f args h = frund P ks rec k f args h := by
  unfold arund frund
  cases P.funcs[f]? with
  | none => rfl
  | some fn =>
    simp only
    cases fn.body with
    | none => rfl
    | some c =>
      simp only
      rw [← fstart_eq, fexecR_eq (fsize fn args) (fexecL_eq (fsize fn args) (ks f) k 2) c]
      cases fexecR P rec (fsize fn args) (fexecL P (ks f) rec (fsize fn args) k 2) c (fstart args) (h.defs []) with
      | none => rfl
      | some r =>
        obtain ⟨e, t', h'⟩ := r
        cases e with
        | normal => simp only [Option.map_some, absE]; rw [fresults_eq]; rfl
        | ret => simp only [Option.map_some, absE]; rw [fresults_eq]; rfl
        | exit i => rfl
        | goto l => rfl

/-- One call, where nothing is told. -/
theorem fcallW_eq (ks : Scr) (tab : Tab) (k : Nat) (f : FuncId) (args : List Value) (h : Heap) (hl : tlook tab f args = none) : acallW P ks rec k f args h = fcallW P ks tab rec k f args h := by
  unfold acallW fcallW
  rw [hl]
  cases P.funcs[f]? with
  | none => rfl
  | some fn =>
    simp only
    cases fn.body with
    | none => rfl
    | some c =>
      simp only
      have hrun : arund P ks rec k = frund P ks rec k := by funext a b c; exact frund_eq ks k a b c
      rw [← fstart_eq, hrun]
      cases (Nat.beq f forkF && args.all plain && h.ml.isNone) with
      | true =>
        simp only [cond_true]
        have two : ∀ (n : Nat) (t0 : Fr) (s : ByteArray), (match aexecL P (ks f) rec k 2 c (fabs n t0) (.bare (some (geInt s.size))), aexecL P (ks f) rec k 2 c (fabs n t0) (.bare (some (ltInt s.size))) with
            | some r1, some r2 => match aend P fn r1, aend P fn r2 with
              | some v1, some v2 => bif veq v1 v2 then some (v1, h) else none
              | _, _ => none
            | _, _ => none) = (match fexecL P (ks f) rec n k 2 c t0 (.bare (some (geInt s.size))), fexecL P (ks f) rec n k 2 c t0 (.bare (some (ltInt s.size))) with
            | some r1, some r2 => match fend P n fn r1, fend P n fn r2 with
              | some v1, some v2 => bif veq v1 v2 then some (v1, h) else none
              | _, _ => none
            | _, _ => none) := by
          intro n t0 s
          rw [fexecL_eq, fexecL_eq]
          generalize fexecL P (ks f) rec n k 2 c t0 (.bare (some (geInt s.size))) = a1
          generalize fexecL P (ks f) rec n k 2 c t0 (.bare (some (ltInt s.size))) = a2
          cases a1 with
          | none => rfl
          | some r1 =>
            cases a2 with
            | none => rfl
            | some r2 => simp only [Option.map_some]; rw [fend_eq, fend_eq]
        match args, hl with
        | [], _ => rfl
        | [x], _ => rfl
        | [x, .string s], _ => exact two _ _ s
        | [x, .bool _], _ => rfl
        | [x, .int ..], _ => rfl
        | [x, .float ..], _ => rfl
        | [x, .complex ..], _ => rfl
        | [x, .pointer _], _ => rfl
        | [x, .slice ..], _ => rfl
        | [x, .map _], _ => rfl
        | [x, .chan _], _ => rfl
        | [x, .func ..], _ => rfl
        | [x, .nilFunc], _ => rfl
        | [x, .iface ..], _ => rfl
        | [x, .nilIface], _ => rfl
        | [x, .agg _], _ => rfl
        | [x, .tuple _], _ => rfl
        | _ :: y :: _ :: _, _ => cases y <;> rfl
      | false =>
        simp only [cond_false]
        rw [fexecL_eq]
        cases fexecL P (ks f) rec (fsize fn args) k 2 c (fstart args) (h.defs []) with
        | none => rfl
        | some r =>
          obtain ⟨e, t', h'⟩ := r
          cases e with
          | normal =>
            simp only [Option.map_some, absE]
            cases adefs P (frund P ks rec k) h'.dfs (h'.defs []) with
            | none => rfl
            | some h2 => simp only; rw [fresults_eq]
          | ret =>
            simp only [Option.map_some, absE]
            cases adefs P (frund P ks rec k) h'.dfs (h'.defs []) with
            | none => rfl
            | some h2 => simp only; rw [fresults_eq]
          | exit i => rfl
          | goto l => rfl

end
end Go.Proofs.YthhhmmildgijhaaGreatDoorAI
