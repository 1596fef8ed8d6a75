/- The law: true for every log, the closed run ahead of it being so. -/
import Derived.Test.YthhhmmildgijhaaGreatDoorEx5
set_option linter.unusedVariables false
set_option linter.unusedSimpArgs false
namespace Go.Proofs.YthhhmmildgijhaaGreatDoor.Ex
open Go Go.Proofs Go.RowKit Go.Proofs.YthhhmmildgijhaaGreatDoorSI

def sR : Code → Code
  | .seq _ b => b
  | c => c
def sL : Code → Code
  | .seq a _ => a
  | c => c
/-- The law's code behind the closed run. -/
noncomputable def z3 : Code := sR (sR (Tryz.f3.body.getD .skip))

theorem fresh_picks {h : Heap} {v : Value} {k : Nat} {cs : List Value} (hv : Sl h v 2 k cs) (h1 : cs.all one = true) (hk : k * 16 ≤ 2 ^ 47) :
    ∃ v' h', aappend Tryz.prog 22 22 (.slice (some ⟨h.next, 0, none⟩) 0 0) v (h.new (.cells [] 53 2 false false)) = some (v', h') ∧ Lg h' v' 53 2 k cs ∧ Keep No h h' := by
  obtain ⟨v', h', e, hl, hkp, hn, _, hf⟩ := append_lg (t := 22) (xt := 22) Tryz.underlying22 Tryz.underlying22 rfl el53 (Lg.empty (h.new (.cells [] 53 2 false false)) 53 2 h.next 0) (hv.keep (Keep.new No h _) (fun _ _ x => x)) (by omega) (by omega) h1
  exact ⟨v', h', e, by simpa using hl, (Keep.new No h _).also hkp fun m hm x => by have := (nm_eq x).1; omega⟩

theorem pr4t (x y : Operand) (d ty pos af gu) : purerule Tryz.prog (fun _ => .bool true) ⟨d, .binOp .eql 4 x y 4, ty, pos, af, gu⟩ = some (.bool true) := by kernel_rfl
theorem pr4f (x y : Operand) (d ty pos af gu) : purerule Tryz.prog (fun _ => .bool false) ⟨d, .binOp .eql 4 x y 4, ty, pos, af, gu⟩ = some (.bool true) := by kernel_rfl
theorem pr4 (b : Bool) (ρ : Operand → Value) (x y : Operand) (hx : ρ x = .bool b) (hy : ρ y = .bool b) (d ty pos af gu) : purerule Tryz.prog ρ ⟨d, .binOp .eql 4 x y 4, ty, pos, af, gu⟩ = some (.bool true) := by
  have h1 : purerule Tryz.prog ρ ⟨d, .binOp .eql 4 x y 4, ty, pos, af, gu⟩ = purerule Tryz.prog (fun _ => .bool b) ⟨d, .binOp .eql 4 x y 4, ty, pos, af, gu⟩ := by
    refine purerule_congr fun z hz => ?_
    simp only [Op.operands, List.mem_toArray, List.mem_cons, List.not_mem_nil, or_false] at hz
    rcases hz with rfl | rfl
    · exact hx
    · exact hy
  rw [h1]
  cases b
  · exact pr4f _ _ _ _ _ _ _
  · exact pr4t _ _ _ _ _ _ _

set_option maxHeartbeats 1600000 in
theorem rest_run {h : Heap} {v : Value} {l : List (Int × Int)} (hv : Sl h v 2 l.length (picks l)) (hlen : l.length * 16 ≤ 2 ^ 47) (hin : ∀ i, i < l.length → (l.getD i (0, 0)).1 < 9223372036854775808) :
    ∃ t' h', aexecP Tryz.prog (sT 3) (run Tryz.prog sT) loopω (fun _ => ([], [])) z3 [v, undef, .bool false, undef, undef, undef, undef, undef, undef, .bool true, .bool false, undef, undef, undef, undef, undef, undef, undef, undef, undef, undef, undef, undef, undef, undef, undef, undef, undef, undef, undef, undef, undef, undef, undef, undef, undef, undef, undef] h = some (.ret, t', h') ∧ t'[2]?.getD undef = .bool true := by
  obtain ⟨v1, hA, e1, hl1, k1⟩ := fresh_picks hv (picks_one _) hlen
  obtain ⟨v2, hB, e2, k2, s2⟩ := next_run hl1.sl (by omega) hin
  have hvB := (hv.keep k1 (fun _ _ x => x)).keep k2 (fun _ _ x => x)
  obtain ⟨v3, hC, e3, k3, s3⟩ := rnext_run hvB (by omega) hin
  have hrl : (resL l).length ≤ 2 ^ 47 := by
    have hK : ∀ k, k ≤ l.length → ∀ x, nextK l k = some x → x.length ≤ l.length := by
      intro k
      induction k with
      | zero => intro _ x hx; cases hx
      | succ k ih =>
        intro hk x hx
        simp only [nextK] at hx
        split at hx
        · simp only [Option.some.injEq] at hx
          subst hx
          simp [tooks]
          omega
        · exact ih (by omega) x hx
    unfold resL
    split
    · cases hx : nextK l l.length with
      | none => simp
      | some x => have := hK _ (Nat.le_refl _) x hx; simp; omega
    · simp
  have e4 := same_run (s2.keep k3 (fun _ _ x => x)) s3 hrl
  generalize (goodB l && (nextK l l.length).isSome) = b at *
  generalize (if goodB l then (0 : Int) else 2) = res at *
  cases b with
  | true => simp (maxSteps := 2000000) -implicitDefEqProofs [Tryz.f3, px_skip, px_label, px_region, px_draw, qx_seq, qx_cond, px_block, px_loop, px_scope, px_exit, px_ret, seqK_normal, seqK_exit, seqK_ret, condK_true, condK_false, opsK_some, wK_true, wK_false, itK_some, aops_nil, aops_cons, lK_some, aK_some, hK_some, dwK_true, dwK_false, diK_some, dK_light, dK_alloc, dK_heavy, adraw_nil, adraw_cons, aop, cls, light, lightS, binE, aeq, intBin, goInt, pl_int, pl_bool, pl_ptr, pl_slice, aload, isAggT, aeval, tput, awanted, List.range_succ, fin, aresults, aresult, List.replicate, heavy, acallOp, aenter, ble_d, beq_d, firstRegion, readNames, Nxt, isAnc, readsOk, objEq_some, z3, sR, en6, en7, en8, bs22, e1, e2, e3, e4, ibeq, (fun ρ x y => pr4 true ρ x y)]
  | false => simp (maxSteps := 2000000) -implicitDefEqProofs [Tryz.f3, px_skip, px_label, px_region, px_draw, qx_seq, qx_cond, px_block, px_loop, px_scope, px_exit, px_ret, seqK_normal, seqK_exit, seqK_ret, condK_true, condK_false, opsK_some, wK_true, wK_false, itK_some, aops_nil, aops_cons, lK_some, aK_some, hK_some, dwK_true, dwK_false, diK_some, dK_light, dK_alloc, dK_heavy, adraw_nil, adraw_cons, aop, cls, light, lightS, binE, aeq, intBin, goInt, pl_int, pl_bool, pl_ptr, pl_slice, aload, isAggT, aeval, tput, awanted, List.range_succ, fin, aresults, aresult, List.replicate, heavy, acallOp, aenter, ble_d, beq_d, firstRegion, readNames, Nxt, isAnc, readsOk, objEq_some, z3, sR, en6, en7, en8, bs22, e1, e2, e3, e4, ibeq, (fun ρ x y => pr4 false ρ x y)]
end Go.Proofs.YthhhmmildgijhaaGreatDoor.Ex
set_option linter.unusedVariables false
set_option linter.unusedSimpArgs false
namespace Go.Proofs.YthhhmmildgijhaaGreatDoor.Ex
open Go Go.Proofs Go.RowKit Go.Proofs.YthhhmmildgijhaaGreatDoorSI

/-- Code of the symbolic interpreter's, walked. -/
theorem exec_wp {base : Nat} {f : FuncId} {c : Code} {pt : PlanTab} {t t' : Tm} {h h' : Heap} {e : AEx} (hp : planned Tryz.prog pt c = true) (hx : aexecP Tryz.prog (sT f) (run Tryz.prog sT) loopω pt c t h = some (e, t', h'))
    {a : Act} {w : World} {σ : Sig} (hT : LRep (· < h.next) σ t a.tmps.toList) (hr : Rep base (· < h.next) σ h.get w) : c.wp Tryz.prog (YthhhmmildgijhaaGreatDoorSI.Leaves base h σ w a.defers (e, t', h')) a w := by
  rw [aexecP_eq c hp] at hx
  obtain ⟨K, hK⟩ := exec_evt c hx
  exact aexec_sound mix (acall_sound mix sT K) (sT f) K c t h _ (hK K (Nat.le_refl _)) a w σ hT hr

theorem rep_below {W w : World} {D : Nat → Prop} {σ : Sig} {h : Heap} (hr : Rep W.heap.size D σ h.get W) (hro : AllRo h) (hb : Below W.heap.size W w) : Rep W.heap.size D σ h.get w where
  obj n c e s gr ro hg := by
    obtain ⟨hD, C, t, fr, r⟩ := hr.obj n c e s gr ro hg
    have hlt : (σ n).blk < W.heap.size := (Array.getElem?_eq_some_iff.1 r.heap).1
    exact ⟨hD, C, t, fr, ⟨by rw [hb.block _ hlt]; exact r.heap, r.fit, r.rel, r.mine, r.grow⟩⟩
  own := hr.own
  old := hr.old
  inj := hr.inj
  size := hb.size

def o0 : Oper := { dst := some 2, op := Op.assign (Operand.const (Value.bool false)), type := 4, pos := "law.go:28", after := #[], guard := none }
def o1 : Oper := { dst := some 9, op := Op.call { callee := Callee.value (Operand.func 5), args := #[], argTypes := #[] }, type := 4, pos := "law.go:29", after := #[], guard := none }
def o2 : Oper := { dst := some 10, op := Op.unOp UnOp.not 4 (Operand.tmp 9), type := 4, pos := "law.go:29", after := #[{ on := 0, ground := Ground.data }], guard := none }
def r0 : Code := Code.region 0 #[o0] false
def r1 : Code := Code.region 1 #[o1, o2] false
def k1 : Code := Code.cond (Operand.tmp 10) ((Code.region 2 #[{ dst := some 2, op := Op.assign (Operand.const (Value.bool false)), type := 4, pos := "law.go:30", after := #[], guard := none }] false).seq Code.ret) Code.skip
theorem body3 : Tryz.f3.body = some (r0.seq ((r1.seq k1).seq z3)) := by kernel_rfl
theorem ntmps3 : Tryz.f3.ntmps = 38 := by kernel_rfl
theorem results3 (t : Tm) (h : Heap) : aresults Tryz.prog Tryz.f3 t h = some (t.getD 2 undef) := by kernel_rfl
theorem plan3 : planned Tryz.prog (fun _ => ([], [])) z3 = true := by kernel_rfl
theorem call5 (ρ : Operand → Value) (w : World) : (callFunc 5 #[]).run Tryz.prog w = .ok (.enter 5 #[]) w := by
  have h1 : Tryz.prog.funcs[5]? = some Tryz.f5 := Tryz.func5
  have hname : ¬ Tryz.f5.name = "runtime.NumGoroutine" := beq_eq_false_iff_ne.1 (by kernel_rfl)
  obtain ⟨b, hb⟩ := Option.isSome_iff_exists.1 (show Tryz.f5.body.isSome = true by kernel_rfl)
  simp [callFunc, h1, hname, hb]

theorem ops_value {P : Program} {ops : Array Oper} {Q : Exit → Act → World → Prop} {i : Nat} {rest : List Nat} {o : Oper} {a : Act} {w w' : World} {v : Value} (ho : ops[i]? = some o) (hg : o.guard = none)
    (hrun : (execOp a.eval o).run P w = .ok (.value v) w') (h : wpOps P ops Q rest (a.put o.dst v) w') : wpOps P ops Q (i :: rest) a w := by
  unfold wpOps
  rw [ho]
  have hw : Region.wanted o (yielded ops a.tmps) = true := by simp [Region.wanted, hg]
  simp only [hw, if_true]
  refine .inl ?_
  unfold Oper.wp
  rw [hrun]
  exact h
theorem ops_enter {P : Program} {ops : Array Oper} {Q : Exit → Act → World → Prop} {i : Nat} {rest : List Nat} {o : Oper} {a : Act} {w w' : World} {f : FuncId} {args : Array Value} {R : Value → World → Prop} (ho : ops[i]? = some o) (hg : o.guard = none)
    (hrun : (execOp a.eval o).run P w = .ok (.enter f args) w') (hc : Calls P f args w' fun e w'' => ∃ v, e = .returned v ∧ R v w'') (h : ∀ v w'', R v w'' → wpOps P ops Q rest (a.put o.dst v) w'') : wpOps P ops Q (i :: rest) a w := by
  unfold wpOps
  rw [ho]
  have hw : Region.wanted o (yielded ops a.tmps) = true := by simp [Region.wanted, hg]
  simp only [hw, if_true]
  refine .inl ?_
  unfold Oper.wp
  rw [hrun]
  refine hc.mono ?_
  rintro e w2 ⟨v, rfl, hR⟩
  exact h v w2 hR
theorem undefs_rep {D : Nat → Prop} {σ : Sig} : ∀ n : Nat, LRep D σ (List.replicate n undef) (List.replicate n undef)
  | 0 => .nil
  | n + 1 => .cons undef_rep (undefs_rep n)

theorem law_calls3 (W : World) {a0 : Option Addr} {len0 cap0 : Nat} {l0 : List (Int × Int)} (w0 : PairsAt W a0 len0 cap0 l0) (y0 : len0 * 16 ≤ 140737488351232) (hin : ∀ i, i < l0.length → (l0.getD i (0, 0)).1 < 9223372036854775808)
    (hwk : Calls Tryz.prog 5 #[] W fun e W' => e = .returned (.bool true) ∧ Below W.heap.size W W') :
    Calls Tryz.prog 3 #[.slice a0 len0 cap0] W fun e W' => e = .returned (.bool true) ∧ Below W.heap.size W W' := by
  obtain ⟨h, σ, v, hr, hro, _, _, hv, hs, hu, _⟩ := arg_pairs (h := .empty) (σ := fun _ => ⟨0, 0, 0⟩) (Rep.none _ W (Nat.le_refl _) _) allRo_empty 53 w0
  have hpk : pairs l0 = picks l0 := rfl
  rw [hpk] at hs
  have hl0 : l0.length = len0 := w0.1
  obtain ⟨t', h', hx, ht⟩ := rest_run hs (by omega) hin
  refine calls_of_wp Tryz.func3 body3 ?_
  rw [ntmps3]
  have hA : LRep (· < h.next) σ (v :: List.replicate 37 undef) (#[Value.slice a0 len0 cap0] ++ Array.replicate (38 - (#[Value.slice a0 len0 cap0] : Array Value).size) undef).toList := by
    have e : (#[Value.slice a0 len0 cap0] ++ Array.replicate (38 - (#[Value.slice a0 len0 cap0] : Array Value).size) undef).toList = Value.slice a0 len0 cap0 :: List.replicate 37 undef := by simp only [Array.toList_append, Array.toList_replicate]; rfl
    rw [e]
    exact .cons hv (undefs_rep 37)
  generalize (#[Value.slice a0 len0 cap0] ++ Array.replicate (38 - (#[Value.slice a0 len0 cap0] : Array Value).size) undef) = T0 at *
  refine wp_seq (wp_region ?_)
  refine ops_value (o := o0) (i := 0) (rest := []) (v := .bool false) (w' := W) rfl rfl rfl ?_
  refine wp_seq (wp_seq (wp_region ?_))
  refine ops_enter (o := o1) (i := 0) (rest := [1]) (f := 5) (args := #[]) (w' := W) (R := fun v w => v = .bool true ∧ Below W.heap.size W w) rfl rfl ?_ (hwk.mono ?_) ?_
  · have := call5 (fun _ => undef) W
    simp [o1, execOp, resolve, Deferred.ofValue, invoke, Act.eval, this]
  · rintro e w' ⟨rfl, hb⟩
    exact ⟨_, rfl, rfl, hb⟩
  rintro _ w1 ⟨rfl, hb⟩
  have hT1 : LRep (· < h.next) σ (((v :: List.replicate 37 undef).set 2 (.bool false)).set 9 (.bool true)) (((Act.put { tmps := T0, defers := [] } (some 2) (.bool false)).put (some 9) (.bool true))).tmps.toList := put_rep (put_rep (a := { tmps := T0, defers := [] }) hA (some 2) (.bool false)) (some 9) (.bool true)
  have h9 : ((Act.put { tmps := T0, defers := [] } (some 2) (.bool false)).put (some 9) (.bool true)).eval (.tmp 9) = .bool true := by
    have := hT1.getD 9
    simp only [Act.eval]
    rw [arr_getD]
    exact this.inv_bool
  refine ops_value (o := o2) (i := 1) (rest := []) (v := .bool false) (w' := w1) rfl rfl ?_ ?_
  · show (Sem.run Tryz.prog (do let v ← Op.unary .not (((Act.put { tmps := T0, defers := [] } (some 2) (.bool false)).put (some 9) (.bool true)).eval (.tmp 9)); pure (Next.value v)) w1) = _
    rw [h9]
    rfl
  have hT2 : LRep (· < h.next) σ ((((v :: List.replicate 37 undef).set 2 (.bool false)).set 9 (.bool true)).set 10 (.bool false)) ((((Act.put { tmps := T0, defers := [] } (some 2) (.bool false)).put (some 9) (.bool true))).put (some 10) (.bool false)).tmps.toList := put_rep hT1 (some 10) (.bool false)
  have h10 : (((Act.put { tmps := T0, defers := [] } (some 2) (.bool false)).put (some 9) (.bool true)).put (some 10) (.bool false)).eval (.tmp 10) = .bool false := by
    have := hT2.getD 10
    simp only [Act.eval]
    rw [arr_getD]
    exact this.inv_bool
  refine wp_cond_false h10 (wp_skip ?_)
  refine wp_mono (exec_wp (base := W.heap.size) plan3 hx hT2 (rep_below hr hro hb)) ?_
  rintro e a9 w9 ⟨rfl, σ9, hT9, hD9, hm9⟩
  have hres : aresults Tryz.prog Tryz.f3 t' h' = some (.bool true) := by
    rw [results3, List.getD_eq_getElem?_getD, ht]
  obtain ⟨u', hru, hu⟩ := aresults_sound (P := Tryz.prog) hres hT9 hm9.rep
  obtain rfl := hu.inv_bool
  refine ⟨hD9, _, hru, rfl, hm9.os.trans hb.os, hm9.tape.trans hb.tape, hm9.output.trans hb.output, Nat.le_trans hb.size hm9.size, fun k hk => ?_⟩
  rw [hm9.frame k (Nat.lt_of_lt_of_le hk hb.size) (fun ⟨n, hn, _⟩ => hro n hn)]
  exact hb.block k hk

end Go.Proofs.YthhhmmildgijhaaGreatDoor.Ex
