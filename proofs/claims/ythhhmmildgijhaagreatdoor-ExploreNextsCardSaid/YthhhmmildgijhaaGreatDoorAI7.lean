/- Calls and operations: what the interpreter answers, the model answers. -/
import Derived.Test.YthhhmmildgijhaaGreatDoorAI64
import Derived.LoopN
import Derived.Scope
set_option linter.unusedVariables false
set_option linter.unusedSimpArgs false
namespace Go.Proofs.YthhhmmildgijhaaGreatDoorAI
open Go

/-- The three functions of the library that have no text. -/
def ExtOK (P : Program) : Prop :=
  (∀ (x : Value) (w : World), (callFunc noEscF #[x]).run P w = .ok (.value x) w) ∧
  (∀ (s : ByteArray) (n : Nat) (w : World), n < 256 → (callFunc idxByteF #[.string s, .int .u8 n]).run P w = .ok (.value (goInt (idxL n s.data.toList 0))) w) ∧
  (∀ (a b : ByteArray) (m : Int) (w : World), w.cell? ⟨mlG, 0, none⟩ = some (.int .i64 m) → 2 ≤ b.size → (b.size : Int) ≤ m → a.size < 4294967281 →
    (callFunc idxStrF #[.string a, .string b]).run P w = .ok (.value (goInt (aindex a b))) w)

/-- A function of the interpreter's: what it answers, the model's call answers. -/
def RecOK (P : Program) (base : Nat) (rec : Rec) : Prop :=
  ExtOK P ∧
  ∀ (f : FuncId) (args : List Value) (h : Heap) (v : Value) (h' : Heap), rec f args h = some (v, h') → ∀ (σ : Sig) (w : World) (args' : Array Value),
    Rep base (· < h.next) σ h.get w → LRep (· < h.next) σ args args'.toList →
    Calls P f args' w fun e w' => ∃ v' σ', e = .returned v' ∧ Moves base (· < h.next) σ h.get w (· < h'.next) σ' h'.get w' ∧ VRep (· < h'.next) σ' v v'

section
variable {P : Program} {base : Nat} {D : Nat → Prop} {σ : Sig} {g : Nat → Option AObj} {w : World}

/-- A heap of the program's variables alone. -/
theorem Rep.bare {ml : Option Value} (hg : Glob base (· < NG) σ w) (hb : base ≤ w.heap.size) (hobj : ∀ n c e s gr ro, n < NG → gobjM ml n = some (.cells c e s gr ro) → n < base ∧ ∃ C t fr, RepObj (· < NG) σ w n c e gr ro C t fr) : Rep base (· < NG) σ (Heap.bare ml).get w where
  gl := hg
  obj n c e s gr ro h := by
    have hn : n < NG := Heap.get_lt h
    rw [gobj_lt hn] at h
    exact ⟨hn, (hobj n c e s gr ro hn h).2⟩
  oth n o h := by
    have hn : n < NG := Heap.get_lt h
    rw [gobj_lt hn] at h
    obtain ⟨_, _, _, e⟩ := gobjM_ro h
    cases e
  own n h := by
    obtain ⟨o, h, ho⟩ := h
    have h1 : n < NG := Heap.get_lt h
    have h2 := Heap.own_ge h ho
    omega
  old n h := by
    obtain ⟨o, h, ho⟩ := h
    have hn : n < NG := Heap.get_lt h
    rw [gobj_lt hn] at h
    obtain ⟨c, e, s, rfl⟩ := gobjM_ro h
    rw [(hg.names n hn).2.1]
    exact (hobj n _ _ _ _ _ hn h).1
  inj n m h := by
    obtain ⟨o, h, ho⟩ := h
    have h1 : n < NG := Heap.get_lt h
    have h2 := Heap.own_ge h ho
    omega
  size := hb
theorem Rep.start (hg : Glob base (· < NG) σ w) (hb : base ≤ w.heap.size) : Rep base (· < NG) σ Heap.empty.get w := .bare hg hb hg.cells
theorem Rep.empty (hr : Rep base D σ g w) : Rep base (· < NG) σ Heap.empty.get w :=
  .start ⟨fun n hn => ⟨hn, (hr.gl.names n hn).2⟩, hr.gl.cells⟩ hr.size
theorem VRep.inv_anyInt {v : Value} (h : VRep D σ anyInt v) : ∃ n, v = .int .i64 n := by
  generalize e : anyInt = x at h
  cases h <;> first
    | exact ⟨_, rfl⟩
    | (simp [anyInt, Go.Proofs.YthhhmmildgijhaaGreatDoorAI.unk, geInt, ltInt] at e; done)
    | (simp [anyInt, Go.Proofs.YthhhmmildgijhaaGreatDoorAI.unk, geInt, ltInt] at e; omega)
/-- More is told of one variable. -/
theorem Rep.told (hr : Rep base D σ g w) : ∃ m : Int, w.cell? ⟨mlG, 0, none⟩ = some (.int .i64 m) ∧ ∀ v, VRep (· < NG) σ v (.int .i64 m) → Rep base (· < NG) σ (Heap.bare (some v)).get w := by
  have hml : mlG < NG := by decide
  have hgm : gobj mlG = some (.cells [anyInt] 3 1 false true) := rfl
  obtain ⟨hb, C, t, fr, r⟩ := hr.gl.cells _ _ _ _ _ _ hml hgm
  obtain ⟨_, h1, h2⟩ := hr.gl.names _ hml
  have hrel := r.rel
  have hfit := r.fit
  simp only [List.length_cons, List.length_nil, Nat.zero_add] at hrel hfit
  rw [h2] at hrel hfit
  have h0 : 0 < C.size := by omega
  have hc0 : ((C.toList.drop 0).take 1)[0]? = some C[0] := by
    rw [List.drop_zero, List.getElem?_take, if_pos (by omega), Array.getElem?_toList, Array.getElem?_eq_getElem h0]
  obtain ⟨m, hm⟩ := VRep.inv_anyInt (hrel.rel (i := 0) rfl hc0)
  refine ⟨m, ?_, fun v hv => ?_⟩
  · have := cell_at r.heap 0
    rw [h1, Array.getElem?_eq_getElem h0, hm] at this
    exact this
  · refine Rep.bare ⟨fun n hn => ⟨hn, (hr.gl.names n hn).2⟩, hr.gl.cells⟩ hr.size fun n c e s gr ro hn hg => ?_
    unfold gobjM at hg
    simp only at hg
    cases hnm : Nat.beq n mlG with
    | false => rw [hnm] at hg; exact hr.gl.cells n c e s gr ro hn hg
    | true =>
      rw [hnm] at hg
      simp only [cond_true, Option.some.injEq, AObj.cells.injEq] at hg
      obtain ⟨rfl, rfl, rfl, rfl, rfl⟩ := hg
      obtain rfl := Nat.eq_of_beq_eq_true hnm
      refine ⟨hb, C, t, fr, r.heap, by rw [h2]; show 0 + 1 ≤ C.size; omega, ?_, fun h => (by cases h), fun h => (by cases h), fun _ h => (by cases h)⟩
      rw [h2]
      have e1 : (C.toList.drop 0).take [v].length = [C[0]] := by
        apply List.ext_getElem?
        intro i
        cases i with
        | zero => exact hc0
        | succ i => simp; omega
      rw [e1, hm]
      exact .cons hv .nil

/-- Nothing that was there has turned. -/
theorem Moves.kept (hr : Rep base D σ g w) {D1 D2 : Nat → Prop} {σ1 σ2 : Sig} {g2 : Nat → Option AObj} {w' : World} {ml : Option Value} (hm : Moves base D1 σ1 (Heap.bare ml).get w D2 σ2 g2 w') : Moves base D σ g w D σ g w' := by
  have hno : ∀ b, ¬ Owned (Heap.bare ml).get σ1 b := fun b ⟨n, ⟨o, h, ho⟩, _⟩ => by
    have h1 : n < NG := Heap.get_lt h
    have h2 := Heap.own_ge h ho
    omega
  have hk : ∀ b, b < w.heap.size → w'.heap[b]? = w.heap[b]? := fun b hb => hm.frame b hb (hno b)
  refine ⟨fun _ h => h, fun _ _ => rfl, ⟨hr.gl.mono (fun _ h => h) (fun _ _ => rfl) (fun b hb => hk b (Nat.lt_of_lt_of_le hb hr.size)), ?_, ?_, hr.own, hr.old, hr.inj, Nat.le_trans hr.size hm.size⟩, hm.os, hm.tape, hm.output, hm.size, fun b hb _ => hk b hb, fun b h => .inl h⟩
  · intro n c e s gr ro hg
    obtain ⟨hD, C, t, fr, r⟩ := hr.object hg
    have hlt : (σ n).blk < w.heap.size := (Array.getElem?_eq_some_iff.1 r.heap).1
    exact ⟨hD, C, t, fr, ⟨by rw [hk _ hlt]; exact r.heap, r.fit, r.rel, r.mine, r.grow, r.exact⟩⟩
  · intro n o hg
    obtain ⟨hD, h0, o', ho, hrep⟩ := hr.oth n o hg
    exact ⟨hD, h0, o', by rw [hk _ (Array.getElem?_eq_some_iff.1 ho).1]; exact ho, hrep⟩

theorem aenter_sound {rec : Rec} (hrec : RecOK P base rec) {f : FuncId} {args : List Value} {h h' : Heap} {v : Value} (ha : aenter rec f args h = some (v, h')) {args' : Array Value}
    (hr : Rep base (· < h.next) σ h.get w) (hl : LRep (· < h.next) σ args args'.toList) :
    Calls P f args' w fun e w' => ∃ v' σ', e = .returned v' ∧ Moves base (· < h.next) σ h.get w (· < h'.next) σ' h'.get w' ∧ VRep (· < h'.next) σ' v v' := by
  unfold aenter at ha
  exact hrec.2 f args h v h' ha σ w args' hr hl

theorem run_callFunc {f : FuncId} {args : Array Value} (h : enters P f = true) (w : World) : (callFunc f args).run P w = .ok (.enter f args) w := by
  unfold enters at h
  split at h
  · rename_i fn hf
    simp only [Bool.and_eq_true, bne_iff_ne, ne_eq] at h
    obtain ⟨h1, h2⟩ := h
    obtain ⟨b, hb⟩ := Option.isSome_iff_exists.1 h2
    simp [callFunc, hf, h1, hb]
  · cases h

/-- What an operation leaves goes on with. -/
def OpOK (P : Program) (base : Nat) (σ : Sig) (h : Heap) (w : World) (a : Act) (o : Oper) (v : Value) (h' : Heap) : Prop :=
  ∀ (K : Act → World → Prop) (Q : Exit → Act → World → Prop), (∀ v' w' σ', VRep (· < h'.next) σ' v v' → Moves base (· < h.next) σ h.get w (· < h'.next) σ' h'.get w' → K (a.put o.dst v') w') → o.wp P a w K Q

theorem opOK_value {h h' : Heap} {a : Act} {o : Oper} {v v' : Value} {w' : World} {σ' : Sig} (hrun : (execOp a.eval o).run P w = .ok (.value v') w') (hv : VRep (· < h'.next) σ' v v')
    (hm : Moves base (· < h.next) σ h.get w (· < h'.next) σ' h'.get w') : OpOK P base σ h w a o v h' := fun K Q hK => by
  unfold Oper.wp
  rw [hrun]
  exact hK _ _ _ hv hm
theorem opOK_skip {h h' : Heap} {a : Act} {o : Oper} {w' : World} {σ' : Sig} (hrun : (execOp a.eval o).run P w = .ok .skip w')
    (hm : Moves base (· < h.next) σ h.get w (· < h'.next) σ' h'.get w') : OpOK P base σ h w a o undef h' := fun K Q hK => by
  unfold Oper.wp
  rw [hrun]
  exact hK _ _ _ undef_rep hm
theorem opOK_enter {rec : Rec} (hrec : RecOK P base rec) {h h' : Heap} {a : Act} {o : Oper} {v : Value} {f : FuncId} {args : List Value} {args' : Array Value} (hrun : (execOp a.eval o).run P w = .ok (.enter f args') w)
    (ha : aenter rec f args h = some (v, h')) (hr : Rep base (· < h.next) σ h.get w) (hl : LRep (· < h.next) σ args args'.toList) : OpOK P base σ h w a o v h' := fun K Q hK => by
  unfold Oper.wp
  rw [hrun]
  simp only [Oper.upon]
  refine (aenter_sound hrec ha hr hl).mono ?_
  rintro e w' ⟨v', σ', rfl, hm, hv⟩
  exact hK _ _ _ hv hm

theorem invoke_method (name : String) (cap : Array Value) (r : Value) (args : Array Value) : invoke (.fn (.method name) cap) (#[r] ++ args) = callMethod r name args := by
  have e0 : (#[r] ++ args)[0]? = some r := by rw [Array.getElem?_append]; simp
  have e1 : (#[r] ++ args).extract 1 (#[r] ++ args).size = args := by
    apply Array.ext'
    simp [Array.toList_extract, List.extract_eq_take_drop]
  unfold invoke
  simp only [e0, e1]

theorem depth_pos (P : Program) : ∃ n, P.types.size + Made.depth = n + 1 := by
  have : 0 < Made.depth := by decide
  exact ⟨P.types.size + Made.depth - 1, by omega⟩

theorem acallOp_sound {rec : Rec} (hrec : RecOK P base rec) {ρ : Operand → Value} {a : Act} {o : Oper} {c : Call} (ho : o.op = .call c) {h h' : Heap} {v : Value}
    (hρ : ∀ x, VRep (· < h.next) σ (ρ x) (a.eval x)) (hr : Rep base (· < h.next) σ h.get w) (ha : acallOp P rec ρ c h = some (v, h')) : OpOK P base σ h w a o v h' := by
  unfold acallOp at ha
  split at ha
  · rename_i f hc
    split at ha
    · rename_i k first captured hf
      have h1 := hρ f
      rw [hf] at h1
      obtain ⟨first', captured', e1, l1, l2⟩ := h1.inv_func
      have hla : LRep (· < h.next) σ (first.toList ++ (c.args.map ρ).toList ++ captured.toList) (first' ++ c.args.map a.eval ++ captured').toList := by
        simp only [Array.toList_append]
        exact (l1.append (map_rep hρ c.args)).append l2
      cases he : enters P k with
      | false =>
        rw [he] at ha
        simp only [cond_false] at ha
        have plainCall : ∀ (x' : Value) (xs : Array Value), first' ++ c.args.map a.eval ++ captured' = xs → (callFunc k xs).run P w = .ok (.value x') w → (execOp a.eval o).run P w = .ok (.value x') w := by
          intro x' xs e2 hcall
          rw [← e2] at hcall
          simp only [execOp, ho, resolve, hc, e1, Deferred.ofValue, pure_bind, invoke]
          exact hcall
        cases hn : Nat.beq k noEscF with
        | false =>
          rw [hn] at ha
          simp only [cond_false] at ha
          cases hn2 : Nat.beq k idxByteF with
          | true =>
            rw [hn2] at ha
            simp only [cond_true] at ha
            obtain rfl := Nat.eq_of_beq_eq_true hn2
            split at ha
            · rename_i s n hx
              rw [hx] at hla
              cases hlt : Nat.blt n 256 with
              | false => rw [hlt] at ha; cases ha
              | true =>
                rw [hlt] at ha
                simp only [cond_true, Option.some.injEq, Prod.mk.injEq] at ha
                obtain ⟨rfl, rfl⟩ := ha
                obtain ⟨s', n', e2, hs, hn'⟩ := hla.two
                rw [hs.inv_string, hn'.inv_int] at e2
                exact opOK_value (plainCall _ _ e2 (hrec.1.2.1 s n w (blt_lt hlt))) (.int _ _) (.refl hr)
            · cases ha
          | false =>
            rw [hn2] at ha
            simp only [cond_false] at ha
            cases hn3 : Nat.beq k idxStrF with
            | false => rw [hn3] at ha; cases ha
            | true =>
              rw [hn3] at ha
              simp only [cond_true] at ha
              obtain rfl := Nat.eq_of_beq_eq_true hn3
              split at ha
              · rename_i sa sb q e0 s0 g0 ro0 hx hg
                rw [hx] at hla
                cases hb : Nat.ble 3 q && Nat.beq (q % 2) 1 && Nat.ble sb.size ((q - 3) / 2) && Nat.ble 2 sb.size && Nat.blt sa.size 4294967281 with
                | false => rw [hb] at ha; cases ha
                | true =>
                  rw [hb] at ha
                  simp only [cond_true, Option.some.injEq, Prod.mk.injEq] at ha
                  obtain ⟨rfl, rfl⟩ := ha
                  simp only [Bool.and_eq_true] at hb
                  obtain ⟨⟨⟨⟨b1, b2⟩, b3⟩, b4⟩, b5⟩ := hb
                  obtain ⟨s', n', e2, hs, hn'⟩ := hla.two
                  rw [hs.inv_string, hn'.inv_string] at e2
                  have hml : mlG < NG := by decide
                  obtain ⟨hD, C, t, fr, r⟩ := hr.object hg
                  obtain ⟨_, hb1, hb2⟩ := hr.gl.names _ hml
                  have hrel := r.rel
                  have hfit := r.fit
                  simp only [List.length_cons, List.length_nil, Nat.zero_add] at hrel hfit
                  rw [hb2] at hrel hfit
                  have h0 : 0 < C.size := by omega
                  have hc0 : ((C.toList.drop 0).take 1)[0]? = some C[0] := by
                    rw [List.drop_zero, List.getElem?_take, if_pos (by omega), Array.getElem?_toList, Array.getElem?_eq_getElem h0]
                  obtain ⟨m, hm, hge, _⟩ := VRep.inv_chan (hrel.rel (i := 0) rfl hc0) (ble_le b1)
                  have hge := hge (Nat.eq_of_beq_eq_true b2)
                  have hcell : w.cell? ⟨mlG, 0, none⟩ = some (.int .i64 m) := by
                    have := cell_at r.heap 0
                    rw [hb1, Array.getElem?_eq_getElem h0, hm] at this
                    exact this
                  have b3 := ble_le b3
                  exact opOK_value (plainCall _ _ e2 (hrec.1.2.2 sa sb m w hcell (ble_le b4) (by omega) (blt_lt b5))) (.int _ _) (.refl hr)
              · cases ha
        | true =>
          rw [hn] at ha
          simp only [cond_true] at ha
          obtain rfl := Nat.eq_of_beq_eq_true hn
          split at ha
          · rename_i x hx
            rw [hx] at hla
            obtain ⟨x', e2, hxr⟩ := hla.single
            simp only [Option.some.injEq, Prod.mk.injEq] at ha
            obtain ⟨rfl, rfl⟩ := ha
            refine opOK_value ?_ hxr (.refl hr)
            have hcall := hrec.1.1 x' w
            rw [← e2] at hcall
            simp only [execOp, ho, resolve, hc, e1, Deferred.ofValue, pure_bind, invoke]
            exact hcall
          · cases ha
      | true =>
        rw [he] at ha
        simp only [cond_true] at ha
        refine opOK_enter hrec (args' := first' ++ c.args.map a.eval ++ captured') ?_ ha hr ?_
        · simp [execOp, ho, resolve, hc, e1, Deferred.ofValue, invoke, run_callFunc he]
        · simp only [Array.toList_append]
          exact (l1.append (map_rep hρ c.args)).append l2
    · cases ha
  · rename_i r name hc
    split at ha
    · rename_i t u hrv
      have h1 := hρ r
      rw [hrv] at h1
      obtain ⟨u', e1, hu⟩ := h1.inv_iface
      split at ha
      · rename_i i hi
        split at ha
        · rename_i m hm
          have hfuel := depth_pos P
          obtain ⟨n, hn⟩ := hfuel
          split at ha
          · rename_i f q hpath hfunc hund
            cases he : enters P f with
            | false => rw [he] at ha; cases ha
            | true =>
              rw [he] at ha
              simp only [cond_true] at ha
              refine opOK_enter hrec (args' := #[u'] ++ c.args.map a.eval) ?_ ha hr ?_
              · have hcall : (callMethod (.iface t u') name (c.args.map a.eval)).run P w = .ok (.enter f (#[u'] ++ c.args.map a.eval)) w := by
                  simp only [callMethod, Sem.run_bind, run_program, Result.andThen_ok, hn, method, run_info hi, hm, hpath, follow, Sem.run_pure, hfunc]
                  simp [receiverAt, run_underlying hund, Place.get, run_callFunc he]
                simp only [execOp, ho, resolve, hc, e1, pure_bind, invoke_method, hcall]
              · simp only [Array.toList_append]
                exact .cons hu (map_rep hρ c.args)
          · rename_i f d hpath hfunc hund
            split at ha
            · cases ha
            · rename_i hnp
              cases he : enters P f with
              | false => rw [he] at ha; cases ha
              | true =>
                rw [he] at ha
                simp only [cond_true] at ha
                refine opOK_enter hrec (args' := #[u'] ++ c.args.map a.eval) ?_ ha hr ?_
                · have hrecv : ∀ wr, (receiverAt t (.val u') false wr).run P w = .ok u' w := fun wr => by
                    unfold receiverAt
                    simp only [Sem.run_bind, run_underlying hund, Result.andThen_ok]
                    cases d <;> first | exact absurd rfl (hnp _) | rfl
                  have hcall : (callMethod (.iface t u') name (c.args.map a.eval)).run P w = .ok (.enter f (#[u'] ++ c.args.map a.eval)) w := by
                    simp only [callMethod, Sem.run_bind, run_program, Result.andThen_ok, hn, method, run_info hi, hm, hpath, follow, Sem.run_pure, hfunc]
                    simp [hrecv, run_callFunc he]
                  simp only [execOp, ho, resolve, hc, e1, pure_bind, invoke_method, hcall]
                · simp only [Array.toList_append]
                  exact .cons hu (map_rep hρ c.args)
          · cases ha
        · cases ha
      · cases ha
    · cases ha
  · rename_i b hc
    obtain ⟨v', w', σ', hrun, hm, hv⟩ := abuiltin_sound (ty := o.type) (c := c) hr hρ ha
    refine opOK_value ?_ hv hm
    simp only [execOp, ho, resolve, hc, pure_bind, invoke]
    exact hrun _

/-- A sum of floats; what a NaN's bits are, the tape tells. -/
theorem afloat_sound {t : TypeId} {x y : Operand} {u v u' v' r : Value} {h : Heap} (hr : Rep base (· < h.next) σ h.get w) (hu : VRep (· < h.next) σ u u') (hv : VRep (· < h.next) σ v v') (ha : afloat u v = some r) :
    ∃ r' w', (do eqGuard .add t x y u' v'; binOp .add t u' v' : Sem Value).run P w = .ok r' w' ∧ Moves base (· < h.next) σ h.get w (· < h.next) σ h.get w' ∧ VRep (· < h.next) σ r r' := by
  have hnan : ∀ a b : Nat, Ieee.double.add a b = none → ∃ r' w', (do eqGuard .add t x y (.float .f64 a) (.float .f64 b); binOp .add t (.float .f64 a) (.float .f64 b) : Sem Value).run P w = .ok r' w' ∧ Moves base (· < h.next) σ h.get w (· < h.next) σ h.get w' ∧ VRep (· < h.next) σ (.float .f64 (2 ^ 64)) r' := by
    intro a b hab
    have hf : FloatKind.f64.format.add a b = none := hab
    have hforced : Question.forced (.nanBits .f64 a b) = false := rfl
    refine ⟨.float .f64 (Question.cut (.nanBits .f64 a b) (w.tape w.drawn (.nanBits .f64 a b))), w.drew, ?_, Moves.drew hr, ?_⟩
    · simp [eqGuard, binOp, Op.floatArith, hf, hforced]
    · refine .fnan ?_
      have hc : ∀ n, Question.cut (.nanBits .f64 a b) n = (n % 2) * 2 ^ 63 + 0x7ff0000000000000 + 1 + (n / 2) % (2 ^ 52 - 1) := fun _ => rfl
      rw [hc]
      generalize w.tape w.drawn (.nanBits .f64 a b) = n
      have hp : n % 2 < 2 := Nat.mod_lt _ (by omega)
      have hq : n / 2 % 4503599627370495 < 4503599627370495 := Nat.mod_lt _ (by omega)
      show 9218868437227405312 < (n % 2 * 9223372036854775808 + 9218868437227405312 + 1 + n / 2 % 4503599627370495) % 9223372036854775808 ∧ n % 2 * 9223372036854775808 + 9218868437227405312 + 1 + n / 2 % 4503599627370495 < 18446744073709551616
      generalize n % 2 = p at *
      generalize n / 2 % 4503599627370495 = q at *
      omega
  unfold afloat at ha
  split at ha
  · rename_i a b
    cases hc : Nat.blt a (2 ^ 64) && Nat.blt b (2 ^ 64) with
    | true =>
      rw [hc] at ha
      simp only [cond_true] at ha
      rw [Bool.and_eq_true] at hc
      have h1 : a < 2 ^ 64 := Nat.le_of_ble_eq_true hc.1
      have h2 : b < 2 ^ 64 := Nat.le_of_ble_eq_true hc.2
      have e1 : u' = .float .f64 a := by
        rcases hu.inv_float with ⟨e, _⟩ | ⟨_, e, _⟩
        · exact e
        · omega
      have e2 : v' = .float .f64 b := by
        rcases hv.inv_float with ⟨e, _⟩ | ⟨_, e, _⟩
        · exact e
        · omega
      subst e1 e2
      cases hs : Ieee.double.add a b with
      | none =>
        rw [hs] at ha
        simp only [Option.some.injEq] at ha
        subst ha
        exact hnan a b hs
      | some c =>
        rw [hs] at ha
        simp only at ha
        cases hcc : Nat.blt c (2 ^ 64) with
        | false => rw [hcc] at ha; cases ha
        | true =>
          rw [hcc] at ha
          simp only [cond_true, Option.some.injEq] at ha
          subst ha
          have h3 : c < 2 ^ 64 := Nat.le_of_ble_eq_true hcc
          have hf : FloatKind.f64.format.add a b = some c := hs
          refine ⟨.float .f64 c, w, ?_, .refl hr, .float _ _ (by omega)⟩
          simp [eqGuard, binOp, Op.floatArith, hf]
    | false =>
      rw [hc] at ha
      simp only [cond_false] at ha
      cases hd : Nat.ble a (2 ^ 64) && Nat.ble b (2 ^ 64) with
      | false => rw [hd] at ha; cases ha
      | true =>
        rw [hd] at ha
        simp only [cond_true, Option.some.injEq] at ha
        subst ha
        rw [Bool.and_eq_true] at hd
        have h1 := Nat.le_of_ble_eq_true hd.1
        have h2 := Nat.le_of_ble_eq_true hd.2
        have hab : a = 2 ^ 64 ∨ b = 2 ^ 64 := by
          rw [Bool.and_eq_false_iff] at hc
          rcases hc with hc | hc
          · refine .inl (Nat.le_antisymm h1 (Nat.le_of_not_lt fun x => ?_))
            have := Nat.ble_eq_true_of_le x
            unfold Nat.blt at hc
            rw [this] at hc; cases hc
          · refine .inr (Nat.le_antisymm h2 (Nat.le_of_not_lt fun x => ?_))
            have := Nat.ble_eq_true_of_le x
            unfold Nat.blt at hc
            rw [this] at hc; cases hc
        obtain ⟨a', b', rfl, rfl, hn⟩ := two_floats hu hv hab
        exact hnan a' b' (sum_nan hn)
  · cases ha

theorem heavy_sound {rec : Rec} (hrec : RecOK P base rec) {ρ : Operand → Value} {a : Act} {o : Oper} {h h' : Heap} {v : Value}
    (hρ : ∀ x, VRep (· < h.next) σ (ρ x) (a.eval x)) (hr : Rep base (· < h.next) σ h.get w) (ha : heavy P rec ρ o h = some (v, h')) : OpOK P base σ h w a o v h' := by
  unfold heavy at ha
  split at ha
  · rename_i t x y ho
    cases hs : astore P t (ρ x) (ρ y) h with
    | none => rw [hs] at ha; cases ha
    | some h1 =>
      rw [hs] at ha
      simp only [Option.map_some, Option.some.injEq, Prod.mk.injEq] at ha
      obtain ⟨rfl, rfl⟩ := ha
      obtain ⟨w', hrun, hm⟩ := astore_sound (P := P) hr hs (hρ x) (hρ y)
      exact opOK_skip (by simp [execOp, ho, hrun]) hm
  · rename_i c ho
    exact acallOp_sound hrec ho hρ hr ha
  · rename_i op t x y yt ho
    cases hf : isFl P op t with
    | false => rw [hf] at ha; cases ha
    | true =>
      rw [hf] at ha
      simp only [cond_true] at ha
      cases hl : afloat (ρ x) (ρ y) with
      | none => rw [hl] at ha; cases ha
      | some u =>
        rw [hl] at ha
        simp only [Option.map_some, Option.some.injEq, Prod.mk.injEq] at ha
        obtain ⟨rfl, rfl⟩ := ha
        have hop : op = .add := by
          unfold isFl at hf
          cases op <;> first | rfl | cases hf
        subst hop
        obtain ⟨v', w', hrun, hm, hv⟩ := afloat_sound (P := P) (t := t) (x := x) (y := y) hr (hρ x) (hρ y) hl
        refine opOK_value ?_ hv hm
        have he : execOp a.eval o = (do let z ← (do eqGuard .add t x y (a.eval x) (a.eval y); binOp .add t (a.eval x) (a.eval y)); pure (Next.value z)) := by simp only [execOp, ho]
        rw [he, Sem.run_bind, hrun]
        rfl
  · rename_i t r ho
    obtain ⟨v', w', σ', hrun, hm, hv⟩ := amakeMap_sound (P := P) hr hρ ha
    exact opOK_value (by simp [execOp, ho, hrun]) hv hm
  · rename_i t x k ok ho
    cases hl : alookup P t (ρ x) (ρ k) ok h with
    | none => rw [hl] at ha; cases ha
    | some u =>
      rw [hl] at ha
      simp only [Option.map_some, Option.some.injEq, Prod.mk.injEq] at ha
      obtain ⟨rfl, rfl⟩ := ha
      obtain ⟨v', hrun, hv⟩ := alookup_sound (P := P) hr hl (hρ x) (hρ k)
      exact opOK_value (by simp [execOp, ho, hrun]) hv (.refl hr)
  · rename_i t m k x ho
    cases hl : amapUpdate P t (ρ m) (ρ k) (ρ x) h with
    | none => rw [hl] at ha; cases ha
    | some h1 =>
      rw [hl] at ha
      simp only [Option.map_some, Option.some.injEq, Prod.mk.injEq] at ha
      obtain ⟨rfl, rfl⟩ := ha
      obtain ⟨w', hrun, hm⟩ := amapUpdate_sound (P := P) hr hl (hρ m) (hρ k) (hρ x)
      exact opOK_skip (by simp [execOp, ho, hrun]) hm
  · rename_i t m k x ho
    cases hl : amapUpdate P t (ρ m) (ρ k) (ρ x) h with
    | none => rw [hl] at ha; cases ha
    | some h1 =>
      rw [hl] at ha
      simp only [Option.map_some, Option.some.injEq, Prod.mk.injEq] at ha
      obtain ⟨rfl, rfl⟩ := ha
      obtain ⟨w', hrun, hm⟩ := amapUpdate_sound (P := P) hr hl (hρ m) (hρ k) (hρ x)
      exact opOK_skip (by simp [execOp, ho, hrun]) hm
  · rename_i t x ho
    obtain ⟨v', w', σ', hrun, hm, hv⟩ := arange_sound (P := P) hr ha (hρ x)
    exact opOK_value (by simp [execOp, ho, hrun]) hv hm
  · rename_i it isStr ho
    obtain ⟨v', w', σ', hrun, hm, hv⟩ := anext_sound (P := P) (ty := o.type) hr ha (hρ it)
    exact opOK_value (by simp [execOp, ho, hrun]) hv hm
  · rename_i it ho
    cases hl : aentry (ρ it) h with
    | none => rw [hl] at ha; cases ha
    | some u =>
      rw [hl] at ha
      simp only [Option.map_some, Option.some.injEq, Prod.mk.injEq] at ha
      obtain ⟨rfl, rfl⟩ := ha
      obtain ⟨v', hrun, hv⟩ := aentry_sound (P := P) hr hl (hρ it)
      exact opOK_value (by simp [execOp, ho, hrun]) hv (.refl hr)
  · rename_i t m k ho
    obtain ⟨v', w', σ', hrun, hm, hv⟩ := amapEntry_sound (P := P) hr ha (hρ m) (hρ k)
    exact opOK_value (by simp [execOp, ho, hrun]) hv hm
  · rename_i t m s x ho
    cases hl : aentryStore (ρ m) (ρ s) (ρ x) h with
    | none => rw [hl] at ha; cases ha
    | some h1 =>
      rw [hl] at ha
      simp only [Option.map_some, Option.some.injEq, Prod.mk.injEq] at ha
      obtain ⟨rfl, rfl⟩ := ha
      obtain ⟨w', hrun, hm⟩ := aentryStore_sound (P := P) (t := t) hr hl (hρ m) (hρ s) (hρ x)
      exact opOK_skip (by simp [execOp, ho, hrun]) hm
  · rename_i src dst x ho
    obtain ⟨v', w', σ', hrun, hm, hv⟩ := aconv_sound (P := P) hr ha (hρ x)
    exact opOK_value (by simp [execOp, ho, hrun]) hv hm
  · cases ha


theorem aop_sound {rec : Rec} (hrec : RecOK P base rec) {ρ : Operand → Value} {a : Act} {o : Oper} {h h' : Heap} {v : Value}
    (hρ : ∀ x, VRep (· < h.next) σ (ρ x) (a.eval x)) (hr : Rep base (· < h.next) σ h.get w) (hdfr : cls P o ≠ .dfr) (ha : aop P rec ρ o h = some (v, h')) : OpOK P base σ h w a o v h' := by
  unfold aop at ha
  split at ha
  · cases hl : light P ρ o h.get with
    | none => rw [hl] at ha; cases ha
    | some u =>
      rw [hl] at ha
      simp only [Option.map_some, Option.some.injEq, Prod.mk.injEq] at ha
      obtain ⟨rfl, rfl⟩ := ha
      obtain ⟨v', hrun, hv⟩ := light_sound hρ hr hl
      exact opOK_value hrun hv (.refl hr)
  · cases hl : aalloc P ρ o with
    | none => rw [hl] at ha; cases ha
    | some x =>
      rw [hl] at ha
      simp only [Option.map_some, Option.some.injEq, Prod.mk.injEq] at ha
      obtain ⟨rfl, rfl⟩ := ha
      obtain ⟨c, e, s, C, v', hx, hrun, hlr, hv⟩ := aalloc_sound (P := P) (w := w) hρ hl
      have hm := hr.alloc (n := h.next) (Nat.lt_irrefl _) (c := c) (e := e) (s := s) (gr := false) (C := C) (by have := hlr.len; simp at this; omega) (by rw [hlr.len, List.take_length]; exact hlr) (fun _ => by have := hlr.len; simp at this; omega)
      have hg : (h.new x.1).get = fun m => if m = h.next then some (.cells c e s false false) else h.get m := by
        funext m; rw [Heap.get_new, hx]
      rw [D_succ] at hm
      rw [← hg] at hm
      exact opOK_value hrun (hv h.next _ _ (Nat.lt_succ_self _) (Sig.upd_same _ _ _)) hm
  · exact heavy_sound hrec hρ hr ha
  · rename_i hd
    exact absurd hd hdfr

end
end Go.Proofs.YthhhmmildgijhaaGreatDoorAI
