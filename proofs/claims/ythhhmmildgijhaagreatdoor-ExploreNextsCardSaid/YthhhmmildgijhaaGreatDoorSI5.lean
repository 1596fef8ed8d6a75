/- New blocks, stores, appends: what the interpreter answers, the model answers. -/
import Derived.Test.YthhhmmildgijhaaGreatDoorSI3
import Derived.IntWalk
set_option linter.unusedVariables false
set_option linter.unusedSimpArgs false
namespace Go.Proofs.YthhhmmildgijhaaGreatDoorSI
open Go

section
variable {P : Program} {base : Nat} {D : Nat → Prop} {σ : Sig} {g : Nat → Option AObj} {w : World} {ρ ρ' : Operand → Value}

theorem purerule_sound {o : Oper} {v : Value} (hρ : ∀ x, VRep D σ (ρ x) (ρ' x)) (h : purerule P ρ o = some v) : (execOp ρ' o).run P w = .ok (.value v) w ∧ VRep D σ v v := by
  unfold purerule at h
  cases hb : !isSelect o.op && o.op.operands.toList.all (fun x => plain (ρ x)) with
  | false => rw [hb] at h; cases h
  | true =>
    rw [hb] at h
    simp only [cond_true] at h
    simp only [Bool.and_eq_true, Bool.not_eq_true'] at hb
    split at h
    · rename_i u hu
      cases hp : plain u with
      | false => rw [hp] at h; cases h
      | true =>
        rw [hp] at h
        simp only [cond_true, Option.some.injEq] at h
        subst h
        refine ⟨?_, VRep.plain_refl 8 hp⟩
        have hs : ∀ cs b, o.op ≠ .select cs b := fun cs b e => by rw [e] at hb; simp [isSelect] at hb
        rw [execOp_congr (ρ := ρ') (ρ' := ρ) o hs (fun x hx => by
          have := List.all_eq_true.1 hb.2 x (by simpa using hx)
          exact VRep.plain_eq 8 this (hρ x))]
        exact pureRun_run hu w
    · cases h

theorem map_rep (hρ : ∀ x, VRep D σ (ρ x) (ρ' x)) (xs : Array Operand) : LRep D σ (xs.map ρ).toList (xs.map ρ').toList := by
  simp only [Array.toList_map]
  exact .map _ _ _ fun x _ => hρ x

theorem binOp_eqs {t : TypeId} {x y : Value} (n1 : ∀ k n, x ≠ .int k n) (n2 : ∀ k n, x ≠ .float k n) (n3 : ∀ k a b, x ≠ .complex k a b) (n4 : ∀ s, x ≠ .string s) :
    binOp .eql t x y = (do pure (.bool (← Op.equal t x y))) ∧ binOp .neq t x y = (do pure (.bool (!(← Op.equal t x y)))) := by
  cases x <;> first
    | exact absurd rfl (n1 _ _)
    | exact absurd rfl (n2 _ _)
    | exact absurd rfl (n3 _ _ _)
    | exact absurd rfl (n4 _)
    | (cases y <;> exact ⟨rfl, rfl⟩)

theorem intBin_sound {op : BinOp} {k : IntKind} {a b : Int} {v : Value} {t : TypeId} (h : intBin op k a b = some v) : (binOp op t (.int k a) (.int k b)).run P w = .ok v w ∧ VRep D σ v v := by
  cases op <;> simp only [intBin] at h <;> first
    | (cases h; done)
    | (simp only [Option.some.injEq] at h; subst h; exact ⟨by simp [binOp, Op.intArith, Op.intCmp], by first | exact .int _ _ | exact .bool _⟩)
    | (by_cases hb : b = 0
       · simp [hb] at h
       · simp only [hb, decide_false, cond_false, Option.some.injEq] at h
         subst h
         exact ⟨by simp [binOp, Op.intDiv, hb], .int _ _⟩)

theorem lightS_sound {o : Oper} {v : Value} (hρ : ∀ x, VRep D σ (ρ x) (ρ' x)) (hr : Rep base D σ g w) (h : lightS P ρ o g = some v) :
    ∃ v', (execOp ρ' o).run P w = .ok (.value v') w ∧ VRep D σ v v' := by
  have lift : ∀ {s : Sem Value} {u : Value}, s.run P w = .ok u w → (do pure (Next.value (← s)) : Sem Next).run P w = .ok (.value u) w := fun h => by
    simp [h]
  unfold lightS at h
  split at h
  · rename_i x ho
    simp only [Option.some.injEq] at h; subst h
    exact ⟨ρ' x, by simp [execOp, ho], hρ x⟩
  · rename_i x ho
    simp only [Option.some.injEq] at h; subst h
    exact ⟨ρ' x, by simp [execOp, ho], hρ x⟩
  · rename_i c a b ho
    split at h
    · rename_i t hc
      simp only [Option.some.injEq] at h; subst h
      have h1 := hρ c
      rw [hc] at h1
      have h1 := h1.inv_bool
      refine ⟨bif t then ρ' a else ρ' b, ?_, by cases t <;> simp [hρ]⟩
      simp only [execOp, ho, h1, asBool]
      cases t <;> simp
    · cases h
  · rename_i t a ho
    split at h
    · rename_i n off ha
      have h1 := hρ a
      rw [ha] at h1
      obtain ⟨_, h1⟩ := h1.inv_ptr
      obtain ⟨_, v', hrun, _, hv⟩ := aload_sound (P := P) hr h
      refine ⟨v', ?_, hv⟩
      simp only [execOp, ho, h1]
      exact lift hrun
    · cases h
  · rename_i x ho
    split at h
    · rename_i a hx
      simp only [Option.some.injEq] at h; subst h
      have h1 := hρ x
      rw [hx] at h1
      refine ⟨ρ' x, ?_, h1⟩
      obtain ⟨n, off, sp⟩ := a
      cases sp with
      | none => obtain ⟨_, e⟩ := h1.inv_ptr; simp [execOp, ho, e]
      | some k => cases h1
    · rename_i f a b hx
      simp only [Option.some.injEq] at h; subst h
      have h1 := hρ x
      rw [hx] at h1
      refine ⟨ρ' x, ?_, h1⟩
      obtain ⟨_, _, e, _⟩ := h1.inv_func
      simp [execOp, ho, e]
    · rename_i name a b hx
      cases hm : methodHere P name a with
      | false => rw [hm] at h; cases h
      | true =>
        rw [hm] at h
        simp only [cond_true, Option.some.injEq] at h; subst h
        have h1 := hρ x
        rw [hx] at h1
        refine ⟨ρ' x, ?_, h1⟩
        obtain ⟨a', b', e, ha, _⟩ := h1.inv_func
        unfold methodHere at hm
        split at hm
        · rename_i t v rest hl
          have h0 := ha.at_ 0 (by rw [hl]; simp)
          rw [hl] at h0
          obtain ⟨y, hy, _⟩ := VRep.inv_iface (show VRep D σ (.iface t v) (a'.toList.getD 0 undef) from h0)
          have hlen := ha.len
          rw [hl] at hlen
          have h00 : a'[0]? = some (.iface t y) := by
            rw [← Array.getElem?_toList]
            rw [List.getD_eq_getElem?_getD] at hy
            cases hz : a'.toList[0]? with
            | none =>
              rw [List.getElem?_eq_none_iff] at hz
              have : 0 < a'.toList.length := by rw [← hlen]; simp
              omega
            | some z => rw [hz] at hy; simp only [Option.getD_some] at hy; rw [hy]
          split at hm
          · rename_i i hi
            split at hm
            · rename_i m hfm
              split at hm
              · rename_i f hp hf
                have hk : ∃ k, P.types.size + Made.depth = k + 1 := ⟨P.types.size + 99, rfl⟩
                obtain ⟨k, hk⟩ := hk
                have hn : (nilAhead (P.types.size + Made.depth) t y name).run P w = .ok (some false) w := by
                  rw [hk]
                  simp [nilAhead, typeInfo, hi, hfm, hp, followBlind, hf]
                simp [execOp, ho, e, h00, hn]
              · cases hm
            · cases hm
          · cases hm
        · cases hm
    · rename_i t u hx
      simp only [Option.some.injEq] at h; subst h
      have h1 := hρ x
      rw [hx] at h1
      refine ⟨ρ' x, ?_, h1⟩
      obtain ⟨_, e, _⟩ := h1.inv_iface
      simp [execOp, ho, e]
    · cases h
  · rename_i s x f ho
    obtain ⟨v', hrun, hv⟩ := afieldAddr_sound (P := P) (w := w) h (hρ x)
    exact ⟨v', by simp only [execOp, ho]; exact lift hrun, hv⟩
  · rename_i t x i ho
    obtain ⟨v', hrun, hv⟩ := aindexAddr_sound (P := P) (w := w) h (hρ x) (hρ i)
    exact ⟨v', by simp only [execOp, ho]; exact lift hrun, hv⟩
  · rename_i t x lo hi mx ho
    obtain ⟨v', hrun, hv⟩ := aslice_sound (P := P) (w := w) hρ h (hρ x)
    exact ⟨v', by simp only [execOp, ho]; exact lift hrun, hv⟩
  · rename_i t x ho
    split at h
    · cases h
    · rename_i d hn hd
      simp only [Option.some.injEq] at h; subst h
      refine ⟨.iface t (ρ' x), ?_, .iface t (hρ x)⟩
      simp only [execOp, ho]
      refine lift ?_
      simp only [Instr.makeInterface, Sem.run_bind, run_underlying hd, Result.andThen_ok]
      first | rfl | (split <;> first | rfl | simp_all)
    · cases h
  · rename_i fn first captured ho
    simp only [Option.some.injEq] at h; subst h
    refine ⟨.func fn (first.map ρ') (captured.map ρ'), ?_, .mkFunc (map_rep hρ _) (map_rep hρ _)⟩
    simp only [execOp, ho]
    exact lift rfl
  · rename_i x i ho
    split at h
    · rename_i vs hx
      have h1 := hρ x
      rw [hx] at h1
      obtain ⟨ws, e, hl⟩ := h1.inv_tuple
      rw [← Array.getElem?_toList] at h
      obtain ⟨v', e', hv⟩ := hl.get? h
      rw [Array.getElem?_toList] at e'
      refine ⟨v', ?_, hv⟩
      simp only [execOp, ho, e]
      refine lift ?_
      simp [Instr.extract, e']
    · cases h
  · rename_i t x f ho
    obtain ⟨v', hrun, hv⟩ := afield_sound (P := P) (w := w) h (hρ x)
    exact ⟨v', by simp only [execOp, ho]; exact lift hrun, hv⟩
  · rename_i t parts ho
    have h2 : LRep D σ ((parts.map fun (i, x) => (i, ρ x)).toList.map (·.2)) ((parts.map fun (i, x) => (i, ρ' x)).toList.map (·.2)) := by
      simp only [Array.toList_map, List.map_map]
      exact .map _ _ _ fun p _ => hρ p.2
    obtain ⟨v', hrun, hv⟩ := abuild_sound (P := P) (w := w) h (parts' := parts.map fun (i, x) => (i, ρ' x)) (by simp) h2
    exact ⟨v', by simp only [execOp, ho]; exact lift hrun, hv⟩
  · rename_i op t x y yt ho
    have eqrun : ∀ {b : Bool}, aeq P t (ρ x) (ρ y) g = some b → ∀ op' : BinOp, (op' = .eql ∨ op' = .neq) →
        (do eqGuard op' t x y (ρ' x) (ρ' y); binOp op' t (ρ' x) (ρ' y) : Sem Value).run P w = .ok (.bool (if op' = .eql then b else !b)) w := by
      intro b hb op' hop
      obtain ⟨h1, h2⟩ := aeq_sound (P := P) hr hb (hρ x) (hρ y)
      have h1 : (Op.equal t (ρ' x) (ρ' y)).run P w = .ok b w := h1 9998
      simp only [Sem.run_bind, h2, Result.andThen_ok]
      have notint : ∀ u, VRep D σ (ρ x) u → (∀ k n, u ≠ .int k n) ∧ (∀ k n, u ≠ .float k n) ∧ (∀ k a b, u ≠ .complex k a b) ∧ (∀ s, u ≠ .string s) := by
        intro u hx
        unfold aeq at hb
        split at hb <;> first
          | (cases hb; done)
          | (rename_i e1 _; rw [e1] at hx; cases hx <;> simp; done)
          | (rename_i e1 _ _; rw [e1] at hx; cases hx <;> simp; done)
          | (simp_all; done)
          | (simp_all; cases hx <;> simp)
      obtain ⟨n1, n2, n3, n4⟩ := notint _ (hρ x)
      obtain ⟨q1, q2⟩ := binOp_eqs (t := t) (y := ρ' y) n1 n2 n3 n4
      rcases hop with rfl | rfl
      · rw [q1]; simp [h1]
      · rw [q2]; simp [h1]
    split at h
    · rename_i k a k' b hx hy
      cases hk : decide (k = k') with
      | false => rw [hk] at h; cases h
      | true =>
        rw [hk] at h
        simp only [cond_true] at h
        obtain rfl := of_decide_eq_true hk
        have e1 := hρ x
        rw [hx] at e1
        have e1 := e1.inv_int
        have e2 := hρ y
        rw [hy] at e2
        have e2 := e2.inv_int
        obtain ⟨q, r⟩ := intBin_sound (P := P) (t := t) (w := w) h
        refine ⟨v, ?_, r⟩
        simp only [execOp, ho, e1, e2]
        refine lift ?_
        have hg : (eqGuard op t x y (.int k a) (.int k b)).run P w = .ok () w := by cases op <;> rfl
        simp [hg, q]
    · unfold binE at h
      cases op with
      | eql =>
        simp only at h
        cases hb : aeq P t (ρ x) (ρ y) g with
        | none => rw [hb] at h; cases h
        | some b =>
          rw [hb] at h
          simp only [Option.map_some, Option.some.injEq] at h; subst h
          refine ⟨.bool b, ?_, .bool b⟩
          simp only [execOp, ho]
          exact lift (by simpa using eqrun hb .eql (.inl rfl))
      | neq =>
        simp only at h
        cases hb : aeq P t (ρ x) (ρ y) g with
        | none => rw [hb] at h; cases h
        | some b =>
          rw [hb] at h
          simp only [Option.map_some, Option.some.injEq] at h; subst h
          refine ⟨.bool (!b), ?_, .bool _⟩
          simp only [execOp, ho]
          exact lift (by simpa using eqrun hb .neq (.inr rfl))
      | _ => cases h
  · rename_i op ty x ho
    split at h
    · rename_i b hx
      simp only [Option.some.injEq] at h; subst h
      have e1 := hρ x
      rw [hx] at e1
      have e1 := e1.inv_bool
      exact ⟨_, by simp [execOp, ho, e1, Op.unary], .bool _⟩
    · cases h
  · rename_i x xt asserted ok ho
    obtain ⟨v', hrun, hv⟩ := atypeAssert_sound (P := P) (w := w) (xt := xt) h (hρ x)
    exact ⟨v', by simp only [execOp, ho]; exact lift hrun, hv⟩
  · rename_i c ho
    split at h
    · rename_i hc
      split at h
      · rename_i x t hargs ht
        split at h
        · rename_i e a n cp hu hx
          simp only [Option.some.injEq] at h; subst h
          have h1 := hρ x
          rw [hx] at h1
          obtain ⟨a', cap', e', _⟩ := h1.inv_anySlice
          refine ⟨goInt n, ?_, .int _ _⟩
          have ea : c.args = #[x] := by rw [← Array.toList_inj, hargs]
          simp only [execOp, ho, resolve, hc, ea, invoke, builtin, pure_bind]
          refine lift ?_
          simp [Builtin.len_, ht, run_underlying hu, e']
        · cases h
      · cases h
    · cases h
  · cases h

theorem light_sound {o : Oper} {v : Value} (hρ : ∀ x, VRep D σ (ρ x) (ρ' x)) (hr : Rep base D σ g w) (h : light P ρ o g = some v) :
    ∃ v', (execOp ρ' o).run P w = .ok (.value v') w ∧ VRep D σ v v' := by
  unfold light at h
  split at h
  · rename_i u hu
    simp only [Option.some.injEq] at h; subst h
    exact lightS_sound hρ hr hu
  · exact ⟨v, purerule_sound hρ h⟩

theorem aload_congr {t : TypeId} {n off : Nat} {g g' : Nat → Option AObj} (h : g n = g' n) : aload P t n off g = aload P t n off g' := by
  unfold aload; rw [h]

theorem aeq_congr {t : TypeId} {x y : Value} {g g' : Nat → Option AObj} (h : ∀ n i p m j q, x = .pointer (some ⟨n, i, p⟩) → y = .pointer (some ⟨m, j, q⟩) → g n = g' n ∧ g m = g' m) : aeq P t x y g = aeq P t x y g' := by
  unfold aeq
  split <;> first
    | rfl
    | (rename_i e n i m j hu
       have h3 := h n i none m j none rfl rfl
       rw [h3.1, h3.2])

theorem light_congr {o : Oper} {g g' : Nat → Option AObj} (h : ∀ n ∈ readNames ρ o, g n = g' n) : light P ρ o g = light P ρ o g' := by
  have hS : lightS P ρ o g = lightS P ρ o g' := by
    obtain ⟨dst, op, type, pos, after, guard⟩ := o
    cases op <;> (try rfl)
    case load t a =>
      simp only [lightS, readNames] at h ⊢
      split
      · rename_i n off ha
        rw [ha] at h
        exact aload_congr (h n (by simp))
      · rfl
    case binOp op t x y yt =>
      simp only [lightS, readNames] at h ⊢
      have e : aeq P t (ρ x) (ρ y) g = aeq P t (ρ x) (ρ y) g' := aeq_congr fun n i p m j q hx hy => by
        rw [hx, hy] at h
        exact ⟨h n (by simp), h m (by simp)⟩
      have eB : binE P op t (ρ x) (ρ y) g = binE P op t (ρ x) (ρ y) g' := by unfold binE; rw [e]
      split
      · rfl
      · exact eB
  unfold light
  rw [hS]

end
end Go.Proofs.YthhhmmildgijhaaGreatDoorSI
set_option linter.unusedVariables false
set_option linter.unusedSimpArgs false
namespace Go.Proofs.YthhhmmildgijhaaGreatDoorSI
open Go

section
variable {P : Program} {base : Nat} {D : Nat → Prop} {σ : Sig} {g : Nat → Option AObj} {w : World} {ρ ρ' : Operand → Value}

theorem flat_get {α : Type} (l : List α) : ∀ (k i : Nat), ((List.replicate k l).flatten)[i]? = if i < k * l.length then l[i % l.length]? else none := by
  intro k
  induction k with
  | zero => intro i; simp
  | succ k ih =>
    intro i
    rw [List.replicate_succ, List.flatten_cons, List.getElem?_append, ih]
    have e : (k + 1) * l.length = k * l.length + l.length := Nat.succ_mul k l.length
    rw [e]
    by_cases h : i < l.length
    · rw [if_pos h, if_pos (by omega), Nat.mod_eq_of_lt h]
    · rw [if_neg h]
      have hm : (i - l.length) % l.length = i % l.length := (Nat.mod_eq_sub_mod (by omega)).symm
      rw [hm]
      by_cases h2 : i - l.length < k * l.length
      · rw [if_pos h2, if_pos (by omega)]
      · rw [if_neg h2, if_neg (by omega)]

theorem zeros_eq (z : Array Value) (hz : 0 < z.size) (k : Nat) : (Array.range (k * z.size)).map (fun i => z[i % z.size]!) = ((List.replicate k z.toList).flatten).toArray := by
  apply Array.ext'
  apply List.ext_getElem?
  intro i
  have h1 := flat_get z.toList k i
  simp only [Array.length_toList] at h1
  simp only [Array.toList_map, Array.toList_range, List.getElem?_map]
  rw [h1]
  by_cases h : i < k * z.size
  · have hm : i % z.size < z.size := Nat.mod_lt _ hz
    rw [if_pos h, List.getElem?_range h]
    simp [getElem!_pos z (i % z.size) hm, hm]
  · rw [if_neg h, List.getElem?_eq_none (by simp; omega)]
    rfl

theorem flat_rep {l l' : List Value} (h : LRep D σ l l') : ∀ k : Nat, LRep D σ (List.replicate k l).flatten (List.replicate k l').flatten
  | 0 => .nil
  | k + 1 => by rw [List.replicate_succ, List.flatten_cons, List.replicate_succ, List.flatten_cons]; exact h.append (flat_rep h k)

/-- What a making operation leaves. -/
def Made (P : Program) (D : Nat → Prop) (σ : Sig) (w : World) (ρ' : Operand → Value) (o : Oper) (x : AObj × (Nat → Value)) : Prop :=
  ∃ (c : List Value) (e : TypeId) (s : Nat) (C : Array Value) (v' : Value), x.1 = .cells c e s false false ∧ (execOp ρ' o).run P w = .ok (.value v') (w.alloc (.cells C e (0, 0))) ∧ LRep D σ c C.toList ∧
    ∀ (n : Nat) (D' : Nat → Prop) (σ' : Sig), D' n → σ' n = ⟨w.heap.size, 0, C.size⟩ → VRep D' σ' (x.2 n) v'

theorem rep_new_ptr {n b s : Nat} {D' : Nat → Prop} {σ' : Sig} (hD : D' n) (hσ : σ' n = ⟨b, 0, s⟩) : VRep D' σ' (.pointer (some ⟨n, 0, none⟩)) (.pointer (some ⟨b, 0, none⟩)) := by
  have := VRep.ptr (σ := σ') (off := 0) hD
  rw [hσ] at this
  exact this
theorem rep_new_slice {n b s len cap : Nat} {D' : Nat → Prop} {σ' : Sig} (hD : D' n) (hσ : σ' n = ⟨b, 0, s⟩) (hl : len ≤ cap) : VRep D' σ' (.slice (some ⟨n, 0, none⟩) len cap) (.slice (some ⟨b, 0, none⟩) len cap) :=
  .slice hD hl (fun _ => by rw [hσ])
theorem rep_new_sliceU {n b s len cap esz : Nat} {D' : Nat → Prop} {σ' : Sig} (hD : D' n) (hσ : σ' n = ⟨b, 0, s⟩) (hl : len ≤ cap) (hs : cap * esz = s) : VRep D' σ' (.slice (some ⟨n, 0, some 0⟩) len esz) (.slice (some ⟨b, 0, none⟩) len cap) :=
  .sliceU hD hl (fun _ => by rw [hσ]) (by rw [hσ]; simpa using hs)

theorem run_newRow_alloc (e : TypeId) (C : Array Value) (w : World) : (newRow e C).run P w = .ok ⟨w.heap.size, 0, none⟩ (w.alloc (.cells C e (0, 0))) := by
  simp [newRow]

theorem aalloc_sound (hρ : ∀ x, VRep D σ (ρ x) (ρ' x)) {o : Oper} {x : AObj × (Nat → Value)} (h : aalloc P ρ o = some x) : Made P D σ w ρ' o x := by
  have lift : ∀ {s : Sem Value} {u : Value} {w' : World}, s.run P w = .ok u w' → (do pure (Next.value (← s)) : Sem Next).run P w = .ok (.value u) w' := fun h => by
    simp [h]
  unfold aalloc at h
  split at h
  · rename_i t ho
    split at h
    · rename_i z sz hz hs
      split at h
      · rename_i cs hcs
        cases hb : plain z && Nat.beq cs.length sz with
        | false => rw [hb] at h; cases h
        | true =>
          rw [hb] at h
          simp only [cond_true, Option.some.injEq] at h; subst h
          simp only [Bool.and_eq_true] at hb
          obtain ⟨hl, _⟩ := okCells_rep (D := D) (σ := σ) hcs (VRep.plain_refl 8 hb.1)
          refine ⟨cs, t, sz, z.cells, .pointer (some ⟨w.heap.size, 0, none⟩), rfl, ?_, hl, fun n D' σ' hD hσ => rep_new_ptr hD hσ⟩
          simp only [execOp, ho]
          refine lift ?_
          simp only [Instr.alloc, Sem.run_bind, run_zero hz, Result.andThen_ok, newVar, run_newRow_alloc]
          rfl
      · cases h
    · cases h
  · rename_i t a ho
    split at h
    · rename_i cs sz hcs hs
      simp only [Option.some.injEq] at h; subst h
      obtain ⟨hl, _⟩ := okCells_rep hcs (hρ a)
      refine ⟨cs, t, sz, (ρ' a).cells, .pointer (some ⟨w.heap.size, 0, none⟩), rfl, ?_, hl, fun n D' σ' hD hσ => rep_new_ptr hD hσ⟩
      simp only [execOp, ho]
      refine lift ?_
      simp only [Instr.box, newVar, Sem.run_bind, run_newRow_alloc, Result.andThen_ok]
      rfl
    · cases h
  · rename_i t len parts ho
    split at h
    · rename_i e hu
      split at h
      · rename_i s z hs hz
        cases hb : Nat.ble (len * (s + 1)) (2 ^ 24) && plain z && Nat.beq z.cells.size (s + 1) && z.cells.toList.all one && (parts.toList.all fun p => (okCells (ρ p.2)).isSome) with
        | false => rw [hb] at h; cases h
        | true =>
          rw [hb] at h
          simp only [cond_true] at h
          simp only [Bool.and_eq_true] at hb
          obtain ⟨⟨⟨⟨b1, b2⟩, b3⟩, b4⟩, b5⟩ := hb
          have b1 := ble_le b1
          have b3 := Nat.eq_of_beq_eq_true b3
          split at h
          · rename_i cs hf
            simp only [Option.some.injEq] at h; subst h
            have hz0 : LRep D σ ((List.replicate len z.cells.toList).flatten).toArray.toList ((List.replicate len z.cells.toList).flatten).toArray.toList := by
              simp only [List.toList_toArray]
              exact flat_rep (plain_all b2) len
            have h2 : LRep D σ ((parts.map fun (i, x) => (i, ρ x)).toList.map (·.2)) ((parts.map fun (i, x) => (i, ρ' x)).toList.map (·.2)) := by
              simp only [Array.toList_map, List.map_map]
              exact .map _ _ _ fun p _ => hρ p.2
            obtain ⟨out, ho', hl⟩ := fill_sound (D := D) (σ := σ) (fun i => some (i * (s + 1), s + 1)) (parts.map fun (i, x) => (i, ρ x)).toList (parts.map fun (i, x) => (i, ρ' x)).toList _ _ cs (by simp) h2 (fun p hp => by
              simp only [Array.toList_map, List.mem_map] at hp
              obtain ⟨q, hq, rfl⟩ := hp
              have := List.all_eq_true.1 b5 q hq
              cases hc : okCells (ρ q.2) with
              | none => rw [hc] at this; cases this
              | some cs' =>
                cases hv : ρ q.2 <;> first | rfl | (rw [hv] at hc; simp [okCells, one] at hc)) hz0 hf
            refine ⟨cs.toList, e, s + 1, out, .slice (some ⟨w.heap.size, 0, none⟩) len len, rfl, ?_, hl, fun n D' σ' hD hσ => rep_new_slice hD hσ (Nat.le_refl _)⟩
            simp only [execOp, ho]
            refine lift ?_
            have hc0 : len * (s + 1) = 0 → (Array.range (len * (s + 1))).map (fun i => (#[] : Array Value)[i % (#[] : Array Value).size]!) = ((List.replicate len z.cells.toList).flatten).toArray := by
              intro h0
              have : len = 0 := by
                rcases Nat.mul_eq_zero.1 h0 with h | h
                · exact h
                · omega
              subst this
              simp
            have hc1 : (Array.range (len * (s + 1))).map (fun i => z.cells[i % z.cells.size]!) = ((List.replicate len z.cells.toList).flatten).toArray := by
              rw [← b3]; exact zeros_eq z.cells (by omega) len
            simp only [Instr.buildSlice, Sem.run_bind, run_underlying hu, Result.andThen_ok, run_size hs, if_neg (show ¬ len * (s + 1) > 2 ^ 24 by omega)]
            by_cases h0 : len * (s + 1) = 0
            · rw [if_pos h0]
              simp only [Sem.run_bind, Sem.run_pure, Result.andThen_ok, hc0 h0]
              erw [ho']
              simp only [Sem.run_bind, run_newRow_alloc, Result.andThen_ok]
              rfl
            · rw [if_neg h0]
              simp only [Sem.run_bind, Sem.run_pure, Result.andThen_ok, run_zero hz, hc1]
              erw [ho']
              simp only [Sem.run_bind, run_newRow_alloc, Result.andThen_ok]
              rfl
          · cases h
      · cases h
    · cases h
  · rename_i t l c ho
    split at h
    · rename_i e k1 n k2 m hu hl hc
      split at h
      · rename_i i hi
        split at h
        · rename_i z hz
          cases hb : plain z && Nat.beq z.cells.size i.size && z.cells.toList.all one && Nat.blt 0 i.size with
          | false => rw [hb] at h; cases h
          | true =>
            rw [hb] at h
            simp only [cond_true] at h
            simp only [Bool.and_eq_true] at hb
            obtain ⟨⟨⟨b2, b3⟩, b4⟩, b5⟩ := hb
            have b3 := Nat.eq_of_beq_eq_true b3
            have b5 := blt_lt b5
            split at h
            · rename_i hcond
              simp only [Option.some.injEq] at h; subst h
              obtain ⟨c1, c2, c3, c4⟩ := hcond
              have e1 := hρ l
              rw [hl] at e1
              have e1 := e1.inv_int
              have e2 := hρ c
              rw [hc] at e2
              have e2 := e2.inv_int
              have c4' : m ≤ 281474976710656 := by simpa using c4
              have w1 : IntKind.i64.wrap n = n := IntWalk.i64_in n ⟨by omega, by omega⟩
              have w2 : IntKind.i64.wrap m = m := IntWalk.i64_in m ⟨by omega, by omega⟩
              refine ⟨_, e, i.size, ((List.replicate m.toNat z.cells.toList).flatten).toArray, .slice (some ⟨w.heap.size, 0, none⟩) n.toNat m.toNat, rfl, ?_, ?_, fun n' D' σ' hD hσ => rep_new_slice hD hσ (by omega)⟩
              · simp only [execOp, ho]
                refine lift ?_
                rw [e1, e2]
                have hzz : (P.info? e).bind (·.zero) = some z := by rw [hi]; exact hz
                have hss : szOf P e = some i.size := by unfold szOf; rw [hi]; rfl
                have hnot : ¬ ((decide (m < 0) || decide ((i.bytes : Int) * m > 2 ^ 48)) || decide (n < 0) || decide (n > m)) = true := by
                  simp only [Bool.or_eq_true, decide_eq_true_eq, not_or, Int.not_lt]
                  exact ⟨⟨⟨by omega, by simpa using c3⟩, by omega⟩, by omega⟩
                have hc0 : m.toNat * i.size = 0 → (Array.range (m.toNat * i.size)).map (fun j => (#[] : Array Value)[j % (#[] : Array Value).size]!) = ((List.replicate m.toNat z.cells.toList).flatten).toArray := by
                  intro h0
                  have : m.toNat = 0 := by
                    rcases Nat.mul_eq_zero.1 h0 with h | h
                    · exact h
                    · omega
                  rw [this]
                  simp
                have hc1 : (Array.range (m.toNat * i.size)).map (fun j => z.cells[j % z.cells.size]!) = ((List.replicate m.toNat z.cells.toList).flatten).toArray := by
                  rw [← b3]; exact zeros_eq z.cells (by omega) _
                simp only [Instr.makeSlice, Sem.run_bind, run_underlying hu, Result.andThen_ok, asInt, asIntOf, Sem.run_pure, run_info hi, w1, w2]
                rw [if_neg hnot]
                simp only [Sem.run_bind, run_askRoom, Result.andThen_ok, run_size hss]
                by_cases h0 : m.toNat * i.size = 0
                · rw [if_pos h0]
                  simp only [Sem.run_bind, Sem.run_pure, Result.andThen_ok, hc0 h0, run_newRow_alloc]
                · rw [if_neg h0]
                  simp only [Sem.run_bind, Sem.run_pure, Result.andThen_ok, run_zero hzz, hc1, run_newRow_alloc]
              · simp only [List.toList_toArray]
                exact flat_rep (plain_all b2) _
            · cases h
        · cases h
      · cases h
    · cases h
  · cases h


/-! stores -/
theorem seg_write (C vs : List Value) (o m off : Nat) (h1 : o + m ≤ C.length) (h2 : off + vs.length ≤ m) :
    ((C.take (o + off) ++ vs ++ C.drop (o + off + vs.length)).drop o).take m = ((C.drop o).take m).take off ++ vs ++ ((C.drop o).take m).drop (off + vs.length) := by
  apply List.ext_getElem?
  intro i
  simp only [List.getElem?_take, List.getElem?_drop, List.getElem?_append, List.length_append, List.length_take, List.length_drop]
  have e1 : min (o + off) C.length = o + off := by omega
  have e2 : min off (min m (C.length - o)) = off := by omega
  rw [e1, e2]
  by_cases hm : i < m
  · rw [if_pos hm]
    by_cases h3 : i < off
    · rw [if_pos (by omega), if_pos (by omega), if_pos (by omega), if_pos (by omega), if_pos h3, if_pos h3, if_pos hm]
    · by_cases h4 : i < off + vs.length
      · rw [if_pos (by omega), if_neg (by omega), if_pos (by omega), if_neg (by omega)]
        congr 1
        omega
      · rw [if_neg (by omega), if_neg (by omega), if_pos (by omega)]
        congr 1
        omega
  · rw [if_neg hm, if_neg (by omega), if_neg (by omega)]

theorem LRep.ones {a b : List Value} (h : LRep D σ a b) (h1 : a.all one = true) : ∀ v ∈ b, v.oneCell' = true := fun x hx => by
  obtain ⟨i, hi, e⟩ := List.mem_iff_getElem.1 hx
  have hi' : i < a.length := by rw [h.len]; exact hi
  have h2 := List.all_eq_true.1 h1 a[i] (List.getElem_mem hi')
  exact (h.rel (List.getElem?_eq_getElem hi') (by rw [← e]; exact List.getElem?_eq_getElem hi)).one_one h2

/-- Cells that are written into a block of our own. -/
theorem write_sound (hr : Rep base D σ g w) {n : Nat} {c : List Value} {e : TypeId} {s : Nat} {gr : Bool} (hg : g n = some (.cells c e s gr false)) {off : Nat} {vs vs' : List Value}
    (hv : LRep D σ vs vs') (h1 : ∀ v ∈ vs', v.oneCell' = true) (hle : off + vs.length ≤ c.length) :
    ∃ w', (storeCells ⟨(σ n).blk, (σ n).off + off, none⟩ vs').run P w = .ok () w' ∧
      Moves base D σ g w D σ (fun m => if m = n then some (.cells (c.take off ++ vs ++ c.drop (off + vs.length)) e s gr false) else g m) w' := by
  obtain ⟨hD, C, t, fr, r⟩ := hr.object hg
  obtain ⟨rfl, rfl⟩ := r.mine rfl
  have hfit := r.fit
  have hl := hv.len
  have hrun := run_storeCells_at P (σ n).blk ((σ n).off + off) t vs' 0 C w r.heap (by omega) h1
  refine ⟨_, hrun, ?_⟩
  have hlen : (c.take off ++ vs ++ c.drop (off + vs.length)).length = c.length := by simp; omega
  refine hr.write hg r (by simp; omega) (by rw [hlen]; simp; omega) ?_
  rw [hlen]
  have e1 := seg_write C.toList vs' (σ n).off c.length off (by simpa using hfit) (by omega)
  simp only [Nat.add_zero, List.toList_toArray]
  rw [e1, ← hl]
  exact ((r.rel.take off).append hv).append (r.rel.drop _)

theorem astore_sound {t : TypeId} {a v a' v' : Value} {h h' : Heap} (hr : Rep base (· < h.next) σ h.get w) (hs : astore P t a v h = some h') (ha : VRep (· < h.next) σ a a') (hv : VRep (· < h.next) σ v v') :
    ∃ w', (Instr.storeAt t a' v').run P w = .ok () w' ∧ Moves base (· < h.next) σ h.get w (· < h'.next) σ h'.get w' := by
  unfold astore at hs
  split at hs
  · rename_i n off cs sz hcs hsz
    split at hs
    · rename_i c e esz gr hg
      cases hb : Nat.beq cs.length sz && Nat.ble (off + sz) c.length with
      | false => rw [hb] at hs; cases hs
      | true =>
        rw [hb] at hs
        simp only [cond_true, Option.some.injEq] at hs; subst hs
        simp only [Bool.and_eq_true] at hb
        obtain rfl := Nat.eq_of_beq_eq_true hb.1
        have hle := ble_le hb.2
        obtain ⟨hD, rfl⟩ := ha.inv_ptr
        obtain ⟨hl, h1⟩ := okCells_rep hcs hv
        obtain ⟨w', hrun, hm⟩ := write_sound (P := P) hr hg hl h1 hle
        refine ⟨w', ?_, ?_⟩
        · have hlen : v'.cells.size = cs.length := by simpa using hl.len.symm
          simp [Instr.storeAt, Instr.sureAddr, storeVar, run_size hsz, hlen, hrun]
        · have e1 : (h.put n (some (.cells (c.take off ++ cs ++ c.drop (off + cs.length)) e esz gr false))).get = (fun m => if m = n then some (.cells (c.take off ++ cs ++ c.drop (off + cs.length)) e esz gr false) else h.get m) := by
            funext m; rw [Heap.get_put hD]
          rw [e1]
          exact hm
    · cases hs
  · cases hs

/-! appends -/
theorem Moves.kill (h : Rep base D σ g w) (n : Nat) : Moves base D σ g w D σ (fun m => if m = n then none else g m) w := by
  have hs : ∀ m o, (fun m => if m = n then none else g m) m = some o → g m = some o := fun m o hm => by
    simp only at hm
    split at hm
    · cases hm
    · exact hm
  exact ⟨fun _ h => h, fun _ _ => rfl, h.sub hs, rfl, rfl, rfl, Nat.le_refl _, fun _ _ _ => rfl, fun b ⟨m, ⟨c, e, s, gr, hm⟩, hb⟩ => .inl ⟨m, ⟨c, e, s, gr, hs _ _ hm⟩, hb⟩⟩

theorem growBy_le (newLen : Nat) (h0 : 256 ≤ newLen) : ∀ (r c : Nat), c ≤ 2 * newLen → Builtin.growBy newLen r c ≤ 2 * newLen := by
  intro r
  induction r with
  | zero => intro c h; exact h
  | succ r ih =>
    intro c h
    simp only [Builtin.growBy]
    split
    · exact h
    · exact ih _ (by omega)
theorem nextcap_le (need cap : Nat) (h : cap < need) : Builtin.nextslicecap need cap ≤ 2 * need := by
  unfold Builtin.nextslicecap
  split
  · omega
  · split
    · omega
    · exact growBy_le need (by omega) 4 cap (by omega)

theorem acells_sound {sz k : Nat} {x x' : Value} {h : Heap} {cs : List Value} (hr : Rep base (· < h.next) σ h.get w) (hx : VRep (· < h.next) σ x x') (ha : acells sz x h = some (cs, k)) (w1 : World) (hw : w1.heap = w.heap) :
    (Builtin.lenOf x').run P w1 = .ok k w1 ∧ ∃ arr : Array Value, (Builtin.firstCells sz k x').run P w1 = .ok arr w1 ∧ LRep (· < h.next) σ cs arr.toList ∧ cs.length = k * sz := by
  unfold acells at ha
  split at ha
  · simp only [Option.some.injEq, Prod.mk.injEq] at ha
    obtain ⟨rfl, rfl⟩ := ha
    obtain ⟨_, _, rfl⟩ := hx.inv_sliceNil
    exact ⟨rfl, #[], rfl, .nil, by simp⟩
  · rename_i n off sp len cap
    obtain ⟨a', cap', rfl, hl, hs, ha'⟩ := hx.inv_anySlice
    obtain ⟨hD, ha'⟩ := ha' n off sp rfl
    refine ⟨?_, ?_⟩
    · cases hb : Nat.beq len 0 with
      | true =>
        rw [hb] at ha
        simp only [cond_true, Option.some.injEq, Prod.mk.injEq] at ha
        rw [Nat.eq_of_beq_eq_true hb, ← ha.2]; rfl
      | false =>
        rw [hb] at ha
        simp only [cond_false] at ha
        split at ha
        · rename_i c e s gr ro hg
          cases hb2 : Nat.ble (off + len * sz) c.length with
          | false => rw [hb2] at ha; cases ha
          | true =>
            rw [hb2] at ha
            simp only [cond_true, Option.some.injEq, Prod.mk.injEq] at ha
            rw [← ha.2]; rfl
        · cases ha
    · cases hb : Nat.beq len 0 with
      | true =>
        rw [hb] at ha
        simp only [cond_true, Option.some.injEq, Prod.mk.injEq] at ha
        obtain ⟨rfl, rfl⟩ := ha
        cases a' with
        | none => exact ⟨#[], rfl, .nil, by simp⟩
        | some a' => exact ⟨#[], by simp [Builtin.firstCells, loadCells, loadCellsFrom], .nil, by simp⟩
      | false =>
        rw [hb] at ha
        simp only [cond_false] at ha
        have hpos : len ≠ 0 := fun e => by subst e; simp at hb
        split at ha
        · rename_i c e s gr ro hg
          cases hb2 : Nat.ble (off + len * sz) c.length with
          | false => rw [hb2] at ha; cases ha
          | true =>
            rw [hb2] at ha
            simp only [cond_true, Option.some.injEq, Prod.mk.injEq] at ha
            obtain ⟨rfl, rfl⟩ := ha
            have hle := ble_le hb2
            obtain ⟨_, C, t, fr, r⟩ := (hr.heapEq hw).object hg
            have hfit := r.fit
            rw [ha' (by omega)]
            refine ⟨((C.toList.drop ((σ n).off + off)).take (len * sz)).toArray, ?_, ?_, ?_⟩
            · simp only [Builtin.firstCells]
              exact run_cells r.heap _ _ (by omega)
            · simpa using r.seg off (len * sz) hle
            · simp; omega
        · cases ha
  · rename_i s
    obtain rfl := hx.inv_string
    cases hb : Nat.beq sz 1 with
    | false => rw [hb] at ha; cases ha
    | true =>
      rw [hb] at ha
      simp only [cond_true, Option.some.injEq, Prod.mk.injEq] at ha
      obtain ⟨rfl, rfl⟩ := ha
      obtain rfl := Nat.eq_of_beq_eq_true hb
      refine ⟨rfl, (s.data.map fun b => .int .u8 b.toNat), ?_, ?_, by rw [List.length_map, Array.length_toList, Nat.mul_one]; rfl⟩
      · have e : s.extract 0 s.size = s := ByteArray.extract_zero_size
        simp [Builtin.firstCells, e]
      · simp only [Array.toList_map]
        exact .map _ _ _ fun b _ => .int _ _
  · cases ha

theorem D_succ (n : Nat) : (fun m => m < n ∨ m = n) = (· < n + 1) := by
  funext m; apply propext; constructor <;> intro h <;> omega

end
end Go.Proofs.YthhhmmildgijhaaGreatDoorSI
