/- Each operation of the interpreter: what it answers, the model answers. -/
import Derived.Test.YthhhmmildgijhaaGreatDoorAI3
import Derived.Test.YthhhmmildgijhaaGreatDoorFl1
set_option linter.unusedVariables false
set_option linter.unusedSimpArgs false
namespace Go.Proofs.YthhhmmildgijhaaGreatDoorAI
open Go

section
variable {P : Program} {base : Nat} {D : Nat → Prop} {σ : Sig} {g : Nat → Option AObj} {w : World} {ρ ρ' : Operand → Value}

theorem purerule_sound {o : Oper} {v : Value} (hρ : ∀ x, VRep D σ (ρ x) (ρ' x)) (h : purerule P ρ o = some v) : (execOp ρ' o).run P w = .ok (.value v) w ∧ VRep D σ v v := by
  unfold purerule at h
  cases hb : !isSelect o.op && o.op.operands.toList.all (fun x => plain (ρ x)) with
  | false => rw [hb] at h; cases h
  | true =>
    rw [hb] at h
    simp only [cond_true] at h
    simp only [Bool.and_eq_true, Bool.not_eq_true'] at hb
    split at h
    · rename_i u hu
      cases hp : plain u with
      | false => rw [hp] at h; cases h
      | true =>
        rw [hp] at h
        simp only [cond_true, Option.some.injEq] at h
        subst h
        refine ⟨?_, VRep.plain_refl 8 hp⟩
        have hs : ∀ cs b, o.op ≠ .select cs b := fun cs b e => by rw [e] at hb; simp [isSelect] at hb
        rw [execOp_congr (ρ := ρ') (ρ' := ρ) o hs (fun x hx => by
          have := List.all_eq_true.1 hb.2 x (by simpa using hx)
          exact VRep.plain_eq 8 this (hρ x))]
        exact pureRun_run hu w
    · cases h

theorem map_rep (hρ : ∀ x, VRep D σ (ρ x) (ρ' x)) (xs : Array Operand) : LRep D σ (xs.map ρ).toList (xs.map ρ').toList := by
  simp only [Array.toList_map]
  exact .map _ _ _ fun x _ => hρ x

theorem binOp_eqs {t : TypeId} {x y : Value} (n1 : ∀ k n, x ≠ .int k n) (n2 : ∀ k n, x ≠ .float k n) (n3 : ∀ k a b, x ≠ .complex k a b) (n4 : ∀ s, x ≠ .string s) :
    binOp .eql t x y = (do pure (.bool (← Op.equal t x y))) ∧ binOp .neq t x y = (do pure (.bool (!(← Op.equal t x y)))) := by
  cases x <;> first
    | exact absurd rfl (n1 _ _)
    | exact absurd rfl (n2 _ _)
    | exact absurd rfl (n3 _ _ _)
    | exact absurd rfl (n4 _)
    | (cases y <;> exact ⟨rfl, rfl⟩)

theorem atOnce_sound {s : Sem Value} {v : Value} (h : atOnce s = some v) : s.run P w = .ok v w ∧ VRep D σ v v := by
  unfold atOnce at h
  split at h
  · rename_i u
    cases hp : plain u with
    | false => rw [hp] at h; cases h
    | true =>
      rw [hp] at h
      simp only [cond_true, Option.some.injEq] at h
      subst h
      exact ⟨rfl, VRep.plain_refl 8 hp⟩
  · cases h

theorem intBin_sound {op : BinOp} {k : IntKind} {a b : Int} {v : Value} {t : TypeId} (h : intBin op k a b = some v) : (binOp op t (.int k a) (.int k b)).run P w = .ok v w ∧ VRep D σ v v := by
  cases op <;> simp only [intBin] at h <;> first
    | (cases h; done)
    | (simp only [Option.some.injEq] at h; subst h; exact ⟨by simp [binOp, Op.intArith, Op.intCmp], by first | exact .int _ _ | exact .bool _⟩)
    | (by_cases hb : b = 0
       · simp [hb] at h
       · simp only [hb, decide_false, cond_false, Option.some.injEq] at h
         subst h
         exact ⟨by simp [binOp, Op.intDiv, hb], .int _ _⟩)
    | (obtain ⟨h1, h2⟩ := atOnce_sound (P := P) (w := w) (D := D) (σ := σ) h
       exact ⟨by simpa [binOp] using h1, h2⟩)

theorem intShift_sound {op : BinOp} {k k' : IntKind} {a b : Int} {v : Value} {t : TypeId} (h : intShift op k a k' b = some v) : (binOp op t (.int k a) (.int k' b)).run P w = .ok v w ∧ VRep D σ v v := by
  unfold intShift at h
  split at h
  · obtain ⟨h1, h2⟩ := atOnce_sound (P := P) (w := w) (D := D) (σ := σ) h
    exact ⟨by simpa [binOp] using h1, h2⟩
  · obtain ⟨h1, h2⟩ := atOnce_sound (P := P) (w := w) (D := D) (σ := σ) h
    exact ⟨by simpa [binOp] using h1, h2⟩
  · cases hk : decide (k = k') with
    | false => rw [hk] at h; cases h
    | true =>
      rw [hk] at h
      simp only [cond_true] at h
      obtain rfl := of_decide_eq_true hk
      exact intBin_sound h

theorem boolBin_sound {op : BinOp} {a b : Bool} {v : Value} {t : TypeId} (h : boolBin op a b = some v) (hd : P.underlying t = some .bool) : (binOp op t (.bool a) (.bool b)).run P w = .ok v w ∧ VRep D σ v v := by
  have he : (Op.equal t (.bool a) (.bool b)).run P w = .ok (a == b) w := by
    have key : ∀ d : Nat, (Op.equalIn (d + 1) t (.bool a) (.bool b)).run P w = .ok (a == b) w := fun d => by simp [Op.equalIn, run_underlying hd]
    exact key 9999
  unfold boolBin at h
  split at h
  · simp only [Option.some.injEq] at h; subst h
    exact ⟨by simp [binOp, he], .bool _⟩
  · simp only [Option.some.injEq] at h; subst h
    exact ⟨by simp [binOp, he], .bool _⟩
  · cases h

theorem bcat_eq (a b : ByteArray) : bcat a b = a ++ b := by
  apply ByteArray.ext
  simp [bcat]
theorem bsub_eq (s : ByteArray) (l h : Nat) : bsub s l h = s.extract l h := by
  apply ByteArray.ext
  apply Array.ext'
  simp [bsub, ByteArray.data_extract, Array.toList_extract, List.extract_eq_take_drop]
theorem beqL_eq : ∀ (a b : List UInt8), beqL a b = (a == b)
  | [], [] => rfl
  | [], _ :: _ => rfl
  | _ :: _, [] => rfl
  | a :: x, b :: y => by
    simp only [beqL, List.cons_beq_cons]
    rw [beqL_eq x y]
    cases h : Nat.beq a.toNat b.toNat with
    | true =>
      have : a = b := UInt8.toNat_inj.1 (Nat.eq_of_beq_eq_true h)
      subst this
      simp
    | false =>
      have : ¬ a = b := fun e => by subst e; simp at h
      simp [this]

theorem bytes_toList (x : ByteArray) : x.toList = x.data.toList := ByteArray.toList_eq x

theorem strBin_sound {op : BinOp} {a b : ByteArray} {v : Value} {t : TypeId} (h : strBin op a b = some v) : (binOp op t (.string a) (.string b)).run P w = .ok v w ∧ VRep D σ v v := by
  have ht : ∀ x : ByteArray, x.toList = x.data.toList := fun x => bytes_toList x
  unfold strBin at h
  split at h
  · cases hb : Nat.blt (a.size + b.size) (2 ^ 40) with
    | false => rw [hb] at h; cases h
    | true =>
      rw [hb] at h
      simp only [cond_true, Option.some.injEq] at h
      subst h
      have hlt : a.size + b.size < 1099511627776 := blt_lt hb
      have hmax : IntKind.i64.max = 9223372036854775807 := rfl
      refine ⟨?_, .string _⟩
      rw [bcat_eq]
      have hn : ¬ (9223372036854775807 : Int) < (a.size : Int) + (b.size : Int) := by omega
      simp [binOp, Op.stringOp, hmax, hn]
  · simp only [Option.some.injEq] at h; subst h
    refine ⟨?_, .bool _⟩
    rw [beqL_eq]
    simp [binOp, Op.stringOp, ht]
  · simp only [Option.some.injEq] at h; subst h
    refine ⟨?_, .bool _⟩
    rw [beqL_eq]
    simp [binOp, Op.stringOp, ht]
  · cases h

theorem cmpUnk_sound {op : BinOp} {a n : Int} {q : Nat} {v : Value} {t : TypeId} (h : cmpUnk op a q = some v) (h1 : q % 2 = 1 → (((q - 3) / 2 : Nat) : Int) ≤ n) (h2 : q % 2 = 0 → n < (((q - 3) / 2 : Nat) : Int)) :
    (binOp op t (.int .i64 a) (.int .i64 n)).run P w = .ok v w ∧ VRep D σ v v := by
  unfold cmpUnk at h
  split at h
  · rename_i hq
    have h1 := h1 hq
    split at h
    · split at h
      · simp only [Option.some.injEq] at h; subst h
        exact ⟨by simp [binOp, Op.intCmp]; omega, .bool _⟩
      · cases h
    · split at h
      · simp only [Option.some.injEq] at h; subst h
        exact ⟨by simp [binOp, Op.intCmp]; omega, .bool _⟩
      · cases h
    · cases h
  · rename_i hq
    have hq0 : q % 2 = 0 := by
      have := Nat.mod_two_eq_zero_or_one q
      rcases this with h | h
      · exact h
      · exact absurd h (by simpa using hq)
    have h2 := h2 hq0
    split at h
    · split at h
      · simp only [Option.some.injEq] at h; subst h
        exact ⟨by simp [binOp, Op.intCmp]; omega, .bool _⟩
      · cases h
    · split at h
      · simp only [Option.some.injEq] at h; subst h
        exact ⟨by simp [binOp, Op.intCmp]; omega, .bool _⟩
      · cases h
    · cases h

theorem VRep.inv_float {k : FloatKind} {b : Nat} {v : Value} (h : VRep D σ (.float k b) v) : (v = .float k b ∧ b ≠ 2 ^ 64) ∨ (k = .f64 ∧ b = 2 ^ 64 ∧ ∃ c, NanP c ∧ v = .float .f64 c) := by
  cases h with
  | float _ _ h => exact .inl ⟨rfl, h⟩
  | fnan h => exact .inr ⟨rfl, rfl, _, h, rfl⟩
theorem read_NanP {b : Nat} (h : NanP b) : ∃ s f, Ieee.double.read b = .nan s f := by
  obtain ⟨h1, h2⟩ := h
  have h3 := YthhhmmildgijhaaGreatDoorFl.read_eq b h2
  rw [if_neg (by omega), if_neg (by omega)] at h3
  exact ⟨_, _, h3⟩
theorem order_nan {a b : Nat} (h : NanP a ∨ NanP b) : Ieee.double.order a b = none := by
  unfold Ieee.Format.order
  rcases h with h | h
  · obtain ⟨s, f, e⟩ := read_NanP h
    rw [e]; rfl
  · obtain ⟨s, f, e⟩ := read_NanP h
    rw [e]; cases Ieee.double.read a <;> rfl
theorem sum_nan {a b : Nat} (h : NanP a ∨ NanP b) : Ieee.double.add a b = none := by
  unfold Ieee.Format.add
  rcases h with h | h
  · obtain ⟨s, f, e⟩ := read_NanP h
    rw [e]; rfl
  · obtain ⟨s, f, e⟩ := read_NanP h
    rw [e]; cases Ieee.double.read a <;> rfl
/-- Of two floats one is the NaN of unknown bits. -/
theorem two_floats {x y : Value} {a b : Nat} (hx : VRep D σ (.float .f64 a) x) (hy : VRep D σ (.float .f64 b) y) (h : a = 2 ^ 64 ∨ b = 2 ^ 64) : ∃ a' b', x = .float .f64 a' ∧ y = .float .f64 b' ∧ (NanP a' ∨ NanP b') := by
  rcases hx.inv_float with ⟨rfl, h1⟩ | ⟨_, h1, c, hc, rfl⟩
  · rcases hy.inv_float with ⟨rfl, h2⟩ | ⟨_, h2, d, hd, rfl⟩
    · rcases h with h | h
      · exact absurd h h1
      · exact absurd h h2
    · exact ⟨_, _, rfl, rfl, .inr hd⟩
  · rcases hy.inv_float with ⟨rfl, h2⟩ | ⟨_, h2, d, hd, rfl⟩
    · exact ⟨_, _, rfl, rfl, .inl hc⟩
    · exact ⟨_, _, rfl, rfl, .inl hc⟩
theorem nanCmp_sound {op : BinOp} {t : TypeId} {x y : Operand} {u v r : Value} {a b : Nat} (hu : VRep D σ (.float .f64 a) u) (hv : VRep D σ (.float .f64 b) v) (h : nanCmp op a b = some r) :
    (do eqGuard op t x y u v; binOp op t u v : Sem Value).run P w = .ok r w ∧ VRep D σ r r := by
  unfold nanCmp at h
  cases hc : (Nat.beq a (2 ^ 64) && Nat.ble b (2 ^ 64)) || (Nat.beq b (2 ^ 64) && Nat.ble a (2 ^ 64)) with
  | false => rw [hc] at h; cases h
  | true =>
    rw [hc] at h
    simp only [cond_true] at h
    have hab : a = 2 ^ 64 ∨ b = 2 ^ 64 := by
      rw [Bool.or_eq_true, Bool.and_eq_true, Bool.and_eq_true] at hc
      rcases hc with ⟨h1, _⟩ | ⟨h1, _⟩
      · exact .inl (Nat.eq_of_beq_eq_true h1)
      · exact .inr (Nat.eq_of_beq_eq_true h1)
    obtain ⟨a', b', rfl, rfl, hn⟩ := two_floats hu hv hab
    have ho := order_nan hn
    have hg : (eqGuard op t x y (.float .f64 a') (.float .f64 b')).run P w = .ok () w := by cases op <;> rfl
    have hf : FloatKind.f64.format.order a' b' = none := ho
    cases op <;> simp only [Option.some.injEq] at h <;> first
      | (cases h; done)
      | (subst h; exact ⟨by simp [hg, binOp, Op.floatCmp, hf], .bool _⟩)

theorem lightS_sound {o : Oper} {v : Value} (hρ : ∀ x, VRep D σ (ρ x) (ρ' x)) (hr : Rep base D σ g w) (h : lightS P ρ o g = some v) :
    ∃ v', (execOp ρ' o).run P w = .ok (.value v') w ∧ VRep D σ v v' := by
  have lift : ∀ {s : Sem Value} {u : Value}, s.run P w = .ok u w → (do pure (Next.value (← s)) : Sem Next).run P w = .ok (.value u) w := fun h => by
    simp [h]
  unfold lightS at h
  split at h
  · rename_i x ho
    simp only [Option.some.injEq] at h; subst h
    exact ⟨ρ' x, by simp [execOp, ho], hρ x⟩
  · rename_i x ho
    simp only [Option.some.injEq] at h; subst h
    exact ⟨ρ' x, by simp [execOp, ho], hρ x⟩
  · rename_i c a b ho
    split at h
    · rename_i t hc
      simp only [Option.some.injEq] at h; subst h
      have h1 := hρ c
      rw [hc] at h1
      have h1 := h1.inv_bool
      refine ⟨bif t then ρ' a else ρ' b, ?_, by cases t <;> simp [hρ]⟩
      simp only [execOp, ho, h1, asBool]
      cases t <;> simp
    · cases h
  · rename_i t a ho
    split at h
    · rename_i n off ha
      have h1 := hρ a
      rw [ha] at h1
      obtain ⟨_, h1⟩ := h1.inv_ptr
      obtain ⟨_, v', hrun, _, hv⟩ := aload_sound (P := P) hr h
      refine ⟨v', ?_, hv⟩
      simp only [execOp, ho, h1]
      exact lift hrun
    · cases h
  · rename_i x ho
    split at h
    · rename_i a hx
      simp only [Option.some.injEq] at h; subst h
      have h1 := hρ x
      rw [hx] at h1
      refine ⟨ρ' x, ?_, h1⟩
      obtain ⟨n, off, sp⟩ := a
      cases sp with
      | none => obtain ⟨_, e⟩ := h1.inv_ptr; simp [execOp, ho, e]
      | some k => cases h1
    · rename_i f a b hx
      simp only [Option.some.injEq] at h; subst h
      have h1 := hρ x
      rw [hx] at h1
      refine ⟨ρ' x, ?_, h1⟩
      obtain ⟨_, _, e, _⟩ := h1.inv_func
      simp [execOp, ho, e]
    · rename_i name a b hx
      cases hm : methodHere P name a with
      | false => rw [hm] at h; cases h
      | true =>
        rw [hm] at h
        simp only [cond_true, Option.some.injEq] at h; subst h
        have h1 := hρ x
        rw [hx] at h1
        refine ⟨ρ' x, ?_, h1⟩
        obtain ⟨a', b', e, ha, _⟩ := h1.inv_func
        unfold methodHere at hm
        split at hm
        · rename_i t v rest hl
          have h0 := ha.at_ 0 (by rw [hl]; simp)
          rw [hl] at h0
          obtain ⟨y, hy, _⟩ := VRep.inv_iface (show VRep D σ (.iface t v) (a'.toList.getD 0 undef) from h0)
          have hlen := ha.len
          rw [hl] at hlen
          have h00 : a'[0]? = some (.iface t y) := by
            rw [← Array.getElem?_toList]
            rw [List.getD_eq_getElem?_getD] at hy
            cases hz : a'.toList[0]? with
            | none =>
              rw [List.getElem?_eq_none_iff] at hz
              have : 0 < a'.toList.length := by rw [← hlen]; simp
              omega
            | some z => rw [hz] at hy; simp only [Option.getD_some] at hy; rw [hy]
          split at hm
          · rename_i i hi
            split at hm
            · rename_i m hfm
              split at hm
              · rename_i f hp hf
                have hk : ∃ k, P.types.size + Made.depth = k + 1 := ⟨P.types.size + 99, rfl⟩
                obtain ⟨k, hk⟩ := hk
                have hn : (nilAhead (P.types.size + Made.depth) t y name).run P w = .ok (some false) w := by
                  rw [hk]
                  simp [nilAhead, typeInfo, hi, hfm, hp, followBlind, hf]
                simp [execOp, ho, e, h00, hn]
              · cases hm
            · cases hm
          · cases hm
        · cases hm
    · rename_i t u hx
      simp only [Option.some.injEq] at h; subst h
      have h1 := hρ x
      rw [hx] at h1
      refine ⟨ρ' x, ?_, h1⟩
      obtain ⟨_, e, _⟩ := h1.inv_iface
      simp [execOp, ho, e]
    · cases h
  · rename_i s x f ho
    obtain ⟨v', hrun, hv⟩ := afieldAddr_sound (P := P) (w := w) h (hρ x)
    exact ⟨v', by simp only [execOp, ho]; exact lift hrun, hv⟩
  · rename_i t x i ho
    obtain ⟨v', hrun, hv⟩ := aindexAddr_sound (P := P) (w := w) h (hρ x) (hρ i)
    exact ⟨v', by simp only [execOp, ho]; exact lift hrun, hv⟩
  · rename_i t x lo hi mx ho
    split at h
    · rename_i s hx
      have h1 := hρ x
      rw [hx] at h1
      have h1 := h1.inv_string
      split at h
      · rename_i hu
        unfold sliceStr at h
        split at h
        · rename_i l hh hmx hl hhi
          cases hb : Nat.ble l hh && Nat.ble hh s.size with
          | false => rw [hb] at h; cases h
          | true =>
            rw [hb] at h
            simp only [cond_true, Option.some.injEq] at h
            subst h
            simp only [Bool.and_eq_true] at hb
            have b1 := ble_le hb.1
            have b2 := ble_le hb.2
            refine ⟨.string (bsub s l hh), ?_, .string _⟩
            simp only [execOp, ho, h1]
            refine lift ?_
            have e1 := abound_rep hρ hl
            have e2 := abound_rep hρ hhi
            have e3 : mx.map ρ' = none := by cases mx with
              | none => rfl
              | some y => simp at hmx
            rw [bsub_eq, e3]
            have hbnd : (Instr.sliceBounds false s.size s.size (lo.map ρ') (hi.map ρ') none).run P w = .ok (l, hh, s.size) w := by
              rcases e1 with ⟨e1, e1'⟩ | ⟨k1, e1⟩ <;> rcases e2 with ⟨e2, e2'⟩ | ⟨k2, e2⟩
              · rw [e1, e2, e1', e2']; simp [Instr.sliceBounds]
              · rw [e1, e2, e1']; simp [Instr.sliceBounds, run_bound b2]
              · rw [e1, e2]; subst e2'; simp [Instr.sliceBounds, run_bound b1]
              · rw [e1, e2]; simp [Instr.sliceBounds, run_bound b1, run_bound b2]
            simp [Instr.slice, run_underlying hu, Instr.sliceAt, hbnd]
        · cases h
      · cases h
    · obtain ⟨v', hrun, hv⟩ := aslice_sound (P := P) (w := w) hρ h (hρ x)
      exact ⟨v', by simp only [execOp, ho]; exact lift hrun, hv⟩
  · rename_i t x i ho
    split at h
    · rename_i s hx
      have h1 := hρ x
      rw [hx] at h1
      have h1 := h1.inv_string
      split at h
      · rename_i hu
        unfold indexStr at h
        split at h
        · rename_i ki k hi
          have h2 := hρ i
          rw [hi] at h2
          have h2 := h2.inv_int
          cases hk : s.data.toList[k]? with
          | none => rw [hk] at h; cases h
          | some b =>
            rw [hk] at h
            simp only [Option.map_some, Option.some.injEq] at h
            subst h
            refine ⟨.int .u8 b.toNat, ?_, .int _ _⟩
            simp only [execOp, ho, h1, h2]
            refine lift ?_
            have hk' : s[k]? = some b := by
              rw [Array.getElem?_toList] at hk
              have := Array.getElem?_eq_some_iff.1 hk
              obtain ⟨hlt, he⟩ := this
              rw [getElem?_pos s k hlt]
              exact congrArg some he
            simp [Instr.index, run_underlying hu, asIntOf, hk']
        · cases h
      · cases h
    · cases h
  · rename_i t x ho
    split at h
    · cases h
    · rename_i d hn hd
      simp only [Option.some.injEq] at h; subst h
      refine ⟨.iface t (ρ' x), ?_, .iface t (hρ x)⟩
      simp only [execOp, ho]
      refine lift ?_
      simp only [Instr.makeInterface, Sem.run_bind, run_underlying hd, Result.andThen_ok]
      first | rfl | (split <;> first | rfl | simp_all)
    · cases h
  · rename_i fn first captured ho
    simp only [Option.some.injEq] at h; subst h
    refine ⟨.func fn (first.map ρ') (captured.map ρ'), ?_, .mkFunc (map_rep hρ _) (map_rep hρ _)⟩
    simp only [execOp, ho]
    exact lift rfl
  · rename_i x i ho
    split at h
    · rename_i vs hx
      have h1 := hρ x
      rw [hx] at h1
      obtain ⟨ws, e, hl⟩ := h1.inv_tuple
      rw [← Array.getElem?_toList] at h
      obtain ⟨v', e', hv⟩ := hl.get? h
      rw [Array.getElem?_toList] at e'
      refine ⟨v', ?_, hv⟩
      simp only [execOp, ho, e]
      refine lift ?_
      simp [Instr.extract, e']
    · cases h
  · rename_i t x f ho
    obtain ⟨v', hrun, hv⟩ := afield_sound (P := P) (w := w) h (hρ x)
    exact ⟨v', by simp only [execOp, ho]; exact lift hrun, hv⟩
  · rename_i t parts ho
    have h2 : LRep D σ ((parts.map fun (i, x) => (i, ρ x)).toList.map (·.2)) ((parts.map fun (i, x) => (i, ρ' x)).toList.map (·.2)) := by
      simp only [Array.toList_map, List.map_map]
      exact .map _ _ _ fun p _ => hρ p.2
    obtain ⟨v', hrun, hv⟩ := abuild_sound (P := P) (w := w) h (parts' := parts.map fun (i, x) => (i, ρ' x)) (by simp) h2
    exact ⟨v', by simp only [execOp, ho]; exact lift hrun, hv⟩
  · rename_i op t x y yt ho
    have eqrun : ∀ {b : Bool}, aeq P t (ρ x) (ρ y) g = some b → ∀ op' : BinOp, (op' = .eql ∨ op' = .neq) →
        (do eqGuard op' t x y (ρ' x) (ρ' y); binOp op' t (ρ' x) (ρ' y) : Sem Value).run P w = .ok (.bool (if op' = .eql then b else !b)) w := by
      intro b hb op' hop
      obtain ⟨h1, h2⟩ := aeq_sound (P := P) hr hb (hρ x) (hρ y)
      have h1 : (Op.equal t (ρ' x) (ρ' y)).run P w = .ok b w := h1 9998
      simp only [Sem.run_bind, h2, Result.andThen_ok]
      have notint : ∀ u, VRep D σ (ρ x) u → (∀ k n, u ≠ .int k n) ∧ (∀ k n, u ≠ .float k n) ∧ (∀ k a b, u ≠ .complex k a b) ∧ (∀ s, u ≠ .string s) := by
        intro u hx
        unfold aeq at hb
        split at hb <;> first
          | (cases hb; done)
          | (rename_i e1 _; rw [e1] at hx; cases hx <;> simp; done)
          | (rename_i e1 _ _; rw [e1] at hx; cases hx <;> simp; done)
          | (simp_all; done)
          | (simp_all; cases hx <;> simp)
      obtain ⟨n1, n2, n3, n4⟩ := notint _ (hρ x)
      obtain ⟨q1, q2⟩ := binOp_eqs (t := t) (y := ρ' y) n1 n2 n3 n4
      rcases hop with rfl | rfl
      · rw [q1]; simp [h1]
      · rw [q2]; simp [h1]
    split at h
    · rename_i k a k' b hx hy
      have e1 := hρ x
      rw [hx] at e1
      have e1 := e1.inv_int
      have e2 := hρ y
      rw [hy] at e2
      have e2 := e2.inv_int
      obtain ⟨q, r⟩ := intShift_sound (P := P) (t := t) (w := w) (D := D) (σ := σ) h
      refine ⟨v, ?_, r⟩
      simp only [execOp, ho, e1, e2]
      refine lift ?_
      have hg : (eqGuard op t x y (.int k a) (.int k' b)).run P w = .ok () w := by cases op <;> rfl
      simp [hg, q]
    · rename_i a b hx hy
      have e1 := hρ x
      rw [hx] at e1
      have e1 := e1.inv_bool
      have e2 := hρ y
      rw [hy] at e2
      have e2 := e2.inv_bool
      split at h
      · rename_i hu
        obtain ⟨q, r⟩ := boolBin_sound (P := P) (t := t) (w := w) (D := D) (σ := σ) h hu
        refine ⟨v, ?_, r⟩
        simp only [execOp, ho, e1, e2]
        refine lift ?_
        have hg : (eqGuard op t x y (.bool a) (.bool b)).run P w = .ok () w := by cases op <;> rfl
        simp [hg, q]
      · cases h
    · rename_i a b hx hy
      have e1 := hρ x
      rw [hx] at e1
      have e2 := hρ y
      rw [hy] at e2
      obtain ⟨q1, q2⟩ := nanCmp_sound (P := P) (w := w) (t := t) (x := x) (y := y) e1 e2 h
      refine ⟨v, ?_, q2⟩
      simp only [execOp, ho]
      exact lift q1
    · rename_i a b hx hy
      have e1 := hρ x
      rw [hx] at e1
      have e1 := e1.inv_string
      have e2 := hρ y
      rw [hy] at e2
      have e2 := e2.inv_string
      obtain ⟨q, r⟩ := strBin_sound (P := P) (t := t) (w := w) (D := D) (σ := σ) h
      refine ⟨v, ?_, r⟩
      simp only [execOp, ho, e1, e2]
      refine lift ?_
      have hg : (eqGuard op t x y (.string a) (.string b)).run P w = .ok () w := by cases op <;> rfl
      simp [hg, q]
    · rename_i a q hx hy
      have e1 := hρ x
      rw [hx] at e1
      have e1 := e1.inv_int
      have e2 := hρ y
      rw [hy] at e2
      cases hq : Nat.ble 3 q with
      | false => rw [hq] at h; cases h
      | true =>
        rw [hq] at h
        simp only [cond_true] at h
        obtain ⟨n, e2, c1, c2⟩ := e2.inv_chan (ble_le hq)
        obtain ⟨r1, r2⟩ := cmpUnk_sound (P := P) (t := t) (w := w) (D := D) (σ := σ) h c1 c2
        refine ⟨v, ?_, r2⟩
        simp only [execOp, ho, e1, e2]
        refine lift ?_
        have hg : (eqGuard op t x y (.int .i64 a) (.int .i64 n)).run P w = .ok () w := by cases op <;> rfl
        simp [hg, r1]
    · unfold binE at h
      cases op with
      | eql =>
        simp only at h
        cases hb : aeq P t (ρ x) (ρ y) g with
        | none => rw [hb] at h; cases h
        | some b =>
          rw [hb] at h
          simp only [Option.map_some, Option.some.injEq] at h; subst h
          refine ⟨.bool b, ?_, .bool b⟩
          simp only [execOp, ho]
          exact lift (by simpa using eqrun hb .eql (.inl rfl))
      | neq =>
        simp only at h
        cases hb : aeq P t (ρ x) (ρ y) g with
        | none => rw [hb] at h; cases h
        | some b =>
          rw [hb] at h
          simp only [Option.map_some, Option.some.injEq] at h; subst h
          refine ⟨.bool (!b), ?_, .bool _⟩
          simp only [execOp, ho]
          exact lift (by simpa using eqrun hb .neq (.inr rfl))
      | _ => cases h
  · rename_i op ty x ho
    split at h
    · rename_i b hx
      simp only [Option.some.injEq] at h; subst h
      have e1 := hρ x
      rw [hx] at e1
      have e1 := e1.inv_bool
      exact ⟨_, by simp [execOp, ho, e1, Op.unary], .bool _⟩
    · rename_i op k n hx
      have e1 := hρ x
      rw [hx] at e1
      have e1 := e1.inv_int
      obtain ⟨q, r⟩ := atOnce_sound (P := P) (w := w) (D := D) (σ := σ) h
      refine ⟨v, ?_, r⟩
      simp only [execOp, ho, e1]
      exact lift q
    · cases h
  · rename_i src dst x ho
    split at h
    · rename_i ds k k0 n hs hd hx
      simp only [Option.some.injEq] at h; subst h
      have e1 := hρ x
      rw [hx] at e1
      have e1 := e1.inv_int
      refine ⟨.int k (k.wrap n), ?_, .int _ _⟩
      simp only [execOp, ho, e1]
      refine lift ?_
      simp only [convert, Sem.run_bind, run_underlying hs, run_underlying hd, Result.andThen_ok]
      cases ds <;> rfl
    · cases h
  · rename_i x xt asserted ok ho
    obtain ⟨v', hrun, hv⟩ := atypeAssert_sound (P := P) (w := w) (xt := xt) h (hρ x)
    exact ⟨v', by simp only [execOp, ho]; exact lift hrun, hv⟩
  · rename_i c ho
    split at h
    · rename_i hc
      split at h
      · rename_i x t hargs ht
        split at h
        · rename_i e a n cp hu hx
          simp only [Option.some.injEq] at h; subst h
          have h1 := hρ x
          rw [hx] at h1
          obtain ⟨a', cap', e', _⟩ := h1.inv_anySlice
          refine ⟨goInt n, ?_, .int _ _⟩
          have ea : c.args = #[x] := by rw [← Array.toList_inj, hargs]
          simp only [execOp, ho, resolve, hc, ea, invoke, builtin, pure_bind]
          refine lift ?_
          simp [Builtin.len_, ht, run_underlying hu, e']
        · rename_i s hu hx
          simp only [Option.some.injEq] at h; subst h
          have h1 := hρ x
          rw [hx] at h1
          have e' := h1.inv_string
          refine ⟨goInt s.size, ?_, .int _ _⟩
          have ea : c.args = #[x] := by rw [← Array.toList_inj, hargs]
          simp only [execOp, ho, resolve, hc, ea, invoke, builtin, pure_bind]
          refine lift ?_
          simp [Builtin.len_, ht, run_underlying hu, e']
        · cases h
      · cases h
    · cases h
  · cases h

theorem light_sound {o : Oper} {v : Value} (hρ : ∀ x, VRep D σ (ρ x) (ρ' x)) (hr : Rep base D σ g w) (h : light P ρ o g = some v) :
    ∃ v', (execOp ρ' o).run P w = .ok (.value v') w ∧ VRep D σ v v' := by
  unfold light at h
  split at h
  · rename_i u hu
    simp only [Option.some.injEq] at h; subst h
    exact lightS_sound hρ hr hu
  · exact ⟨v, purerule_sound hρ h⟩

theorem aload_congr {t : TypeId} {n off : Nat} {g g' : Nat → Option AObj} (h : g n = g' n) : aload P t n off g = aload P t n off g' := by
  unfold aload; rw [h]

theorem aeq_congr {t : TypeId} {x y : Value} {g g' : Nat → Option AObj} (h : ∀ n i p m j q, x = .pointer (some ⟨n, i, p⟩) → y = .pointer (some ⟨m, j, q⟩) → g n = g' n ∧ g m = g' m) : aeq P t x y g = aeq P t x y g' := by
  unfold aeq
  split <;> first
    | rfl
    | (rename_i e n i m j hu
       have h3 := h n i none m j none rfl rfl
       rw [h3.1, h3.2])

theorem light_congr {o : Oper} {g g' : Nat → Option AObj} (h : ∀ n ∈ readNames ρ o, g n = g' n) : light P ρ o g = light P ρ o g' := by
  have hS : lightS P ρ o g = lightS P ρ o g' := by
    obtain ⟨dst, op, type, pos, after, guard⟩ := o
    cases op <;> (try rfl)
    case load t a =>
      simp only [lightS, readNames] at h ⊢
      split
      · rename_i n off ha
        rw [ha] at h
        exact aload_congr (h n (by simp))
      · rfl
    case binOp op t x y yt =>
      simp only [lightS, readNames] at h ⊢
      have e : aeq P t (ρ x) (ρ y) g = aeq P t (ρ x) (ρ y) g' := aeq_congr fun n i p m j q hx hy => by
        rw [hx, hy] at h
        exact ⟨h n (by simp), h m (by simp)⟩
      have eB : binE P op t (ρ x) (ρ y) g = binE P op t (ρ x) (ρ y) g' := by unfold binE; rw [e]
      split
      · rfl
      · rfl
      · rfl
      · rfl
      · rfl
      · exact eB
  unfold light
  rw [hS]

end
end Go.Proofs.YthhhmmildgijhaaGreatDoorAI
