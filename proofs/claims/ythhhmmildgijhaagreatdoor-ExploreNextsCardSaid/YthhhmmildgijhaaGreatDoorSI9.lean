/- A region that draws its order: whatever order the tape gives, what our order answers. -/
import Derived.Test.YthhhmmildgijhaaGreatDoorSI7
set_option linter.unusedVariables false
set_option linter.unusedSimpArgs false
namespace Go.Proofs.YthhhmmildgijhaaGreatDoorSI
open Go

section
variable {P : Program} {base : Nat} {D D' : Nat → Prop} {σ σ' : Sig} {g : Nat → Option AObj} {w w' : World}

/-! ### 1. Operands alone -/
theorem map_congr {ρ ρ' : Operand → Value} {xs : Array Operand} (h : ∀ x ∈ xs, ρ x = ρ' x) : xs.map ρ = xs.map ρ' := Array.map_congr_left h
theorem opt_congr {ρ ρ' : Operand → Value} {x : Option Operand} (h : ∀ y, x = some y → ρ y = ρ' y) : x.map ρ = x.map ρ' := by
  cases x with
  | none => rfl
  | some x => simp [h x rfl]
theorem pairs_congr {ρ ρ' : Operand → Value} {ps : Array (Nat × Operand)} (h : ∀ x ∈ ps.toList.map (·.2), ρ x = ρ' x) : (ps.map fun (i, x) => (i, ρ x)) = ps.map fun (i, x) => (i, ρ' x) :=
  Array.map_congr_left fun p hm => by
    obtain ⟨i, x⟩ := p
    simp only [h x (List.mem_map.2 ⟨(i, x), by simpa using hm, rfl⟩)]

theorem purerule_congr {ρ ρ' : Operand → Value} {o : Oper} (h : ∀ x ∈ o.op.operands, ρ x = ρ' x) : purerule P ρ o = purerule P ρ' o := by
  unfold purerule
  have e : (o.op.operands.toList.all fun x => plain (ρ x)) = o.op.operands.toList.all fun x => plain (ρ' x) := by
    rw [Bool.eq_iff_iff, List.all_eq_true, List.all_eq_true]
    constructor <;> intro h1 x hx
    · rw [← h x (by simpa using hx)]; exact h1 x hx
    · rw [h x (by simpa using hx)]; exact h1 x hx
  rw [e]
  cases hs : isSelect o.op with
  | true => rfl
  | false => rw [execOp_congr o (fun cs b e => by rw [e] at hs; cases hs) h]

theorem lightS_congr {ρ ρ' : Operand → Value} {o : Oper} (h : ∀ x ∈ o.op.operands, ρ x = ρ' x) : lightS P ρ o g = lightS P ρ' o g := by
  obtain ⟨dst, op, type, pos, after, guard⟩ := o
  cases op <;> simp only [Op.operands] at h <;> simp only [lightS]
  case build t ps => rw [pairs_congr fun x hx => h x (by simpa using hx)]
  case makeFunc fn first captured =>
    rw [map_congr (xs := first) fun x hx => h x (by simp [hx]), map_congr (xs := captured) fun x hx => h x (by simp [hx])]
  case slice t x lo hi mx =>
    have hx : ρ x = ρ' x := h x (by simp)
    rw [hx, opt_congr (x := lo) fun y e => h y (by simp [e]), opt_congr (x := hi) fun y e => h y (by simp [e]), opt_congr (x := mx) fun y e => h y (by simp [e])]
  case call c =>
    obtain ⟨callee, args, argTypes⟩ := c
    cases callee <;> simp only
    case builtin b =>
      cases b <;> simp only
      split
      · rename_i x t ha ht
        have hx : ρ x = ρ' x := h x (by
          have : x ∈ args := by rw [← Array.mem_toList_iff, ha]; simp
          simp [Call.operands, this])
        rw [hx]
      · rfl
  all_goals (first | rfl | (simp_all; done))

theorem light_congrρ {ρ ρ' : Operand → Value} {o : Oper} (h : ∀ x ∈ o.op.operands, ρ x = ρ' x) : light P ρ o g = light P ρ' o g := by
  unfold light
  rw [lightS_congr h, purerule_congr h]

theorem aalloc_congr {ρ ρ' : Operand → Value} {o : Oper} (h : ∀ x ∈ o.op.operands, ρ x = ρ' x) : aalloc P ρ o = aalloc P ρ' o := by
  obtain ⟨dst, op, type, pos, after, guard⟩ := o
  cases op <;> simp only [Op.operands] at h <;> simp only [aalloc]
  case box t x => rw [h x (by simp)]
  case buildSlice t n ps =>
    rw [pairs_congr fun x hx => h x (by simpa using hx)]
    have e : (ps.toList.all fun p => (okCells (ρ p.2)).isSome) = ps.toList.all fun p => (okCells (ρ' p.2)).isSome := by
      rw [Bool.eq_iff_iff, List.all_eq_true, List.all_eq_true]
      constructor <;> intro h1 p hp
      · rw [← h p.2 (by simp; exact ⟨p.1, by simpa using hp⟩)]; exact h1 p hp
      · rw [h p.2 (by simp; exact ⟨p.1, by simpa using hp⟩)]; exact h1 p hp
    rw [e]
  case makeSlice t l c => rw [h l (by simp), h c (by simp)]

theorem heavy_congr {rec : Rec} {ρ ρ' : Operand → Value} {o : Oper} {hp : Heap} (h : ∀ x ∈ o.op.operands, ρ x = ρ' x) : heavy P rec ρ o hp = heavy P rec ρ' o hp := by
  obtain ⟨dst, op, type, pos, after, guard⟩ := o
  cases op <;> simp only [Op.operands] at h <;> simp only [heavy]
  case store t a v => rw [h a (by simp), h v (by simp)]
  case call c =>
    obtain ⟨callee, args, argTypes⟩ := c
    have ha : args.map ρ = args.map ρ' := map_congr fun x hx => h x (by simp [Call.operands, hx])
    cases callee <;> simp only [acallOp]
    case value f => rw [ha, h f (by simp [Call.operands])]
    case invoke r m => rw [ha, h r (by simp [Call.operands])]
    case builtin b =>
      cases b <;> simp only
      split
      · rename_i s x t xt hargs ht
        have hs : ρ s = ρ' s := h s (by
          have : s ∈ args := by rw [← Array.mem_toList_iff, hargs]; simp
          simp [Call.operands, this])
        have hx : ρ x = ρ' x := h x (by
          have : x ∈ args := by rw [← Array.mem_toList_iff, hargs]; simp
          simp [Call.operands, this])
        rw [hs, hx]
      · rfl

theorem aload_mono {t : TypeId} {n off : Nat} {v : Value} {g g' : Nat → Option AObj} (h : ∀ x, g n = some x → g' n = some x) (hl : aload P t n off g = some v) : aload P t n off g' = some v := by
  unfold aload at hl ⊢
  cases hg : g n with
  | none => rw [hg] at hl; cases hl
  | some x => rw [hg] at hl; rw [h x hg]; exact hl

theorem aeq_mono {t : TypeId} {x y : Value} {b : Bool} {g g' : Nat → Option AObj} (h : ∀ n i p m j q, x = .pointer (some ⟨n, i, p⟩) → y = .pointer (some ⟨m, j, q⟩) → ∀ z, (g n = some z → g' n = some z) ∧ (g m = some z → g' m = some z))
    (hl : aeq P t x y g = some b) : aeq P t x y g' = some b := by
  unfold aeq at hl ⊢
  split at hl <;> first
    | exact hl
    | (rename_i e n i m j hu
       split at hl
       · rename_i k hk
         cases hnm : Nat.beq n m with
         | true => rw [hnm] at hl; exact hl
         | false =>
           rw [hnm] at hl
           simp only [cond_false] at hl ⊢
           split at hl
           · rename_i h1 h2
             have h3 := h n i none m j none rfl rfl
             rw [(h3 _).1 h1, (h3 _).2 h2]
             exact hl
           · cases hl
       · cases hl)

theorem lightS_mono {ρ : Operand → Value} {o : Oper} {v : Value} {g g' : Nat → Option AObj} (h : ∀ n ∈ readNames ρ o, ∀ x, g n = some x → g' n = some x) (hl : lightS P ρ o g = some v) : lightS P ρ o g' = some v := by
  obtain ⟨dst, op, type, pos, after, guard⟩ := o
  cases op <;> (try exact hl)
  case load t a =>
    simp only [lightS, readNames] at h hl ⊢
    cases ha : ρ a with
    | pointer p =>
      cases p with
      | none => rw [ha] at hl; cases hl
      | some p =>
        obtain ⟨n, off, sp⟩ := p
        rw [ha] at h hl
        cases sp with
        | none => exact aload_mono (h n (by simp)) hl
        | some k => cases hl
    | _ => rw [ha] at hl; cases hl
  case binOp op t x y yt =>
    simp only [lightS, readNames] at h hl ⊢
    have e : ∀ b, aeq P t (ρ x) (ρ y) g = some b → aeq P t (ρ x) (ρ y) g' = some b := fun b hb => aeq_mono (fun n i p m j q hx hy z => by
      rw [hx, hy] at h
      exact ⟨h n (by simp) z, h m (by simp) z⟩) hb
    have eE : ∀ u, binE P op t (ρ x) (ρ y) g = some u → binE P op t (ρ x) (ρ y) g' = some u := by
      intro u hu
      unfold binE at hu ⊢
      cases op <;> simp only at hu ⊢ <;> first
        | (cases hu; done)
        | (cases hb : aeq P t (ρ x) (ρ y) g with
           | none => rw [hb] at hu; cases hu
           | some b => rw [hb] at hu; rw [e b hb]; exact hu)
    split at hl
    · exact hl
    · exact eE _ hl

theorem readNames_plain {ρ : Operand → Value} {o : Oper} {v : Value} (h : purerule P ρ o = some v) : readNames ρ o = [] := by
  unfold purerule at h
  cases hb : !isSelect o.op && o.op.operands.toList.all (fun x => plain (ρ x)) with
  | false => rw [hb] at h; cases h
  | true =>
    simp only [Bool.and_eq_true] at hb
    have hp : ∀ x ∈ o.op.operands, plain (ρ x) = true := fun x hx => List.all_eq_true.1 hb.2 x (by simpa using hx)
    obtain ⟨dst, op, type, pos, after, guard⟩ := o
    cases op <;> simp only [readNames, Op.operands] at hp ⊢
    case load t a =>
      have h1 := hp a (by simp)
      cases ha : ρ a with
      | pointer p => cases p with
        | none => rfl
        | some p => rw [ha] at h1; simp [plain, plainN] at h1
      | _ => rfl
    case binOp op t x y yt =>
      have h1 := hp x (by simp)
      cases ha : ρ x with
      | pointer p => cases p with
        | none => rfl
        | some p => rw [ha] at h1; simp [plain, plainN] at h1
      | _ => rfl

/-- What a light operation answered it answers wherever the objects are that it looked into. -/
theorem light_mono {ρ : Operand → Value} {o : Oper} {v : Value} {g g' : Nat → Option AObj} (h : ∀ n ∈ readNames ρ o, ∀ x, g n = some x → g' n = some x) (hl : light P ρ o g = some v) : light P ρ o g' = some v := by
  cases hS : lightS P ρ o g with
  | some u =>
    unfold light at hl ⊢
    rw [hS] at hl
    rw [lightS_mono h hS]
    exact hl
  | none =>
    have hp : purerule P ρ o = some v := by unfold light at hl; rw [hS] at hl; exact hl
    have hr := readNames_plain hp
    rw [← light_congr (g := g) (g' := g') (fun n hn => by rw [hr] at hn; cases hn)]
    exact hl

/-! ### 2. Less is known of names -/
theorem VRep.both {D2 : Nat → Prop} {σ2 : Sig} {v u u2 : Value} (h : VRep D σ v u) (h2 : VRep D2 σ2 v u2) : VRep D2 σ v u := by
  induction h generalizing u2 with
  | unk v => exact .unk v
  | bool b => exact .bool b
  | int k n => exact .int k n
  | float k b => exact .float k b
  | fnan h => exact .fnan h
  | complex k a b => exact .complex k a b
  | string s => exact .string s
  | nilFunc => exact .nilFunc
  | nilIface => exact .nilIface
  | mapNil => exact .mapNil
  | ptrNil => exact .ptrNil
  | ptr h => cases h2 with | ptr h2 => exact .ptr h2
  | sliceNil => exact .sliceNil
  | slice h hl ha => cases h2 with | slice h2 => exact .slice h2 hl ha
  | sliceU h hl ha hc => cases h2 with | sliceU h2 => exact .sliceU h2 hl ha hc
  | func f ha hb _ _ ih1 ih2 => cases h2 with | func _ ha' hb' q1 q2 => exact .func f ha hb (fun i hi => ih1 i hi (q1 i hi)) (fun i hi => ih2 i hi (q2 i hi))
  | iface t _ ih => cases h2 with | iface _ h2 => exact .iface t (ih h2)
  | agg ha _ ih => cases h2 with | agg _ q => exact .agg ha (fun i hi => ih i hi (q i hi))
  | tuple ha _ ih => cases h2 with | tuple _ q => exact .tuple ha (fun i hi => ih i hi (q i hi))

theorem LRep.both {D2 : Nat → Prop} {σ2 : Sig} {a b c : List Value} (h : LRep D σ a b) (h2 : LRep D2 σ2 a c) : LRep D2 σ a b :=
  ⟨h.len, fun i hi => (h.at_ i hi).both (h2.at_ i hi)⟩

theorem Rep.both {D2 : Nat → Prop} {σ2 : Sig} {w2 : World} {base2 : Nat} (h : Rep base D σ g w) (h2 : Rep base2 D2 σ2 g w2) : Rep base D2 σ g w where
  obj n c e s gr ro hg := by
    obtain ⟨_, C, t, fr, r⟩ := h.object hg
    obtain ⟨hD, C2, t2, fr2, r2⟩ := h2.object hg
    exact ⟨hD, C, t, fr, ⟨r.heap, r.fit, r.rel.both r2.rel, r.mine, r.grow⟩⟩
  own := h.own
  old := h.old
  inj := h.inj
  size := h.size

/-! ### 3. The rest of the memory -/
theorem Moves.framed {h h' : Heap} (hr : Rep base D σ g w) (hsub : ∀ n o, h.get n = some o → g n = some o) (hle : h.next ≤ h'.next) (hD0 : ∀ n, n < h.next → D n) (hDx : ∀ n, D n → n < h.next ∨ h'.next ≤ n)
    (hm : Moves base (· < h.next) σ h.get w (· < h'.next) σ' h'.get w') :
    Moves base D σ g w (fun n => n < h'.next ∨ D n) (fun n => if n < h'.next then σ' n else σ n) (fun n => if n < h'.next then h'.get n else g n) w' := by
  have hext : ∀ n, D n → (if n < h'.next then σ' n else σ n) = σ n := fun n hn => by
    rcases hDx n hn with h1 | h1
    · rw [if_pos (by omega)]; exact hm.ext n h1
    · rw [if_neg (by omega)]
  have hown0 : ∀ b, Owned h.get σ b → Owned g σ b := fun b ⟨n, ⟨c, e, s, gr, hn⟩, hb⟩ => ⟨n, ⟨c, e, s, gr, hsub _ _ hn⟩, hb⟩
  have kG : ∀ n, NonRo (fun n => if n < h'.next then h'.get n else g n) n → (n < h'.next ∧ NonRo h'.get n) ∨ (h'.next ≤ n ∧ NonRo g n) := by
    rintro n ⟨c, e, s, gr, hn⟩
    dsimp only at hn
    by_cases h1 : n < h'.next
    · rw [if_pos h1] at hn; exact .inl ⟨h1, c, e, s, gr, hn⟩
    · rw [if_neg h1] at hn; exact .inr ⟨by omega, c, e, s, gr, hn⟩
  -- a block of the rest isn't one of the part's
  have hrest : ∀ n, h'.next ≤ n → (∃ c e s gr ro, g n = some (.cells c e s gr ro)) → ¬ Owned h.get σ (σ n).blk := by
    rintro n hn ⟨c, e, s, gr, ro, hg⟩ ⟨m, ⟨c', e', s', gr', hm'⟩, hb⟩
    have hlt := Heap.get_lt hm'
    have hgm := hsub _ _ hm'
    cases ro with
    | false => exact hr.inj m n ⟨_, _, _, _, hgm⟩ ⟨_, _, _, _, hg⟩ (by omega) hb
    | true => have h1 := hr.own m ⟨_, _, _, _, hgm⟩; have h2 := hr.old n ⟨_, _, _, _, hg⟩; omega
  have hsz : ∀ n c e s gr ro, g n = some (.cells c e s gr ro) → (σ n).blk < w.heap.size := fun n c e s gr ro hg => by
    obtain ⟨_, C, t, fr, r⟩ := hr.object hg
    exact (Array.getElem?_eq_some_iff.1 r.heap).1
  refine ⟨fun n hn => .inr hn, hext, ⟨?_, ?_, ?_, ?_, Nat.le_trans hr.size hm.size⟩, hm.os, hm.tape, hm.output, hm.size, fun b hb hn => hm.frame b hb (fun ho => hn (hown0 b ho)), ?_⟩
  · intro n c e s gr ro hn
    by_cases h1 : n < h'.next
    · rw [if_pos h1] at hn
      obtain ⟨_, C, t, fr, r⟩ := hm.rep.object hn
      have es : (if n < h'.next then σ' n else σ n) = σ' n := if_pos h1
      refine ⟨.inl h1, C, t, fr, ⟨by rw [es]; exact r.heap, by rw [es]; exact r.fit, ?_, r.mine, by rw [es]; exact r.grow⟩⟩
      rw [es]
      exact r.rel.mono (fun m hm => .inl hm) (fun m hm => if_pos hm)
    · rw [if_neg h1] at hn
      obtain ⟨hD, C, t, fr, r⟩ := hr.object hn
      have es : (if n < h'.next then σ' n else σ n) = σ n := if_neg h1
      have hkeep := hm.frame _ (hsz _ _ _ _ _ _ hn) (hrest n (by omega) ⟨_, _, _, _, _, hn⟩)
      refine ⟨.inr hD, C, t, fr, ⟨by rw [es, hkeep]; exact r.heap, by rw [es]; exact r.fit, ?_, r.mine, by rw [es]; exact r.grow⟩⟩
      rw [es]
      exact r.rel.mono (fun m hm => .inr hm) hext
  · intro n hn
    rcases kG n hn with ⟨h1, h2⟩ | ⟨h1, h2⟩
    · simp only [if_pos h1]; exact hm.rep.own n h2
    · simp only [if_neg (show ¬ n < h'.next by omega)]; exact hr.own n h2
  · rintro n ⟨c, e, s, gr, hn⟩
    dsimp only at hn
    by_cases h1 : n < h'.next
    · rw [if_pos h1] at hn; simp only [if_pos h1]; exact hm.rep.old n ⟨_, _, _, _, hn⟩
    · rw [if_neg h1] at hn; simp only [if_neg h1]; exact hr.old n ⟨_, _, _, _, hn⟩
  · intro n m hn hm' hne
    have cross : ∀ n m, n < h'.next → NonRo h'.get n → h'.next ≤ m → NonRo g m → (σ' n).blk ≠ (σ m).blk := by
      rintro n m h1 h2 h3 ⟨c, e, s, gr, h4⟩ hb
      rcases hm.own (σ' n).blk ⟨n, h2, rfl⟩ with h5 | h5
      · rw [hb] at h5; exact hrest m h3 ⟨_, _, _, _, _, h4⟩ h5
      · have := hsz _ _ _ _ _ _ h4; omega
    rcases kG n hn with ⟨h1, h2⟩ | ⟨h1, h2⟩ <;> rcases kG m hm' with ⟨h3, h4⟩ | ⟨h3, h4⟩
    · simp only [if_pos h1, if_pos h3]; exact hm.rep.inj n m h2 h4 hne
    · simp only [if_pos h1, if_neg (show ¬ m < h'.next by omega)]; exact cross n m h1 h2 h3 h4
    · simp only [if_neg (show ¬ n < h'.next by omega), if_pos h3]; exact Ne.symm (cross m n h3 h4 h1 h2)
    · simp only [if_neg (show ¬ n < h'.next by omega), if_neg (show ¬ m < h'.next by omega)]; exact hr.inj n m h2 h4 hne
  · rintro b ⟨n, hn, hb⟩
    rcases kG n hn with ⟨h1, h2⟩ | ⟨h1, h2⟩
    · simp only [if_pos h1] at hb
      rcases hm.own b ⟨n, h2, hb⟩ with h3 | h3
      · exact .inl (hown0 b h3)
      · exact .inr h3
    · simp only [if_neg (show ¬ n < h'.next by omega)] at hb
      exact .inl ⟨n, h2, hb⟩

/-! ### 4. There is a run -/
theorem wp_false {o : Oper} {a : Act} {X : Prop} (h : o.wp P a w (fun _ _ => X) (fun _ _ _ => False)) : X := by
  unfold Oper.wp at h
  generalize (execOp a.eval o).run P w = r at h
  cases r with
  | ok n w' =>
    cases n <;> simp only [Oper.upon] at h
    case value v => exact h
    case skip => exact h
    case defer d => exact h
    case enter f args =>
      obtain ⟨e, w'', fr, hR, _⟩ := h []
      cases e with
      | returned v => exact hR
      | panicked c => exact hR.elim
      | outgrown => obtain ⟨_, _, hf⟩ := hR; exact hf.elim
    case row row args =>
      obtain ⟨v, w'', hR, _⟩ := h default []
      exact hR
  | halt x w' => cases x <;> simp only [Oper.upon] at h

theorem OpOK.exists {h h' : Heap} {a : Act} {o : Oper} {v : Value} (hk : OpOK P base σ h w a o v h') :
    ∃ v' w' σ', VRep (· < h'.next) σ' v v' ∧ Moves base (· < h.next) σ h.get w (· < h'.next) σ' h'.get w' :=
  wp_false (hk (fun _ _ => ∃ v' w' σ', VRep (· < h'.next) σ' v v' ∧ Moves base (· < h.next) σ h.get w (· < h'.next) σ' h'.get w') (fun _ _ _ => False) fun v' w' σ' h1 h2 => ⟨v', w', σ', h1, h2⟩)

end
end Go.Proofs.YthhhmmildgijhaaGreatDoorSI
set_option linter.unusedVariables false
set_option linter.unusedSimpArgs false
namespace Go.Proofs.YthhhmmildgijhaaGreatDoorSI
open Go

/-! ### 1. Frames -/
section
variable {P : Program} {base : Nat} {D : Nat → Prop} {σ : Sig} {w : World}

theorem eval_rep {t : Tm} {a : Act} (h : LRep D σ t a.tmps.toList) (x : Operand) : VRep D σ (aeval t x) (a.eval x) := by
  cases x with
  | tmp i => simp only [aeval, Act.eval]; rw [arr_getD]; exact h.getD i
  | const v =>
    simp only [aeval, Act.eval]
    cases hp : plain v with
    | true => exact VRep.plain_refl 8 hp
    | false => exact .unk _
  | global g => exact .unk _
  | func f => exact .mkFunc .nil .nil

theorem put_rep {t : Tm} {a : Act} (h : LRep D σ t a.tmps.toList) (d : Option Tmp) {v v' : Value} (hv : VRep D σ v v') : LRep D σ (tput t d v) (a.put d v').tmps.toList := by
  cases d with
  | none => exact h
  | some d => simp only [tput, Act.put, Array.toList_setIfInBounds]; exact h.set d hv

theorem put_defers' (a : Act) (d : Option Tmp) (v : Value) : (a.put d v).defers = a.defers := by cases d <;> rfl

theorem wanted_rep {t : Tm} {a : Act} {ops : Array Oper} {o : Oper} {b : Bool} (h : LRep D σ t a.tmps.toList) (hw : awanted ops o t = some b) : Region.wanted o (yielded ops a.tmps) = b := by
  unfold awanted at hw
  unfold Region.wanted
  cases hg : o.guard with
  | none => rw [hg] at hw; simpa using hw
  | some jw =>
    obtain ⟨j, want⟩ := jw
    rw [hg] at hw
    simp only at hw ⊢
    unfold yielded
    cases hd : (ops[j]?).bind (·.dst) with
    | none => rw [hd] at hw; simp at hw
    | some d =>
      rw [hd] at hw
      simp only [Option.bind_some] at hw ⊢
      cases ht : t[d]? with
      | none => rw [ht] at hw; simp at hw
      | some v =>
        rw [ht] at hw
        obtain ⟨v', hv', hr⟩ := h.get? ht
        rw [Array.getElem?_toList] at hv'
        rw [hv']
        cases v <;> simp at hw
        · obtain rfl := hr.inv_bool
          simp only
          rw [← hw]
          rename_i bb
          cases bb <;> cases want <;> rfl
        · obtain ⟨_, rfl, _⟩ := hr.inv_tuple
          subst hw
          rfl

theorem aops_sound {rec : Rec} (hrec : RecOK P base rec) {ops : Array Oper} : ∀ (is : List Nat) (t : Tm) (h : Heap) (t' : Tm) (h' : Heap), aops P rec ops is t h = some (t', h') →
    ∀ (a : Act) (w : World) (σ : Sig) (Q : Exit → Act → World → Prop), LRep (· < h.next) σ t a.tmps.toList → Rep base (· < h.next) σ h.get w →
      (∀ a' w' σ', LRep (· < h'.next) σ' t' a'.tmps.toList → a'.defers = a.defers → Moves base (· < h.next) σ h.get w (· < h'.next) σ' h'.get w' → Q .normal a' w') → wpOps P ops Q is a w := by
  intro is
  induction is with
  | nil =>
    intro t h t' h' ha a w σ Q hT hr hQ
    simp only [aops, Option.some.injEq, Prod.mk.injEq] at ha
    obtain ⟨rfl, rfl⟩ := ha
    exact hQ a w σ hT rfl (.refl hr)
  | cons i is ih =>
    intro t h t' h' ha a w σ Q hT hr hQ
    simp only [aops] at ha
    unfold wpOps
    cases ho : ops[i]? with
    | none => rw [ho] at ha; cases ha
    | some o =>
      rw [ho] at ha
      simp only at ha ⊢
      cases hw : awanted ops o t with
      | none => rw [hw] at ha; cases ha
      | some b =>
        rw [hw] at ha
        rw [wanted_rep hT hw]
        cases b with
        | false =>
          simp only [Bool.false_eq_true, if_false] at ha ⊢
          refine ih _ _ _ _ ha _ w σ Q (put_rep hT _ undef_rep) hr (fun a' w' σ' h1 h2 h3 => hQ a' w' σ' h1 (h2.trans (put_defers' _ _ _)) h3)
        | true =>
          simp only [if_true] at ha ⊢
          cases hop : aop P rec (aeval t) o h with
          | none => rw [hop] at ha; cases ha
          | some x =>
            obtain ⟨v, h1⟩ := x
            rw [hop] at ha
            refine .inl (aop_sound hrec (eval_rep hT) hr hop _ _ fun v' w' σ' hv hm => ?_)
            have hT' := hT.mono hm.mono hm.ext
            exact ih _ _ _ _ ha _ w' σ' Q (put_rep hT' _ hv) hm.rep (fun a'' w'' σ'' h1 h2 h3 => hQ a'' w'' σ'' h1 (h2.trans (put_defers' _ _ _)) (hm.trans h3))
end

/-! ### 2. What our order did -/
inductive EK where
  | off
  | light
  | alloc (x : AObj)
  | heavy

structure Ev where
  i : Nat
  o : Oper
  t : Tm
  h : Heap
  v : Value
  h' : Heap
  k : EK

section
variable (P : Program) (rec : Rec) (ops : Array Oper) (anc : List (List Nat))

def EvK (past : List Ev) (e : Ev) : Prop :=
  match e.k with
  | .off => awanted ops e.o e.t = some false ∧ e.v = undef ∧ e.h' = e.h
  | .light => awanted ops e.o e.t = some true ∧ cls P e.o = .light ∧ light P (aeval e.t) e.o e.h.get = some e.v ∧ e.h' = e.h
  | .alloc x => awanted ops e.o e.t = some true ∧ cls P e.o = .alloc ∧ ∃ mk, aalloc P (aeval e.t) e.o = some (x, mk) ∧ e.v = mk e.h.next ∧ e.h' = e.h.new x
  | .heavy => awanted ops e.o e.t = some true ∧ cls P e.o = .heavy ∧ heavy P rec (aeval e.t) e.o e.h = some (e.v, e.h') ∧
      ∀ r ∈ past, r.k = .light → isAnc anc r.i e.i = true ∨ ∀ n ∈ readNames (aeval r.t) r.o, ∀ x, e.h.get n = some x → e.h'.get n = some x

structure EvOK (past : List Ev) (t : Tm) (h : Heap) (e : Ev) : Prop where
  op : ops[e.i]? = some e.o
  tm : e.t = t
  hp : e.h = h
  le : e.h.next ≤ e.h'.next
  kind : EvK P rec ops anc past e

def Chain : List Ev → Tm → Heap → List Ev → Tm → Heap → Prop
  | _, t, h, [], t', h' => t' = t ∧ h' = h
  | past, t, h, e :: es, t', h' => EvOK P rec ops anc past t h e ∧ Chain (e :: past) (tput t e.o.dst e.v) e.h' es t' h'
end

section
variable {P : Program} {rec : Rec} {ops : Array Oper} {anc : List (List Nat)}

theorem adraw_chain : ∀ (ord : List Nat) (reads : List (Nat × List Nat)) (past : List Ev) (t : Tm) (h : Heap) (t' : Tm) (h' : Heap),
    (∀ r ∈ past, r.k = .light → (r.i, readNames (aeval r.t) r.o) ∈ reads) → adraw P rec ops anc ord reads t h = some (t', h') →
    ∃ evs, evs.map (·.i) = ord ∧ Chain P rec ops anc past t h evs t' h' := by
  intro ord
  induction ord with
  | nil =>
    intro reads past t h t' h' hp ha
    simp only [adraw, Option.some.injEq, Prod.mk.injEq] at ha
    exact ⟨[], rfl, ha.1.symm, ha.2.symm⟩
  | cons i is ih =>
    intro reads past t h t' h' hp ha
    simp only [adraw] at ha
    cases ho : ops[i]? with
    | none => rw [ho] at ha; cases ha
    | some o =>
      rw [ho] at ha
      simp only at ha
      cases hw : awanted ops o t with
      | none => rw [hw] at ha; cases ha
      | some b =>
        rw [hw] at ha
        cases b with
        | false =>
          simp only at ha
          obtain ⟨evs, he, hc⟩ := ih reads (⟨i, o, t, h, undef, h, .off⟩ :: past) _ _ _ _ (fun r hr hk => by
            rcases List.mem_cons.1 hr with rfl | hr
            · cases hk
            · exact hp r hr hk) ha
          exact ⟨⟨i, o, t, h, undef, h, .off⟩ :: evs, by simp [he], ⟨ho, rfl, rfl, Nat.le_refl _, hw, rfl, rfl⟩, hc⟩
        | true =>
          simp only at ha
          cases hcl : cls P o with
          | light =>
            rw [hcl] at ha
            simp only at ha
            cases hl : light P (aeval t) o h.get with
            | none => rw [hl] at ha; cases ha
            | some v =>
              rw [hl] at ha
              obtain ⟨evs, he, hc⟩ := ih _ (⟨i, o, t, h, v, h, .light⟩ :: past) _ _ _ _ (fun r hr hk => by
                rcases List.mem_cons.1 hr with rfl | hr
                · exact List.mem_cons_self ..
                · exact List.mem_cons_of_mem _ (hp r hr hk)) ha
              exact ⟨⟨i, o, t, h, v, h, .light⟩ :: evs, by simp [he], ⟨ho, rfl, rfl, Nat.le_refl _, hw, hcl, hl, rfl⟩, hc⟩
          | alloc =>
            rw [hcl] at ha
            simp only at ha
            cases hl : aalloc P (aeval t) o with
            | none => rw [hl] at ha; cases ha
            | some x =>
              rw [hl] at ha
              obtain ⟨evs, he, hc⟩ := ih reads (⟨i, o, t, h, x.2 h.next, h.new x.1, .alloc x.1⟩ :: past) _ _ _ _ (fun r hr hk => by
                rcases List.mem_cons.1 hr with rfl | hr
                · cases hk
                · exact hp r hr hk) ha
              exact ⟨⟨i, o, t, h, x.2 h.next, h.new x.1, .alloc x.1⟩ :: evs, by simp [he], ⟨ho, rfl, rfl, Nat.le_succ _, hw, hcl, x.2, hl, rfl, rfl⟩, hc⟩
          | heavy =>
            rw [hcl] at ha
            simp only at ha
            cases hl : heavy P rec (aeval t) o h with
            | none => rw [hl] at ha; cases ha
            | some x =>
              obtain ⟨v, h1⟩ := x
              rw [hl] at ha
              simp only at ha
              cases hb : readsOk anc i reads h h1 && Nat.ble h.next h1.next with
              | false => rw [hb] at ha; cases ha
              | true =>
                rw [hb] at ha
                simp only [cond_true] at ha
                simp only [Bool.and_eq_true] at hb
                obtain ⟨evs, he, hc⟩ := ih reads (⟨i, o, t, h, v, h1, .heavy⟩ :: past) _ _ _ _ (fun r hr hk => by
                  rcases List.mem_cons.1 hr with rfl | hr
                  · cases hk
                  · exact hp r hr hk) ha
                refine ⟨⟨i, o, t, h, v, h1, .heavy⟩ :: evs, by simp [he], ⟨ho, rfl, rfl, ble_le hb.2, hw, hcl, hl, fun r hr hk => ?_⟩, hc⟩
                have h2 := List.all_eq_true.1 hb.1 _ (hp r hr hk)
                simp only [Bool.or_eq_true] at h2
                refine h2.imp id fun h3 n hn x hx => ?_
                have h4 := objEq_eq (List.all_eq_true.1 h3 n hn)
                simp only at hx ⊢
                rw [← h4]; exact hx

theorem Chain.split {pre post : List Ev} {e : Ev} : ∀ {past : List Ev} {t : Tm} {h : Heap} {t' : Tm} {h' : Heap}, Chain P rec ops anc past t h (pre ++ e :: post) t' h' →
    Chain P rec ops anc past t h pre e.t e.h ∧ EvOK P rec ops anc (pre.reverse ++ past) e.t e.h e ∧ Chain P rec ops anc (e :: (pre.reverse ++ past)) (tput e.t e.o.dst e.v) e.h' post t' h' := by
  induction pre with
  | nil =>
    intro past t h t' h' hc
    obtain ⟨h1, h2⟩ := hc
    have e1 := h1.tm
    have e2 := h1.hp
    subst e1; subst e2
    exact ⟨⟨rfl, rfl⟩, h1, h2⟩
  | cons x pre ih =>
    intro past t h t' h' hc
    obtain ⟨h1, h2⟩ := hc
    obtain ⟨k1, k2, k3⟩ := ih h2
    have e1 : (x :: pre).reverse ++ past = pre.reverse ++ (x :: past) := by simp
    rw [e1]
    exact ⟨⟨h1, k1⟩, k2, k3⟩

theorem Chain.le {evs : List Ev} : ∀ {past : List Ev} {t : Tm} {h : Heap} {t' : Tm} {h' : Heap}, Chain P rec ops anc past t h evs t' h' → h.next ≤ h'.next ∧ ∀ e ∈ evs, h.next ≤ e.h.next ∧ e.h.next ≤ e.h'.next ∧ e.h'.next ≤ h'.next := by
  induction evs with
  | nil => intro past t h t' h' hc; obtain ⟨_, rfl⟩ := hc; exact ⟨Nat.le_refl _, fun e he => by cases he⟩
  | cons x evs ih =>
    intro past t h t' h' hc
    obtain ⟨h1, h2⟩ := hc
    obtain ⟨k1, k2⟩ := ih h2
    have e2 := h1.hp
    have e3 := h1.le
    subst e2
    refine ⟨by omega, fun e he => ?_⟩
    rcases List.mem_cons.1 he with rfl | he
    · exact ⟨Nat.le_refl _, e3, k1⟩
    · have := k2 e he; omega

/-! ### 3. A part of what our order did -/
def stepG (e : Ev) (g : Nat → Option AObj) : Nat → Option AObj :=
  match e.k with
  | .off | .light => g
  | .alloc x => fun m => if m = e.h.next then some x else g m
  | .heavy => fun m => if m < e.h'.next then e.h'.get m else g m
def stepD (e : Ev) (D : Nat → Prop) : Nat → Prop :=
  match e.k with
  | .off | .light => D
  | .alloc _ => fun m => D m ∨ m = e.h.next
  | .heavy => fun m => m < e.h'.next ∨ D m
def foldT (S : Nat → Bool) : List Ev → Tm → Tm
  | [], t => t
  | e :: es, t => foldT S es (if S e.i then tput t e.o.dst e.v else t)
def foldG (S : Nat → Bool) : List Ev → (Nat → Option AObj) → (Nat → Option AObj)
  | [], g => g
  | e :: es, g => foldG S es (if S e.i then stepG e g else g)
def foldD (S : Nat → Bool) : List Ev → (Nat → Prop) → (Nat → Prop)
  | [], D => D
  | e :: es, D => foldD S es (if S e.i then stepD e D else D)

theorem foldT_append (S : Nat → Bool) (a b : List Ev) (t : Tm) : foldT S (a ++ b) t = foldT S b (foldT S a t) := by
  induction a generalizing t with
  | nil => rfl
  | cons x a ih => simp only [List.cons_append, foldT, ih]
theorem foldG_append (S : Nat → Bool) (a b : List Ev) (g : Nat → Option AObj) : foldG S (a ++ b) g = foldG S b (foldG S a g) := by
  induction a generalizing g with
  | nil => rfl
  | cons x a ih => simp only [List.cons_append, foldG, ih]
theorem foldD_append (S : Nat → Bool) (a b : List Ev) (D : Nat → Prop) : foldD S (a ++ b) D = foldD S b (foldD S a D) := by
  induction a generalizing D with
  | nil => rfl
  | cons x a ih => simp only [List.cons_append, foldD, ih]

theorem fold_congr {S S' : Nat → Bool} {evs : List Ev} (h : ∀ e ∈ evs, S e.i = S' e.i) : foldT S evs = foldT S' evs ∧ foldG S evs = foldG S' evs ∧ foldD S evs = foldD S' evs := by
  induction evs with
  | nil => exact ⟨rfl, rfl, rfl⟩
  | cons x evs ih =>
    obtain ⟨h1, h2, h3⟩ := ih fun e he => h e (List.mem_cons_of_mem _ he)
    have hx := h x (List.mem_cons_self ..)
    refine ⟨?_, ?_, ?_⟩
    · funext t; simp only [foldT, hx, h1]
    · funext g; simp only [foldG, hx, h2]
    · funext D; simp only [foldD, hx, h3]

def EK.turns : EK → Bool
  | .off | .light => false
  | _ => true

/-- Where all that turns the heap is in, the heap is ours. -/
theorem foldG_whole {S : Nat → Bool} {evs : List Ev} : ∀ {past : List Ev} {t : Tm} {h : Heap} {t' : Tm} {h' : Heap}, Chain P rec ops anc past t h evs t' h' → (∀ e ∈ evs, e.k.turns = true → S e.i = true) →
    foldG S evs h.get = h'.get ∧ ∀ n, foldD S evs (· < h.next) n ↔ n < h'.next := by
  have congD : ∀ (S : Nat → Bool) (evs : List Ev) (D D' : Nat → Prop), (∀ n, D n ↔ D' n) → ∀ n, foldD S evs D n ↔ foldD S evs D' n := by
    intro S evs D D' h
    have : D = D' := funext fun n => propext (h n)
    rw [this]; exact fun _ => Iff.rfl
  induction evs with
  | nil => intro past t h t' h' hc _; obtain ⟨_, rfl⟩ := hc; exact ⟨rfl, fun n => Iff.rfl⟩
  | cons x evs ih =>
    intro past t h t' h' hc hS
    obtain ⟨h1, h2⟩ := hc
    obtain ⟨k1, k2⟩ := ih h2 fun e he => hS e (List.mem_cons_of_mem _ he)
    have ehp := h1.hp
    have hle := h1.le
    have kind := h1.kind
    subst ehp
    have hx := hS x (List.mem_cons_self ..)
    simp only [foldG, foldD]
    unfold EvK at kind
    have key : (if S x.i = true then stepG x x.h.get else x.h.get) = x.h'.get ∧ ∀ n, (if S x.i = true then stepD x (· < x.h.next) else (· < x.h.next)) n ↔ n < x.h'.next := by
      cases hk : x.k with
      | off =>
        rw [hk] at kind
        simp only [stepG, stepD, hk, kind.2.2, ite_self]
        exact ⟨trivial, fun n => by first | exact Iff.rfl | trivial⟩
      | light =>
        rw [hk] at kind
        simp only [stepG, stepD, hk, kind.2.2.2, ite_self]
        exact ⟨trivial, fun n => by first | exact Iff.rfl | trivial⟩
      | alloc y =>
        rw [hk] at kind hx
        obtain ⟨_, _, mk, _, _, e⟩ := kind
        rw [if_pos (hx rfl), if_pos (hx rfl), e]
        simp only [stepG, stepD, hk]
        refine ⟨?_, fun n => ?_⟩
        · funext m; rw [Heap.get_new]
        · rw [Heap.next_new]; omega
      | heavy =>
        rw [hk] at hx
        rw [if_pos (hx rfl), if_pos (hx rfl)]
        simp only [stepG, stepD, hk]
        refine ⟨?_, fun n => by omega⟩
        funext m
        by_cases hm : m < x.h'.next
        · rw [if_pos hm]
        · rw [if_neg hm, Heap.get_of_ge (by omega), Heap.get_of_ge (by omega)]
    rw [key.1]
    refine ⟨k1, fun n => ?_⟩
    rw [congD S evs _ (· < x.h'.next) key.2 n]
    exact k2 n

/-- Behind: only new blocks: they commute with what stands ahead. -/
theorem foldG_behind {S : Nat → Bool} {e : Ev} {post : List Ev} (hno : ∀ z ∈ post, S z.i = true → z.k ≠ .heavy) (hge : ∀ z ∈ post, e.h'.next ≤ z.h.next) (hlt : e.k.turns = true → e.h.next < e.h'.next ∨ e.k = .heavy) :
    (∀ g, foldG S post (stepG e g) = stepG e (foldG S post g)) ∧ (∀ D n, foldD S post (stepD e D) n ↔ stepD e (foldD S post D) n) := by
  have congD : ∀ (S : Nat → Bool) (evs : List Ev) (D D' : Nat → Prop), (∀ n, D n ↔ D' n) → ∀ n, foldD S evs D n ↔ foldD S evs D' n := by
    intro S evs D D' h
    have : D = D' := funext fun n => propext (h n)
    rw [this]; exact fun _ => Iff.rfl
  induction post with
  | nil => exact ⟨fun g => rfl, fun D n => Iff.rfl⟩
  | cons z post ih =>
    obtain ⟨h1, h2⟩ := ih (fun z hz => hno z (List.mem_cons_of_mem _ hz)) (fun z hz => hge z (List.mem_cons_of_mem _ hz))
    have hz1 := hno z (List.mem_cons_self ..)
    have hz2 := hge z (List.mem_cons_self ..)
    simp only [foldG, foldD]
    cases hS : S z.i with
    | false => simp only [Bool.false_eq_true, if_false]; exact ⟨h1, h2⟩
    | true =>
      simp only [if_true]
      have hzk := hz1 hS
      have comm : (∀ g, stepG z (stepG e g) = stepG e (stepG z g)) ∧ (∀ D n, stepD z (stepD e D) n ↔ stepD e (stepD z D) n) := by
        cases hk : z.k with
        | off => simp only [stepG, stepD, hk]; exact ⟨fun _ => trivial, fun _ _ => by first | exact Iff.rfl | trivial⟩
        | light => simp only [stepG, stepD, hk]; exact ⟨fun _ => trivial, fun _ _ => by first | exact Iff.rfl | trivial⟩
        | heavy => exact absurd hk hzk
        | alloc y =>
          cases hke : e.k with
          | off => simp only [stepG, stepD, hk, hke]; exact ⟨fun _ => trivial, fun _ _ => by first | exact Iff.rfl | trivial⟩
          | light => simp only [stepG, stepD, hk, hke]; exact ⟨fun _ => trivial, fun _ _ => by first | exact Iff.rfl | trivial⟩
          | alloc q =>
            have hl : e.h.next < e.h'.next := by
              rcases hlt (by rw [hke]; rfl) with h | h
              · exact h
              · rw [hke] at h; cases h
            simp only [stepG, stepD, hk, hke]
            refine ⟨fun g => ?_, fun D n => by
              constructor
              · rintro ((h | h) | h)
                · exact .inl (.inl h)
                · exact .inr h
                · exact .inl (.inr h)
              · rintro ((h | h) | h)
                · exact .inl (.inl h)
                · exact .inr h
                · exact .inl (.inr h)⟩
            funext m
            by_cases h3 : m = z.h.next
            · rw [if_pos h3, if_neg (by omega), if_pos h3]
            · rw [if_neg h3, if_neg h3]
          | heavy =>
            simp only [stepG, stepD, hk, hke]
            refine ⟨fun g => ?_, fun D n => or_assoc⟩
            funext m
            by_cases h3 : m = z.h.next
            · rw [if_pos h3, if_neg (by omega), if_pos h3]
            · rw [if_neg h3, if_neg h3]
      refine ⟨fun g => by rw [comm.1, h1], fun D n => ?_⟩
      rw [congD S post _ _ (comm.2 D) n]
      exact h2 _ n

/-- What a light operation looked into stays. -/
theorem foldG_reads {S : Nat → Bool} {n : Nat} {x : AObj} {post : List Ev} : ∀ {past : List Ev} {t : Tm} {h : Heap} {t' : Tm} {h' : Heap} {g : Nat → Option AObj}, Chain P rec ops anc past t h post t' h' → n < h.next → g n = some x →
    (h.get n = some x ∨ ∀ z ∈ post, S z.i = true → z.k ≠ .heavy) →
    (∀ z ∈ post, S z.i = true → z.k = .heavy → z.h.get n = some x → z.h'.get n = some x) →
    List.Pairwise (fun a b => a.k = .heavy → b.k = .heavy → S b.i = true → S a.i = true) post →
    foldG S post g n = some x := by
  induction post with
  | nil => intro past t h t' h' g _ _ hg _ _ _; exact hg
  | cons z post ih =>
    intro past t h t' h' g hc hn hg hor hkeep hpw
    obtain ⟨h1, h2⟩ := hc
    have ehp := h1.hp
    have hle := h1.le
    have kind := h1.kind
    subst ehp
    obtain ⟨p1, p2⟩ := List.pairwise_cons.1 hpw
    simp only [foldG]
    unfold EvK at kind
    have hgz : (if S z.i = true then stepG z g else g) n = some x := by
      cases hS : S z.i with
      | false => simpa using hg
      | true =>
        simp only [if_true]
        cases hk : z.k with
        | off => simp only [stepG, hk]; exact hg
        | light => simp only [stepG, hk]; exact hg
        | alloc y => simp only [stepG, hk]; rw [if_neg (by omega)]; exact hg
        | heavy =>
          simp only [stepG, hk]
          rw [if_pos (by omega)]
          rcases hor with ho | ho
          · exact hkeep z (List.mem_cons_self ..) hS hk ho
          · exact absurd hk (ho z (List.mem_cons_self ..) hS)
    refine ih h2 (by omega) hgz ?_ (fun y hy => hkeep y (List.mem_cons_of_mem _ hy)) p2
    rcases hor with ho | ho
    · cases hk : z.k with
      | off => rw [hk] at kind; rw [kind.2.2]; exact .inl ho
      | light => rw [hk] at kind; rw [kind.2.2.2]; exact .inl ho
      | alloc y =>
        rw [hk] at kind
        obtain ⟨_, _, mk, _, _, e⟩ := kind
        rw [e, Heap.get_new, if_neg (by omega)]; exact .inl ho
      | heavy =>
        cases hS : S z.i with
        | true => exact .inl (hkeep z (List.mem_cons_self ..) hS hk ho)
        | false =>
          refine .inr fun y hy hSy hky => ?_
          have h5 := p1 y hy hk hky hSy
          rw [hS] at h5
          cases h5
    · exact .inr fun y hy => ho y (List.mem_cons_of_mem _ hy)

/-! the temporaries -/
theorem tput_length (t : Tm) (d : Option Tmp) (v : Value) : (tput t d v).length = t.length := by cases d <;> simp [tput]
theorem tput_ne {t : Tm} {d : Option Tmp} {v : Value} {s : Nat} (h : d ≠ some s) : (tput t d v)[s]? = t[s]? := by
  cases d with
  | none => rfl
  | some d => simp only [tput]; rw [List.getElem?_set_ne (fun e => h (by rw [e]))]
theorem tput_same {t t' : Tm} {d : Option Tmp} {v : Value} {s : Nat} (hl : t.length = t'.length) (h : t[s]? = t'[s]?) : (tput t d v)[s]? = (tput t' d v)[s]? := by
  cases d with
  | none => exact h
  | some d => simp only [tput, List.getElem?_set, hl, h]
theorem tput_comm {t : Tm} {d e : Option Tmp} {u v : Value} (h : ∀ x, d = some x → e ≠ some x) : tput (tput t d u) e v = tput (tput t e v) d u := by
  cases d with
  | none => rfl
  | some d => cases e with
    | none => rfl
    | some e => simp only [tput]; exact List.set_comm _ _ (fun q => h d rfl (by rw [q]))

theorem foldT_slot {S : Nat → Bool} {s : Nat} {evs : List Ev} : ∀ {past : List Ev} {t u : Tm} {h : Heap} {t' : Tm} {h' : Heap}, Chain P rec ops anc past t h evs t' h' → (∀ e ∈ evs, e.o.dst = some s → S e.i = true) → t.length = u.length → t[s]? = u[s]? →
    (foldT S evs u)[s]? = t'[s]? := by
  induction evs with
  | nil => intro past t u h t' h' hc _ _ hs; obtain ⟨rfl, _⟩ := hc; exact hs.symm
  | cons x evs ih =>
    intro past t u h t' h' hc hS hl hs
    obtain ⟨h1, h2⟩ := hc
    simp only [foldT]
    refine ih h2 (fun e he => hS e (List.mem_cons_of_mem _ he)) ?_ ?_
    · rw [tput_length]; split
      · rw [tput_length]; exact hl
      · exact hl
    · by_cases hd : x.o.dst = some s
      · rw [if_pos (hS x (List.mem_cons_self ..) hd)]; exact tput_same hl hs
      · rw [tput_ne hd]
        split
        · rw [tput_ne hd]; exact hs
        · exact hs
theorem foldT_far {S : Nat → Bool} {s : Nat} {evs : List Ev} : ∀ {u : Tm}, (∀ e ∈ evs, e.o.dst ≠ some s) → (foldT S evs u)[s]? = u[s]? := by
  induction evs with
  | nil => intro u _; rfl
  | cons x evs ih =>
    intro u hS
    simp only [foldT]
    rw [ih fun e he => hS e (List.mem_cons_of_mem _ he)]
    split
    · exact tput_ne (hS x (List.mem_cons_self ..))
    · rfl
theorem foldT_comm {S : Nat → Bool} {d : Option Tmp} {v : Value} {evs : List Ev} : ∀ {u : Tm}, (∀ e ∈ evs, ∀ x, d = some x → e.o.dst ≠ some x) → foldT S evs (tput u d v) = tput (foldT S evs u) d v := by
  induction evs with
  | nil => intro u _; rfl
  | cons x evs ih =>
    intro u hS
    simp only [foldT]
    rw [← ih fun e he => hS e (List.mem_cons_of_mem _ he)]
    split
    · rw [tput_comm (hS x (List.mem_cons_self ..))]
    · rfl
theorem foldT_length {S : Nat → Bool} {evs : List Ev} : ∀ {u : Tm}, (foldT S evs u).length = u.length := by
  induction evs with
  | nil => intro u; rfl
  | cons x evs ih => intro u; simp only [foldT, ih]; split <;> simp [tput_length]
theorem foldT_all {evs : List Ev} {S : Nat → Bool} : ∀ {past : List Ev} {t : Tm} {h : Heap} {t' : Tm} {h' : Heap}, Chain P rec ops anc past t h evs t' h' → (∀ e ∈ evs, S e.i = true) → foldT S evs t = t' := by
  induction evs with
  | nil => intro past t h t' h' hc _; obtain ⟨rfl, _⟩ := hc; rfl
  | cons x evs ih =>
    intro past t h t' h' hc hS
    obtain ⟨_, h2⟩ := hc
    simp only [foldT]
    rw [if_pos (hS x (List.mem_cons_self ..))]
    exact ih h2 fun e he => hS e (List.mem_cons_of_mem _ he)
end
end Go.Proofs.YthhhmmildgijhaaGreatDoorSI
