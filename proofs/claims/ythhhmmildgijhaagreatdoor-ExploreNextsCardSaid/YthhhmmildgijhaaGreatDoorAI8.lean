/- What a region that draws its order needs: operations look at their operands alone; a run in a part of the memory leaves the rest. -/
import Derived.Test.YthhhmmildgijhaaGreatDoorAI7
set_option linter.unusedVariables false
set_option linter.unusedSimpArgs false
namespace Go.Proofs.YthhhmmildgijhaaGreatDoorAI
open Go

section
variable {P : Program} {base : Nat} {D D' : Nat → Prop} {σ σ' : Sig} {g : Nat → Option AObj} {w w' : World}

/-! ### 1. Operands alone -/
theorem map_congr {ρ ρ' : Operand → Value} {xs : Array Operand} (h : ∀ x ∈ xs, ρ x = ρ' x) : xs.map ρ = xs.map ρ' := Array.map_congr_left h
theorem opt_congr {ρ ρ' : Operand → Value} {x : Option Operand} (h : ∀ y, x = some y → ρ y = ρ' y) : x.map ρ = x.map ρ' := by
  cases x with
  | none => rfl
  | some x => simp [h x rfl]
theorem pairs_congr {ρ ρ' : Operand → Value} {ps : Array (Nat × Operand)} (h : ∀ x ∈ ps.toList.map (·.2), ρ x = ρ' x) : (ps.map fun (i, x) => (i, ρ x)) = ps.map fun (i, x) => (i, ρ' x) :=
  Array.map_congr_left fun p hm => by
    obtain ⟨i, x⟩ := p
    simp only [h x (List.mem_map.2 ⟨(i, x), by simpa using hm, rfl⟩)]

theorem purerule_congr {ρ ρ' : Operand → Value} {o : Oper} (h : ∀ x ∈ o.op.operands, ρ x = ρ' x) : purerule P ρ o = purerule P ρ' o := by
  unfold purerule
  have e : (o.op.operands.toList.all fun x => plain (ρ x)) = o.op.operands.toList.all fun x => plain (ρ' x) := by
    rw [Bool.eq_iff_iff, List.all_eq_true, List.all_eq_true]
    constructor <;> intro h1 x hx
    · rw [← h x (by simpa using hx)]; exact h1 x hx
    · rw [h x (by simpa using hx)]; exact h1 x hx
  rw [e]
  cases hs : isSelect o.op with
  | true => rfl
  | false => rw [execOp_congr o (fun cs b e => by rw [e] at hs; cases hs) h]

theorem lightS_congr {ρ ρ' : Operand → Value} {o : Oper} (h : ∀ x ∈ o.op.operands, ρ x = ρ' x) : lightS P ρ o g = lightS P ρ' o g := by
  obtain ⟨dst, op, type, pos, after, guard⟩ := o
  cases op <;> simp only [Op.operands] at h <;> simp only [lightS]
  case build t ps => rw [pairs_congr fun x hx => h x (by simpa using hx)]
  case makeFunc fn first captured =>
    rw [map_congr (xs := first) fun x hx => h x (by simp [hx]), map_congr (xs := captured) fun x hx => h x (by simp [hx])]
  case slice t x lo hi mx =>
    have hx : ρ x = ρ' x := h x (by simp)
    rw [hx, opt_congr (x := lo) fun y e => h y (by simp [e]), opt_congr (x := hi) fun y e => h y (by simp [e]), opt_congr (x := mx) fun y e => h y (by simp [e])]
  case call c =>
    obtain ⟨callee, args, argTypes⟩ := c
    cases callee <;> simp only
    case builtin b =>
      cases b <;> simp only
      split
      · rename_i x t ha ht
        have hx : ρ x = ρ' x := h x (by
          have : x ∈ args := by rw [← Array.mem_toList_iff, ha]; simp
          simp [Call.operands, this])
        rw [hx]
      · rfl
  all_goals (first | rfl | (simp_all; done))

theorem light_congrρ {ρ ρ' : Operand → Value} {o : Oper} (h : ∀ x ∈ o.op.operands, ρ x = ρ' x) : light P ρ o g = light P ρ' o g := by
  unfold light
  rw [lightS_congr h, purerule_congr h]

theorem aalloc_congr {ρ ρ' : Operand → Value} {o : Oper} (h : ∀ x ∈ o.op.operands, ρ x = ρ' x) : aalloc P ρ o = aalloc P ρ' o := by
  obtain ⟨dst, op, type, pos, after, guard⟩ := o
  cases op <;> simp only [Op.operands] at h <;> simp only [aalloc]
  case box t x => rw [h x (by simp)]
  case buildSlice t n ps =>
    rw [pairs_congr fun x hx => h x (by simpa using hx)]
    have e : (ps.toList.all fun p => (okCells (ρ p.2)).isSome) = ps.toList.all fun p => (okCells (ρ' p.2)).isSome := by
      rw [Bool.eq_iff_iff, List.all_eq_true, List.all_eq_true]
      constructor <;> intro h1 p hp
      · rw [← h p.2 (by simp; exact ⟨p.1, by simpa using hp⟩)]; exact h1 p hp
      · rw [h p.2 (by simp; exact ⟨p.1, by simpa using hp⟩)]; exact h1 p hp
    rw [e]
  case makeSlice t l c => rw [h l (by simp), h c (by simp)]

theorem heavy_congr {rec : Rec} {ρ ρ' : Operand → Value} {o : Oper} {hp : Heap} (h : ∀ x ∈ o.op.operands, ρ x = ρ' x) : heavy P rec ρ o hp = heavy P rec ρ' o hp := by
  obtain ⟨dst, op, type, pos, after, guard⟩ := o
  cases op <;> simp only [Op.operands] at h <;> simp only [heavy]
  case store t a v => rw [h a (by simp), h v (by simp)]
  case binOp op t x y yt => rw [h x (by simp), h y (by simp)]
  case call c =>
    obtain ⟨callee, args, argTypes⟩ := c
    have ha : args.map ρ = args.map ρ' := map_congr fun x hx => h x (by simp [Call.operands, hx])
    cases callee <;> simp only [acallOp]
    case value f => rw [ha, h f (by simp [Call.operands])]
    case invoke r m => rw [ha, h r (by simp [Call.operands])]
    case builtin b =>
      have hl : args.toList.map ρ = args.toList.map ρ' := by rw [← Array.toList_map, ← Array.toList_map, ha]
      rw [hl]
  case makeMap t r => rw [opt_congr (x := r) fun y e => h y (by simp [e])]
  case lookup t x k ok => rw [h x (by simp), h k (by simp)]
  case mapUpdate t m k x => rw [h m (by simp), h k (by simp), h x (by simp)]
  case insert t m k x => rw [h m (by simp), h k (by simp), h x (by simp)]
  case range t x => rw [h x (by simp)]
  case next it b => rw [h it (by simp)]
  case entry it => rw [h it (by simp)]
  case mapEntry t m k => rw [h m (by simp), h k (by simp)]
  case entryStore t m s x => rw [h m (by simp), h s (by simp), h x (by simp)]
  case convert src dst x => rw [h x (by simp)]

theorem aload_mono {t : TypeId} {n off : Nat} {v : Value} {g g' : Nat → Option AObj} (h : ∀ x, g n = some x → g' n = some x) (hl : aload P t n off g = some v) : aload P t n off g' = some v := by
  unfold aload at hl ⊢
  cases hg : g n with
  | none => rw [hg] at hl; cases hl
  | some x => rw [hg] at hl; rw [h x hg]; exact hl

theorem aeq_mono {t : TypeId} {x y : Value} {b : Bool} {g g' : Nat → Option AObj} (h : ∀ n i p m j q, x = .pointer (some ⟨n, i, p⟩) → y = .pointer (some ⟨m, j, q⟩) → ∀ z, (g n = some z → g' n = some z) ∧ (g m = some z → g' m = some z))
    (hl : aeq P t x y g = some b) : aeq P t x y g' = some b := by
  unfold aeq at hl ⊢
  split at hl <;> first
    | exact hl
    | (rename_i e n i m j hu
       split at hl
       · rename_i k hk
         cases hnm : Nat.beq n m with
         | true => rw [hnm] at hl; exact hl
         | false =>
           rw [hnm] at hl
           simp only [cond_false] at hl ⊢
           split at hl
           · rename_i h1 h2
             have h3 := h n i none m j none rfl rfl
             rw [(h3 _).1 h1, (h3 _).2 h2]
             exact hl
           · cases hl
       · cases hl)

theorem lightS_mono {ρ : Operand → Value} {o : Oper} {v : Value} {g g' : Nat → Option AObj} (h : ∀ n ∈ readNames ρ o, ∀ x, g n = some x → g' n = some x) (hl : lightS P ρ o g = some v) : lightS P ρ o g' = some v := by
  obtain ⟨dst, op, type, pos, after, guard⟩ := o
  cases op <;> (try exact hl)
  case load t a =>
    simp only [lightS, readNames] at h hl ⊢
    cases ha : ρ a with
    | pointer p =>
      cases p with
      | none => rw [ha] at hl; cases hl
      | some p =>
        obtain ⟨n, off, sp⟩ := p
        rw [ha] at h hl
        cases sp with
        | none => exact aload_mono (h n (by simp)) hl
        | some k => cases hl
    | _ => rw [ha] at hl; cases hl
  case binOp op t x y yt =>
    simp only [lightS, readNames] at h hl ⊢
    have e : ∀ b, aeq P t (ρ x) (ρ y) g = some b → aeq P t (ρ x) (ρ y) g' = some b := fun b hb => aeq_mono (fun n i p m j q hx hy z => by
      rw [hx, hy] at h
      exact ⟨h n (by simp) z, h m (by simp) z⟩) hb
    have eE : ∀ u, binE P op t (ρ x) (ρ y) g = some u → binE P op t (ρ x) (ρ y) g' = some u := by
      intro u hu
      unfold binE at hu ⊢
      cases op <;> simp only at hu ⊢ <;> first
        | (cases hu; done)
        | (cases hb : aeq P t (ρ x) (ρ y) g with
           | none => rw [hb] at hu; cases hu
           | some b => rw [hb] at hu; rw [e b hb]; exact hu)
    split at hl
    · exact hl
    · exact hl
    · exact hl
    · exact hl
    · exact hl
    · exact eE _ hl

theorem readNames_plain {ρ : Operand → Value} {o : Oper} {v : Value} (h : purerule P ρ o = some v) : readNames ρ o = [] := by
  unfold purerule at h
  cases hb : !isSelect o.op && o.op.operands.toList.all (fun x => plain (ρ x)) with
  | false => rw [hb] at h; cases h
  | true =>
    simp only [Bool.and_eq_true] at hb
    have hp : ∀ x ∈ o.op.operands, plain (ρ x) = true := fun x hx => List.all_eq_true.1 hb.2 x (by simpa using hx)
    obtain ⟨dst, op, type, pos, after, guard⟩ := o
    cases op <;> simp only [readNames, Op.operands] at hp ⊢
    case load t a =>
      have h1 := hp a (by simp)
      cases ha : ρ a with
      | pointer p => cases p with
        | none => rfl
        | some p => rw [ha] at h1; simp [plain, plainN] at h1
      | _ => rfl
    case binOp op t x y yt =>
      have h1 := hp x (by simp)
      cases ha : ρ x with
      | pointer p => cases p with
        | none => rfl
        | some p => rw [ha] at h1; simp [plain, plainN] at h1
      | _ => rfl

/-- What a light operation answered it answers wherever the objects are that it looked into. -/
theorem light_mono {ρ : Operand → Value} {o : Oper} {v : Value} {g g' : Nat → Option AObj} (h : ∀ n ∈ readNames ρ o, ∀ x, g n = some x → g' n = some x) (hl : light P ρ o g = some v) : light P ρ o g' = some v := by
  cases hS : lightS P ρ o g with
  | some u =>
    unfold light at hl ⊢
    rw [hS] at hl
    rw [lightS_mono h hS]
    exact hl
  | none =>
    have hp : purerule P ρ o = some v := by unfold light at hl; rw [hS] at hl; exact hl
    have hr := readNames_plain hp
    rw [← light_congr (g := g) (g' := g') (fun n hn => by rw [hr] at hn; cases hn)]
    exact hl

/-! ### 2. Less is known of names -/
theorem VRep.both {D2 : Nat → Prop} {σ2 : Sig} {v u u2 : Value} (h : VRep D σ v u) (h2 : VRep D2 σ2 v u2) : VRep D2 σ v u := by
  induction h generalizing u2 with
  | unk v => exact .unk v
  | bool b => exact .bool b
  | int k n => exact .int k n
  | float k b h => exact .float k b h
  | fnan h => exact .fnan h
  | complex k a b => exact .complex k a b
  | string s => exact .string s
  | nilFunc => exact .nilFunc
  | nilIface => exact .nilIface
  | anyI n => exact .anyI n
  | geI h => exact .geI h
  | ltI h => exact .ltI h
  | mapNil => exact .mapNil
  | map h => cases h2 with | map h2 => exact .map h2
  | ptrNil => exact .ptrNil
  | ptr h => cases h2 with | ptr h2 => exact .ptr h2
  | sliceNil => exact .sliceNil
  | slice h hl ha => cases h2 with | slice h2 => exact .slice h2 hl ha
  | sliceU h hl ha hc => cases h2 with | sliceU h2 => exact .sliceU h2 hl ha hc
  | func f ha hb _ _ ih1 ih2 => cases h2 with | func _ ha' hb' q1 q2 => exact .func f ha hb (fun i hi => ih1 i hi (q1 i hi)) (fun i hi => ih2 i hi (q2 i hi))
  | iface t _ ih => cases h2 with | iface _ h2 => exact .iface t (ih h2)
  | agg ha _ ih => cases h2 with | agg _ q => exact .agg ha (fun i hi => ih i hi (q i hi))
  | tuple ha _ ih => cases h2 with | tuple _ q => exact .tuple ha (fun i hi => ih i hi (q i hi))

theorem LRep.both {D2 : Nat → Prop} {σ2 : Sig} {a b c : List Value} (h : LRep D σ a b) (h2 : LRep D2 σ2 a c) : LRep D2 σ a b :=
  ⟨h.len, fun i hi => (h.at_ i hi).both (h2.at_ i hi)⟩

theorem ORep.both {D2 : Nat → Prop} {σ2 : Sig} {o : AOth} {o' o2 : Obj} (h : ORep D σ o o') (h2 : ORep D2 σ2 o o2) : ORep D2 σ o o' := by
  cases h with
  | iter s pos => exact .iter s pos
  | @map es es' clock hl he =>
    cases h2 with
    | @map _ es2 _ hl2 he2 =>
      refine .map clock hl fun i e e' h1 h3 => ?_
      have hi : i < es2.size := by rw [← hl2]; exact (List.getElem?_eq_some_iff.1 h1).1
      have q := he2 i e es2[i] h1 (Array.getElem?_eq_getElem hi)
      have r := he i e e' h1 h3
      exact ⟨r.key.both q.key, r.val.both q.val, r.born⟩
  | miterNil a b c => exact .miterNil a b c
  | miter h a b c => cases h2 with | miter h2 => exact .miter h2 a b c

theorem Rep.both {D2 : Nat → Prop} {σ2 : Sig} {w2 : World} {base2 : Nat} (h : Rep base D σ g w) (h2 : Rep base2 D2 σ2 g w2) : Rep base D2 σ g w where
  gl := ⟨fun n hn => ⟨(h2.gl.names n hn).1, (h.gl.names n hn).2⟩, h.gl.cells⟩
  obj n c e s gr ro hg := by
    obtain ⟨_, C, t, fr, r⟩ := h.object hg
    obtain ⟨hD, C2, t2, fr2, r2⟩ := h2.object hg
    exact ⟨hD, C, t, fr, ⟨r.heap, r.fit, r.rel.both r2.rel, r.mine, r.grow, r.exact⟩⟩
  oth n o hg := by
    obtain ⟨_, h0, o', ho, hr⟩ := h.oth n o hg
    obtain ⟨hD, _, o2, _, hr2⟩ := h2.oth n o hg
    exact ⟨hD, h0, o', ho, hr.both hr2⟩
  own := h.own
  old := h.old
  inj := h.inj
  size := h.size

/-! ### 3. The rest of the memory -/
theorem Moves.framed {h h' : Heap} (hr : Rep base D σ g w) (hsub : ∀ n o, h.get n = some o → g n = some o) (hle : h.next ≤ h'.next) (hD0 : ∀ n, n < h.next → D n) (hDx : ∀ n, D n → n < h.next ∨ h'.next ≤ n)
    (hm : Moves base (· < h.next) σ h.get w (· < h'.next) σ' h'.get w') :
    Moves base D σ g w (fun n => n < h'.next ∨ D n) (fun n => if n < h'.next then σ' n else σ n) (fun n => if n < h'.next then h'.get n else g n) w' := by
  have hext : ∀ n, D n → (if n < h'.next then σ' n else σ n) = σ n := fun n hn => by
    rcases hDx n hn with h1 | h1
    · rw [if_pos (by omega)]; exact hm.ext n h1
    · rw [if_neg (by omega)]
  have hown0 : ∀ b, Owned h.get σ b → Owned g σ b := fun b ⟨n, ⟨o, hn, ho⟩, hb⟩ => ⟨n, ⟨o, hsub _ _ hn, ho⟩, hb⟩
  have kG : ∀ n, NonRo (fun n => if n < h'.next then h'.get n else g n) n → (n < h'.next ∧ NonRo h'.get n) ∨ (h'.next ≤ n ∧ NonRo g n) := by
    rintro n ⟨o, hn, ho⟩
    dsimp only at hn
    by_cases h1 : n < h'.next
    · rw [if_pos h1] at hn; exact .inl ⟨h1, o, hn, ho⟩
    · rw [if_neg h1] at hn; exact .inr ⟨by omega, o, hn, ho⟩
  -- a block of the rest isn't one of the part's
  have hrest : ∀ n, h'.next ≤ n → (∃ o, g n = some o) → ¬ Owned h.get σ (σ n).blk := by
    rintro n hn ⟨o, hg⟩ ⟨m, ⟨o', hm', ho'⟩, hb⟩
    have hlt := Heap.get_lt hm'
    have hgm := hsub _ _ hm'
    cases ho : o.own with
    | true => exact hr.inj m n ⟨_, hgm, ho'⟩ ⟨_, hg, ho⟩ (by omega) hb
    | false => have h1 := hr.own m ⟨_, hgm, ho'⟩; have h2 := hr.old n ⟨_, hg, ho⟩; omega
  have hsz : ∀ n o, g n = some o → (σ n).blk < w.heap.size := fun n o hg => by
    cases o with
    | cells c e s gr ro =>
      obtain ⟨_, C, t, fr, r⟩ := hr.object hg
      exact (Array.getElem?_eq_some_iff.1 r.heap).1
    | oth o =>
      obtain ⟨_, _, o', ho, _⟩ := hr.oth n o hg
      exact (Array.getElem?_eq_some_iff.1 ho).1
  have hlow : ∀ b, b < base → w'.heap[b]? = w.heap[b]? := fun b hb => hm.frame b (Nat.lt_of_lt_of_le hb hr.size) fun ⟨m, ⟨o, h1, h2⟩, h3⟩ => by
    have := hr.own m ⟨o, hsub _ _ h1, h2⟩; omega
  refine ⟨fun n hn => .inr hn, hext, ⟨hr.gl.mono (fun n hn => .inr hn) hext hlow, ?_, ?_, ?_, ?_, ?_, Nat.le_trans hr.size hm.size⟩, hm.os, hm.tape, hm.output, hm.size, fun b hb hn => hm.frame b hb (fun ho => hn (hown0 b ho)), ?_⟩
  · intro n c e s gr ro hn
    by_cases h1 : n < h'.next
    · rw [if_pos h1] at hn
      obtain ⟨_, C, t, fr, r⟩ := hm.rep.object hn
      have es : (if n < h'.next then σ' n else σ n) = σ' n := if_pos h1
      refine ⟨.inl h1, C, t, fr, ⟨by rw [es]; exact r.heap, by rw [es]; exact r.fit, ?_, r.mine, by rw [es]; exact r.grow, by rw [es]; exact r.exact⟩⟩
      rw [es]
      exact r.rel.mono (fun m hm => .inl hm) (fun m hm => if_pos hm)
    · rw [if_neg h1] at hn
      obtain ⟨hD, C, t, fr, r⟩ := hr.object hn
      have es : (if n < h'.next then σ' n else σ n) = σ n := if_neg h1
      have hkeep := hm.frame _ (hsz _ _ hn) (hrest n (by omega) ⟨_, hn⟩)
      refine ⟨.inr hD, C, t, fr, ⟨by rw [es, hkeep]; exact r.heap, by rw [es]; exact r.fit, ?_, r.mine, by rw [es]; exact r.grow, by rw [es]; exact r.exact⟩⟩
      rw [es]
      exact r.rel.mono (fun m hm => .inr hm) hext
  · intro n o hn
    by_cases h1 : n < h'.next
    · rw [if_pos h1] at hn
      obtain ⟨_, h0, o', ho, q⟩ := hm.rep.oth n o hn
      have es : (if n < h'.next then σ' n else σ n) = σ' n := if_pos h1
      rw [es]
      exact ⟨.inl h1, h0, o', ho, q.mono (fun m hm => .inl hm) (fun m hm => if_pos hm)⟩
    · rw [if_neg h1] at hn
      obtain ⟨hD, h0, o', ho, q⟩ := hr.oth n o hn
      have es : (if n < h'.next then σ' n else σ n) = σ n := if_neg h1
      have hkeep := hm.frame _ (hsz _ _ hn) (hrest n (by omega) ⟨_, hn⟩)
      rw [es]
      exact ⟨.inr hD, h0, o', by rw [hkeep]; exact ho, q.mono (fun m hm => .inr hm) hext⟩
  · intro n hn
    rcases kG n hn with ⟨h1, h2⟩ | ⟨h1, h2⟩
    · simp only [if_pos h1]; exact hm.rep.own n h2
    · simp only [if_neg (show ¬ n < h'.next by omega)]; exact hr.own n h2
  · rintro n ⟨o, hn, ho⟩
    dsimp only at hn
    by_cases h1 : n < h'.next
    · rw [if_pos h1] at hn; simp only [if_pos h1]; exact hm.rep.old n ⟨_, hn, ho⟩
    · rw [if_neg h1] at hn; simp only [if_neg h1]; exact hr.old n ⟨_, hn, ho⟩
  · intro n m hn hm' hne
    have cross : ∀ n m, n < h'.next → NonRo h'.get n → h'.next ≤ m → NonRo g m → (σ' n).blk ≠ (σ m).blk := by
      rintro n m h1 h2 h3 ⟨o, h4, h4'⟩ hb
      rcases hm.own (σ' n).blk ⟨n, h2, rfl⟩ with h5 | h5
      · rw [hb] at h5; exact hrest m h3 ⟨_, h4⟩ h5
      · have := hsz _ _ h4; omega
    rcases kG n hn with ⟨h1, h2⟩ | ⟨h1, h2⟩ <;> rcases kG m hm' with ⟨h3, h4⟩ | ⟨h3, h4⟩
    · simp only [if_pos h1, if_pos h3]; exact hm.rep.inj n m h2 h4 hne
    · simp only [if_pos h1, if_neg (show ¬ m < h'.next by omega)]; exact cross n m h1 h2 h3 h4
    · simp only [if_neg (show ¬ n < h'.next by omega), if_pos h3]; exact Ne.symm (cross m n h3 h4 h1 h2)
    · simp only [if_neg (show ¬ n < h'.next by omega), if_neg (show ¬ m < h'.next by omega)]; exact hr.inj n m h2 h4 hne
  · rintro b ⟨n, hn, hb⟩
    rcases kG n hn with ⟨h1, h2⟩ | ⟨h1, h2⟩
    · simp only [if_pos h1] at hb
      rcases hm.own b ⟨n, h2, hb⟩ with h3 | h3
      · exact .inl (hown0 b h3)
      · exact .inr h3
    · simp only [if_neg (show ¬ n < h'.next by omega)] at hb
      exact .inl ⟨n, h2, hb⟩

/-! ### 4. There is a run -/
theorem wp_false {o : Oper} {a : Act} {X : Prop} (h : o.wp P a w (fun _ _ => X) (fun _ _ _ => False)) : X := by
  unfold Oper.wp at h
  generalize (execOp a.eval o).run P w = r at h
  cases r with
  | ok n w' =>
    cases n <;> simp only [Oper.upon] at h
    case value v => exact h
    case skip => exact h
    case defer d => exact h
    case enter f args =>
      obtain ⟨e, w'', fr, hR, _⟩ := h []
      cases e with
      | returned v => exact hR
      | panicked c => exact hR.elim
      | outgrown => obtain ⟨_, _, hf⟩ := hR; exact hf.elim
    case row row args =>
      obtain ⟨v, w'', hR, _⟩ := h default []
      exact hR
  | halt x w' => cases x <;> simp only [Oper.upon] at h

theorem OpOK.exists {h h' : Heap} {a : Act} {o : Oper} {v : Value} (hk : OpOK P base σ h w a o v h') :
    ∃ v' w' σ', VRep (· < h'.next) σ' v v' ∧ Moves base (· < h.next) σ h.get w (· < h'.next) σ' h'.get w' :=
  wp_false (hk (fun _ _ => ∃ v' w' σ', VRep (· < h'.next) σ' v v' ∧ Moves base (· < h.next) σ h.get w (· < h'.next) σ' h'.get w') (fun _ _ _ => False) fun v' w' σ' h1 h2 => ⟨v', w', σ', h1, h2⟩)

end
end Go.Proofs.YthhhmmildgijhaaGreatDoorAI
