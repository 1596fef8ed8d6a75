/- The operations that make no block and write none: what the interpreter answers, the model answers. -/
import Derived.Test.YthhhmmildgijhaaGreatDoorAI2
import Derived.Laws.StructEq
set_option linter.unusedVariables false
set_option linter.unusedSimpArgs false
namespace Go.Proofs.YthhhmmildgijhaaGreatDoorAI
open Go

section
variable {P : Program} {base : Nat} {D : Nat → Prop} {σ : Sig} {g : Nat → Option AObj} {w : World}

theorem szOf_info {t : TypeId} {s : Nat} (h : szOf P t = some s) : ∃ i, P.info? t = some i ∧ i.size = s := by
  unfold szOf at h
  cases hi : P.info? t with
  | none => rw [hi] at h; cases h
  | some i => rw [hi] at h; exact ⟨i, rfl, by simpa using h⟩
theorem run_size {t : TypeId} {s : Nat} (h : szOf P t = some s) (w : World) : (sizeOf t).run P w = .ok s w := by
  obtain ⟨i, hi, rfl⟩ := szOf_info h
  simp [sizeOf, typeInfo, hi]
theorem run_info {t : TypeId} {i : TypeInfo} (h : P.info? t = some i) (w : World) : (typeInfo t).run P w = .ok i w := by simp [typeInfo, h]
theorem run_agg {t : TypeId} {d : TypeDesc} (h : P.underlying t = some d) (w : World) : (isAgg t).run P w = .ok (isAggT d) w := by
  simp only [isAgg, Sem.run_bind, run_underlying h, Result.andThen]
  cases d <;> rfl
theorem run_zero {t : TypeId} {z : Value} (h : (P.info? t).bind (·.zero) = some z) (w : World) : (zeroValue t).run P w = .ok z w := by
  cases hi : P.info? t with
  | none => rw [hi] at h; cases h
  | some i =>
    rw [hi] at h
    simp only [Option.bind_some] at h
    simp [zeroValue, run_info hi, h]
theorem add_at (b o j : Nat) : (⟨b, o, none⟩ : Addr).add j = ⟨b, o + j, none⟩ := by unfold Addr.add; split <;> simp_all

theorem cell_at {b : Nat} {C : Array Value} {t : TypeId} {fr : Nat × Nat} (h : w.heap[b]? = some (.cells C t fr)) (o : Nat) : w.cell? ⟨b, o, none⟩ = C[o]? := by
  simp [World.cell?, h]

/-- Cells that are read. -/
theorem run_cells {b : Nat} {C : Array Value} {t : TypeId} {fr : Nat × Nat} (h : w.heap[b]? = some (.cells C t fr)) (o n : Nat) (hn : o + n ≤ C.size) :
    (loadCells ⟨b, o, none⟩ n).run P w = .ok ((C.toList.drop o).take n).toArray w := by
  have hl : ((C.toList.drop o).take n).length = n := by simp; omega
  have := run_loadCells_list (P := P) w ⟨b, o, none⟩ ((C.toList.drop o).take n) (fun j v e => by
    rw [add_at, cell_at h]
    rw [List.getElem?_take] at e
    split at e
    · rw [List.getElem?_drop] at e; simpa using e
    · cases e)
  rw [hl] at this
  exact this

theorem Rep.object (hr : Rep base D σ g w) {n : Nat} {c : List Value} {e : TypeId} {s : Nat} {gr ro : Bool} (hg : g n = some (.cells c e s gr ro)) :
    D n ∧ ∃ C t fr, RepObj D σ w n c e gr ro C t fr := hr.obj _ _ _ _ _ _ hg

theorem RepObj.seg {n : Nat} {c : List Value} {e : TypeId} {gr ro : Bool} {C : Array Value} {t : TypeId} {fr : Nat × Nat} (r : RepObj D σ w n c e gr ro C t fr) (off k : Nat) (hk : off + k ≤ c.length) :
    LRep D σ ((c.drop off).take k) ((C.toList.drop ((σ n).off + off)).take k) := by
  have h1 := (r.rel.drop off).take k
  have e1 : ((((C.toList.drop (σ n).off).take c.length).drop off).take k) = ((C.toList.drop ((σ n).off + off)).take k) := by
    rw [List.drop_take, List.take_take, List.drop_drop, Nat.min_eq_left (by omega)]
  rw [e1] at h1
  exact h1

theorem aload_sound (hr : Rep base D σ g w) {t : TypeId} {n off : Nat} {v : Value} (h : aload P t n off g = some v) :
    D n ∧ ∃ v', (Instr.loadAt t (.pointer (some ⟨(σ n).blk, (σ n).off + off, none⟩))).run P w = .ok v' w ∧ (loadVar t ⟨(σ n).blk, (σ n).off + off, none⟩).run P w = .ok v' w ∧ VRep D σ v v' := by
  unfold aload at h
  split at h
  · rename_i c e s gr ro hg
    obtain ⟨hD, C, ty, fr, r⟩ := hr.object hg
    refine ⟨hD, ?_⟩
    have hL : ∀ v', (loadVar t ⟨(σ n).blk, (σ n).off + off, none⟩).run P w = .ok v' w → (Instr.loadAt t (.pointer (some ⟨(σ n).blk, (σ n).off + off, none⟩))).run P w = .ok v' w := fun v' hv => by
      simp [Instr.loadAt, Instr.sureAddr, hv]
    split at h
    · rename_i d hd
      cases hA : isAggT d with
      | true =>
        rw [hA] at h
        simp only [cond_true] at h
        split at h
        · rename_i sz hs
          cases hb : Nat.ble (off + sz) c.length with
          | false => rw [hb] at h; cases h
          | true =>
            rw [hb] at h
            simp only [cond_true, Option.some.injEq] at h
            subst h
            have hle := ble_le hb
            have hfit := r.fit
            have run : (loadVar t ⟨(σ n).blk, (σ n).off + off, none⟩).run P w = .ok (.agg ((C.toList.drop ((σ n).off + off)).take sz).toArray) w := by
              simp only [loadVar, Sem.run_bind, run_agg hd, hA, Result.andThen, if_true, run_size hs, run_cells r.heap _ _ (show (σ n).off + off + sz ≤ C.size by omega)]
              rfl
            exact ⟨_, hL _ run, run, .mkAgg (by simpa using r.seg off sz hle)⟩
        · cases h
      | false =>
        rw [hA] at h
        simp only [cond_false] at h
        have hlt : off < c.length := (List.getElem?_eq_some_iff.1 h).1
        have hfit := r.fit
        obtain ⟨v', e', hv⟩ := r.rel.get? h
        have ec : C[(σ n).off + off]? = some v' := by
          rw [List.getElem?_take_of_lt hlt, List.getElem?_drop] at e'
          simpa using e'
        have run : (loadVar t ⟨(σ n).blk, (σ n).off + off, none⟩).run P w = .ok v' w := by
          simp only [loadVar, Sem.run_bind, run_agg hd, hA, Result.andThen, Bool.false_eq_true, if_false, run_load, cell_at r.heap, ec]
        exact ⟨_, hL _ run, run, hv⟩
    · cases h
  · cases h

theorem afieldAddr_sound {s : TypeId} {x y v : Value} {f : Nat} (h : afieldAddr P s x f = some v) (hv : VRep D σ x y) :
    ∃ v', (Instr.fieldAt s y f).run P w = .ok v' w ∧ VRep D σ v v' := by
  unfold afieldAddr at h
  split at h
  · rename_i fields n off hs
    split at h
    · rename_i fl hf
      split at h
      · rename_i k hk
        simp only [Option.some.injEq] at h
        subst h
        obtain ⟨hD, rfl⟩ := hv.inv_ptr
        refine ⟨.pointer (some ⟨(σ n).blk, (σ n).off + off + fl.offset, none⟩), ?_, by rw [Nat.add_assoc]; exact .ptr hD⟩
        simp only [Instr.fieldAt, Sem.run_bind, run_underlying hs, Result.andThen, hf, Instr.sureAddr]
        simp [fieldPlace, run_size hk, add_at]
      · cases h
    · cases h
  · cases h

theorem aindexAddr_sound {t : TypeId} {x y i j v : Value} (h : aindexAddr P t x i = some v) (hv : VRep D σ x y) (hi : VRep D σ i j) :
    ∃ v', (Instr.indexAt t y j).run P w = .ok v' w ∧ VRep D σ v v' := by
  unfold aindexAddr at h
  split at h
  · rename_i e n off sp len cp k0 k hu
    split at h
    · rename_i sz hs
      split at h
      · rename_i hk
        simp only [Option.some.injEq] at h
        subst h
        obtain rfl := hi.inv_int
        obtain ⟨a', cap', rfl, hl, ha, hx⟩ := hv.inv_anySlice
        obtain ⟨hD, hx⟩ := hx n off sp rfl
        have hpos : 0 < cap' := by omega
        rw [hx hpos]
        refine ⟨.pointer (some ⟨(σ n).blk, (σ n).off + off + k.toNat * sz, none⟩), ?_, by rw [Nat.add_assoc]; exact .ptr hD⟩
        simp [Instr.indexAt, asIntOf, run_underlying hu, hk.1, hk.2, run_size hs, add_at, Result.andThen]
      · cases h
    · cases h
  · rename_i len e n off k0 k hu
    split at h
    · rename_i sz hs
      split at h
      · rename_i hk
        simp only [Option.some.injEq] at h
        subst h
        obtain rfl := hi.inv_int
        obtain ⟨hD, rfl⟩ := hv.inv_ptr
        refine ⟨.pointer (some ⟨(σ n).blk, (σ n).off + off + k.toNat * sz, none⟩), ?_, by rw [Nat.add_assoc]; exact .ptr hD⟩
        simp [Instr.indexAt, asIntOf, run_underlying hu, hk.1, hk.2, run_size hs, add_at, Result.andThen, Instr.sureAddr]
      · cases h
    · cases h
  · cases h


/-! slices of slices -/
def BRep (o : Option Value) (d b : Nat) : Prop := (o = none ∧ b = d) ∨ ∃ k, o = some (.int k (b : Int))

theorem abound_rep {ρ ρ' : Operand → Value} (hρ : ∀ x, VRep D σ (ρ x) (ρ' x)) {d b : Nat} {x : Option Operand} (h : abound d (x.map ρ) = some b) : BRep (x.map ρ') d b := by
  cases x with
  | none => simp only [Option.map_none, abound, Option.some.injEq] at h; exact .inl ⟨rfl, h.symm⟩
  | some x =>
    have hv := hρ x
    simp only [Option.map_some] at h ⊢
    cases hx : ρ x with
    | int k n =>
      rw [hx] at h hv
      obtain e := hv.inv_int
      simp only [abound] at h
      split at h
      · rename_i h0
        simp only [Option.some.injEq] at h
        refine .inr ⟨k, ?_⟩
        rw [e, ← h, Int.toNat_of_nonneg h0]
      · cases h
    | _ => rw [hx] at h; simp [abound] at h

theorem run_bound {k : IntKind} {b y : Nat} (h : b ≤ y) (code : BoundsCode) (w : World) : (Instr.sliceBound (.int k (b : Int)) y code).run P w = .ok b w := by
  have h1 : (0 : Int) ≤ (b : Int) ∧ (b : Int) ≤ (y : Int) := ⟨by omega, by omega⟩
  simp [Instr.sliceBound, asIntOf, h1]

theorem run_bounds {len cap l h m : Nat} {lo hi mx : Option Value} (hm : BRep mx cap m) (hh : BRep hi len h) (hl : BRep lo 0 l) (h1 : l ≤ h) (h2 : h ≤ m) (h3 : m ≤ cap) (h4 : hi.isSome = true ∨ mx = none) (w : World) :
    (Instr.sliceBounds true len cap lo hi mx).run P w = .ok (l, h, m) w := by
  unfold Instr.sliceBounds
  rcases hm with ⟨rfl, rfl⟩ | ⟨k1, rfl⟩ <;> rcases hh with ⟨rfl, rfl⟩ | ⟨k2, rfl⟩ <;> rcases hl with ⟨rfl, rfl⟩ | ⟨k3, rfl⟩ <;>
    first
      | (simp [run_bound, h1, h2, h3]; done)
      | (simp at h4)

theorem aslice_sound {t : TypeId} {x y v : Value} {lo hi mx : Option Operand} {ρ ρ' : Operand → Value} (hρ : ∀ x, VRep D σ (ρ x) (ρ' x))
    (h : aslice P t x (lo.map ρ) (hi.map ρ) (mx.map ρ) = some v) (hv : VRep D σ x y) :
    ∃ v', (Instr.sliceAt t y (lo.map ρ') (hi.map ρ') (mx.map ρ')).run P w = .ok v' w ∧ VRep D σ v v' := by
  have some_of : ∀ {o : Option Operand}, (o.map ρ).isSome = true → (o.map ρ').isSome = true := fun {o} h => by cases o <;> simp_all
  have none_of : ∀ {o : Option Operand}, (o.map ρ) = none → (o.map ρ') = none := fun {o} h => by cases o <;> simp_all
  unfold aslice at h
  split at h
  · rename_i e a len cap hu
    have run : ∀ (a' : Option Addr) (cap' l h m sz : Nat), szOf P e = some sz → (Instr.sliceBounds true len cap' (lo.map ρ') (hi.map ρ') (mx.map ρ')).run P w = .ok (l, h, m) w →
        (Instr.sliceAt t (.slice a' len cap') (lo.map ρ') (hi.map ρ') (mx.map ρ')).run P w = .ok (.slice (if m = l then a' else a'.map (·.add (l * sz))) (h - l) (m - l)) w := by
      intro a' cap' l h m sz hs hb
      simp only [Instr.sliceAt, Sem.run_bind, run_underlying hu, Result.andThen, Instr.slice, hb, run_size hs]
      rfl
    split at h
    · -- known
      rename_i sz n off hs
      split at h
      · rename_i l hh m hl hhh hm
        cases hb : Nat.ble l hh && Nat.ble hh m && Nat.ble m cap && ((hi.map ρ).isSome || (mx.map ρ).isNone) with
        | false => rw [hb] at h; cases h
        | true =>
          rw [hb] at h
          simp only [cond_true, Option.some.injEq] at h
          subst h
          simp only [Bool.and_eq_true, Bool.or_eq_true] at hb
          obtain ⟨⟨⟨b1, b2⟩, b3⟩, b4⟩ := hb
          have b1 := ble_le b1; have b2 := ble_le b2; have b3 := ble_le b3
          obtain ⟨hD, hlc, a', rfl, ha⟩ := hv.inv_slice
          have hB := run_bounds (P := P) (abound_rep hρ hm) (abound_rep hρ hhh) (abound_rep hρ hl) b1 b2 b3 (b4.imp some_of (fun hn => none_of (by simpa using hn))) w
          refine ⟨_, run (some a') cap l hh m sz hs hB, ?_⟩
          by_cases e1 : m = l
          · subst e1
            rw [if_pos rfl, beq_t rfl]
            simp only [cond_true]
            exact .slice hD (by omega) (fun hp => by omega)
          · rw [if_neg e1, beq_f e1]
            simp only [cond_false, Option.map_some]
            have hp : 0 < cap := by omega
            rw [ha hp, add_at, Nat.add_assoc]
            exact .slice hD (by omega) (fun _ => rfl)
      · cases h
    · rename_i sz n off sp hs
      split at h
      · -- unknown, no third index
        rename_i hmx
        split at h
        · rename_i l hh hl hhh
          cases hb : Nat.ble l hh && Nat.ble hh len && Nat.beq cap sz with
          | false => rw [hb] at h; cases h
          | true =>
            rw [hb] at h
            simp only [cond_true, Option.some.injEq] at h
            subst h
            simp only [Bool.and_eq_true] at hb
            obtain ⟨⟨b1, b2⟩, b3⟩ := hb
            have b1 := ble_le b1; have b2 := ble_le b2
            have b3 := Nat.eq_of_beq_eq_true b3
            subst b3
            obtain ⟨rfl, hD, a', cap', rfl, hlc, ha, hc⟩ := hv.inv_sliceU
            have hmx' := none_of hmx
            have hB := run_bounds (P := P) (len := len) (cap := cap') (m := cap') (mx := mx.map ρ') (.inl ⟨hmx', rfl⟩) (abound_rep hρ hhh) (abound_rep hρ hl) b1 (by omega) (Nat.le_refl _) (.inr hmx') w
            refine ⟨_, run (some a') cap' l hh cap' cap hs hB, ?_⟩
            have hcap : (cap' - l) * cap + l * cap = cap' * cap := by rw [← Nat.add_mul, Nat.sub_add_cancel (by omega)]
            by_cases e1 : cap' = l
            · subst e1
              rw [if_pos rfl]
              exact .sliceU hD (by omega) (fun hp => by omega) (by simp at hcap ⊢; omega)
            · rw [if_neg e1]
              simp only [Option.map_some]
              have hp : 0 < cap' := by omega
              rw [ha hp, add_at]
              exact .sliceU hD (by omega) (fun _ => by rw [Nat.add_assoc]) (by omega)
        · cases h
      · rename_i mv hmx
        split at h
        · rename_i l hh m hl hhh hm
          cases hb : Nat.ble l hh && Nat.ble hh m && Nat.ble m len && (hi.map ρ).isSome with
          | false => rw [hb] at h; cases h
          | true =>
            rw [hb] at h
            simp only [cond_true, Option.some.injEq] at h
            subst h
            simp only [Bool.and_eq_true] at hb
            obtain ⟨⟨⟨b1, b2⟩, b3⟩, b4⟩ := hb
            have b1 := ble_le b1; have b2 := ble_le b2; have b3 := ble_le b3
            obtain ⟨rfl, hD, a', cap', rfl, hlc, ha, hc⟩ := hv.inv_sliceU
            have hm' : BRep (mx.map ρ') cap' m := by
              rw [← hmx] at hm
              rcases abound_rep hρ hm with ⟨e1, _⟩ | h2
              · cases mx with
                | none => cases hmx
                | some mx => cases e1
              · exact .inr h2
            have hB := run_bounds (P := P) (len := len) (cap := cap') hm' (abound_rep hρ hhh) (abound_rep hρ hl) b1 b2 (by omega) (.inl (some_of b4)) w
            refine ⟨_, run (some a') cap' l hh m sz hs hB, ?_⟩
            by_cases e1 : m = l
            · subst e1
              rw [if_pos rfl]
              exact .slice hD (by omega) (fun hp => by omega)
            · rw [if_neg e1]
              simp only [Option.map_some]
              have hp : 0 < cap' := by omega
              rw [ha hp, add_at]
              exact .slice hD (by omega) (fun _ => by rw [Nat.add_assoc])
        · cases h
    · rename_i sz hs
      split at h
      · rename_i hl hhh hm
        cases hb : ((hi.map ρ).isSome || (mx.map ρ).isNone) && Nat.beq len 0 && Nat.beq cap 0 with
        | false => rw [hb] at h; cases h
        | true =>
          rw [hb] at h
          simp only [cond_true, Option.some.injEq] at h
          subst h
          simp only [Bool.and_eq_true, Bool.or_eq_true] at hb
          obtain ⟨⟨b4, b5⟩, b6⟩ := hb
          have b5 := Nat.eq_of_beq_eq_true b5
          have b6 := Nat.eq_of_beq_eq_true b6
          subst b5; subst b6
          obtain ⟨_, _, rfl⟩ := hv.inv_sliceNil
          have hB := run_bounds (P := P) (abound_rep hρ hm) (abound_rep hρ hhh) (abound_rep hρ hl) (Nat.le_refl 0) (Nat.le_refl 0) (Nat.le_refl 0) (b4.imp some_of (fun hn => none_of (by simpa using hn))) w
          refine ⟨_, run none 0 0 0 0 sz hs hB, ?_⟩
          rw [if_pos rfl]
          exact .sliceNil
      · cases h
    · cases h
  · cases h


/-! parts of structs -/
theorem apart_sound {t : TypeId} {cs cs' : Array Value} {off : Nat} {v : Value} (h : apart P t cs off = some v) (hl : LRep D σ cs.toList cs'.toList) :
    ∃ v', (part t cs' off).run P w = .ok v' w ∧ VRep D σ v v' := by
  unfold apart at h
  split at h
  · rename_i d hd
    cases hA : isAggT d with
    | true =>
      rw [hA] at h
      simp only [cond_true] at h
      split at h
      · rename_i sz hs
        simp only [Option.some.injEq] at h
        subst h
        refine ⟨.agg (cs'.extract off (off + sz)), ?_, ?_⟩
        · simp only [part, Sem.run_bind, run_agg hd, hA, Result.andThen, if_true, run_size hs]; rfl
        · refine .mkAgg ?_
          simp only [Array.toList_extract, List.extract_eq_take_drop, Nat.add_sub_cancel_left]
          exact (hl.drop off).take sz
      · cases h
    | false =>
      rw [hA] at h
      simp only [cond_false] at h
      rw [← Array.getElem?_toList] at h
      obtain ⟨v', e', hv⟩ := hl.get? h
      rw [Array.getElem?_toList] at e'
      refine ⟨v', ?_, hv⟩
      simp only [part, Sem.run_bind, run_agg hd, hA, Result.andThen, Bool.false_eq_true, if_false, e']
      rfl
  · cases h

theorem afield_sound {t : TypeId} {x y v : Value} {f : Nat} (h : afield P t x f = some v) (hv : VRep D σ x y) :
    ∃ v', (Instr.field t y f).run P w = .ok v' w ∧ VRep D σ v v' := by
  unfold afield at h
  split at h
  · rename_i fields cs hu
    split at h
    · rename_i fl hf
      obtain ⟨cs', rfl, hl⟩ := hv.inv_agg
      obtain ⟨v', hrun, hv'⟩ := apart_sound (P := P) (w := w) h hl
      refine ⟨v', ?_, hv'⟩
      simp [Instr.field, run_underlying hu, hf, asAgg, hrun]
    · cases h
  · cases h

/-! building -/
theorem foldl_set (off : Nat) : ∀ (vs : List Value) (k : Nat) (cs : Array Value), off + k + vs.length ≤ cs.size →
    ((vs.zipIdx k).foldl (fun (cs : Array Value) (c, j) => cs.setIfInBounds (off + j) c) cs).toList = cs.toList.take (off + k) ++ vs ++ cs.toList.drop (off + k + vs.length) := by
  intro vs
  induction vs with
  | nil => intro k cs h; simp
  | cons v vs ih =>
    intro k cs h
    simp only [List.length_cons] at h
    simp only [List.zipIdx_cons, List.foldl_cons]
    rw [ih (k + 1) _ (by simp; omega)]
    simp only [Array.toList_setIfInBounds, List.length_cons]
    apply List.ext_getElem?
    intro i
    simp only [List.getElem?_append, List.length_append, List.length_take, List.length_set, Array.length_toList, List.getElem?_take, List.getElem?_drop, List.getElem?_set, List.length_cons]
    have e1 : min (off + (k + 1)) cs.size = off + k + 1 := by omega
    have e2 : min (off + k) cs.size = off + k := by omega
    rw [e1, e2]
    by_cases h1 : i < off + k
    · rw [if_pos (by omega), if_pos (by omega), if_pos (by omega), if_neg (by omega), if_pos (by omega), if_pos h1, if_pos h1]
    · by_cases h2 : i = off + k
      · subst h2
        rw [if_pos (by omega), if_pos (by omega), if_pos (by omega), if_pos rfl, if_pos (by omega), if_pos (by omega), if_neg (by omega)]
        simp
      · by_cases h3 : i < off + k + 1 + vs.length
        · rw [if_pos (by omega), if_neg (by omega), if_pos (by omega), if_neg (by omega)]
          rw [show i - (off + k) = (i - (off + k + 1)) + 1 by omega, List.getElem?_cons_succ]
        · rw [if_neg (by omega), if_neg (by omega), if_neg (by omega)]
          congr 1
          omega

theorem cells_size {x y : Value} (hu : isUnk x = false) (h : VRep D σ x y) : LRep D σ x.cells.toList y.cells.toList := by
  cases h with
  | unk v => simp [isUnk, Go.Proofs.YthhhmmildgijhaaGreatDoorAI.unk] at hu
  | agg ha h => exact .arr ha h
  | bool b => exact .cons (.bool b) .nil
  | int k n => exact .cons (.int k n) .nil
  | float k b h => exact .cons (.float k b h) .nil
  | fnan h => exact .cons (.fnan h) .nil
  | complex k a b => exact .cons (.complex k a b) .nil
  | string s => exact .cons (.string s) .nil
  | nilFunc => exact .cons .nilFunc .nil
  | nilIface => exact .cons .nilIface .nil
  | anyI n => simp [isUnk, anyInt] at hu
  | geI h => simp [isUnk, geInt] at hu
  | ltI h => simp [isUnk, ltInt] at hu
  | map h => exact .cons (.map h) .nil
  | mapNil => exact .cons .mapNil .nil
  | ptrNil => exact .cons .ptrNil .nil
  | ptr h => exact .cons (.ptr h) .nil
  | sliceNil => exact .cons .sliceNil .nil
  | slice a b c => exact .cons (.slice a b c) .nil
  | sliceU a b c d => exact .cons (.sliceU a b c d) .nil
  | func f a b c d => exact .cons (.func f a b c d) .nil
  | iface t h => exact .cons (.iface t h) .nil
  | tuple ha h => exact .cons (.tuple ha h) .nil

theorem fill_sound (place : Nat → Option (Nat × Nat)) : ∀ (parts parts' : List (Nat × Value)) (cs cs' out : Array Value),
    parts.map (·.1) = parts'.map (·.1) → LRep D σ (parts.map (·.2)) (parts'.map (·.2)) → (∀ p ∈ parts, isUnk p.2 = false) → LRep D σ cs.toList cs'.toList →
    Instr.fill place cs parts = some out → ∃ out', Instr.fill place cs' parts' = some out' ∧ LRep D σ out.toList out'.toList := by
  intro parts
  induction parts with
  | nil =>
    intro parts' cs cs' out h1 h2 h3 h4 h
    cases parts' with
    | nil => simp only [Instr.fill, Option.some.injEq] at h; subst h; exact ⟨cs', rfl, h4⟩
    | cons p ps => simp at h1
  | cons p parts ih =>
    intro parts' cs cs' out h1 h2 h3 h4 h
    cases parts' with
    | nil => simp at h1
    | cons p' parts' =>
      obtain ⟨i, v⟩ := p
      obtain ⟨i', v'⟩ := p'
      simp only [List.map_cons, List.cons.injEq] at h1 h2
      obtain ⟨rfl, h1⟩ := h1
      have hv : VRep D σ v v' := h2.rel (i := 0) rfl rfl
      have h2' : LRep D σ (parts.map (·.2)) (parts'.map (·.2)) := by simpa using h2.drop 1
      have hc := cells_size (h3 (i, v) (by simp)) hv
      have hsz : v.cells.size = v'.cells.size := hc.size
      have hcs : cs.size = cs'.size := h4.size
      unfold Instr.fill at h ⊢
      cases hp : place i with
      | none => rw [hp] at h; cases h
      | some os =>
        obtain ⟨off, size⟩ := os
        rw [hp] at h
        simp only at h ⊢
        split at h
        · cases h
        · rename_i hcond
          rw [← hsz, ← hcs, if_neg hcond]
          simp only [ne_eq, Bool.or_eq_true, decide_eq_true_eq, not_or, Decidable.not_not, Nat.not_lt, gt_iff_lt] at hcond
          refine ih parts' _ _ out h1 h2' (fun p hp => h3 p (by simp [hp])) ?_ h
          rw [← Array.foldl_toList, ← Array.foldl_toList, Array.toList_zipIdx, Array.toList_zipIdx, foldl_set off _ 0 _ (by simp; omega), foldl_set off _ 0 _ (by simp; omega)]
          have e : v.cells.toList.length = v'.cells.toList.length := by simpa using hsz
          rw [← e]
          exact ((h4.take _).append hc).append (h4.drop _)

theorem mapM_places {fields : List Field} {pl : List (Nat × Nat)} (h : fields.mapM (fun f => (szOf P f.type).map fun s => (f.offset, s)) = some pl) (w : World) :
    (fields.mapM (m := Sem) fun f => do pure (f.offset, ← sizeOf f.type)).run P w = .ok pl w := by
  induction fields generalizing pl with
  | nil => simp at h; subst h; rfl
  | cons f fs ih =>
    simp only [List.mapM_cons] at h ⊢
    cases h1 : szOf P f.type with
    | none => rw [h1] at h; simp at h
    | some s =>
      rw [h1] at h
      cases h2 : fs.mapM (fun f => (szOf P f.type).map fun s => (f.offset, s)) with
      | none => rw [h2] at h; simp at h
      | some pl2 =>
        rw [h2] at h
        simp at h
        subst h
        have ih' := ih h2
        simp only [bind_pure_comp] at ih' ⊢
        simp [run_size h1, ih']

theorem arr_mapM {α β : Type} (f : α → Sem β) (xs : Array α) {ys : List β} (h : (xs.toList.mapM f).run P w = .ok ys w) : (xs.mapM f).run P w = .ok ys.toArray w := by
  rw [Array.mapM_eq_mapM_toList]
  simp [h]

theorem abuild_sound {t : TypeId} {parts parts' : Array (Nat × Value)} {v : Value} (h : abuild P t parts.toList = some v)
    (h1 : parts.toList.map (·.1) = parts'.toList.map (·.1)) (h2 : LRep D σ (parts.toList.map (·.2)) (parts'.toList.map (·.2))) :
    ∃ v', (Instr.build t parts').run P w = .ok v' w ∧ VRep D σ v v' := by
  unfold abuild at h
  split at h
  · rename_i fields z hu hz
    split at h
    · rename_i pl hpl
      cases hb : plain z && parts.toList.all (fun p => !isUnk p.2) with
      | false => rw [hb] at h; cases h
      | true =>
        rw [hb] at h
        simp only [cond_true] at h
        simp only [Bool.and_eq_true] at hb
        split at h
        · rename_i cs hf
          simp only [Option.some.injEq] at h
          subst h
          obtain ⟨out, ho, hl⟩ := fill_sound (D := D) (σ := σ) _ parts.toList parts'.toList _ z.cells cs h1 h2 (fun p hp => by simpa using List.all_eq_true.1 hb.2 p hp) (plain_all hb.1) hf
          refine ⟨.agg out, ?_, .mkAgg hl⟩
          have hm : (fields.mapM (m := Sem) fun f => do pure (f.offset, ← sizeOf f.type)).run P w = .ok pl.toArray w := arr_mapM _ _ (mapM_places hpl w)
          simp only [Instr.build, Sem.run_bind, run_zero hz, run_underlying hu, Result.andThen, hm, ho]
          rfl
        · cases h
    · cases h
  · rename_i n e z hu hz
    split at h
    · rename_i s hs
      cases hb : plain z && parts.toList.all (fun p => !isUnk p.2) with
      | false => rw [hb] at h; cases h
      | true =>
        rw [hb] at h
        simp only [cond_true] at h
        simp only [Bool.and_eq_true] at hb
        split at h
        · rename_i cs hf
          simp only [Option.some.injEq] at h
          subst h
          obtain ⟨out, ho, hl⟩ := fill_sound (D := D) (σ := σ) _ parts.toList parts'.toList _ z.cells cs h1 h2 (fun p hp => by simpa using List.all_eq_true.1 hb.2 p hp) (plain_all hb.1) hf
          refine ⟨.agg out, ?_, .mkAgg hl⟩
          simp only [Instr.build, Sem.run_bind, run_zero hz, run_underlying hu, Result.andThen, run_size hs, ho]
          rfl
        · cases h
    · cases h
  · cases h


/-! comparisons -/
theorem aeqFields_sound {xs ys xs' ys' : Array Value} (hx : LRep D σ xs.toList xs'.toList) (hy : LRep D σ ys.toList ys'.toList) (d : Nat) : ∀ (fs : List Field) (b : Bool), aeqFields P xs ys fs = some b → (Op.eqFields (d + 1) xs' ys' fs).run P w = .ok b w := by
  intro fs
  induction fs with
  | nil => intro b h; simp only [aeqFields, Option.some.injEq] at h; subst h; simp [Op.eqFields]
  | cons f fs ih =>
    intro b h
    unfold aeqFields at h
    split at h
    · rename_i kk k a k' b' r hn hu h1 h2 h3
      cases hk : decide (k = k') with
      | false => rw [hk] at h; cases h
      | true =>
        rw [hk] at h
        simp only [cond_true, Option.some.injEq] at h
        subst h
        have hk := of_decide_eq_true hk
        subst hk
        obtain ⟨u, hu1, hu2⟩ := apart_sound (P := P) (w := w) h1 hx
        obtain ⟨v, hv1, hv2⟩ := apart_sound (P := P) (w := w) h2 hy
        obtain rfl := VRep.plain_eq 8 (by rfl) hu2
        obtain rfl := VRep.plain_eq 8 (by rfl) hv2
        have hn' : f.name ≠ "_" := by simpa using hn
        have he : (Op.equalIn (d + 1) f.type (.int k a) (.int k b')).run P w = .ok (a == b') w := by simp [Op.equalIn, run_underlying hu]
        have hr := ih r h3
        rw [Op.eqFields]
        simp only [if_pos hn', Sem.run_bind, hu1, hv1, he, Result.andThen_ok]
        cases a == b'
        · simp
        · simpa using hr
    · cases h

set_option maxHeartbeats 2000000 in
theorem aeq_sound (hr : Rep base D σ g w) {t : TypeId} {x y x' y' : Value} {b : Bool} (h : aeq P t x y g = some b) (hx : VRep D σ x x') (hy : VRep D σ y y') :
    (∀ d, (Op.equalIn (d + 2) t x' y').run P w = .ok b w) ∧ ∀ (op : BinOp) (p q : Operand), (eqGuard op t p q x' y').run P w = .ok () w := by
  have guard : ∀ (u v : Value), (u = .nilIface → v ≠ .nilIface) → (∀ cs, u ≠ .agg cs) → ∀ (op : BinOp) (p q : Operand), (eqGuard op t p q u v).run P w = .ok () w := by
    intro u v h1 h2 op p q
    unfold eqGuard
    cases u <;> cases v <;> first
      | exact absurd rfl (h2 _)
      | exact absurd rfl (h1 rfl)
      | (cases op <;> rfl)
  unfold aeq at h
  split at h
  · rename_i e n i hu
    simp only [Option.some.injEq] at h; subst h
    obtain rfl := hx.inv_ptrNil
    obtain ⟨hD, rfl⟩ := hy.inv_ptr
    exact ⟨fun d => by simp [Op.equalIn, run_underlying hu], guard _ _ (by simp) (by simp)⟩
  · rename_i e n i hu
    simp only [Option.some.injEq] at h; subst h
    obtain rfl := hy.inv_ptrNil
    obtain ⟨hD, rfl⟩ := hx.inv_ptr
    exact ⟨fun d => by simp [Op.equalIn, run_underlying hu], guard _ _ (by simp) (by simp)⟩
  · rename_i e n i m j hu
    obtain ⟨hD, rfl⟩ := hx.inv_ptr
    obtain ⟨hD', rfl⟩ := hy.inv_ptr
    refine ⟨?_, guard _ _ (by simp) (by simp)⟩
    split at h
    · rename_i k hk
      have red : ∀ d, (Op.equalIn (d + 2) t (.pointer (some ⟨(σ n).blk, (σ n).off + i, none⟩)) (.pointer (some ⟨(σ m).blk, (σ m).off + j, none⟩))).run P w = (sameAddr ⟨(σ n).blk, (σ n).off + i, none⟩ ⟨(σ m).blk, (σ m).off + j, none⟩).run P w := fun d => by
        simp [Op.equalIn, run_underlying hu, run_size hk]
      intro d
      rw [red]
      cases hb : Nat.beq n m with
      | true =>
        rw [hb] at h
        simp only [cond_true, Option.some.injEq] at h
        obtain rfl := Nat.eq_of_beq_eq_true hb
        subst h
        simp only [sameAddr, beq_self_eq_true, if_true]
        show Result.ok ((⟨(σ n).blk, (σ n).off + i, none⟩ : Addr) == ⟨(σ n).blk, (σ n).off + j, none⟩) w = _
        congr 1
        cases he : Nat.beq i j with
        | true => rw [Nat.eq_of_beq_eq_true he]; simp
        | false =>
          rw [beq_eq_false_iff_ne]
          intro e
          simp only [Addr.mk.injEq] at e
          have : i = j := by omega
          subst this
          simp at he
      | false =>
        rw [hb] at h
        simp only [cond_false] at h
        split at h
        · rename_i c1 e1 s1 g1 c2 e2 s2 g2 h1 h2
          simp only [Option.some.injEq] at h
          subst h
          have hne : n ≠ m := fun e => by subst e; simp at hb
          obtain ⟨_, C1, t1, fr1, r1⟩ := hr.object h1
          obtain ⟨_, C2, t2, fr2, r2⟩ := hr.object h2
          obtain ⟨rfl, rfl⟩ := r1.mine rfl
          obtain ⟨rfl, rfl⟩ := r2.mine rfl
          have hblk := hr.inj n m (.cells h1) (.cells h2) hne
          have f1 : ∀ o, w.frozen? ⟨(σ n).blk, o, none⟩ = false := fun o => by simp [World.frozen?, r1.heap]
          have f2 : ∀ o, w.frozen? ⟨(σ m).blk, o, none⟩ = false := fun o => by simp [World.frozen?, r2.heap]
          have s1' : w.shape? (σ n).blk = some (t1, C1.size) := by simp [World.shape?, r1.heap]
          have s2' : w.shape? (σ m).blk = some (t2, C2.size) := by simp [World.shape?, r2.heap]
          simp [sameAddr, hblk, f1, f2, noView, viewAt, s1', s2', mayBeOne, stringish]
        · cases h
    · cases h
  · rename_i e n c a hu
    simp only [Option.some.injEq] at h; subst h
    obtain ⟨_, _, rfl⟩ := hx.inv_sliceNil
    obtain ⟨a', cap', rfl, _, hs, _⟩ := hy.inv_anySlice
    cases a' with
    | none => simp at hs
    | some a' => exact ⟨fun d => by simp [Op.equalIn, run_underlying hu], guard _ _ (by simp) (by simp)⟩
  · rename_i e a n c hu
    simp only [Option.some.injEq] at h; subst h
    obtain ⟨_, _, rfl⟩ := hy.inv_sliceNil
    obtain ⟨a', cap', rfl, _, hs, _⟩ := hx.inv_anySlice
    cases a' with
    | none => simp at hs
    | some a' => exact ⟨fun d => by simp [Op.equalIn, run_underlying hu], guard _ _ (by simp) (by simp)⟩
  · rename_i hu
    simp only [Option.some.injEq] at h; subst h
    obtain ⟨_, _, rfl, _⟩ := hy.inv_func
    cases hx
    exact ⟨fun d => by simp [Op.equalIn, run_underlying hu], guard _ _ (by simp) (by simp)⟩
  · rename_i hu
    simp only [Option.some.injEq] at h; subst h
    obtain ⟨_, _, rfl, _⟩ := hx.inv_func
    cases hy
    exact ⟨fun d => by simp [Op.equalIn, run_underlying hu], guard _ _ (by simp) (by simp)⟩
  · rename_i hu
    simp only [Option.some.injEq] at h; subst h
    obtain ⟨_, rfl, _⟩ := hy.inv_iface
    cases hx
    exact ⟨fun d => by simp [Op.equalIn, run_underlying hu], guard _ _ (by simp) (by simp)⟩
  · rename_i hu
    simp only [Option.some.injEq] at h; subst h
    obtain ⟨_, rfl, _⟩ := hx.inv_iface
    cases hy
    exact ⟨fun d => by simp [Op.equalIn, run_underlying hu], guard _ _ (by simp) (by simp)⟩
  · rename_i hu
    simp only [Option.some.injEq] at h; subst h
    obtain rfl := hx.inv_ptrNil
    obtain rfl := hy.inv_ptrNil
    exact ⟨fun d => by simp [Op.equalIn, run_underlying hu], guard _ _ (by simp) (by simp)⟩
  · rename_i hu
    simp only [Option.some.injEq] at h; subst h
    obtain ⟨_, _, rfl⟩ := hx.inv_sliceNil
    obtain ⟨_, _, rfl⟩ := hy.inv_sliceNil
    exact ⟨fun d => by simp [Op.equalIn, run_underlying hu], guard _ _ (by simp) (by simp)⟩
  · rename_i fields xs ys hu
    cases hb : aggOk P t with
    | false => rw [hb] at h; cases h
    | true =>
      rw [hb] at h
      simp only [cond_true] at h
      unfold aggOk at hb
      simp only [Bool.and_eq_true, Bool.not_eq_true'] at hb
      obtain ⟨xs', rfl, hlx⟩ := hx.inv_agg
      obtain ⟨ys', rfl, hly⟩ := hy.inv_agg
      have hf : P.fieldsOf t = fields := by simp [Program.fieldsOf, hu]
      refine ⟨fun d => ?_, fun op p q => ?_⟩
      · rw [show d + 2 = (d + 1) + 1 from rfl, run_equalIn_struct (P := P) w (d + 1) t xs' ys' (by rw [hf]; exact hu) hb.1, hf]
        exact aeqFields_sound hlx hly d _ _ h
      · unfold eqGuard
        cases op <;> simp [hb.2]
  · cases h

theorem atypeAssert_sound {x y v : Value} {xt asserted : TypeId} {ok : Bool} (h : atypeAssert P x asserted ok = some v) (hv : VRep D σ x y) :
    ∃ v', (Instr.typeAssert y xt asserted ok).run P w = .ok v' w ∧ VRep D σ v v' := by
  have two : ∀ {a b : Value} {c : Bool}, VRep D σ a b → VRep D σ (.tuple #[a, .bool c]) (.tuple #[b, .bool c]) := fun h =>
    .mkTuple (.cons h (.cons (.bool _) .nil))
  unfold atypeAssert at h
  split at h
  · rename_i want t x hu
    obtain ⟨y, rfl, hy⟩ := hv.inv_iface
    split at h
    · rename_i i hi
      split at h
      · rename_i hm
        simp only [Option.some.injEq] at h
        subst h
        cases ok with
        | true => exact ⟨.tuple #[.iface t y, .bool true], by simp [Instr.typeAssert, run_underlying hu, run_info hi, hm], two (.iface t hy)⟩
        | false => exact ⟨.iface t y, by simp [Instr.typeAssert, run_underlying hu, run_info hi, hm], .iface t hy⟩
      · cases h
    · cases h
  · rename_i d hu
    obtain rfl : y = .nilIface := by cases hv; rfl
    cases ok with
    | false => simp at h
    | true =>
      simp only [cond_true] at h
      split at h
      · rename_i z hz
        cases hp : plain z with
        | false => rw [hp] at h; cases h
        | true =>
          rw [hp] at h
          simp only [cond_true, Option.some.injEq] at h
          subst h
          refine ⟨.tuple #[z, .bool false], ?_, two (VRep.plain_refl 8 hp)⟩
          simp only [Instr.typeAssert, Sem.run_bind, run_underlying hu, Result.andThen_ok]
          split <;> simp_all [run_zero hz]
      · cases h
  · rename_i d t x hd hu
    obtain ⟨y, rfl, hy⟩ := hv.inv_iface
    have red : ∀ r : Result Value, (if t = asserted then (if ok = true then (Result.ok (.tuple #[y, .bool true]) w) else .ok y w) else (if ok = true then ((zeroValue asserted).run P w).andThen (fun z w => .ok (.tuple #[z, .bool false]) w) else r)) = r ∨ True := fun _ => .inr trivial
    cases hb : Nat.beq t asserted with
    | true =>
      obtain rfl := Nat.eq_of_beq_eq_true hb
      rw [hb] at h
      simp only [cond_true, Option.some.injEq] at h
      subst h
      cases ok with
      | true =>
        refine ⟨.tuple #[y, .bool true], ?_, two hy⟩
        simp only [Instr.typeAssert, Sem.run_bind, run_underlying hu, Result.andThen_ok]
        split <;> simp_all
      | false =>
        refine ⟨y, ?_, hy⟩
        simp only [Instr.typeAssert, Sem.run_bind, run_underlying hu, Result.andThen_ok]
        split <;> simp_all
    | false =>
      have hne : t ≠ asserted := fun e => by subst e; simp at hb
      rw [hb] at h
      simp only [cond_false] at h
      cases ok with
      | false => cases h
      | true =>
        simp only [cond_true] at h
        split at h
        · rename_i z hz
          cases hp : plain z with
          | false => rw [hp] at h; cases h
          | true =>
            rw [hp] at h
            simp only [cond_true, Option.some.injEq] at h
            subst h
            refine ⟨.tuple #[z, .bool false], ?_, two (VRep.plain_refl 8 hp)⟩
            simp only [Instr.typeAssert, Sem.run_bind, run_underlying hu, Result.andThen_ok]
            split <;> simp_all [run_zero hz]
        · cases h
  · cases h

end
end Go.Proofs.YthhhmmildgijhaaGreatDoorAI
