/- Maps that are made and written, walks over maps and strings: what the interpreter answers, the model answers. -/
import Derived.Test.YthhhmmildgijhaaGreatDoorAI61
set_option linter.unusedVariables false
set_option linter.unusedSimpArgs false
namespace Go.Proofs.YthhhmmildgijhaaGreatDoorAI
open Go

section
variable {P : Program} {base : Nat} {D : Nat → Prop} {σ : Sig} {g : Nat → Option AObj} {w : World}

/-- What an operation on memory does. -/
def MemOK (P : Program) (base : Nat) (σ : Sig) (h : Heap) (w : World) (s : Sem Value) (v : Value) (h' : Heap) : Prop :=
  ∃ v' w' σ', s.run P w = .ok v' w' ∧ Moves base (· < h.next) σ h.get w (· < h'.next) σ' h'.get w' ∧ VRep (· < h'.next) σ' v v'

theorem amakeMap_sound {h h' : Heap} (hr : Rep base (· < h.next) σ h.get w) {t : TypeId} {r : Option Operand} {ρ ρ' : Operand → Value} {v : Value} (hρ : ∀ x, VRep (· < h.next) σ (ρ x) (ρ' x)) (ha : amakeMap P t (r.map ρ) h = some (v, h')) :
    MemOK P base σ h w (Instr.makeMap t (r.map ρ')) v h' := by
  have hm := new_oth hr (y := .map [] 0) (o := .map #[] 0) (.map 0 rfl (fun i e e' h1 => by simp at h1))
  have hv : VRep (· < (h.new (.oth (.map [] 0))).next) (σ.upd h.next ⟨w.heap.size, 0, 0⟩) (.map (some h.next)) (.map (some w.heap.size)) := by
    have := VRep.map (D := (· < (h.new (.oth (.map [] 0))).next)) (σ := σ.upd h.next ⟨w.heap.size, 0, 0⟩) (n := h.next) (by show h.next < h.next + 1; omega)
    rwa [Sig.upd_same] at this
  unfold amakeMap at ha
  cases r with
  | none =>
    simp only [Option.map_none, Option.some.injEq, Prod.mk.injEq] at ha
    obtain ⟨rfl, rfl⟩ := ha
    exact ⟨_, _, _, rfl, hm, hv⟩
  | some x =>
    simp only [Option.map_some] at ha
    split at ha
    · rename_i e; cases e
    · rename_i k n e
      simp only [Option.some.injEq] at e
      have hx := hρ x
      rw [e] at hx
      split at ha
      · rename_i key elem hu
        simp only [Option.some.injEq, Prod.mk.injEq] at ha
        obtain ⟨rfl, rfl⟩ := ha
        refine ⟨_, _, _, ?_, hm, hv⟩
        simp [Instr.makeMap, run_underlying hu, hx.inv_int, asInt, asIntOf]
      · cases ha
    · cases ha

theorem amapUpdate_sound {h h' : Heap} (hr : Rep base (· < h.next) σ h.get w) {t : TypeId} {m k x m' k' x' : Value} (ha : amapUpdate P t m k x h = some h') (hm : VRep (· < h.next) σ m m') (hk : VRep (· < h.next) σ k k') (hx : VRep (· < h.next) σ x x') :
    ∃ w', (Instr.mapUpdate t m' k' x').run P w = .ok () w' ∧ Moves base (· < h.next) σ h.get w (· < h'.next) σ h'.get w' := by
  unfold amapUpdate at ha
  split at ha
  · rename_i key elem n hu
    obtain ⟨_, rfl⟩ := hm.inv_map
    split at ha
    · rename_i kd es clock hkd hg
      cases hkk : keyKind kd with
      | false => rw [hkk] at ha; cases ha
      | true =>
        rw [hkk] at ha
        simp only [cond_true] at ha
        obtain ⟨hD, h0, o0, hb, hrep⟩ := hr.oth n _ hg
        cases hrep with
        | @map _ es' _ hl he =>
          have hgo : (getObj (σ n).blk).run P w = .ok (.map es' clock) w := run_getObj_oth hb (by intro _ _ _ h; cases h)
          have hset : ∀ o, (setObj (σ n).blk o).run P w = .ok () { w with heap := w.heap.setIfInBounds (σ n).blk o } := fun o => run_setObj_oth hb (by intro _ _ _ h; cases h)
          have hc : (Instr.checkKey false 10000 key k').run P w = .ok () w := run_checkKey hkd hkk
          have hl' : es.length = es'.toList.length := by simpa using hl
          have he' : ∀ (j : Nat) (e e' : MapEntry), es[j]? = some e → es'.toList[j]? = some e' → ERep (· < h.next) σ e e' := fun j e e' h1 h2 => he j e e' h1 (by simpa using h2)
          split at ha
          · rename_i i u hf
            split at ha
            · rename_i e hei
              simp only [Option.some.injEq] at ha; subst ha
              rcases findNow_rep hk es es'.toList 0 _ hl' he' hf with ⟨h1, _⟩ | ⟨j, v, v', h1, h2, h3⟩
              · cases h1
              · simp only [Option.some.injEq, Prod.mk.injEq] at h1
                obtain ⟨rfl, rfl⟩ := h1
                obtain ⟨e1, _, hei', hv1, hsame⟩ := findNow_at _ _ _ _ h2
                simp only [Nat.sub_zero, Array.getElem?_toList] at hei'
                have hfk : (Instr.findKey key k' es'.toList).run P w = .ok (some (i, v')) w := run_findKey hkd h2
                have hstay : (Instr.keyThatStays e1.key k').run P w = .ok k' w := by simp [Instr.keyThatStays, sameBits_of hsame]
                have hrepN : ORep (· < h.next) σ (.map (es.set i ⟨k, x, e.born⟩) clock) (.map (es'.modify i fun e => { e with key := k', val := x' }) clock) := by
                  refine .map clock (by simpa using hl) fun j a b h1 h2 => ?_
                  rw [List.getElem?_set] at h1
                  rw [Array.getElem?_modify] at h2
                  split at h1
                  · rename_i hij
                    subst hij
                    split at h1
                    · simp only [Option.some.injEq] at h1; subst h1
                      simp only [if_true, hei', Option.map_some, Option.some.injEq] at h2; subst h2
                      exact ⟨hk, hx, (he _ _ _ hei hei').born⟩
                    · cases h1
                  · rename_i hij
                    rw [if_neg hij] at h2
                    exact he _ _ _ h1 h2
                refine ⟨_, ?_, put_oth hr hg hrepN⟩
                have hget : ((es'[i]?).map (·.key)).getD k' = e1.key := by rw [hei']; rfl
                simp [Instr.mapUpdate, run_underlying hu, hgo, hc, hfk, hget, hstay, hset]
            · cases ha
          · rename_i hf
            simp only [Option.some.injEq] at ha; subst ha
            rcases findNow_rep hk es es'.toList 0 _ hl' he' hf with ⟨_, h2⟩ | ⟨j, v, v', h1, _⟩
            · have hfk : (Instr.findKey key k' es'.toList).run P w = .ok none w := run_findKey hkd h2
              have hrepN : ORep (· < h.next) σ (.map (es ++ [⟨k, x, clock⟩]) (clock + 1)) (.map (es'.push ⟨k', x', clock⟩) (clock + 1)) := by
                refine .map (clock + 1) (by simp [hl]) fun j a b h1 h2 => ?_
                rw [List.getElem?_append] at h1
                rw [Array.getElem?_push] at h2
                rw [← hl] at h2
                split at h1
                · rename_i hj
                  rw [if_neg (by omega)] at h2
                  exact he _ _ _ h1 h2
                · rename_i hj
                  by_cases hjl : j = es.length
                  · subst hjl
                    simp only [Nat.sub_self, List.getElem?_cons_zero, Option.some.injEq] at h1; subst h1
                    simp only [if_true, Option.some.injEq] at h2; subst h2
                    exact ⟨hk, hx, rfl⟩
                  · have : j - es.length ≠ 0 := by omega
                    obtain ⟨q, hq⟩ : ∃ q, j - es.length = q + 1 := ⟨j - es.length - 1, by omega⟩
                    rw [hq] at h1; simp at h1
              refine ⟨_, ?_, put_oth hr hg hrepN⟩
              simp [Instr.mapUpdate, run_underlying hu, hgo, hc, hfk, hset]
            · cases h1
          · cases ha
    · cases ha
  · cases ha

theorem rep_new_at {h : Heap} {y : AOth} (k : Nat) : VRep (· < (h.new (.oth y)).next) (σ.upd h.next ⟨k, 0, 0⟩) (.pointer (some ⟨h.next, 0, none⟩)) (.pointer (some ⟨k, 0, none⟩)) := by
  have := VRep.ptr (D := (· < (h.new (.oth y)).next)) (σ := σ.upd h.next ⟨k, 0, 0⟩) (n := h.next) (off := 0) (by show h.next < h.next + 1; omega)
  rwa [Sig.upd_same] at this

theorem arange_sound {h h' : Heap} (hr : Rep base (· < h.next) σ h.get w) {t : TypeId} {x x' v : Value} (ha : arange P t x h = some (v, h')) (hx : VRep (· < h.next) σ x x') : MemOK P base σ h w (Instr.range t x') v h' := by
  unfold arange at ha
  split at ha
  · rename_i s hu
    obtain rfl := hx.inv_string
    simp only [Option.some.injEq, Prod.mk.injEq] at ha
    obtain ⟨rfl, rfl⟩ := ha
    refine ⟨_, _, _, ?_, new_oth hr (.iter s 0), rep_new_at _⟩
    simp [Instr.range, run_underlying hu]
  · rename_i key elem hu
    obtain rfl := hx.inv_mapNil
    simp only [Option.some.injEq, Prod.mk.injEq] at ha
    obtain ⟨rfl, rfl⟩ := ha
    refine ⟨_, _, _, ?_, new_oth hr (.miterNil 0 [] 0), rep_new_at _⟩
    simp [Instr.range, run_underlying hu]
  · rename_i key elem n hu
    obtain ⟨_, rfl⟩ := hx.inv_map
    split at ha
    · rename_i es clock hg
      simp only [Option.some.injEq, Prod.mk.injEq] at ha
      obtain ⟨rfl, rfl⟩ := ha
      obtain ⟨hD, h0, o0, hb, hrep⟩ := hr.oth n _ hg
      cases hrep with
      | @map _ es' _ hl he =>
        have hgo : (getObj (σ n).blk).run P w = .ok (.map es' clock) w := run_getObj_oth hb (by intro _ _ _ h; cases h)
        refine ⟨_, _, _, ?_, new_oth hr (ORep.miter (D := (· < h.next)) (σ := σ) hD clock [] clock), rep_new_at _⟩
        simp [Instr.range, run_underlying hu, hgo]
    · cases ha
  · cases ha

theorem filter_rep {D : Nat → Prop} (p : Nat → Bool) : ∀ (es es' : List MapEntry), es.length = es'.length → (∀ (j : Nat) (e e' : MapEntry), es[j]? = some e → es'[j]? = some e' → ERep D σ e e') →
    (es.filter fun e => p e.born).length = (es'.filter fun e => p e.born).length ∧ ∀ (j : Nat) (e e' : MapEntry), (es.filter fun e => p e.born)[j]? = some e → (es'.filter fun e => p e.born)[j]? = some e' → ERep D σ e e'
  | [], [], _, _ => ⟨rfl, fun j e e' h1 => by simp at h1⟩
  | [], _ :: _, hl, _ => by simp at hl
  | _ :: _, [], hl, _ => by simp at hl
  | e :: es, e' :: es', hl, he => by
    have h0 := he 0 e e' rfl rfl
    obtain ⟨ih1, ih2⟩ := filter_rep p es es' (by simpa using hl) fun j a b h1 h2 => he (j + 1) a b (by simpa using h1) (by simpa using h2)
    simp only [List.filter_cons, ← h0.born]
    cases p e.born with
    | false => exact ⟨ih1, ih2⟩
    | true =>
      simp only [if_true, List.length_cons]
      refine ⟨by rw [ih1], fun j a b h1 h2 => ?_⟩
      cases j with
      | zero => simp only [List.getElem?_cons_zero, Option.some.injEq] at h1 h2; subst h1; subst h2; exact h0
      | succ j => exact ih2 j a b (by simpa using h1) (by simpa using h2)

theorem all_rep {D : Nat → Prop} (p : Nat → Bool) : ∀ (es es' : List MapEntry), es.length = es'.length → (∀ (j : Nat) (e e' : MapEntry), es[j]? = some e → es'[j]? = some e' → ERep D σ e e') →
    (es.all fun e => p e.born) = (es'.all fun e => p e.born)
  | [], [], _, _ => rfl
  | [], _ :: _, hl, _ => by simp at hl
  | _ :: _, [], hl, _ => by simp at hl
  | e :: es, e' :: es', hl, he => by
    have h0 := he 0 e e' rfl rfl
    simp only [List.all_cons, ← h0.born]
    rw [all_rep p es es' (by simpa using hl) fun j a b h1 h2 => he (j + 1) a b (by simpa using h1) (by simpa using h2)]

theorem anext_sound {h h' : Heap} (hr : Rep base (· < h.next) σ h.get w) {x x' v : Value} {isStr : Bool} {ty : TypeId} (ha : anext x isStr h = some (v, h')) (hx : VRep (· < h.next) σ x x') : MemOK P base σ h w (Instr.next x' isStr ty) v h' := by
  unfold anext at ha
  split at ha
  · rename_i r
    obtain ⟨hD, rfl⟩ := hx.inv_ptr
    rw [Nat.add_zero]
    split at ha
    · rename_i s pos hg
      obtain ⟨_, h0, o0, hb, hrep⟩ := hr.oth r _ hg
      cases hrep with
      | iter =>
        have hgo := run_getObj_oth (P := P) hb (by intro _ _ _ h; cases h)
        have hset : ∀ o, (setObj (σ r).blk o).run P w = .ok () { w with heap := w.heap.setIfInBounds (σ r).blk o } := fun o => run_setObj_oth hb (by intro _ _ _ h; cases h)
        rw [h0]
        cases hlt : Nat.blt pos s.size with
        | true =>
          rw [hlt] at ha
          simp only [cond_true] at ha
          generalize hdc : Utf8.decode s pos = q at ha
          obtain ⟨c, wd⟩ := q
          simp only [Option.some.injEq, Prod.mk.injEq] at ha
          obtain ⟨rfl, rfl⟩ := ha
          have hlt' := blt_lt hlt
          refine ⟨.tuple #[.bool true, goInt pos, .int .i32 c], _, σ, ?_, put_oth hr hg (.iter s (pos + wd)), .mkTuple (.cons (.bool _) (.cons (.int _ _) (.cons (.int _ _) .nil)))⟩
          simp [Instr.next, hgo, hlt', hdc, hset]
        | false =>
          rw [hlt] at ha
          simp only [cond_false, Option.some.injEq, Prod.mk.injEq] at ha
          obtain ⟨rfl, rfl⟩ := ha
          have hlt' := blt_ge hlt
          refine ⟨.tuple #[.bool false], w, σ, ?_, .refl hr, .mkTuple (.cons (.bool _) .nil)⟩
          simp [Instr.next, hgo, show ¬ pos < s.size by omega]
    · rename_i since seen last hg
      obtain ⟨_, h0, o0, hb, hrep⟩ := hr.oth r _ hg
      simp only [Option.some.injEq, Prod.mk.injEq] at ha
      obtain ⟨rfl, rfl⟩ := ha
      cases hrep with
      | miterNil =>
        have hgo := run_getObj_oth (P := P) hb (by intro _ _ _ h; cases h)
        rw [h0]
        exact ⟨.tuple #[.bool false], w, σ, by simp [Instr.next, hgo], .refl hr, .mkTuple (.cons (.bool _) .nil)⟩
    · rename_i m since seen last hg
      obtain ⟨_, h0, o0, hb, hrep⟩ := hr.oth r _ hg
      cases hrep with
      | miter hDm =>
        split at ha
        · rename_i es clock hgm
          obtain ⟨_, _, o1, hb1, hrep1⟩ := hr.oth m _ hgm
          cases hrep1 with
          | @map _ es' _ hl he =>
            have hgo := run_getObj_oth (P := P) hb (by intro _ _ _ h; cases h)
            have hgo1 := run_getObj_oth (P := P) hb1 (by intro _ _ _ h; cases h)
            have hset : ∀ o, (setObj (σ r).blk o).run P w = .ok () { w with heap := w.heap.setIfInBounds (σ r).blk o } := fun o => run_setObj_oth hb (by intro _ _ _ h; cases h)
            have hl' : es.length = es'.toList.length := by simpa using hl
            have he' : ∀ (j : Nat) (e e' : MapEntry), es[j]? = some e → es'.toList[j]? = some e' → ERep (· < h.next) σ e e' := fun j e e' h1 h2 => he j e e' h1 (by simpa using h2)
            rw [h0]
            cases hbad : (!seen.isEmpty && !es.isEmpty && es.all (fun e => Nat.ble last e.born)) with
            | true => rw [hbad] at ha; cases ha
            | false =>
              rw [hbad] at ha
              simp only [cond_false] at ha
              have hall : (es'.toList.all fun e => decide (e.born ≥ last)) = es.all (fun e => Nat.ble last e.born) := by
                have := all_rep (fun b => Nat.ble last b) es es'.toList hl' he'
                rw [this]
                congr 1
                funext e
                rw [Bool.eq_iff_iff]; simp [Nat.ble_eq]
              have hbad' : (!seen.toArray.isEmpty && !es'.isEmpty && es'.all (fun e => decide (e.born ≥ last))) = false := by
                rw [← hbad, ← hall]
                have : es'.isEmpty = es.isEmpty := by rw [Bool.eq_iff_iff]; simp [← Array.size_eq_zero_iff, ← hl]
                rw [this]
                simp
              obtain ⟨hf1, hf2⟩ := filter_rep (fun b => !seen.contains b) es es'.toList hl' he'
              have hleft : es'.filter (fun e => !seen.toArray.contains e.born) = (es'.toList.filter (fun e => !seen.contains e.born)).toArray := by
                apply Array.ext'
                simp
              have step : ∀ (L : List MapEntry), es'.toList.filter (fun e => !seen.contains e.born) = L → (Instr.next (.pointer (some ⟨(σ r).blk, 0, none⟩)) false ty).run P w = (do
                  let left := L.toArray
                  let old := left.filter (·.born < since)
                  let new := left.filter (·.born ≥ since)
                  let candidates := (if old.isEmpty then #[none] else #[]) ++ (old ++ new).map some
                  match candidates[← choose (.mapNext candidates.size)]? with
                  | some (some e) =>
                    setObj (σ r).blk (.mapIter (some (σ m).blk) since (seen.toArray.push e.born) clock)
                    pure (.tuple #[.bool true, e.key, e.val])
                  | some none => pure (.tuple #[.bool false])
                  | none => stuck "Next: no such candidate" : Sem Value).run P w := by
                intro L hL
                have hleft' : es'.filter (fun e => !seen.toArray.contains e.born) = L.toArray := hleft.trans (by rw [hL])
                simp only [Instr.next, Sem.run_bind, hgo, hgo1, Result.andThen_ok, hbad', hleft', Bool.false_eq_true, if_false]
                rfl
              split at ha
              · rename_i hnil
                simp only [Option.some.injEq, Prod.mk.injEq] at ha
                obtain ⟨rfl, rfl⟩ := ha
                rw [hnil] at hf1
                have e0 : es'.toList.filter (fun e => !seen.contains e.born) = [] := List.eq_nil_of_length_eq_zero hf1.symm
                refine ⟨.tuple #[.bool false], w, σ, ?_, .refl hr, .mkTuple (.cons (.bool _) .nil)⟩
                rw [step _ e0]
                simp [Question.forced]
              · rename_i e hone
                cases hlt : Nat.blt e.born since with
                | false => rw [hlt] at ha; cases ha
                | true =>
                  rw [hlt] at ha
                  simp only [cond_true, Option.some.injEq, Prod.mk.injEq] at ha
                  obtain ⟨rfl, rfl⟩ := ha
                  have hlt' := blt_lt hlt
                  rw [hone] at hf1 hf2
                  cases hL : es'.toList.filter (fun e => !seen.contains e.born) with
                  | nil => rw [hL] at hf1; cases hf1
                  | cons e' rest =>
                    rw [hL] at hf1 hf2
                    have hrest : rest = [] := by
                      simp only [List.length_cons, List.length_nil] at hf1
                      exact List.eq_nil_of_length_eq_zero (by omega)
                    subst hrest
                    have hee := hf2 0 e e' rfl rfl
                    have hborn : e'.born < since := by rw [← hee.born]; exact hlt'
                    refine ⟨.tuple #[.bool true, e'.key, e'.val], _, σ, ?_, put_oth hr hg (o := .mapIter (some (σ m).blk) since (seen ++ [e.born]).toArray clock) (ORep.miter (D := (· < h.next)) (σ := σ) hDm since (seen ++ [e.born]) clock), .mkTuple (.cons (.bool _) (.cons hee.key (.cons hee.val .nil)))⟩
                    rw [step _ hL]
                    simp [Question.forced, hborn, show ¬ e'.born ≥ since by omega, hset, hee.born]
              · cases ha
        · cases ha
    · cases ha
  · cases ha

end
end Go.Proofs.YthhhmmildgijhaaGreatDoorAI
