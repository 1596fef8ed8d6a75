/- Operations on maps, on walks over them and over strings, on memory that is seen as bytes: what the interpreter answers, the model answers. -/
import Derived.Test.YthhhmmildgijhaaGreatDoorAI6
import Derived.Lib.UnsafeStr
import Derived.Lib.Props
set_option linter.unusedVariables false
set_option linter.unusedSimpArgs false
namespace Go.Proofs.YthhhmmildgijhaaGreatDoorAI
open Go

section
variable {P : Program} {base : Nat} {D : Nat → Prop} {σ : Sig} {g : Nat → Option AObj} {w : World}

/-! ### 1. Objects that are no cells -/
theorem new_oth {h : Heap} (hr : Rep base (· < h.next) σ h.get w) {y : AOth} {o : Obj} (ho : ORep (· < h.next) σ y o) :
    Moves base (· < h.next) σ h.get w (· < (h.new (.oth y)).next) (σ.upd h.next ⟨w.heap.size, 0, 0⟩) (h.new (.oth y)).get (w.alloc o) := by
  have hm := hr.allocAny (n := h.next) (Nat.lt_irrefl _) (x := .oth y) (o := o) 0 rfl (fun c e s gr ro he => by cases he) (fun y' e => by cases e; exact ho)
  have hg : (h.new (.oth y)).get = fun m => if m = h.next then some (.oth y) else h.get m := by funext m; rw [Heap.get_new]
  rw [D_succ] at hm
  rw [hg]; exact hm

theorem put_oth {h : Heap} (hr : Rep base (· < h.next) σ h.get w) {n : Nat} {y0 y : AOth} {o : Obj} (hg : h.get n = some (.oth y0)) (ho : ORep (· < h.next) σ y o) :
    Moves base (· < h.next) σ h.get w (· < (h.put n (some (.oth y))).next) σ (h.put n (some (.oth y))).get { w with heap := w.heap.setIfInBounds (σ n).blk o } := by
  obtain ⟨hD, h0, o0, hb, _⟩ := hr.oth n y0 hg
  have hlt := (Array.getElem?_eq_some_iff.1 hb).1
  have hm := hr.turn (w' := { w with heap := w.heap.setIfInBounds (σ n).blk o }) (.oth hg) (x := .oth y) rfl (by simp) rfl rfl rfl
    (fun b hne => by simp only [Array.getElem?_setIfInBounds]; rw [if_neg (by omega)]) (fun c e s gr ro he => by cases he)
    (fun y' e => by cases e; exact ⟨h0, o, by simp only [Array.getElem?_setIfInBounds]; simp [hlt], ho⟩)
  have hgp : (h.put n (some (.oth y))).get = fun m => if m = n then some (.oth y) else h.get m := by
    funext m; rw [Heap.get_put (Heap.own_ge hg rfl) hD]
  rw [hgp]; exact hm

theorem run_setObj_oth {r : Nat} {o0 o : Obj} (hb : w.heap[r]? = some o0) (hc : ∀ c e f, o0 ≠ .cells c e f) : (setObj r o).run P w = .ok () { w with heap := w.heap.setIfInBounds r o } := by
  cases o0 <;> first | exact absurd rfl (hc _ _ _) | (simp [setObj, Sem.run, hb])
theorem run_getObj_oth {r : Nat} {o : Obj} (hb : w.heap[r]? = some o) (hc : ∀ c e f, o ≠ .cells c e f) : (getObj r).run P w = .ok o w := by
  cases o <;> first | exact absurd rfl (hc _ _ _) | (simp [getObj, Sem.run, hb])

/-! ### 2. Maps -/
theorem sameNow_rep {kind : TypeDesc} {k k' a a' : Value} (hk : VRep D σ k k') (ha : VRep D σ a a') {b : Bool} (h : Instr.sameNow kind k a = some b) : Instr.sameNow kind k' a' = some b := by
  unfold Instr.sameNow at h
  split at h
  · rw [hk.inv_int, ha.inv_int]; simpa [Instr.sameNow] using h
  · rw [hk.inv_string, ha.inv_string]; simpa [Instr.sameNow] using h
  · rw [hk.inv_bool, ha.inv_bool]; simpa [Instr.sameNow] using h
  · cases h

theorem findNow_rep {kind : TypeDesc} {k k' : Value} (hk : VRep D σ k k') : ∀ (es es' : List MapEntry) (i : Nat) (r : Option (Nat × Value)), es.length = es'.length →
    (∀ (j : Nat) (e e' : MapEntry), es[j]? = some e → es'[j]? = some e' → ERep D σ e e') → Instr.findNow kind k es i = some r →
    (r = none ∧ Instr.findNow kind k' es' i = some none) ∨ (∃ j v v', r = some (j, v) ∧ Instr.findNow kind k' es' i = some (some (j, v')) ∧ VRep D σ v v')
  | [], [], i, r, _, _, h => by
    simp only [Instr.findNow, Option.some.injEq] at h; subst h
    exact .inl ⟨rfl, rfl⟩
  | [], _ :: _, i, r, hl, _, _ => by simp at hl
  | _ :: _, [], i, r, hl, _, _ => by simp at hl
  | e :: es, e' :: es', i, r, hl, he, h => by
    have h0 := he 0 e e' rfl rfl
    simp only [Instr.findNow] at h ⊢
    split at h
    · rename_i hs
      rw [sameNow_rep hk h0.key hs]
      simp only [Option.some.injEq] at h; subst h
      exact .inr ⟨i, e.val, e'.val, rfl, rfl, h0.val⟩
    · rename_i hs
      rw [sameNow_rep hk h0.key hs]
      exact findNow_rep hk es es' (i + 1) r (by simpa using hl) (fun j a b h1 h2 => he (j + 1) a b (by simpa using h1) (by simpa using h2)) h
    · cases h

theorem findNow_at {kind : TypeDesc} {k : Value} : ∀ (es : List MapEntry) (i j : Nat) (v : Value), Instr.findNow kind k es i = some (some (j, v)) → ∃ e, i ≤ j ∧ es[j - i]? = some e ∧ e.val = v ∧ Instr.sameNow kind k e.key = some true
  | [], i, j, v, h => by simp [Instr.findNow] at h
  | e :: es, i, j, v, h => by
    simp only [Instr.findNow] at h
    split at h
    · rename_i hs
      simp only [Option.some.injEq, Prod.mk.injEq] at h
      obtain ⟨rfl, rfl⟩ := h
      exact ⟨e, Nat.le_refl _, by simp, rfl, hs⟩
    · obtain ⟨e1, h1, h2, h3, h4⟩ := findNow_at es (i + 1) j v h
      refine ⟨e1, by omega, ?_, h3, h4⟩
      have : j - i = (j - (i + 1)) + 1 := by omega
      rw [this]; simpa using h2
    · cases h

theorem sameBits_of {kind : TypeDesc} {k a : Value} (h : Instr.sameNow kind k a = some true) : Instr.sameBits 10000 a k = true := by
  unfold Instr.sameNow at h
  split at h
  · rename_i k1 x k2 y
    split at h
    · rename_i hk
      simp only [Option.some.injEq, beq_iff_eq] at h
      subst hk h
      simp [Instr.sameBits]
    · cases h
  · rename_i x y
    simp only [Option.some.injEq] at h
    have h2 : (x.data == y.data) = true := h
    have h3 : x = y := ByteArray.ext (eq_of_beq h2)
    subst h3
    exact h
  · simp only [Option.some.injEq, beq_iff_eq] at h; subst h; simp [Instr.sameBits]
  · cases h

theorem run_checkKey' {t : TypeId} {kd : TypeDesc} {v : Value} {b : Bool} (hu : P.underlying t = some kd) (hk : keyKind kd = true) (n : Nat) : (Instr.checkKey b (n + 1) t v).run P w = .ok () w := by
  simp only [Instr.checkKey, Sem.run_bind, run_underlying hu, Result.andThen_ok]
  cases kd <;> first | (simp [keyKind] at hk; done) | (cases v <;> rfl)
theorem run_checkKey {t : TypeId} {kd : TypeDesc} {v : Value} {b : Bool} (hu : P.underlying t = some kd) (hk : keyKind kd = true) : (Instr.checkKey b 10000 t v).run P w = .ok () w := run_checkKey' hu hk 9999

theorem run_findKey {t : TypeId} {kd : TypeDesc} {k : Value} {es : List MapEntry} {r : Option (Nat × Value)} (hu : P.underlying t = some kd) (hf : Instr.findNow kd k es 0 = some r) : (Instr.findKey t k es).run P w = .ok r w := by
  simp [Instr.findKey, run_underlying hu, hf]

theorem aentries_sound {h : Heap} (hr : Rep base (· < h.next) σ h.get w) {x x' : Value} {es : List MapEntry} (ha : aentries x h = some es) (hx : VRep (· < h.next) σ x x') :
    (x' = .map none ∧ es = []) ∨ ∃ (r : Nat) (es' : Array MapEntry) (clock : Nat), x' = .map (some r) ∧ w.heap[r]? = some (.map es' clock) ∧ es.length = es'.toList.length ∧ (∀ (j : Nat) (e e' : MapEntry), es[j]? = some e → es'.toList[j]? = some e' → ERep (· < h.next) σ e e') := by
  unfold aentries at ha
  split at ha
  · simp only [Option.some.injEq] at ha
    exact .inl ⟨hx.inv_mapNil, ha.symm⟩
  · rename_i n
    obtain ⟨_, rfl⟩ := hx.inv_map
    split at ha
    · rename_i es1 clock hg
      simp only [Option.some.injEq] at ha; subst ha
      obtain ⟨_, _, o', ho, hrep⟩ := hr.oth n _ hg
      cases hrep with
      | map clock hl he => exact .inr ⟨_, _, _, rfl, ho, by simpa using hl, fun j e e' h1 h2 => he j e e' h1 (by simpa using h2)⟩
    · cases ha
  · cases ha

def lookRes (z : Value) (ok : Bool) (r : Option (Nat × Value)) : Value :=
  match r with
  | some (_, v) => if ok then .tuple #[v, .bool true] else v
  | none => if ok then .tuple #[z, .bool false] else z
theorem run_lookup_nil {t key elem : TypeId} {kd : TypeDesc} {z k : Value} {ok : Bool} (hu : P.underlying t = some (.map key elem)) (hkd : P.underlying key = some kd) (hkk : keyKind kd = true)
    (hz : (P.info? elem).bind (·.zero) = some z) : (Instr.lookup t (.map none) k ok).run P w = .ok (lookRes z ok none) w := by
  have hf : (Instr.findKey key k []).run P w = .ok none w := run_findKey hkd rfl
  have hc : (Instr.checkKey true 10000 key k).run P w = .ok () w := run_checkKey hkd hkk
  simp [Instr.lookup, run_underlying hu, hc, hf, run_zero hz, lookRes]
theorem run_lookup_some {t key elem : TypeId} {kd : TypeDesc} {z k : Value} {ok : Bool} (hu : P.underlying t = some (.map key elem)) (hkd : P.underlying key = some kd) (hkk : keyKind kd = true)
    (hz : (P.info? elem).bind (·.zero) = some z) {r : Nat} {es : Array MapEntry} {clock : Nat} (hb : w.heap[r]? = some (.map es clock)) {x : Option (Nat × Value)} (hf : Instr.findNow kd k es.toList 0 = some x) :
    (Instr.lookup t (.map (some r)) k ok).run P w = .ok (lookRes z ok x) w := by
  have hf : (Instr.findKey key k es.toList).run P w = .ok x w := run_findKey hkd hf
  have hc : ∀ b, (Instr.checkKey b 10000 key k).run P w = .ok () w := fun b => run_checkKey hkd hkk
  have hg : (getObj r).run P w = .ok (.map es clock) w := run_getObj_oth hb (by intro _ _ _ h; cases h)
  cases x with
  | none => simp [Instr.lookup, run_underlying hu, hc, hf, run_zero hz, lookRes, hg]
  | some p => obtain ⟨j, u⟩ := p; simp [Instr.lookup, run_underlying hu, hc, hf, lookRes, hg]

theorem alookup_sound {h : Heap} (hr : Rep base (· < h.next) σ h.get w) {t : TypeId} {x k x' k' v : Value} {ok : Bool} (ha : alookup P t x k ok h = some v) (hx : VRep (· < h.next) σ x x') (hk : VRep (· < h.next) σ k k') :
    ∃ v', (Instr.lookup t x' k' ok).run P w = .ok v' w ∧ VRep (· < h.next) σ v v' := by
  have two : ∀ {a b : Value} {c : Bool}, VRep (· < h.next) σ a b → VRep (· < h.next) σ (.tuple #[a, .bool c]) (.tuple #[b, .bool c]) := fun h =>
    .mkTuple (.cons h (.cons (.bool _) .nil))
  unfold alookup at ha
  split at ha
  · rename_i key elem hu
    split at ha
    · rename_i kd z hkd hz
      cases hb : keyKind kd && plain z with
      | false => rw [hb] at ha; cases ha
      | true =>
        rw [hb] at ha
        simp only [Bool.and_eq_true] at hb
        obtain ⟨hkk, hp⟩ := hb
        simp only [cond_true] at ha
        split at ha
        · rename_i es hes
          have hfind : ∀ (r : Option (Nat × Value)), Instr.findNow kd k es 0 = some r → ∃ r', (Instr.lookup t x' k' ok).run P w = .ok (lookRes z ok r') w ∧
              ((r = none ∧ r' = none) ∨ (∃ j v v', r = some (j, v) ∧ r' = some (j, v') ∧ VRep (· < h.next) σ v v')) := by
            intro r hf
            rcases aentries_sound hr hes hx with ⟨rfl, rfl⟩ | ⟨b, es', clock, rfl, hb, hl, he⟩
            · simp only [Instr.findNow, Option.some.injEq] at hf; subst hf
              exact ⟨none, run_lookup_nil hu hkd hkk hz, .inl ⟨rfl, rfl⟩⟩
            · rcases findNow_rep hk es es'.toList 0 r hl he hf with ⟨h1, h2⟩ | ⟨j, v, v', h1, h2, h3⟩
              · exact ⟨none, run_lookup_some hu hkd hkk hz hb h2, .inl ⟨h1, rfl⟩⟩
              · exact ⟨some (j, v'), run_lookup_some hu hkd hkk hz hb h2, .inr ⟨j, v, v', h1, rfl, h3⟩⟩
          split at ha
          · rename_i j u hf
            simp only [Option.some.injEq] at ha; subst ha
            obtain ⟨r', h1, h2 | ⟨j', u1, u', h2, rfl, h4⟩⟩ := hfind _ hf
            · cases h2.1
            · cases h2
              refine ⟨_, h1, ?_⟩
              cases ok with
              | true => exact two h4
              | false => exact h4
          · rename_i hf
            simp only [Option.some.injEq] at ha; subst ha
            obtain ⟨r', h1, h2 | ⟨j', u1, u', h2, h3, h4⟩⟩ := hfind _ hf
            · obtain rfl := h2.2
              refine ⟨_, h1, ?_⟩
              cases ok with
              | true => exact two (VRep.plain_refl 8 hp)
              | false => exact VRep.plain_refl 8 hp
            · cases h2
          · cases ha
        · cases ha
    · cases ha
  · cases ha

end
end Go.Proofs.YthhhmmildgijhaaGreatDoorAI
