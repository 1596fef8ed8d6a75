/- Operations on maps, more: the entry at which a walk stands; an entry that is taken out and put back. -/
import Derived.Test.YthhhmmildgijhaaGreatDoorAI6
import Derived.Lib.UnsafeStr
import Derived.Lib.Props
import Derived.Laws.BytesString
set_option linter.unusedVariables false
set_option linter.unusedSimpArgs false
namespace Go.Proofs.YthhhmmildgijhaaGreatDoorAI
open Go

section
variable {P : Program} {base : Nat} {D : Nat → Prop} {σ : Sig} {g : Nat → Option AObj} {w : World}

/-! ### 1. Objects that are no cells -/
theorem new_oth {h : Heap} (hr : Rep base (· < h.next) σ h.get w) {y : AOth} {o : Obj} (ho : ORep (· < h.next) σ y o) :
    Moves base (· < h.next) σ h.get w (· < (h.new (.oth y)).next) (σ.upd h.next ⟨w.heap.size, 0, 0⟩) (h.new (.oth y)).get (w.alloc o) := by
  have hm := hr.allocAny (n := h.next) (Nat.lt_irrefl _) (x := .oth y) (o := o) 0 rfl (fun c e s gr ro he => by cases he) (fun y' e => by cases e; exact ho)
  have hg : (h.new (.oth y)).get = fun m => if m = h.next then some (.oth y) else h.get m := by funext m; rw [Heap.get_new]
  rw [D_succ] at hm
  rw [hg]; exact hm

theorem put_oth {h : Heap} (hr : Rep base (· < h.next) σ h.get w) {n : Nat} {y0 y : AOth} {o : Obj} (hg : h.get n = some (.oth y0)) (ho : ORep (· < h.next) σ y o) :
    Moves base (· < h.next) σ h.get w (· < (h.put n (some (.oth y))).next) σ (h.put n (some (.oth y))).get { w with heap := w.heap.setIfInBounds (σ n).blk o } := by
  obtain ⟨hD, h0, o0, hb, _⟩ := hr.oth n y0 hg
  have hlt := (Array.getElem?_eq_some_iff.1 hb).1
  have hm := hr.turn (w' := { w with heap := w.heap.setIfInBounds (σ n).blk o }) (.oth hg) (x := .oth y) rfl (by simp) rfl rfl rfl
    (fun b hne => by simp only [Array.getElem?_setIfInBounds]; rw [if_neg (by omega)]) (fun c e s gr ro he => by cases he)
    (fun y' e => by cases e; exact ⟨h0, o, by simp only [Array.getElem?_setIfInBounds]; simp [hlt], ho⟩)
  have hgp : (h.put n (some (.oth y))).get = fun m => if m = n then some (.oth y) else h.get m := by
    funext m; rw [Heap.get_put (Heap.own_ge hg rfl) hD]
  rw [hgp]; exact hm

theorem run_setObj_oth {r : Nat} {o0 o : Obj} (hb : w.heap[r]? = some o0) (hc : ∀ c e f, o0 ≠ .cells c e f) : (setObj r o).run P w = .ok () { w with heap := w.heap.setIfInBounds r o } := by
  cases o0 <;> first | exact absurd rfl (hc _ _ _) | (simp [setObj, Sem.run, hb])
theorem run_getObj_oth {r : Nat} {o : Obj} (hb : w.heap[r]? = some o) (hc : ∀ c e f, o ≠ .cells c e f) : (getObj r).run P w = .ok o w := by
  cases o <;> first | exact absurd rfl (hc _ _ _) | (simp [getObj, Sem.run, hb])

/-! ### 2. Maps -/
theorem sameNow_rep {kind : TypeDesc} {k k' a a' : Value} (hk : VRep D σ k k') (ha : VRep D σ a a') {b : Bool} (h : Instr.sameNow kind k a = some b) : Instr.sameNow kind k' a' = some b := by
  unfold Instr.sameNow at h
  split at h
  · rw [hk.inv_int, ha.inv_int]; simpa [Instr.sameNow] using h
  · rw [hk.inv_string, ha.inv_string]; simpa [Instr.sameNow] using h
  · rw [hk.inv_bool, ha.inv_bool]; simpa [Instr.sameNow] using h
  · cases h

theorem findNow_rep {kind : TypeDesc} {k k' : Value} (hk : VRep D σ k k') : ∀ (es es' : List MapEntry) (i : Nat) (r : Option (Nat × Value)), es.length = es'.length →
    (∀ (j : Nat) (e e' : MapEntry), es[j]? = some e → es'[j]? = some e' → ERep D σ e e') → Instr.findNow kind k es i = some r →
    (r = none ∧ Instr.findNow kind k' es' i = some none) ∨ (∃ j v v', r = some (j, v) ∧ Instr.findNow kind k' es' i = some (some (j, v')) ∧ VRep D σ v v')
  | [], [], i, r, _, _, h => by
    simp only [Instr.findNow, Option.some.injEq] at h; subst h
    exact .inl ⟨rfl, rfl⟩
  | [], _ :: _, i, r, hl, _, _ => by simp at hl
  | _ :: _, [], i, r, hl, _, _ => by simp at hl
  | e :: es, e' :: es', i, r, hl, he, h => by
    have h0 := he 0 e e' rfl rfl
    simp only [Instr.findNow] at h ⊢
    split at h
    · rename_i hs
      rw [sameNow_rep hk h0.key hs]
      simp only [Option.some.injEq] at h; subst h
      exact .inr ⟨i, e.val, e'.val, rfl, rfl, h0.val⟩
    · rename_i hs
      rw [sameNow_rep hk h0.key hs]
      exact findNow_rep hk es es' (i + 1) r (by simpa using hl) (fun j a b h1 h2 => he (j + 1) a b (by simpa using h1) (by simpa using h2)) h
    · cases h

theorem findNow_at {kind : TypeDesc} {k : Value} : ∀ (es : List MapEntry) (i j : Nat) (v : Value), Instr.findNow kind k es i = some (some (j, v)) → ∃ e, i ≤ j ∧ es[j - i]? = some e ∧ e.val = v ∧ Instr.sameNow kind k e.key = some true
  | [], i, j, v, h => by simp [Instr.findNow] at h
  | e :: es, i, j, v, h => by
    simp only [Instr.findNow] at h
    split at h
    · rename_i hs
      simp only [Option.some.injEq, Prod.mk.injEq] at h
      obtain ⟨rfl, rfl⟩ := h
      exact ⟨e, Nat.le_refl _, by simp, rfl, hs⟩
    · obtain ⟨e1, h1, h2, h3, h4⟩ := findNow_at es (i + 1) j v h
      refine ⟨e1, by omega, ?_, h3, h4⟩
      have : j - i = (j - (i + 1)) + 1 := by omega
      rw [this]; simpa using h2
    · cases h

theorem sameBits_of {kind : TypeDesc} {k a : Value} (h : Instr.sameNow kind k a = some true) : Instr.sameBits 10000 a k = true := by
  unfold Instr.sameNow at h
  split at h
  · rename_i k1 x k2 y
    split at h
    · rename_i hk
      simp only [Option.some.injEq, beq_iff_eq] at h
      subst hk h
      simp [Instr.sameBits]
    · cases h
  · rename_i x y
    simp only [Option.some.injEq] at h
    have h2 : (x.data == y.data) = true := h
    have h3 : x = y := ByteArray.ext (eq_of_beq h2)
    subst h3
    exact h
  · simp only [Option.some.injEq, beq_iff_eq] at h; subst h; simp [Instr.sameBits]
  · cases h

theorem run_checkKey' {t : TypeId} {kd : TypeDesc} {v : Value} {b : Bool} (hu : P.underlying t = some kd) (hk : keyKind kd = true) (n : Nat) : (Instr.checkKey b (n + 1) t v).run P w = .ok () w := by
  simp only [Instr.checkKey, Sem.run_bind, run_underlying hu, Result.andThen_ok]
  cases kd <;> first | (simp [keyKind] at hk; done) | (cases v <;> rfl)
theorem run_checkKey {t : TypeId} {kd : TypeDesc} {v : Value} {b : Bool} (hu : P.underlying t = some kd) (hk : keyKind kd = true) : (Instr.checkKey b 10000 t v).run P w = .ok () w := run_checkKey' hu hk 9999

theorem run_findKey {t : TypeId} {kd : TypeDesc} {k : Value} {es : List MapEntry} {r : Option (Nat × Value)} (hu : P.underlying t = some kd) (hf : Instr.findNow kd k es 0 = some r) : (Instr.findKey t k es).run P w = .ok r w := by
  simp [Instr.findKey, run_underlying hu, hf]

/-- What a search found. -/
def Found (D : Nat → Prop) (σ : Sig) (k' : Value) (es' : List MapEntry) (i : Nat) (r r' : Option (Nat × Value)) : Prop :=
  (r = none ∧ r' = none) ∨ ∃ j v v' e', r = some (j, v) ∧ r' = some (j, v') ∧ VRep D σ v v' ∧ i ≤ j ∧ es'[j - i]? = some e' ∧ e'.val = v' ∧ Instr.sameBits 10000 e'.key k' = true
theorem aeq_ptr {t e0 : TypeId} {x y x' y' : Value} (hp : P.underlying t = some (.pointer e0)) (h : aeq P t x y g = some true) (hx : VRep D σ x x') (hy : VRep D σ y y') : x' = y' ∧ ∃ a, y' = .pointer a := by
  unfold aeq at h
  rw [hp] at h
  split at h <;> first
    | (cases h; done)
    | skip
  · rename_i e n i m j hu
    obtain ⟨_, rfl⟩ := hx.inv_ptr
    obtain ⟨_, rfl⟩ := hy.inv_ptr
    split at h
    · cases hnm : Nat.beq n m with
      | true =>
        rw [hnm] at h
        simp only [cond_true, Option.some.injEq] at h
        obtain rfl := Nat.eq_of_beq_eq_true hnm
        obtain rfl := Nat.eq_of_beq_eq_true h
        exact ⟨rfl, _, rfl⟩
      | false =>
        rw [hnm] at h
        simp only [cond_false] at h
        split at h <;> cases h
    · cases h
  · rw [hx.inv_ptrNil, hy.inv_ptrNil]; exact ⟨rfl, _, rfl⟩
  · rename_i hu; cases hu
  · rename_i hu; cases hu
theorem afindA_sound (hr : Rep base D σ g w) {t e0 : TypeId} (hp : P.underlying t = some (.pointer e0)) {k k' : Value} (hk : VRep D σ k k') : ∀ (es es' : List MapEntry) (i : Nat) (r : Option (Nat × Value)), es.length = es'.length →
    (∀ (j : Nat) (e e' : MapEntry), es[j]? = some e → es'[j]? = some e' → ERep D σ e e') → afindA P t k g es i = some r →
    ∃ r', (Instr.findAsking t k' es' i).run P w = .ok r' w ∧ Found D σ k' es' i r r'
  | [], [], i, r, _, _, h => by
    simp only [afindA, Option.some.injEq] at h; subst h
    exact ⟨none, by simp [Instr.findAsking], .inl ⟨rfl, rfl⟩⟩
  | [], _ :: _, i, r, hl, _, _ => by simp at hl
  | _ :: _, [], i, r, hl, _, _ => by simp at hl
  | e :: es, e' :: es', i, r, hl, he, h => by
    have h0 := he 0 e e' rfl rfl
    simp only [afindA] at h
    split at h
    · rename_i hs
      simp only [Option.some.injEq] at h; subst h
      have heq : (Op.equal t k' e'.key).run P w = .ok true w := (aeq_sound (P := P) hr hs hk h0.key).1 9998
      obtain ⟨h1, a, h2⟩ := aeq_ptr hp hs hk h0.key
      refine ⟨some (i, e'.val), by simp [Instr.findAsking, heq], .inr ⟨i, e.val, e'.val, e', rfl, rfl, h0.val, Nat.le_refl _, by simp, rfl, ?_⟩⟩
      rw [h1, h2]; simp [Instr.sameBits]
    · rename_i hs
      have heq : (Op.equal t k' e'.key).run P w = .ok false w := (aeq_sound (P := P) hr hs hk h0.key).1 9998
      obtain ⟨r', h1, h2⟩ := afindA_sound hr hp hk es es' (i + 1) r (by simpa using hl) (fun j a b h1 h2 => he (j + 1) a b (by simpa using h1) (by simpa using h2)) h
      refine ⟨r', by simp [Instr.findAsking, heq, h1], ?_⟩
      rcases h2 with h2 | ⟨j, v, v', e1, h2, h3, h4, h5, h6, h7, h8⟩
      · exact .inl h2
      · refine .inr ⟨j, v, v', e1, h2, h3, h4, by omega, ?_, h7, h8⟩
        have : j - i = (j - (i + 1)) + 1 := by omega
        rw [this]; simpa using h6
    · cases h
theorem afind_sound (hr : Rep base D σ g w) {t : TypeId} {kd : TypeDesc} (hu : P.underlying t = some kd) {k k' : Value} (hk : VRep D σ k k') {es es' : List MapEntry} {r : Option (Nat × Value)} (hl : es.length = es'.length)
    (he : ∀ (j : Nat) (e e' : MapEntry), es[j]? = some e → es'[j]? = some e' → ERep D σ e e') (h : afind P t kd k g es = some r) :
    ∃ r', (Instr.findKey t k' es').run P w = .ok r' w ∧ Found D σ k' es' 0 r r' := by
  have now : Instr.findNow kd k es 0 = some r → ∃ r', (Instr.findKey t k' es').run P w = .ok r' w ∧ Found D σ k' es' 0 r r' := fun h => by
    rcases findNow_rep hk es es' 0 r hl he h with ⟨h1, h2⟩ | ⟨j, v, v', h1, h2, h3⟩
    · exact ⟨none, run_findKey hu h2, .inl ⟨h1, rfl⟩⟩
    · obtain ⟨e1, h4, h5, h6, h7⟩ := findNow_at _ _ _ _ h2
      exact ⟨_, run_findKey hu h2, .inr ⟨j, v, v', e1, h1, rfl, h3, h4, h5, h6, sameBits_of h7⟩⟩
  unfold afind at h
  split at h
  · rename_i e0
    obtain ⟨r', h1, h2⟩ := afindA_sound hr hu hk es es' 0 r hl he h
    refine ⟨r', ?_, h2⟩
    cases es' with
    | nil => simp only [Instr.findAsking, Sem.run_pure] at h1; simpa [Instr.findKey, run_underlying hu, Instr.findNow] using h1
    | cons e' es' =>
      have hn : Instr.findNow (.pointer e0) k' (e' :: es') 0 = none := by
        simp only [Instr.findNow]
        have : Instr.sameNow (.pointer e0) k' e'.key = none := by generalize e'.key = y; cases k' <;> cases y <;> rfl
        rw [this]
      simp [Instr.findKey, run_underlying hu, hn, h1]
  · exact now h

theorem aentries_sound {h : Heap} (hr : Rep base (· < h.next) σ h.get w) {x x' : Value} {es : List MapEntry} (ha : aentries x h = some es) (hx : VRep (· < h.next) σ x x') :
    (x' = .map none ∧ es = []) ∨ ∃ (r : Nat) (es' : Array MapEntry) (clock : Nat), x' = .map (some r) ∧ w.heap[r]? = some (.map es' clock) ∧ es.length = es'.toList.length ∧ (∀ (j : Nat) (e e' : MapEntry), es[j]? = some e → es'.toList[j]? = some e' → ERep (· < h.next) σ e e') := by
  unfold aentries at ha
  split at ha
  · simp only [Option.some.injEq] at ha
    exact .inl ⟨hx.inv_mapNil, ha.symm⟩
  · rename_i n
    obtain ⟨_, rfl⟩ := hx.inv_map
    split at ha
    · rename_i es1 clock hg
      simp only [Option.some.injEq] at ha; subst ha
      obtain ⟨_, _, o', ho, hrep⟩ := hr.oth n _ hg
      cases hrep with
      | map clock hl he => exact .inr ⟨_, _, _, rfl, ho, by simpa using hl, fun j e e' h1 h2 => he j e e' h1 (by simpa using h2)⟩
    · cases ha
  · cases ha

def lookRes (z : Value) (ok : Bool) (r : Option (Nat × Value)) : Value :=
  match r with
  | some (_, v) => if ok then .tuple #[v, .bool true] else v
  | none => if ok then .tuple #[z, .bool false] else z
theorem run_lookup_nil {t key elem : TypeId} {kd : TypeDesc} {z k : Value} {ok : Bool} (hu : P.underlying t = some (.map key elem)) (hkd : P.underlying key = some kd) (hkk : keyKind kd = true)
    (hz : (P.info? elem).bind (·.zero) = some z) : (Instr.lookup t (.map none) k ok).run P w = .ok (lookRes z ok none) w := by
  have hf : (Instr.findKey key k []).run P w = .ok none w := run_findKey hkd rfl
  have hc : (Instr.checkKey true 10000 key k).run P w = .ok () w := run_checkKey hkd hkk
  simp [Instr.lookup, run_underlying hu, hc, hf, run_zero hz, lookRes]
theorem run_lookup_some {t key elem : TypeId} {kd : TypeDesc} {z k : Value} {ok : Bool} (hu : P.underlying t = some (.map key elem)) (hkd : P.underlying key = some kd) (hkk : keyKind kd = true)
    (hz : (P.info? elem).bind (·.zero) = some z) {r : Nat} {es : Array MapEntry} {clock : Nat} (hb : w.heap[r]? = some (.map es clock)) {x : Option (Nat × Value)} (hf : (Instr.findKey key k es.toList).run P w = .ok x w) :
    (Instr.lookup t (.map (some r)) k ok).run P w = .ok (lookRes z ok x) w := by
  have hc : ∀ b, (Instr.checkKey b 10000 key k).run P w = .ok () w := fun b => run_checkKey hkd hkk
  have hg : (getObj r).run P w = .ok (.map es clock) w := run_getObj_oth hb (by intro _ _ _ h; cases h)
  cases x with
  | none => simp [Instr.lookup, run_underlying hu, hc, hf, run_zero hz, lookRes, hg]
  | some p => obtain ⟨j, u⟩ := p; simp [Instr.lookup, run_underlying hu, hc, hf, lookRes, hg]

theorem alookup_sound {h : Heap} (hr : Rep base (· < h.next) σ h.get w) {t : TypeId} {x k x' k' v : Value} {ok : Bool} (ha : alookup P t x k ok h = some v) (hx : VRep (· < h.next) σ x x') (hk : VRep (· < h.next) σ k k') :
    ∃ v', (Instr.lookup t x' k' ok).run P w = .ok v' w ∧ VRep (· < h.next) σ v v' := by
  have two : ∀ {a b : Value} {c : Bool}, VRep (· < h.next) σ a b → VRep (· < h.next) σ (.tuple #[a, .bool c]) (.tuple #[b, .bool c]) := fun h =>
    .mkTuple (.cons h (.cons (.bool _) .nil))
  unfold alookup at ha
  split at ha
  · rename_i key elem hu
    split at ha
    · rename_i kd z hkd hz
      cases hb : keyKind kd && plain z with
      | false => rw [hb] at ha; cases ha
      | true =>
        rw [hb] at ha
        simp only [Bool.and_eq_true] at hb
        obtain ⟨hkk, hp⟩ := hb
        simp only [cond_true] at ha
        split at ha
        · rename_i es hes
          have hfind : ∀ (r : Option (Nat × Value)), afind P key kd k h.get es = some r → ∃ r', (Instr.lookup t x' k' ok).run P w = .ok (lookRes z ok r') w ∧
              ((r = none ∧ r' = none) ∨ (∃ j v v', r = some (j, v) ∧ r' = some (j, v') ∧ VRep (· < h.next) σ v v')) := by
            intro r hf
            rcases aentries_sound hr hes hx with ⟨rfl, rfl⟩ | ⟨b, es', clock, rfl, hb, hl, he⟩
            · have hf : r = none := by
                unfold afind at hf
                split at hf
                · simp only [afindA, Option.some.injEq] at hf; exact hf.symm
                · simp only [Instr.findNow, Option.some.injEq] at hf; exact hf.symm
              subst hf
              exact ⟨none, run_lookup_nil hu hkd hkk hz, .inl ⟨rfl, rfl⟩⟩
            · obtain ⟨r', hrun, ⟨h1, rfl⟩ | ⟨j, v, v', e', h1, rfl, h3, _⟩⟩ := afind_sound hr hkd hk hl he hf
              · exact ⟨none, run_lookup_some hu hkd hkk hz hb hrun, .inl ⟨h1, rfl⟩⟩
              · exact ⟨some (j, v'), run_lookup_some hu hkd hkk hz hb hrun, .inr ⟨j, v, v', h1, rfl, h3⟩⟩
          split at ha
          · rename_i j u hf
            simp only [Option.some.injEq] at ha; subst ha
            obtain ⟨r', h1, h2 | ⟨j', u1, u', h2, rfl, h4⟩⟩ := hfind _ hf
            · cases h2.1
            · cases h2
              refine ⟨_, h1, ?_⟩
              cases ok with
              | true => exact two h4
              | false => exact h4
          · rename_i hf
            simp only [Option.some.injEq] at ha; subst ha
            obtain ⟨r', h1, h2 | ⟨j', u1, u', h2, h3, h4⟩⟩ := hfind _ hf
            · obtain rfl := h2.2
              refine ⟨_, h1, ?_⟩
              cases ok with
              | true => exact two (VRep.plain_refl 8 hp)
              | false => exact VRep.plain_refl 8 hp
            · cases h2
          · cases ha
        · cases ha
    · cases ha
  · cases ha

end
end Go.Proofs.YthhhmmildgijhaaGreatDoorAI
set_option linter.unusedVariables false
set_option linter.unusedSimpArgs false
namespace Go.Proofs.YthhhmmildgijhaaGreatDoorAI
open Go

section
variable {P : Program} {base : Nat} {D : Nat → Prop} {σ : Sig} {g : Nat → Option AObj} {w : World}

/-- What an operation on memory does. -/
def MemOK (P : Program) (base : Nat) (σ : Sig) (h : Heap) (w : World) (s : Sem Value) (v : Value) (h' : Heap) : Prop :=
  ∃ v' w' σ', s.run P w = .ok v' w' ∧ Moves base (· < h.next) σ h.get w (· < h'.next) σ' h'.get w' ∧ VRep (· < h'.next) σ' v v'

theorem amakeMap_sound {h h' : Heap} (hr : Rep base (· < h.next) σ h.get w) {t : TypeId} {r : Option Operand} {ρ ρ' : Operand → Value} {v : Value} (hρ : ∀ x, VRep (· < h.next) σ (ρ x) (ρ' x)) (ha : amakeMap P t (r.map ρ) h = some (v, h')) :
    MemOK P base σ h w (Instr.makeMap t (r.map ρ')) v h' := by
  have hm := new_oth hr (y := .map [] 0) (o := .map #[] 0) (.map 0 rfl (fun i e e' h1 => by simp at h1))
  have hv : VRep (· < (h.new (.oth (.map [] 0))).next) (σ.upd h.next ⟨w.heap.size, 0, 0⟩) (.map (some h.next)) (.map (some w.heap.size)) := by
    have := VRep.map (D := (· < (h.new (.oth (.map [] 0))).next)) (σ := σ.upd h.next ⟨w.heap.size, 0, 0⟩) (n := h.next) (by show h.next < h.next + 1; omega)
    rwa [Sig.upd_same] at this
  unfold amakeMap at ha
  cases r with
  | none =>
    simp only [Option.map_none, Option.some.injEq, Prod.mk.injEq] at ha
    obtain ⟨rfl, rfl⟩ := ha
    exact ⟨_, _, _, rfl, hm, hv⟩
  | some x =>
    simp only [Option.map_some] at ha
    split at ha
    · rename_i e; cases e
    · rename_i k n e
      simp only [Option.some.injEq] at e
      have hx := hρ x
      rw [e] at hx
      split at ha
      · rename_i key elem hu
        simp only [Option.some.injEq, Prod.mk.injEq] at ha
        obtain ⟨rfl, rfl⟩ := ha
        refine ⟨_, _, _, ?_, hm, hv⟩
        simp [Instr.makeMap, run_underlying hu, hx.inv_int, asInt, asIntOf]
      · cases ha
    · cases ha

theorem amapUpdate_sound {h h' : Heap} (hr : Rep base (· < h.next) σ h.get w) {t : TypeId} {m k x m' k' x' : Value} (ha : amapUpdate P t m k x h = some h') (hm : VRep (· < h.next) σ m m') (hk : VRep (· < h.next) σ k k') (hx : VRep (· < h.next) σ x x') :
    ∃ w', (Instr.mapUpdate t m' k' x').run P w = .ok () w' ∧ Moves base (· < h.next) σ h.get w (· < h'.next) σ h'.get w' := by
  unfold amapUpdate at ha
  split at ha
  · rename_i key elem n hu
    obtain ⟨_, rfl⟩ := hm.inv_map
    split at ha
    · rename_i kd es clock hkd hg
      cases hkk : keyKind kd with
      | false => rw [hkk] at ha; cases ha
      | true =>
        rw [hkk] at ha
        simp only [cond_true] at ha
        obtain ⟨hD, h0, o0, hb, hrep⟩ := hr.oth n _ hg
        cases hrep with
        | @map _ es' _ hl he =>
          have hgo : (getObj (σ n).blk).run P w = .ok (.map es' clock) w := run_getObj_oth hb (by intro _ _ _ h; cases h)
          have hset : ∀ o, (setObj (σ n).blk o).run P w = .ok () { w with heap := w.heap.setIfInBounds (σ n).blk o } := fun o => run_setObj_oth hb (by intro _ _ _ h; cases h)
          have hc : (Instr.checkKey false 10000 key k').run P w = .ok () w := run_checkKey hkd hkk
          have hl' : es.length = es'.toList.length := by simpa using hl
          have he' : ∀ (j : Nat) (e e' : MapEntry), es[j]? = some e → es'.toList[j]? = some e' → ERep (· < h.next) σ e e' := fun j e e' h1 h2 => he j e e' h1 (by simpa using h2)
          split at ha
          · rename_i i u hf
            split at ha
            · rename_i e hei
              simp only [Option.some.injEq] at ha; subst ha
              obtain ⟨r', hfk, ⟨h1, _⟩ | ⟨j, v, v', e1, h1, rfl, h3, _, hei', hv1, hsame⟩⟩ := afind_sound (P := P) hr hkd hk hl' he' hf
              · cases h1
              · simp only [Option.some.injEq, Prod.mk.injEq] at h1
                obtain ⟨rfl, rfl⟩ := h1
                simp only [Nat.sub_zero, Array.getElem?_toList] at hei'
                have hstay : (Instr.keyThatStays e1.key k').run P w = .ok k' w := by simp [Instr.keyThatStays, hsame]
                have hrepN : ORep (· < h.next) σ (.map (es.set i ⟨k, x, e.born⟩) clock) (.map (es'.modify i fun e => { e with key := k', val := x' }) clock) := by
                  refine .map clock (by simpa using hl) fun j a b h1 h2 => ?_
                  rw [List.getElem?_set] at h1
                  rw [Array.getElem?_modify] at h2
                  split at h1
                  · rename_i hij
                    subst hij
                    split at h1
                    · simp only [Option.some.injEq] at h1; subst h1
                      simp only [if_true, hei', Option.map_some, Option.some.injEq] at h2; subst h2
                      exact ⟨hk, hx, (he _ _ _ hei hei').born⟩
                    · cases h1
                  · rename_i hij
                    rw [if_neg hij] at h2
                    exact he _ _ _ h1 h2
                refine ⟨_, ?_, put_oth hr hg hrepN⟩
                have hget : ((es'[i]?).map (·.key)).getD k' = e1.key := by rw [hei']; rfl
                simp [Instr.mapUpdate, run_underlying hu, hgo, hc, hfk, hget, hstay, hset]
            · cases ha
          · rename_i hf
            simp only [Option.some.injEq] at ha; subst ha
            obtain ⟨r', hfk, ⟨_, rfl⟩ | ⟨j, v, v', e1, h1, _⟩⟩ := afind_sound (P := P) hr hkd hk hl' he' hf
            · have hrepN : ORep (· < h.next) σ (.map (es ++ [⟨k, x, clock⟩]) (clock + 1)) (.map (es'.push ⟨k', x', clock⟩) (clock + 1)) := by
                refine .map (clock + 1) (by simp [hl]) fun j a b h1 h2 => ?_
                rw [List.getElem?_append] at h1
                rw [Array.getElem?_push] at h2
                rw [← hl] at h2
                split at h1
                · rename_i hj
                  rw [if_neg (by omega)] at h2
                  exact he _ _ _ h1 h2
                · rename_i hj
                  by_cases hjl : j = es.length
                  · subst hjl
                    simp only [Nat.sub_self, List.getElem?_cons_zero, Option.some.injEq] at h1; subst h1
                    simp only [if_true, Option.some.injEq] at h2; subst h2
                    exact ⟨hk, hx, rfl⟩
                  · have : j - es.length ≠ 0 := by omega
                    obtain ⟨q, hq⟩ : ∃ q, j - es.length = q + 1 := ⟨j - es.length - 1, by omega⟩
                    rw [hq] at h1; simp at h1
              refine ⟨_, ?_, put_oth hr hg hrepN⟩
              simp [Instr.mapUpdate, run_underlying hu, hgo, hc, hfk, hset]
            · cases h1
          · cases ha
    · cases ha
  · cases ha

theorem rep_new_at {h : Heap} {y : AOth} (k : Nat) : VRep (· < (h.new (.oth y)).next) (σ.upd h.next ⟨k, 0, 0⟩) (.pointer (some ⟨h.next, 0, none⟩)) (.pointer (some ⟨k, 0, none⟩)) := by
  have := VRep.ptr (D := (· < (h.new (.oth y)).next)) (σ := σ.upd h.next ⟨k, 0, 0⟩) (n := h.next) (off := 0) (by show h.next < h.next + 1; omega)
  rwa [Sig.upd_same] at this

theorem arange_sound {h h' : Heap} (hr : Rep base (· < h.next) σ h.get w) {t : TypeId} {x x' v : Value} (ha : arange P t x h = some (v, h')) (hx : VRep (· < h.next) σ x x') : MemOK P base σ h w (Instr.range t x') v h' := by
  unfold arange at ha
  split at ha
  · rename_i s hu
    obtain rfl := hx.inv_string
    simp only [Option.some.injEq, Prod.mk.injEq] at ha
    obtain ⟨rfl, rfl⟩ := ha
    refine ⟨_, _, _, ?_, new_oth hr (.iter s 0), rep_new_at _⟩
    simp [Instr.range, run_underlying hu]
  · rename_i key elem hu
    obtain rfl := hx.inv_mapNil
    simp only [Option.some.injEq, Prod.mk.injEq] at ha
    obtain ⟨rfl, rfl⟩ := ha
    refine ⟨_, _, _, ?_, new_oth hr (.miterNil 0 [] 0), rep_new_at _⟩
    simp [Instr.range, run_underlying hu]
  · rename_i key elem n hu
    obtain ⟨_, rfl⟩ := hx.inv_map
    split at ha
    · rename_i es clock hg
      simp only [Option.some.injEq, Prod.mk.injEq] at ha
      obtain ⟨rfl, rfl⟩ := ha
      obtain ⟨hD, h0, o0, hb, hrep⟩ := hr.oth n _ hg
      cases hrep with
      | @map _ es' _ hl he =>
        have hgo : (getObj (σ n).blk).run P w = .ok (.map es' clock) w := run_getObj_oth hb (by intro _ _ _ h; cases h)
        refine ⟨_, _, _, ?_, new_oth hr (ORep.miter (D := (· < h.next)) (σ := σ) hD clock [] clock), rep_new_at _⟩
        simp [Instr.range, run_underlying hu, hgo]
    · cases ha
  · cases ha

theorem filter_rep {D : Nat → Prop} (p : Nat → Bool) : ∀ (es es' : List MapEntry), es.length = es'.length → (∀ (j : Nat) (e e' : MapEntry), es[j]? = some e → es'[j]? = some e' → ERep D σ e e') →
    (es.filter fun e => p e.born).length = (es'.filter fun e => p e.born).length ∧ ∀ (j : Nat) (e e' : MapEntry), (es.filter fun e => p e.born)[j]? = some e → (es'.filter fun e => p e.born)[j]? = some e' → ERep D σ e e'
  | [], [], _, _ => ⟨rfl, fun j e e' h1 => by simp at h1⟩
  | [], _ :: _, hl, _ => by simp at hl
  | _ :: _, [], hl, _ => by simp at hl
  | e :: es, e' :: es', hl, he => by
    have h0 := he 0 e e' rfl rfl
    obtain ⟨ih1, ih2⟩ := filter_rep p es es' (by simpa using hl) fun j a b h1 h2 => he (j + 1) a b (by simpa using h1) (by simpa using h2)
    simp only [List.filter_cons, ← h0.born]
    cases p e.born with
    | false => exact ⟨ih1, ih2⟩
    | true =>
      simp only [if_true, List.length_cons]
      refine ⟨by rw [ih1], fun j a b h1 h2 => ?_⟩
      cases j with
      | zero => simp only [List.getElem?_cons_zero, Option.some.injEq] at h1 h2; subst h1; subst h2; exact h0
      | succ j => exact ih2 j a b (by simpa using h1) (by simpa using h2)

theorem all_rep {D : Nat → Prop} (p : Nat → Bool) : ∀ (es es' : List MapEntry), es.length = es'.length → (∀ (j : Nat) (e e' : MapEntry), es[j]? = some e → es'[j]? = some e' → ERep D σ e e') →
    (es.all fun e => p e.born) = (es'.all fun e => p e.born)
  | [], [], _, _ => rfl
  | [], _ :: _, hl, _ => by simp at hl
  | _ :: _, [], hl, _ => by simp at hl
  | e :: es, e' :: es', hl, he => by
    have h0 := he 0 e e' rfl rfl
    simp only [List.all_cons, ← h0.born]
    rw [all_rep p es es' (by simpa using hl) fun j a b h1 h2 => he (j + 1) a b (by simpa using h1) (by simpa using h2)]

theorem anext_sound {h h' : Heap} (hr : Rep base (· < h.next) σ h.get w) {x x' v : Value} {isStr : Bool} {ty : TypeId} (ha : anext x isStr h = some (v, h')) (hx : VRep (· < h.next) σ x x') : MemOK P base σ h w (Instr.next x' isStr ty) v h' := by
  unfold anext at ha
  split at ha
  · rename_i r
    obtain ⟨hD, rfl⟩ := hx.inv_ptr
    rw [Nat.add_zero]
    split at ha
    · rename_i s pos hg
      obtain ⟨_, h0, o0, hb, hrep⟩ := hr.oth r _ hg
      cases hrep with
      | iter =>
        have hgo := run_getObj_oth (P := P) hb (by intro _ _ _ h; cases h)
        have hset : ∀ o, (setObj (σ r).blk o).run P w = .ok () { w with heap := w.heap.setIfInBounds (σ r).blk o } := fun o => run_setObj_oth hb (by intro _ _ _ h; cases h)
        rw [h0]
        cases hlt : Nat.blt pos s.size with
        | true =>
          rw [hlt] at ha
          simp only [cond_true] at ha
          generalize hdc : Utf8.decode s pos = q at ha
          obtain ⟨c, wd⟩ := q
          simp only [Option.some.injEq, Prod.mk.injEq] at ha
          obtain ⟨rfl, rfl⟩ := ha
          have hlt' := blt_lt hlt
          refine ⟨.tuple #[.bool true, goInt pos, .int .i32 c], _, σ, ?_, put_oth hr hg (.iter s (pos + wd)), .mkTuple (.cons (.bool _) (.cons (.int _ _) (.cons (.int _ _) .nil)))⟩
          simp [Instr.next, hgo, hlt', hdc, hset]
        | false =>
          rw [hlt] at ha
          simp only [cond_false, Option.some.injEq, Prod.mk.injEq] at ha
          obtain ⟨rfl, rfl⟩ := ha
          have hlt' := blt_ge hlt
          refine ⟨.tuple #[.bool false], w, σ, ?_, .refl hr, .mkTuple (.cons (.bool _) .nil)⟩
          simp [Instr.next, hgo, show ¬ pos < s.size by omega]
    · rename_i since seen last hg
      obtain ⟨_, h0, o0, hb, hrep⟩ := hr.oth r _ hg
      simp only [Option.some.injEq, Prod.mk.injEq] at ha
      obtain ⟨rfl, rfl⟩ := ha
      cases hrep with
      | miterNil =>
        have hgo := run_getObj_oth (P := P) hb (by intro _ _ _ h; cases h)
        rw [h0]
        exact ⟨.tuple #[.bool false], w, σ, by simp [Instr.next, hgo], .refl hr, .mkTuple (.cons (.bool _) .nil)⟩
    · rename_i m since seen last hg
      obtain ⟨_, h0, o0, hb, hrep⟩ := hr.oth r _ hg
      cases hrep with
      | miter hDm =>
        split at ha
        · rename_i es clock hgm
          obtain ⟨_, _, o1, hb1, hrep1⟩ := hr.oth m _ hgm
          cases hrep1 with
          | @map _ es' _ hl he =>
            have hgo := run_getObj_oth (P := P) hb (by intro _ _ _ h; cases h)
            have hgo1 := run_getObj_oth (P := P) hb1 (by intro _ _ _ h; cases h)
            have hset : ∀ o, (setObj (σ r).blk o).run P w = .ok () { w with heap := w.heap.setIfInBounds (σ r).blk o } := fun o => run_setObj_oth hb (by intro _ _ _ h; cases h)
            have hl' : es.length = es'.toList.length := by simpa using hl
            have he' : ∀ (j : Nat) (e e' : MapEntry), es[j]? = some e → es'.toList[j]? = some e' → ERep (· < h.next) σ e e' := fun j e e' h1 h2 => he j e e' h1 (by simpa using h2)
            rw [h0]
            cases hbad : (!seen.isEmpty && !es.isEmpty && es.all (fun e => Nat.ble last e.born)) with
            | true => rw [hbad] at ha; cases ha
            | false =>
              rw [hbad] at ha
              simp only [cond_false] at ha
              have hall : (es'.toList.all fun e => decide (e.born ≥ last)) = es.all (fun e => Nat.ble last e.born) := by
                have := all_rep (fun b => Nat.ble last b) es es'.toList hl' he'
                rw [this]
                congr 1
                funext e
                rw [Bool.eq_iff_iff]; simp [Nat.ble_eq]
              have hbad' : (!seen.toArray.isEmpty && !es'.isEmpty && es'.all (fun e => decide (e.born ≥ last))) = false := by
                rw [← hbad, ← hall]
                have : es'.isEmpty = es.isEmpty := by rw [Bool.eq_iff_iff]; simp [← Array.size_eq_zero_iff, ← hl]
                rw [this]
                simp
              obtain ⟨hf1, hf2⟩ := filter_rep (fun b => !seen.contains b) es es'.toList hl' he'
              have hleft : es'.filter (fun e => !seen.toArray.contains e.born) = (es'.toList.filter (fun e => !seen.contains e.born)).toArray := by
                apply Array.ext'
                simp
              have step : ∀ (L : List MapEntry), es'.toList.filter (fun e => !seen.contains e.born) = L → (Instr.next (.pointer (some ⟨(σ r).blk, 0, none⟩)) false ty).run P w = (do
                  let left := L.toArray
                  let old := left.filter (·.born < since)
                  let new := left.filter (·.born ≥ since)
                  let candidates := (if old.isEmpty then #[none] else #[]) ++ (old ++ new).map some
                  match candidates[← choose (.mapNext candidates.size)]? with
                  | some (some e) =>
                    setObj (σ r).blk (.mapIter (some (σ m).blk) since (seen.toArray.push e.born) clock)
                    pure (.tuple #[.bool true, e.key, e.val])
                  | some none => pure (.tuple #[.bool false])
                  | none => stuck "Next: no such candidate" : Sem Value).run P w := by
                intro L hL
                have hleft' : es'.filter (fun e => !seen.toArray.contains e.born) = L.toArray := hleft.trans (by rw [hL])
                simp only [Instr.next, Sem.run_bind, hgo, hgo1, Result.andThen_ok, hbad', hleft', Bool.false_eq_true, if_false]
                rfl
              split at ha
              · rename_i hnil
                simp only [Option.some.injEq, Prod.mk.injEq] at ha
                obtain ⟨rfl, rfl⟩ := ha
                rw [hnil] at hf1
                have e0 : es'.toList.filter (fun e => !seen.contains e.born) = [] := List.eq_nil_of_length_eq_zero hf1.symm
                refine ⟨.tuple #[.bool false], w, σ, ?_, .refl hr, .mkTuple (.cons (.bool _) .nil)⟩
                rw [step _ e0]
                simp [Question.forced]
              · rename_i e hone
                cases hlt : Nat.blt e.born since with
                | false => rw [hlt] at ha; cases ha
                | true =>
                  rw [hlt] at ha
                  simp only [cond_true, Option.some.injEq, Prod.mk.injEq] at ha
                  obtain ⟨rfl, rfl⟩ := ha
                  have hlt' := blt_lt hlt
                  rw [hone] at hf1 hf2
                  cases hL : es'.toList.filter (fun e => !seen.contains e.born) with
                  | nil => rw [hL] at hf1; cases hf1
                  | cons e' rest =>
                    rw [hL] at hf1 hf2
                    have hrest : rest = [] := by
                      simp only [List.length_cons, List.length_nil] at hf1
                      exact List.eq_nil_of_length_eq_zero (by omega)
                    subst hrest
                    have hee := hf2 0 e e' rfl rfl
                    have hborn : e'.born < since := by rw [← hee.born]; exact hlt'
                    refine ⟨.tuple #[.bool true, e'.key, e'.val], _, σ, ?_, put_oth hr hg (o := .mapIter (some (σ m).blk) since (seen ++ [e.born]).toArray clock) (ORep.miter (D := (· < h.next)) (σ := σ) hDm since (seen ++ [e.born]) clock), .mkTuple (.cons (.bool _) (.cons hee.key (.cons hee.val .nil)))⟩
                    rw [step _ hL]
                    simp [Question.forced, hborn, show ¬ e'.born ≥ since by omega, hset, hee.born]
              · cases ha
        · cases ha
    · cases ha
  · cases ha

end
end Go.Proofs.YthhhmmildgijhaaGreatDoorAI
set_option linter.unusedVariables false
set_option linter.unusedSimpArgs false
namespace Go.Proofs.YthhhmmildgijhaaGreatDoorAI
open Go

section
variable {P : Program} {base : Nat} {D : Nat → Prop} {σ : Sig} {g : Nat → Option AObj} {w : World}

theorem cellBytes_rep : ∀ (cs cs' : List Value) (l : List UInt8), LRep D σ cs cs' → cellBytes cs = some l → cs' = Lib.byteCells l
  | [], cs', l, h, hl => by
    simp only [cellBytes, Option.some.injEq] at hl; subst hl
    exact List.length_eq_zero_iff.1 h.len.symm
  | v :: vs, [], l, h, hl => by have := h.len; simp at this
  | v :: vs, v' :: vs', l, h, hl => by
    have h0 := h.rel (i := 0) rfl rfl
    have h1 : LRep D σ vs vs' := by simpa using h.drop 1
    unfold cellBytes at hl
    split at hl
    · rename_i e; cases e
    · rename_i n us e
      simp only [List.cons.injEq] at e
      obtain ⟨rfl, rfl⟩ := e
      split at hl
      · rename_i k
        cases hk : Nat.blt k 256 with
        | false => rw [hk] at hl; cases hl
        | true =>
          rw [hk] at hl
          simp only [cond_true] at hl
          cases hc : cellBytes vs with
          | none => rw [hc] at hl; cases hl
          | some us =>
            rw [hc] at hl
            simp only [Option.map_some, Option.some.injEq] at hl
            subst hl
            rw [cellBytes_rep vs vs' us h1 hc, h0.inv_int]
            have hlt := blt_lt hk
            have : k.toUInt8.toNat = k := by simp [Nat.toUInt8, UInt8.toNat_ofNat]; omega
            simp only [Lib.byteCells, List.map_cons, this]
            rfl
      · cases hl
    · cases hl

theorem cellBytes_length : ∀ (cs : List Value) (l : List UInt8), cellBytes cs = some l → l.length = cs.length := by
  intro cs l h
  have key : ∀ (cs : List Value) (l : List UInt8), cellBytes cs = some l → cs = Lib.byteCells l := by
    intro cs
    induction cs with
    | nil => intro l hl; simp only [cellBytes, Option.some.injEq] at hl; subst hl; rfl
    | cons v vs ih =>
      intro l hl
      unfold cellBytes at hl
      split at hl
      · rename_i e; cases e
      · rename_i n us e
        simp only [List.cons.injEq] at e
        obtain ⟨rfl, rfl⟩ := e
        split at hl
        · rename_i k
          cases hk : Nat.blt k 256 with
          | false => rw [hk] at hl; cases hl
          | true =>
            rw [hk] at hl
            simp only [cond_true] at hl
            cases hc : cellBytes vs with
            | none => rw [hc] at hl; cases hl
            | some us =>
              rw [hc] at hl
              simp only [Option.map_some, Option.some.injEq] at hl
              subst hl
              have hlt := blt_lt hk
              have : k.toUInt8.toNat = k := by simp [Nat.toUInt8, UInt8.toNat_ofNat]; omega
              have e2 := ih us hc
              simp only [Lib.byteCells, List.map_cons, this]
              rw [e2]
              rfl
        · cases hl
      · cases hl
  have := key cs l h
  rw [this, Lib.byteCells_length]

theorem foldl_bytes : ∀ (l : List UInt8) (acc : ByteArray), (l.map fun b => (b.toNat : Int)).foldl (fun r n => r.push (UInt8.ofNat n.toNat)) acc = ⟨acc.data ++ l.toArray⟩
  | [], acc => by apply ByteArray.ext; simp
  | b :: l, acc => by
    simp only [List.map_cons, List.foldl_cons]
    rw [foldl_bytes l]
    have : UInt8.ofNat ((b.toNat : Int)).toNat = b := by simp
    rw [this]
    apply ByteArray.ext
    simp [ByteArray.push]

theorem Rep.shape (hr : Rep base D σ g w) {n : Nat} {c : List Value} {e : TypeId} {s : Nat} {gr ro : Bool} (hg : g n = some (.cells c e s gr ro)) :
    ∃ (C : Array Value) (t : TypeId), w.shape? (σ n).blk = some (t, C.size) ∧ (σ n).off + c.length ≤ C.size ∧ (ro = false → t = e) ∧ (gr = false → ro = false → (σ n).off = 0 ∧ C.size = c.length) := by
  obtain ⟨_, C, t, fr, r⟩ := hr.object hg
  exact ⟨C, t, by simp [World.shape?, r.heap], r.fit, fun h => (r.mine h).1, r.exact⟩

theorem aconv_sound {h h' : Heap} (hr : Rep base (· < h.next) σ h.get w) {src dst : TypeId} {x x' v : Value} (ha : aconv P src dst x h = some (v, h')) (hx : VRep (· < h.next) σ x x') : MemOK P base σ h w (convert src dst x') v h' := by
  unfold aconv at ha
  split at ha
  · rename_i e hs hd
    split at ha
    · rename_i he
      split at ha
      · rename_i a0 len cap cs k hc
        obtain ⟨a', cap', rfl, hl, hsome, _⟩ := hx.inv_anySlice
        obtain ⟨h1, arr, h2, h3, h4⟩ := acells_sound (P := P) hr hx hc w rfl
        cases hb : cellBytes cs with
        | none => rw [hb] at ha; cases ha
        | some l =>
          rw [hb] at ha
          simp only [Option.map_some, Option.some.injEq, Prod.mk.injEq] at ha
          obtain ⟨rfl, rfl⟩ := ha
          have harr := cellBytes_rep _ _ _ h3 hb
          have hlen : len = k := by
            simp only [Builtin.lenOf, Sem.run_pure, Result.ok.injEq] at h1
            exact h1.1
          subst hlen
          refine ⟨.string ⟨l.toArray⟩, w, σ, ?_, .refl hr, .string _⟩
          rw [run_convert_bytes_string w src dst e a' len cap' hs he hd]
          cases a' with
          | none =>
            have h5 := hx
            cases a0 with
            | some a0 => simp at hsome
            | none =>
              have : arr = #[] := by
                simp only [Builtin.firstCells, Sem.run_pure, Result.ok.injEq] at h2
                exact h2.1.symm
              rw [this] at harr
              have hl0 : l = [] := by
                have := congrArg List.length harr
                simp [Lib.byteCells] at this
                first | exact this | exact this.symm | exact List.eq_nil_of_length_eq_zero this.symm
              subst hl0
              rfl
          | some a' =>
            have hlc : (loadCells a' len).run P w = .ok ((l.map fun b => (b.toNat : Int)).map (Value.int .u8)).toArray w := by
              have h5 : (loadCells a' (len * 1)).run P w = .ok arr w := h2
              rw [Nat.mul_one] at h5
              rw [h5]
              congr 1
              apply Array.ext'
              rw [harr]
              simp [Lib.byteCells]
            rw [run_bytesToString w a' len cap' _ hlc, foldl_bytes]
            have e0 : ByteArray.empty.data ++ l.toArray = l.toArray := by
              show (#[] : Array UInt8) ++ l.toArray = l.toArray
              simp
            rw [e0]
      · cases ha
    · cases ha
  · rename_i t hs hd
    split at ha
    · simp only [Option.some.injEq, Prod.mk.injEq] at ha
      obtain ⟨rfl, rfl⟩ := ha
      rw [hx.inv_ptrNil]
      refine ⟨.pointer none, w, σ, ?_, .refl hr, .ptrNil⟩
      simp [convert, run_underlying hs, run_underlying hd, Conv.unsafePointer]
    · rename_i n off
      obtain ⟨hD, rfl⟩ := hx.inv_ptr
      split at ha
      · rename_i c e s gr ro k hg hsz
        cases hb : Nat.blt off c.length with
        | false => rw [hb] at ha; cases ha
        | true =>
          rw [hb] at ha
          simp only [cond_true, Option.some.injEq, Prod.mk.injEq] at ha
          obtain ⟨rfl, rfl⟩ := ha
          have hlt := blt_lt hb
          obtain ⟨C, t0, hsh, hfit, _, _⟩ := hr.shape hg
          refine ⟨_, w, σ, ?_, .refl hr, .ptr hD⟩
          have hne : ¬ C.size ≤ (σ n).off + off := by omega
          simp [convert, run_underlying hs, run_underlying hd, Conv.unsafePointer, Conv.seenAt, viewAt, cellsIn, hsh, run_size hsz, hne]
      · cases ha
    · cases ha
  · rename_i u hs hd
    split at ha
    · simp only [Option.some.injEq, Prod.mk.injEq] at ha
      obtain ⟨rfl, rfl⟩ := ha
      rw [hx.inv_ptrNil]
      refine ⟨.pointer none, w, σ, ?_, .refl hr, .ptrNil⟩
      simp [convert, run_underlying hs, run_underlying hd, Conv.unsafePointer]
    · rename_i n off
      obtain ⟨hD, rfl⟩ := hx.inv_ptr
      split at ha
      · rename_i c e s k hg hsz
        cases hb : liesAt P P.depth e (c.length / P.cellsOf e) off u 1 with
        | false => rw [hb] at ha; cases ha
        | true =>
          rw [hb] at ha
          simp only [cond_true, Option.some.injEq, Prod.mk.injEq] at ha
          obtain ⟨rfl, rfl⟩ := ha
          obtain ⟨C, t0, hsh, hfit, ht, hex⟩ := hr.shape hg
          obtain ⟨h0, hC⟩ := hex rfl rfl
          obtain rfl := ht rfl
          have hsz' : szOf P u = some (k + 1) := by
            unfold Program.cellsOf at hsz
            unfold szOf
            cases hi : P.info? u with
            | none => rw [hi] at hsz; simp at hsz
            | some i => rw [hi] at hsz; simpa using hsz
          refine ⟨_, w, σ, ?_, .refl hr, .ptr hD⟩
          rw [← hC] at hb
          simp [convert, run_underlying hs, run_underlying hd, Conv.unsafePointer, Conv.seenAt, viewAt, hsh, run_size hsz', variablesAt, h0, hb]
      · cases ha
    · cases ha
  · cases ha

/-! built-in functions -/
theorem liesAt_bytes_off {e : TypeId} (hc : P.cellsOf e = 1) (count off n : Nat) (hn : off + n ≤ count) : liesAt P P.depth e count off e n = true := by
  have hd : P.depth = (2 * (P.types.size + Made.depth) + 1) + 1 := rfl
  rw [hd]
  simp only [liesAt, Bool.or_eq_true]
  left
  rw [hd]
  simp [rowAt, hc, hn, sameLayout, Nat.mod_one]

theorem run_unsafeString_off (pt it ty e : TypeId) (k : IntKind) (hp : P.underlying pt = some (.pointer e)) (hc : P.cellsOf e = 1) (g o cells : Nat) (hsh : w.shape? g = some (e, cells)) (l : List UInt8) (h0 : l ≠ []) (hn : o + l.length ≤ cells) (h63 : l.length ≤ 9223372036854775807)
    (hcell : ∀ j x, l[j]? = some x → w.cell? ((⟨g, o, none⟩ : Addr).add j) = some (.int .u8 x.toNat)) :
    (Builtin.unsafeString_ #[pt, it] ty #[.pointer (some ⟨g, o, none⟩), .int k l.length]).run P w = .ok (.string ⟨l.toArray⟩) (w.freeze ⟨g, o, none⟩ l.length) := by
  have hl : l.length ≠ 0 := by simpa using h0
  have hlb := Lib.run_loadBytes (P := P) w l ⟨g, o, none⟩ .empty hcell
  have hlies := liesAt_bytes_off (P := P) hc (cells / P.cellsOf e) o l.length (by rw [hc]; simpa using hn)
  have h63' : ¬ (9223372036854775807 : Int) < (l.length : Int) := by omega
  obtain ⟨m1, hdef⟩ : ∃ m1 : String, Builtin.unsafeString_ #[pt, it] ty #[.pointer (some ⟨g, o, none⟩), .int k l.length] =
      (do
        let n ← asInt (.int k l.length)
        if n < 0 then runtimePanic (.error m1)
        if n > IntKind.i64.max then unsupported (.unsafePointer "String: a length above the largest int")
        if n = 0 then pure (.string .empty)
        else if ← variablesAt ⟨g, o, none⟩ (← elemOf pt) n.toNat then do
          let s ← loadBytes ⟨g, o, none⟩ .empty n.toNat
          freeze ⟨g, o, none⟩ n.toNat
          pure (.string s)
        else unsupported (.unsafePointer "String: not so many bytes at ptr")) := ⟨_, rfl⟩
  rw [hdef]
  have hmax : IntKind.i64.max = 9223372036854775807 := rfl
  have hneg : ¬ (l.length : Int) < 0 := by omega
  simp [asInt, asIntOf, hmax, h63', hneg, hl, variablesAt, hsh, elemOf, run_underlying hp, hlies, hlb]

theorem run_unsafeString_zero (pt it ty : TypeId) (p : Option Addr) (k : IntKind) : (Builtin.unsafeString_ #[pt, it] ty #[.pointer p, .int k 0]).run P w = .ok (.string .empty) w := by
  have hmax : IntKind.i64.max = 9223372036854775807 := rfl
  cases p with
  | none =>
    obtain ⟨m1, m2, hdef⟩ : ∃ m1 m2 : String, Builtin.unsafeString_ #[pt, it] ty #[.pointer none, .int k 0] =
        (do
          let n ← asInt (.int k 0)
          if n < 0 then runtimePanic (.error m1)
          if n > IntKind.i64.max then unsupported (.unsafePointer "String: a length above the largest int")
          if n = 0 then pure (.string .empty)
          else runtimePanic (.error m2)) := ⟨_, _, rfl⟩
    rw [hdef]
    simp [asInt, asIntOf, hmax]
  | some a =>
    obtain ⟨m1, hdef⟩ : ∃ m1 : String, Builtin.unsafeString_ #[pt, it] ty #[.pointer (some a), .int k 0] =
        (do
          let n ← asInt (.int k 0)
          if n < 0 then runtimePanic (.error m1)
          if n > IntKind.i64.max then unsupported (.unsafePointer "String: a length above the largest int")
          if n = 0 then pure (.string .empty)
          else if ← variablesAt a (← elemOf pt) n.toNat then do
            let s ← loadBytes a .empty n.toNat
            freeze a n.toNat
            pure (.string s)
          else unsupported (.unsafePointer "String: not so many bytes at ptr")) := ⟨_, rfl⟩
    rw [hdef]
    simp [asInt, asIntOf, hmax]

/-- What is frozen is left: its name goes. -/
theorem Moves.froze {h : Heap} (hr : Rep base (· < h.next) σ h.get w) {n : Nat} {c : List Value} {e : TypeId} {s : Nat} {gr : Bool} (hg : h.get n = some (.cells c e s gr false)) (o k : Nat) :
    Moves base (· < h.next) σ h.get w (· < (h.put n none).next) σ (h.put n none).get (w.freeze ⟨(σ n).blk, o, none⟩ k) := by
  have hD : n < h.next := Heap.get_lt hg
  have hgp : (h.put n none).get = fun m => if m = n then none else h.get m := by funext m; rw [Heap.get_put (Heap.own_ge hg rfl) hD]
  have hn : NonRo h.get n := .cells hg
  have hbn := hr.own n hn
  have hsz : (w.freeze ⟨(σ n).blk, o, none⟩ k).heap.size = w.heap.size := by unfold World.freeze; split <;> simp
  have hother : ∀ b, b ≠ (σ n).blk → (w.freeze ⟨(σ n).blk, o, none⟩ k).heap[b]? = w.heap[b]? := fun b hb => by
    unfold World.freeze
    split
    · rfl
    · simp only [Array.getElem?_modify]; rw [if_neg (by omega)]
  have hsub : ∀ m o, (h.put n none).get m = some o → m ≠ n ∧ h.get m = some o := fun m o hm => by
    rw [hgp] at hm
    simp only at hm
    split at hm
    · cases hm
    · rename_i hne; exact ⟨hne, hm⟩
  have hbne : ∀ m o, m ≠ n → h.get m = some o → (σ m).blk ≠ (σ n).blk := by
    intro m o hm hg
    cases ho : o.own with
    | true => exact hr.inj m n ⟨o, hg, ho⟩ hn hm
    | false => have := hr.old m ⟨o, hg, ho⟩; omega
  refine ⟨fun _ h => h, fun _ _ => rfl, ⟨hr.gl.mono (fun _ h => h) (fun _ _ => rfl) (fun b hb => hother b (by omega)), ?_, ?_, fun m ⟨o, h1, h2⟩ => hr.own m ⟨o, (hsub _ _ h1).2, h2⟩, fun m ⟨o, h1, h2⟩ => hr.old m ⟨o, (hsub _ _ h1).2, h2⟩, fun m q ⟨o, h1, h2⟩ ⟨o', h3, h4⟩ hne => hr.inj m q ⟨o, (hsub _ _ h1).2, h2⟩ ⟨o', (hsub _ _ h3).2, h4⟩ hne, by rw [hsz]; exact hr.size⟩, by unfold World.freeze; split <;> rfl, by unfold World.freeze; split <;> rfl, by unfold World.freeze; split <;> rfl, by rw [hsz]; exact Nat.le_refl _, fun b _ hno => hother b fun e => hno ⟨n, hn, e.symm⟩, fun b ⟨m, ⟨o, h1, h2⟩, h3⟩ => .inl ⟨m, ⟨o, (hsub _ _ h1).2, h2⟩, h3⟩⟩
  · intro m c1 e1 s1 gr1 ro1 h1
    obtain ⟨hne, h1⟩ := hsub _ _ h1
    obtain ⟨hD, C, t, fr, r⟩ := hr.object h1
    exact ⟨hD, C, t, fr, ⟨by rw [hother _ (hbne m _ hne h1)]; exact r.heap, r.fit, r.rel, r.mine, r.grow, r.exact⟩⟩
  · intro m y h1
    obtain ⟨hne, h1⟩ := hsub _ _ h1
    obtain ⟨hD, h0, o', ho, q⟩ := hr.oth m y h1
    exact ⟨hD, h0, o', by rw [hother _ (hbne m _ hne h1)]; exact ho, q⟩

theorem LRep.single {a : Value} {xs : Array Value} (h : LRep D σ [a] xs.toList) : ∃ a', xs = #[a'] ∧ VRep D σ a a' := by
  obtain ⟨l⟩ := xs
  match l, h with
  | [a'], h => exact ⟨a', rfl, h.rel (i := 0) rfl rfl⟩
  | [], h => have := h.len; simp at this
  | _ :: _ :: _, h => have := h.len; simp at this
theorem LRep.two {a b : Value} {xs : Array Value} (h : LRep D σ [a, b] xs.toList) : ∃ a' b', xs = #[a', b'] ∧ VRep D σ a a' ∧ VRep D σ b b' := by
  obtain ⟨l⟩ := xs
  match l, h with
  | [a', b'], h => exact ⟨a', b', rfl, h.rel (i := 0) rfl rfl, h.rel (i := 1) rfl rfl⟩
  | [], h => have := h.len; simp at this
  | [_], h => have := h.len; simp at this
  | _ :: _ :: _ :: _, h => have := h.len; simp at this

theorem acopy_sound {h h' : Heap} (hr : Rep base (· < h.next) σ h.get w) {t ty : TypeId} {ts : Array TypeId} (ht : ts[0]? = some t) {d x d' x' v : Value} (hd : VRep (· < h.next) σ d d') (hx : VRep (· < h.next) σ x x') (ha : acopy P t d x h = some (v, h')) :
    MemOK P base σ h w (Builtin.copy_ ts ty #[d', x']) v h' := by
  unfold acopy at ha
  split at ha
  · rename_i e hu
    split at ha
    · rename_i sz hsz
      split at ha
      · rename_i n off sp len cap new k hc
        obtain ⟨h1, arr, h2, h3, h4⟩ := acells_sound (P := P) hr hx hc w rfl
        obtain ⟨a', cap', rfl, hle, hs, hk⟩ := hd.inv_anySlice
        obtain ⟨hD, hk⟩ := hk _ _ _ rfl
        split at ha
        · rename_i c e' esz gr hg
          cases hb : Nat.beq k len && Nat.blt 0 len && Nat.ble (off + len * (sz + 1)) c.length && new.all one with
          | false => rw [hb] at ha; cases ha
          | true =>
            rw [hb] at ha
            simp only [cond_true, Option.some.injEq, Prod.mk.injEq] at ha
            obtain ⟨rfl, rfl⟩ := ha
            simp only [Bool.and_eq_true] at hb
            obtain ⟨⟨⟨b1, b2⟩, b3⟩, b4⟩ := hb
            obtain rfl := Nat.eq_of_beq_eq_true b1
            have b2 := blt_lt b2
            have b3 := ble_le b3
            rw [hk (by omega)]
            obtain ⟨w', hrun, hm⟩ := write_sound (P := P) hr hg (off := off) h3 (h3.ones b4) (by rw [h4]; exact b3)
            rw [h4] at hm
            refine ⟨goInt k, w', σ, ?_, ?_, .int _ _⟩
            · simp [Builtin.copy_, ht, run_underlying hu, h1, run_size hsz, h2, hrun]
            · have hgp : (h.put n (some (.cells (c.take off ++ new ++ c.drop (off + k * (sz + 1))) e' esz gr false))).get = (fun m => if m = n then some (.cells (c.take off ++ new ++ c.drop (off + k * (sz + 1))) e' esz gr false) else h.get m) := by
                funext m; rw [Heap.get_put (Heap.own_ge hg rfl) hD]
              rw [hgp]; exact hm
        · cases ha
      · cases ha
    · cases ha
  · cases ha

theorem abuiltin_at {h h' : Heap} (hr : Rep base (· < h.next) σ h.get w) {b : Builtin} {ty : TypeId} {ts : Array TypeId} {vs : List Value} {args : Array Value} {v : Value} (hl : LRep (· < h.next) σ vs args.toList) (ha : abuiltin P b ts.toList vs h = some (v, h')) :
    ∃ v' w' σ', (∀ consts, (builtin b ts ty consts args).run P w = .ok (.value v') w') ∧ Moves base (· < h.next) σ h.get w (· < h'.next) σ' h'.get w' ∧ VRep (· < h'.next) σ' v v' := by
  unfold abuiltin at ha
  split at ha
  · rename_i t xt s x hts
    have e2 : ts = #[t, xt] := by rw [← Array.toList_inj, hts]
    subst e2
    obtain ⟨s', x', rfl, hs, hx⟩ := hl.two
    unfold aappend at ha
    split at ha
    · rename_i e d ht hxt
      cases hd : appends d with
      | false => rw [hd] at ha; cases ha
      | true =>
        rw [hd] at ha
        simp only [cond_true] at ha
        obtain ⟨v', w', σ', hrun, hm, hv⟩ := aappendE_sound (ty := ty) ht hxt hd hr hs hx ha
        exact ⟨v', w', σ', fun consts => by simp [builtin, hrun], hm, hv⟩
    · cases ha
  · rename_i t rest d x hts
    obtain ⟨d', x', rfl, hd, hx⟩ := hl.two
    have e2 : ts[0]? = some t := by rw [← Array.getElem?_toList, hts]; rfl
    obtain ⟨v', w', σ', hrun, hm, hv⟩ := acopy_sound (ty := ty) hr e2 hd hx ha
    exact ⟨v', w', σ', fun consts => by simp [builtin, hrun], hm, hv⟩
  · rename_i t rest x hts
    have e2 : ts[0]? = some t := by rw [← Array.getElem?_toList, hts]; rfl
    obtain ⟨x', rfl, hx⟩ := hl.single
    split at ha
    · rename_i key elem hu
      cases he : aentries x h with
      | none => rw [he] at ha; cases ha
      | some es =>
        rw [he] at ha
        simp only [Option.map_some, Option.some.injEq, Prod.mk.injEq] at ha
        obtain ⟨rfl, rfl⟩ := ha
        rcases aentries_sound hr he hx with ⟨rfl, rfl⟩ | ⟨r, es', clock, rfl, hb, hlen, _⟩
        · exact ⟨goInt 0, w, σ, fun consts => by simp [builtin, Builtin.len_, e2, run_underlying hu], .refl hr, .int _ _⟩
        · have hg : (getObj r).run P w = .ok (.map es' clock) w := run_getObj_oth hb (by intro _ _ _ h; cases h)
          have hlen' : es'.size = es.length := by simpa using hlen.symm
          exact ⟨goInt es.length, w, σ, fun consts => by simp [builtin, Builtin.len_, e2, run_underlying hu, hg, hlen'], .refl hr, .int _ _⟩
    · cases ha
  · rename_i x
    obtain ⟨x', rfl, hx⟩ := hl.single
    split at ha
    · simp only [Option.some.injEq, Prod.mk.injEq] at ha
      obtain ⟨rfl, rfl⟩ := ha
      obtain ⟨_, _, rfl⟩ := hx.inv_sliceNil
      exact ⟨.pointer none, w, σ, fun consts => by simp only [builtin, Sem.run_bind, Lib.run_unsafeSliceData_nil, Result.andThen_ok, Sem.run_pure], .refl hr, .ptrNil⟩
    · rename_i n off sp k cap
      simp only [Option.some.injEq, Prod.mk.injEq] at ha
      obtain ⟨rfl, rfl⟩ := ha
      obtain ⟨a', cap', rfl, hle, hs, hk⟩ := hx.inv_anySlice
      obtain ⟨hD, hk⟩ := hk _ _ _ rfl
      rw [hk (by omega)]
      exact ⟨_, w, σ, fun consts => by simp only [builtin, Sem.run_bind, Lib.run_unsafeSliceData_row w ts ty _ _ cap' (by omega), Result.andThen_ok, Sem.run_pure], .refl hr, .ptr hD⟩
    · cases ha
  · rename_i t it x l hts
    have e2 : ts = #[t, it] := by rw [← Array.toList_inj, hts]
    subst e2
    obtain ⟨x', l', rfl, hx, hln⟩ := hl.two
    split at ha
    · rename_i kd
      simp only [Option.some.injEq, Prod.mk.injEq] at ha
      obtain ⟨rfl, rfl⟩ := ha
      rw [hx.inv_ptrNil, hln.inv_int]
      exact ⟨.string .empty, w, σ, fun consts => by simp only [builtin, Sem.run_bind, run_unsafeString_zero, Result.andThen_ok, Sem.run_pure], .refl hr, .string _⟩
    · rename_i n off kd k
      obtain ⟨hD, rfl⟩ := hx.inv_ptr
      obtain rfl := hln.inv_int
      split at ha
      · rename_i u c e es gr hu hg
        cases hk0 : Nat.beq k 0 with
        | true =>
          rw [hk0] at ha
          simp only [cond_true, Option.some.injEq, Prod.mk.injEq] at ha
          obtain ⟨rfl, rfl⟩ := ha
          obtain rfl := Nat.eq_of_beq_eq_true hk0
          exact ⟨.string .empty, w, σ, fun consts => by
            show (do pure (Next.value (← Builtin.unsafeString_ #[t, it] ty #[.pointer (some ⟨(σ n).blk, (σ n).off + off, none⟩), .int kd 0])) : Sem Next).run P w = _
            simp only [Sem.run_bind, run_unsafeString_zero, Result.andThen_ok, Sem.run_pure], .refl hr, .string _⟩
        | false =>
          rw [hk0] at ha
          simp only [cond_false] at ha
          cases hb : Nat.beq u e && Nat.blt k (2 ^ 62) && Nat.beq (P.cellsOf e) 1 && Nat.ble (off + k) c.length with
          | false => rw [hb] at ha; cases ha
          | true =>
            rw [hb] at ha
            simp only [cond_true] at ha
            simp only [Bool.and_eq_true] at hb
            obtain ⟨⟨⟨b1, b2⟩, b3⟩, b4⟩ := hb
            obtain rfl := Nat.eq_of_beq_eq_true b1
            have hk2 : k < 4611686018427387904 := blt_lt b2
            have hc1 := Nat.eq_of_beq_eq_true b3
            have hle := ble_le b4
            have hkne : k ≠ 0 := fun e => by subst e; simp at hk0
            cases hcb : cellBytes ((c.drop off).take k) with
            | none => rw [hcb] at ha; cases ha
            | some l =>
              rw [hcb] at ha
              simp only [Option.map_some, Option.some.injEq, Prod.mk.injEq] at ha
              obtain ⟨rfl, rfl⟩ := ha
              have hlen := cellBytes_length _ _ hcb
              have hlk : l.length = k := by rw [hlen]; simp; omega
              obtain ⟨_, C, t0, fr, r⟩ := hr.object hg
              obtain ⟨rfl, rfl⟩ := r.mine rfl
              have hseg := r.seg off k hle
              have hbytes := cellBytes_rep _ _ _ hseg hcb
              have hsh : w.shape? (σ n).blk = some (t0, C.size) := by simp [World.shape?, r.heap]
              have hfit := r.fit
              have hcell : ∀ j x, l[j]? = some x → w.cell? ((⟨(σ n).blk, (σ n).off + off, none⟩ : Addr).add j) = some (.int .u8 x.toNat) := by
                intro j x hj
                rw [add_at, cell_at r.heap]
                have hjk : j < k := by rw [← hlk]; exact (List.getElem?_eq_some_iff.1 hj).1
                have h1 : ((C.toList.drop ((σ n).off + off)).take k)[j]? = some (.int .u8 x.toNat) := by
                  rw [hbytes]
                  simp [Lib.byteCells, hj]
                rw [List.getElem?_take, if_pos hjk, List.getElem?_drop, Array.getElem?_toList] at h1
                exact h1
              have hrun := run_unsafeString_off (P := P) (w := w) t it ty t0 kd hu hc1 (σ n).blk ((σ n).off + off) C.size hsh l (by intro e; subst e; simp at hlk; omega) (by omega) (by omega) hcell
              refine ⟨.string ⟨l.toArray⟩, _, σ, fun consts => ?_, Moves.froze hr hg ((σ n).off + off) l.length, .string _⟩
              have e3 : (Int.ofNat k) = (l.length : Int) := by rw [hlk]; rfl
              rw [e3]
              show (do pure (Next.value (← Builtin.unsafeString_ #[t, it] ty #[.pointer (some ⟨(σ n).blk, (σ n).off + off, none⟩), .int kd l.length])) : Sem Next).run P w = _
              simp only [Sem.run_bind, hrun, Result.andThen_ok, Sem.run_pure]
      · cases ha
    · cases ha
  · cases ha

theorem abuiltin_sound {h h' : Heap} (hr : Rep base (· < h.next) σ h.get w) {b : Builtin} {ty : TypeId} {c : Call} {ρ ρ' : Operand → Value} {v : Value} (hρ : ∀ x, VRep (· < h.next) σ (ρ x) (ρ' x)) (ha : abuiltin P b c.argTypes.toList (c.args.toList.map ρ) h = some (v, h')) :
    ∃ v' w' σ', (∀ consts, (builtin b c.argTypes ty consts (c.args.map ρ')).run P w = .ok (.value v') w') ∧ Moves base (· < h.next) σ h.get w (· < h'.next) σ' h'.get w' ∧ VRep (· < h'.next) σ' v v' :=
  abuiltin_at hr (by have := map_rep hρ c.args; simpa using this) ha

end
end Go.Proofs.YthhhmmildgijhaaGreatDoorAI
set_option linter.unusedVariables false
set_option linter.unusedSimpArgs false
namespace Go.Proofs.YthhhmmildgijhaaGreatDoorAI
open Go

section
variable {P : Program} {base : Nat} {D : Nat → Prop} {σ : Sig} {g : Nat → Option AObj} {w : World}

theorem find_rep {D : Nat → Prop} (p : Nat → Bool) : ∀ (es es' : List MapEntry) (e : MapEntry), es.length = es'.length → (∀ (j : Nat) (e e' : MapEntry), es[j]? = some e → es'[j]? = some e' → ERep D σ e e') →
    es.find? (fun e => p e.born) = some e → ∃ e', es'.find? (fun e => p e.born) = some e' ∧ ERep D σ e e'
  | [], _, e, _, _, hf => by cases hf
  | a :: es, [], e, hl, _, _ => by cases hl
  | a :: es, b :: es', e, hl, he, hf => by
    have hab := he 0 a b rfl rfl
    simp only [List.find?_cons] at hf ⊢
    rw [← hab.born]
    cases hp : p a.born with
    | true =>
      rw [hp] at hf
      simp only [Option.some.injEq] at hf
      subst hf
      exact ⟨b, rfl, hab⟩
    | false =>
      rw [hp] at hf
      exact find_rep p es es' e (by simpa using hl) (fun j x y h1 h2 => he (j + 1) x y (by simpa using h1) (by simpa using h2)) hf

theorem findIdx_rep {D : Nat → Prop} (p : Nat → Bool) : ∀ (es es' : List MapEntry), es.length = es'.length → (∀ (j : Nat) (e e' : MapEntry), es[j]? = some e → es'[j]? = some e' → ERep D σ e e') →
    es'.findIdx? (fun e => p e.born) = es.findIdx? (fun e => p e.born)
  | [], [], _, _ => rfl
  | [], _ :: _, hl, _ => by cases hl
  | _ :: _, [], hl, _ => by cases hl
  | a :: es, b :: es', hl, he => by
    have hab := he 0 a b rfl rfl
    simp only [List.findIdx?_cons]
    rw [← hab.born, findIdx_rep p es es' (by simpa using hl) (fun j x y h1 h2 => he (j + 1) x y (by simpa using h1) (by simpa using h2))]

theorem aentry_sound {h : Heap} (hr : Rep base (· < h.next) σ h.get w) {x x' v : Value} (ha : aentry x h = some v) (hx : VRep (· < h.next) σ x x') :
    ∃ v', (Instr.entry x').run P w = .ok v' w ∧ VRep (· < h.next) σ v v' := by
  unfold aentry at ha
  split at ha
  · rename_i r
    obtain ⟨hD, rfl⟩ := hx.inv_ptr
    rw [Nat.add_zero]
    split at ha
    · rename_i m since seen stepped hg
      obtain ⟨_, h0, o0, hb, hrep⟩ := hr.oth r _ hg
      cases hrep with
      | miter hDm =>
        split at ha
        · rename_i stamp es clock hl hgm
          obtain ⟨_, _, o1, hb1, hrep1⟩ := hr.oth m _ hgm
          cases hrep1 with
          | @map _ es' _ hlen he =>
            cases hc : Nat.beq clock stepped with
            | false => rw [hc] at ha; cases ha
            | true =>
              rw [hc] at ha
              simp only [cond_true] at ha
              obtain rfl := Nat.eq_of_beq_eq_true hc
              split at ha
              · rename_i e hf
                simp only [Option.some.injEq] at ha
                subst ha
                obtain ⟨e', hf', hee⟩ := find_rep (fun b => Nat.beq b stamp) es es'.toList e (by simpa using hlen) (fun j a b h1 h2 => he j a b h1 (by simpa using h2)) hf
                have hgo := run_getObj_oth (P := P) hb (by intro _ _ _ h; cases h)
                have hgo1 := run_getObj_oth (P := P) hb1 (by intro _ _ _ h; cases h)
                have hfe : (fun e : MapEntry => e.born == stamp) = fun e => Nat.beq e.born stamp := by funext e; rw [Bool.eq_iff_iff]; simp
                have hback : seen.toArray.back? = some stamp := by simpa [Array.back?, List.getLast?_eq_getElem?] using hl
                have hfa : es'.find? (fun e => e.born == stamp) = some e' := by
                  rw [← Array.find?_toList, hfe]; exact hf'
                refine ⟨.tuple #[e'.key, e'.val], ?_, .mkTuple (.cons hee.key (.cons hee.val .nil))⟩
                rw [h0]
                simp [Instr.entry, hgo, hgo1, hback, hfa]
              · cases ha
        · cases ha
    · cases ha
  · cases ha

theorem amapEntry_sound {h h' : Heap} (hr : Rep base (· < h.next) σ h.get w) {t : TypeId} {m k m' k' v : Value} (ha : amapEntry P t m k h = some (v, h')) (hm : VRep (· < h.next) σ m m') (hk : VRep (· < h.next) σ k k') :
    MemOK P base σ h w (Instr.mapEntry t m' k') v h' := by
  unfold amapEntry at ha
  split at ha
  · rename_i key elem n hu
    obtain ⟨_, rfl⟩ := hm.inv_map
    split at ha
    · rename_i kd z es clock hkd hz hg
      cases hkk : keyKind kd && plain z with
      | false => rw [hkk] at ha; cases ha
      | true =>
        rw [hkk] at ha
        simp only [cond_true] at ha
        simp only [Bool.and_eq_true] at hkk
        obtain ⟨hkk, hpz⟩ := hkk
        obtain ⟨hD, h0, o0, hb, hrep⟩ := hr.oth n _ hg
        cases hrep with
        | @map _ es' _ hl he =>
          have hgo : (getObj (σ n).blk).run P w = .ok (.map es' clock) w := run_getObj_oth hb (by intro _ _ _ h; cases h)
          have hset : ∀ o, (setObj (σ n).blk o).run P w = .ok () { w with heap := w.heap.setIfInBounds (σ n).blk o } := fun o => run_setObj_oth hb (by intro _ _ _ h; cases h)
          have hc : (Instr.checkKey false 10000 key k').run P w = .ok () w := run_checkKey hkd hkk
          have hl' : es.length = es'.toList.length := by simpa using hl
          have he' : ∀ (j : Nat) (e e' : MapEntry), es[j]? = some e → es'.toList[j]? = some e' → ERep (· < h.next) σ e e' := fun j e e' h1 h2 => he j e e' h1 (by simpa using h2)
          split at ha
          · rename_i i u hf
            split at ha
            · rename_i e hei
              simp only [Option.some.injEq, Prod.mk.injEq] at ha
              obtain ⟨rfl, rfl⟩ := ha
              rcases findNow_rep hk es es'.toList 0 _ hl' he' hf with ⟨h1, _⟩ | ⟨j, v, v', h1, h2, h3⟩
              · cases h1
              · simp only [Option.some.injEq, Prod.mk.injEq] at h1
                obtain ⟨rfl, rfl⟩ := h1
                obtain ⟨e1, _, hei', hv1, hsame⟩ := findNow_at _ _ _ _ h2
                simp only [Nat.sub_zero, Array.getElem?_toList] at hei'
                have hfk : (Instr.findKey key k' es'.toList).run P w = .ok (some (i, v')) w := run_findKey hkd h2
                have hstay : (Instr.keyThatStays e1.key k').run P w = .ok k' w := by simp [Instr.keyThatStays, sameBits_of hsame]
                have hrepN : ORep (· < h.next) σ (.map (es.set i ⟨k, e.val, e.born⟩) clock) (.map (es'.modify i fun e => { e with key := k' }) clock) := by
                  refine .map clock (by simpa using hl) fun j a b h1 h2 => ?_
                  rw [List.getElem?_set] at h1
                  rw [Array.getElem?_modify] at h2
                  split at h1
                  · rename_i hij
                    subst hij
                    split at h1
                    · simp only [Option.some.injEq] at h1; subst h1
                      simp only [if_true, hei', Option.map_some, Option.some.injEq] at h2; subst h2
                      exact ⟨hk, (he _ _ _ hei hei').val, (he _ _ _ hei hei').born⟩
                    · cases h1
                  · rename_i hij
                    rw [if_neg hij] at h2
                    exact he _ _ _ h1 h2
                have hborn := (he _ _ _ hei hei').born
                have hget : ((es'[i]?).map (·.key)).getD k' = e1.key := by rw [hei']; rfl
                have hgb : ((es'[i]?).map (·.born)).getD 0 = e.born := by rw [hei', hborn]; rfl
                refine ⟨.tuple #[v', goInt e.born], _, σ, ?_, put_oth hr hg hrepN, .mkTuple (.cons h3 (.cons (.int _ _) .nil))⟩
                simp [Instr.mapEntry, run_underlying hu, hgo, hc, hfk, hget, hgb, hstay, hset]
                rw [hei', hborn]; rfl
            · cases ha
          · rename_i hf
            simp only [Option.some.injEq, Prod.mk.injEq] at ha
            obtain ⟨rfl, rfl⟩ := ha
            rcases findNow_rep hk es es'.toList 0 _ hl' he' hf with ⟨_, h2⟩ | ⟨j, v, v', h1, _⟩
            · have hfk : (Instr.findKey key k' es'.toList).run P w = .ok none w := run_findKey hkd h2
              have hrepN : ORep (· < h.next) σ (.map (es ++ [⟨k, z, clock⟩]) (clock + 1)) (.map (es'.push ⟨k', z, clock⟩) (clock + 1)) := by
                refine .map (clock + 1) (by simp [hl]) fun j a b h1 h2 => ?_
                rw [List.getElem?_append] at h1
                rw [Array.getElem?_push] at h2
                rw [← hl] at h2
                split at h1
                · rename_i hj
                  rw [if_neg (by omega)] at h2
                  exact he _ _ _ h1 h2
                · rename_i hj
                  by_cases hjl : j = es.length
                  · subst hjl
                    simp only [Nat.sub_self, List.getElem?_cons_zero, Option.some.injEq] at h1; subst h1
                    simp only [if_true, Option.some.injEq] at h2; subst h2
                    exact ⟨hk, VRep.plain_refl 8 hpz, rfl⟩
                  · have : j - es.length ≠ 0 := by omega
                    obtain ⟨q, hq⟩ : ∃ q, j - es.length = q + 1 := ⟨j - es.length - 1, by omega⟩
                    rw [hq] at h1; simp at h1
              have hzero : (zeroValue elem).run P w = .ok z w := run_zero hz w
              refine ⟨.tuple #[z, goInt clock], _, σ, ?_, put_oth hr hg hrepN, .mkTuple (.cons (VRep.plain_refl 8 hpz) (.cons (.int _ _) .nil))⟩
              simp [Instr.mapEntry, run_underlying hu, hgo, hc, hfk, hset, hzero]
            · cases h1
          · cases ha
    · cases ha
  · cases ha

theorem aentryStore_sound {h h' : Heap} (hr : Rep base (· < h.next) σ h.get w) {t : TypeId} {m s x m' s' x' : Value} (ha : aentryStore m s x h = some h') (hm : VRep (· < h.next) σ m m') (hs : VRep (· < h.next) σ s s') (hx : VRep (· < h.next) σ x x') :
    ∃ w', (Instr.entryStore t m' s' x').run P w = .ok () w' ∧ Moves base (· < h.next) σ h.get w (· < h'.next) σ h'.get w' := by
  unfold aentryStore at ha
  split at ha
  · rename_i n k b
    obtain ⟨_, rfl⟩ := hm.inv_map
    obtain rfl := hs.inv_int
    split at ha
    · rename_i es clock hg
      obtain ⟨hD, h0, o0, hb, hrep⟩ := hr.oth n _ hg
      cases hrep with
      | @map _ es' _ hl he =>
        have hgo : (getObj (σ n).blk).run P w = .ok (.map es' clock) w := run_getObj_oth hb (by intro _ _ _ h; cases h)
        have hset : ∀ o, (setObj (σ n).blk o).run P w = .ok () { w with heap := w.heap.setIfInBounds (σ n).blk o } := fun o => run_setObj_oth hb (by intro _ _ _ h; cases h)
        have hl' : es.length = es'.toList.length := by simpa using hl
        have he' : ∀ (j : Nat) (e e' : MapEntry), es[j]? = some e → es'.toList[j]? = some e' → ERep (· < h.next) σ e e' := fun j e e' h1 h2 => he j e e' h1 (by simpa using h2)
        split at ha
        · rename_i i hf
          split at ha
          · rename_i e hei
            simp only [Option.some.injEq] at ha
            subst ha
            have hf' : es'.toList.findIdx? (fun e => decide ((e.born : Int) = b)) = some i := by
              rw [findIdx_rep (fun q => decide ((q : Int) = b)) es es'.toList hl' he', hf]
            have hfa : es'.findIdx? (fun e => (e.born : Int) == b) = some i := by
              rw [← hf']; cases es'; simp; rfl
            obtain ⟨e1, hei'⟩ : ∃ e1, es'[i]? = some e1 := by
              have hlt := (List.getElem?_eq_some_iff.1 hei).1
              exact ⟨es'[i]'(by omega), Array.getElem?_eq_getElem _⟩
            have hrepN : ORep (· < h.next) σ (.map (es.set i ⟨e.key, x, e.born⟩) clock) (.map (es'.modify i fun e => { e with val := x' }) clock) := by
              refine .map clock (by simpa using hl) fun j a b h1 h2 => ?_
              rw [List.getElem?_set] at h1
              rw [Array.getElem?_modify] at h2
              split at h1
              · rename_i hij
                subst hij
                split at h1
                · simp only [Option.some.injEq] at h1; subst h1
                  simp only [if_true, hei', Option.map_some, Option.some.injEq] at h2; subst h2
                  exact ⟨(he _ _ _ hei hei').key, hx, (he _ _ _ hei hei').born⟩
                · cases h1
              · rename_i hij
                rw [if_neg hij] at h2
                exact he _ _ _ h1 h2
            refine ⟨_, ?_, put_oth hr hg hrepN⟩
            simp [Instr.entryStore, hgo, asInt, asIntOf, hfa, hset]
          · cases ha
        · cases ha
    · cases ha
  · cases ha

end
end Go.Proofs.YthhhmmildgijhaaGreatDoorAI
