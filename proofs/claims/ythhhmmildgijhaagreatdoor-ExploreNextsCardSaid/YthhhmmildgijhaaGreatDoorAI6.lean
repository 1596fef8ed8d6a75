/- append: what the interpreter answers, the model answers, whatever capacity the tape gives. -/
import Derived.Test.YthhhmmildgijhaaGreatDoorAI5
set_option linter.unusedVariables false
set_option linter.unusedSimpArgs false
namespace Go.Proofs.YthhhmmildgijhaaGreatDoorAI
open Go

section
variable {P : Program} {base : Nat} {σ : Sig} {w : World}

theorem zeroCells_size (z : Array Value) (n : Nat) : (Builtin.zeroCells z n).size = n * z.size := by simp [Builtin.zeroCells]

theorem appends_cases {d : TypeDesc} (h : appends d = true) : (∃ e, d = .slice e) ∨ d = .string := by
  cases d <;> first | (exact .inl ⟨_, rfl⟩) | (exact .inr rfl) | (simp [appends] at h)

/-- There is room. -/
theorem run_append_fits {t xt e ty : TypeId} {d : TypeDesc} (ht : P.underlying t = some (.slice e)) (hxt : P.underlying xt = some d) (hd : appends d = true) {i : TypeInfo} (hi : P.info? e = some i)
    {a : Option Addr} {len cap k : Nat} {x : Value} (hk : (Builtin.lenOf x).run P w = .ok k w) (hfit : len + k ≤ cap) {arr : Array Value} (hnew : (Builtin.firstCells i.size k x).run P w = .ok arr w)
    {w' : World} (hst : match a with | some a => (storeCells (a.add (len * i.size)) arr.toList).run P w = .ok () w' | none => w' = w) :
    (Builtin.append_ #[t, xt] ty #[.slice a len cap, x]).run P w = .ok (.slice a (len + k) cap) w' := by
  have hs : szOf P e = some i.size := by unfold szOf; rw [hi]; rfl
  rcases appends_cases hd with ⟨e', rfl⟩ | rfl <;>
    (simp [Builtin.append_, run_underlying ht, run_size hs, run_underlying hxt, hk, hfit, hnew]
     cases a with
     | none => simp only at hst; subst hst; simp
     | some a => simp only at hst; simp [hst])

/-- There is none. -/
theorem run_append_new {t xt e ty : TypeId} {d : TypeDesc} (ht : P.underlying t = some (.slice e)) (hxt : P.underlying xt = some d) (hd : appends d = true) {i : TypeInfo} (hi : P.info? e = some i) {z : Value} (hz : i.zero = some z)
    {a : Option Addr} {len cap k : Nat} {x : Value} (hk : (Builtin.lenOf x).run P w = .ok k w) (hfit : cap < len + k) (hb : (len + k) * i.bytes ≤ 2 ^ 47) (hb2 : len + k ≤ 2 ^ 47)
    {new old : Array Value} (hnew : (Builtin.firstCells i.size k x).run P w.drew = .ok new w.drew) (hold : (Builtin.firstCells i.size len (.slice a len cap)).run P w.drew = .ok old w.drew) :
    ∃ (c : Nat) (rest : Array Value), len + k ≤ c ∧ rest.size = (c - (len + k)) * z.cells.size ∧
      (Builtin.append_ #[t, xt] ty #[.slice a len cap, x]).run P w = .ok (.slice (some ⟨w.heap.size, 0, none⟩) (len + k) c) (w.drew.alloc (.cells (old ++ new ++ rest) e (0, 0))) := by
  have hs : szOf P e = some i.size := by unfold szOf; rw [hi]; rfl
  have hzz : (P.info? e).bind (·.zero) = some z := by rw [hi]; exact hz
  have e47 : (2 : Nat) ^ 47 = 140737488355328 := by decide
  have e48 : (2 : Nat) ^ 48 = 281474976710656 := by decide
  have hmax : ¬ (((len + k : Nat) : Int) > IntKind.i64.max ∧ (false = true ∨ i.bytes = 0)) := by
    rintro ⟨h1, _⟩
    have : (IntKind.i64.max : Int) = 9223372036854775807 := by decide
    rw [this] at h1
    omega
  have hcap : ¬ (Builtin.nextslicecap (len + k) cap * i.bytes > 2 ^ 48) := by
    have h1 := Nat.mul_le_mul_right i.bytes (nextcap_le (len + k) cap hfit)
    rw [Nat.mul_assoc] at h1
    omega
  have hforced : Question.forced (.appendCap (len + k) cap e) = false := rfl
  have hge : len + k ≤ Question.cut (.appendCap (len + k) cap e) (w.tape w.drawn (.appendCap (len + k) cap e)) := Nat.le_add_right _ _
  generalize hc : Question.cut (.appendCap (len + k) cap e) (w.tape w.drawn (.appendCap (len + k) cap e)) = c at hge
  refine ⟨c, Builtin.zeroCells z.cells (c - (len + k)), hge, zeroCells_size _ _, ?_⟩
  have hnf : ¬ len + k ≤ cap := by omega
  have hlt : ¬ (len + k : Nat) > 9223372036854775807 := by omega
  have hmax' : ¬ (9223372036854775807 < ((len : Int) + (k : Int)) ∧ i.bytes = 0) := by
    rintro ⟨h1, _⟩
    omega
  have hcap' : ¬ 281474976710656 < Builtin.nextslicecap (len + k) cap * i.bytes := by omega
  rcases appends_cases hd with ⟨e', rfl⟩ | rfl <;>
    simp [Builtin.append_, run_underlying ht, run_size hs, run_underlying hxt, hk, hnf, hmax', run_info hi, hcap', hforced, hc, hnew, hold, run_zero hzz, run_newRow_alloc]

theorem aappendE_sound {t xt e ty : TypeId} {d : TypeDesc} (ht : P.underlying t = some (.slice e)) (hxt : P.underlying xt = some d) (hd : appends d = true) {s x s' x' v : Value} {h h' : Heap}
    (hr : Rep base (· < h.next) σ h.get w) (hs : VRep (· < h.next) σ s s') (hx : VRep (· < h.next) σ x x') (ha : aappendE P e s x h = some (v, h')) :
    ∃ v' w' σ', (Builtin.append_ #[t, xt] ty #[s', x']).run P w = .ok v' w' ∧ Moves base (· < h.next) σ h.get w (· < h'.next) σ' h'.get w' ∧ VRep (· < h'.next) σ' v v' := by
  unfold aappendE at ha
  split at ha
  case h_2 => cases ha
  rename_i i hi
  split at ha
  case h_2 => cases ha
  rename_i z hz
  split at ha
  case h_2 => cases ha
  rename_i new k hcells
  cases hb : Nat.blt 0 i.size && plain z && Nat.beq z.cells.size i.size && z.cells.toList.all one with
  | false => rw [hb] at ha; cases ha
  | true =>
  rw [hb] at ha
  simp only [cond_true] at ha
  simp only [Bool.and_eq_true] at hb
  obtain ⟨⟨⟨b0, b1⟩, b2⟩, b3⟩ := hb
  have b0 := blt_lt b0
  have b2 := Nat.eq_of_beq_eq_true b2
  obtain ⟨hk, arr, hnew, hnl, hnlen⟩ := acells_sound (P := P) hr hx hcells w rfl
  cases hk0 : Nat.beq k 0 with
  | true =>
    rw [hk0] at ha
    simp only [cond_true] at ha
    obtain rfl := Nat.eq_of_beq_eq_true hk0
    split at ha
    · rename_i a len cap
      simp only [Option.some.injEq, Prod.mk.injEq] at ha
      obtain ⟨rfl, rfl⟩ := ha
      obtain ⟨a', cap', rfl, hlc, _⟩ := hs.inv_anySlice
      have hnil : arr.toList = [] := List.eq_nil_of_length_eq_zero (by rw [← hnl.len, hnlen]; simp)
      refine ⟨.slice a' len cap', w, σ, ?_, .refl hr, hs⟩
      exact run_append_fits ht hxt hd hi hk (by omega) hnew (by
        cases a' with
        | none => rfl
        | some a' => simp only; rw [hnil]; rfl)
    · cases ha
  | false =>
  rw [hk0] at ha
  simp only [cond_false] at ha
  have hkpos : k ≠ 0 := fun e => by subst e; simp at hk0
  split at ha
  case h_2 => cases ha
  rename_i a len cap
  cases hb : Nat.ble ((len + k) * i.bytes) (2 ^ 47) && Nat.ble (len + k) (2 ^ 47) with
  | false => rw [hb] at ha; cases ha
  | true =>
  rw [hb] at ha
  simp only [cond_true] at ha
  simp only [Bool.and_eq_true] at hb
  have hb1 := ble_le hb.1
  have hb2 := ble_le hb.2
  have hN : ¬ h.next < h.next := Nat.lt_irrefl _
  -- a new block: the old cells, the new ones, the spare
  have grown : ∀ (a' : Option Addr) (cap' : Nat) (old : List Value) (oldC : Array Value) (h1 : Heap), h1.next = h.next → Moves base (· < h.next) σ h.get w (· < h.next) σ h1.get w → cap' < len + k →
      (Builtin.firstCells i.size len (.slice a' len cap')).run P w.drew = .ok oldC w.drew → LRep (· < h.next) σ old oldC.toList → old.length = len * i.size →
      ∃ v' w' σ', (Builtin.append_ #[t, xt] ty #[.slice a' len cap', x']).run P w = .ok v' w' ∧ Moves base (· < h.next) σ h.get w (· < h.next + 1) σ' (h1.new (.cells (old ++ new) e i.size true false)).get w' ∧
        VRep (· < h.next + 1) σ' (.slice (some ⟨h.next, 0, some 0⟩) (len + k) i.size) v' := by
    intro a' cap' old oldC h1 hn1 hm hcap hold hol holen
    obtain ⟨_, arr2, hnew2, hnl2, _⟩ := acells_sound (P := P) hr hx hcells w.drew rfl
    obtain ⟨c, rest, hc, hrest, hrun⟩ := run_append_new (ty := ty) ht hxt hd hi hz hk hcap hb1 hb2 hnew2 hold
    have hl1 := hol.len
    have hl2 := hnl2.len
    have hsz : (oldC ++ arr2 ++ rest).size = c * i.size := by
      have e1 : oldC.size = len * i.size := by rw [← holen, hl1]; simp
      have e2 : arr2.size = k * i.size := by rw [← hnlen, hl2]; simp
      simp only [Array.size_append, e1, e2, hrest, b2]
      rw [← Nat.add_mul, ← Nat.add_mul, Nat.add_sub_cancel' hc]
    have hmv := (Moves.drew hm.rep).rep.alloc (n := h.next) hN (c := old ++ new) (e := e) (s := i.size) (gr := true) (C := oldC ++ arr2 ++ rest) (by
      rw [List.length_append, holen, hnlen, hsz, ← Nat.add_mul]; exact Nat.mul_le_mul_right _ hc) (by
      have e3 : (old ++ new).length = (oldC.toList ++ arr2.toList).length := by rw [List.length_append, List.length_append, hl1, hl2]
      rw [e3, Array.toList_append, Array.toList_append, List.take_left]
      exact hol.append hnl2) (fun h => by cases h)
    rw [hsz] at hmv
    have hall := hm.trans ((Moves.drew hm.rep).trans hmv)
    have hg : (h1.new (.cells (old ++ new) e i.size true false)).get = fun m => if m = h.next then some (.cells (old ++ new) e i.size true false) else h1.get m := by
      funext m; rw [Heap.get_new, hn1]
    rw [D_succ] at hall
    refine ⟨_, _, _, hrun, by rw [hg]; exact hall, ?_⟩
    exact rep_new_sliceU (D' := (· < h.next + 1)) (Nat.lt_succ_self _) (by rw [Sig.upd_same]; rfl) hc rfl
  split at ha
  · -- nil
    cases hb3 : Nat.beq len 0 && Nat.beq cap 0 with
    | false => rw [hb3] at ha; cases ha
    | true =>
      rw [hb3] at ha
      simp only [cond_true, Option.some.injEq, Prod.mk.injEq] at ha
      obtain ⟨rfl, rfl⟩ := ha
      simp only [Bool.and_eq_true] at hb3
      obtain rfl := Nat.eq_of_beq_eq_true hb3.1
      obtain rfl := Nat.eq_of_beq_eq_true hb3.2
      obtain ⟨_, _, rfl⟩ := hs.inv_sliceNil
      have := grown none 0 [] #[] h rfl (.refl hr) (by omega) rfl .nil (by simp)
      simp only [Nat.zero_add, List.nil_append] at this
      exact this
  · rename_i n off known
    split at ha
    · -- a capacity that is known
      obtain ⟨hD, hlc, a', rfl, ha'⟩ := hs.inv_slice
      cases hroom : Nat.ble (len + k) cap with
      | true =>
        rw [hroom] at ha
        simp only [cond_true] at ha
        have hroom := ble_le hroom
        split at ha
        · rename_i c e' esz gr hg
          cases hb4 : Nat.ble (off + (len + k) * i.size) c.length && new.all one with
          | false => rw [hb4] at ha; cases ha
          | true =>
            rw [hb4] at ha
            simp only [cond_true, Option.some.injEq, Prod.mk.injEq] at ha
            obtain ⟨rfl, rfl⟩ := ha
            simp only [Bool.and_eq_true] at hb4
            have hle := ble_le hb4.1
            have ep : (len + k) * i.size = len * i.size + k * i.size := Nat.add_mul _ _ _
            have hwr := write_sound (P := P) hr hg (off := off + len * i.size) hnl (hnl.ones hb4.2) (by rw [hnlen]; omega)
            obtain ⟨w', hrun, hm⟩ := hwr
            rw [hnlen, Nat.add_assoc, ← ep] at hm
            rw [ha' (by omega)]
            refine ⟨_, w', σ, run_append_fits ht hxt hd hi hk hroom hnew (by simp only; rw [add_at, Nat.add_assoc]; exact hrun), ?_, ?_⟩
            · have e1 : (h.put n (some (.cells (c.take (off + len * i.size) ++ new ++ c.drop (off + (len + k) * i.size)) e' esz gr false))).get = (fun m => if m = n then some (.cells (c.take (off + len * i.size) ++ new ++ c.drop (off + (len + k) * i.size)) e' esz gr false) else h.get m) := by
                funext m; rw [Heap.get_put (Heap.own_ge hg rfl) hD]
              rw [e1]; exact hm
            · exact .slice hD hroom (fun _ => rfl)
        · cases ha
      | false =>
        rw [hroom] at ha
        simp only [cond_false] at ha
        have hroom : cap < len + k := by
          rcases Nat.lt_or_ge cap (len + k) with h1 | h1
          · exact h1
          · rw [ble_t h1] at hroom; cases hroom
        split at ha
        · rename_i old ko hold
          simp only [Option.some.injEq, Prod.mk.injEq] at ha
          obtain ⟨rfl, rfl⟩ := ha
          obtain ⟨hlen, arrO, hO, hOl, hOlen⟩ := acells_sound (P := P) hr hs hold w.drew rfl
          have : ko = len := by simp [Builtin.lenOf] at hlen; exact hlen.symm
          subst this
          exact grown (some a') cap old arrO h rfl (.refl hr) hroom hO hOl hOlen
        · cases ha
    · -- a capacity that nobody knows
      rename_i kn
      obtain ⟨rfl, hD, a', cap', rfl, hlc, ha', hcs⟩ := hs.inv_sliceU
      split at ha
      · rename_i c e' esz hg
        cases hb4 : Nat.beq (off + len * i.size) c.length && Nat.beq cap i.size && Nat.beq e e' && new.all one with
        | false => rw [hb4] at ha; cases ha
        | true =>
          rw [hb4] at ha
          simp only [cond_true, Option.some.injEq, Prod.mk.injEq] at ha
          obtain ⟨rfl, rfl⟩ := ha
          simp only [Bool.and_eq_true] at hb4
          obtain ⟨⟨⟨q1, q2⟩, q3⟩, q4⟩ := hb4
          have q1 := Nat.eq_of_beq_eq_true q1
          obtain rfl := Nat.eq_of_beq_eq_true q2
          obtain rfl := Nat.eq_of_beq_eq_true q3
          obtain ⟨_, C, tt, fr, r⟩ := hr.object hg
          obtain ⟨rfl, rfl⟩ := r.mine rfl
          have hgrow := r.grow rfl
          have hfit := r.fit
          have hdl : (c.drop off).length = len * i.size := by simp; omega
          have hseg := r.seg off (len * i.size) (by omega)
          have hseg' : LRep (· < h.next) σ (c.drop off) ((C.toList.drop ((σ n).off + off)).take (len * i.size)) := by
            rw [List.take_of_length_le (by rw [hdl]; exact Nat.le_refl _)] at hseg; exact hseg
          rcases Nat.lt_or_ge cap' (len + k) with hroom | hroom
          · -- a new block
            have hkill := Moves.kill hr n
            have hkg : (h.put n none).get = fun m => if m = n then none else h.get m := by funext m; rw [Heap.get_put (Heap.own_ge hg rfl) hD]
            rw [← hkg] at hkill
            refine grown (some a') cap' (c.drop off) ((C.toList.drop ((σ n).off + off)).take (len * i.size)).toArray (h.put n none) rfl hkill hroom ?_ (by simpa using hseg') hdl
            simp only [Builtin.firstCells]
            by_cases hz0 : len = 0
            · subst hz0
              simp [loadCells, loadCellsFrom]
            · rw [ha' (by omega)]
              exact run_cells (w := w.drew) r.heap _ _ (by omega)
          · -- in its own block
            have ep : (len + k) * i.size = len * i.size + k * i.size := Nat.add_mul _ _ _
            have hpos : 0 < cap' := by omega
            have hcapm : (len + k) * i.size ≤ cap' * i.size := Nat.mul_le_mul_right _ hroom
            have hl2 := hnl.len
            rw [ha' hpos]
            have hrunS := run_storeCells_at P (σ n).blk ((σ n).off + off + len * i.size) tt arr.toList 0 C w r.heap (by omega) (hnl.ones q4)
            have hsh := hr.shift (N := h.next) hN (s' := i.size) hg r (c' := c.drop off ++ new) (off := off)
              (C' := (C.toList.take ((σ n).off + off + len * i.size + 0) ++ arr.toList ++ C.toList.drop ((σ n).off + off + len * i.size + 0 + arr.toList.length)).toArray) (by simp at hl2 ⊢; omega)
              (by rw [List.length_append, hdl, hnlen]; simp at hl2 ⊢; omega) (by
                simp only [Nat.add_zero, List.toList_toArray]
                rw [List.length_append, hdl, hnlen]
                have e4 : ((C.toList.take ((σ n).off + off + len * i.size) ++ arr.toList ++ C.toList.drop ((σ n).off + off + len * i.size + arr.toList.length)).drop ((σ n).off + off)).take (len * i.size + k * i.size) =
                    (C.toList.drop ((σ n).off + off)).take (len * i.size) ++ arr.toList := by
                  have h5 := seg_write C.toList arr.toList ((σ n).off + off) (len * i.size + k * i.size) (len * i.size) (by simp; omega) (by omega)
                  have h6 : ((C.toList.drop ((σ n).off + off)).take (len * i.size + k * i.size)).drop (len * i.size + arr.toList.length) = [] :=
                    List.drop_eq_nil_of_le (by rw [List.length_take]; omega)
                  rw [h5, h6, List.take_take, Nat.min_eq_left (by omega), List.append_nil]
                rw [e4]
                exact hseg'.append hnl)
            rw [D_succ] at hsh
            refine ⟨_, _, σ.upd h.next ⟨(σ n).blk, (σ n).off + off, (σ n).size⟩, run_append_fits ht hxt hd hi hk hroom hnew (by simp only; rw [add_at]; exact hrunS), ?_, ?_⟩
            · have e1 : ((h.put n none).new (.cells (c.drop off ++ new) tt i.size true false)).get = (fun m => if m = h.next then some (.cells (c.drop off ++ new) tt i.size true false) else if m = n then none else h.get m) := by
                funext m
                rw [Heap.get_new, Heap.next_put]
                by_cases hm : m = h.next
                · rw [if_pos hm, if_pos hm]
                · rw [if_neg hm, if_neg hm, Heap.get_put (Heap.own_ge hg rfl) hD]
              rw [e1]; exact hsh
            · have es := Sig.upd_same σ h.next ⟨(σ n).blk, (σ n).off + off, (σ n).size⟩
              refine .sliceU (Nat.lt_succ_self _) hroom (fun _ => by rw [es]; rfl) ?_
              rw [es]
              simpa using hcs
      · cases ha

end
end Go.Proofs.YthhhmmildgijhaaGreatDoorAI
