/- Memory that is seen as bytes, pointers that lose their type, built-in functions: what the interpreter answers, the model answers. -/
import Derived.Test.YthhhmmildgijhaaGreatDoorAI62
import Derived.Laws.BytesString
set_option linter.unusedVariables false
set_option linter.unusedSimpArgs false
namespace Go.Proofs.YthhhmmildgijhaaGreatDoorAI
open Go

section
variable {P : Program} {base : Nat} {D : Nat → Prop} {σ : Sig} {g : Nat → Option AObj} {w : World}

theorem cellBytes_rep : ∀ (cs cs' : List Value) (l : List UInt8), LRep D σ cs cs' → cellBytes cs = some l → cs' = Lib.byteCells l
  | [], cs', l, h, hl => by
    simp only [cellBytes, Option.some.injEq] at hl; subst hl
    exact List.length_eq_zero_iff.1 h.len.symm
  | v :: vs, [], l, h, hl => by have := h.len; simp at this
  | v :: vs, v' :: vs', l, h, hl => by
    have h0 := h.rel (i := 0) rfl rfl
    have h1 : LRep D σ vs vs' := by simpa using h.drop 1
    unfold cellBytes at hl
    split at hl
    · rename_i e; cases e
    · rename_i n us e
      simp only [List.cons.injEq] at e
      obtain ⟨rfl, rfl⟩ := e
      split at hl
      · rename_i k
        cases hk : Nat.blt k 256 with
        | false => rw [hk] at hl; cases hl
        | true =>
          rw [hk] at hl
          simp only [cond_true] at hl
          cases hc : cellBytes vs with
          | none => rw [hc] at hl; cases hl
          | some us =>
            rw [hc] at hl
            simp only [Option.map_some, Option.some.injEq] at hl
            subst hl
            rw [cellBytes_rep vs vs' us h1 hc, h0.inv_int]
            have hlt := blt_lt hk
            have : k.toUInt8.toNat = k := by simp [Nat.toUInt8, UInt8.toNat_ofNat]; omega
            simp only [Lib.byteCells, List.map_cons, this]
            rfl
      · cases hl
    · cases hl

theorem cellBytes_length : ∀ (cs : List Value) (l : List UInt8), cellBytes cs = some l → l.length = cs.length := by
  intro cs l h
  have key : ∀ (cs : List Value) (l : List UInt8), cellBytes cs = some l → cs = Lib.byteCells l := by
    intro cs
    induction cs with
    | nil => intro l hl; simp only [cellBytes, Option.some.injEq] at hl; subst hl; rfl
    | cons v vs ih =>
      intro l hl
      unfold cellBytes at hl
      split at hl
      · rename_i e; cases e
      · rename_i n us e
        simp only [List.cons.injEq] at e
        obtain ⟨rfl, rfl⟩ := e
        split at hl
        · rename_i k
          cases hk : Nat.blt k 256 with
          | false => rw [hk] at hl; cases hl
          | true =>
            rw [hk] at hl
            simp only [cond_true] at hl
            cases hc : cellBytes vs with
            | none => rw [hc] at hl; cases hl
            | some us =>
              rw [hc] at hl
              simp only [Option.map_some, Option.some.injEq] at hl
              subst hl
              have hlt := blt_lt hk
              have : k.toUInt8.toNat = k := by simp [Nat.toUInt8, UInt8.toNat_ofNat]; omega
              have e2 := ih us hc
              simp only [Lib.byteCells, List.map_cons, this]
              rw [e2]
              rfl
        · cases hl
      · cases hl
  have := key cs l h
  rw [this, Lib.byteCells_length]

theorem foldl_bytes : ∀ (l : List UInt8) (acc : ByteArray), (l.map fun b => (b.toNat : Int)).foldl (fun r n => r.push (UInt8.ofNat n.toNat)) acc = ⟨acc.data ++ l.toArray⟩
  | [], acc => by apply ByteArray.ext; simp
  | b :: l, acc => by
    simp only [List.map_cons, List.foldl_cons]
    rw [foldl_bytes l]
    have : UInt8.ofNat ((b.toNat : Int)).toNat = b := by simp
    rw [this]
    apply ByteArray.ext
    simp [ByteArray.push]

theorem Rep.shape (hr : Rep base D σ g w) {n : Nat} {c : List Value} {e : TypeId} {s : Nat} {gr ro : Bool} (hg : g n = some (.cells c e s gr ro)) :
    ∃ (C : Array Value) (t : TypeId), w.shape? (σ n).blk = some (t, C.size) ∧ (σ n).off + c.length ≤ C.size ∧ (ro = false → t = e) ∧ (gr = false → ro = false → (σ n).off = 0 ∧ C.size = c.length) := by
  obtain ⟨_, C, t, fr, r⟩ := hr.object hg
  exact ⟨C, t, by simp [World.shape?, r.heap], r.fit, fun h => (r.mine h).1, r.exact⟩

theorem aconv_sound {h h' : Heap} (hr : Rep base (· < h.next) σ h.get w) {src dst : TypeId} {x x' v : Value} (ha : aconv P src dst x h = some (v, h')) (hx : VRep (· < h.next) σ x x') : MemOK P base σ h w (convert src dst x') v h' := by
  unfold aconv at ha
  split at ha
  · rename_i e hs hd
    split at ha
    · rename_i he
      split at ha
      · rename_i a0 len cap cs k hc
        obtain ⟨a', cap', rfl, hl, hsome, _⟩ := hx.inv_anySlice
        obtain ⟨h1, arr, h2, h3, h4⟩ := acells_sound (P := P) hr hx hc w rfl
        cases hb : cellBytes cs with
        | none => rw [hb] at ha; cases ha
        | some l =>
          rw [hb] at ha
          simp only [Option.map_some, Option.some.injEq, Prod.mk.injEq] at ha
          obtain ⟨rfl, rfl⟩ := ha
          have harr := cellBytes_rep _ _ _ h3 hb
          have hlen : len = k := by
            simp only [Builtin.lenOf, Sem.run_pure, Result.ok.injEq] at h1
            exact h1.1
          subst hlen
          refine ⟨.string ⟨l.toArray⟩, w, σ, ?_, .refl hr, .string _⟩
          rw [run_convert_bytes_string w src dst e a' len cap' hs he hd]
          cases a' with
          | none =>
            have h5 := hx
            cases a0 with
            | some a0 => simp at hsome
            | none =>
              have : arr = #[] := by
                simp only [Builtin.firstCells, Sem.run_pure, Result.ok.injEq] at h2
                exact h2.1.symm
              rw [this] at harr
              have hl0 : l = [] := by
                have := congrArg List.length harr
                simp [Lib.byteCells] at this
                first | exact this | exact this.symm | exact List.eq_nil_of_length_eq_zero this.symm
              subst hl0
              rfl
          | some a' =>
            have hlc : (loadCells a' len).run P w = .ok ((l.map fun b => (b.toNat : Int)).map (Value.int .u8)).toArray w := by
              have h5 : (loadCells a' (len * 1)).run P w = .ok arr w := h2
              rw [Nat.mul_one] at h5
              rw [h5]
              congr 1
              apply Array.ext'
              rw [harr]
              simp [Lib.byteCells]
            rw [run_bytesToString w a' len cap' _ hlc, foldl_bytes]
            have e0 : ByteArray.empty.data ++ l.toArray = l.toArray := by
              show (#[] : Array UInt8) ++ l.toArray = l.toArray
              simp
            rw [e0]
      · cases ha
    · cases ha
  · rename_i t hs hd
    split at ha
    · simp only [Option.some.injEq, Prod.mk.injEq] at ha
      obtain ⟨rfl, rfl⟩ := ha
      rw [hx.inv_ptrNil]
      refine ⟨.pointer none, w, σ, ?_, .refl hr, .ptrNil⟩
      simp [convert, run_underlying hs, run_underlying hd, Conv.unsafePointer]
    · rename_i n off
      obtain ⟨hD, rfl⟩ := hx.inv_ptr
      split at ha
      · rename_i c e s gr ro k hg hsz
        cases hb : Nat.blt off c.length with
        | false => rw [hb] at ha; cases ha
        | true =>
          rw [hb] at ha
          simp only [cond_true, Option.some.injEq, Prod.mk.injEq] at ha
          obtain ⟨rfl, rfl⟩ := ha
          have hlt := blt_lt hb
          obtain ⟨C, t0, hsh, hfit, _, _⟩ := hr.shape hg
          refine ⟨_, w, σ, ?_, .refl hr, .ptr hD⟩
          have hne : ¬ C.size ≤ (σ n).off + off := by omega
          simp [convert, run_underlying hs, run_underlying hd, Conv.unsafePointer, Conv.seenAt, viewAt, cellsIn, hsh, run_size hsz, hne]
      · cases ha
    · cases ha
  · rename_i u hs hd
    split at ha
    · simp only [Option.some.injEq, Prod.mk.injEq] at ha
      obtain ⟨rfl, rfl⟩ := ha
      rw [hx.inv_ptrNil]
      refine ⟨.pointer none, w, σ, ?_, .refl hr, .ptrNil⟩
      simp [convert, run_underlying hs, run_underlying hd, Conv.unsafePointer]
    · rename_i n off
      obtain ⟨hD, rfl⟩ := hx.inv_ptr
      split at ha
      · rename_i c e s k hg hsz
        cases hb : liesAt P P.depth e (c.length / P.cellsOf e) off u 1 with
        | false => rw [hb] at ha; cases ha
        | true =>
          rw [hb] at ha
          simp only [cond_true, Option.some.injEq, Prod.mk.injEq] at ha
          obtain ⟨rfl, rfl⟩ := ha
          obtain ⟨C, t0, hsh, hfit, ht, hex⟩ := hr.shape hg
          obtain ⟨h0, hC⟩ := hex rfl rfl
          obtain rfl := ht rfl
          have hsz' : szOf P u = some (k + 1) := by
            unfold Program.cellsOf at hsz
            unfold szOf
            cases hi : P.info? u with
            | none => rw [hi] at hsz; simp at hsz
            | some i => rw [hi] at hsz; simpa using hsz
          refine ⟨_, w, σ, ?_, .refl hr, .ptr hD⟩
          rw [← hC] at hb
          simp [convert, run_underlying hs, run_underlying hd, Conv.unsafePointer, Conv.seenAt, viewAt, hsh, run_size hsz', variablesAt, h0, hb]
      · cases ha
    · cases ha
  · cases ha

/-! built-in functions -/
theorem liesAt_bytes_off {e : TypeId} (hc : P.cellsOf e = 1) (count off n : Nat) (hn : off + n ≤ count) : liesAt P P.depth e count off e n = true := by
  have hd : P.depth = (2 * (P.types.size + Made.depth) + 1) + 1 := rfl
  rw [hd]
  simp only [liesAt, Bool.or_eq_true]
  left
  rw [hd]
  simp [rowAt, hc, hn, sameLayout, Nat.mod_one]

theorem run_unsafeString_off (pt it ty e : TypeId) (k : IntKind) (hp : P.underlying pt = some (.pointer e)) (hc : P.cellsOf e = 1) (g o cells : Nat) (hsh : w.shape? g = some (e, cells)) (l : List UInt8) (h0 : l ≠ []) (hn : o + l.length ≤ cells) (h63 : l.length ≤ 9223372036854775807)
    (hcell : ∀ j x, l[j]? = some x → w.cell? ((⟨g, o, none⟩ : Addr).add j) = some (.int .u8 x.toNat)) :
    (Builtin.unsafeString_ #[pt, it] ty #[.pointer (some ⟨g, o, none⟩), .int k l.length]).run P w = .ok (.string ⟨l.toArray⟩) (w.freeze ⟨g, o, none⟩ l.length) := by
  have hl : l.length ≠ 0 := by simpa using h0
  have hlb := Lib.run_loadBytes (P := P) w l ⟨g, o, none⟩ .empty hcell
  have hlies := liesAt_bytes_off (P := P) hc (cells / P.cellsOf e) o l.length (by rw [hc]; simpa using hn)
  have h63' : ¬ (9223372036854775807 : Int) < (l.length : Int) := by omega
  obtain ⟨m1, hdef⟩ : ∃ m1 : String, Builtin.unsafeString_ #[pt, it] ty #[.pointer (some ⟨g, o, none⟩), .int k l.length] =
      (do
        let n ← asInt (.int k l.length)
        if n < 0 then runtimePanic (.error m1)
        if n > IntKind.i64.max then unsupported (.unsafePointer "String: a length above the largest int")
        if n = 0 then pure (.string .empty)
        else if ← variablesAt ⟨g, o, none⟩ (← elemOf pt) n.toNat then do
          let s ← loadBytes ⟨g, o, none⟩ .empty n.toNat
          freeze ⟨g, o, none⟩ n.toNat
          pure (.string s)
        else unsupported (.unsafePointer "String: not so many bytes at ptr")) := ⟨_, rfl⟩
  rw [hdef]
  have hmax : IntKind.i64.max = 9223372036854775807 := rfl
  have hneg : ¬ (l.length : Int) < 0 := by omega
  simp [asInt, asIntOf, hmax, h63', hneg, hl, variablesAt, hsh, elemOf, run_underlying hp, hlies, hlb]

theorem run_unsafeString_zero (pt it ty : TypeId) (p : Option Addr) (k : IntKind) : (Builtin.unsafeString_ #[pt, it] ty #[.pointer p, .int k 0]).run P w = .ok (.string .empty) w := by
  have hmax : IntKind.i64.max = 9223372036854775807 := rfl
  cases p with
  | none =>
    obtain ⟨m1, m2, hdef⟩ : ∃ m1 m2 : String, Builtin.unsafeString_ #[pt, it] ty #[.pointer none, .int k 0] =
        (do
          let n ← asInt (.int k 0)
          if n < 0 then runtimePanic (.error m1)
          if n > IntKind.i64.max then unsupported (.unsafePointer "String: a length above the largest int")
          if n = 0 then pure (.string .empty)
          else runtimePanic (.error m2)) := ⟨_, _, rfl⟩
    rw [hdef]
    simp [asInt, asIntOf, hmax]
  | some a =>
    obtain ⟨m1, hdef⟩ : ∃ m1 : String, Builtin.unsafeString_ #[pt, it] ty #[.pointer (some a), .int k 0] =
        (do
          let n ← asInt (.int k 0)
          if n < 0 then runtimePanic (.error m1)
          if n > IntKind.i64.max then unsupported (.unsafePointer "String: a length above the largest int")
          if n = 0 then pure (.string .empty)
          else if ← variablesAt a (← elemOf pt) n.toNat then do
            let s ← loadBytes a .empty n.toNat
            freeze a n.toNat
            pure (.string s)
          else unsupported (.unsafePointer "String: not so many bytes at ptr")) := ⟨_, rfl⟩
    rw [hdef]
    simp [asInt, asIntOf, hmax]

/-- What is frozen is left: its name goes. -/
theorem Moves.froze {h : Heap} (hr : Rep base (· < h.next) σ h.get w) {n : Nat} {c : List Value} {e : TypeId} {s : Nat} {gr : Bool} (hg : h.get n = some (.cells c e s gr false)) (o k : Nat) :
    Moves base (· < h.next) σ h.get w (· < (h.put n none).next) σ (h.put n none).get (w.freeze ⟨(σ n).blk, o, none⟩ k) := by
  have hD : n < h.next := Heap.get_lt hg
  have hgp : (h.put n none).get = fun m => if m = n then none else h.get m := by funext m; rw [Heap.get_put (Heap.own_ge hg rfl) hD]
  have hn : NonRo h.get n := .cells hg
  have hbn := hr.own n hn
  have hsz : (w.freeze ⟨(σ n).blk, o, none⟩ k).heap.size = w.heap.size := by unfold World.freeze; split <;> simp
  have hother : ∀ b, b ≠ (σ n).blk → (w.freeze ⟨(σ n).blk, o, none⟩ k).heap[b]? = w.heap[b]? := fun b hb => by
    unfold World.freeze
    split
    · rfl
    · simp only [Array.getElem?_modify]; rw [if_neg (by omega)]
  have hsub : ∀ m o, (h.put n none).get m = some o → m ≠ n ∧ h.get m = some o := fun m o hm => by
    rw [hgp] at hm
    simp only at hm
    split at hm
    · cases hm
    · rename_i hne; exact ⟨hne, hm⟩
  have hbne : ∀ m o, m ≠ n → h.get m = some o → (σ m).blk ≠ (σ n).blk := by
    intro m o hm hg
    cases ho : o.own with
    | true => exact hr.inj m n ⟨o, hg, ho⟩ hn hm
    | false => have := hr.old m ⟨o, hg, ho⟩; omega
  refine ⟨fun _ h => h, fun _ _ => rfl, ⟨hr.gl.mono (fun _ h => h) (fun _ _ => rfl) (fun b hb => hother b (by omega)), ?_, ?_, fun m ⟨o, h1, h2⟩ => hr.own m ⟨o, (hsub _ _ h1).2, h2⟩, fun m ⟨o, h1, h2⟩ => hr.old m ⟨o, (hsub _ _ h1).2, h2⟩, fun m q ⟨o, h1, h2⟩ ⟨o', h3, h4⟩ hne => hr.inj m q ⟨o, (hsub _ _ h1).2, h2⟩ ⟨o', (hsub _ _ h3).2, h4⟩ hne, by rw [hsz]; exact hr.size⟩, by unfold World.freeze; split <;> rfl, by unfold World.freeze; split <;> rfl, by unfold World.freeze; split <;> rfl, by rw [hsz]; exact Nat.le_refl _, fun b _ hno => hother b fun e => hno ⟨n, hn, e.symm⟩, fun b ⟨m, ⟨o, h1, h2⟩, h3⟩ => .inl ⟨m, ⟨o, (hsub _ _ h1).2, h2⟩, h3⟩⟩
  · intro m c1 e1 s1 gr1 ro1 h1
    obtain ⟨hne, h1⟩ := hsub _ _ h1
    obtain ⟨hD, C, t, fr, r⟩ := hr.object h1
    exact ⟨hD, C, t, fr, ⟨by rw [hother _ (hbne m _ hne h1)]; exact r.heap, r.fit, r.rel, r.mine, r.grow, r.exact⟩⟩
  · intro m y h1
    obtain ⟨hne, h1⟩ := hsub _ _ h1
    obtain ⟨hD, h0, o', ho, q⟩ := hr.oth m y h1
    exact ⟨hD, h0, o', by rw [hother _ (hbne m _ hne h1)]; exact ho, q⟩

theorem LRep.single {a : Value} {xs : Array Value} (h : LRep D σ [a] xs.toList) : ∃ a', xs = #[a'] ∧ VRep D σ a a' := by
  obtain ⟨l⟩ := xs
  match l, h with
  | [a'], h => exact ⟨a', rfl, h.rel (i := 0) rfl rfl⟩
  | [], h => have := h.len; simp at this
  | _ :: _ :: _, h => have := h.len; simp at this
theorem LRep.two {a b : Value} {xs : Array Value} (h : LRep D σ [a, b] xs.toList) : ∃ a' b', xs = #[a', b'] ∧ VRep D σ a a' ∧ VRep D σ b b' := by
  obtain ⟨l⟩ := xs
  match l, h with
  | [a', b'], h => exact ⟨a', b', rfl, h.rel (i := 0) rfl rfl, h.rel (i := 1) rfl rfl⟩
  | [], h => have := h.len; simp at this
  | [_], h => have := h.len; simp at this
  | _ :: _ :: _ :: _, h => have := h.len; simp at this

theorem acopy_sound {h h' : Heap} (hr : Rep base (· < h.next) σ h.get w) {t ty : TypeId} {ts : Array TypeId} (ht : ts[0]? = some t) {d x d' x' v : Value} (hd : VRep (· < h.next) σ d d') (hx : VRep (· < h.next) σ x x') (ha : acopy P t d x h = some (v, h')) :
    MemOK P base σ h w (Builtin.copy_ ts ty #[d', x']) v h' := by
  unfold acopy at ha
  split at ha
  · rename_i e hu
    split at ha
    · rename_i sz hsz
      split at ha
      · rename_i n off sp len cap new k hc
        obtain ⟨h1, arr, h2, h3, h4⟩ := acells_sound (P := P) hr hx hc w rfl
        obtain ⟨a', cap', rfl, hle, hs, hk⟩ := hd.inv_anySlice
        obtain ⟨hD, hk⟩ := hk _ _ _ rfl
        split at ha
        · rename_i c e' esz gr hg
          cases hb : Nat.beq k len && Nat.blt 0 len && Nat.ble (off + len * (sz + 1)) c.length && new.all one with
          | false => rw [hb] at ha; cases ha
          | true =>
            rw [hb] at ha
            simp only [cond_true, Option.some.injEq, Prod.mk.injEq] at ha
            obtain ⟨rfl, rfl⟩ := ha
            simp only [Bool.and_eq_true] at hb
            obtain ⟨⟨⟨b1, b2⟩, b3⟩, b4⟩ := hb
            obtain rfl := Nat.eq_of_beq_eq_true b1
            have b2 := blt_lt b2
            have b3 := ble_le b3
            rw [hk (by omega)]
            obtain ⟨w', hrun, hm⟩ := write_sound (P := P) hr hg (off := off) h3 (h3.ones b4) (by rw [h4]; exact b3)
            rw [h4] at hm
            refine ⟨goInt k, w', σ, ?_, ?_, .int _ _⟩
            · simp [Builtin.copy_, ht, run_underlying hu, h1, run_size hsz, h2, hrun]
            · have hgp : (h.put n (some (.cells (c.take off ++ new ++ c.drop (off + k * (sz + 1))) e' esz gr false))).get = (fun m => if m = n then some (.cells (c.take off ++ new ++ c.drop (off + k * (sz + 1))) e' esz gr false) else h.get m) := by
                funext m; rw [Heap.get_put (Heap.own_ge hg rfl) hD]
              rw [hgp]; exact hm
        · cases ha
      · cases ha
    · cases ha
  · cases ha

theorem abuiltin_at {h h' : Heap} (hr : Rep base (· < h.next) σ h.get w) {b : Builtin} {ty : TypeId} {ts : Array TypeId} {vs : List Value} {args : Array Value} {v : Value} (hl : LRep (· < h.next) σ vs args.toList) (ha : abuiltin P b ts.toList vs h = some (v, h')) :
    ∃ v' w' σ', (∀ consts, (builtin b ts ty consts args).run P w = .ok (.value v') w') ∧ Moves base (· < h.next) σ h.get w (· < h'.next) σ' h'.get w' ∧ VRep (· < h'.next) σ' v v' := by
  unfold abuiltin at ha
  split at ha
  · rename_i t xt s x hts
    have e2 : ts = #[t, xt] := by rw [← Array.toList_inj, hts]
    subst e2
    obtain ⟨s', x', rfl, hs, hx⟩ := hl.two
    unfold aappend at ha
    split at ha
    · rename_i e d ht hxt
      cases hd : appends d with
      | false => rw [hd] at ha; cases ha
      | true =>
        rw [hd] at ha
        simp only [cond_true] at ha
        obtain ⟨v', w', σ', hrun, hm, hv⟩ := aappendE_sound (ty := ty) ht hxt hd hr hs hx ha
        exact ⟨v', w', σ', fun consts => by simp [builtin, hrun], hm, hv⟩
    · cases ha
  · rename_i t rest d x hts
    obtain ⟨d', x', rfl, hd, hx⟩ := hl.two
    have e2 : ts[0]? = some t := by rw [← Array.getElem?_toList, hts]; rfl
    obtain ⟨v', w', σ', hrun, hm, hv⟩ := acopy_sound (ty := ty) hr e2 hd hx ha
    exact ⟨v', w', σ', fun consts => by simp [builtin, hrun], hm, hv⟩
  · rename_i t rest x hts
    have e2 : ts[0]? = some t := by rw [← Array.getElem?_toList, hts]; rfl
    obtain ⟨x', rfl, hx⟩ := hl.single
    split at ha
    · rename_i key elem hu
      cases he : aentries x h with
      | none => rw [he] at ha; cases ha
      | some es =>
        rw [he] at ha
        simp only [Option.map_some, Option.some.injEq, Prod.mk.injEq] at ha
        obtain ⟨rfl, rfl⟩ := ha
        rcases aentries_sound hr he hx with ⟨rfl, rfl⟩ | ⟨r, es', clock, rfl, hb, hlen, _⟩
        · exact ⟨goInt 0, w, σ, fun consts => by simp [builtin, Builtin.len_, e2, run_underlying hu], .refl hr, .int _ _⟩
        · have hg : (getObj r).run P w = .ok (.map es' clock) w := run_getObj_oth hb (by intro _ _ _ h; cases h)
          have hlen' : es'.size = es.length := by simpa using hlen.symm
          exact ⟨goInt es.length, w, σ, fun consts => by simp [builtin, Builtin.len_, e2, run_underlying hu, hg, hlen'], .refl hr, .int _ _⟩
    · cases ha
  · rename_i x
    obtain ⟨x', rfl, hx⟩ := hl.single
    split at ha
    · simp only [Option.some.injEq, Prod.mk.injEq] at ha
      obtain ⟨rfl, rfl⟩ := ha
      obtain ⟨_, _, rfl⟩ := hx.inv_sliceNil
      exact ⟨.pointer none, w, σ, fun consts => by simp only [builtin, Sem.run_bind, Lib.run_unsafeSliceData_nil, Result.andThen_ok, Sem.run_pure], .refl hr, .ptrNil⟩
    · rename_i n off sp k cap
      simp only [Option.some.injEq, Prod.mk.injEq] at ha
      obtain ⟨rfl, rfl⟩ := ha
      obtain ⟨a', cap', rfl, hle, hs, hk⟩ := hx.inv_anySlice
      obtain ⟨hD, hk⟩ := hk _ _ _ rfl
      rw [hk (by omega)]
      exact ⟨_, w, σ, fun consts => by simp only [builtin, Sem.run_bind, Lib.run_unsafeSliceData_row w ts ty _ _ cap' (by omega), Result.andThen_ok, Sem.run_pure], .refl hr, .ptr hD⟩
    · cases ha
  · rename_i t it x l hts
    have e2 : ts = #[t, it] := by rw [← Array.toList_inj, hts]
    subst e2
    obtain ⟨x', l', rfl, hx, hln⟩ := hl.two
    split at ha
    · rename_i kd
      simp only [Option.some.injEq, Prod.mk.injEq] at ha
      obtain ⟨rfl, rfl⟩ := ha
      rw [hx.inv_ptrNil, hln.inv_int]
      exact ⟨.string .empty, w, σ, fun consts => by simp only [builtin, Sem.run_bind, run_unsafeString_zero, Result.andThen_ok, Sem.run_pure], .refl hr, .string _⟩
    · rename_i n off kd k
      obtain ⟨hD, rfl⟩ := hx.inv_ptr
      obtain rfl := hln.inv_int
      split at ha
      · rename_i u c e es gr hu hg
        cases hk0 : Nat.beq k 0 with
        | true =>
          rw [hk0] at ha
          simp only [cond_true, Option.some.injEq, Prod.mk.injEq] at ha
          obtain ⟨rfl, rfl⟩ := ha
          obtain rfl := Nat.eq_of_beq_eq_true hk0
          exact ⟨.string .empty, w, σ, fun consts => by
            show (do pure (Next.value (← Builtin.unsafeString_ #[t, it] ty #[.pointer (some ⟨(σ n).blk, (σ n).off + off, none⟩), .int kd 0])) : Sem Next).run P w = _
            simp only [Sem.run_bind, run_unsafeString_zero, Result.andThen_ok, Sem.run_pure], .refl hr, .string _⟩
        | false =>
          rw [hk0] at ha
          simp only [cond_false] at ha
          cases hb : Nat.beq u e && Nat.blt k (2 ^ 62) && Nat.beq (P.cellsOf e) 1 && Nat.ble (off + k) c.length with
          | false => rw [hb] at ha; cases ha
          | true =>
            rw [hb] at ha
            simp only [cond_true] at ha
            simp only [Bool.and_eq_true] at hb
            obtain ⟨⟨⟨b1, b2⟩, b3⟩, b4⟩ := hb
            obtain rfl := Nat.eq_of_beq_eq_true b1
            have hk2 : k < 4611686018427387904 := blt_lt b2
            have hc1 := Nat.eq_of_beq_eq_true b3
            have hle := ble_le b4
            have hkne : k ≠ 0 := fun e => by subst e; simp at hk0
            cases hcb : cellBytes ((c.drop off).take k) with
            | none => rw [hcb] at ha; cases ha
            | some l =>
              rw [hcb] at ha
              simp only [Option.map_some, Option.some.injEq, Prod.mk.injEq] at ha
              obtain ⟨rfl, rfl⟩ := ha
              have hlen := cellBytes_length _ _ hcb
              have hlk : l.length = k := by rw [hlen]; simp; omega
              obtain ⟨_, C, t0, fr, r⟩ := hr.object hg
              obtain ⟨rfl, rfl⟩ := r.mine rfl
              have hseg := r.seg off k hle
              have hbytes := cellBytes_rep _ _ _ hseg hcb
              have hsh : w.shape? (σ n).blk = some (t0, C.size) := by simp [World.shape?, r.heap]
              have hfit := r.fit
              have hcell : ∀ j x, l[j]? = some x → w.cell? ((⟨(σ n).blk, (σ n).off + off, none⟩ : Addr).add j) = some (.int .u8 x.toNat) := by
                intro j x hj
                rw [add_at, cell_at r.heap]
                have hjk : j < k := by rw [← hlk]; exact (List.getElem?_eq_some_iff.1 hj).1
                have h1 : ((C.toList.drop ((σ n).off + off)).take k)[j]? = some (.int .u8 x.toNat) := by
                  rw [hbytes]
                  simp [Lib.byteCells, hj]
                rw [List.getElem?_take, if_pos hjk, List.getElem?_drop, Array.getElem?_toList] at h1
                exact h1
              have hrun := run_unsafeString_off (P := P) (w := w) t it ty t0 kd hu hc1 (σ n).blk ((σ n).off + off) C.size hsh l (by intro e; subst e; simp at hlk; omega) (by omega) (by omega) hcell
              refine ⟨.string ⟨l.toArray⟩, _, σ, fun consts => ?_, Moves.froze hr hg ((σ n).off + off) l.length, .string _⟩
              have e3 : (Int.ofNat k) = (l.length : Int) := by rw [hlk]; rfl
              rw [e3]
              show (do pure (Next.value (← Builtin.unsafeString_ #[t, it] ty #[.pointer (some ⟨(σ n).blk, (σ n).off + off, none⟩), .int kd l.length])) : Sem Next).run P w = _
              simp only [Sem.run_bind, hrun, Result.andThen_ok, Sem.run_pure]
      · cases ha
    · cases ha
  · cases ha

theorem abuiltin_sound {h h' : Heap} (hr : Rep base (· < h.next) σ h.get w) {b : Builtin} {ty : TypeId} {c : Call} {ρ ρ' : Operand → Value} {v : Value} (hρ : ∀ x, VRep (· < h.next) σ (ρ x) (ρ' x)) (ha : abuiltin P b c.argTypes.toList (c.args.toList.map ρ) h = some (v, h')) :
    ∃ v' w' σ', (∀ consts, (builtin b c.argTypes ty consts (c.args.map ρ')).run P w = .ok (.value v') w') ∧ Moves base (· < h.next) σ h.get w (· < h'.next) σ' h'.get w' ∧ VRep (· < h'.next) σ' v v' :=
  abuiltin_at hr (by have := map_rep hρ c.args; simpa using this) ha

end
end Go.Proofs.YthhhmmildgijhaaGreatDoorAI
