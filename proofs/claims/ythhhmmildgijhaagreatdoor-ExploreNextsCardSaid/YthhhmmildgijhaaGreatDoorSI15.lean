/- Rows of ints that come in: what they hold, and what they are to the interpreter. -/
import Derived.Test.YthhhmmildgijhaaGreatDoorSI13
import Derived.ChangeSlices
import Derived.OpenShut
import Derived.ChangeOld
import Derived.ProofKit
import Derived.SizedLaws
set_option linter.unusedVariables false
set_option linter.unusedSimpArgs false
namespace Go.Proofs.YthhhmmildgijhaaGreatDoorSI
open Go Go.RowKit

theorem pl_int (k : IntKind) (n : Int) : plain (.int k n) = true := rfl
theorem pl_bool (b : Bool) : plain (.bool b) = true := rfl
theorem pl_ptr : plain (.pointer none) = true := rfl
theorem pl_slice : plain (.slice none 0 0) = true := rfl
theorem pl_str (s : ByteArray) : plain (.string s) = true := rfl
theorem pl_nilFunc : plain .nilFunc = true := rfl
theorem pl_nilIface : plain .nilIface = true := rfl

/-- Old objects stay as they are, but for those named. -/
def Keep (S : Nat → Prop) (h h' : Heap) : Prop := h.next ≤ h'.next ∧ ∀ m, m < h.next → ¬ S m → h'.get m = h.get m
theorem Keep.refl (S : Nat → Prop) (h : Heap) : Keep S h h := ⟨Nat.le_refl _, fun _ _ _ => rfl⟩
theorem Keep.trans {S : Nat → Prop} {a b c : Heap} (h1 : Keep S a b) (h2 : Keep S b c) : Keep S a c :=
  ⟨Nat.le_trans h1.1 h2.1, fun m hm hs => (h2.2 m (Nat.lt_of_lt_of_le hm h1.1) hs).trans (h1.2 m hm hs)⟩
theorem Keep.mono {S T : Nat → Prop} {a b : Heap} (h1 : Keep S a b) (h : ∀ m, m < a.next → S m → T m) : Keep T a b :=
  ⟨h1.1, fun m hm hs => h1.2 m hm fun x => hs (h m hm x)⟩
theorem Keep.new (S : Nat → Prop) (h : Heap) (o : AObj) : Keep S h (h.new o) :=
  ⟨Nat.le_succ _, fun m hm _ => by rw [Heap.get_new, if_neg (Nat.ne_of_lt hm)]⟩
theorem Keep.put {S : Nat → Prop} {h : Heap} {n : Nat} (hn : n < h.next) (hs : S n) (o : Option AObj) : Keep S h (h.put n o) :=
  ⟨Nat.le_refl _, fun m hm hs' => by rw [Heap.get_put hn, if_neg (fun e => hs' (by rw [e]; exact hs))]⟩
theorem Keep.get {S : Nat → Prop} {h h' : Heap} (hk : Keep S h h') {m : Nat} {o : AObj} (e : h.get m = some o) (hs : ¬ S m) : h'.get m = some o :=
  (hk.2 m (Heap.get_lt e) hs).trans e

theorem Keep.also {S T : Nat → Prop} {a b c : Heap} (h1 : Keep T a b) (h2 : Keep S b c) (hs : ∀ m, m < a.next → S m → T m) : Keep T a c :=
  ⟨Nat.le_trans h1.1 h2.1, fun m hm ht => (h2.2 m (Nat.lt_of_lt_of_le hm h1.1) fun x => ht (hs m hm x)).trans (h1.2 m hm ht)⟩

/-- The name that a value leads to. -/
def nm : Value → Option Nat
  | .slice (some a) k _ => if 0 < k then some a.block else none
  | .pointer (some a) => some a.block
  | _ => none
theorem nm_pos {a : Addr} {k c : Nat} (h : 0 < k) : nm (.slice (some a) k c) = some a.block := by simp [nm, h]
theorem nm_eq {a : Addr} {k c m : Nat} (h : nm (.slice (some a) k c) = some m) : 0 < k ∧ a.block = m := by
  unfold nm at h
  split at h <;> simp_all

/-- A slice of k elements, of sz cells each, which read cs. -/
def Sl (h : Heap) (v : Value) (sz k : Nat) (cs : List Value) : Prop :=
  cs.length = k * sz ∧ ((v = .slice none 0 0 ∧ k = 0) ∨
    ∃ a n, v = .slice (some a) k n ∧ (0 < k → ∃ c e s gr ro, h.get a.block = some (.cells c e s gr ro) ∧ (c.drop a.off).take (k * sz) = cs))

theorem Sl.keep {S : Nat → Prop} {h h' : Heap} {v : Value} {sz k : Nat} {cs : List Value} (hs : Sl h v sz k cs) (hk : Keep S h h') (hn : ∀ m, nm v = some m → ¬ S m) : Sl h' v sz k cs := by
  obtain ⟨hl, hs⟩ := hs
  refine ⟨hl, ?_⟩
  rcases hs with hs | ⟨a, n, rfl, hs⟩
  · exact .inl hs
  · refine .inr ⟨a, n, rfl, fun h0 => ?_⟩
    obtain ⟨c, e, s, gr, ro, hg, hc⟩ := hs h0
    exact ⟨c, e, s, gr, ro, hk.get hg (hn a.block (nm_pos h0)), hc⟩

theorem Sl.fit {h : Heap} {a : Addr} {n : Nat} {sz k : Nat} {cs : List Value} (hs : Sl h (.slice (some a) k n) sz k cs) (hz : 0 < sz) (h0 : 0 < k) :
    ∃ c e s gr ro, h.get a.block = some (.cells c e s gr ro) ∧ a.off + k * sz ≤ c.length ∧ (c.drop a.off).take (k * sz) = cs ∧ ∀ j, j < k * sz → c[a.off + j]? = cs[j]? := by
  obtain ⟨hl, ⟨h1, _⟩ | ⟨a', n', h1, hs⟩⟩ := hs
  · cases h1
  · cases h1
    obtain ⟨c, e, s, gr, ro, hg, hc⟩ := hs h0
    refine ⟨c, e, s, gr, ro, hg, ?_, hc, fun j hj => ?_⟩
    · have := congrArg List.length hc
      rw [List.length_take, List.length_drop, hl] at this
      have : 0 < k * sz := Nat.mul_pos h0 hz
      omega
    · rw [← hc, List.getElem?_take_of_lt hj, List.getElem?_drop]

theorem Sl.acells {h : Heap} {v : Value} {sz k : Nat} {cs : List Value} (hs : Sl h v sz k cs) (hz : 0 < sz) : acells sz v h = some (cs, k) := by
  have hs0 := hs
  obtain ⟨hl, ⟨rfl, rfl⟩ | ⟨a, n, rfl, hs⟩⟩ := hs
  · rw [Nat.zero_mul, List.length_eq_zero_iff] at hl; subst hl; rfl
  · rcases Nat.eq_zero_or_pos k with rfl | h0
    · rw [Nat.zero_mul, List.length_eq_zero_iff] at hl; subst hl; rfl
    · obtain ⟨c, e, s, gr, ro, hg, hlen, hc, _⟩ := hs0.fit hz h0
      have hb : Nat.beq k 0 = false := by cases k with | zero => omega | succ n => rfl
      simp only [YthhhmmildgijhaaGreatDoorSI.acells, hb, cond_false, hg]
      rw [ble_t hlen, cond_true, hc]
theorem Sl.okc {h : Heap} {v : Value} {sz k : Nat} {cs : List Value} (hs : Sl h v sz k cs) : okCells v = some [v] := by
  obtain ⟨hl, ⟨rfl, rfl⟩ | ⟨a, n, rfl, hs⟩⟩ := hs <;> rfl
theorem Sl.lt {h : Heap} {v : Value} {sz k : Nat} {cs : List Value} (hs : Sl h v sz k cs) {m : Nat} (e : nm v = some m) : m < h.next := by
  obtain ⟨hl, ⟨rfl, rfl⟩ | ⟨a, n, rfl, hs⟩⟩ := hs
  · cases e
  · obtain ⟨h0, rfl⟩ := nm_eq e
    obtain ⟨c, e', s, gr, ro, hg, hc⟩ := hs h0
    exact Heap.get_lt hg

/-- A slice that is one's own, and may grow. -/
def Lg (h : Heap) (v : Value) (e sz k : Nat) (cs : List Value) : Prop :=
  cs.length = k * sz ∧ ((k = 0 ∧ (v = .slice none 0 0 ∨ ∃ m off, v = .slice (some ⟨m, off, none⟩) 0 0)) ∨
    ∃ m, 0 < k ∧ v = .slice (some ⟨m, 0, some 0⟩) k sz ∧ h.get m = some (.cells cs e sz true false))

theorem Lg.sl {h : Heap} {v : Value} {e sz k : Nat} {cs : List Value} (hs : Lg h v e sz k cs) : Sl h v sz k cs := by
  obtain ⟨hl, hs⟩ := hs
  refine ⟨hl, ?_⟩
  rcases hs with hs | ⟨m, h0, rfl, hg⟩
  · rcases hs with ⟨rfl, rfl | ⟨m, off, rfl⟩⟩
    · exact .inl ⟨rfl, rfl⟩
    · exact .inr ⟨_, _, rfl, fun h => absurd h (Nat.lt_irrefl 0)⟩
  · exact .inr ⟨⟨m, 0, some 0⟩, _, rfl, fun _ => ⟨_, _, _, _, _, hg, by rw [List.drop_zero, ← hl, List.take_length]⟩⟩

/-- A slice that is not empty has an unknown capacity. -/
def Un (v : Value) (sz : Nat) : Prop := ∀ a k c, v = .slice (some a) k c → 0 < k → a.spot = some 0 ∧ c = sz
theorem Lg.un {h : Heap} {v : Value} {e sz k : Nat} {cs : List Value} (hs : Lg h v e sz k cs) : Un v sz := by
  intro a k' c e hk
  obtain ⟨hl, ⟨rfl, rfl | ⟨m, off, rfl⟩⟩ | ⟨m, h0, rfl, hg⟩⟩ := hs
  · cases e
  · cases e; omega
  · cases e; exact ⟨rfl, rfl⟩

theorem Lg.keep {S : Nat → Prop} {h h' : Heap} {v : Value} {e sz k : Nat} {cs : List Value} (hs : Lg h v e sz k cs) (hk : Keep S h h') (hn : ∀ m, nm v = some m → ¬ S m) : Lg h' v e sz k cs := by
  obtain ⟨hl, hs⟩ := hs
  refine ⟨hl, ?_⟩
  rcases hs with hs | ⟨m, h0, rfl, hg⟩
  · exact .inl hs
  · exact .inr ⟨m, h0, rfl, hk.get hg (hn m (nm_pos h0))⟩

theorem Lg.nil (h : Heap) (e sz : Nat) : Lg h (.slice none 0 0) e sz 0 [] := ⟨by simp, .inl ⟨rfl, .inl rfl⟩⟩
theorem Lg.empty (h : Heap) (e sz m off : Nat) : Lg h (.slice (some ⟨m, off, none⟩) 0 0) e sz 0 [] := ⟨by simp, .inl ⟨rfl, .inr ⟨m, off, rfl⟩⟩⟩

/-- An element's type, of sz cells and by bytes. -/
def elTyB (P : Program) (e : TypeId) (sz bts : Nat) : Bool :=
  match P.info? e with
  | some i => match i.zero with
    | some z => plain z && Nat.beq z.cells.size sz && z.cells.toList.all one && Nat.beq i.size sz && Nat.beq i.bytes bts && Nat.blt 0 sz
    | none => false
  | none => false

theorem elTy {P : Program} {e : TypeId} {sz bts : Nat} (h : elTyB P e sz bts = true) : ∃ i z, P.info? e = some i ∧ i.zero = some z ∧ plain z = true ∧ z.cells.size = sz ∧ z.cells.toList.all one = true ∧ i.size = sz ∧ i.bytes = bts ∧ 0 < sz := by
  unfold elTyB at h
  split at h
  · rename_i i hi
    split at h
    · rename_i z hz
      simp only [Bool.and_eq_true] at h
      obtain ⟨⟨⟨⟨⟨h1, h2⟩, h3⟩, h4⟩, h5⟩, h6⟩ := h
      exact ⟨i, z, hi, hz, h1, Nat.eq_of_beq_eq_true h2, h3, Nat.eq_of_beq_eq_true h4, Nat.eq_of_beq_eq_true h5, blt_lt h6⟩
    · cases h
  · cases h

theorem beq_refl' (n : Nat) : Nat.beq n n = true := by simp
theorem beq_pos {n : Nat} (h : 0 < n) : Nat.beq n 0 = false := by cases n with | zero => omega | succ n => rfl
theorem ble_d (a b : Nat) : Nat.ble a b = decide (a ≤ b) := by
  by_cases h : a ≤ b
  · rw [ble_t h, decide_eq_true h]
  · rw [ble_f (by omega), decide_eq_false h]
theorem beq_d (a b : Nat) : Nat.beq a b = decide (a = b) := by
  by_cases h : a = b
  · rw [h, decide_eq_true rfl]; simp
  · rw [decide_eq_false h]
    cases e : Nat.beq a b with
    | false => rfl
    | true => exact absurd (Nat.eq_of_beq_eq_true e) h

theorem append_lg {P : Program} {t xt e : TypeId} {d : TypeDesc} {sz bts : Nat} (ht : P.underlying t = some (.slice e)) (hxt : P.underlying xt = some d) (hd : appends d = true) (hE : elTyB P e sz bts = true)
    {h : Heap} {v x : Value} {k j : Nat} {cs ds : List Value} (hv : Lg h v e sz k cs) (hx : Sl h x sz j ds) (hb : (k + j) * bts ≤ 2 ^ 47) (hb2 : k + j ≤ 2 ^ 47) (h1 : ds.all one = true) :
    ∃ v' h', aappend P t xt v x h = some (v', h') ∧ Lg h' v' e sz (k + j) (cs ++ ds) ∧ Keep (fun m => nm v = some m) h h' ∧ (∀ m, nm v' = some m → m < h.next → nm v = some m) ∧ (v ≠ .slice none 0 0 → v' ≠ .slice none 0 0) ∧ (0 < j → ∃ m, nm v' = some m ∧ h.next ≤ m) := by
  obtain ⟨i, z, hi, hz, hp, hzc, hz1, hsz, hby, h0⟩ := elTy hE
  subst hsz hby
  have hb0 : Nat.blt 0 i.size = true := blt_t h0
  have hzb : Nat.beq z.cells.size i.size = true := by rw [hzc]; exact beq_refl' _
  have hcond : (Nat.blt 0 i.size && plain z && Nat.beq z.cells.size i.size && z.cells.toList.all one) = true := by rw [hb0, hp, hzb, hz1]; rfl
  have hE' : ∀ r, aappendE P e v x h = r → aappend P t xt v x h = r := fun r hr => by
    unfold aappend; rw [ht, hxt]; simp only [hd, cond_true]; exact hr
  have hxa := hx.acells h0
  rcases Nat.eq_zero_or_pos j with rfl | hj
  · have hds : ds = [] := by have := hx.1; rw [Nat.zero_mul] at this; exact List.length_eq_zero_iff.1 this
    subst hds
    refine ⟨v, h, hE' _ ?_, by simpa using hv, Keep.refl _ _, fun m e _ => e, id, fun hh => absurd hh (by omega)⟩
    unfold aappendE
    rw [hi]
    simp only [hz, hxa, hcond, cond_true]
    obtain ⟨_, ⟨rfl, rfl | ⟨m, off, rfl⟩⟩ | ⟨m, _, rfl, _⟩⟩ := hv <;> rfl
  · have hjb := beq_pos hj
    have hbb : (Nat.ble ((k + j) * i.bytes) (2 ^ 47) && Nat.ble (k + j) (2 ^ 47)) = true := by rw [ble_t hb, ble_t hb2]; rfl
    have hfresh : ∀ (cs' : List Value), cs'.length = (k + j) * i.size → Lg (h.new (.cells cs' e i.size true false)) (.slice (some ⟨h.next, 0, some 0⟩) (k + j) i.size) e i.size (k + j) cs' := fun cs' hl =>
      ⟨hl, .inr ⟨h.next, by omega, rfl, by rw [Heap.get_new, if_pos rfl]⟩⟩
    obtain ⟨hl, hv'⟩ := hv
    have hlen : (cs ++ ds).length = (k + j) * i.size := by rw [List.length_append, hl, hx.1, Nat.add_mul]
    rcases hv' with ⟨rfl, rfl | ⟨m, off, rfl⟩⟩ | ⟨m, hk, rfl, hg⟩
    · rw [Nat.zero_mul] at hl
      have hcs : cs = [] := List.length_eq_zero_iff.1 hl
      subst hcs
      refine ⟨.slice (some ⟨h.next, 0, some 0⟩) (0 + j) i.size, h.new (.cells ([] ++ ds) e i.size true false), hE' _ ?_, hfresh _ hlen, Keep.new _ _ _, ?_, fun _ => by simp, fun _ => ⟨h.next, nm_pos (by omega), Nat.le_refl _⟩⟩
      · unfold aappendE
        rw [hi]
        simp only [hz, hxa, hcond, cond_true, hjb, cond_false, hbb]
        rw [Nat.zero_add]
        rfl
      · intro m e hm; have := (nm_eq e).2; simp only at this; omega
    · rw [Nat.zero_mul] at hl
      have hcs : cs = [] := List.length_eq_zero_iff.1 hl
      subst hcs
      refine ⟨.slice (some ⟨h.next, 0, some 0⟩) (0 + j) i.size, h.new (.cells ([] ++ ds) e i.size true false), hE' _ ?_, hfresh _ hlen, Keep.new _ _ _, ?_, fun _ => by simp, fun _ => ⟨h.next, nm_pos (by omega), Nat.le_refl _⟩⟩
      · unfold aappendE
        rw [hi]
        simp only [hz, hxa, hcond, cond_true, hjb, cond_false, hbb]
        rw [ble_f (show 0 < 0 + j by omega)]
        rfl
      · intro m' e hm; have := (nm_eq e).2; simp only at this; omega
    · refine ⟨.slice (some ⟨h.next, 0, some 0⟩) (k + j) i.size, (h.put m none).new (.cells (cs ++ ds) e i.size true false), hE' _ ?_, ?_, ?_, ?_, fun _ => by simp, fun _ => ⟨h.next, nm_pos (by omega), Nat.le_refl _⟩⟩
      · unfold aappendE
        rw [hi]
        simp only [hz, hxa, hcond, cond_true, hjb, cond_false, hbb, hg, Nat.zero_add, hl, beq_refl', h1, Bool.and_self, List.drop_zero]
      · exact ⟨hlen, .inr ⟨h.next, by omega, rfl, by rw [Heap.get_new, Heap.next_put, if_pos rfl]⟩⟩
      · exact Keep.trans (Keep.put (S := fun m' => nm (.slice (some ⟨m, 0, some 0⟩) k i.size) = some m') (Heap.get_lt hg) (nm_pos hk) none) (Keep.new _ _ _)
      · intro m' e hm; have := (nm_eq e).2; simp only at this; omega
end Go.Proofs.YthhhmmildgijhaaGreatDoorSI
set_option linter.unusedVariables false
set_option linter.unusedSimpArgs false
namespace Go.Proofs.YthhhmmildgijhaaGreatDoorSI
open Go Go.RowKit Go.ChangeShapes Go.WideShapes Go.ChangeAt

def ints (l : List Int) : List Value := l.map (Value.int .i64)
theorem ints_one (l : List Int) : (ints l).all one = true := by simp [ints, one]
theorem ints_plain (l : List Int) : ∀ v ∈ ints l, plain v = true := by
  intro v hv
  obtain ⟨n, _, rfl⟩ := List.mem_map.1 hv
  rfl

/-- What a row of ints holds. -/
def IntsAt (W : World) (a : Option Addr) (len cap : Nat) (l : List Int) : Prop :=
  l.length = len ∧ (∀ n ∈ l, (Lit.int .i64 n).wf = true) ∧ ((a = none ∧ len = 0 ∧ cap = 0) ∨ ∃ x, a = some x ∧ len ≤ cap ∧ (0 < cap → x.spot = none) ∧ ∀ j v, (ints l)[j]? = some v → W.cell? (x.add j) = some v)

/-- How many elements a reading has. -/
def dlen {H : Type} : DataW H → Nat
  | .slice e _ => e.length
  | _ => 0

theorem open_ints_at {H : Type} {enc : TypeId × Value → H} {P : Program} {W : World} {t e : TypeId} {a : Option Addr} {len cap : Nat} {d : DataW H} {ps : List MemPlace} {ts : List TypeId} {ds : List (DataW H)} {j : Nat}
    (hsz : (DataW.weightsEach P ts ds).all (· ≤ reachBytes) = true) (ht : ts[j]? = some t) (hd : ds[j]? = some d) (hu : P.underlying t = some (.slice e)) (he : P.underlying e = some (.int .i64)) (hc : P.cellsOf e = 1) (hB : P.bytesOf e = 8)
    (h : DataW.Trod enc P W 0 (fun _ => true) true t (.slice a len cap) d ps) : ∃ l, IntsAt W a len cap l ∧ len * 8 ≤ 140737488351232 ∧ dlen d = len := by
  obtain ⟨fuel, hf⟩ := h
  rcases open_ints hu he hc hf with ⟨hcs, hx⟩ | ⟨x, l, c, zs, hcs, _, hl, hm, hz, hx, hcell, hwf⟩
  · simp [Value.cells] at hcs
    obtain ⟨rfl, rfl, rfl⟩ := hcs
    obtain ⟨rfl, _⟩ := Prod.mk.inj hx
    exact ⟨[], ⟨rfl, by simp, .inl ⟨rfl, rfl, rfl⟩⟩, by simp, rfl⟩
  · simp [Value.cells] at hcs
    obtain ⟨rfl, rfl, rfl⟩ := hcs
    obtain ⟨hx, _⟩ := Prod.mk.inj hx
    subst hx
    simp only [if_true] at hz
    have hll : (zs.take len).length = len := by rw [List.length_take, hz]; omega
    refine ⟨zs.take len, ⟨hll, fun n hn => hwf n (List.mem_of_mem_take hn), .inr ⟨x, rfl, hl, fun h0 => ?_, fun j v hv => ?_⟩⟩, ?_, ?_⟩
    · have := hcell 0 (by omega)
      unfold World.cell? at this
      split at this
      · split at this
        · cases this
        · rename_i hs
          have : (x.add 0).spot = x.spot := by rfl
          rw [this] at hs
          cases hsp : x.spot with
          | none => rfl
          | some _ => rw [hsp] at hs; simp at hs
      · cases this
    · have hj : j < (ints (zs.take len)).length := (List.getElem?_eq_some_iff.1 hv).1
      simp only [ints, List.length_map] at hj
      have hjz : j < zs.length := by rw [List.length_take] at hj; omega
      have := hcell j hjz
      rw [this]
      simp only [ints, List.getElem?_map] at hv
      rw [List.getElem?_take_of_lt (by rw [hll] at hj; exact hj), List.getElem?_eq_getElem hjz] at hv
      simp only [Option.map_some, Option.some.injEq] at hv
      rw [← hv, List.getD_eq_getElem?_getD, List.getElem?_eq_getElem hjz]
      rfl
    · have z := sized_slice hsz ht hd hu
      rw [hB] at z
      have : (lits .i64 (zs.take len) : List (DataW H)).length = len := by unfold lits; rw [List.length_map, hll]
      rw [this] at z
      have : reachBytes = 140737488351232 := by rfl
      have : len * 8 ≤ (len + (lits .i64 (zs.drop len) : List (DataW H)).length) * 8 := Nat.mul_le_mul_right _ (by omega)
      omega
    · show (lits .i64 (zs.take len) : List (DataW H)).length = len
      unfold lits; rw [List.length_map, hll]

/-- One argument more: a row of ints. -/
theorem arg_ints {h : Heap} {σ : Sig} {W : World} (hr : Rep W.heap.size (· < h.next) σ h.get W) (hro : AllRo h) (e : TypeId) {a : Option Addr} {len cap : Nat} {l : List Int} (hi : IntsAt W a len cap l) :
    ∃ h' σ' v, Rep W.heap.size (· < h'.next) σ' h'.get W ∧ AllRo h' ∧ Keep (fun _ => False) h h' ∧ (∀ m, m < h.next → σ' m = σ m) ∧ VRep (· < h'.next) σ' v (.slice a len cap) ∧ Sl h' v 1 l.length (ints l) ∧ Un v 1 ∧ ∀ m, nm v = some m → h.next ≤ m := by
  obtain ⟨hl, _, ⟨rfl, rfl, rfl⟩ | ⟨x, rfl, hle, hsp, hcell⟩⟩ := hi
  · have hl0 : l = [] := List.length_eq_zero_iff.1 hl
    subst hl0
    obtain ⟨σ', h1, h2, h3, h4⟩ := arg_nil hr hro e 1
    refine ⟨_, σ', _, h1, h2, ⟨Nat.le_succ _, fun m hm _ => ?_⟩, h3, h4, ⟨rfl, .inl ⟨rfl, rfl⟩⟩, ?_, ?_⟩
    · rw [Heap.get_push, if_neg (Nat.ne_of_lt hm)]
    · intro a k c e; cases e
    · intro m e; cases e
  · subst hl
    obtain ⟨σ', h1, h2, h3, h4⟩ := arg_slice hr hro e 1 (cs := ints l) hle (by simp [ints]) (by omega) hcell (fun hne => hsp (by
      have : 0 < l.length := by cases l with | nil => exact absurd rfl hne | cons _ _ => simp
      omega)) (ints_plain l) hsp
    refine ⟨_, σ', _, h1, h2, ⟨Nat.le_succ _, fun m hm _ => ?_⟩, h3, h4, ⟨by simp [ints], .inr ⟨_, _, rfl, fun h0 => ?_⟩⟩, ?_, ?_⟩
    · rw [Heap.get_push, if_neg (Nat.ne_of_lt hm)]
    · refine ⟨ints l, e, 1, false, true, ?_, ?_⟩
      · have hne : ints l ≠ [] := by cases l with | nil => simp at h0 | cons _ _ => simp [ints]
        rw [Heap.get_push, if_pos rfl]; simp [argObj, hne]
      · rw [List.drop_zero, List.take_of_length_le (by simp [ints])]
    · intro a k c e _; cases e; exact ⟨rfl, rfl⟩
    · intro m e; have := (nm_eq e).2; simp only at this; omega
end Go.Proofs.YthhhmmildgijhaaGreatDoorSI
