/- How abstract values and heaps stand for the model's: the relations, and what keeps them. -/
import Derived.Test.YthhhmmildgijhaaGreatDoorAI1
import Derived.Laws.NewFold
import Derived.Below
set_option linter.unusedVariables false
set_option linter.unusedSimpArgs false
namespace Go.Proofs.YthhhmmildgijhaaGreatDoorAI
open Go

/-! ### 1. Values -/
structure Pl where
  blk : Nat
  off : Nat
  size : Nat
abbrev Sig := Nat → Pl

/-- The bits of a NaN. -/
def NanP (b : Nat) : Prop := 0x7ff0000000000000 < b % 2 ^ 63 ∧ b < 2 ^ 64

inductive VRep (D : Nat → Prop) (σ : Sig) : Value → Value → Prop
  | unk (v : Value) : VRep D σ unk v
  | bool (b : Bool) : VRep D σ (.bool b) (.bool b)
  | int (k : IntKind) (n : Int) : VRep D σ (.int k n) (.int k n)
  | float (k : FloatKind) (b : Nat) (h : b ≠ 2 ^ 64) : VRep D σ (.float k b) (.float k b)
  | fnan {b : Nat} (h : NanP b) : VRep D σ (.float .f64 (2 ^ 64)) (.float .f64 b)
  | complex (k : FloatKind) (a b : Nat) : VRep D σ (.complex k a b) (.complex k a b)
  | string (s : ByteArray) : VRep D σ (.string s) (.string s)
  | nilFunc : VRep D σ .nilFunc .nilFunc
  | nilIface : VRep D σ .nilIface .nilIface
  | anyI (n : Int) : VRep D σ anyInt (.int .i64 n)
  | geI {k : Nat} {n : Int} (h : (k : Int) ≤ n) : VRep D σ (geInt k) (.int .i64 n)
  | ltI {k : Nat} {n : Int} (h : n < k) : VRep D σ (ltInt k) (.int .i64 n)
  | mapNil : VRep D σ (.map none) (.map none)
  | map {n : Nat} (hD : D n) : VRep D σ (.map (some n)) (.map (some (σ n).blk))
  | ptrNil : VRep D σ (.pointer none) (.pointer none)
  | ptr {n off : Nat} (hD : D n) : VRep D σ (.pointer (some ⟨n, off, none⟩)) (.pointer (some ⟨(σ n).blk, (σ n).off + off, none⟩))
  | sliceNil : VRep D σ (.slice none 0 0) (.slice none 0 0)
  | slice {n off len cap : Nat} {a : Addr} (hD : D n) (hl : len ≤ cap) (ha : 0 < cap → a = ⟨(σ n).blk, (σ n).off + off, none⟩) :
      VRep D σ (.slice (some ⟨n, off, none⟩) len cap) (.slice (some a) len cap)
  | sliceU {n off len esz cap : Nat} {a : Addr} (hD : D n) (hl : len ≤ cap) (ha : 0 < cap → a = ⟨(σ n).blk, (σ n).off + off, none⟩)
      (hc : (σ n).off + off + cap * esz = (σ n).size) : VRep D σ (.slice (some ⟨n, off, some 0⟩) len esz) (.slice (some a) len cap)
  | func (f : Fn) {a b a' b' : Array Value} (ha : a.size = a'.size) (hb : b.size = b'.size) (h1 : ∀ i, i < a.size → VRep D σ (a.getD i undef) (a'.getD i undef))
      (h2 : ∀ i, i < b.size → VRep D σ (b.getD i undef) (b'.getD i undef)) : VRep D σ (.func f a b) (.func f a' b')
  | iface (t : TypeId) {v v' : Value} (h : VRep D σ v v') : VRep D σ (.iface t v) (.iface t v')
  | agg {a a' : Array Value} (ha : a.size = a'.size) (h : ∀ i, i < a.size → VRep D σ (a.getD i undef) (a'.getD i undef)) : VRep D σ (.agg a) (.agg a')
  | tuple {a a' : Array Value} (ha : a.size = a'.size) (h : ∀ i, i < a.size → VRep D σ (a.getD i undef) (a'.getD i undef)) : VRep D σ (.tuple a) (.tuple a')

/-- Lists of values. -/
structure LRep (D : Nat → Prop) (σ : Sig) (a b : List Value) : Prop where
  len : a.length = b.length
  at_ : ∀ i, i < a.length → VRep D σ (a.getD i undef) (b.getD i undef)

theorem arr_getD (a : Array Value) (i : Nat) : a.getD i undef = a.toList.getD i undef := by
  simp [List.getD]

section
variable {D D' : Nat → Prop} {σ σ' : Sig}

theorem VRep.mono {v v' : Value} (h : VRep D σ v v') (hD : ∀ n, D n → D' n) (hσ : ∀ n, D n → σ' n = σ n) : VRep D' σ' v v' := by
  induction h with
  | unk v => exact .unk v
  | bool b => exact .bool b
  | int k n => exact .int k n
  | float k b h => exact .float k b h
  | fnan h => exact .fnan h
  | complex k a b => exact .complex k a b
  | string s => exact .string s
  | nilFunc => exact .nilFunc
  | nilIface => exact .nilIface
  | anyI n => exact .anyI n
  | geI h => exact .geI h
  | ltI h => exact .ltI h
  | mapNil => exact .mapNil
  | @map n h => rw [← hσ n h]; exact .map (hD n h)
  | ptrNil => exact .ptrNil
  | @ptr n off h => rw [← hσ n h]; exact .ptr (hD n h)
  | sliceNil => exact .sliceNil
  | @slice n off len cap a h hl ha => exact .slice (hD n h) hl (by rw [hσ n h]; exact ha)
  | @sliceU n off len esz cap a h hl ha hc => exact .sliceU (hD n h) hl (by rw [hσ n h]; exact ha) (by rw [hσ n h]; exact hc)
  | func f ha hb _ _ ih1 ih2 => exact .func f ha hb ih1 ih2
  | iface t _ ih => exact .iface t ih
  | agg ha _ ih => exact .agg ha ih
  | tuple ha _ ih => exact .tuple ha ih

theorem LRep.mono {a b : List Value} (h : LRep D σ a b) (hD : ∀ n, D n → D' n) (hσ : ∀ n, D n → σ' n = σ n) : LRep D' σ' a b :=
  ⟨h.len, fun i hi => (h.at_ i hi).mono hD hσ⟩

theorem undef_rep : VRep D σ undef undef := .tuple rfl (fun i hi => absurd hi (by simp))

theorem LRep.getD {a b : List Value} (h : LRep D σ a b) (i : Nat) : VRep D σ (a.getD i undef) (b.getD i undef) := by
  by_cases hi : i < a.length
  · exact h.at_ i hi
  · have hb : ¬ i < b.length := by rw [← h.len]; exact hi
    have e1 : a.getD i undef = undef := by simp [List.getD, List.getElem?_eq_none (Nat.le_of_not_lt hi)]
    have e2 : b.getD i undef = undef := by simp [List.getD, List.getElem?_eq_none (Nat.le_of_not_lt hb)]
    rw [e1, e2]; exact undef_rep

theorem LRep.get? {a b : List Value} (h : LRep D σ a b) {i : Nat} {v : Value} (e : a[i]? = some v) : ∃ v', b[i]? = some v' ∧ VRep D σ v v' := by
  have hi : i < a.length := (List.getElem?_eq_some_iff.1 e).1
  have hb : i < b.length := by rw [← h.len]; exact hi
  refine ⟨b[i], List.getElem?_eq_getElem hb, ?_⟩
  have := h.at_ i hi
  simpa [List.getD, e, List.getElem?_eq_getElem hb] using this

theorem LRep.none? {a b : List Value} (h : LRep D σ a b) {i : Nat} (e : a[i]? = none) : b[i]? = none := by
  rw [List.getElem?_eq_none_iff] at e ⊢
  rw [← h.len]; exact e

theorem LRep.of {a b : List Value} (hl : a.length = b.length) (h : ∀ (i : Nat) (v v' : Value), a[i]? = some v → b[i]? = some v' → VRep D σ v v') : LRep D σ a b :=
  ⟨hl, fun i hi => by
    have hb : i < b.length := by omega
    have := h i a[i] b[i] (List.getElem?_eq_getElem hi) (List.getElem?_eq_getElem hb)
    simpa [List.getD, List.getElem?_eq_getElem hi, List.getElem?_eq_getElem hb] using this⟩

theorem LRep.rel {a b : List Value} (h : LRep D σ a b) {i : Nat} {v v' : Value} (e : a[i]? = some v) (e' : b[i]? = some v') : VRep D σ v v' := by
  obtain ⟨u, hu, hr⟩ := h.get? e
  rw [e'] at hu; cases hu; exact hr

theorem LRep.nil : LRep D σ [] [] := ⟨rfl, fun i hi => absurd hi (by simp)⟩
theorem LRep.cons {v v' : Value} {a b : List Value} (hv : VRep D σ v v') (h : LRep D σ a b) : LRep D σ (v :: a) (v' :: b) :=
  .of (by simp [h.len]) fun i u u' e e' => by
    cases i with
    | zero => simp only [List.getElem?_cons_zero, Option.some.injEq] at e e'; subst e; subst e'; exact hv
    | succ i => simp only [List.getElem?_cons_succ] at e e'; exact h.rel e e'
theorem LRep.append {a b c d : List Value} (h : LRep D σ a b) (k : LRep D σ c d) : LRep D σ (a ++ c) (b ++ d) :=
  .of (by simp [h.len, k.len]) fun i u u' e e' => by
    rw [List.getElem?_append] at e e'
    rw [← h.len] at e'
    split at e
    · rename_i hlt; rw [if_pos hlt] at e'; exact h.rel e e'
    · rename_i hlt; rw [if_neg hlt] at e'; exact k.rel e e'
theorem LRep.take {a b : List Value} (h : LRep D σ a b) (n : Nat) : LRep D σ (a.take n) (b.take n) :=
  .of (by simp [h.len]) fun i u u' e e' => by
    rw [List.getElem?_take] at e e'
    split at e
    · rename_i hlt; rw [if_pos hlt] at e'; exact h.rel e e'
    · cases e
theorem LRep.drop {a b : List Value} (h : LRep D σ a b) (n : Nat) : LRep D σ (a.drop n) (b.drop n) :=
  .of (by simp [h.len]) fun i u u' e e' => by
    rw [List.getElem?_drop] at e e'; exact h.rel e e'
theorem LRep.set {a b : List Value} (h : LRep D σ a b) (n : Nat) {v v' : Value} (hv : VRep D σ v v') : LRep D σ (a.set n v) (b.set n v') :=
  .of (by simp [h.len]) fun i u u' e e' => by
    rw [List.getElem?_set] at e e'
    split at e
    · rename_i hn
      subst hn
      rw [if_pos rfl] at e'
      split at e <;> split at e'
      · simp only [Option.some.injEq] at e e'; subst e; subst e'; exact hv
      · cases e'
      · cases e
      · cases e
    · rename_i hn; rw [if_neg hn] at e'; exact h.rel e e'
theorem LRep.map {α : Type} (l : List α) (f g : α → Value) (h : ∀ x ∈ l, VRep D σ (f x) (g x)) : LRep D σ (l.map f) (l.map g) :=
  .of (by simp) fun i u u' e e' => by
    rw [List.getElem?_map] at e e'
    cases hx : l[i]? with
    | none => rw [hx] at e; cases e
    | some x =>
      rw [hx] at e e'
      simp only [Option.map_some, Option.some.injEq] at e e'
      subst e; subst e'
      exact h x (List.mem_of_getElem? hx)

theorem LRep.arr {a b : Array Value} (ha : a.size = b.size) (h : ∀ i, i < a.size → VRep D σ (a.getD i undef) (b.getD i undef)) : LRep D σ a.toList b.toList :=
  ⟨by simpa using ha, fun i hi => by have := h i (by simpa using hi); rwa [arr_getD, arr_getD] at this⟩
theorem LRep.size {a b : Array Value} (h : LRep D σ a.toList b.toList) : a.size = b.size := by simpa using h.len
theorem LRep.arr_at {a b : Array Value} (h : LRep D σ a.toList b.toList) : ∀ i, i < a.size → VRep D σ (a.getD i undef) (b.getD i undef) := fun i hi => by
  rw [arr_getD, arr_getD]; exact h.at_ i (by simpa using hi)
theorem VRep.mkAgg {a b : Array Value} (h : LRep D σ a.toList b.toList) : VRep D σ (.agg a) (.agg b) := .agg h.size h.arr_at
theorem VRep.mkTuple {a b : Array Value} (h : LRep D σ a.toList b.toList) : VRep D σ (.tuple a) (.tuple b) := .tuple h.size h.arr_at
theorem VRep.mkFunc {f : Fn} {a b a' b' : Array Value} (h : LRep D σ a.toList a'.toList) (k : LRep D σ b.toList b'.toList) : VRep D σ (.func f a b) (.func f a' b') :=
  .func f h.size k.size h.arr_at k.arr_at

/-! inversions -/
theorem VRep.inv_bool {b : Bool} {v : Value} (h : VRep D σ (.bool b) v) : v = .bool b := by cases h; rfl
theorem VRep.inv_int {k : IntKind} {n : Int} {v : Value} (h : VRep D σ (.int k n) v) : v = .int k n := by cases h; rfl
theorem VRep.inv_string {s : ByteArray} {v : Value} (h : VRep D σ (.string s) v) : v = .string s := by cases h; rfl
theorem VRep.inv_ptr {n off : Nat} {v : Value} (h : VRep D σ (.pointer (some ⟨n, off, none⟩)) v) : D n ∧ v = .pointer (some ⟨(σ n).blk, (σ n).off + off, none⟩) := by
  cases h with | ptr hD => exact ⟨hD, rfl⟩
theorem VRep.inv_map {n : Nat} {v : Value} (h : VRep D σ (.map (some n)) v) : D n ∧ v = .map (some (σ n).blk) := by cases h with | map hD => exact ⟨hD, rfl⟩
theorem VRep.inv_mapNil {v : Value} (h : VRep D σ (.map none) v) : v = .map none := by cases h; rfl
/-- An int that isn't known. -/
theorem VRep.inv_chan {q : Nat} {v : Value} (h : VRep D σ (.chan (some q)) v) (hq : 3 ≤ q) : ∃ n, v = .int .i64 n ∧ (q % 2 = 1 → (((q - 3) / 2 : Nat) : Int) ≤ n) ∧ (q % 2 = 0 → n < (((q - 3) / 2 : Nat) : Int)) := by
  generalize e : Value.chan (some q) = x at h
  cases h <;> first
    | (simp [Go.Proofs.YthhhmmildgijhaaGreatDoorAI.anyInt, Go.Proofs.YthhhmmildgijhaaGreatDoorAI.unk, geInt, ltInt] at e; done)
    | (simp [Go.Proofs.YthhhmmildgijhaaGreatDoorAI.anyInt, Go.Proofs.YthhhmmildgijhaaGreatDoorAI.unk] at e; omega)
    | skip
  · rename_i k n h
    simp only [geInt, Value.chan.injEq, Option.some.injEq] at e
    subst e
    refine ⟨n, rfl, fun _ => ?_, fun h2 => by omega⟩
    have : (2 * k + 3 - 3) / 2 = k := by omega
    rw [this]; exact h
  · rename_i k n h
    simp only [ltInt, Value.chan.injEq, Option.some.injEq] at e
    subst e
    refine ⟨n, rfl, fun h2 => by omega, fun _ => ?_⟩
    have : (2 * k + 4 - 3) / 2 = k := by omega
    rw [this]; exact h
theorem VRep.inv_ptrNil {v : Value} (h : VRep D σ (.pointer none) v) : v = .pointer none := by cases h; rfl
theorem VRep.inv_sliceNil {n c : Nat} {v : Value} (h : VRep D σ (.slice none n c) v) : n = 0 ∧ c = 0 ∧ v = .slice none 0 0 := by cases h; exact ⟨rfl, rfl, rfl⟩
theorem VRep.inv_slice {n off len cap : Nat} {v : Value} (h : VRep D σ (.slice (some ⟨n, off, none⟩) len cap) v) :
    D n ∧ len ≤ cap ∧ ∃ a, v = .slice (some a) len cap ∧ (0 < cap → a = ⟨(σ n).blk, (σ n).off + off, none⟩) := by
  cases h with | slice hD hl ha => exact ⟨hD, hl, _, rfl, ha⟩
theorem VRep.inv_sliceU {n off len esz k : Nat} {v : Value} (h : VRep D σ (.slice (some ⟨n, off, some k⟩) len esz) v) :
    k = 0 ∧ D n ∧ ∃ a cap, v = .slice (some a) len cap ∧ len ≤ cap ∧ (0 < cap → a = ⟨(σ n).blk, (σ n).off + off, none⟩) ∧ (σ n).off + off + cap * esz = (σ n).size := by
  cases h with | sliceU hD hl ha hc => exact ⟨rfl, hD, _, _, rfl, hl, ha, hc⟩
theorem VRep.inv_agg {a : Array Value} {v : Value} (h : VRep D σ (.agg a) v) : ∃ b, v = .agg b ∧ LRep D σ a.toList b.toList := by
  cases h with | agg ha h => exact ⟨_, rfl, .arr ha h⟩
theorem VRep.inv_tuple {a : Array Value} {v : Value} (h : VRep D σ (.tuple a) v) : ∃ b, v = .tuple b ∧ LRep D σ a.toList b.toList := by
  cases h with | tuple ha h => exact ⟨_, rfl, .arr ha h⟩
theorem VRep.inv_func {f : Fn} {a b : Array Value} {v : Value} (h : VRep D σ (.func f a b) v) : ∃ a' b', v = .func f a' b' ∧ LRep D σ a.toList a'.toList ∧ LRep D σ b.toList b'.toList := by
  cases h with | func _ ha hb h1 h2 => exact ⟨_, _, rfl, .arr ha h1, .arr hb h2⟩
theorem VRep.inv_iface {t : TypeId} {x v : Value} (h : VRep D σ (.iface t x) v) : ∃ y, v = .iface t y ∧ VRep D σ x y := by
  cases h with | iface _ h => exact ⟨_, rfl, h⟩
/-- Whatever slice it is. -/
theorem VRep.inv_anySlice {a : Option Addr} {len cap : Nat} {v : Value} (h : VRep D σ (.slice a len cap) v) :
    ∃ a' cap', v = .slice a' len cap' ∧ len ≤ cap' ∧ (a'.isSome = a.isSome) ∧ ∀ n off k, a = some ⟨n, off, k⟩ → D n ∧ (0 < cap' → a' = some ⟨(σ n).blk, (σ n).off + off, none⟩) := by
  cases h with
  | sliceNil => exact ⟨_, _, rfl, Nat.le_refl _, rfl, fun n off k e => by cases e⟩
  | slice hD hl ha => exact ⟨_, _, rfl, hl, rfl, fun n off k e => by cases e; exact ⟨hD, fun hp => by rw [ha hp]⟩⟩
  | sliceU hD hl ha hc => exact ⟨_, _, rfl, hl, rfl, fun n off k e => by cases e; exact ⟨hD, fun hp => by rw [ha hp]⟩⟩

/-! plain values -/
theorem VRep.plain_eq : ∀ (d : Nat) {v v' : Value}, plainN d v = true → VRep D σ v v' → v' = v := by
  intro d
  induction d with
  | zero => intro v v' h; simp [plainN] at h
  | succ d ih =>
    have all : ∀ {a b : List Value}, a.all (plainN d) = true → LRep D σ a b → b = a := by
      intro a
      induction a with
      | nil => intro b _ h; exact List.length_eq_zero_iff.1 h.len.symm
      | cons x xs ihx =>
        intro b hp h
        simp only [List.all_cons, Bool.and_eq_true] at hp
        cases b with
        | nil => have := h.len; simp at this
        | cons y ys =>
          have h0 := h.rel (i := 0) rfl rfl
          have h1 : LRep D σ xs ys := by simpa using h.drop 1
          rw [ih hp.1 h0, ihx hp.2 h1]
    intro v v' hp h
    cases h with
    | unk v => simp [plainN, Go.Proofs.YthhhmmildgijhaaGreatDoorAI.unk] at hp
    | fnan h => simp [plainN] at hp
    | anyI _ => simp [plainN, Go.Proofs.YthhhmmildgijhaaGreatDoorAI.anyInt] at hp
    | geI _ => simp [plainN, Go.Proofs.YthhhmmildgijhaaGreatDoorAI.geInt] at hp
    | ltI _ => simp [plainN, Go.Proofs.YthhhmmildgijhaaGreatDoorAI.ltInt] at hp
    | map _ => simp [plainN] at hp
    | ptr _ => simp [plainN] at hp
    | slice _ _ _ => simp [plainN] at hp
    | sliceU _ _ _ _ => simp [plainN] at hp
    | func f ha hb h1 h2 =>
      simp only [plainN, Bool.and_eq_true] at hp
      have e1 := all hp.1 (LRep.arr ha h1)
      have e2 := all hp.2 (LRep.arr hb h2)
      rw [Array.toList_inj] at e1 e2
      rw [e1, e2]
    | iface t h => simp only [plainN] at hp; rw [ih hp h]
    | agg ha h => simp only [plainN] at hp; have e1 := all hp (LRep.arr ha h); rw [Array.toList_inj] at e1; rw [e1]
    | tuple ha h => simp only [plainN] at hp; have e1 := all hp (LRep.arr ha h); rw [Array.toList_inj] at e1; rw [e1]
    | _ => rfl

theorem VRep.plain_refl : ∀ (d : Nat) {v : Value}, plainN d v = true → VRep D σ v v := by
  intro d
  induction d with
  | zero => intro v h; simp [plainN] at h
  | succ d ih =>
    have all : ∀ {a : List Value}, a.all (plainN d) = true → LRep D σ a a := by
      intro a
      induction a with
      | nil => intro _; exact .nil
      | cons x xs ihx =>
        intro hp
        simp only [List.all_cons, Bool.and_eq_true] at hp
        exact .cons (ih hp.1) (ihx hp.2)
    intro v hp
    cases v with
    | bool b => exact .bool b
    | int k n => exact .int k n
    | float k b => exact .float k b fun e => by rw [e] at hp; simp [plainN] at hp
    | complex k a b => exact .complex k a b
    | string s => exact .string s
    | pointer a => cases a with
      | none => exact .ptrNil
      | some a => simp [plainN] at hp
    | slice a n c => cases a with
      | none =>
        cases n with
        | zero => cases c with
          | zero => exact .sliceNil
          | succ c => simp [plainN] at hp
        | succ n => simp [plainN] at hp
      | some a => simp [plainN] at hp
    | map r => cases r with
      | none => exact .mapNil
      | some r => simp [plainN] at hp
    | chan r => simp [plainN] at hp
    | func f a b => simp only [plainN, Bool.and_eq_true] at hp; exact .mkFunc (all hp.1) (all hp.2)
    | nilFunc => exact .nilFunc
    | iface t v => simp only [plainN] at hp; exact .iface t (ih hp)
    | nilIface => exact .nilIface
    | agg cs => simp only [plainN] at hp; exact .mkAgg (all hp)
    | tuple cs => simp only [plainN] at hp; exact .mkTuple (all hp)

theorem plain_all {v : Value} (h : plain v = true) : LRep D σ v.cells.toList v.cells.toList := by
  cases v with
  | agg cs => obtain ⟨b, e, hr⟩ := (VRep.plain_refl (D := D) (σ := σ) 8 h).inv_agg; cases e; exact hr
  | _ => exact .cons (VRep.plain_refl 8 h) .nil

/-! one cell -/
theorem VRep.one_one {v v' : Value} (h1 : one v = true) (h : VRep D σ v v') : v'.oneCell' = true := by
  cases h <;> first | rfl | (simp [one, Go.Proofs.YthhhmmildgijhaaGreatDoorAI.unk, Go.Proofs.YthhhmmildgijhaaGreatDoorAI.anyInt, Go.Proofs.YthhhmmildgijhaaGreatDoorAI.geInt, Go.Proofs.YthhhmmildgijhaaGreatDoorAI.ltInt] at h1)

theorem okCells_rep {v v' : Value} {cs : List Value} (h : okCells v = some cs) (hr : VRep D σ v v') : LRep D σ cs v'.cells.toList ∧ (∀ x ∈ v'.cells.toList, x.oneCell' = true) := by
  cases v with
  | agg a =>
    simp only [okCells] at h
    cases hb : a.toList.all one with
    | false => rw [hb] at h; cases h
    | true =>
      rw [hb] at h
      simp only [cond_true, Option.some.injEq] at h
      subst h
      obtain ⟨b, rfl, hl⟩ := hr.inv_agg
      refine ⟨hl, fun x hx => ?_⟩
      obtain ⟨i, hi, e⟩ := List.mem_iff_getElem.1 hx
      have hi' : i < a.toList.length := by rw [hl.len]; exact hi
      have h1 := List.all_eq_true.1 hb a.toList[i] (List.getElem_mem hi')
      exact (hl.rel (List.getElem?_eq_getElem hi') (by rw [← e]; exact List.getElem?_eq_getElem hi)).one_one h1
  | tuple a => simp [okCells, one] at h
  | chan a => simp [okCells, one] at h
  | _ =>
    all_goals
      simp only [okCells, one, cond_true, Option.some.injEq] at h
      subst h
      have ho := hr.one_one rfl
      have hc : v'.cells.toList = [v'] := by cases v' <;> first | rfl | (simp [Value.oneCell'] at ho)
      rw [hc]
      exact ⟨.cons hr .nil, fun x hx => by simp only [List.mem_singleton] at hx; subst hx; exact ho⟩
end

/-! ### 2. Heaps -/
structure RepObj (D : Nat → Prop) (σ : Sig) (w : World) (n : Nat) (c : List Value) (e : TypeId) (gr ro : Bool) (C : Array Value) (t : TypeId) (fr : Nat × Nat) : Prop where
  heap : w.heap[(σ n).blk]? = some (.cells C t fr)
  fit : (σ n).off + c.length ≤ C.size
  rel : LRep D σ c ((C.toList.drop (σ n).off).take c.length)
  mine : ro = false → t = e ∧ fr = (0, 0)
  grow : gr = true → (σ n).size = C.size
  exact : gr = false → ro = false → (σ n).off = 0 ∧ C.size = c.length

/-- Entries of maps; what is no row of cells. -/
structure ERep (D : Nat → Prop) (σ : Sig) (e e' : MapEntry) : Prop where
  key : VRep D σ e.key e'.key
  val : VRep D σ e.val e'.val
  born : e.born = e'.born
inductive ORep (D : Nat → Prop) (σ : Sig) : AOth → Obj → Prop
  | iter (s : ByteArray) (pos : Nat) : ORep D σ (.iter s pos) (.stringIter s pos)
  | map {es : List MapEntry} {es' : Array MapEntry} (clock : Nat) (hl : es.length = es'.size) (h : ∀ (i : Nat) (e e' : MapEntry), es[i]? = some e → es'[i]? = some e' → ERep D σ e e') : ORep D σ (.map es clock) (.map es' clock)
  | miterNil (since : Nat) (seen : List Nat) (stepped : Nat) : ORep D σ (.miter none since seen stepped) (.mapIter none since seen.toArray stepped)
  | miter {m : Nat} (hD : D m) (since : Nat) (seen : List Nat) (stepped : Nat) : ORep D σ (.miter (some m) since seen stepped) (.mapIter (some (σ m).blk) since seen.toArray stepped)
theorem ERep.mono {D D' : Nat → Prop} {σ σ' : Sig} {e e' : MapEntry} (h : ERep D σ e e') (hD : ∀ n, D n → D' n) (hσ : ∀ n, D n → σ' n = σ n) : ERep D' σ' e e' := ⟨h.key.mono hD hσ, h.val.mono hD hσ, h.born⟩
theorem ORep.mono {D D' : Nat → Prop} {σ σ' : Sig} {o : AOth} {o' : Obj} (h : ORep D σ o o') (hD : ∀ n, D n → D' n) (hσ : ∀ n, D n → σ' n = σ n) : ORep D' σ' o o' := by
  cases h with
  | iter s pos => exact .iter s pos
  | map clock hl h => exact .map clock hl fun i e e' h1 h2 => (h i e e' h1 h2).mono hD hσ
  | miterNil a b c => exact .miterNil a b c
  | @miter m h a b c => rw [← hσ m h]; exact .miter (hD m h) a b c

def NonRo (g : Nat → Option AObj) (n : Nat) : Prop := ∃ o, g n = some o ∧ o.own = true
def IsRo (g : Nat → Option AObj) (n : Nat) : Prop := ∃ o, g n = some o ∧ o.own = false
def Owned (g : Nat → Option AObj) (σ : Sig) (b : Nat) : Prop := ∃ n, NonRo g n ∧ (σ n).blk = b
theorem NonRo.cells {g : Nat → Option AObj} {n : Nat} {c : List Value} {e : TypeId} {s : Nat} {gr : Bool} (h : g n = some (.cells c e s gr false)) : NonRo g n := ⟨_, h, rfl⟩
theorem NonRo.oth {g : Nat → Option AObj} {n : Nat} {o : AOth} (h : g n = some (.oth o)) : NonRo g n := ⟨_, h, rfl⟩

/-- The program's variables. -/
structure Glob (base : Nat) (D : Nat → Prop) (σ : Sig) (w : World) : Prop where
  names : ∀ n, n < NG → D n ∧ (σ n).blk = n ∧ (σ n).off = 0
  cells : ∀ n c e s gr ro, n < NG → gobj n = some (.cells c e s gr ro) → n < base ∧ ∃ C t fr, RepObj (· < NG) σ w n c e gr ro C t fr
theorem Glob.mono {base : Nat} {D D' : Nat → Prop} {σ σ' : Sig} {w w' : World} (h : Glob base D σ w) (hD : ∀ n, D n → D' n) (hσ : ∀ n, D n → σ' n = σ n) (hw : ∀ b, b < base → w'.heap[b]? = w.heap[b]?) : Glob base D' σ' w' where
  names n hn := by
    obtain ⟨h1, h2, h3⟩ := h.names n hn
    rw [hσ n h1]; exact ⟨hD n h1, h2, h3⟩
  cells n c e s gr ro hn hg := by
    obtain ⟨hb, C, t, fr, r⟩ := h.cells n c e s gr ro hn hg
    obtain ⟨h1, h2, h3⟩ := h.names n hn
    refine ⟨hb, C, t, fr, ?_⟩
    have es := hσ n h1
    exact ⟨by rw [es, hw _ (by rw [h2]; exact hb)]; exact r.heap, by rw [es]; exact r.fit, by rw [es]; exact r.rel.mono (fun _ h => h) (fun m hm => hσ m (h.names m hm).1), r.mine, by rw [es]; exact r.grow, by rw [es]; exact r.exact⟩

structure Rep (base : Nat) (D : Nat → Prop) (σ : Sig) (g : Nat → Option AObj) (w : World) : Prop where
  gl : Glob base D σ w
  obj : ∀ n c e s gr ro, g n = some (.cells c e s gr ro) → D n ∧ ∃ C t fr, RepObj D σ w n c e gr ro C t fr
  oth : ∀ n o, g n = some (.oth o) → D n ∧ (σ n).off = 0 ∧ ∃ o', w.heap[(σ n).blk]? = some o' ∧ ORep D σ o o'
  own : ∀ n, NonRo g n → base ≤ (σ n).blk
  old : ∀ n, IsRo g n → (σ n).blk < base
  inj : ∀ n m, NonRo g n → NonRo g m → n ≠ m → (σ n).blk ≠ (σ m).blk
  size : base ≤ w.heap.size

/-- What a run leaves: from a heap to a heap. -/
structure Moves (base : Nat) (D : Nat → Prop) (σ : Sig) (g : Nat → Option AObj) (w : World) (D' : Nat → Prop) (σ' : Sig) (g' : Nat → Option AObj) (w' : World) : Prop where
  mono : ∀ n, D n → D' n
  ext : ∀ n, D n → σ' n = σ n
  rep : Rep base D' σ' g' w'
  os : w'.os = w.os
  tape : w'.tape = w.tape
  output : w'.output = w.output
  size : w.heap.size ≤ w'.heap.size
  frame : ∀ b, b < w.heap.size → ¬ Owned g σ b → w'.heap[b]? = w.heap[b]?
  own : ∀ b, Owned g' σ' b → Owned g σ b ∨ w.heap.size ≤ b

section
variable {base : Nat} {D D' D'' : Nat → Prop} {σ σ' σ'' : Sig} {g g' g'' : Nat → Option AObj} {w w' w'' : World}

theorem Moves.refl (h : Rep base D σ g w) : Moves base D σ g w D σ g w :=
  ⟨fun _ h => h, fun _ _ => rfl, h, rfl, rfl, rfl, Nat.le_refl _, fun _ _ _ => rfl, fun _ h => .inl h⟩

theorem Moves.trans (h : Moves base D σ g w D' σ' g' w') (k : Moves base D' σ' g' w' D'' σ'' g'' w'') : Moves base D σ g w D'' σ'' g'' w'' where
  mono n hn := k.mono n (h.mono n hn)
  ext n hn := (k.ext n (h.mono n hn)).trans (h.ext n hn)
  rep := k.rep
  os := k.os.trans h.os
  tape := k.tape.trans h.tape
  output := k.output.trans h.output
  size := Nat.le_trans h.size k.size
  frame b hb hn := by
    rw [k.frame b (Nat.lt_of_lt_of_le hb h.size) (fun ho => by
      rcases h.own b ho with h1 | h1
      · exact hn h1
      · omega)]
    exact h.frame b hb hn
  own b hb := by
    rcases k.own b hb with h1 | h1
    · exact h.own b h1
    · exact .inr (Nat.le_trans h.size h1)

theorem Rep.heapEq (h : Rep base D σ g w) (e : w'.heap = w.heap) : Rep base D σ g w' where
  gl := h.gl.mono (fun _ h => h) (fun _ _ => rfl) (fun b _ => by rw [e])
  obj n c t s gr ro hg := by
    obtain ⟨hD, C, t, fr, r⟩ := h.obj n c t s gr ro hg
    exact ⟨hD, C, t, fr, by rw [e]; exact r.heap, r.fit, r.rel, r.mine, r.grow, r.exact⟩
  oth n o hg := by rw [e]; exact h.oth n o hg
  own := h.own
  old := h.old
  inj := h.inj
  size := by rw [e]; exact h.size

/-- A draw. -/
theorem Moves.drew (h : Rep base D σ g w) : Moves base D σ g w D σ g w.drew :=
  ⟨fun _ h => h, fun _ _ => rfl, h.heapEq rfl, rfl, rfl, rfl, Nat.le_refl _, fun _ _ _ => rfl, fun _ h => .inl h⟩

/-- Fewer objects. -/
theorem Rep.sub (h : Rep base D σ g w) (hs : ∀ n o, g' n = some o → g n = some o) : Rep base D σ g' w where
  gl := h.gl
  obj n c e s gr ro hg := h.obj n c e s gr ro (hs _ _ hg)
  oth n o hg := h.oth n o (hs _ _ hg)
  own n hn := h.own n (let ⟨o, hg, ho⟩ := hn; ⟨o, hs _ _ hg, ho⟩)
  old n hn := h.old n (let ⟨o, hg, ho⟩ := hn; ⟨o, hs _ _ hg, ho⟩)
  inj n m hn hm hne := h.inj n m (let ⟨o, hg, ho⟩ := hn; ⟨o, hs _ _ hg, ho⟩) (let ⟨o, hg, ho⟩ := hm; ⟨o, hs _ _ hg, ho⟩) hne
  size := h.size

theorem Rep.D_of (h : Rep base D σ g w) {n : Nat} {o : AObj} (hn : g n = some o) : D n := by
  cases o with
  | cells c e s gr ro => exact (h.obj n c e s gr ro hn).1
  | oth o => exact (h.oth n o hn).1

theorem Rep.mono (h : Rep base D σ g w) (hD : ∀ n, D n → D' n) (hσ : ∀ n, D n → σ' n = σ n) : Rep base D' σ' g w where
  gl := h.gl.mono hD hσ (fun _ _ => rfl)
  obj n c e s gr ro hg := by
    obtain ⟨hn, C, t, fr, r⟩ := h.obj n c e s gr ro hg
    refine ⟨hD n hn, C, t, fr, ?_⟩
    have hs := hσ n hn
    exact ⟨by rw [hs]; exact r.heap, by rw [hs]; exact r.fit, by rw [hs]; exact r.rel.mono hD hσ, r.mine, by rw [hs]; exact r.grow, by rw [hs]; exact r.exact⟩
  oth n o hg := by
    obtain ⟨hn, h0, o', ho, hr⟩ := h.oth n o hg
    rw [hσ n hn]
    exact ⟨hD n hn, h0, o', ho, hr.mono hD hσ⟩
  own n hn := by
    obtain ⟨o, hg, ho⟩ := hn
    rw [hσ n (h.D_of hg)]; exact h.own n ⟨o, hg, ho⟩
  old n hn := by
    obtain ⟨o, hg, ho⟩ := hn
    rw [hσ n (h.D_of hg)]; exact h.old n ⟨o, hg, ho⟩
  inj n m hn hm hne := by
    have en := h.inj n m hn hm hne
    obtain ⟨o, hg, ho⟩ := hn
    obtain ⟨o', hg', ho'⟩ := hm
    rw [hσ n (h.D_of hg), hσ m (h.D_of hg')]; exact en
  size := h.size

theorem Rep.nonro_lt (h : Rep base D σ g w) {n : Nat} (hn : NonRo g n) : (σ n).blk < w.heap.size := by
  obtain ⟨o, hg, ho⟩ := hn
  cases o with
  | cells c e s gr ro =>
    obtain ⟨_, C, t, fr, r⟩ := h.obj n c e s gr ro hg
    exact (Array.getElem?_eq_some_iff.1 r.heap).1
  | oth o =>
    obtain ⟨_, _, o', ho, _⟩ := h.oth n o hg
    exact (Array.getElem?_eq_some_iff.1 ho).1
theorem Rep.own_ge (h : Rep base D σ g w) {n : Nat} (hn : NonRo g n) : base ≤ (σ n).blk := h.own n hn

theorem alloc_heap_lt (w : World) (o : Obj) {b : Nat} (h : b < w.heap.size) : (w.alloc o).heap[b]? = w.heap[b]? := by
  show (w.heap.push o)[b]? = _
  rw [Array.getElem?_push, if_neg (by omega)]
theorem alloc_heap_new (w : World) (o : Obj) : (w.alloc o).heap[w.heap.size]? = some o := by
  show (w.heap.push o)[w.heap.size]? = _
  simp
theorem alloc_size (w : World) (o : Obj) : (w.alloc o).heap.size = w.heap.size + 1 := by show (w.heap.push o).size = _; simp

/-- The signature with one name more. -/
def Sig.upd (σ : Sig) (n : Nat) (p : Pl) : Sig := fun m => if m = n then p else σ m
theorem Sig.upd_same (σ : Sig) (n : Nat) (p : Pl) : σ.upd n p n = p := by simp [Sig.upd]
theorem Sig.upd_ne (σ : Sig) {n m : Nat} (p : Pl) (h : m ≠ n) : σ.upd n p m = σ m := by simp [Sig.upd, h]

/-- A new block, a new name: whatever it is. -/
theorem Rep.allocAny (h : Rep base D σ g w) {n : Nat} (hn : ¬ D n) {x : AObj} {o : Obj} (sz : Nat) (hx : x.own = true)
    (hcells : ∀ c e s gr ro, x = .cells c e s gr ro → ∃ C t fr, o = .cells C t fr ∧ c.length ≤ C.size ∧ LRep D σ c (C.toList.take c.length) ∧ t = e ∧ fr = (0, 0) ∧ (gr = true → sz = C.size) ∧ (gr = false → C.size = c.length))
    (hoth : ∀ y, x = .oth y → ORep D σ y o) :
    Moves base D σ g w (fun m => D m ∨ m = n) (σ.upd n ⟨w.heap.size, 0, sz⟩) (fun m => if m = n then some x else g m) (w.alloc o) := by
  have hσ : ∀ m, D m → σ.upd n ⟨w.heap.size, 0, sz⟩ m = σ m := fun m hm => Sig.upd_ne σ _ (fun e => hn (e ▸ hm))
  have hDm : ∀ m, D m → (D m ∨ m = n) := fun _ h => .inl h
  have key : ∀ m, NonRo (fun m => if m = n then some x else g m) m → (m = n ∨ (m ≠ n ∧ NonRo g m)) := by
    rintro m ⟨o', hg, ho⟩
    by_cases hm : m = n
    · exact .inl hm
    · simp only [hm, if_false] at hg; exact .inr ⟨hm, o', hg, ho⟩
  have hlt : ∀ m, NonRo g m → (σ m).blk < w.heap.size := fun m hm => h.nonro_lt hm
  have hsm : ∀ m, m ≠ n → NonRo g m → σ.upd n ⟨w.heap.size, 0, sz⟩ m = σ m := fun m hm _ => Sig.upd_ne σ _ hm
  refine ⟨hDm, hσ, ⟨h.gl.mono hDm hσ (fun b hb => alloc_heap_lt w _ (Nat.lt_of_lt_of_le hb h.size)), ?_, ?_, ?_, ?_, ?_, ?_⟩, rfl, rfl, rfl, by rw [alloc_size]; omega, fun b hb _ => alloc_heap_lt w _ hb, ?_⟩
  · intro m c' e' s' gr' ro' hg
    by_cases hm : m = n
    · subst hm
      simp only [if_true, Option.some.injEq] at hg
      obtain ⟨C, t, fr, ho, hc, hr, ht, hf, hgr, hex⟩ := hcells _ _ _ _ _ hg
      have hro : ro' = false := by rw [hg] at hx; simpa [AObj.own] using hx
      refine ⟨.inr rfl, C, t, fr, ?_⟩
      have es := Sig.upd_same σ m ⟨w.heap.size, 0, sz⟩
      exact ⟨by rw [es, ho]; exact alloc_heap_new w _, by rw [es]; simpa using hc, by rw [es]; simpa using hr.mono hDm hσ, fun _ => ⟨ht, hf⟩, by rw [es]; exact hgr, fun h1 _ => ⟨by rw [es], hex h1⟩⟩
    · simp only [hm, if_false] at hg
      obtain ⟨hD, C', t', fr', r⟩ := h.obj m c' e' s' gr' ro' hg
      refine ⟨.inl hD, C', t', fr', ?_⟩
      have es := hσ m hD
      have hlt' : (σ m).blk < w.heap.size := (Array.getElem?_eq_some_iff.1 r.heap).1
      exact ⟨by rw [es, alloc_heap_lt w _ hlt']; exact r.heap, by rw [es]; exact r.fit, by rw [es]; exact r.rel.mono hDm hσ, r.mine, by rw [es]; exact r.grow, by rw [es]; exact r.exact⟩
  · intro m y hg
    by_cases hm : m = n
    · subst hm
      simp only [if_true, Option.some.injEq] at hg
      have es := Sig.upd_same σ m ⟨w.heap.size, 0, sz⟩
      rw [es]
      exact ⟨.inr rfl, rfl, o, alloc_heap_new w _, (hoth y hg).mono hDm hσ⟩
    · simp only [hm, if_false] at hg
      obtain ⟨hD, h0, o', ho, hr⟩ := h.oth m y hg
      rw [hσ m hD]
      exact ⟨.inl hD, h0, o', by rw [alloc_heap_lt w _ (Array.getElem?_eq_some_iff.1 ho).1]; exact ho, hr.mono hDm hσ⟩
  · intro m hm
    rcases key m hm with rfl | ⟨hne, hm⟩
    · rw [Sig.upd_same]; exact h.size
    · rw [hsm m hne hm]; exact h.own m hm
  · rintro m ⟨o', hg, ho⟩
    by_cases hm : m = n
    · subst hm
      simp only [if_true, Option.some.injEq] at hg
      rw [← hg, hx] at ho; cases ho
    · simp only [hm, if_false] at hg
      rw [Sig.upd_ne σ _ hm]; exact h.old m ⟨o', hg, ho⟩
  · intro m k hm hk hne
    rcases key m hm with e1 | ⟨hmn, hm1⟩ <;> rcases key k hk with e2 | ⟨hkn, hk1⟩
    · exact absurd (e1.trans e2.symm) hne
    · rw [e1, Sig.upd_same, hsm k hkn hk1]; have := hlt k hk1; simp only; omega
    · rw [e2, Sig.upd_same, hsm m hmn hm1]; have := hlt m hm1; simp only; omega
    · rw [hsm m hmn hm1, hsm k hkn hk1]; exact h.inj m k hm1 hk1 hne
  · have := h.size; rw [alloc_size]; omega
  · rintro b ⟨m, hm, rfl⟩
    rcases key m hm with rfl | ⟨hne, hm⟩
    · rw [Sig.upd_same]; exact .inr (Nat.le_refl _)
    · rw [hsm m hne hm]; exact .inl ⟨m, hm, rfl⟩

theorem Rep.alloc (h : Rep base D σ g w) {n : Nat} (hn : ¬ D n) {c : List Value} {e : TypeId} {s : Nat} {gr : Bool} {C : Array Value}
    (hc : c.length ≤ C.size) (hr : LRep D σ c (C.toList.take c.length)) (hx : gr = false → C.size = c.length) :
    Moves base D σ g w (fun m => D m ∨ m = n) (σ.upd n ⟨w.heap.size, 0, C.size⟩) (fun m => if m = n then some (.cells c e s gr false) else g m) (w.alloc (.cells C e (0, 0))) :=
  h.allocAny hn C.size rfl (fun c' e' s' gr' ro' he => by
    simp only [AObj.cells.injEq] at he
    obtain ⟨rfl, rfl, rfl, rfl, rfl⟩ := he
    exact ⟨C, e, (0, 0), rfl, hc, hr, rfl, rfl, fun _ => rfl, hx⟩) (fun y hy => by cases hy)

theorem setRow_same {w : World} {b : Nat} {C C' : Array Value} {t : TypeId} {fr : Nat × Nat} (h : w.heap[b]? = some (.cells C t fr)) : (w.setRow b C').heap[b]? = some (.cells C' t fr) := by
  simp only [World.setRow, Array.getElem?_modify, if_true, h, Option.map_some]
theorem setRow_ne {w : World} {b b' : Nat} {C' : Array Value} (h : b' ≠ b) : (w.setRow b C').heap[b']? = w.heap[b']? := by
  simp only [World.setRow, Array.getElem?_modify]
  rw [if_neg (by omega)]
theorem setRow_size (w : World) (b : Nat) (C' : Array Value) : (w.setRow b C').heap.size = w.heap.size := by simp [World.setRow]

/-- One of our own blocks turns; the name stays. -/
theorem Rep.turn (h : Rep base D σ g w) {n : Nat} (hn : NonRo g n) {x : AObj} (hx : x.own = true) (hsz : w.heap.size = w'.heap.size)
    (hos : w'.os = w.os) (htp : w'.tape = w.tape) (hout : w'.output = w.output) (hother : ∀ b, b ≠ (σ n).blk → w'.heap[b]? = w.heap[b]?)
    (hcells : ∀ c e s gr ro, x = .cells c e s gr ro → ∃ C t fr, RepObj D σ w' n c e gr ro C t fr)
    (hoth : ∀ y, x = .oth y → (σ n).off = 0 ∧ ∃ o', w'.heap[(σ n).blk]? = some o' ∧ ORep D σ y o') :
    Moves base D σ g w D σ (fun m => if m = n then some x else g m) w' := by
  have hD : D n := by obtain ⟨o, hg, _⟩ := hn; exact h.D_of hg
  have key : ∀ m, NonRo (fun m => if m = n then some x else g m) m → NonRo g m := by
    rintro m ⟨o1, h1, ho1⟩
    by_cases hm : m = n
    · subst hm; exact hn
    · simp only [hm, if_false] at h1; exact ⟨o1, h1, ho1⟩
  have hbn := h.own n hn
  have hne : ∀ m o, m ≠ n → g m = some o → (σ m).blk ≠ (σ n).blk := by
    intro m o hm hg
    cases ho : o.own with
    | true => exact h.inj m n ⟨o, hg, ho⟩ hn hm
    | false => have := h.old m ⟨o, hg, ho⟩; omega
  refine ⟨fun _ h => h, fun _ _ => rfl, ⟨h.gl.mono (fun _ h => h) (fun _ _ => rfl) (fun b hb => hother b (by omega)), ?_, ?_, fun m hm => h.own m (key m hm), ?_, fun m k hm hk hne => h.inj m k (key m hm) (key k hk) hne, by rw [← hsz]; exact h.size⟩, hos, htp, hout, by omega, ?_, fun b hb => .inl (let ⟨m, hm, e⟩ := hb; ⟨m, key m hm, e⟩)⟩
  · intro m c1 e1 s1 gr1 ro1 h1
    by_cases hm : m = n
    · subst hm
      simp only [if_true, Option.some.injEq] at h1
      exact ⟨hD, hcells _ _ _ _ _ h1⟩
    · simp only [hm, if_false] at h1
      obtain ⟨hD, C1, t1, fr1, r1⟩ := h.obj m c1 e1 s1 gr1 ro1 h1
      exact ⟨hD, C1, t1, fr1, ⟨by rw [hother _ (hne m _ hm h1)]; exact r1.heap, r1.fit, r1.rel, r1.mine, r1.grow, r1.exact⟩⟩
  · intro m y h1
    by_cases hm : m = n
    · subst hm
      simp only [if_true, Option.some.injEq] at h1
      exact ⟨hD, hoth _ h1⟩
    · simp only [hm, if_false] at h1
      obtain ⟨hD, h0, o', ho, hr⟩ := h.oth m y h1
      exact ⟨hD, h0, o', by rw [hother _ (hne m _ hm h1)]; exact ho, hr⟩
  · rintro m ⟨o1, h1, ho1⟩
    by_cases hm : m = n
    · subst hm
      simp only [if_true, Option.some.injEq] at h1
      rw [← h1, hx] at ho1; cases ho1
    · simp only [hm, if_false] at h1; exact h.old m ⟨o1, h1, ho1⟩
  · intro b hb hno
    exact hother b (fun e => hno ⟨n, hn, e.symm⟩)

/-- A write into a block of our own. -/
theorem Rep.write (h : Rep base D σ g w) {n : Nat} {c : List Value} {e : TypeId} {s : Nat} {gr : Bool} (hg : g n = some (.cells c e s gr false))
    {C : Array Value} {t : TypeId} {fr : Nat × Nat} (r : RepObj D σ w n c e gr false C t fr) {c' : List Value} {C' : Array Value} (hC : C'.size = C.size) (hcl : c'.length = c.length)
    (hfit : (σ n).off + c'.length ≤ C'.size) (hr : LRep D σ c' ((C'.toList.drop (σ n).off).take c'.length)) :
    Moves base D σ g w D σ (fun m => if m = n then some (.cells c' e s gr false) else g m) (w.setRow (σ n).blk C') :=
  h.turn (.cells hg) rfl (setRow_size w _ C').symm rfl rfl rfl (fun b hb => setRow_ne hb) (fun c1 e1 s1 gr1 ro1 he => by
    simp only [AObj.cells.injEq] at he
    obtain ⟨rfl, rfl, rfl, rfl, rfl⟩ := he
    exact ⟨C', t, fr, ⟨setRow_same r.heap, hfit, hr, r.mine, fun hh => (r.grow hh).trans hC.symm, fun h1 h2 => ⟨(r.exact h1 h2).1, by rw [hC, hcl]; exact (r.exact h1 h2).2⟩⟩⟩) (fun y hy => by cases hy)

/-- An append within the capacity that nobody knew: the block has a new name. -/
theorem Rep.shift (h : Rep base D σ g w) {n N : Nat} (hN : ¬ D N) {c : List Value} {e : TypeId} {s s' : Nat} (hg : g n = some (.cells c e s true false))
    {C : Array Value} {t : TypeId} {fr : Nat × Nat} (r : RepObj D σ w n c e true false C t fr) {c' : List Value} {C' : Array Value} {off : Nat} (hC : C'.size = C.size)
    (hfit : (σ n).off + off + c'.length ≤ C'.size) (hr : LRep D σ c' ((C'.toList.drop ((σ n).off + off)).take c'.length)) :
    Moves base D σ g w (fun m => D m ∨ m = N) (σ.upd N ⟨(σ n).blk, (σ n).off + off, (σ n).size⟩) (fun m => if m = N then some (.cells c' e s' true false) else if m = n then none else g m) (w.setRow (σ n).blk C') := by
  have hn : NonRo g n := .cells hg
  have hnD : D n := (h.obj _ _ _ _ _ _ hg).1
  have hnN : n ≠ N := fun e => hN (e ▸ hnD)
  have hσ : ∀ m, D m → σ.upd N ⟨(σ n).blk, (σ n).off + off, (σ n).size⟩ m = σ m := fun m hm => Sig.upd_ne σ _ (fun e => hN (e ▸ hm))
  have hDm : ∀ m, D m → (D m ∨ m = N) := fun _ h => .inl h
  have key : ∀ m, NonRo (fun m => if m = N then some (.cells c' e s' true false) else if m = n then none else g m) m → (m = N ∨ (m ≠ N ∧ m ≠ n ∧ NonRo g m)) := by
    rintro m ⟨o1, h1, ho1⟩
    by_cases hm : m = N
    · exact .inl hm
    · by_cases hm2 : m = n
      · simp only [hm2, if_neg hnN, if_true] at h1; cases h1
      · simp only [hm, hm2, if_false] at h1; exact .inr ⟨hm, hm2, o1, h1, ho1⟩
  have hsm : ∀ m, m ≠ N → σ.upd N ⟨(σ n).blk, (σ n).off + off, (σ n).size⟩ m = σ m := fun m hm => Sig.upd_ne σ _ hm
  have hbn := h.own n hn
  have hbne : ∀ m o, m ≠ n → g m = some o → (σ m).blk ≠ (σ n).blk := by
    intro m o hm hg
    cases ho : o.own with
    | true => exact h.inj m n ⟨o, hg, ho⟩ hn hm
    | false => have := h.old m ⟨o, hg, ho⟩; omega
  refine ⟨hDm, hσ, ⟨h.gl.mono hDm hσ (fun b hb => setRow_ne (by omega)), ?_, ?_, ?_, ?_, ?_, by rw [setRow_size]; exact h.size⟩, rfl, rfl, rfl, by rw [setRow_size]; exact Nat.le_refl _, ?_, ?_⟩
  · intro m c1 e1 s1 gr1 ro1 h1
    by_cases hm : m = N
    · subst hm
      simp only [if_true, Option.some.injEq, AObj.cells.injEq] at h1
      obtain ⟨rfl, rfl, rfl, rfl, rfl⟩ := h1
      refine ⟨.inr rfl, C', t, fr, ?_⟩
      have es := Sig.upd_same σ m ⟨(σ n).blk, (σ n).off + off, (σ n).size⟩
      exact ⟨by rw [es]; exact setRow_same r.heap, by rw [es]; exact hfit, by rw [es]; exact hr.mono hDm hσ, r.mine, fun _ => by rw [es]; exact (r.grow rfl).trans hC.symm, fun h1 => by cases h1⟩
    · by_cases hm2 : m = n
      · simp only [hm2, if_neg hnN, if_true] at h1; cases h1
      · simp only [hm, hm2, if_false] at h1
        obtain ⟨hD, C1, t1, fr1, r1⟩ := h.obj m c1 e1 s1 gr1 ro1 h1
        have hb := hbne m _ hm2 h1
        have es := hsm m hm
        exact ⟨.inl hD, C1, t1, fr1, ⟨by rw [es, setRow_ne hb]; exact r1.heap, by rw [es]; exact r1.fit, by rw [es]; exact r1.rel.mono hDm hσ, r1.mine, by rw [es]; exact r1.grow, by rw [es]; exact r1.exact⟩⟩
  · intro m y h1
    by_cases hm : m = N
    · subst hm
      simp only [if_true, Option.some.injEq] at h1
      cases h1
    · by_cases hm2 : m = n
      · simp only [hm2, if_neg hnN, if_true] at h1; cases h1
      · simp only [hm, hm2, if_false] at h1
        obtain ⟨hD, h0, o', ho, hr⟩ := h.oth m y h1
        rw [hsm m hm]
        exact ⟨.inl hD, h0, o', by rw [setRow_ne (hbne m _ hm2 h1)]; exact ho, hr.mono hDm hσ⟩
  · intro m hm
    rcases key m hm with e1 | ⟨h1, h2, h3⟩
    · rw [e1, Sig.upd_same]; exact h.own n hn
    · rw [hsm m h1]; exact h.own m h3
  · rintro m ⟨o1, h1, ho1⟩
    by_cases hm : m = N
    · subst hm
      simp only [if_true, Option.some.injEq] at h1
      rw [← h1] at ho1; cases ho1
    · by_cases hm2 : m = n
      · simp only [hm2, if_neg hnN, if_true] at h1; cases h1
      · simp only [hm, hm2, if_false] at h1; rw [hsm m hm]; exact h.old m ⟨o1, h1, ho1⟩
  · intro m k hm hk hne
    rcases key m hm with e1 | ⟨h1, h2, h3⟩ <;> rcases key k hk with e2 | ⟨k1, k2, k3⟩
    · exact absurd (e1.trans e2.symm) hne
    · rw [e1, Sig.upd_same, hsm k k1]; exact h.inj n k hn k3 (Ne.symm k2)
    · rw [e2, Sig.upd_same, hsm m h1]; exact h.inj m n h3 hn h2
    · rw [hsm m h1, hsm k k1]; exact h.inj m k h3 k3 hne
  · intro b hb hno
    exact setRow_ne (fun e => hno ⟨n, hn, e.symm⟩)
  · rintro b ⟨m, hm, rfl⟩
    rcases key m hm with e1 | ⟨h1, h2, h3⟩
    · rw [e1, Sig.upd_same]; exact .inl ⟨n, hn, rfl⟩
    · rw [hsm m h1]; exact .inl ⟨m, h3, rfl⟩

end
end Go.Proofs.YthhhmmildgijhaaGreatDoorAI
