/- The program's variables, as the rows list them, are what the interpreter begins with. -/
import Derived.Test.YthhhmmildgijhaaGreatDoorRows
import Derived.Test.YthhhmmildgijhaaGreatDoorAF3
import Derived.Lib.LaidU8
import Derived.Shelf.Vars
import Derived.KernelRfl
set_option linter.unusedVariables false
set_option linter.unusedSimpArgs false
namespace Go.Proofs.YthhhmmildgijhaaGreatDoorAI
open Go Go.Lib Go.Proofs.YthhhmmildgijhaaGreatDoor

def tz0 : List Int := [1, 10, 100, 1000, 10000, 100000, 1000000, 10000000, 100000000, 1000000000, 10000000000, 100000000000, 1000000000000, 10000000000000, 100000000000000, 1000000000000000, 10000000000000000, 100000000000000000, 1000000000000000000, 10000000000000000000]
def tz1 : List Int := [0, 0, 0, 0, 0, 0, 0, 0, 0, 1, 1, 1, 1, 1, 0, 0, 0, 0, 0, 0, 0, 0, 0, 0, 0, 0, 0, 0, 0, 0, 0, 0, 1, 0, 0, 0, 0, 0, 0, 0, 0, 0, 0, 0, 0, 0, 0, 0, 0, 0, 0, 0, 0, 0, 0, 0, 0, 0, 0, 0, 0, 0, 0, 0, 0, 0, 0, 0, 0, 0, 0, 0, 0, 0, 0, 0, 0, 0, 0, 0, 0, 0, 0, 0, 0, 0, 0, 0, 0, 0, 0, 0, 0, 0, 0, 0, 0, 0, 0, 0, 0, 0, 0, 0, 0, 0, 0, 0, 0, 0, 0, 0, 0, 0, 0, 0, 0, 0, 0, 0, 0, 0, 0, 0, 0, 0, 0, 0, 0, 0, 0, 0, 0, 0, 0, 0, 0, 0, 0, 0, 0, 0, 0, 0, 0, 0, 0, 0, 0, 0, 0, 0, 0, 0, 0, 0, 0, 0, 0, 0, 0, 0, 0, 0, 0, 0, 0, 0, 0, 0, 0, 0, 0, 0, 0, 0, 0, 0, 0, 0, 0, 0, 0, 0, 0, 0, 0, 0, 0, 0, 0, 0, 0, 0, 0, 0, 0, 0, 0, 0, 0, 0, 0, 0, 0, 0, 0, 0, 0, 0, 0, 0, 0, 0, 0, 0, 0, 0, 0, 0, 0, 0, 0, 0, 0, 0, 0, 0, 0, 0, 0, 0, 0, 0, 0, 0, 0, 0, 0, 0, 0, 0, 0, 0, 0, 0, 0, 0, 0, 0, 0, 0, 0, 0, 0, 0]
def tz2 : List Int := [0, 1, 28, 2, 29, 14, 24, 3, 30, 22, 20, 15, 25, 17, 4, 8, 31, 27, 13, 23, 21, 19, 16, 7, 26, 12, 18, 6, 11, 5, 10, 9]
def tz3 : List Int := [0, 1, 56, 2, 57, 49, 28, 3, 61, 58, 42, 50, 38, 29, 17, 4, 62, 47, 59, 36, 45, 43, 51, 22, 53, 39, 33, 30, 24, 18, 12, 5, 63, 55, 48, 27, 60, 41, 37, 16, 46, 35, 44, 21, 52, 32, 23, 11, 54, 26, 40, 15, 34, 20, 31, 10, 25, 14, 19, 9, 13, 8, 7, 6]

theorem repList {D : Nat → Prop} {σ : Sig} {w : World} {n : Nat} {c : List Value} {e : TypeId} {C : Array Value} {t : TypeId} {fr : Nat × Nat} (hb : (σ n).blk = n) (ho : (σ n).off = 0) (hh : w.heap[n]? = some (.cells C t fr)) (hC : C.toList = c) (hp : c.all plain = true) :
    RepObj D σ w n c e false true C t fr := by
  subst hC
  have hrefl : LRep D σ C.toList C.toList := ⟨rfl, fun i hi => VRep.plain_refl 8 (by
    have := List.all_eq_true.1 hp (C.toList.getD i undef) (by rw [List.getD, List.getElem?_eq_getElem hi]; exact List.getElem_mem hi)
    exact this)⟩
  refine ⟨by rw [hb]; exact hh, by rw [ho]; simp, ?_, (by intro h; cases h), (by intro h; cases h), (by intro _ h; cases h)⟩
  rw [ho, List.drop_zero, List.take_length]
  exact hrefl

theorem heap_of_var {P : Program} {w : World} {n : String} {g : Nat} {cs : Array Value} (hg : P.globalNamed n = some g) (h : w.var? P n = some cs) : ∃ t fr, w.heap[g]? = some (.cells cs t fr) := by
  unfold World.var? at h
  rw [hg] at h
  simp only [Option.bind_some] at h
  split at h
  · rename_i cs' t fr he
    obtain rfl := Option.some.inj h
    exact ⟨t, fr, he⟩
  · cases h

theorem heap_of_cell {w : World} {g : Nat} {v : Value} (h : w.cell? ⟨g, 0, none⟩ = some v) : ∃ C t fr, w.heap[g]? = some (.cells C t fr) ∧ C[0]? = some v := by
  unfold World.cell? at h
  split at h
  · rename_i C t fr he
    exact ⟨C, t, fr, he, h⟩
  all_goals cases h

theorem tab_of {w : World} {n : String} {g t e m : Nat} {k : IntKind} {zs : List Int} (hr : VarReads Tryz.prog w n (tabData k zs)) (hg : Tryz.prog.globalNamed n = some g) (hty : (Tryz.prog.globals[g]?).map (·.type) = some t)
    (ht : Tryz.prog.underlying t = some (.array m e)) (he : Tryz.prog.underlying e = some (.int k)) (hce : Tryz.prog.cellsOf e = 1) (hct : Tryz.prog.cellsOf t = m) :
    ∃ C ty fr, w.heap[g]? = some (.cells C ty fr) ∧ C.toList = zs.map fun z => Value.int k z := by
  obtain ⟨g', t', cs, fuel, p, hg', hty', hvar, hd⟩ := hr
  obtain rfl := Option.some.inj (hg.symm.trans hg')
  obtain rfl := Option.some.inj (hty.symm.trans hty')
  obtain ⟨ty, fr, hh⟩ := heap_of_var hg hvar
  exact ⟨cs, ty, fr, hh, cells_of_tab ht he hce hct hd⟩

def sig0 : Sig := fun n => ⟨n, 0, 0⟩
def theList : List (String × DataW Unit) := [("math/bits.deBruijn32tab", Rows.laid_math_bits_deBruijn32tab), ("math/bits.deBruijn64tab", Rows.laid_math_bits_deBruijn64tab), ("internal/strconv.uint64pow10", Rows.laid_internal_strconv_uint64pow10), ("unicode.White_Space", Rows.laid_unicode_White_Space), ("strings.asciiSpace", Rows.laid_strings_asciiSpace)]

theorem gN0 : Tryz.prog.globalNamed "internal/strconv.uint64pow10" = some 0 := by kernel_rfl
theorem gT0 : (Tryz.prog.globals[0]?).map (·.type) = some 374 := by kernel_rfl
theorem gU0 : Tryz.prog.underlying 374 = some (.array 20 331) := by kernel_rfl
theorem gE0 : Tryz.prog.underlying 331 = some (.int .u64) := by kernel_rfl
theorem gC0 : Tryz.prog.cellsOf 374 = 20 := by kernel_rfl
theorem gc0 : Tryz.prog.cellsOf 331 = 1 := by kernel_rfl
theorem gobj0 : gobj 0 = some (.cells (tz0.map (Value.int .u64)) 374 20 false true) := rfl
theorem gD0 : (Rows.laid_internal_strconv_uint64pow10 : DataW Unit) = tabData .u64 tz0 := by kernel_rfl
theorem gP0 : (tz0.map (Value.int .u64)).all plain = true := by kernel_rfl

theorem gN1 : Tryz.prog.globalNamed "strings.asciiSpace" = some 1 := by kernel_rfl
theorem gT1 : (Tryz.prog.globals[1]?).map (·.type) = some 405 := by kernel_rfl
theorem gU1 : Tryz.prog.underlying 405 = some (.array 256 5) := by kernel_rfl
theorem gE1 : Tryz.prog.underlying 5 = some (.int .u8) := by kernel_rfl
theorem gC1 : Tryz.prog.cellsOf 405 = 256 := by kernel_rfl
theorem gc1 : Tryz.prog.cellsOf 5 = 1 := by kernel_rfl
theorem gobj1 : gobj 1 = some (.cells (tz1.map (Value.int .u8)) 405 256 false true) := rfl
theorem gD1 : (Rows.laid_strings_asciiSpace : DataW Unit) = tabData .u8 tz1 := by kernel_rfl
theorem gP1 : (tz1.map (Value.int .u8)).all plain = true := by kernel_rfl

theorem gN2 : Tryz.prog.globalNamed "math/bits.deBruijn32tab" = some 2 := by kernel_rfl
theorem gT2 : (Tryz.prog.globals[2]?).map (·.type) = some 437 := by kernel_rfl
theorem gU2 : Tryz.prog.underlying 437 = some (.array 32 5) := by kernel_rfl
theorem gE2 : Tryz.prog.underlying 5 = some (.int .u8) := by kernel_rfl
theorem gC2 : Tryz.prog.cellsOf 437 = 32 := by kernel_rfl
theorem gc2 : Tryz.prog.cellsOf 5 = 1 := by kernel_rfl
theorem gobj2 : gobj 2 = some (.cells (tz2.map (Value.int .u8)) 437 32 false true) := rfl
theorem gD2 : (Rows.laid_math_bits_deBruijn32tab : DataW Unit) = tabData .u8 tz2 := by kernel_rfl
theorem gP2 : (tz2.map (Value.int .u8)).all plain = true := by kernel_rfl

theorem gN3 : Tryz.prog.globalNamed "math/bits.deBruijn64tab" = some 3 := by kernel_rfl
theorem gT3 : (Tryz.prog.globals[3]?).map (·.type) = some 438 := by kernel_rfl
theorem gU3 : Tryz.prog.underlying 438 = some (.array 64 5) := by kernel_rfl
theorem gE3 : Tryz.prog.underlying 5 = some (.int .u8) := by kernel_rfl
theorem gC3 : Tryz.prog.cellsOf 438 = 64 := by kernel_rfl
theorem gc3 : Tryz.prog.cellsOf 5 = 1 := by kernel_rfl
theorem gobj3 : gobj 3 = some (.cells (tz3.map (Value.int .u8)) 438 64 false true) := rfl
theorem gD3 : (Rows.laid_math_bits_deBruijn64tab : DataW Unit) = tabData .u8 tz3 := by kernel_rfl
theorem gP3 : (tz3.map (Value.int .u8)).all plain = true := by kernel_rfl

theorem gobj4 : gobj 4 = none := rfl
theorem gobj5 : gobj 5 = some (.cells [anyInt] 3 1 false true) := rfl
theorem gobj6 : gobj 6 = none := rfl

theorem gM0 : ∃ zero, ((begin Tryz.prog (fun _ _ => 0) default).world.heap[5]?).bind Obj.row? = some (zero, 3) ∧ zero.size = 1 := ⟨#[.int .i64 0], by kernel_rfl, rfl⟩

theorem glob_of {W : World} (hl : laidMet Tryz.prog theList W) (hs : W.ShapedOpen Tryz.prog) : Glob W.heap.size (· < NG) sig0 W := by
  refine ⟨fun n hn => ⟨hn, rfl, rfl⟩, fun n c e s gr ro hn hg => ?_⟩
  have key : ∀ {g : Nat} {k : IntKind} {zs : List Int} {C : Array Value} {ty : TypeId} {fr : Nat × Nat}, W.heap[g]? = some (.cells C ty fr) → C.toList = (zs.map fun z => Value.int k z) → (zs.map (Value.int k)).all plain = true →
      ∀ e, g < W.heap.size ∧ ∃ C t fr, RepObj (· < NG) sig0 W g (zs.map (Value.int k)) e false true C t fr := by
    intro g k zs C ty fr hh hC hp e
    refine ⟨?_, C, ty, fr, repList rfl rfl hh hC hp⟩
    exact (Array.getElem?_eq_some_iff.1 hh).1
  match n, hn with
  | 0, _ =>
    rw [gobj0] at hg
    obtain ⟨C, ty, fr, hh, hC⟩ := tab_of (gD0 ▸ laidMet.reads hl (n := "internal/strconv.uint64pow10") (d := Rows.laid_internal_strconv_uint64pow10) (by simp [theList])) gN0 gT0 gU0 gE0 gc0 gC0
    simp only [Option.some.injEq, AObj.cells.injEq] at hg
    obtain ⟨rfl, rfl, rfl, rfl, rfl⟩ := hg
    exact key hh hC gP0 _
  | 1, _ =>
    rw [gobj1] at hg
    obtain ⟨C, ty, fr, hh, hC⟩ := tab_of (gD1 ▸ laidMet.reads hl (n := "strings.asciiSpace") (d := Rows.laid_strings_asciiSpace) (by simp [theList])) gN1 gT1 gU1 gE1 gc1 gC1
    simp only [Option.some.injEq, AObj.cells.injEq] at hg
    obtain ⟨rfl, rfl, rfl, rfl, rfl⟩ := hg
    exact key hh hC gP1 _
  | 2, _ =>
    rw [gobj2] at hg
    obtain ⟨C, ty, fr, hh, hC⟩ := tab_of (gD2 ▸ laidMet.reads hl (n := "math/bits.deBruijn32tab") (d := Rows.laid_math_bits_deBruijn32tab) (by simp [theList])) gN2 gT2 gU2 gE2 gc2 gC2
    simp only [Option.some.injEq, AObj.cells.injEq] at hg
    obtain ⟨rfl, rfl, rfl, rfl, rfl⟩ := hg
    exact key hh hC gP2 _
  | 3, _ =>
    rw [gobj3] at hg
    obtain ⟨C, ty, fr, hh, hC⟩ := tab_of (gD3 ▸ laidMet.reads hl (n := "math/bits.deBruijn64tab") (d := Rows.laid_math_bits_deBruijn64tab) (by simp [theList])) gN3 gT3 gU3 gE3 gc3 gC3
    simp only [Option.some.injEq, AObj.cells.injEq] at hg
    obtain ⟨rfl, rfl, rfl, rfl, rfl⟩ := hg
    exact key hh hC gP3 _
  | 4, _ => rw [gobj4] at hg; cases hg
  | 6, _ => rw [gobj6] at hg; cases hg
  | 5, _ =>
    rw [gobj5] at hg
    simp only [Option.some.injEq, AObj.cells.injEq] at hg
    obtain ⟨rfl, rfl, rfl, rfl, rfl⟩ := hg
    obtain ⟨zero, h0, hz⟩ := gM0
    obtain ⟨m, hm⟩ := cell_of_shapedOpen_int (k := .i64) hs (of_decide_eq_true (by kernel_rfl)) h0 hz (by kernel_rfl) (by kernel_rfl) (by kernel_rfl)
    obtain ⟨C, t, fr, hh, h1⟩ := heap_of_cell hm
    refine ⟨(Array.getElem?_eq_some_iff.1 hh).1, C, t, fr, hh, ?_, ?_, (by intro h; cases h), (by intro h; cases h), (by intro _ h; cases h)⟩
    · have := (Array.getElem?_eq_some_iff.1 h1).1
      show 0 + 1 ≤ C.size
      omega
    · show LRep _ _ [anyInt] ((C.toList.drop 0).take 1)
      have e1 : (C.toList.drop 0).take 1 = [.int .i64 m] := by
        have : C.toList[0]? = some (.int .i64 m) := by rw [Array.getElem?_toList]; exact h1
        cases hc : C.toList with
        | nil => rw [hc] at this; cases this
        | cons x r => rw [hc] at this; simp at this; simp [this]
      rw [e1]
      exact .cons (.anyI m) .nil
end Go.Proofs.YthhhmmildgijhaaGreatDoorAI
