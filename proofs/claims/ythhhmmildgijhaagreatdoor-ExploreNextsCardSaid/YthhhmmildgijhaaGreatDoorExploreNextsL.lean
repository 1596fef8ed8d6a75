/- The contract and the witness of ExploreNexts. -/
import Derived.Test.YthhhmmildgijhaaGreatDoorCards
import Derived.Test.YthhhmmildgijhaaGreatDoorTie
import Derived.Test.YthhhmmildgijhaaGreatDoorGE10
import Derived.Test.YthhhmmildgijhaaGreatDoorEx7
import Derived.Test.YthhhmmildgijhaaGreatDoorExploreNextsF
import Derived.Test.YthhhmmildgijhaaGreatDoorGD5
import Derived.WalkKit
import Derived.ProofKit
import Derived.OpenShut
import Derived.ChangeOld
import Derived.SizedLaws
import Derived.Carry
import Derived.Deep.SlicePairs
import Derived.Deep.DeepHandedRow
import Derived.Deep.DeepLaidRun
import Derived.Deep.DeepWitnessRef
namespace Go.Proofs.YthhhmmildgijhaaGreatDoor.exploreNexts
open Go.ChangeShapes Go.WideShapes Go.ChangeAt Go.RowKit Go.Deep
open Go.Proofs.YthhhmmildgijhaaGreatDoorAI
set_option linter.unusedVariables false
theorem aa {a b : Bool} (h : a = true) (g : b = true) : (a && b) = true := by rw [h, g]; rfl
theorem closed : joinedFacts Tryz.prog 3 Tryz.f3 Rows.exploreNextsSpec Rows.exploreNextsRow = true := by
  unfold joinedFacts
  exact (aa (aa (aa (aa (aa (aa (aa (aa (aa (aa (aa (aa (aa (aa (aa (aa (aa (aa (aa (aa (aa (aa (aa (aa (aa (aa (aa (aa (aa (aa (aa c0 c1) c2) c3) c4) c5) c6) c7) c8) c9) c10) c11) c12) c13) c14) c15) c16) c17) c18) c19) c20) c21) c22) c23) c24) c25) c26) c27) (by kernel_rfl)) c29) c30) c31)
theorem own : ownKnob Tryz.prog.godebug = none := by kernel_rfl
theorem laidOut : laidOutB Tryz.prog = true := c1

/-- The closed run, from the program's variables alone. -/
theorem wakes_calls (W : World) (hl : laidMet Tryz.prog theList W) (hs : W.ShapedOpen Tryz.prog) : Calls Tryz.prog 5 #[] W fun e W' => e = .returned (.bool true) ∧ Below W.heap.size W W' := by
  obtain ⟨h', e⟩ := isV_some wakes20_k
  refine ((gcall_both mixed exts noKs (K5_ok W.heap.size) 3000).1.2 5 [] .empty _ h' e sig0 W #[] (Rep.start (glob_of hl hs) (Nat.le_refl _)) .nil).mono ?_
  rintro e W' ⟨v', σ', rfl, hm, hv⟩
  obtain rfl := VRep.plain_eq 8 rfl hv
  refine ⟨rfl, hm.os, hm.tape, hm.output, hm.size, fun b hb => hm.frame b hb fun ⟨n, ⟨o, h, ho⟩, _⟩ => ?_⟩
  have h1 : n < NG := Heap.get_lt h
  have h2 := Heap.own_ge h ho
  omega

/-- A row of pairs that comes in; its numbers are a machine's. -/
theorem open_pairs_in {H : Type} {enc : TypeId × Value → H} {P : Program} {W : World} {t e : TypeId} {f0 f1 : Field} {a : Option Addr} {len cap : Nat} {d : DataW H} {ps : List MemPlace} {ts : List TypeId} {ds : List (DataW H)} {j : Nat}
    (hsz : (DataW.weightsEach P ts ds).all (· ≤ reachBytes) = true) (ht : ts[j]? = some t) (hd : ds[j]? = some d) (hu : P.underlying t = some (.slice e)) (he : P.underlying e = some (.struct #[f0, f1])) (ce : P.cellsOf e = 2) (o0 : f0.offset = 0) (o1 : f1.offset = 1)
    (c0 : P.cellsOf f0.type = 1) (c1 : P.cellsOf f1.type = 1) (u0 : P.underlying f0.type = some (.int .i64)) (u1 : P.underlying f1.type = some (.int .i64)) (hB : P.bytesOf e = 16)
    (h : DataW.Trod enc P W 0 (fun _ => true) true t (.slice a len cap) d ps) : ∃ l, YthhhmmildgijhaaGreatDoorSI.PairsAt W a len cap l ∧ len * 16 ≤ 140737488351232 ∧ ∀ i, i < l.length → (l.getD i (0, 0)).1 < 9223372036854775808 := by
  obtain ⟨fuel, hf⟩ := h
  rcases open_slice_pairs hu he ce o0 o1 c0 c1 hf with ⟨hcs, hx⟩ | ⟨x, ln, c, m, n, V0, V1, D0, D1, P0, P1, hcs, _, hl, hm, hmm, hx, hall⟩
  · simp [Value.cells] at hcs
    obtain ⟨rfl, rfl, rfl⟩ := hcs
    exact ⟨[], ⟨rfl, .inl ⟨rfl, rfl, rfl⟩⟩, by simp, fun i hi => absurd hi (by simp)⟩
  · simp [Value.cells] at hcs
    obtain ⟨rfl, rfl, rfl⟩ := hcs
    obtain ⟨hx, _⟩ := Prod.mk.inj hx
    subst hx
    simp only [if_true] at hmm
    subst hmm
    have key : ∀ i, i < m → ∃ p : Int × Int, W.cell? (x.add (i * 2)) = some (.int .i64 p.1) ∧ W.cell? (x.add (i * 2 + 1)) = some (.int .i64 p.2) ∧ p.1 < 9223372036854775808 := by
      intro i hi
      obtain ⟨h1, h2, h3, h4⟩ := hall i hi
      obtain ⟨z0, e0, _, hw0⟩ := DataW.trod_int u0 h3
      obtain ⟨z1, e1, _⟩ := DataW.trod_int u1 h4
      simp only [List.cons.injEq, and_true] at e0 e1
      simp only [Lit.wf, Bool.and_eq_true, decide_eq_true_eq] at hw0
      have hmax : IntKind.i64.max = 9223372036854775807 := by rfl
      exact ⟨(z0, z1), by rw [h1, e0], by rw [h2, e1], by rw [hmax] at hw0; simp only; omega⟩
    have ⟨f, hf⟩ : ∃ f : Nat → Int × Int, ∀ i, i < m → W.cell? (x.add (i * 2)) = some (.int .i64 (f i).1) ∧ W.cell? (x.add (i * 2 + 1)) = some (.int .i64 (f i).2) ∧ (f i).1 < 9223372036854775808 :=
      ⟨fun i => if hi : i < m then (key i hi).choose else (0, 0), fun i hi => by simp only [hi, dif_pos]; exact (key i hi).choose_spec⟩
    refine ⟨(List.range len).map f, ⟨by simp, .inr ⟨x, rfl, hl, fun h0 => ?_, fun j v hv => ?_⟩⟩, ?_, fun i hi => ?_⟩
    · have := (hf 0 h0).1
      unfold World.cell? at this
      split at this
      · split at this
        · cases this
        · rename_i hs
          have : (x.add (0 * 2)).spot = x.spot := by rfl
          rw [this] at hs
          cases hsp : x.spot with
          | none => rfl
          | some _ => rw [hsp] at hs; simp at hs
      · cases this
    · obtain ⟨i, hi, ⟨rfl, rfl⟩ | ⟨rfl, rfl⟩⟩ := YthhhmmildgijhaaGreatDoorSI.pairs_get _ _ _ hv
      · simp only [List.length_map, List.length_range] at hi
        rw [(hf i (by omega)).1]; simp
      · simp only [List.length_map, List.length_range] at hi
        rw [(hf i (by omega)).2.1]; simp
    · have z := sized_slice hsz ht hd hu
      rw [hB] at z
      simp only [List.length_map, List.length_range] at z
      have : reachBytes = 140737488351232 := by rfl
      have : len * 16 ≤ (len + (m - len)) * 16 := Nat.mul_le_mul_right _ (by omega)
      omega
    · simp only [List.length_map, List.length_range] at hi
      have := (hf i (by omega)).2.2
      rw [List.getD_eq_getElem?_getD, List.getElem?_map, List.getElem?_range hi]
      exact this

set_option maxRecDepth 100000 in
theorem contract (H : Type) (enc : TypeId × Value → H) (W : World) (base : Nat) (args : Array Value) (ds gs : List (DataW H)) (before : List MemPlace)
    (hval : ∀ (j : Nat) t v, Tryz.f3.params[j]? = some t → args[j]? = some v → Value.okWide Tryz.prog W .any base t v)
    (hW : DataW.Whole enc Tryz.prog Tryz.f3.params.toList Rows.exploreNextsSpec.vars false W args.toList ds gs before)
    (hsz : (DataW.weightsEach Tryz.prog (Tryz.f3.params.toList ++ Rows.exploreNextsSpec.plain.varTypes Tryz.prog) (ds ++ gs)).all (· ≤ reachBytes) = true)
    (hL : laidMetH Tryz.prog Rows.exploreNextsRow.laid W) (hS : W.ShapedOpen Tryz.prog) :
    Calls Tryz.prog 3 args W fun e W' => ∃ v, e = .returned v ∧ Rows.exploreNextsSpec.post enc Tryz.prog Tryz.f3 false true false false W args v W' := by
  have hW' := hW
  obtain ⟨p, q, hA0, hV, rfl, hfz, hnd⟩ := hW
  have hA : DataW.TrodAll enc Tryz.prog W 0 (fun _ => true) true Tryz.f3.params.toList args.toList ds p := hA0
  rw [Tryz.params3] at hA hval hsz
  obtain ⟨v0, vs0, d0, ds0, p0, q0, hargs, rfl, rfl, h0, r0⟩ := trodAll_cons hA
  obtain ⟨rfl, rfl, rfl⟩ := trodAll_nil r0
  obtain rfl : args = #[v0] := by cases args; simp_all
  obtain ⟨rfl, rfl⟩ := trodVars_none hV
  obtain ⟨a0, len0, cap0, rfl⟩ := okWide_slice Tryz.underlying22 (hval 0 22 v0 rfl rfl)
  have k0 := h0
  have lt0 : ∀ x ∈ p0, x.block < W.heap.size := by obtain ⟨m, hm⟩ := k0; exact DataW.trod_lt m _ _ _ hm
  obtain ⟨l0, w0, y0, b0⟩ := open_pairs_in hsz (j := 0) (t := 22) rfl rfl Tryz.underlying22 Tryz.underlying53 (by kernel_rfl) rfl rfl (by kernel_rfl) (by kernel_rfl) Tryz.underlying3 Tryz.underlying3 (by kernel_rfl) k0
  clear hA0 hsz
  have hl : laidMet Tryz.prog theList W := hL
  refine (Ex.law_calls3 W w0 y0 b0 (wakes_calls W hl hS)).mono fun e W' ⟨he, bel⟩ => ?_
  subst he
  exact ⟨_, rfl, _, _, _, [], _, [], hW', trodAll_mk1 (shut_bool Tryz.underlying4 _), (trodAll_cons_mk (Below.trod laidOut (by kernel_rfl) (of_decide_eq_true (by kernel_rfl)) k0 bel lt0) trodAll_mk0), rfl, bel.frame _, fun h => by cases h⟩

/-- 'There is an input that fits', where a variable holds a pointer. -/
theorem witness_ref {H : Type} {enc : TypeId × Value → H} {C : Checked} {os : Os} {f : FuncId} {fn : Func} {s : OpenSpec} {conds : List PathCond} {apart : Bool} {laid : List (String × DataW Unit)} (modest : Bool) (w0 : World) (args : Array Value) (hos : w0.os = os)
    (hv : (w0.forCall (fun _ _ => 0) ⟨#[], args, []⟩).variablesRefB C.prog = true)
    (hr : ((w0.forCall (fun _ _ => 0) ⟨#[], args, []⟩).heap.toList.drop C.prog.globals.size).take ((begin C.prog (fun _ _ => 0) default).world.heap.size - C.prog.globals.size) =
      (begin C.prog (fun _ _ => 0) default).world.heap.toList.drop C.prog.globals.size)
    (hok : Input.okWideB C.prog (w0.forCall (fun _ _ => 0) ⟨#[], args, []⟩) f ⟨#[], args, []⟩ = true)
    (hrow : s.preRow enc C.prog fn conds apart laid (w0.forCall (fun _ _ => 0) ⟨#[], args, []⟩).memory args) :
    ∃ (w : World) (tape : Tape) (i : Input), w.os = os ∧ (w.forCall tape i).Shaped C.prog ∧ i.vars = [] ∧ Input.okWide C.prog (w.forCall tape i) .any w.heap.size f i ∧
      s.preRow enc C.prog fn conds apart laid (w.forCall tape i).memory i.args ∧ ({ modest := modest } : Assume).holds C.prog (lone (Frame.enter C.prog f i.args .normal) [] (w.forCall tape i)) := by
  obtain ⟨w, tape, i, h1, h2, h3, h4, h5, h6, _⟩ := OpenSpec.witness_stopped_atRef (enc := enc) (C := C) (fn := fn) (s := s) (conds := conds) (apart := apart) (laid := laid) modest w0 args hos hv hr hok hrow (fun _ _ _ => 0)
  exact ⟨w, tape, i, h1, h2, h3, h4, h5, h6⟩

/-- A world for the witness: the settled one with two blocks more (the rows of unicode.White_Space; its table), the five variables as they are laid. -/
noncomputable def laidWorld (os : Os) : World :=
  let N := (World.settled Tryz.prog os).heap.size
  let w0 := World.holding Tryz.prog os ⟨#[.cells #[.int .u16 9, .int .u16 13, .int .u16 1, .int .u16 32, .int .u16 133, .int .u16 101, .int .u16 160, .int .u16 5760, .int .u16 5600, .int .u16 8192, .int .u16 8202, .int .u16 1, .int .u16 8232, .int .u16 8233, .int .u16 1, .int .u16 8239, .int .u16 8287, .int .u16 48, .int .u16 12288, .int .u16 12288, .int .u16 1] 466, .cells #[.slice (some ⟨N, 0, none⟩) 7 7, .slice none 0 0, .int .i64 2] 463], #[], []⟩
  let put (h : Array Obj) (g : Nat) (cs : Array Value) : Array Obj := h.modify g fun
    | .cells _ t frozen => .cells cs t frozen
    | o => o
  { w0 with heap := put (put (put (put (put w0.heap 0 (tz0.map (Value.int .u64)).toArray) 1 (tz1.map (Value.int .u8)).toArray) 2 (tz2.map (Value.int .u8)).toArray) 3 (tz3.map (Value.int .u8)).toArray) 4 #[.pointer (some ⟨N + 1, 0, none⟩)] }
theorem laid_met (os : Os) : laidMet Tryz.prog Rows.exploreNextsRow.laid ((laidWorld os).forCall (fun _ _ => 0) ⟨#[], #[.slice none 0 0], []⟩).memory :=
  laidMet_of_run3 10 (by kernel_rfl) (by kernel_rfl) (by kernel_rfl)
theorem reads (os : Os) {H : Type} (enc : TypeId × Value → H) : ∃ places, DataW.whole enc Tryz.prog ((laidWorld os).forCall (fun _ _ => 0) ⟨#[], #[.slice none 0 0], []⟩).memory Tryz.f3.params.toList Rows.exploreNextsSpec.vars false #[Value.slice none 0 0].toList 8 = some ([.nil], [], places) :=
  ⟨[], by kernel_rfl⟩

set_option maxRecDepth 100000 in
theorem lifted (os : Os) (started : os.Started) (H : Type) (enc : TypeId × Value → H) (F : Stop.Interp) :
    ReturnsInHanded {} Tryz.checked os 3 .any ((OpenSpec.ofChange Rows.exploreNextsSpec).preRow enc Tryz.prog Tryz.f3 Rows.exploreNextsRow.domain false Rows.exploreNextsRow.laid) (((OpenSpec.ofChange Rows.exploreNextsSpec).at F).post enc Tryz.prog Tryz.f3 false true false false) := by
  obtain ⟨places, hx⟩ := reads os enc
  refine returnsInHanded_of_row (C := Tryz.checked) (s := OpenSpec.ofChange Rows.exploreNextsSpec) own started (by kernel_rfl) Tryz.func3
    (witness_ref (enc := enc) (C := Tryz.checked) false (laidWorld os) #[.slice none 0 0] rfl (by kernel_rfl) (by kernel_rfl) (by kernel_rfl)
      (OpenSpec.preRow_of_cond 8 hx (by kernel_rfl) (fun k hk => by cases hk) (by kernel_rfl) (laid_met os))) ?_
  intro W base args ds gs before hval hW _ _ hsz hL hS _
  exact contract H enc W base args ds gs before hval hW hsz hL hS

end Go.Proofs.YthhhmmildgijhaaGreatDoor.exploreNexts
