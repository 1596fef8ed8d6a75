/- Rows of whole numbers of any kind that come in. -/
import Derived.Test.YtmnkmdfladbgdaaAI15
import Derived.ChangeSlices
import Derived.OpenShut
import Derived.ChangeOld
import Derived.ProofKit
import Derived.SizedLaws
import Derived.Test.YtmnkmdfladbgdaaAI18
set_option linter.unusedVariables false
set_option linter.unusedSimpArgs false
namespace Go.Proofs.YtmnkmdfladbgdaaAI
open Go Go.RowKit Go.ChangeShapes Go.WideShapes Go.ChangeAt

def intsK (k : IntKind) (l : List Int) : List Value := l.map (Value.int k)
theorem intsK_plain (k : IntKind) (l : List Int) : ∀ v ∈ intsK k l,plain v = true := by
  intro v hv
  obtain ⟨n,_,rfl⟩ := List.mem_map.1 hv
  rfl

/-- What a row of ints holds. -/
def IntsAtK (kk : IntKind) (W : World) (a : Option Addr) (len cap : Nat) (l : List Int) : Prop :=
  l.length = len ∧ (∀ n ∈ l,(Lit.int kk n).wf = true) ∧ ((a = none ∧ len = 0 ∧ cap = 0) ∨ ∃ x,a = some x ∧ len ≤ cap ∧ (0 < cap → x.spot = none) ∧ ∀ j v,(intsK kk l)[j]? = some v → W.cell? (x.add j) = some v)

theorem open_intsK_at {kk : IntKind} {H : Type} {enc : TypeId × Value → H} {P : Program} {W : World} {t e : TypeId} {a : Option Addr} {len cap : Nat} {d : DataW H} {ps : List MemPlace} {ts : List TypeId} {ds : List (DataW H)} {j : Nat}
    (hsz : (DataW.weightsEach P ts ds).all (· ≤ reachBytes) = true) (ht : ts[j]? = some t) (hd : ds[j]? = some d) (hu : P.underlying t = some (.slice e)) (he : P.underlying e = some (.int kk)) (hc : P.cellsOf e = 1) (hB : P.bytesOf e = 8)
    (h : DataW.Trod enc P W 0 (fun _ => true) true t (.slice a len cap) d ps) : ∃ l,IntsAtK kk W a len cap l ∧ len * 8 ≤ 140737488351232 ∧ dlen d = len := by
  obtain ⟨fuel,hf⟩ := h
  rcases open_ints hu he hc hf with ⟨hcs,hx⟩ | ⟨x,l,c,zs,hcs,_,hl,hm,hz,hx,hcell,hwf⟩
  · simp [Value.cells] at hcs
    obtain ⟨rfl,rfl,rfl⟩ := hcs
    obtain ⟨rfl,_⟩ := Prod.mk.inj hx
    exact ⟨[],⟨rfl,by simp,.inl ⟨rfl,rfl,rfl⟩⟩,by simp,rfl⟩
  · simp [Value.cells] at hcs
    obtain ⟨rfl,rfl,rfl⟩ := hcs
    obtain ⟨hx,_⟩ := Prod.mk.inj hx
    subst hx
    simp only [if_true] at hz
    have hll : (zs.take len).length = len := by rw [List.length_take,hz]; omega
    refine ⟨zs.take len,⟨hll,fun n hn => hwf n (List.mem_of_mem_take hn),.inr ⟨x,rfl,hl,fun h0 => ?_,fun j v hv => ?_⟩⟩,?_,?_⟩
    · have := hcell 0 (by omega)
      unfold World.cell? at this
      split at this
      · split at this
        · cases this
        · rename_i hs
          have : (x.add 0).spot = x.spot := by rfl
          rw [this] at hs
          cases hsp : x.spot with
          | none => rfl
          | some _ => rw [hsp] at hs; simp at hs
      · cases this
    · have hj : j < (intsK kk (zs.take len)).length := (List.getElem?_eq_some_iff.1 hv).1
      simp only [intsK,List.length_map] at hj
      have hjz : j < zs.length := by rw [List.length_take] at hj; omega
      have := hcell j hjz
      rw [this]
      simp only [intsK,List.getElem?_map] at hv
      rw [List.getElem?_take_of_lt (by rw [hll] at hj; exact hj),List.getElem?_eq_getElem hjz] at hv
      simp only [Option.map_some,Option.some.injEq] at hv
      rw [← hv,List.getD_eq_getElem?_getD,List.getElem?_eq_getElem hjz]
      rfl
    · have z := sized_slice hsz ht hd hu
      rw [hB] at z
      have : (lits kk (zs.take len) : List (DataW H)).length = len := by unfold lits; rw [List.length_map,hll]
      rw [this] at z
      have : reachBytes = 140737488351232 := by rfl
      have : len * 8 ≤ (len + (lits kk (zs.drop len) : List (DataW H)).length) * 8 := Nat.mul_le_mul_right _ (by omega)
      omega
    · show (lits kk (zs.take len) : List (DataW H)).length = len
      unfold lits; rw [List.length_map,hll]

/-- One argument more: a row of ints. -/
theorem arg_intsK {kk : IntKind} {h : Heap} {σ : Sig} {W : World} (hr : Rep W.heap.size (· < h.next) σ h.get W) (hro : AllRo h) (e : TypeId) {a : Option Addr} {len cap : Nat} {l : List Int} (hi : IntsAtK kk W a len cap l) :
    ∃ h' σ' v,Rep W.heap.size (· < h'.next) σ' h'.get W ∧ AllRo h' ∧ Keep (fun _ => False) h h' ∧ (∀ m,m < h.next → σ' m = σ m) ∧ VRep (· < h'.next) σ' v (.slice a len cap) ∧ Sl h' v 1 l.length (intsK kk l) ∧ Un v 1 ∧ ∀ m,nm v = some m → h.next ≤ m := by
  obtain ⟨hl,_,⟨rfl,rfl,rfl⟩ | ⟨x,rfl,hle,hsp,hcell⟩⟩ := hi
  · have hl0 : l = [] := List.length_eq_zero_iff.1 hl
    subst hl0
    obtain ⟨σ',h1,h2,h3,h4⟩ := arg_nil hr hro e 1
    refine ⟨_,σ',_,h1,h2,⟨Nat.le_succ _,fun m hm _ => ?_⟩,h3,h4,⟨rfl,.inl ⟨rfl,rfl⟩⟩,?_,?_⟩
    · rw [Heap.get_push,if_neg (Nat.ne_of_lt hm)]
    · intro a k c e; cases e
    · intro m e; cases e
  · subst hl
    obtain ⟨σ',h1,h2,h3,h4⟩ := arg_slice hr hro e 1 (cs := intsK kk l) hle (by simp [intsK]) (by omega) hcell (fun hne => hsp (by
      have : 0 < l.length := by cases l with | nil => exact absurd rfl hne | cons _ _ => simp
      omega)) (intsK_plain kk l) hsp
    refine ⟨_,σ',_,h1,h2,⟨Nat.le_succ _,fun m hm _ => ?_⟩,h3,h4,⟨by simp [intsK],.inr ⟨_,_,rfl,fun h0 => ?_⟩⟩,?_,?_⟩
    · rw [Heap.get_push,if_neg (Nat.ne_of_lt hm)]
    · refine ⟨intsK kk l,e,1,false,true,?_,?_⟩
      · have hne : intsK kk l ≠ [] := by cases l with | nil => simp at h0 | cons _ _ => simp [intsK]
        rw [Heap.get_push,if_pos rfl]; simp [argObj,hne]
      · rw [List.drop_zero,List.take_of_length_le (by simp [intsK])]
    · intro a k c e _; cases e; exact ⟨rfl,rfl⟩
    · intro m e; have := (nm_eq e).2; simp only at this; omega

/-! ### uint64 -/
def us (l : List Nat) : List Value := l.map fun (n : Nat) => Value.int .u64 (n : Int)
def fl (l : List Nat) : List Value := l.map fun n => Value.float .f64 n
def U64sAt (W : World) (a : Option Addr) (len cap : Nat) (l : List Nat) : Prop := (∀ n ∈ l,n < 18446744073709551616) ∧ IntsAtK .u64 W a len cap (l.map fun (n : Nat) => (n : Int))
theorem u64s_of {W : World} {a : Option Addr} {len cap : Nat} {l : List Int} (h : IntsAtK .u64 W a len cap l) : U64sAt W a len cap (l.map Int.toNat) := by
  have h2 := h.2.1
  have hr : ∀ n ∈ l,0 ≤ n ∧ n < 18446744073709551616 := fun n hn => by
    have := h2 n hn
    simp [Lit.wf,IntKind.min,IntKind.max,IntKind.signed,IntKind.bits] at this
    omega
  have e : (l.map Int.toNat).map (fun (n : Nat) => (n : Int)) = l := by
    rw [List.map_map]
    have : ∀ l : List Int,(∀ n ∈ l,0 ≤ n ∧ n < 18446744073709551616) → l.map ((fun n : Nat => (n : Int)) ∘ Int.toNat) = l := by
      intro l
      induction l with
      | nil => intro _; rfl
      | cons x l ih =>
        intro h
        rw [List.map_cons,ih fun n hn => h n (List.mem_cons_of_mem _ hn)]
        have := h x (List.mem_cons_self ..)
        congr 1
        simp only [Function.comp]
        omega
    exact this l hr
  refine ⟨fun n hn => ?_,by rw [e]; exact h⟩
  obtain ⟨x,hx,rfl⟩ := List.mem_map.1 hn
  have := hr x hx
  omega
theorem open_u64s_at {H : Type} {enc : TypeId × Value → H} {P : Program} {W : World} {t e : TypeId} {a : Option Addr} {len cap : Nat} {d : DataW H} {ps : List MemPlace} {ts : List TypeId} {ds : List (DataW H)} {j : Nat}
    (hsz : (DataW.weightsEach P ts ds).all (· ≤ reachBytes) = true) (ht : ts[j]? = some t) (hd : ds[j]? = some d) (hu : P.underlying t = some (.slice e)) (he : P.underlying e = some (.int .u64)) (hc : P.cellsOf e = 1) (hB : P.bytesOf e = 8)
    (h : DataW.Trod enc P W 0 (fun _ => true) true t (.slice a len cap) d ps) : ∃ l,U64sAt W a len cap l ∧ len * 8 ≤ 140737488351232 ∧ dlen d = len := by
  obtain ⟨l,h1,h2,h3⟩ := open_intsK_at hsz ht hd hu he hc hB h
  exact ⟨_,u64s_of h1,h2,h3⟩
theorem arg_u64s {h : Heap} {σ : Sig} {W : World} (hr : Rep W.heap.size (· < h.next) σ h.get W) (hro : AllRo h) (e : TypeId) {a : Option Addr} {len cap : Nat} {l : List Nat} (hi : U64sAt W a len cap l) :
    ∃ h' σ' v,Rep W.heap.size (· < h'.next) σ' h'.get W ∧ AllRo h' ∧ Keep (fun _ => False) h h' ∧ (∀ m,m < h.next → σ' m = σ m) ∧ VRep (· < h'.next) σ' v (.slice a len cap) ∧ Sl h' v 1 l.length (us l) ∧ Un v 1 ∧ ∀ m,nm v = some m → h.next ≤ m := by
  obtain ⟨h',σ',v,a1,a2,a3,a4,a5,a6,a7,a8⟩ := arg_intsK hr hro e hi.2
  refine ⟨h',σ',v,a1,a2,a3,a4,a5,?_,a7,a8⟩
  have e1 : intsK .u64 (l.map fun (n : Nat) => (n : Int)) = us l := by simp [intsK,us]
  rw [e1,List.length_map] at a6
  exact a6
theorem u64s_len {W : World} {a : Option Addr} {len cap : Nat} {l : List Nat} (h : U64sAt W a len cap l) : l.length = len := by have := h.2.1; rwa [List.length_map] at this
theorem sl_u64 {h : Heap} {v : Value} {k : Nat} {l : List Nat} (hs : Sl h v 1 k (us l)) {i : Nat} (hi : i < k) :
    ∃ a n c e s gr ro,v = .slice (some a) k n ∧ h.get a.block = some (.cells c e s gr ro) ∧ c[a.off + i]? = some (.int .u64 (l.getD i 0 : Nat)) := by
  have hs0 := hs
  obtain ⟨hl,⟨rfl,rfl⟩ | ⟨a,n,rfl,_⟩⟩ := hs0
  · omega
  · obtain ⟨c,e,s,gr,ro,hg,_,_,hget⟩ := hs.fit (by omega) (by omega)
    refine ⟨a,n,c,e,s,gr,ro,rfl,hg,?_⟩
    rw [hget i (by omega)]
    have hi' : i < l.length := by simp only [us,List.length_map] at hl; omega
    simp [us,List.getElem?_eq_getElem hi']
theorem sl_fl {h : Heap} {v : Value} {k : Nat} {l : List Nat} (hs : Sl h v 1 k (fl l)) {i : Nat} (hi : i < k) :
    ∃ a n c e s gr ro,v = .slice (some a) k n ∧ h.get a.block = some (.cells c e s gr ro) ∧ c[a.off + i]? = some (.float .f64 (l.getD i 0)) := by
  have hs0 := hs
  obtain ⟨hl,⟨rfl,rfl⟩ | ⟨a,n,rfl,_⟩⟩ := hs0
  · omega
  · obtain ⟨c,e,s,gr,ro,hg,_,_,hget⟩ := hs.fit (by omega) (by omega)
    refine ⟨a,n,c,e,s,gr,ro,rfl,hg,?_⟩
    rw [hget i (by omega)]
    have hi' : i < l.length := by simp only [fl,List.length_map] at hl; omega
    simp [fl,List.getElem?_eq_getElem hi']
end Go.Proofs.YtmnkmdfladbgdaaAI
