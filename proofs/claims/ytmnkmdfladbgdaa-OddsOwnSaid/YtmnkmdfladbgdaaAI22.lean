/- Rows of outcomes as the interpreter holds them. -/
import Derived.Test.YtmnkmdfladbgdaaAI19
import Derived.Deep.Strs
set_option linter.unusedVariables false
set_option linter.unusedSimpArgs false
namespace Go.Proofs.YtmnkmdfladbgdaaAI
open Go Go.RowKit Go.ChangeShapes Go.WideShapes Go.ChangeAt Go.Deep

def strs (l : List ByteArray) : List Value := l.map .string
theorem strs_len (l : List ByteArray) : (strs l).length = l.length := by simp [strs]
theorem strs_plain (l : List ByteArray) : ∀ v ∈ strs l,plain v = true := by
  intro v hv
  obtain ⟨s,_,rfl⟩ := List.mem_map.1 hv
  rfl
/-- What a row of strings holds. -/
def StrsAt (W : World) (a : Option Addr) (len cap : Nat) (l : List ByteArray) : Prop :=
  l.length = len ∧ ((a = none ∧ len = 0 ∧ cap = 0) ∨ ∃ x,a = some x ∧ len ≤ cap ∧ (0 < cap → x.spot = none) ∧ ∀ j v,(strs l)[j]? = some v → W.cell? (x.add j) = some v)
theorem spot_of {W : World} {x : Addr} {v : Value} (h : W.cell? (x.add 0) = some v) : x.spot = none := by
  unfold World.cell? at h
  split at h
  · split at h
    · cases h
    · rename_i hs
      have : (x.add 0).spot = x.spot := by rfl
      rw [this] at hs
      cases hsp : x.spot with
      | none => rfl
      | some _ => rw [hsp] at hs; simp at hs
  · cases h
theorem open_strs_at {H : Type} {enc : TypeId × Value → H} {P : Program} {W : World} {t e : TypeId} {v : Value} {d : DataW H} {ps : List MemPlace} {fuel : Nat}
    (hsz : ∀ n ∈ d.weights P t,n ≤ reachBytes) (hu : P.underlying t = some (.slice e)) (he : P.underlying e = some .string) (hc : P.cellsOf e = 1) (hB : P.bytesOf e = 16)
    (h : DataW.trod enc P W 0 (fun _ => true) true fuel t [v] = some (d,ps)) : ∃ a len cap l,v = .slice a len cap ∧ StrsAt W a len cap l ∧ len * 16 ≤ 140737488351232 := by
  rcases open_strs hu he hc h with ⟨hcs,hx⟩ | ⟨x,ln,c,m,Sx,hcs,_,hl,hm,hmm,hx,hall⟩
  · simp only [List.cons.injEq,and_true] at hcs
    exact ⟨none,0,0,[],hcs,⟨rfl,.inl ⟨rfl,rfl,rfl⟩⟩,by simp⟩
  · simp only [List.cons.injEq,and_true] at hcs
    obtain ⟨hx,_⟩ := Prod.mk.inj hx
    subst hx
    simp only [if_true] at hmm
    subst hmm
    refine ⟨some x,ln,m,(List.range ln).map Sx,hcs,⟨by simp,.inr ⟨x,rfl,hl,fun h0 => spot_of (hall 0 h0).1,fun j v hv => ?_⟩⟩,?_⟩
    · simp only [strs,List.map_map,List.getElem?_map] at hv
      by_cases hj : j < ln
      · rw [List.getElem?_range hj] at hv
        simp only [Option.map_some,Option.some.injEq] at hv
        rw [(hall j (by omega)).1,← hv]; rfl
      · rw [List.getElem?_eq_none (by simp; omega)] at hv
        cases hv
    · have := hsz (((List.range ln).map fun i => (DataW.lit (.string (Sx i).data.toList) : DataW H)).length + ((List.range (m - ln)).map fun j => (DataW.lit (.string (Sx (ln + j)).data.toList) : DataW H)).length |>.mul (P.bytesOf e)) (by
        rw [DataW.weights,hu]
        exact List.mem_cons_self ..)
      rw [hB] at this
      simp only [List.length_map,List.length_range] at this
      have hr : reachBytes = 140737488351232 := by rfl
      have h2 : (ln + (m - ln)).mul 16 = (ln + (m - ln)) * 16 := rfl
      rw [h2,hr] at this
      have : ln * 16 ≤ (ln + (m - ln)) * 16 := Nat.mul_le_mul_right _ (by omega)
      omega
/-- An outcome. -/
structure Oc where
  e : Int
  en : Int
  tx : List ByteArray
  st : Int
  tr : List ByteArray
  pk : List (Int × Int)
def oc0 : Oc := ⟨0,0,[],0,[],[]⟩
/-- One outcome at a place. -/
def OcAt (W : World) (x : Addr) (i : Nat) (o : Oc) : Prop :=
  ∃ a1 l1 c1 a2 l2 c2 a3 l3 c3,W.cell? (x.add (i * 6)) = some (.int .i64 o.e) ∧ W.cell? (x.add (i * 6 + 1)) = some (.int .i64 o.en) ∧ W.cell? (x.add (i * 6 + 2)) = some (.slice a1 l1 c1) ∧ W.cell? (x.add (i * 6 + 3)) = some (.int .i64 o.st) ∧
    W.cell? (x.add (i * 6 + 4)) = some (.slice a2 l2 c2) ∧ W.cell? (x.add (i * 6 + 5)) = some (.slice a3 l3 c3) ∧ StrsAt W a1 l1 c1 o.tx ∧ StrsAt W a2 l2 c2 o.tr ∧ PairsAt W a3 l3 c3 o.pk ∧ l1 * 16 ≤ 140737488351232 ∧ l2 * 16 ≤ 140737488351232 ∧ l3 * 16 ≤ 140737488351232
def OcsAt (W : World) (a : Option Addr) (len cap : Nat) (l : List Oc) : Prop :=
  l.length = len ∧ ((a = none ∧ len = 0 ∧ cap = 0) ∨ ∃ x,a = some x ∧ len ≤ cap ∧ (0 < cap → x.spot = none) ∧ ∀ i o,l[i]? = some o → OcAt W x i o)
theorem mem_all {H : Type} {P : Program} {e : TypeId} {n : Nat} {d : DataW H} : ∀ {l : List (DataW H)},d ∈ l → n ∈ d.weights P e → n ∈ DataW.weightsAll P e l
  | x :: l,hd,hn => by
    rw [DataW.weightsAll,List.mem_append]
    rcases List.mem_cons.1 hd with rfl | hd
    · exact .inl hn
    · exact .inr (mem_all hd hn)
theorem open_ocs_at {H : Type} {enc : TypeId × Value → H} {P : Program} {W : World} {t e t2 t4 t5 es ep : TypeId} {f0 f1 f2 f3 f4 f5 g0 g1 : Field} {a : Option Addr} {len cap : Nat} {d : DataW H} {ps : List MemPlace} {ts : List TypeId} {ds : List (DataW H)} {j : Nat}
    (hsz : (DataW.weightsEach P ts ds).all (· ≤ reachBytes) = true) (ht : ts[j]? = some t) (hd : ds[j]? = some d) (hu : P.underlying t = some (.slice e)) (he : P.underlying e = some (.struct #[f0,f1,f2,f3,f4,f5])) (ce : P.cellsOf e = 6)
    (o0 : f0.offset = 0) (o1 : f1.offset = 1) (o2 : f2.offset = 2) (o3 : f3.offset = 3) (o4 : f4.offset = 4) (o5 : f5.offset = 5)
    (c0 : P.cellsOf f0.type = 1) (c1 : P.cellsOf f1.type = 1) (c2 : P.cellsOf f2.type = 1) (c3 : P.cellsOf f3.type = 1) (c4 : P.cellsOf f4.type = 1) (c5 : P.cellsOf f5.type = 1)
    (u0 : P.underlying f0.type = some (.int .i64)) (u1 : P.underlying f1.type = some (.int .i64)) (u3 : P.underlying f3.type = some (.int .i64)) (u2 : P.underlying f2.type = some (.slice es)) (u4 : P.underlying f4.type = some (.slice es)) (u5 : P.underlying f5.type = some (.slice ep))
    (us : P.underlying es = some .string) (cs : P.cellsOf es = 1) (bs : P.bytesOf es = 16)
    (up : P.underlying ep = some (.struct #[g0,g1])) (cp : P.cellsOf ep = 2) (p0 : g0.offset = 0) (p1 : g1.offset = 1) (q0 : P.cellsOf g0.type = 1) (q1 : P.cellsOf g1.type = 1) (r0 : P.underlying g0.type = some (.int .i64)) (r1 : P.underlying g1.type = some (.int .i64)) (bp : P.bytesOf ep = 16)
    (hB : P.bytesOf e = 96)
    (h : DataW.Trod enc P W 0 (fun _ => true) true t (.slice a len cap) d ps) : ∃ l,OcsAt W a len cap l ∧ len * 96 ≤ 140737488351232 ∧ dlen d = len := by
  obtain ⟨fuel,hf⟩ := h
  have hz : ∀ n ∈ d.weights P t,n ≤ reachBytes := fun n hn => by
    have := List.all_eq_true.1 hsz _ (DataW.weights_mem_each ht hd n hn)
    simpa using this
  rcases open_slice hu hf with ⟨hcs,hx⟩ | ⟨x,ln,c,m,n,D,Pl,hcs,_,hl,hm,hmm,hx,hall⟩
  · simp [Value.cells] at hcs
    obtain ⟨rfl,rfl,rfl⟩ := hcs
    obtain ⟨rfl,_⟩ := Prod.mk.inj hx
    exact ⟨[],⟨rfl,.inl ⟨rfl,rfl,rfl⟩⟩,by simp,rfl⟩
  · simp [Value.cells] at hcs
    obtain ⟨rfl,rfl,rfl⟩ := hcs
    obtain ⟨hx,_⟩ := Prod.mk.inj hx
    subst hx
    simp only [if_true] at hmm
    subst hmm
    rw [ce] at hall
    have wz : ∀ i,i < len → ∀ n ∈ (D i).weights P e,n ≤ reachBytes := fun i hi n hn => hz n (by
      rw [DataW.weights,hu]
      exact List.mem_cons_of_mem _ (List.mem_append.2 (.inl (mem_all (List.mem_map.2 ⟨i,List.mem_range.2 hi,rfl⟩) hn))))
    have key : ∀ i,i < len → ∃ o,OcAt W x i o := by
      intro i hi
      obtain ⟨cs',h1,h2⟩ := hall i (by omega)
      obtain ⟨_,hlen,hcell⟩ := World.cells?_some h1
      obtain ⟨xs,k,hk,hxy,_,hxl,hff⟩ := DataW.trod_struct he h2
      have wi := wz i hi
      match xs,hxl,cs',hlen with
      | [y0,y1,y2,y3,y4,y5],_,[v0,v1,v2,v3,v4,v5],_ =>
        have z0 := hff 0 f0 rfl
        have z1 := hff 1 f1 rfl
        have z2 := hff 2 f2 rfl
        have z3 := hff 3 f3 rfl
        have z4 := hff 4 f4 rfl
        have z5 := hff 5 f5 rfl
        simp [o0,o1,o2,o3,o4,o5,c0,c1,c2,c3,c4,c5] at z0 z1 z2 z3 z4 z5
        simp only [Prod.mk.injEq] at hxy
        have hw : ∀ (j : Nat) (t' : TypeId) (d' : DataW H),([f0,f1,f2,f3,f4,f5].map (·.type))[j]? = some t' → [y0.1,y1.1,y2.1,y3.1,y4.1,y5.1][j]? = some d' → ∀ n ∈ d'.weights P t',n ≤ reachBytes := fun j t' d' e1 e2 n hn => wi n (by
          rw [hxy.1,DataW.weights,he]
          exact DataW.weights_mem_each (j := j) e1 e2 n hn)
        obtain ⟨w0,e0,_⟩ := DataW.trod_int u0 z0
        obtain ⟨w1,e1,_⟩ := DataW.trod_int u1 z1
        obtain ⟨w3,e3,_⟩ := DataW.trod_int u3 z3
        obtain ⟨a1,l1,c1,s1,e2,S1,b1⟩ := open_strs_at (hw 2 f2.type y2.1 rfl rfl) u2 us cs bs z2
        obtain ⟨a2,l2,c2,s2,e4,S2,b2⟩ := open_strs_at (hw 4 f4.type y4.1 rfl rfl) u4 us cs bs z4
        simp only [List.cons.injEq,and_true] at e0 e1 e3
        have hs5 : ∃ a3 l3 c3,v5 = .slice a3 l3 c3 := by
          rcases open_slice u5 z5 with ⟨hcs,_⟩ | ⟨x',ln',c',_,_,_,_,hcs,_⟩
          · simp only [List.cons.injEq,and_true] at hcs; exact ⟨_,_,_,hcs⟩
          · simp only [List.cons.injEq,and_true] at hcs; exact ⟨_,_,_,hcs⟩
        obtain ⟨a3,l3,c3,e5⟩ := hs5
        subst e0 e1 e2 e3 e4 e5
        obtain ⟨s3,S3,b3,_⟩ := open_pairs_at (ts := [f5.type]) (ds := [y5.1]) (j := 0) (by
            rw [List.all_eq_true]
            intro n hn
            simp only [DataW.weightsEach,List.append_nil] at hn
            exact decide_eq_true (hw 5 f5.type y5.1 rfl rfl n hn)) rfl rfl u5 up cp p0 p1 q0 q1 r0 r1 bp ⟨_,z5⟩
        have d0 := hcell 0 (by omega)
        have d1 := hcell 1 (by omega)
        have d2 := hcell 2 (by omega)
        have d3 := hcell 3 (by omega)
        have d4 := hcell 4 (by omega)
        have d5 := hcell 5 (by omega)
        rw [add_add] at d0 d1 d2 d3 d4 d5
        exact ⟨⟨w0,w1,s1,w3,s2,s3⟩,a1,l1,c1,a2,l2,c2,a3,l3,c3,by simpa using d0,by simpa using d1,by simpa using d2,by simpa using d3,by simpa using d4,by simpa using d5,S1,S2,S3,b1,b2,b3⟩
    have ⟨f,hf'⟩ : ∃ f : Nat → Oc,∀ i,i < len → OcAt W x i (f i) :=
      ⟨fun i => if hi : i < len then (key i hi).choose else oc0,fun i hi => by simp only [hi,dif_pos]; exact (key i hi).choose_spec⟩
    refine ⟨(List.range len).map f,⟨by simp,.inr ⟨x,rfl,hl,fun h0 => ?_,fun i o ho => ?_⟩⟩,?_,by simp [dlen]⟩
    · obtain ⟨cs',h1,h2⟩ := hall 0 (by omega)
      obtain ⟨_,hlen,hcell⟩ := World.cells?_some h1
      have d0 := hcell 0 (by omega)
      rw [add_add] at d0
      rw [List.getElem?_eq_getElem (by omega)] at d0
      exact spot_of d0
    · rw [List.getElem?_map] at ho
      by_cases hi : i < len
      · rw [List.getElem?_range hi] at ho
        simp only [Option.map_some,Option.some.injEq] at ho
        rw [← ho]; exact hf' i hi
      · rw [List.getElem?_eq_none (by simp; omega)] at ho
        cases ho
    · have z := sized_slice hsz ht hd hu
      rw [hB] at z
      simp only [List.length_map,List.length_range] at z
      have : reachBytes = 140737488351232 := by rfl
      have : len * 96 ≤ (len + (m - len)) * 96 := Nat.mul_le_mul_right _ (by omega)
      omega
end Go.Proofs.YtmnkmdfladbgdaaAI

set_option linter.unusedVariables false
set_option linter.unusedSimpArgs false
namespace Go.Proofs.YtmnkmdfladbgdaaAI
open Go Go.RowKit Go.ChangeShapes Go.WideShapes Go.ChangeAt Go.Deep

/-- One argument more: a slice whose cells are told by others. -/
theorem arg_sliceV {h : Heap} {σ : Sig} {W : World} (hr : Rep W.heap.size (· < h.next) σ h.get W) (hro : AllRo h) (e esz : Nat) {a : Addr} {len cap : Nat} {cs ws : List Value} (hl : len ≤ cap) (hc : cs.length = len * esz) (hcw : ws.length = cs.length) (hz : 0 < esz)
    (hcell : ∀ (j : Nat) (v : Value),ws[j]? = some v → W.cell? (a.add j) = some v) (hsp : cs ≠ [] → a.spot = none) (hp : ∀ (j : Nat) (u v : Value),cs[j]? = some u → ws[j]? = some v → VRep (· < h.next) σ u v) (hsp2 : 0 < cap → a.spot = none) :
    ∃ σ',Rep W.heap.size (· < (h.push (argObj e esz cs)).next) σ' (h.push (argObj e esz cs)).get W ∧ AllRo (h.push (argObj e esz cs)) ∧ (∀ m,m < h.next → σ' m = σ m) ∧
      VRep (· < (h.push (argObj e esz cs)).next) σ' (argSlice h.next esz (some len)) (.slice (some a) len cap) := by
  refine ⟨σ.upd h.next ⟨a.block,a.off,a.off + cap * esz⟩,hr.push _ _ ?_,hro.push _,fun m hm => Sig.upd_ne σ _ (Nat.ne_of_lt hm),?_⟩
  · intro c e' s hx
    split at hx
    · cases hx
    · rename_i hne
      simp only [Option.some.injEq,Prod.mk.injEq] at hx
      obtain ⟨rfl,rfl,rfl⟩ := hx
      have hsp := hsp hne
      obtain ⟨b,o,sp⟩ := a
      simp only at hsp
      subst hsp
      have hpos : 0 < cs.length := List.length_pos_iff.2 hne
      have h0 := hcell 0 ws[0] (List.getElem?_eq_getElem (by omega))
      rw [add_at] at h0
      have hob : ∃ C t fr,W.heap[b]? = some (.cells C t fr) := by
        unfold World.cell? at h0
        split at h0
        · rename_i C t fr hh; exact ⟨C,t,fr,hh⟩
        · cases h0
      obtain ⟨C,t,fr,hh⟩ := hob
      have hcs : ∀ j v,ws[j]? = some v → C[o + j]? = some v := fun j v hv => by
        have := hcell j v hv
        rw [add_at,cell_at hh] at this
        exact this
      have hfit : o + cs.length ≤ C.size := by
        have h1 := hcs (ws.length - 1) ws[ws.length - 1] (List.getElem?_eq_getElem (by omega))
        have := (Array.getElem?_eq_some_iff.1 h1).1
        omega
      refine ⟨(Array.getElem?_eq_some_iff.1 hh).1,C,t,fr,hh,hfit,?_⟩
      refine .of (by simp; omega) fun j v v' e1 e2 => ?_
      have hj : j < cs.length := (List.getElem?_eq_some_iff.1 e1).1
      have hwj := List.getElem?_eq_getElem (l := ws) (i := j) (by omega)
      rw [List.getElem?_take_of_lt hj,List.getElem?_drop,Array.getElem?_toList,hcs j _ hwj] at e2
      cases e2
      exact hp j v _ e1 hwj
  · refine .sliceU (Nat.lt_succ_self _) hl (fun h0 => ?_) ?_
    · rw [Sig.upd_same]
      have := hsp2 h0
      obtain ⟨b,o,sp⟩ := a
      simp only at this
      subst this
      simp
    · rw [Sig.upd_same]; simp
/-- One argument more: a row of strings. -/
theorem arg_strs {h : Heap} {σ : Sig} {W : World} (hr : Rep W.heap.size (· < h.next) σ h.get W) (hro : AllRo h) (e : TypeId) {a : Option Addr} {len cap : Nat} {l : List ByteArray} (hi : StrsAt W a len cap l) :
    ∃ h' σ' v,Rep W.heap.size (· < h'.next) σ' h'.get W ∧ AllRo h' ∧ Keep (fun _ => False) h h' ∧ (∀ m,m < h.next → σ' m = σ m) ∧ VRep (· < h'.next) σ' v (.slice a len cap) ∧ Sl h' v 1 l.length (strs l) := by
  obtain ⟨hl,⟨rfl,rfl,rfl⟩ | ⟨x,rfl,hle,hsp,hcell⟩⟩ := hi
  · have hl0 : l = [] := List.length_eq_zero_iff.1 hl
    subst hl0
    obtain ⟨σ',h1,h2,h3,h4⟩ := arg_nil hr hro e 1
    refine ⟨_,σ',_,h1,h2,⟨Nat.le_succ _,fun m hm _ => ?_⟩,h3,h4,⟨rfl,.inl ⟨rfl,rfl⟩⟩⟩
    rw [Heap.get_push,if_neg (Nat.ne_of_lt hm)]
  · subst hl
    have hpl := strs_len l
    obtain ⟨σ',h1,h2,h3,h4⟩ := arg_slice hr hro e 1 (cs := strs l) hle (by omega) (by omega) hcell (fun hne => hsp (by
      have : 0 < l.length := by cases l with | nil => exact absurd rfl hne | cons _ _ => simp
      omega)) (strs_plain l) hsp
    refine ⟨_,σ',_,h1,h2,⟨Nat.le_succ _,fun m hm _ => ?_⟩,h3,h4,⟨by omega,.inr ⟨_,_,rfl,fun h0 => ?_⟩⟩⟩
    · rw [Heap.get_push,if_neg (Nat.ne_of_lt hm)]
    · refine ⟨strs l,e,1,false,true,?_,?_⟩
      · have hne : strs l ≠ [] := fun e => by rw [e] at hpl; simp at hpl; omega
        rw [Heap.get_push,if_pos rfl]; simp [argObj,hne]
      · rw [List.drop_zero,List.take_of_length_le (by omega)]
def oc6 (o : Oc) (v : Value × Value × Value) : List Value := [.int .i64 o.e,.int .i64 o.en,v.1,.int .i64 o.st,v.2.1,v.2.2]
/-- Outcomes' cells: what their rows are is told beside. -/
def ocs : List Oc → List (Value × Value × Value) → List Value
  | o :: l,v :: vs => oc6 o v ++ ocs l vs
  | _,_ => []
theorem ocs_len : ∀ {l : List Oc} {vs : List (Value × Value × Value)},vs.length = l.length → (ocs l vs).length = l.length * 6
  | [],vs,h => by cases vs <;> simp [ocs]
  | o :: l,[],h => by simp at h
  | o :: l,v :: vs,h => by
    have := ocs_len (l := l) (vs := vs) (by simpa using h)
    simp only [ocs,List.length_append,this,oc6,List.length_cons,List.length_nil]; omega
def Nest1 (h : Heap) (o : Oc) (v : Value × Value × Value) : Prop := Sl h v.1 1 o.tx.length (strs o.tx) ∧ Sl h v.2.1 1 o.tr.length (strs o.tr) ∧ Sl h v.2.2 2 o.pk.length (pairs o.pk)
theorem Nest1.keep {h h' : Heap} {o : Oc} {v : Value × Value × Value} (hn : Nest1 h o v) (hk : Keep (fun _ => False) h h') : Nest1 h' o v :=
  ⟨hn.1.keep hk fun _ _ x => x,hn.2.1.keep hk fun _ _ x => x,hn.2.2.keep hk fun _ _ x => x⟩
def Nest (h : Heap) (l : List Oc) (vs : List (Value × Value × Value)) : Prop := ∀ (i : Nat) (o : Oc) (v : Value × Value × Value),l[i]? = some o → vs[i]? = some v → Nest1 h o v
theorem Nest.keep {h h' : Heap} {l : List Oc} {vs : List (Value × Value × Value)} (hn : Nest h l vs) (hk : Keep (fun _ => False) h h') : Nest h' l vs := fun i o v e1 e2 => (hn i o v e1 e2).keep hk
def SmallOc (o : Oc) : Prop := o.tx.length * 16 ≤ 140737488351232 ∧ o.tr.length * 16 ≤ 140737488351232 ∧ o.pk.length * 16 ≤ 140737488351232
theorem arg_ocs_go {W : World} (x : Addr) (e1 e2 : TypeId) : ∀ (l : List Oc) (i0 : Nat) {h : Heap} {σ : Sig} (hr : Rep W.heap.size (· < h.next) σ h.get W) (hro : AllRo h) (hat : ∀ i o,l[i]? = some o → OcAt W x (i0 + i) o),
    ∃ h' σ' vs ws,Rep W.heap.size (· < h'.next) σ' h'.get W ∧ AllRo h' ∧ Keep (fun _ => False) h h' ∧ (∀ m,m < h.next → σ' m = σ m) ∧ List.length vs = l.length ∧ List.length ws = l.length * 6 ∧
      (∀ (j : Nat) (w : Value),ws[j]? = some w → W.cell? (x.add (i0 * 6 + j)) = some w) ∧ (∀ (j : Nat) (u w : Value),(ocs l vs)[j]? = some u → ws[j]? = some w → VRep (· < h'.next) σ' u w) ∧ Nest h' l vs := by
  intro l
  induction l with
  | nil =>
    intro i0 h σ hr hro _
    exact ⟨h,σ,[],[],hr,hro,⟨Nat.le_refl _,fun _ _ _ => rfl⟩,fun _ _ => rfl,rfl,rfl,fun j w e => by simp at e,fun j u w e => by simp [ocs] at e,fun i o v e => by simp at e⟩
  | cons o l ih =>
    intro i0 h σ hr hro hat
    obtain ⟨a1,l1,c1,a2,l2,c2,a3,l3,c3,d0,d1,d2,d3,d4,d5,S1,S2,S3,_⟩ := hat 0 o rfl
    rw [Nat.add_zero] at d0 d1 d2 d3 d4 d5
    obtain ⟨h1,σ1,v1,r1,o1,k1,g1,V1,s1⟩ := arg_strs hr hro e1 S1
    obtain ⟨h2,σ2,v2,r2,o2,k2,g2,V2,s2⟩ := arg_strs r1 o1 e1 S2
    obtain ⟨h3,σ3,v3,r3,o3,k3,g3,V3,s3,_⟩ := arg_pairs r2 o2 e2 S3
    obtain ⟨h',σ',vs,ws,r',o',k',g',hlv,hlw,hcell,hV,hN⟩ := ih (i0 + 1) r3 o3 (fun i o' e => by
      have := hat (i + 1) o' (by simpa using e)
      rwa [show i0 + 1 + i = i0 + (i + 1) by omega])
    have kk3 := k1.trans (k2.trans k3)
    have V1' := V1.mono (D' := (· < h'.next)) (σ' := σ') (fun n hn => Nat.lt_of_lt_of_le hn (k2.trans (k3.trans k')).1) (fun n hn => (g' n (Nat.lt_of_lt_of_le hn (k2.trans k3).1)).trans ((g3 n (Nat.lt_of_lt_of_le hn k2.1)).trans (g2 n hn)))
    have V2' := V2.mono (D' := (· < h'.next)) (σ' := σ') (fun n hn => Nat.lt_of_lt_of_le hn (k3.trans k').1) (fun n hn => (g' n (Nat.lt_of_lt_of_le hn k3.1)).trans (g3 n hn))
    have V3' := V3.mono (D' := (· < h'.next)) (σ' := σ') (fun n hn => Nat.lt_of_lt_of_le hn k'.1) (fun n hn => g' n hn)
    refine ⟨h',σ',(v1,v2,v3) :: vs,[.int .i64 o.e,.int .i64 o.en,.slice a1 l1 c1,.int .i64 o.st,.slice a2 l2 c2,.slice a3 l3 c3] ++ ws,r',o',kk3.trans k',fun m hm => ?_,by simp [hlv],by simp [hlw]; omega,fun j w e => ?_,fun j u w e e' => ?_,fun i o' v e e' => ?_⟩
    · rw [g' m (Nat.lt_of_lt_of_le hm kk3.1),g3 m (Nat.lt_of_lt_of_le hm (k1.trans k2).1),g2 m (Nat.lt_of_lt_of_le hm k1.1),g1 m hm]
    · match j,e with
      | 0,e => simp only [List.cons_append,List.getElem?_cons_zero,Option.some.injEq] at e; rw [← e]; exact d0
      | 1,e => simp only [List.cons_append,List.getElem?_cons_succ,List.getElem?_cons_zero,Option.some.injEq] at e; rw [← e]; exact d1
      | 2,e => simp only [List.cons_append,List.getElem?_cons_succ,List.getElem?_cons_zero,Option.some.injEq] at e; rw [← e]; exact d2
      | 3,e => simp only [List.cons_append,List.getElem?_cons_succ,List.getElem?_cons_zero,Option.some.injEq] at e; rw [← e]; exact d3
      | 4,e => simp only [List.cons_append,List.getElem?_cons_succ,List.getElem?_cons_zero,Option.some.injEq] at e; rw [← e]; exact d4
      | 5,e => simp only [List.cons_append,List.getElem?_cons_succ,List.getElem?_cons_zero,Option.some.injEq] at e; rw [← e]; exact d5
      | j + 6,e =>
        simp only [List.cons_append,List.getElem?_cons_succ,List.nil_append] at e
        have := hcell j w e
        rwa [show (i0 + 1) * 6 + j = i0 * 6 + (j + 6) by omega] at this
    · simp only [ocs,oc6,List.cons_append,List.nil_append] at e
      match j,e,e' with
      | 0,e,e' =>
        simp only [List.cons_append,List.getElem?_cons_zero,Option.some.injEq] at e e'
        rw [← e,← e']; exact .int _ _
      | 1,e,e' =>
        simp only [List.cons_append,List.getElem?_cons_succ,List.getElem?_cons_zero,Option.some.injEq] at e e'
        rw [← e,← e']; exact .int _ _
      | 2,e,e' =>
        simp only [List.cons_append,List.getElem?_cons_succ,List.getElem?_cons_zero,Option.some.injEq] at e e'
        rw [← e,← e']; exact V1'
      | 3,e,e' =>
        simp only [List.cons_append,List.getElem?_cons_succ,List.getElem?_cons_zero,Option.some.injEq] at e e'
        rw [← e,← e']; exact .int _ _
      | 4,e,e' =>
        simp only [List.cons_append,List.getElem?_cons_succ,List.getElem?_cons_zero,Option.some.injEq] at e e'
        rw [← e,← e']; exact V2'
      | 5,e,e' =>
        simp only [List.cons_append,List.getElem?_cons_succ,List.getElem?_cons_zero,Option.some.injEq] at e e'
        rw [← e,← e']; exact V3'
      | j + 6,e,e' =>
        simp only [List.cons_append,List.getElem?_cons_succ,List.nil_append] at e e'
        exact hV j u w e e'
    · cases i with
      | zero =>
        simp only [List.getElem?_cons_zero,Option.some.injEq] at e e'
        rw [← e,← e']
        exact ⟨s1.keep (k2.trans (k3.trans k')) fun _ _ x => x,s2.keep (k3.trans k') fun _ _ x => x,s3.keep k' fun _ _ x => x⟩
      | succ i =>
        simp only [List.getElem?_cons_succ] at e e'
        exact hN i o' v e e'
/-- Outcomes in memory. -/
def Outs (h : Heap) (v : Value) (l : List Oc) : Prop := ∃ vs,List.length vs = l.length ∧ Sl h v 6 l.length (ocs l vs) ∧ Nest h l vs
theorem Outs.keep {h h' : Heap} {v : Value} {l : List Oc} (hn : Outs h v l) (hk : Keep (fun _ => False) h h') : Outs h' v l := by
  obtain ⟨vs,h1,h2,h3⟩ := hn
  exact ⟨vs,h1,h2.keep hk fun _ _ x => x,h3.keep hk⟩
theorem OcsAt.small {W : World} {a : Option Addr} {len cap : Nat} {l : List Oc} (hi : OcsAt W a len cap l) : ∀ o ∈ l,SmallOc o := by
  obtain ⟨hl,⟨rfl,rfl,rfl⟩ | ⟨x,rfl,hle,hsp,hat⟩⟩ := hi
  · have hl0 : l = [] := List.length_eq_zero_iff.1 hl
    subst hl0
    intro o ho; cases ho
  · intro o ho
    obtain ⟨i,hi,rfl⟩ := List.mem_iff_getElem.1 ho
    obtain ⟨a1,l1,c1,a2,l2,c2,a3,l3,c3,_,_,_,_,_,_,S1,S2,S3,b1,b2,b3⟩ := hat i _ (List.getElem?_eq_getElem hi)
    exact ⟨by rw [S1.1]; exact b1,by rw [S2.1]; exact b2,by rw [S3.1]; exact b3⟩
/-- One argument more: a row of outcomes. -/
theorem arg_ocs {h : Heap} {σ : Sig} {W : World} (hr : Rep W.heap.size (· < h.next) σ h.get W) (hro : AllRo h) (e e1 e2 : TypeId) {a : Option Addr} {len cap : Nat} {l : List Oc} (hi : OcsAt W a len cap l) :
    ∃ h' σ' v,Rep W.heap.size (· < h'.next) σ' h'.get W ∧ AllRo h' ∧ Keep (fun _ => False) h h' ∧ (∀ m,m < h.next → σ' m = σ m) ∧ VRep (· < h'.next) σ' v (.slice a len cap) ∧ Outs h' v l := by
  obtain ⟨hl,⟨rfl,rfl,rfl⟩ | ⟨x,rfl,hle,hsp,hat⟩⟩ := hi
  · have hl0 : l = [] := List.length_eq_zero_iff.1 hl
    subst hl0
    obtain ⟨σ',h1,h2,h3,h4⟩ := arg_nil hr hro e 6
    refine ⟨_,σ',_,h1,h2,⟨Nat.le_succ _,fun m hm _ => ?_⟩,h3,h4,[],rfl,⟨rfl,.inl ⟨rfl,rfl⟩⟩,fun i o v e => by simp at e⟩
    rw [Heap.get_push,if_neg (Nat.ne_of_lt hm)]
  · subst hl
    obtain ⟨h1,σ1,vs,ws,r1,o1,k1,g1,hlv,hlw,hcell,hV,hN⟩ := arg_ocs_go x e1 e2 l 0 hr hro (fun i o ho => by rw [Nat.zero_add]; exact hat i o ho)
    have hol := ocs_len hlv
    obtain ⟨σ',h3,h4,h5,h6⟩ := arg_sliceV r1 o1 e 6 (cs := ocs l vs) (ws := ws) hle (by omega) (by omega) (by omega) (fun j v hj => by have := hcell j v hj; simpa using this) (fun hne => hsp (by
      have : 0 < l.length := by
        cases l with
        | nil => exact absurd (by cases vs <;> rfl) hne
        | cons _ _ => simp
      omega)) hV hsp
    have kP : Keep (fun _ => False) h1 (h1.push (argObj e 6 (ocs l vs))) := ⟨Nat.le_succ _,fun m hm _ => by rw [Heap.get_push,if_neg (Nat.ne_of_lt hm)]⟩
    refine ⟨_,σ',_,h3,h4,k1.trans kP,fun m hm => (h5 m (Nat.lt_of_lt_of_le hm k1.1)).trans (g1 m hm),h6,vs,hlv,⟨hol,.inr ⟨_,_,rfl,fun h0 => ?_⟩⟩,hN.keep kP⟩
    refine ⟨ocs l vs,e,6,false,true,?_,?_⟩
    · have hne : ocs l vs ≠ [] := fun e => by rw [e] at hol; simp at hol; omega
      rw [Heap.get_push,if_pos rfl]; simp [argObj,hne]
    · rw [List.drop_zero,List.take_of_length_le (by omega)]
end Go.Proofs.YtmnkmdfladbgdaaAI
