/- Rows of outcomes as the interpreter holds them. -/
import Derived.Test.YtmnkmdfladbgdaaAI21
set_option linter.unusedVariables false
set_option linter.unusedSimpArgs false
namespace Go.Proofs.YtmnkmdfladbgdaaAI
open Go Go.RowKit Go.ChangeShapes Go.WideShapes Go.ChangeAt Go.Deep

/-- One argument more: a slice whose cells are told by others. -/
theorem arg_sliceV {h : Heap} {σ : Sig} {W : World} (hr : Rep W.heap.size (· < h.next) σ h.get W) (hro : AllRo h) (e esz : Nat) {a : Addr} {len cap : Nat} {cs ws : List Value} (hl : len ≤ cap) (hc : cs.length = len * esz) (hcw : ws.length = cs.length) (hz : 0 < esz)
    (hcell : ∀ (j : Nat) (v : Value),ws[j]? = some v → W.cell? (a.add j) = some v) (hsp : cs ≠ [] → a.spot = none) (hp : ∀ (j : Nat) (u v : Value),cs[j]? = some u → ws[j]? = some v → VRep (· < h.next) σ u v) (hsp2 : 0 < cap → a.spot = none) :
    ∃ σ',Rep W.heap.size (· < (h.push (argObj e esz cs)).next) σ' (h.push (argObj e esz cs)).get W ∧ AllRo (h.push (argObj e esz cs)) ∧ (∀ m,m < h.next → σ' m = σ m) ∧
      VRep (· < (h.push (argObj e esz cs)).next) σ' (argSlice h.next esz (some len)) (.slice (some a) len cap) := by
  refine ⟨σ.upd h.next ⟨a.block,a.off,a.off + cap * esz⟩,hr.push _ _ ?_,hro.push _,fun m hm => Sig.upd_ne σ _ (Nat.ne_of_lt hm),?_⟩
  · intro c e' s hx
    split at hx
    · cases hx
    · rename_i hne
      simp only [Option.some.injEq,Prod.mk.injEq] at hx
      obtain ⟨rfl,rfl,rfl⟩ := hx
      have hsp := hsp hne
      obtain ⟨b,o,sp⟩ := a
      simp only at hsp
      subst hsp
      have hpos : 0 < cs.length := List.length_pos_iff.2 hne
      have h0 := hcell 0 ws[0] (List.getElem?_eq_getElem (by omega))
      rw [add_at] at h0
      have hob : ∃ C t fr,W.heap[b]? = some (.cells C t fr) := by
        unfold World.cell? at h0
        split at h0
        · rename_i C t fr hh; exact ⟨C,t,fr,hh⟩
        · cases h0
      obtain ⟨C,t,fr,hh⟩ := hob
      have hcs : ∀ j v,ws[j]? = some v → C[o + j]? = some v := fun j v hv => by
        have := hcell j v hv
        rw [add_at,cell_at hh] at this
        exact this
      have hfit : o + cs.length ≤ C.size := by
        have h1 := hcs (ws.length - 1) ws[ws.length - 1] (List.getElem?_eq_getElem (by omega))
        have := (Array.getElem?_eq_some_iff.1 h1).1
        omega
      refine ⟨(Array.getElem?_eq_some_iff.1 hh).1,C,t,fr,hh,hfit,?_⟩
      refine .of (by simp; omega) fun j v v' e1 e2 => ?_
      have hj : j < cs.length := (List.getElem?_eq_some_iff.1 e1).1
      have hwj := List.getElem?_eq_getElem (l := ws) (i := j) (by omega)
      rw [List.getElem?_take_of_lt hj,List.getElem?_drop,Array.getElem?_toList,hcs j _ hwj] at e2
      cases e2
      exact hp j v _ e1 hwj
  · refine .sliceU (Nat.lt_succ_self _) hl (fun h0 => ?_) ?_
    · rw [Sig.upd_same]
      have := hsp2 h0
      obtain ⟨b,o,sp⟩ := a
      simp only at this
      subst this
      simp
    · rw [Sig.upd_same]; simp
/-- One argument more: a row of strings. -/
theorem arg_strs {h : Heap} {σ : Sig} {W : World} (hr : Rep W.heap.size (· < h.next) σ h.get W) (hro : AllRo h) (e : TypeId) {a : Option Addr} {len cap : Nat} {l : List ByteArray} (hi : StrsAt W a len cap l) :
    ∃ h' σ' v,Rep W.heap.size (· < h'.next) σ' h'.get W ∧ AllRo h' ∧ Keep (fun _ => False) h h' ∧ (∀ m,m < h.next → σ' m = σ m) ∧ VRep (· < h'.next) σ' v (.slice a len cap) ∧ Sl h' v 1 l.length (strs l) := by
  obtain ⟨hl,⟨rfl,rfl,rfl⟩ | ⟨x,rfl,hle,hsp,hcell⟩⟩ := hi
  · have hl0 : l = [] := List.length_eq_zero_iff.1 hl
    subst hl0
    obtain ⟨σ',h1,h2,h3,h4⟩ := arg_nil hr hro e 1
    refine ⟨_,σ',_,h1,h2,⟨Nat.le_succ _,fun m hm _ => ?_⟩,h3,h4,⟨rfl,.inl ⟨rfl,rfl⟩⟩⟩
    rw [Heap.get_push,if_neg (Nat.ne_of_lt hm)]
  · subst hl
    have hpl := strs_len l
    obtain ⟨σ',h1,h2,h3,h4⟩ := arg_slice hr hro e 1 (cs := strs l) hle (by omega) (by omega) hcell (fun hne => hsp (by
      have : 0 < l.length := by cases l with | nil => exact absurd rfl hne | cons _ _ => simp
      omega)) (strs_plain l) hsp
    refine ⟨_,σ',_,h1,h2,⟨Nat.le_succ _,fun m hm _ => ?_⟩,h3,h4,⟨by omega,.inr ⟨_,_,rfl,fun h0 => ?_⟩⟩⟩
    · rw [Heap.get_push,if_neg (Nat.ne_of_lt hm)]
    · refine ⟨strs l,e,1,false,true,?_,?_⟩
      · have hne : strs l ≠ [] := fun e => by rw [e] at hpl; simp at hpl; omega
        rw [Heap.get_push,if_pos rfl]; simp [argObj,hne]
      · rw [List.drop_zero,List.take_of_length_le (by omega)]
def oc6 (o : Oc) (v : Value × Value × Value) : List Value := [.int .i64 o.e,.int .i64 o.en,v.1,.int .i64 o.st,v.2.1,v.2.2]
/-- Outcomes' cells: what their rows are is told beside. -/
def ocs : List Oc → List (Value × Value × Value) → List Value
  | o :: l,v :: vs => oc6 o v ++ ocs l vs
  | _,_ => []
theorem ocs_len : ∀ {l : List Oc} {vs : List (Value × Value × Value)},vs.length = l.length → (ocs l vs).length = l.length * 6
  | [],vs,h => by cases vs <;> simp [ocs]
  | o :: l,[],h => by simp at h
  | o :: l,v :: vs,h => by
    have := ocs_len (l := l) (vs := vs) (by simpa using h)
    simp only [ocs,List.length_append,this,oc6,List.length_cons,List.length_nil]; omega
def Nest1 (h : Heap) (o : Oc) (v : Value × Value × Value) : Prop := Sl h v.1 1 o.tx.length (strs o.tx) ∧ Sl h v.2.1 1 o.tr.length (strs o.tr) ∧ Sl h v.2.2 2 o.pk.length (pairs o.pk)
theorem Nest1.keep {h h' : Heap} {o : Oc} {v : Value × Value × Value} (hn : Nest1 h o v) (hk : Keep (fun _ => False) h h') : Nest1 h' o v :=
  ⟨hn.1.keep hk fun _ _ x => x,hn.2.1.keep hk fun _ _ x => x,hn.2.2.keep hk fun _ _ x => x⟩
def Nest (h : Heap) (l : List Oc) (vs : List (Value × Value × Value)) : Prop := ∀ (i : Nat) (o : Oc) (v : Value × Value × Value),l[i]? = some o → vs[i]? = some v → Nest1 h o v
theorem Nest.keep {h h' : Heap} {l : List Oc} {vs : List (Value × Value × Value)} (hn : Nest h l vs) (hk : Keep (fun _ => False) h h') : Nest h' l vs := fun i o v e1 e2 => (hn i o v e1 e2).keep hk
def SmallOc (o : Oc) : Prop := o.tx.length * 16 ≤ 140737488351232 ∧ o.tr.length * 16 ≤ 140737488351232 ∧ o.pk.length * 16 ≤ 140737488351232
theorem arg_ocs_go {W : World} (x : Addr) (e1 e2 : TypeId) : ∀ (l : List Oc) (i0 : Nat) {h : Heap} {σ : Sig} (hr : Rep W.heap.size (· < h.next) σ h.get W) (hro : AllRo h) (hat : ∀ i o,l[i]? = some o → OcAt W x (i0 + i) o),
    ∃ h' σ' vs ws,Rep W.heap.size (· < h'.next) σ' h'.get W ∧ AllRo h' ∧ Keep (fun _ => False) h h' ∧ (∀ m,m < h.next → σ' m = σ m) ∧ List.length vs = l.length ∧ List.length ws = l.length * 6 ∧
      (∀ (j : Nat) (w : Value),ws[j]? = some w → W.cell? (x.add (i0 * 6 + j)) = some w) ∧ (∀ (j : Nat) (u w : Value),(ocs l vs)[j]? = some u → ws[j]? = some w → VRep (· < h'.next) σ' u w) ∧ Nest h' l vs := by
  intro l
  induction l with
  | nil =>
    intro i0 h σ hr hro _
    exact ⟨h,σ,[],[],hr,hro,⟨Nat.le_refl _,fun _ _ _ => rfl⟩,fun _ _ => rfl,rfl,rfl,fun j w e => by simp at e,fun j u w e => by simp [ocs] at e,fun i o v e => by simp at e⟩
  | cons o l ih =>
    intro i0 h σ hr hro hat
    obtain ⟨a1,l1,c1,a2,l2,c2,a3,l3,c3,d0,d1,d2,d3,d4,d5,S1,S2,S3,_⟩ := hat 0 o rfl
    rw [Nat.add_zero] at d0 d1 d2 d3 d4 d5
    obtain ⟨h1,σ1,v1,r1,o1,k1,g1,V1,s1⟩ := arg_strs hr hro e1 S1
    obtain ⟨h2,σ2,v2,r2,o2,k2,g2,V2,s2⟩ := arg_strs r1 o1 e1 S2
    obtain ⟨h3,σ3,v3,r3,o3,k3,g3,V3,s3,_⟩ := arg_pairs r2 o2 e2 S3
    obtain ⟨h',σ',vs,ws,r',o',k',g',hlv,hlw,hcell,hV,hN⟩ := ih (i0 + 1) r3 o3 (fun i o' e => by
      have := hat (i + 1) o' (by simpa using e)
      rwa [show i0 + 1 + i = i0 + (i + 1) by omega])
    have kk3 := k1.trans (k2.trans k3)
    have V1' := V1.mono (D' := (· < h'.next)) (σ' := σ') (fun n hn => Nat.lt_of_lt_of_le hn (k2.trans (k3.trans k')).1) (fun n hn => (g' n (Nat.lt_of_lt_of_le hn (k2.trans k3).1)).trans ((g3 n (Nat.lt_of_lt_of_le hn k2.1)).trans (g2 n hn)))
    have V2' := V2.mono (D' := (· < h'.next)) (σ' := σ') (fun n hn => Nat.lt_of_lt_of_le hn (k3.trans k').1) (fun n hn => (g' n (Nat.lt_of_lt_of_le hn k3.1)).trans (g3 n hn))
    have V3' := V3.mono (D' := (· < h'.next)) (σ' := σ') (fun n hn => Nat.lt_of_lt_of_le hn k'.1) (fun n hn => g' n hn)
    refine ⟨h',σ',(v1,v2,v3) :: vs,[.int .i64 o.e,.int .i64 o.en,.slice a1 l1 c1,.int .i64 o.st,.slice a2 l2 c2,.slice a3 l3 c3] ++ ws,r',o',kk3.trans k',fun m hm => ?_,by simp [hlv],by simp [hlw]; omega,fun j w e => ?_,fun j u w e e' => ?_,fun i o' v e e' => ?_⟩
    · rw [g' m (Nat.lt_of_lt_of_le hm kk3.1),g3 m (Nat.lt_of_lt_of_le hm (k1.trans k2).1),g2 m (Nat.lt_of_lt_of_le hm k1.1),g1 m hm]
    · match j,e with
      | 0,e => simp only [List.cons_append,List.getElem?_cons_zero,Option.some.injEq] at e; rw [← e]; exact d0
      | 1,e => simp only [List.cons_append,List.getElem?_cons_succ,List.getElem?_cons_zero,Option.some.injEq] at e; rw [← e]; exact d1
      | 2,e => simp only [List.cons_append,List.getElem?_cons_succ,List.getElem?_cons_zero,Option.some.injEq] at e; rw [← e]; exact d2
      | 3,e => simp only [List.cons_append,List.getElem?_cons_succ,List.getElem?_cons_zero,Option.some.injEq] at e; rw [← e]; exact d3
      | 4,e => simp only [List.cons_append,List.getElem?_cons_succ,List.getElem?_cons_zero,Option.some.injEq] at e; rw [← e]; exact d4
      | 5,e => simp only [List.cons_append,List.getElem?_cons_succ,List.getElem?_cons_zero,Option.some.injEq] at e; rw [← e]; exact d5
      | j + 6,e =>
        simp only [List.cons_append,List.getElem?_cons_succ,List.nil_append] at e
        have := hcell j w e
        rwa [show (i0 + 1) * 6 + j = i0 * 6 + (j + 6) by omega] at this
    · simp only [ocs,oc6,List.cons_append,List.nil_append] at e
      match j,e,e' with
      | 0,e,e' =>
        simp only [List.cons_append,List.getElem?_cons_zero,Option.some.injEq] at e e'
        rw [← e,← e']; exact .int _ _
      | 1,e,e' =>
        simp only [List.cons_append,List.getElem?_cons_succ,List.getElem?_cons_zero,Option.some.injEq] at e e'
        rw [← e,← e']; exact .int _ _
      | 2,e,e' =>
        simp only [List.cons_append,List.getElem?_cons_succ,List.getElem?_cons_zero,Option.some.injEq] at e e'
        rw [← e,← e']; exact V1'
      | 3,e,e' =>
        simp only [List.cons_append,List.getElem?_cons_succ,List.getElem?_cons_zero,Option.some.injEq] at e e'
        rw [← e,← e']; exact .int _ _
      | 4,e,e' =>
        simp only [List.cons_append,List.getElem?_cons_succ,List.getElem?_cons_zero,Option.some.injEq] at e e'
        rw [← e,← e']; exact V2'
      | 5,e,e' =>
        simp only [List.cons_append,List.getElem?_cons_succ,List.getElem?_cons_zero,Option.some.injEq] at e e'
        rw [← e,← e']; exact V3'
      | j + 6,e,e' =>
        simp only [List.cons_append,List.getElem?_cons_succ,List.nil_append] at e e'
        exact hV j u w e e'
    · cases i with
      | zero =>
        simp only [List.getElem?_cons_zero,Option.some.injEq] at e e'
        rw [← e,← e']
        exact ⟨s1.keep (k2.trans (k3.trans k')) fun _ _ x => x,s2.keep (k3.trans k') fun _ _ x => x,s3.keep k' fun _ _ x => x⟩
      | succ i =>
        simp only [List.getElem?_cons_succ] at e e'
        exact hN i o' v e e'
/-- Outcomes in memory. -/
def Outs (h : Heap) (v : Value) (l : List Oc) : Prop := ∃ vs,List.length vs = l.length ∧ Sl h v 6 l.length (ocs l vs) ∧ Nest h l vs
theorem Outs.keep {h h' : Heap} {v : Value} {l : List Oc} (hn : Outs h v l) (hk : Keep (fun _ => False) h h') : Outs h' v l := by
  obtain ⟨vs,h1,h2,h3⟩ := hn
  exact ⟨vs,h1,h2.keep hk fun _ _ x => x,h3.keep hk⟩
theorem OcsAt.small {W : World} {a : Option Addr} {len cap : Nat} {l : List Oc} (hi : OcsAt W a len cap l) : ∀ o ∈ l,SmallOc o := by
  obtain ⟨hl,⟨rfl,rfl,rfl⟩ | ⟨x,rfl,hle,hsp,hat⟩⟩ := hi
  · have hl0 : l = [] := List.length_eq_zero_iff.1 hl
    subst hl0
    intro o ho; cases ho
  · intro o ho
    obtain ⟨i,hi,rfl⟩ := List.mem_iff_getElem.1 ho
    obtain ⟨a1,l1,c1,a2,l2,c2,a3,l3,c3,_,_,_,_,_,_,S1,S2,S3,b1,b2,b3⟩ := hat i _ (List.getElem?_eq_getElem hi)
    exact ⟨by rw [S1.1]; exact b1,by rw [S2.1]; exact b2,by rw [S3.1]; exact b3⟩
/-- One argument more: a row of outcomes. -/
theorem arg_ocs {h : Heap} {σ : Sig} {W : World} (hr : Rep W.heap.size (· < h.next) σ h.get W) (hro : AllRo h) (e e1 e2 : TypeId) {a : Option Addr} {len cap : Nat} {l : List Oc} (hi : OcsAt W a len cap l) :
    ∃ h' σ' v,Rep W.heap.size (· < h'.next) σ' h'.get W ∧ AllRo h' ∧ Keep (fun _ => False) h h' ∧ (∀ m,m < h.next → σ' m = σ m) ∧ VRep (· < h'.next) σ' v (.slice a len cap) ∧ Outs h' v l := by
  obtain ⟨hl,⟨rfl,rfl,rfl⟩ | ⟨x,rfl,hle,hsp,hat⟩⟩ := hi
  · have hl0 : l = [] := List.length_eq_zero_iff.1 hl
    subst hl0
    obtain ⟨σ',h1,h2,h3,h4⟩ := arg_nil hr hro e 6
    refine ⟨_,σ',_,h1,h2,⟨Nat.le_succ _,fun m hm _ => ?_⟩,h3,h4,[],rfl,⟨rfl,.inl ⟨rfl,rfl⟩⟩,fun i o v e => by simp at e⟩
    rw [Heap.get_push,if_neg (Nat.ne_of_lt hm)]
  · subst hl
    obtain ⟨h1,σ1,vs,ws,r1,o1,k1,g1,hlv,hlw,hcell,hV,hN⟩ := arg_ocs_go x e1 e2 l 0 hr hro (fun i o ho => by rw [Nat.zero_add]; exact hat i o ho)
    have hol := ocs_len hlv
    obtain ⟨σ',h3,h4,h5,h6⟩ := arg_sliceV r1 o1 e 6 (cs := ocs l vs) (ws := ws) hle (by omega) (by omega) (by omega) (fun j v hj => by have := hcell j v hj; simpa using this) (fun hne => hsp (by
      have : 0 < l.length := by
        cases l with
        | nil => exact absurd (by cases vs <;> rfl) hne
        | cons _ _ => simp
      omega)) hV hsp
    have kP : Keep (fun _ => False) h1 (h1.push (argObj e 6 (ocs l vs))) := ⟨Nat.le_succ _,fun m hm _ => by rw [Heap.get_push,if_neg (Nat.ne_of_lt hm)]⟩
    refine ⟨_,σ',_,h3,h4,k1.trans kP,fun m hm => (h5 m (Nat.lt_of_lt_of_le hm k1.1)).trans (g1 m hm),h6,vs,hlv,⟨hol,.inr ⟨_,_,rfl,fun h0 => ?_⟩⟩,hN.keep kP⟩
    refine ⟨ocs l vs,e,6,false,true,?_,?_⟩
    · have hne : ocs l vs ≠ [] := fun e => by rw [e] at hol; simp at hol; omega
      rw [Heap.get_push,if_pos rfl]; simp [argObj,hne]
    · rw [List.drop_zero,List.take_of_length_le (by omega)]
end Go.Proofs.YtmnkmdfladbgdaaAI
