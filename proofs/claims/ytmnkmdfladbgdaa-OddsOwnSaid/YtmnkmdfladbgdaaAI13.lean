/- From a run of the interpreter to a call in the model: a law's arguments are memory that nobody writes. -/
import Derived.Test.YtmnkmdfladbgdaaAI12
import Derived.Below
set_option linter.unusedVariables false
set_option linter.unusedSimpArgs false
namespace Go.Proofs.YtmnkmdfladbgdaaAI
open Go Go.RowKit

/-- A run's end: from what the body came to. -/
def fin (P : Program) (fn : Func) (x : Option (AEx × Tm × Heap)) : Option (Value × Heap) :=
  match x with
  | some (.normal,t,h') | some (.ret,t,h') => (aresults P fn t h').map fun v => (v,h')
  | _ => none

theorem run_fin {P : Program} {s : Scr} {f : FuncId} {fn : Func} {c : Code} {args : List Value} {h : Heap} {x : Value × Heap} (hf : P.funcs[f]? = some fn) (hb : fn.body = some c)
    (hx : fin P fn (exec P s f c (args ++ List.replicate (fn.ntmps - args.length) undef) h) = some x) : run P s f args h = some x := by
  cases he : exec P s f c (args ++ List.replicate (fn.ntmps - args.length) undef) h with
  | none => rw [he] at hx; cases hx
  | some y =>
    obtain ⟨e,t,h'⟩ := y
    rw [he] at hx
    cases e with
    | exit i => cases hx
    | normal =>
      simp only [fin] at hx
      cases hv : aresults P fn t h' with
      | none => rw [hv] at hx; cases hx
      | some v => rw [hv] at hx; cases hx; exact run_of hf hb he (.inl rfl) hv
    | ret =>
      simp only [fin] at hx
      cases hv : aresults P fn t h' with
      | none => rw [hv] at hx; cases hx
      | some v => rw [hv] at hx; cases hx; exact run_of hf hb he (.inr rfl) hv

/-- All that is there is read only. -/
def AllRo (h : Heap) : Prop := ∀ n,¬ NonRo h.get n

theorem law_calls {P : Program} {s : Scr} {f : FuncId} {args : List Value} {h h' : Heap} {v : Value} (hmix : P.follows .mixedOrders = true) (hro : AllRo h) (hrun : run P s f args h = some (v,h')) (hp : plain v = true)
    {W : World} {σ : Sig} {args' : Array Value} (hr : Rep W.heap.size (· < h.next) σ h.get W) (hl : LRep (· < h.next) σ args args'.toList) :
    Calls P f args' W fun e W' => e = .returned v ∧ Below W.heap.size W W' := by
  refine (run_sound hmix s f args h v h' hrun σ W args' hr hl).mono ?_
  rintro e W' ⟨v',σ',rfl,hm,hv⟩
  obtain rfl := VRep.plain_eq 8 hp hv
  exact ⟨rfl,hm.os,hm.tape,hm.output,hm.size,fun k hk => hm.frame k hk (fun ⟨n,hn,_⟩ => hro n hn)⟩

/-! ### Arguments in memory -/
def Heap.push (h : Heap) (o : Option AObj) : Heap := ⟨T.set (h.next + 1) h.m h.next o,h.next + 1⟩
theorem Heap.next_push (h : Heap) (o : Option AObj) : (h.push o).next = h.next + 1 := rfl
theorem Heap.get_push {h : Heap} {m : Nat} {o : Option AObj} : (h.push o).get m = if m = h.next then o else h.get m := by
  unfold Heap.get Heap.push
  simp only [T.get_set _ (h.next + 1) h.m h.next m (by omega)]
  by_cases e : m = h.next
  · subst e; simp [blt_t (Nat.lt_succ_self h.next)]
  · simp only [e,if_false]
    rcases Nat.lt_or_ge m h.next with h1 | h1
    · rw [blt_t h1,blt_t (show m < h.next + 1 by omega)]
    · rw [blt_f h1,blt_f (show h.next + 1 ≤ m by omega)]

theorem Rep.push {base : Nat} {h : Heap} {σ : Sig} {w : World} (hr : Rep base (· < h.next) σ h.get w) (pl : Pl) (o : Option (List Value × TypeId × Nat))
    (ho : ∀ c e s,o = some (c,e,s) → pl.blk < base ∧ ∃ C t fr,w.heap[pl.blk]? = some (.cells C t fr) ∧ pl.off + c.length ≤ C.size ∧ LRep (· < h.next) σ c ((C.toList.drop pl.off).take c.length)) :
    Rep base (· < (h.push (o.map fun x => .cells x.1 x.2.1 x.2.2 false true)).next) (σ.upd h.next pl) (h.push (o.map fun x => .cells x.1 x.2.1 x.2.2 false true)).get w := by
  have hσ : ∀ m,m < h.next → σ.upd h.next pl m = σ m := fun m hm => Sig.upd_ne σ _ (Nat.ne_of_lt hm)
  have hD : ∀ m,m < h.next → m < h.next + 1 := fun m hm => by omega
  have hnon : ∀ m,NonRo (h.push (o.map fun x => .cells x.1 x.2.1 x.2.2 false true)).get m → m < h.next ∧ NonRo h.get m := by
    rintro m ⟨c,e,s,gr,hg⟩
    rw [Heap.get_push] at hg
    split at hg
    · cases o with
      | none => cases hg
      | some x => simp at hg
    · exact ⟨Heap.get_lt hg,c,e,s,gr,hg⟩
  refine ⟨?_,?_,?_,?_,hr.size⟩
  · intro m c e s gr ro hg
    rw [Heap.get_push] at hg
    rw [Heap.next_push]
    split at hg
    · rename_i hm
      subst hm
      cases o with
      | none => cases hg
      | some x =>
        obtain ⟨c1,e1,s1⟩ := x
        simp only [Option.map_some,Option.some.injEq,AObj.cells.injEq] at hg
        obtain ⟨rfl,rfl,rfl,rfl,rfl⟩ := hg
        obtain ⟨hb,C,t,fr,q1,q2,q3⟩ := ho _ _ _ rfl
        have es := Sig.upd_same σ h.next pl
        exact ⟨Nat.lt_succ_self _,C,t,fr,⟨by rw [es]; exact q1,by rw [es]; exact q2,by rw [es]; exact q3.mono hD hσ,(fun hh => by cases hh),(fun hh => by cases hh)⟩⟩
    · have hlt := Heap.get_lt hg
      obtain ⟨_,C,t,fr,r⟩ := hr.object hg
      have es := hσ m hlt
      exact ⟨by omega,C,t,fr,⟨by rw [es]; exact r.heap,by rw [es]; exact r.fit,by rw [es]; exact r.rel.mono hD hσ,r.mine,by rw [es]; exact r.grow⟩⟩
  · intro m hm
    obtain ⟨h1,h2⟩ := hnon m hm
    rw [hσ m h1]; exact hr.own m h2
  · rintro m ⟨c,e,s,gr,hg⟩
    rw [Heap.get_push] at hg
    split at hg
    · rename_i hm
      subst hm
      cases o with
      | none => cases hg
      | some x =>
        obtain ⟨c1,e1,s1⟩ := x
        rw [Sig.upd_same]
        exact (ho _ _ _ rfl).1
    · rw [hσ m (Heap.get_lt hg)]; exact hr.old m ⟨c,e,s,gr,hg⟩
  · intro m k hm hk hne
    obtain ⟨h1,h2⟩ := hnon m hm
    obtain ⟨h3,h4⟩ := hnon k hk
    rw [hσ m h1,hσ k h3]; exact hr.inj m k h2 h4 hne

theorem AllRo.push {h : Heap} (hro : AllRo h) (o : Option (List Value × TypeId × Nat)) : AllRo (h.push (o.map fun x => .cells x.1 x.2.1 x.2.2 false true)) := by
  rintro m ⟨c,e,s,gr,hg⟩
  rw [Heap.get_push] at hg
  split at hg
  · cases o with
    | none => cases hg
    | some x => simp at hg
  · exact hro m ⟨c,e,s,gr,hg⟩

theorem allRo_empty : AllRo .empty := fun n ⟨_,_,_,_,h⟩ => by rw [Heap.get_empty] at h; cases h

/-- What an argument of a slice's type is to the interpreter: nil, or a name's cells. -/
def argSlice (n : Nat) (esz : Nat) : Option Nat → Value
  | none => .slice none 0 0
  | some len => .slice (some ⟨n,0,some 0⟩) len esz
def argObj (e esz : Nat) (cs : List Value) : Option AObj := (if cs = [] then none else some (cs,e,esz) : Option (List Value × TypeId × Nat)).map fun x => .cells x.1 x.2.1 x.2.2 false true

/-- One argument more: a slice whose cells are known. -/
theorem arg_slice {h : Heap} {σ : Sig} {W : World} (hr : Rep W.heap.size (· < h.next) σ h.get W) (hro : AllRo h) (e esz : Nat) {a : Addr} {len cap : Nat} {cs : List Value} (hl : len ≤ cap) (hc : cs.length = len * esz) (hz : 0 < esz)
    (hcell : ∀ j v,cs[j]? = some v → W.cell? (a.add j) = some v) (hsp : cs ≠ [] → a.spot = none) (hp : ∀ v ∈ cs,plain v = true) (hsp2 : 0 < cap → a.spot = none) :
    ∃ σ',Rep W.heap.size (· < (h.push (argObj e esz cs)).next) σ' (h.push (argObj e esz cs)).get W ∧ AllRo (h.push (argObj e esz cs)) ∧ (∀ m,m < h.next → σ' m = σ m) ∧
      VRep (· < (h.push (argObj e esz cs)).next) σ' (argSlice h.next esz (some len)) (.slice (some a) len cap) := by
  refine ⟨σ.upd h.next ⟨a.block,a.off,a.off + cap * esz⟩,hr.push _ _ ?_,hro.push _,fun m hm => Sig.upd_ne σ _ (Nat.ne_of_lt hm),?_⟩
  · intro c e' s hx
    split at hx
    · cases hx
    · rename_i hne
      simp only [Option.some.injEq,Prod.mk.injEq] at hx
      obtain ⟨rfl,rfl,rfl⟩ := hx
      have hsp := hsp hne
      obtain ⟨b,o,sp⟩ := a
      simp only at hsp
      subst hsp
      have hpos : 0 < cs.length := List.length_pos_iff.2 hne
      have h0 := hcell 0 cs[0] (List.getElem?_eq_getElem hpos)
      rw [add_at] at h0
      have hob : ∃ C t fr,W.heap[b]? = some (.cells C t fr) := by
        unfold World.cell? at h0
        split at h0
        · rename_i C t fr hh; exact ⟨C,t,fr,hh⟩
        · cases h0
      obtain ⟨C,t,fr,hh⟩ := hob
      have hcs : ∀ j v,cs[j]? = some v → C[o + j]? = some v := fun j v hv => by
        have := hcell j v hv
        rw [add_at,cell_at hh] at this
        exact this
      have hfit : o + cs.length ≤ C.size := by
        have h1 := hcs (cs.length - 1) cs[cs.length - 1] (List.getElem?_eq_getElem (by omega))
        have := (Array.getElem?_eq_some_iff.1 h1).1
        omega
      refine ⟨(Array.getElem?_eq_some_iff.1 hh).1,C,t,fr,hh,hfit,?_⟩
      refine .of (by simp; omega) fun j v v' e1 e2 => ?_
      have hj : j < cs.length := (List.getElem?_eq_some_iff.1 e1).1
      rw [List.getElem?_take_of_lt hj,List.getElem?_drop,Array.getElem?_toList,hcs j v e1] at e2
      cases e2
      exact VRep.plain_refl 8 (hp v (List.mem_of_getElem? e1))
  · refine .sliceU (Nat.lt_succ_self _) hl (fun h0 => ?_) ?_
    · rw [Sig.upd_same]
      have := hsp2 h0
      obtain ⟨b,o,sp⟩ := a
      simp only at this
      subst this
      simp
    · rw [Sig.upd_same]; simp
theorem arg_nil {h : Heap} {σ : Sig} {W : World} (hr : Rep W.heap.size (· < h.next) σ h.get W) (hro : AllRo h) (e esz : Nat) :
    ∃ σ',Rep W.heap.size (· < (h.push (argObj e esz [])).next) σ' (h.push (argObj e esz [])).get W ∧ AllRo (h.push (argObj e esz [])) ∧ (∀ m,m < h.next → σ' m = σ m) ∧
      VRep (· < (h.push (argObj e esz [])).next) σ' (argSlice h.next esz none) (.slice none 0 0) :=
  ⟨σ.upd h.next ⟨0,0,0⟩,hr.push _ none (fun _ _ _ hx => by cases hx),hro.push none,fun m hm => Sig.upd_ne σ _ (Nat.ne_of_lt hm),.sliceNil⟩

end Go.Proofs.YtmnkmdfladbgdaaAI
