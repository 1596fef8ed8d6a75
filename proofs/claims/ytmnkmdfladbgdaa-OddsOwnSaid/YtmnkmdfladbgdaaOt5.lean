/- Odds: copies of outcomes. -/
import Derived.Test.YtmnkmdfladbgdaaOd8
import Derived.Test.YtmnkmdfladbgdaaOl4
import Derived.Test.YtmnkmdfladbgdaaAI22
set_option linter.unusedVariables false
set_option linter.unusedSimpArgs false
namespace Go.Proofs.Ytmnkmdfladbgdaa.Od
open Go Go.Proofs Go.RowKit Go.Proofs.YtmnkmdfladbgdaaAI Go.Proofs.YtmnkmdfladbgdaaFl

/-- Strings' bytes. -/
def bts (l : List ByteArray) : List (List UInt8) := l.map (·.toList)
def eqS (x y : List ByteArray) : Bool := decide (bts x = bts y)
theorem first_diff {α : Type} : ∀ {x y : List α},x.length = y.length → x ≠ y → ∃ p,p < x.length ∧ x[p]? ≠ y[p]? ∧ ∀ j,j < p → x[j]? = y[j]?
  | [],[],_,h => absurd rfl h
  | a :: x,b :: y,hl,h => by
    by_cases hab : a = b
    · have hxy : x ≠ y := fun e => h (by rw [hab,e])
      obtain ⟨p,h1,h2,h3⟩ := first_diff (x := x) (y := y) (by simpa using hl) hxy
      refine ⟨p + 1,by simpa using h1,by simpa using h2,fun j hj => ?_⟩
      cases j with
      | zero => simp [hab]
      | succ j => simpa using h3 j (by omega)
    · exact ⟨0,by simp,by simpa using hab,fun j hj => by omega⟩
theorem eqS_split {x y : List ByteArray} (hl : x.length = y.length) : (eqS x y = true ∧ ∀ i,i < x.length → ((x.getD i .empty).toList == (y.getD i .empty).toList) = true) ∨ (eqS x y = false ∧ ∃ p,p < x.length ∧ ((x.getD p .empty).toList == (y.getD p .empty).toList) = false ∧ ∀ i,i < p → ((x.getD i .empty).toList == (y.getD i .empty).toList) = true) := by
  have hb : ∀ {z : List ByteArray} {i : Nat},i < z.length → (bts z)[i]? = some (z.getD i .empty).toList := fun {z i} hi => by
    simp [bts,List.getElem?_eq_getElem hi,List.getD_eq_getElem?_getD]
  by_cases h : bts x = bts y
  · refine .inl ⟨decide_eq_true h,fun i hi => ?_⟩
    have h1 := hb hi
    rw [h,hb (by omega),Option.some.injEq] at h1
    rw [h1]; exact beq_self_eq_true _
  · obtain ⟨p,h1,h2,h3⟩ := first_diff (x := bts x) (y := bts y) (by simp [bts,hl]) h
    have hp : p < x.length := by simpa [bts] using h1
    refine .inr ⟨decide_eq_false h,p,hp,?_,fun i hi => ?_⟩
    · rw [hb hp,hb (by omega)] at h2
      exact beq_eq_false_iff_ne.2 fun e => h2 (by rw [e])
    · have h4 := h3 i hi
      rw [hb (by omega),hb (by omega),Option.some.injEq] at h4
      rw [h4]; exact beq_self_eq_true _
theorem sl_str {h : Heap} {v : Value} {k : Nat} {l : List ByteArray} (hs : Sl h v 1 k (strs l)) {i : Nat} (hi : i < k) :
    ∃ a n c e s gr ro,v = .slice (some a) k n ∧ h.get a.block = some (.cells c e s gr ro) ∧ c[a.off + i]? = some (.string (l.getD i .empty)) := by
  have hs0 := hs
  obtain ⟨hl,⟨rfl,rfl⟩ | ⟨a,n,rfl,_⟩⟩ := hs0
  · omega
  · obtain ⟨c,e,s,gr,ro,hg,_,_,hget⟩ := hs.fit (by omega) (by omega)
    refine ⟨a,n,c,e,s,gr,ro,rfl,hg,?_⟩
    rw [hget i (by omega)]
    have hi' : i < l.length := by simp only [strs,List.length_map] at hl; omega
    simp [strs,List.getElem?_eq_getElem hi']
theorem sz85 : szOf Try.prog 85 = some 1 := by kernel_rfl
theorem sz9 : szOf Try.prog 9 = some 1 := by kernel_rfl
theorem sne9' (x y : Operand) (a b : ByteArray) : pureRun Try.prog (do let z ← (do eqGuard .neq 9 x y (.string a) (.string b); binOp .neq 9 (.string a) (.string b)); pure (Next.value z)) = some (.value (.bool (!(a.toList == b.toList)))) := by kernel_rfl
theorem sne9 (t : Tm) (x y : Operand) (a b : ByteArray) (hx : aeval t x = .string a) (hy : aeval t y = .string b) (d r ty pos af gu) : purerule Try.prog (aeval t) ⟨d,.binOp .neq 9 x y r,ty,pos,af,gu⟩ = some (.bool (!(a.toList == b.toList))) := by
  refine pure_of rfl ?_ ?_ rfl
  · simp [-aeval,Op.operands,hx,hy]; exact ⟨rfl,rfl⟩
  · have : execOp (aeval t) ⟨d,.binOp .neq 9 x y r,ty,pos,af,gu⟩ = (do let z ← (do eqGuard .neq 9 x y (aeval t x) (aeval t y); binOp .neq 9 (aeval t x) (aeval t y)); pure (Next.value z)) := by simp [execOp]
    rw [this,hx,hy]; exact sne9' x y a b
theorem strs_one (l : List ByteArray) : (strs l).all one = true := by simp [strs,one]
noncomputable def lt79 (i : Nat) : Code := (loopsOf (Try.f79.body.getD .skip)).getD i .skip
set_option maxRecDepth 20000 in
set_option maxHeartbeats 6400000 in
theorem strE79 {h0 : Heap} {va wa : Option Addr} {vc wc n : Nat} {x y : List ByteArray} (hn : x.length = n) (hn2 : y.length = n) (hk : n ≤ 2 ^ 47) (hv : Sl h0 (.slice va n vc) 1 n (strs x)) (hw : Sl h0 (.slice wa n wc) 1 n (strs y)) (heq : ∀ i,i < n → ((x.getD i .empty).toList == (y.getD i .empty).toList) = true) (F : Step) (hFF : F = aexecP Try.prog (sO 79) (run Try.prog sO) loopω pt79 (lt79 0)) (t : Tm)
    (ht : forget [2,3,4,5,6,7,8,9,10,11,14,15,16,17,18,19,20,21,22,23,24,25] t = [.slice va n vc,.slice wa n wc,Z,Z,Z,Z,Z,Z,Z,Z,Z,Z,.int .i64 n,.int .i64 (0 : Nat),Z,Z,Z,Z,Z,Z,Z,Z,Z,Z,Z,Z]) (hI0 : h0 = h0) :
    ∃ h' x14,loopω [2,3,4,5,6,7,8,9,10,11,14,15,16,17,18,19,20,21,22,23,24,25] F t h0 = some (.exit 0,[.slice va n vc,.slice wa n wc,Z,Z,Z,Z,Z,Z,Z,Z,Z,Z,.int .i64 n,.int .i64 (n : Nat),x14,Z,Z,Z,Z,Z,Z,Z,Z,Z,Z,Z],h') ∧ h' = h0 := by
  subst hFF
  suffices hs : ∃ e t' h',loopω [2,3,4,5,6,7,8,9,10,11,14,15,16,17,18,19,20,21,22,23,24,25] (aexecP Try.prog (sO 79) (run Try.prog sO) loopω pt79 (lt79 0)) t h0 = some (e,t',h') ∧ (e = .exit 0 ∧ ∃ x14,t' = [.slice va n vc,.slice wa n wc,Z,Z,Z,Z,Z,Z,Z,Z,Z,Z,.int .i64 n,.int .i64 (n : Nat),x14,Z,Z,Z,Z,Z,Z,Z,Z,Z,Z,Z] ∧ h' = h0) by
    obtain ⟨e,t',h',q1,rfl,x14,rfl,q2⟩ := hs
    exact ⟨h',x14,q1,q2⟩
  simp only [lt79,Try.f79,loopsOf,Option.getD_some,List.nil_append,List.append_nil,List.cons_append,List.getD_cons_zero,List.getD_cons_succ]
  refine loop_by (fun k t h' => ∃ (i : Nat),i + k = n ∧ forget [2,3,4,5,6,7,8,9,10,11,14,15,16,17,18,19,20,21,22,23,24,25] t = [.slice va n vc,.slice wa n wc,Z,Z,Z,Z,Z,Z,Z,Z,Z,Z,.int .i64 n,.int .i64 (i : Nat),Z,Z,Z,Z,Z,Z,Z,Z,Z,Z,Z,Z] ∧ h' = h0)
    (fun e t' h' => e = .exit 0 ∧ ∃ x14,t' = [.slice va n vc,.slice wa n wc,Z,Z,Z,Z,Z,Z,Z,Z,Z,Z,.int .i64 n,.int .i64 (n : Nat),x14,Z,Z,Z,Z,Z,Z,Z,Z,Z,Z,Z] ∧ h' = h0) ?_ (n) _ _ ⟨0,by omega,ht,hI0⟩
  rintro k t h' ⟨i,hi,ht,hI⟩
  rw [ht]
  rcases Nat.lt_or_ge i (n) with h1 | h1
  · have hinc := @inc64 i (by omega)
    have hcs := cast_succ i
    subst hI
    have hin : i < n := by omega
    obtain ⟨va,vc,C,ce,cs,gr,ro,eb,hg,hc⟩ := sl_str hv hin
    simp only [Value.slice.injEq,true_and] at eb
    obtain ⟨rfl,rfl⟩ := eb
    obtain ⟨wa,wc,C2,ce2,cs2,gr2,ro2,eb,hg2,hc2⟩ := sl_str hw hin
    simp only [Value.slice.injEq,true_and] at eb
    obtain ⟨rfl,rfl⟩ := eb
    
    have he := heq i (by omega)
    generalize x.getD i .empty = u at *
    generalize y.getD i .empty = w at *
    simp (maxSteps := 2000000) -implicitDefEqProofs [ble_d,beq_d,List.range_succ,List.replicate,cond_true,cond_false,hin,hg,hc,hg2,hc2,he,sne9,pt79_6,pl79_6,an79_6,aindexAddr,sz9,sz85,Try.underlying85,ibne,hinc,undef]
    exact ⟨k - 1,by omega,i + 1,by omega,by simp (maxSteps := 2000000) only [forget,List.set_cons_succ,List.set_cons_zero,hcs]⟩
  · obtain rfl : i = n := by omega
    simp (maxSteps := 2000000) -implicitDefEqProofs [ble_d,beq_d,List.range_succ,List.replicate,cond_true,cond_false,undef]
    exact hI
set_option maxRecDepth 20000 in
set_option maxHeartbeats 6400000 in
theorem strN79 {h0 : Heap} {va wa : Option Addr} {vc wc n : Nat} {x y : List ByteArray} (hn : x.length = n) (hn2 : y.length = n) (hk : n ≤ 2 ^ 47) (hv : Sl h0 (.slice va n vc) 1 n (strs x)) (hw : Sl h0 (.slice wa n wc) 1 n (strs y)) (p : Nat) (hp : p < n) (hne : ((x.getD p .empty).toList == (y.getD p .empty).toList) = false) (heq : ∀ i,i < p → ((x.getD i .empty).toList == (y.getD i .empty).toList) = true) (F : Step) (hFF : F = aexecP Try.prog (sO 79) (run Try.prog sO) loopω pt79 (lt79 0)) (t : Tm)
    (ht : forget [2,3,4,5,6,7,8,9,10,11,14,15,16,17,18,19,20,21,22,23,24,25] t = [.slice va n vc,.slice wa n wc,Z,Z,Z,Z,Z,Z,Z,Z,Z,Z,.int .i64 n,.int .i64 (0 : Nat),Z,Z,Z,Z,Z,Z,Z,Z,Z,Z,Z,Z]) (hI0 : h0 = h0) :
    ∃ h' x5 x14 x15 x16 x17 x18 x19 x20 x21 x22 x23 x24,loopω [2,3,4,5,6,7,8,9,10,11,14,15,16,17,18,19,20,21,22,23,24,25] F t h0 = some (.ret,[.slice va n vc,.slice wa n wc,Z,Z,.bool false,x5,Z,Z,Z,Z,Z,Z,.int .i64 n,.int .i64 (p : Nat),x14,x15,x16,x17,x18,x19,x20,x21,x22,x23,x24,Z],h') ∧ h' = h0 := by
  subst hFF
  suffices hs : ∃ e t' h',loopω [2,3,4,5,6,7,8,9,10,11,14,15,16,17,18,19,20,21,22,23,24,25] (aexecP Try.prog (sO 79) (run Try.prog sO) loopω pt79 (lt79 0)) t h0 = some (e,t',h') ∧ (e = .ret ∧ ∃ x5 x14 x15 x16 x17 x18 x19 x20 x21 x22 x23 x24,t' = [.slice va n vc,.slice wa n wc,Z,Z,.bool false,x5,Z,Z,Z,Z,Z,Z,.int .i64 n,.int .i64 (p : Nat),x14,x15,x16,x17,x18,x19,x20,x21,x22,x23,x24,Z] ∧ h' = h0) by
    obtain ⟨e,t',h',q1,rfl,x5,x14,x15,x16,x17,x18,x19,x20,x21,x22,x23,x24,rfl,q2⟩ := hs
    exact ⟨h',x5,x14,x15,x16,x17,x18,x19,x20,x21,x22,x23,x24,q1,q2⟩
  simp only [lt79,Try.f79,loopsOf,Option.getD_some,List.nil_append,List.append_nil,List.cons_append,List.getD_cons_zero,List.getD_cons_succ]
  refine loop_by (fun k t h' => ∃ (i : Nat),i + k = p ∧ forget [2,3,4,5,6,7,8,9,10,11,14,15,16,17,18,19,20,21,22,23,24,25] t = [.slice va n vc,.slice wa n wc,Z,Z,Z,Z,Z,Z,Z,Z,Z,Z,.int .i64 n,.int .i64 (i : Nat),Z,Z,Z,Z,Z,Z,Z,Z,Z,Z,Z,Z] ∧ h' = h0)
    (fun e t' h' => e = .ret ∧ ∃ x5 x14 x15 x16 x17 x18 x19 x20 x21 x22 x23 x24,t' = [.slice va n vc,.slice wa n wc,Z,Z,.bool false,x5,Z,Z,Z,Z,Z,Z,.int .i64 n,.int .i64 (p : Nat),x14,x15,x16,x17,x18,x19,x20,x21,x22,x23,x24,Z] ∧ h' = h0) ?_ (p) _ _ ⟨0,by omega,ht,hI0⟩
  rintro k t h' ⟨i,hi,ht,hI⟩
  rw [ht]
  rcases Nat.lt_or_ge i (p) with h1 | h1
  · have hinc := @inc64 i (by omega)
    have hcs := cast_succ i
    subst hI
    have hin : i < n := by omega
    obtain ⟨va,vc,C,ce,cs,gr,ro,eb,hg,hc⟩ := sl_str hv hin
    simp only [Value.slice.injEq,true_and] at eb
    obtain ⟨rfl,rfl⟩ := eb
    obtain ⟨wa,wc,C2,ce2,cs2,gr2,ro2,eb,hg2,hc2⟩ := sl_str hw hin
    simp only [Value.slice.injEq,true_and] at eb
    obtain ⟨rfl,rfl⟩ := eb
    
    have he := heq i (by omega)
    generalize x.getD i .empty = u at *
    generalize y.getD i .empty = w at *
    simp (maxSteps := 2000000) -implicitDefEqProofs [ble_d,beq_d,List.range_succ,List.replicate,cond_true,cond_false,hin,hg,hc,hg2,hc2,he,sne9,pt79_6,pl79_6,an79_6,aindexAddr,sz9,sz85,Try.underlying85,ibne,hinc,undef]
    exact ⟨k - 1,by omega,i + 1,by omega,by simp (maxSteps := 2000000) only [forget,List.set_cons_succ,List.set_cons_zero,hcs]⟩
  · obtain rfl : i = p := by omega
    
    have hinc := @inc64 i (by omega)
    have hcs := cast_succ i
    subst hI
    have hin : i < n := by omega
    obtain ⟨va,vc,C,ce,cs,gr,ro,eb,hg,hc⟩ := sl_str hv hin
    simp only [Value.slice.injEq,true_and] at eb
    obtain ⟨rfl,rfl⟩ := eb
    obtain ⟨wa,wc,C2,ce2,cs2,gr2,ro2,eb,hg2,hc2⟩ := sl_str hw hin
    simp only [Value.slice.injEq,true_and] at eb
    obtain ⟨rfl,rfl⟩ := eb
    have he := hne
    generalize x.getD i .empty = u at *
    generalize y.getD i .empty = w at *
    simp (maxSteps := 2000000) -implicitDefEqProofs [ble_d,beq_d,List.range_succ,List.replicate,cond_true,cond_false,hin,hg,hc,hg2,hc2,he,sne9,pt79_6,pl79_6,an79_6,aindexAddr,sz9,sz85,Try.underlying85,ibne,hinc,undef]
theorem useS79 {ks : List Nat} {F : Step} {t : Tm} {h : Heap} {rr : Option (AEx × Tm × Heap)} {f : Heap → Value → Value → Value → Value → Value → Value → Value → Value → Value → Value → Value → Value → Option (AEx × Tm × Heap)} {p : Heap → Value → Value → Value → Value → Value → Value → Value → Value → Value → Value → Value → Value → Prop} (hl : loopω ks F t h = rr) (H : ∃ h' x0 x1 x2 x3 x4 x5 x6 x7 x8 x9 x10 x11,loopω ks F t h = f h' x0 x1 x2 x3 x4 x5 x6 x7 x8 x9 x10 x11 ∧ p h' x0 x1 x2 x3 x4 x5 x6 x7 x8 x9 x10 x11) : ∃ h' x0 x1 x2 x3 x4 x5 x6 x7 x8 x9 x10 x11,rr = f h' x0 x1 x2 x3 x4 x5 x6 x7 x8 x9 x10 x11 ∧ p h' x0 x1 x2 x3 x4 x5 x6 x7 x8 x9 x10 x11 := hl ▸ H

theorem eqs79_run {h : Heap} {v w : Value} {x y : List ByteArray} (hv : Sl h v 1 x.length (strs x)) (hw : Sl h w 1 y.length (strs y)) (kx : x.length ≤ 2 ^ 47) (ky : y.length ≤ 2 ^ 47) : run Try.prog sO 79 [v,w] h = some (.bool (eqS x y),h) := by
  obtain ⟨va,vc,rfl⟩ := sl_form hv
  obtain ⟨wa,wc,rfl⟩ := sl_form hw
  by_cases hl : x.length = y.length
  · obtain ⟨n,hn⟩ : ∃ n,x.length = n := ⟨_,rfl⟩
    have hn2 : y.length = n := by omega
    suffices hz : ∃ r,fin Try.prog Try.f79 (aexecP Try.prog (sO 79) (run Try.prog sO) loopω pt79 (Try.f79.body.getD .skip) ([.slice va x.length vc,.slice wa y.length wc] ++ List.replicate (Try.f79.ntmps - 2) undef) h) = some r ∧ r.1 = .bool (eqS x y) ∧ r.2 = h by
      obtain ⟨⟨y1,y2⟩,hy,rfl,rfl⟩ := hz
      exact run_finP pt79 Try.func79 rfl planned79 hy
    have hs := eqS_split hl
    rw [hn] at hs hv ⊢
    rw [hn2] at hw ⊢
    simp (maxSteps := 2000000) -implicitDefEqProofs [Try.f79,ble_d,beq_d,List.range_succ,List.replicate,cond_true,cond_false,ibne,sO79]
    generalize hlp : loopω _ _ _ _ = r
    rcases hs with ⟨he,hall⟩ | ⟨he,p,hp,hne,hall⟩
    · rw [he]
      obtain ⟨h3,x14,hz,hh⟩ := useX1 hlp (strE79 hn hn2 (by omega) hv hw hall _ (by kernel_rfl) _ (by kernel_rfl) rfl)
      subst hz
      subst hh
      simp (maxSteps := 2000000) -implicitDefEqProofs [ble_d,beq_d,List.range_succ,List.replicate,cond_true,cond_false]
    · rw [he]
      obtain ⟨h3,x5,x14,x15,x16,x17,x18,x19,x20,x21,x22,x23,x24,hz,hh⟩ := useS79 hlp (strN79 hn hn2 (by omega) hv hw p hp hne hall _ (by kernel_rfl) _ (by kernel_rfl) rfl)
      subst hz
      subst hh
      simp (maxSteps := 2000000) -implicitDefEqProofs [ble_d,beq_d,List.range_succ,List.replicate,cond_true,cond_false]
  · have he : eqS x y = false := decide_eq_false fun e => hl (by have := congrArg List.length e; simpa [bts] using this)
    have hne : ¬ (x.length : Int) = (y.length : Int) := by omega
    rw [he]
    refine run_finP pt79 Try.func79 rfl planned79 ?_
    simp (maxSteps := 2000000) -implicitDefEqProofs [Try.f79,ble_d,beq_d,List.range_succ,List.replicate,cond_true,cond_false,ibne,hne]
noncomputable def lt81 (i : Nat) : Code := (loopsOf (Try.f81.body.getD .skip)).getD i .skip
set_option maxRecDepth 20000 in
set_option maxHeartbeats 6400000 in
theorem strE81 {h0 : Heap} {va wa : Option Addr} {vc wc n : Nat} {x y : List ByteArray} (hn : x.length = n) (hn2 : y.length = n) (hk : n ≤ 2 ^ 47) (hv : Sl h0 (.slice va n vc) 1 n (strs x)) (hw : Sl h0 (.slice wa n wc) 1 n (strs y)) (heq : ∀ i,i < n → ((x.getD i .empty).toList == (y.getD i .empty).toList) = true) (F : Step) (hFF : F = aexecP Try.prog (sO 81) (run Try.prog sO) loopω pt81 (lt81 0)) (t : Tm)
    (ht : forget [2,3,4,6,7,8,9,10,11,12,13,14,15,16,17,18,19,20,21,22,23,24,25] t = [.slice va n vc,.slice wa n wc,Z,Z,Z,.int .i64 (0 : Nat),Z,Z,Z,Z,Z,Z,Z,Z,Z,Z,Z,Z,Z,Z,Z,Z,Z,Z,Z,Z]) (hI0 : h0 = h0) :
    ∃ h' x11 x12 x13 x14,loopω [2,3,4,6,7,8,9,10,11,12,13,14,15,16,17,18,19,20,21,22,23,24,25] F t h0 = some (.exit 0,[.slice va n vc,.slice wa n wc,Z,Z,Z,.int .i64 (n : Nat),Z,Z,Z,Z,Z,x11,x12,x13,x14,Z,Z,Z,Z,Z,Z,Z,Z,Z,Z,Z],h') ∧ h' = h0 := by
  subst hFF
  suffices hs : ∃ e t' h',loopω [2,3,4,6,7,8,9,10,11,12,13,14,15,16,17,18,19,20,21,22,23,24,25] (aexecP Try.prog (sO 81) (run Try.prog sO) loopω pt81 (lt81 0)) t h0 = some (e,t',h') ∧ (e = .exit 0 ∧ ∃ x11 x12 x13 x14,t' = [.slice va n vc,.slice wa n wc,Z,Z,Z,.int .i64 (n : Nat),Z,Z,Z,Z,Z,x11,x12,x13,x14,Z,Z,Z,Z,Z,Z,Z,Z,Z,Z,Z] ∧ h' = h0) by
    obtain ⟨e,t',h',q1,rfl,x11,x12,x13,x14,rfl,q2⟩ := hs
    exact ⟨h',x11,x12,x13,x14,q1,q2⟩
  simp only [lt81,Try.f81,loopsOf,Option.getD_some,List.nil_append,List.append_nil,List.cons_append,List.getD_cons_zero,List.getD_cons_succ]
  refine loop_by (fun k t h' => ∃ (i : Nat),i + k = n ∧ forget [2,3,4,6,7,8,9,10,11,12,13,14,15,16,17,18,19,20,21,22,23,24,25] t = [.slice va n vc,.slice wa n wc,Z,Z,Z,.int .i64 (i : Nat),Z,Z,Z,Z,Z,Z,Z,Z,Z,Z,Z,Z,Z,Z,Z,Z,Z,Z,Z,Z] ∧ h' = h0)
    (fun e t' h' => e = .exit 0 ∧ ∃ x11 x12 x13 x14,t' = [.slice va n vc,.slice wa n wc,Z,Z,Z,.int .i64 (n : Nat),Z,Z,Z,Z,Z,x11,x12,x13,x14,Z,Z,Z,Z,Z,Z,Z,Z,Z,Z,Z] ∧ h' = h0) ?_ (n) _ _ ⟨0,by omega,ht,hI0⟩
  rintro k t h' ⟨i,hi,ht,hI⟩
  rw [ht]
  rcases Nat.lt_or_ge i (n) with h1 | h1
  · have hinc := @inc64 i (by omega)
    have hcs := cast_succ i
    subst hI
    have hin : i < n := by omega
    obtain ⟨va,vc,C,ce,cs,gr,ro,eb,hg,hc⟩ := sl_str hv hin
    simp only [Value.slice.injEq,true_and] at eb
    obtain ⟨rfl,rfl⟩ := eb
    obtain ⟨wa,wc,C2,ce2,cs2,gr2,ro2,eb,hg2,hc2⟩ := sl_str hw hin
    simp only [Value.slice.injEq,true_and] at eb
    obtain ⟨rfl,rfl⟩ := eb
    
    have he := heq i (by omega)
    generalize x.getD i .empty = u at *
    generalize y.getD i .empty = w at *
    simp (maxSteps := 2000000) -implicitDefEqProofs [ble_d,beq_d,List.range_succ,List.replicate,cond_true,cond_false,hin,hg,hc,hg2,hc2,he,sne9,pt81_6,pl81_6,an81_6,aindexAddr,sz9,sz85,Try.underlying85,ibne,hinc,undef]
    exact ⟨k - 1,by omega,i + 1,by omega,by simp (maxSteps := 2000000) only [forget,List.set_cons_succ,List.set_cons_zero,hcs]⟩
  · obtain rfl : i = n := by omega
    simp (maxSteps := 2000000) -implicitDefEqProofs [ble_d,beq_d,List.range_succ,List.replicate,cond_true,cond_false,undef]
    exact hI
set_option maxRecDepth 20000 in
set_option maxHeartbeats 6400000 in
theorem strN81 {h0 : Heap} {va wa : Option Addr} {vc wc n : Nat} {x y : List ByteArray} (hn : x.length = n) (hn2 : y.length = n) (hk : n ≤ 2 ^ 47) (hv : Sl h0 (.slice va n vc) 1 n (strs x)) (hw : Sl h0 (.slice wa n wc) 1 n (strs y)) (p : Nat) (hp : p < n) (hne : ((x.getD p .empty).toList == (y.getD p .empty).toList) = false) (heq : ∀ i,i < p → ((x.getD i .empty).toList == (y.getD i .empty).toList) = true) (F : Step) (hFF : F = aexecP Try.prog (sO 81) (run Try.prog sO) loopω pt81 (lt81 0)) (t : Tm)
    (ht : forget [2,3,4,6,7,8,9,10,11,12,13,14,15,16,17,18,19,20,21,22,23,24,25] t = [.slice va n vc,.slice wa n wc,Z,Z,Z,.int .i64 (0 : Nat),Z,Z,Z,Z,Z,Z,Z,Z,Z,Z,Z,Z,Z,Z,Z,Z,Z,Z,Z,Z]) (hI0 : h0 = h0) :
    ∃ h' x11 x12 x13 x14 x17 x18 x19 x20 x21 x22 x23 x24 x25,loopω [2,3,4,6,7,8,9,10,11,12,13,14,15,16,17,18,19,20,21,22,23,24,25] F t h0 = some (.ret,[.slice va n vc,.slice wa n wc,Z,Z,.bool false,.int .i64 (p : Nat),Z,Z,Z,Z,Z,x11,x12,x13,x14,Z,Z,x17,x18,x19,x20,x21,x22,x23,x24,x25],h') ∧ h' = h0 := by
  subst hFF
  suffices hs : ∃ e t' h',loopω [2,3,4,6,7,8,9,10,11,12,13,14,15,16,17,18,19,20,21,22,23,24,25] (aexecP Try.prog (sO 81) (run Try.prog sO) loopω pt81 (lt81 0)) t h0 = some (e,t',h') ∧ (e = .ret ∧ ∃ x11 x12 x13 x14 x17 x18 x19 x20 x21 x22 x23 x24 x25,t' = [.slice va n vc,.slice wa n wc,Z,Z,.bool false,.int .i64 (p : Nat),Z,Z,Z,Z,Z,x11,x12,x13,x14,Z,Z,x17,x18,x19,x20,x21,x22,x23,x24,x25] ∧ h' = h0) by
    obtain ⟨e,t',h',q1,rfl,x11,x12,x13,x14,x17,x18,x19,x20,x21,x22,x23,x24,x25,rfl,q2⟩ := hs
    exact ⟨h',x11,x12,x13,x14,x17,x18,x19,x20,x21,x22,x23,x24,x25,q1,q2⟩
  simp only [lt81,Try.f81,loopsOf,Option.getD_some,List.nil_append,List.append_nil,List.cons_append,List.getD_cons_zero,List.getD_cons_succ]
  refine loop_by (fun k t h' => ∃ (i : Nat),i + k = p ∧ forget [2,3,4,6,7,8,9,10,11,12,13,14,15,16,17,18,19,20,21,22,23,24,25] t = [.slice va n vc,.slice wa n wc,Z,Z,Z,.int .i64 (i : Nat),Z,Z,Z,Z,Z,Z,Z,Z,Z,Z,Z,Z,Z,Z,Z,Z,Z,Z,Z,Z] ∧ h' = h0)
    (fun e t' h' => e = .ret ∧ ∃ x11 x12 x13 x14 x17 x18 x19 x20 x21 x22 x23 x24 x25,t' = [.slice va n vc,.slice wa n wc,Z,Z,.bool false,.int .i64 (p : Nat),Z,Z,Z,Z,Z,x11,x12,x13,x14,Z,Z,x17,x18,x19,x20,x21,x22,x23,x24,x25] ∧ h' = h0) ?_ (p) _ _ ⟨0,by omega,ht,hI0⟩
  rintro k t h' ⟨i,hi,ht,hI⟩
  rw [ht]
  rcases Nat.lt_or_ge i (p) with h1 | h1
  · have hinc := @inc64 i (by omega)
    have hcs := cast_succ i
    subst hI
    have hin : i < n := by omega
    obtain ⟨va,vc,C,ce,cs,gr,ro,eb,hg,hc⟩ := sl_str hv hin
    simp only [Value.slice.injEq,true_and] at eb
    obtain ⟨rfl,rfl⟩ := eb
    obtain ⟨wa,wc,C2,ce2,cs2,gr2,ro2,eb,hg2,hc2⟩ := sl_str hw hin
    simp only [Value.slice.injEq,true_and] at eb
    obtain ⟨rfl,rfl⟩ := eb
    
    have he := heq i (by omega)
    generalize x.getD i .empty = u at *
    generalize y.getD i .empty = w at *
    simp (maxSteps := 2000000) -implicitDefEqProofs [ble_d,beq_d,List.range_succ,List.replicate,cond_true,cond_false,hin,hg,hc,hg2,hc2,he,sne9,pt81_6,pl81_6,an81_6,aindexAddr,sz9,sz85,Try.underlying85,ibne,hinc,undef]
    exact ⟨k - 1,by omega,i + 1,by omega,by simp (maxSteps := 2000000) only [forget,List.set_cons_succ,List.set_cons_zero,hcs]⟩
  · obtain rfl : i = p := by omega
    
    have hinc := @inc64 i (by omega)
    have hcs := cast_succ i
    subst hI
    have hin : i < n := by omega
    obtain ⟨va,vc,C,ce,cs,gr,ro,eb,hg,hc⟩ := sl_str hv hin
    simp only [Value.slice.injEq,true_and] at eb
    obtain ⟨rfl,rfl⟩ := eb
    obtain ⟨wa,wc,C2,ce2,cs2,gr2,ro2,eb,hg2,hc2⟩ := sl_str hw hin
    simp only [Value.slice.injEq,true_and] at eb
    obtain ⟨rfl,rfl⟩ := eb
    have he := hne
    generalize x.getD i .empty = u at *
    generalize y.getD i .empty = w at *
    simp (maxSteps := 2000000) -implicitDefEqProofs [ble_d,beq_d,List.range_succ,List.replicate,cond_true,cond_false,hin,hg,hc,hg2,hc2,he,sne9,pt81_6,pl81_6,an81_6,aindexAddr,sz9,sz85,Try.underlying85,ibne,hinc,undef]
theorem useS81 {ks : List Nat} {F : Step} {t : Tm} {h : Heap} {rr : Option (AEx × Tm × Heap)} {f : Heap → Value → Value → Value → Value → Value → Value → Value → Value → Value → Value → Value → Value → Value → Option (AEx × Tm × Heap)} {p : Heap → Value → Value → Value → Value → Value → Value → Value → Value → Value → Value → Value → Value → Value → Prop} (hl : loopω ks F t h = rr) (H : ∃ h' x0 x1 x2 x3 x4 x5 x6 x7 x8 x9 x10 x11 x12,loopω ks F t h = f h' x0 x1 x2 x3 x4 x5 x6 x7 x8 x9 x10 x11 x12 ∧ p h' x0 x1 x2 x3 x4 x5 x6 x7 x8 x9 x10 x11 x12) : ∃ h' x0 x1 x2 x3 x4 x5 x6 x7 x8 x9 x10 x11 x12,rr = f h' x0 x1 x2 x3 x4 x5 x6 x7 x8 x9 x10 x11 x12 ∧ p h' x0 x1 x2 x3 x4 x5 x6 x7 x8 x9 x10 x11 x12 := hl ▸ H

theorem eqs81_run {h : Heap} {v w : Value} {x y : List ByteArray} (hv : Sl h v 1 x.length (strs x)) (hw : Sl h w 1 y.length (strs y)) (kx : x.length ≤ 2 ^ 47) (ky : y.length ≤ 2 ^ 47) : run Try.prog sO 81 [v,w] h = some (.bool (eqS x y),h) := by
  obtain ⟨va,vc,rfl⟩ := sl_form hv
  obtain ⟨wa,wc,rfl⟩ := sl_form hw
  by_cases hl : x.length = y.length
  · obtain ⟨n,hn⟩ : ∃ n,x.length = n := ⟨_,rfl⟩
    have hn2 : y.length = n := by omega
    suffices hz : ∃ r,fin Try.prog Try.f81 (aexecP Try.prog (sO 81) (run Try.prog sO) loopω pt81 (Try.f81.body.getD .skip) ([.slice va x.length vc,.slice wa y.length wc] ++ List.replicate (Try.f81.ntmps - 2) undef) h) = some r ∧ r.1 = .bool (eqS x y) ∧ r.2 = h by
      obtain ⟨⟨y1,y2⟩,hy,rfl,rfl⟩ := hz
      exact run_finP pt81 Try.func81 rfl planned81 hy
    have hs := eqS_split hl
    rw [hn] at hs hv ⊢
    rw [hn2] at hw ⊢
    simp (maxSteps := 2000000) -implicitDefEqProofs [Try.f81,ble_d,beq_d,List.range_succ,List.replicate,cond_true,cond_false,ibne,sO81]
    generalize hlp : loopω _ _ _ _ = r
    rcases hs with ⟨he,hall⟩ | ⟨he,p,hp,hne,hall⟩
    · rw [he]
      obtain ⟨h3,x11,x12,x13,x14,hz,hh⟩ := useX4 hlp (strE81 hn hn2 (by omega) hv hw hall _ (by kernel_rfl) _ (by kernel_rfl) rfl)
      subst hz
      subst hh
      simp (maxSteps := 2000000) -implicitDefEqProofs [ble_d,beq_d,List.range_succ,List.replicate,cond_true,cond_false]
    · rw [he]
      obtain ⟨h3,x11,x12,x13,x14,x17,x18,x19,x20,x21,x22,x23,x24,x25,hz,hh⟩ := useS81 hlp (strN81 hn hn2 (by omega) hv hw p hp hne hall _ (by kernel_rfl) _ (by kernel_rfl) rfl)
      subst hz
      subst hh
      simp (maxSteps := 2000000) -implicitDefEqProofs [ble_d,beq_d,List.range_succ,List.replicate,cond_true,cond_false]
  · have he : eqS x y = false := decide_eq_false fun e => hl (by have := congrArg List.length e; simpa [bts] using this)
    have hne : ¬ (x.length : Int) = (y.length : Int) := by omega
    rw [he]
    refine run_finP pt81 Try.func81 rfl planned81 ?_
    simp (maxSteps := 2000000) -implicitDefEqProofs [Try.f81,ble_d,beq_d,List.range_succ,List.replicate,cond_true,cond_false,ibne,hne]

def sameO (a b : Oc) : Bool := decide (a.e = b.e) && (decide (a.en = b.en) && (decide (a.st = b.st) && (eqS a.tx b.tx && eqS a.tr b.tr)))
theorem sz87 : szOf Try.prog 87 = some 6 := by kernel_rfl
theorem fa87_0 (n o : Nat) : afieldAddr Try.prog 87 (.pointer (some ⟨n,o,none⟩)) 0 = some (.pointer (some ⟨n,o + 0,none⟩)) := by kernel_rfl
theorem fa87_1 (n o : Nat) : afieldAddr Try.prog 87 (.pointer (some ⟨n,o,none⟩)) 1 = some (.pointer (some ⟨n,o + 1,none⟩)) := by kernel_rfl
theorem fa87_2 (n o : Nat) : afieldAddr Try.prog 87 (.pointer (some ⟨n,o,none⟩)) 2 = some (.pointer (some ⟨n,o + 2,none⟩)) := by kernel_rfl
theorem fa87_3 (n o : Nat) : afieldAddr Try.prog 87 (.pointer (some ⟨n,o,none⟩)) 3 = some (.pointer (some ⟨n,o + 3,none⟩)) := by kernel_rfl
theorem fa87_4 (n o : Nat) : afieldAddr Try.prog 87 (.pointer (some ⟨n,o,none⟩)) 4 = some (.pointer (some ⟨n,o + 4,none⟩)) := by kernel_rfl
theorem fa87_5 (n o : Nat) : afieldAddr Try.prog 87 (.pointer (some ⟨n,o,none⟩)) 5 = some (.pointer (some ⟨n,o + 5,none⟩)) := by kernel_rfl

/-- An outcome as a value. -/
def OV (h : Heap) (v : Value) (o : Oc) : Prop := ∃ a1 k1 c1 a2 k2 c2 a3 k3 c3,v = .agg #[.int .i64 o.e,.int .i64 o.en,.slice a1 k1 c1,.int .i64 o.st,.slice a2 k2 c2,.slice a3 k3 c3] ∧ Nest1 h o (.slice a1 k1 c1,.slice a2 k2 c2,.slice a3 k3 c3)
theorem OV.keep {h h' : Heap} {v : Value} {o : Oc} (hn : OV h v o) (hk : Keep No h h') : OV h' v o := by
  obtain ⟨a1,k1,c1,a2,k2,c2,a3,k3,c3,rfl,n⟩ := hn
  exact ⟨_,_,_,_,_,_,_,_,_,rfl,n.keep hk⟩
theorem bx87 (ρ : Operand → Value) (x : Operand) (e n s : Int) (a1 : Option Addr) (k1 c1 : Nat) (a2 : Option Addr) (k2 c2 : Nat) (a3 : Option Addr) (k3 c3 : Nat) (hx : ρ x = .agg #[.int .i64 e,.int .i64 n,.slice a1 k1 c1,.int .i64 s,.slice a2 k2 c2,.slice a3 k3 c3]) (d ty pos af gu) :
    aalloc Try.prog ρ ⟨d,.box 87 x,ty,pos,af,gu⟩ = some (.cells [.int .i64 e,.int .i64 n,.slice a1 k1 c1,.int .i64 s,.slice a2 k2 c2,.slice a3 k3 c3] 87 6 false false,fun n => .pointer (some ⟨n,0,none⟩)) :=
  bx 87 6 sz87 ρ x _ (by rw [hx]; rfl) d ty pos af gu

set_option maxRecDepth 20000 in
theorem same48_run {h : Heap} {v w : Value} {a b : Oc} (hv : OV h v a) (hw : OV h w b) (sa : SmallOc a) (sb : SmallOc b) : ∃ h',run Try.prog sO 48 [v,w] h = some (.bool (sameO a b),h') ∧ Keep No h h' := by
  obtain ⟨a1,k1,c1,a2,k2,c2,a3,k3,c3,rfl,n1,n2,_⟩ := hv
  obtain ⟨b1,m1,d1,b2,m2,d2,b3,m3,d3,rfl,o1,o2,_⟩ := hw
  obtain ⟨hA,hhA⟩ : ∃ x,x = h.new (.cells [.int .i64 a.e,.int .i64 a.en,.slice a1 k1 c1,.int .i64 a.st,.slice a2 k2 c2,.slice a3 k3 c3] 87 6 false false) := ⟨_,rfl⟩
  obtain ⟨hB,hhB⟩ : ∃ x,x = hA.new (.cells [.int .i64 b.e,.int .i64 b.en,.slice b1 m1 d1,.int .i64 b.st,.slice b2 m2 d2,.slice b3 m3 d3] 87 6 false false) := ⟨_,rfl⟩
  have kA : Keep No h hA := hhA ▸ Keep.new No h _
  have kB : Keep No hA hB := hhB ▸ Keep.new No hA _
  have gA : hA.get h.next = some (.cells [.int .i64 a.e,.int .i64 a.en,.slice a1 k1 c1,.int .i64 a.st,.slice a2 k2 c2,.slice a3 k3 c3] 87 6 false false) := by rw [hhA,Heap.get_new,if_pos rfl]
  have gB : hB.get hA.next = some (.cells [.int .i64 b.e,.int .i64 b.en,.slice b1 m1 d1,.int .i64 b.st,.slice b2 m2 d2,.slice b3 m3 d3] 87 6 false false) := by rw [hhB,Heap.get_new,if_pos rfl]
  have gA2 := kB.get gA fun x => x
  have kk := kA.trans kB
  have e1 := eqs79_run (n1.keep kk fun _ _ x => x) (o1.keep kk fun _ _ x => x) (by have := sa.1; omega) (by have := sb.1; omega)
  have e2 := eqs79_run (n2.keep kk fun _ _ x => x) (o2.keep kk fun _ _ x => x) (by have := sa.2.1; omega) (by have := sb.2.1; omega)
  have hbx1 := fun ρ x hx => bx87 ρ x a.e a.en a.st a1 k1 c1 a2 k2 c2 a3 k3 c3 hx
  have hbx2 := fun ρ x hx => bx87 ρ x b.e b.en b.st b1 m1 d1 b2 m2 d2 b3 m3 d3 hx
  have hr : sameO a b = (decide (a.e = b.e) && (decide (a.en = b.en) && (decide (a.st = b.st) && (eqS a.tx b.tx && eqS a.tr b.tr)))) := rfl
  rw [hr]
  refine ⟨hB,run_finP pt48 Try.func48 rfl planned48 ?_,kk⟩
  generalize eqS a.tx b.tx = q1 at *
  generalize eqS a.tr b.tr = q2 at *
  generalize a.e = ae at *
  generalize a.en = an at *
  generalize a.st = aq at *
  generalize b.e = be at *
  generalize b.en = bn at *
  generalize b.st = bs at *
  clear n1 n2 o1 o2
  by_cases x1 : ae = be
  · subst x1
    by_cases x2 : an = bn
    · subst x2
      by_cases x3 : aq = bs
      · subst x3
        cases q1 <;> simp (maxSteps := 2000000) -implicitDefEqProofs [Try.f48,ble_d,beq_d,List.range_succ,List.replicate,cond_true,cond_false,hbx1,hbx2,← hhA,← hhB,gA2,gB,fa87_0,fa87_1,fa87_2,fa87_3,fa87_4,ibeq,en79,e1,e2,undef]
      · simp (maxSteps := 2000000) -implicitDefEqProofs [Try.f48,ble_d,beq_d,List.range_succ,List.replicate,cond_true,cond_false,hbx1,hbx2,← hhA,← hhB,gA2,gB,fa87_0,fa87_1,fa87_2,fa87_3,fa87_4,ibeq,en79,x3,e1,e2,undef]
    · simp (maxSteps := 2000000) -implicitDefEqProofs [Try.f48,ble_d,beq_d,List.range_succ,List.replicate,cond_true,cond_false,hbx1,hbx2,← hhA,← hhB,gA2,gB,fa87_0,fa87_1,fa87_2,fa87_3,fa87_4,ibeq,en79,x2,e1,e2,undef]
  · simp (maxSteps := 2000000) -implicitDefEqProofs [Try.f48,ble_d,beq_d,List.range_succ,List.replicate,cond_true,cond_false,hbx1,hbx2,← hhA,← hhB,gA2,gB,fa87_0,fa87_1,fa87_2,fa87_3,fa87_4,ibeq,en79,x1,e1,e2,undef]

set_option maxRecDepth 20000 in
theorem same53_run {h : Heap} {v w : Value} {a b : Oc} (hv : OV h v a) (hw : OV h w b) (sa : SmallOc a) (sb : SmallOc b) : ∃ h',run Try.prog sO 53 [v,w] h = some (.bool (sameO a b),h') ∧ Keep No h h' := by
  obtain ⟨a1,k1,c1,a2,k2,c2,a3,k3,c3,rfl,n1,n2,_⟩ := hv
  obtain ⟨b1,m1,d1,b2,m2,d2,b3,m3,d3,rfl,o1,o2,_⟩ := hw
  obtain ⟨hA,hhA⟩ : ∃ x,x = h.new (.cells [.int .i64 a.e,.int .i64 a.en,.slice a1 k1 c1,.int .i64 a.st,.slice a2 k2 c2,.slice a3 k3 c3] 87 6 false false) := ⟨_,rfl⟩
  obtain ⟨hB,hhB⟩ : ∃ x,x = hA.new (.cells [.int .i64 b.e,.int .i64 b.en,.slice b1 m1 d1,.int .i64 b.st,.slice b2 m2 d2,.slice b3 m3 d3] 87 6 false false) := ⟨_,rfl⟩
  have kA : Keep No h hA := hhA ▸ Keep.new No h _
  have kB : Keep No hA hB := hhB ▸ Keep.new No hA _
  have gA : hA.get h.next = some (.cells [.int .i64 a.e,.int .i64 a.en,.slice a1 k1 c1,.int .i64 a.st,.slice a2 k2 c2,.slice a3 k3 c3] 87 6 false false) := by rw [hhA,Heap.get_new,if_pos rfl]
  have gB : hB.get hA.next = some (.cells [.int .i64 b.e,.int .i64 b.en,.slice b1 m1 d1,.int .i64 b.st,.slice b2 m2 d2,.slice b3 m3 d3] 87 6 false false) := by rw [hhB,Heap.get_new,if_pos rfl]
  have gA2 := kB.get gA fun x => x
  have kk := kA.trans kB
  have e1 := eqs81_run (n1.keep kk fun _ _ x => x) (o1.keep kk fun _ _ x => x) (by have := sa.1; omega) (by have := sb.1; omega)
  have e2 := eqs81_run (n2.keep kk fun _ _ x => x) (o2.keep kk fun _ _ x => x) (by have := sa.2.1; omega) (by have := sb.2.1; omega)
  have hbx1 := fun ρ x hx => bx87 ρ x a.e a.en a.st a1 k1 c1 a2 k2 c2 a3 k3 c3 hx
  have hbx2 := fun ρ x hx => bx87 ρ x b.e b.en b.st b1 m1 d1 b2 m2 d2 b3 m3 d3 hx
  have hr : sameO a b = (decide (a.e = b.e) && (decide (a.en = b.en) && (decide (a.st = b.st) && (eqS a.tx b.tx && eqS a.tr b.tr)))) := rfl
  rw [hr]
  refine ⟨hB,run_finP pt53 Try.func53 rfl planned53 ?_,kk⟩
  generalize eqS a.tx b.tx = q1 at *
  generalize eqS a.tr b.tr = q2 at *
  generalize a.e = ae at *
  generalize a.en = an at *
  generalize a.st = aq at *
  generalize b.e = be at *
  generalize b.en = bn at *
  generalize b.st = bs at *
  clear n1 n2 o1 o2
  by_cases x1 : ae = be
  · subst x1
    by_cases x2 : an = bn
    · subst x2
      by_cases x3 : aq = bs
      · subst x3
        cases q1 <;> simp (maxSteps := 2000000) -implicitDefEqProofs [Try.f53,ble_d,beq_d,List.range_succ,List.replicate,cond_true,cond_false,hbx1,hbx2,← hhA,← hhB,gA2,gB,fa87_0,fa87_1,fa87_2,fa87_3,fa87_4,ibeq,en81,e1,e2,undef]
      · simp (maxSteps := 2000000) -implicitDefEqProofs [Try.f53,ble_d,beq_d,List.range_succ,List.replicate,cond_true,cond_false,hbx1,hbx2,← hhA,← hhB,gA2,gB,fa87_0,fa87_1,fa87_2,fa87_3,fa87_4,ibeq,en81,x3,e1,e2,undef]
    · simp (maxSteps := 2000000) -implicitDefEqProofs [Try.f53,ble_d,beq_d,List.range_succ,List.replicate,cond_true,cond_false,hbx1,hbx2,← hhA,← hhB,gA2,gB,fa87_0,fa87_1,fa87_2,fa87_3,fa87_4,ibeq,en81,x2,e1,e2,undef]
  · simp (maxSteps := 2000000) -implicitDefEqProofs [Try.f53,ble_d,beq_d,List.range_succ,List.replicate,cond_true,cond_false,hbx1,hbx2,← hhA,← hhB,gA2,gB,fa87_0,fa87_1,fa87_2,fa87_3,fa87_4,ibeq,en81,x1,e1,e2,undef]
end Go.Proofs.Ytmnkmdfladbgdaa.Od

set_option linter.unusedVariables false
set_option linter.unusedSimpArgs false
namespace Go.Proofs.Ytmnkmdfladbgdaa.Od
open Go Go.Proofs Go.RowKit Go.Proofs.YtmnkmdfladbgdaaAI Go.Proofs.YtmnkmdfladbgdaaFl
noncomputable def lt47 (i : Nat) : Code := (loopsOf (Try.f47.body.getD .skip)).getD i .skip

/-- Numbers of places. -/
def idx (l : List Nat) : List Value := l.map fun (n : Nat) => Value.int .i64 (n : Int)
theorem idx_len (l : List Nat) : (idx l).length = l.length := by simp [idx]
theorem idx_snoc (l : List Nat) (x : Nat) : idx (l ++ [x]) = idx l ++ [.int .i64 (x : Nat)] := by simp [idx]
theorem sl_idx {h : Heap} {v : Value} {k : Nat} {l : List Nat} (hs : Sl h v 1 k (idx l)) {i : Nat} (hi : i < k) :
    ∃ a n c e s gr ro,v = .slice (some a) k n ∧ h.get a.block = some (.cells c e s gr ro) ∧ c[a.off + i]? = some (.int .i64 (l.getD i 0 : Nat)) := by
  have hs0 := hs
  obtain ⟨hl,⟨rfl,rfl⟩ | ⟨a,n,rfl,_⟩⟩ := hs0
  · omega
  · obtain ⟨c,e,s,gr,ro,hg,_,_,hget⟩ := hs.fit (by omega) (by omega)
    refine ⟨a,n,c,e,s,gr,ro,rfl,hg,?_⟩
    rw [hget i (by omega)]
    have hi' : i < l.length := by simp only [idx,List.length_map] at hl; omega
    simp [idx,List.getElem?_eq_getElem hi']
/-- One number more. -/
theorem app_idx {h : Heap} {v : Value} {l : List Nat} (hl : Lg h v 3 1 l.length (idx l)) (hk : (l.length + 1) * 8 ≤ 2 ^ 47) (x : Nat) :
    ∃ v' h',aappend Try.prog 90 90 v (.slice (some ⟨h.next,0,none⟩) 1 1) (h.new (.cells [.int .i64 (x : Nat)] 3 1 false false)) = some (v',h') ∧ Lg h' v' 3 1 (l ++ [x]).length (idx (l ++ [x])) ∧ Keep (fun m => nm v = some m) h h' ∧ ∀ m,nm v' = some m → nm v = some m ∨ h.next ≤ m := by
  have k0 := Keep.new No h (.cells [.int .i64 (x : Nat)] 3 1 false false)
  have hx : Sl (h.new (.cells [.int .i64 (x : Nat)] 3 1 false false)) (.slice (some ⟨h.next,0,none⟩) 1 1) 1 1 [.int .i64 (x : Nat)] :=
    ⟨rfl,.inr ⟨_,_,rfl,fun _ => ⟨_,_,_,_,_,by rw [Heap.get_new,if_pos rfl],rfl⟩⟩⟩
  obtain ⟨v8,h8,e8,lg8,kp8,nv8,_,nf8⟩ := append_lg (t := 90) (xt := 90) Try.underlying90 Try.underlying90 rfl el3 (hl.keep k0 (fun _ _ x => x)) hx (by omega) (by omega) rfl
  refine ⟨v8,h8,e8,by rw [idx_snoc,List.length_append]; exact lg8,(k0.mono fun m _ x => x.elim).also kp8 fun m _ x => x,fun m e => ?_⟩
  rcases Nat.lt_or_ge m (h.next + 1) with y | y
  · exact .inl (nv8 m e (by rw [Heap.next_new]; exact y))
  · exact .inr (by omega)
theorem bs90_1'' (a : Int) (d ty pos af gu) : aalloc Try.prog (fun _ => .int .i64 a) ⟨d,.buildSlice 90 1 #[(0,.tmp 0)],ty,pos,af,gu⟩ = some (.cells [.int .i64 a] 3 1 false false,fun n => .slice (some ⟨n,0,none⟩) 1 1) := by kernel_rfl
theorem bs90_one (ρ : Operand → Value) (x) (a : Int) (hx : ρ x = .int .i64 a) (d ty pos af gu) : aalloc Try.prog ρ ⟨d,.buildSlice 90 1 #[(0,x)],ty,pos,af,gu⟩ = some (.cells [.int .i64 a] 3 1 false false,fun n => .slice (some ⟨n,0,none⟩) 1 1) := by
  have h1 : aalloc Try.prog ρ ⟨d,.buildSlice 90 1 #[(0,x)],ty,pos,af,gu⟩ = aalloc Try.prog (fun _ => ρ x) ⟨d,.buildSlice 90 1 #[(0,.tmp 0)],ty,pos,af,gu⟩ := by simp [aalloc]
  rw [h1,hx]; exact bs90_1'' _ _ _ _ _ _
theorem ocs_drop : ∀ {l : List Oc} {vs : List (Value × Value × Value)} (hl : vs.length = l.length) {i : Nat} (hi : i < l.length),((ocs l vs).drop (i * 6)).take 6 = oc6 l[i] (vs[i]'(by omega))
  | o :: l,v :: vs,hl,0,hi => by simp [ocs,oc6]
  | o :: l,v :: vs,hl,i + 1,hi => by
    have := ocs_drop (l := l) (vs := vs) (by simpa using hl) (i := i) (by simpa using hi)
    rw [show (i + 1) * 6 = 6 + i * 6 by omega,ocs,← List.drop_drop]
    have e : (oc6 o v ++ ocs l vs).drop 6 = ocs l vs := by simp [oc6]
    rw [e]
    simpa using this
/-- An outcome in its row. -/
theorem os_at {h : Heap} {v : Value} {l : List Oc} (hs : Outs h v l) {i : Nat} (hi : i < l.length) :
    ∃ a n C ce cs gr ro a1 k1 c1 a2 k2 c2 a3 k3 c3,v = .slice (some a) l.length n ∧ h.get a.block = some (.cells C ce cs gr ro) ∧ a.off + i * 6 + 6 ≤ C.length ∧ (C.drop (a.off + i * 6)).take 6 = [.int .i64 (l.getD i oc0).e,.int .i64 (l.getD i oc0).en,.slice a1 k1 c1,.int .i64 (l.getD i oc0).st,.slice a2 k2 c2,.slice a3 k3 c3] ∧
      C[a.off + i * 6 + 5]? = some (.slice a3 k3 c3) ∧ Nest1 h (l.getD i oc0) (.slice a1 k1 c1,.slice a2 k2 c2,.slice a3 k3 c3) := by
  obtain ⟨vs,hlv,hsl,hn⟩ := hs
  have hs0 := hsl
  obtain ⟨hl,⟨rfl,h0⟩ | ⟨a,n,rfl,hcell⟩⟩ := hs0
  · omega
  · obtain ⟨C,e,s,gr,ro,hg,hc⟩ := hcell (by omega)
    have hoc := ocs_drop hlv hi
    have hnest := hn i l[i] (vs[i]'(by omega)) (List.getElem?_eq_getElem hi) (List.getElem?_eq_getElem (by omega))
    have hgd : l.getD i oc0 = l[i] := by simp [List.getD_eq_getElem?_getD,List.getElem?_eq_getElem hi]
    rw [hgd]
    obtain ⟨a1,c1,f1⟩ := sl_form hnest.1
    obtain ⟨a2,c2,f2⟩ := sl_form hnest.2.1
    obtain ⟨a3,c3,f3⟩ := sl_form hnest.2.2
    have hlen : (ocs l vs).length = l.length * 6 := ocs_len hlv
    rw [← hc] at hlen hoc
    have hCl : a.off + l.length * 6 ≤ C.length := by
      rw [List.length_take,List.length_drop] at hlen; omega
    have e6 : (C.drop (a.off + i * 6)).take 6 = oc6 l[i] (vs[i]'(by omega)) := by
      rw [← hoc,List.drop_take,List.take_take,List.drop_drop,Nat.min_eq_left (by omega)]
    rw [oc6,f1,f2,f3] at e6
    refine ⟨a,n,C,e,s,gr,ro,a1,_,c1,a2,_,c2,a3,_,c3,rfl,hg,by omega,e6,?_,by rw [← f1,← f2,← f3]; exact hnest⟩
    have := congrArg (fun (z : List Value) => z[5]?) e6
    simp only [List.getElem?_take,List.getElem?_drop] at this
    simpa using this
/-- Is an outcome among those that were met? -/
def anyB (l : List Oc) (k : Nat) (out : List Nat) : Bool := out.any fun f => sameO (l.getD f oc0) (l.getD k oc0)
/-- The outcomes that are unlike those ahead of them. -/
def unlL (l : List Oc) : Nat → List Nat
  | 0 => []
  | k + 1 => if anyB l k (unlL l k) = true then unlL l k else unlL l k ++ [k]
theorem unlL_lt (l : List Oc) (k : Nat) : ∀ f ∈ unlL l k,f < k := by
  induction k with
  | zero => intro f hf; cases hf
  | succ k ih =>
    intro f hf
    unfold unlL at hf
    split at hf
    · have := ih f hf; omega
    · rcases List.mem_append.1 hf with h | h
      · have := ih f h; omega
      · have := List.mem_singleton.1 h; omega
theorem unlL_len (l : List Oc) (k : Nat) : (unlL l k).length ≤ k := by
  induction k with
  | zero => exact Nat.le_refl _
  | succ k ih =>
    unfold unlL
    split
    · omega
    · rw [List.length_append]; simp; omega
theorem any_split {α : Type} (d : α) (p : α → Bool) (l : List α) : (l.any p = false ∧ ∀ i,i < l.length → p (l.getD i d) = false) ∨ (l.any p = true ∧ ∃ i,i < l.length ∧ p (l.getD i d) = true ∧ ∀ j,j < i → p (l.getD j d) = false) := by
  induction l with
  | nil => exact .inl ⟨rfl,fun i hi => by simp at hi⟩
  | cons x l ih =>
    cases hx : p x
    · rcases ih with ⟨h1,h2⟩ | ⟨h1,i,h2,h3,h4⟩
      · refine .inl ⟨by rw [List.any_cons,hx,h1]; rfl,fun i hi => ?_⟩
        cases i with
        | zero => simpa using hx
        | succ i => simpa using h2 i (by simpa using hi)
      · refine .inr ⟨by rw [List.any_cons,hx,h1]; rfl,i + 1,by simpa using h2,by simpa using h3,fun j hj => ?_⟩
        cases j with
        | zero => simpa using hx
        | succ j => simpa using h4 j (by omega)
    · exact .inr ⟨by rw [List.any_cons,hx]; rfl,0,by simp,by simpa using hx,fun j hj => by omega⟩
theorem getD_mem {l : List Nat} {i : Nat} (hi : i < l.length) : l.getD i 0 ∈ l := by
  rw [List.getD_eq_getElem?_getD,List.getElem?_eq_getElem hi]; exact List.getElem_mem hi
def Small (l : List Oc) : Prop := ∀ o ∈ l,SmallOc o
theorem Small.get {l : List Oc} (h : Small l) {i : Nat} (hi : i < l.length) : SmallOc (l.getD i oc0) := by
  rw [List.getD_eq_getElem?_getD,List.getElem?_eq_getElem hi]; exact h _ (List.getElem_mem hi)
theorem al87 (ρ : Operand → Value) (d ty pos af gu) : aalloc Try.prog ρ ⟨d,.alloc 87,ty,pos,af,gu⟩ = some (.cells [.int .i64 0,.int .i64 0,.slice none 0 0,.int .i64 0,.slice none 0 0,.slice none 0 0] 87 6 false false,fun n => .pointer (some ⟨n,0,none⟩)) := by kernel_rfl
theorem ok87 (e n s : Int) (a1 : Option Addr) (k1 c1 : Nat) (a2 : Option Addr) (k2 c2 : Nat) (a3 : Option Addr) (k3 c3 : Nat) : okCells (.agg #[.int .i64 e,.int .i64 n,.slice a1 k1 c1,.int .i64 s,.slice a2 k2 c2,.slice a3 k3 c3]) = some [.int .i64 e,.int .i64 n,.slice a1 k1 c1,.int .i64 s,.slice a2 k2 c2,.slice a3 k3 c3] := rfl
set_option maxRecDepth 20000 in
set_option maxHeartbeats 6400000 in
theorem unlE {h0 : Heap} {va oa : Option Addr} {vc n m K N oc : Nat} {l : List Oc} {out : List Nat} {p1 : Option Addr} {q1 r1 : Nat} {p2 : Option Addr} {q2 r2 : Nat} {p3 : Option Addr} {q3 r3 : Nat} {o2 : Oc} (hn : l.length = n) (hN : out.length = N) (hk : n ≤ 2 ^ 47) (hkN : N ≤ 2 ^ 47) (hsm : Small l) (hK : K < n) (hlt : ∀ f ∈ out,f < n) (hv : Outs h0 (.slice va n vc) l) (ho : Sl h0 (.slice oa N oc) 1 N (idx out)) (hb : h0.get m = some (.cells [.int .i64 o2.e,.int .i64 o2.en,.slice p1 q1 r1,.int .i64 o2.st,.slice p2 q2 r2,.slice p3 q3 r3] 87 6 false false)) (ho2 : l.getD K oc0 = o2) (hbo : OV h0 (.agg #[.int .i64 o2.e,.int .i64 o2.en,.slice p1 q1 r1,.int .i64 o2.st,.slice p2 q2 r2,.slice p3 q3 r3]) o2) (hall : ∀ i,i < N → sameO (l.getD (out.getD i 0) oc0) o2 = false) (F : Step) (hFF : F = aexecP Try.prog (sO 47) (run Try.prog sO) loopω pt47 (lt47 1)) (t : Tm)
    (ht : forget [1,2,6,7,11,12,13,14,18,19,20,21,22,23,24,25,26,27,28,29,30,31,32,33] t = [.slice va n vc,Z,Z,.slice oa N oc,.int .i64 (K : Nat),.pointer (some ⟨m,0,none⟩),Z,Z,.slice va n vc,.int .i64 n,.int .i64 (K : Nat),Z,Z,Z,Z,.slice oa N oc,.int .i64 N,.int .i64 (0 : Nat),Z,Z,Z,Z,Z,Z,Z,Z,Z,Z,Z,Z,Z,Z,Z,Z]) (hI0 : (Keep No h0 h0 ∧ True)) :
    ∃ h' x18,loopω [1,2,6,7,11,12,13,14,18,19,20,21,22,23,24,25,26,27,28,29,30,31,32,33] F t h0 = some (.exit 2,[.slice va n vc,Z,Z,.slice oa N oc,.int .i64 (K : Nat),.pointer (some ⟨m,0,none⟩),Z,Z,.slice va n vc,.int .i64 n,.int .i64 (K : Nat),Z,Z,Z,Z,.slice oa N oc,.int .i64 N,.int .i64 (N : Nat),x18,Z,Z,Z,Z,Z,Z,Z,Z,Z,Z,Z,Z,Z,Z,Z],h') ∧ (Keep No h0 h' ∧ True) := by
  subst hFF
  suffices hs : ∃ e t' h',loopω [1,2,6,7,11,12,13,14,18,19,20,21,22,23,24,25,26,27,28,29,30,31,32,33] (aexecP Try.prog (sO 47) (run Try.prog sO) loopω pt47 (lt47 1)) t h0 = some (e,t',h') ∧ (e = .exit 2 ∧ ∃ x18,t' = [.slice va n vc,Z,Z,.slice oa N oc,.int .i64 (K : Nat),.pointer (some ⟨m,0,none⟩),Z,Z,.slice va n vc,.int .i64 n,.int .i64 (K : Nat),Z,Z,Z,Z,.slice oa N oc,.int .i64 N,.int .i64 (N : Nat),x18,Z,Z,Z,Z,Z,Z,Z,Z,Z,Z,Z,Z,Z,Z,Z] ∧ (Keep No h0 h' ∧ True)) by
    obtain ⟨e,t',h',q1,rfl,x18,rfl,q2⟩ := hs
    exact ⟨h',x18,q1,q2⟩
  simp only [lt47,Try.f47,loopsOf,Option.getD_some,List.nil_append,List.append_nil,List.cons_append,List.getD_cons_zero,List.getD_cons_succ]
  refine loop_by (fun k t h' => ∃ (i : Nat),i + k = N ∧ forget [1,2,6,7,11,12,13,14,18,19,20,21,22,23,24,25,26,27,28,29,30,31,32,33] t = [.slice va n vc,Z,Z,.slice oa N oc,.int .i64 (K : Nat),.pointer (some ⟨m,0,none⟩),Z,Z,.slice va n vc,.int .i64 n,.int .i64 (K : Nat),Z,Z,Z,Z,.slice oa N oc,.int .i64 N,.int .i64 (i : Nat),Z,Z,Z,Z,Z,Z,Z,Z,Z,Z,Z,Z,Z,Z,Z,Z] ∧ (Keep No h0 h' ∧ True))
    (fun e t' h' => e = .exit 2 ∧ ∃ x18,t' = [.slice va n vc,Z,Z,.slice oa N oc,.int .i64 (K : Nat),.pointer (some ⟨m,0,none⟩),Z,Z,.slice va n vc,.int .i64 n,.int .i64 (K : Nat),Z,Z,Z,Z,.slice oa N oc,.int .i64 N,.int .i64 (N : Nat),x18,Z,Z,Z,Z,Z,Z,Z,Z,Z,Z,Z,Z,Z,Z,Z] ∧ (Keep No h0 h' ∧ True)) ?_ (N) _ _ ⟨0,by omega,ht,hI0⟩
  rintro k t h' ⟨i,hi,ht,hI⟩
  rw [ht]
  rcases Nat.lt_or_ge i (N) with h1 | h1
  · have hinc := @inc64 i (by omega)
    have hcs := cast_succ i
    have kp := hI.1
    clear hI
    have hiN : i < N := by omega
    have hf := hlt _ (getD_mem (l := out) (i := i) (by omega))
    have hr := hall i (by omega)
    obtain ⟨oa,oc,C,ce,cs,gr,ro,eb,hg,hc⟩ := sl_idx (ho.keep kp fun _ _ x => x) hiN
    simp only [Value.slice.injEq,true_and] at eb
    obtain ⟨rfl,rfl⟩ := eb
    generalize out.getD i 0 = f at *
    obtain ⟨wa,wc,C2,ce2,cs2,gr2,ro2,x1,y1,z1,x2,y2,z2,x3,y3,z3,eb,hg2,hf2,hd2,_,hnest⟩ := os_at (hv.keep kp) (show f < l.length by omega)
    rw [hn] at eb
    simp only [Value.slice.injEq,true_and] at eb
    obtain ⟨rfl,rfl⟩ := eb
    have hbk := kp.get hb fun x => x
    obtain ⟨h4,e4,k4⟩ := same48_run (h := h') ⟨_,_,_,_,_,_,_,_,_,rfl,hnest⟩ (hbo.keep kp) (hsm.get (by omega)) (ho2 ▸ hsm.get (by omega))
    rw [hr] at e4
    clear hr
    have l4 := k4.1
    generalize l.getD f oc0 = o1 at *
    simp (maxSteps := 2000000) -implicitDefEqProofs [ble_d,beq_d,List.range_succ,List.replicate,cond_true,cond_false,hiN,hf,hg,hc,hg2,hf2,hd2,hbk,pt47_8,pl47_8,an47_8,aindexAddr,sz3,sz87,Try.underlying90,Try.underlying55,Try.underlying87,ok87,en48,e4,l4,hinc,undef]
    exact ⟨k - 1,by omega,i + 1,by omega,by simp (maxSteps := 2000000) only [forget,List.set_cons_succ,List.set_cons_zero,hcs],kp.trans k4⟩
  · obtain rfl : i = N := by omega
    simp (maxSteps := 2000000) -implicitDefEqProofs [ble_d,beq_d,List.range_succ,List.replicate,cond_true,cond_false,undef]
    exact hI.1
set_option maxRecDepth 20000 in
set_option maxHeartbeats 6400000 in
theorem unlN {h0 : Heap} {va oa : Option Addr} {vc n m K N oc : Nat} {l : List Oc} {out : List Nat} {p1 : Option Addr} {q1 r1 : Nat} {p2 : Option Addr} {q2 r2 : Nat} {p3 : Option Addr} {q3 r3 : Nat} {o2 : Oc} (hn : l.length = n) (hN : out.length = N) (hk : n ≤ 2 ^ 47) (hkN : N ≤ 2 ^ 47) (hsm : Small l) (hK : K < n) (hlt : ∀ f ∈ out,f < n) (hv : Outs h0 (.slice va n vc) l) (ho : Sl h0 (.slice oa N oc) 1 N (idx out)) (hb : h0.get m = some (.cells [.int .i64 o2.e,.int .i64 o2.en,.slice p1 q1 r1,.int .i64 o2.st,.slice p2 q2 r2,.slice p3 q3 r3] 87 6 false false)) (ho2 : l.getD K oc0 = o2) (hbo : OV h0 (.agg #[.int .i64 o2.e,.int .i64 o2.en,.slice p1 q1 r1,.int .i64 o2.st,.slice p2 q2 r2,.slice p3 q3 r3]) o2) (p : Nat) (hp : p < N) (hsame : sameO (l.getD (out.getD p 0) oc0) o2 = true) (hall : ∀ i,i < p → sameO (l.getD (out.getD i 0) oc0) o2 = false) (F : Step) (hFF : F = aexecP Try.prog (sO 47) (run Try.prog sO) loopω pt47 (lt47 1)) (t : Tm)
    (ht : forget [1,2,6,7,11,12,13,14,18,19,20,21,22,23,24,25,26,27,28,29,30,31,32,33] t = [.slice va n vc,Z,Z,.slice oa N oc,.int .i64 (K : Nat),.pointer (some ⟨m,0,none⟩),Z,Z,.slice va n vc,.int .i64 n,.int .i64 (K : Nat),Z,Z,Z,Z,.slice oa N oc,.int .i64 N,.int .i64 (0 : Nat),Z,Z,Z,Z,Z,Z,Z,Z,Z,Z,Z,Z,Z,Z,Z,Z]) (hI0 : (Keep No h0 h0 ∧ True)) :
    ∃ h' x7 x18 x19 x20 x21 x22 x23 x24 x25 x26,loopω [1,2,6,7,11,12,13,14,18,19,20,21,22,23,24,25,26,27,28,29,30,31,32,33] F t h0 = some (.exit 1,[.slice va n vc,Z,Z,.slice oa N oc,.int .i64 (K : Nat),.pointer (some ⟨m,0,none⟩),Z,x7,.slice va n vc,.int .i64 n,.int .i64 (K : Nat),Z,Z,Z,Z,.slice oa N oc,.int .i64 N,.int .i64 (p : Nat),x18,x19,x20,x21,x22,x23,x24,x25,x26,Z,Z,Z,Z,Z,Z,Z],h') ∧ (Keep No h0 h' ∧ True) := by
  subst hFF
  suffices hs : ∃ e t' h',loopω [1,2,6,7,11,12,13,14,18,19,20,21,22,23,24,25,26,27,28,29,30,31,32,33] (aexecP Try.prog (sO 47) (run Try.prog sO) loopω pt47 (lt47 1)) t h0 = some (e,t',h') ∧ (e = .exit 1 ∧ ∃ x7 x18 x19 x20 x21 x22 x23 x24 x25 x26,t' = [.slice va n vc,Z,Z,.slice oa N oc,.int .i64 (K : Nat),.pointer (some ⟨m,0,none⟩),Z,x7,.slice va n vc,.int .i64 n,.int .i64 (K : Nat),Z,Z,Z,Z,.slice oa N oc,.int .i64 N,.int .i64 (p : Nat),x18,x19,x20,x21,x22,x23,x24,x25,x26,Z,Z,Z,Z,Z,Z,Z] ∧ (Keep No h0 h' ∧ True)) by
    obtain ⟨e,t',h',q1,rfl,x7,x18,x19,x20,x21,x22,x23,x24,x25,x26,rfl,q2⟩ := hs
    exact ⟨h',x7,x18,x19,x20,x21,x22,x23,x24,x25,x26,q1,q2⟩
  simp only [lt47,Try.f47,loopsOf,Option.getD_some,List.nil_append,List.append_nil,List.cons_append,List.getD_cons_zero,List.getD_cons_succ]
  refine loop_by (fun k t h' => ∃ (i : Nat),i + k = p ∧ forget [1,2,6,7,11,12,13,14,18,19,20,21,22,23,24,25,26,27,28,29,30,31,32,33] t = [.slice va n vc,Z,Z,.slice oa N oc,.int .i64 (K : Nat),.pointer (some ⟨m,0,none⟩),Z,Z,.slice va n vc,.int .i64 n,.int .i64 (K : Nat),Z,Z,Z,Z,.slice oa N oc,.int .i64 N,.int .i64 (i : Nat),Z,Z,Z,Z,Z,Z,Z,Z,Z,Z,Z,Z,Z,Z,Z,Z] ∧ (Keep No h0 h' ∧ True))
    (fun e t' h' => e = .exit 1 ∧ ∃ x7 x18 x19 x20 x21 x22 x23 x24 x25 x26,t' = [.slice va n vc,Z,Z,.slice oa N oc,.int .i64 (K : Nat),.pointer (some ⟨m,0,none⟩),Z,x7,.slice va n vc,.int .i64 n,.int .i64 (K : Nat),Z,Z,Z,Z,.slice oa N oc,.int .i64 N,.int .i64 (p : Nat),x18,x19,x20,x21,x22,x23,x24,x25,x26,Z,Z,Z,Z,Z,Z,Z] ∧ (Keep No h0 h' ∧ True)) ?_ (p) _ _ ⟨0,by omega,ht,hI0⟩
  rintro k t h' ⟨i,hi,ht,hI⟩
  rw [ht]
  rcases Nat.lt_or_ge i (p) with h1 | h1
  · have hinc := @inc64 i (by omega)
    have hcs := cast_succ i
    have kp := hI.1
    clear hI
    have hiN : i < N := by omega
    have hf := hlt _ (getD_mem (l := out) (i := i) (by omega))
    have hr := hall i (by omega)
    obtain ⟨oa,oc,C,ce,cs,gr,ro,eb,hg,hc⟩ := sl_idx (ho.keep kp fun _ _ x => x) hiN
    simp only [Value.slice.injEq,true_and] at eb
    obtain ⟨rfl,rfl⟩ := eb
    generalize out.getD i 0 = f at *
    obtain ⟨wa,wc,C2,ce2,cs2,gr2,ro2,x1,y1,z1,x2,y2,z2,x3,y3,z3,eb,hg2,hf2,hd2,_,hnest⟩ := os_at (hv.keep kp) (show f < l.length by omega)
    rw [hn] at eb
    simp only [Value.slice.injEq,true_and] at eb
    obtain ⟨rfl,rfl⟩ := eb
    have hbk := kp.get hb fun x => x
    obtain ⟨h4,e4,k4⟩ := same48_run (h := h') ⟨_,_,_,_,_,_,_,_,_,rfl,hnest⟩ (hbo.keep kp) (hsm.get (by omega)) (ho2 ▸ hsm.get (by omega))
    rw [hr] at e4
    clear hr
    have l4 := k4.1
    generalize l.getD f oc0 = o1 at *
    simp (maxSteps := 2000000) -implicitDefEqProofs [ble_d,beq_d,List.range_succ,List.replicate,cond_true,cond_false,hiN,hf,hg,hc,hg2,hf2,hd2,hbk,pt47_8,pl47_8,an47_8,aindexAddr,sz3,sz87,Try.underlying90,Try.underlying55,Try.underlying87,ok87,en48,e4,l4,hinc,undef]
    exact ⟨k - 1,by omega,i + 1,by omega,by simp (maxSteps := 2000000) only [forget,List.set_cons_succ,List.set_cons_zero,hcs],kp.trans k4⟩
  · obtain rfl : i = p := by omega
    
    have hinc := @inc64 i (by omega)
    have hcs := cast_succ i
    have kp := hI.1
    clear hI
    have hiN : i < N := by omega
    have hf := hlt _ (getD_mem (l := out) (i := i) (by omega))
    have hr := hsame
    obtain ⟨oa,oc,C,ce,cs,gr,ro,eb,hg,hc⟩ := sl_idx (ho.keep kp fun _ _ x => x) hiN
    simp only [Value.slice.injEq,true_and] at eb
    obtain ⟨rfl,rfl⟩ := eb
    generalize out.getD i 0 = f at *
    obtain ⟨wa,wc,C2,ce2,cs2,gr2,ro2,x1,y1,z1,x2,y2,z2,x3,y3,z3,eb,hg2,hf2,hd2,_,hnest⟩ := os_at (hv.keep kp) (show f < l.length by omega)
    rw [hn] at eb
    simp only [Value.slice.injEq,true_and] at eb
    obtain ⟨rfl,rfl⟩ := eb
    have hbk := kp.get hb fun x => x
    obtain ⟨h4,e4,k4⟩ := same48_run (h := h') ⟨_,_,_,_,_,_,_,_,_,rfl,hnest⟩ (hbo.keep kp) (hsm.get (by omega)) (ho2 ▸ hsm.get (by omega))
    rw [hr] at e4
    clear hr
    have l4 := k4.1
    generalize l.getD f oc0 = o1 at *
    simp (maxSteps := 2000000) -implicitDefEqProofs [ble_d,beq_d,List.range_succ,List.replicate,cond_true,cond_false,hiN,hf,hg,hc,hg2,hf2,hd2,hbk,pt47_8,pl47_8,an47_8,aindexAddr,sz3,sz87,Try.underlying90,Try.underlying55,Try.underlying87,ok87,en48,e4,l4,hinc,undef]
    exact kp.trans k4
set_option maxRecDepth 20000 in
set_option maxHeartbeats 6400000 in
theorem unl1 {h0 : Heap} {va : Option Addr} {vc n : Nat} {l : List Oc} (hn : l.length = n) (hk : n * 8 ≤ 2 ^ 47) (hsm : Small l) (hv : Outs h0 (.slice va n vc) l) (v0 : Value) (F : Step) (hFF : F = aexecP Try.prog (sO 47) (run Try.prog sO) loopω pt47 (lt47 0)) (t : Tm)
    (ht : forget [1,2,4,5,6,7,11,12,13,14,15,16,17,18,19,20,21,22,23,24,25,26,27,28,29,30,31,32,33] t = [.slice va n vc,Z,Z,v0,Z,Z,Z,Z,.slice va n vc,.int .i64 n,.int .i64 (0 : Nat),Z,Z,Z,Z,Z,Z,Z,Z,Z,Z,Z,Z,Z,Z,Z,Z,Z,Z,Z,Z,Z,Z,Z]) (hI0 : (Lg h0 v0 3 1 (unlL l (0)).length (idx (unlL l (0))) ∧ Keep No h0 h0 ∧ ∀ m,nm v0 = some m → h0.next ≤ m)) :
    ∃ h' v x11,loopω [1,2,4,5,6,7,11,12,13,14,15,16,17,18,19,20,21,22,23,24,25,26,27,28,29,30,31,32,33] F t h0 = some (.exit 0,[.slice va n vc,Z,Z,v,Z,Z,Z,Z,.slice va n vc,.int .i64 n,.int .i64 (n : Nat),x11,Z,Z,Z,Z,Z,Z,Z,Z,Z,Z,Z,Z,Z,Z,Z,Z,Z,Z,Z,Z,Z,Z],h') ∧ (Lg h' v 3 1 (unlL l (n)).length (idx (unlL l (n))) ∧ Keep No h0 h' ∧ ∀ m,nm v = some m → h0.next ≤ m) := by
  subst hFF
  suffices hs : ∃ e t' h',loopω [1,2,4,5,6,7,11,12,13,14,15,16,17,18,19,20,21,22,23,24,25,26,27,28,29,30,31,32,33] (aexecP Try.prog (sO 47) (run Try.prog sO) loopω pt47 (lt47 0)) t h0 = some (e,t',h') ∧ (e = .exit 0 ∧ ∃ v x11,t' = [.slice va n vc,Z,Z,v,Z,Z,Z,Z,.slice va n vc,.int .i64 n,.int .i64 (n : Nat),x11,Z,Z,Z,Z,Z,Z,Z,Z,Z,Z,Z,Z,Z,Z,Z,Z,Z,Z,Z,Z,Z,Z] ∧ (Lg h' v 3 1 (unlL l (n)).length (idx (unlL l (n))) ∧ Keep No h0 h' ∧ ∀ m,nm v = some m → h0.next ≤ m)) by
    obtain ⟨e,t',h',q1,rfl,v,x11,rfl,q2⟩ := hs
    exact ⟨h',v,x11,q1,q2⟩
  simp only [lt47,Try.f47,loopsOf,Option.getD_some,List.nil_append,List.append_nil,List.cons_append,List.getD_cons_zero,List.getD_cons_succ]
  refine loop_by (fun k t h' => ∃ (i : Nat) (v : Value),i + k = n ∧ forget [1,2,4,5,6,7,11,12,13,14,15,16,17,18,19,20,21,22,23,24,25,26,27,28,29,30,31,32,33] t = [.slice va n vc,Z,Z,v,Z,Z,Z,Z,.slice va n vc,.int .i64 n,.int .i64 (i : Nat),Z,Z,Z,Z,Z,Z,Z,Z,Z,Z,Z,Z,Z,Z,Z,Z,Z,Z,Z,Z,Z,Z,Z] ∧ (Lg h' v 3 1 (unlL l (i)).length (idx (unlL l (i))) ∧ Keep No h0 h' ∧ ∀ m,nm v = some m → h0.next ≤ m))
    (fun e t' h' => e = .exit 0 ∧ ∃ v x11,t' = [.slice va n vc,Z,Z,v,Z,Z,Z,Z,.slice va n vc,.int .i64 n,.int .i64 (n : Nat),x11,Z,Z,Z,Z,Z,Z,Z,Z,Z,Z,Z,Z,Z,Z,Z,Z,Z,Z,Z,Z,Z,Z] ∧ (Lg h' v 3 1 (unlL l (n)).length (idx (unlL l (n))) ∧ Keep No h0 h' ∧ ∀ m,nm v = some m → h0.next ≤ m)) ?_ (n) _ _ ⟨0,_,by omega,ht,hI0⟩
  rintro k t h' ⟨i,v,hi,ht,hI⟩
  rw [ht]
  rcases Nat.lt_or_ge i (n) with h1 | h1
  · obtain ⟨lg,kp,nw⟩ := hI
    have hinc := @inc64 i (by omega)
    have hcs := cast_succ i
    have hlen := unlL_len l i
    have hulm := unlL_lt l i
    obtain ⟨oa,oc,rfl⟩ := sl_form lg.sl
    have ho := lg.sl
    obtain ⟨wa,wc,C2,ce2,cs2,gr2,ro2,x1,y1,z1,x2,y2,z2,x3,y3,z3,eb,hg2,hf2,hd2,_,hnest⟩ := os_at (hv.keep kp) (show i < l.length by omega)
    rw [hn] at eb
    obtain ⟨o2,ho2⟩ : ∃ o,l.getD i oc0 = o := ⟨_,rfl⟩
    rw [ho2] at hd2 hnest
    have hst : unlL l (i + 1) = if anyB l i (unlL l i) = true then unlL l i else unlL l i ++ [i] := rfl
    have gz : (h'.new (.cells [.int .i64 0,.int .i64 0,.slice none 0 0,.int .i64 0,.slice none 0 0,.slice none 0 0] 87 6 false false)).get h'.next = some (.cells [.int .i64 0,.int .i64 0,.slice none 0 0,.int .i64 0,.slice none 0 0,.slice none 0 0] 87 6 false false) := by rw [Heap.get_new,if_pos rfl]
    obtain ⟨h3,h3e⟩ : ∃ x,x = (h'.new (.cells [.int .i64 0,.int .i64 0,.slice none 0 0,.int .i64 0,.slice none 0 0,.slice none 0 0] 87 6 false false)).put h'.next (some (.cells [.int .i64 o2.e,.int .i64 o2.en,.slice x1 y1 z1,.int .i64 o2.st,.slice x2 y2 z2,.slice x3 y3 z3] 87 6 false false)) := ⟨_,rfl⟩
    have kq3 : Keep No h' h3 := h3e ▸ (Keep.new No h' _).also (Keep.put (S := fun m => m = h'.next) (Heap.get_lt gz) rfl _) fun m hm e => by omega
    have g3 : h3.get h'.next = some (.cells [.int .i64 o2.e,.int .i64 o2.en,.slice x1 y1 z1,.int .i64 o2.st,.slice x2 y2 z2,.slice x3 y3 z3] 87 6 false false) := by rw [h3e,Heap.get_put (Heap.get_lt gz),if_pos rfl]
    have hk3 := kp.trans kq3
    have hov : OV h3 (.agg #[.int .i64 o2.e,.int .i64 o2.en,.slice x1 y1 z1,.int .i64 o2.st,.slice x2 y2 z2,.slice x3 y3 z3]) o2 := ⟨_,_,_,_,_,_,_,_,_,rfl,hnest.keep kq3⟩
    have hvk := hv.keep hk3
    simp only [Value.slice.injEq,true_and] at eb
    obtain ⟨eb1,eb2⟩ := eb
    subst eb1 eb2
    simp (maxSteps := 2000000) -implicitDefEqProofs [ble_d,beq_d,List.range_succ,List.replicate,cond_true,cond_false,h1,hg2,hf2,hd2,al87,gz,ok87,astore,← h3e,aindexAddr,sz87,Try.underlying55,Try.underlying87,sO47_6,undef]
    generalize hlp : loopω _ _ _ _ = r
    rcases any_split 0 (fun f => sameO (l.getD f oc0) o2) (unlL l i) with ⟨ha,hall⟩ | ⟨ha,p,hp,hsame,hall⟩
    · have ha' : anyB l i (unlL l i) = false := by unfold anyB; rw [ho2]; exact ha
      rw [ha',if_neg (by decide)] at hst
      obtain ⟨h4,x18,hx,k4,_⟩ := useX1 hlp (unlE (h0 := h3) (K := i) (m := h'.next) (N := (unlL l i).length) hn rfl (by omega) (by omega) hsm (by omega) (fun f hf => by have := hulm f hf; omega) hvk (ho.keep kq3 fun _ _ x => x) g3 ho2 hov hall _ (by kernel_rfl) _ (by kernel_rfl) ⟨Keep.refl _ _,trivial⟩)
      subst hx
      clear hlp
      have k34 := kq3.trans k4
      obtain ⟨v8,h8,e8,lg8,kp8,nv8⟩ := app_idx (lg.keep k34 fun _ _ x => x) (by omega) i
      rw [← hst] at lg8
      have kk := (kp.trans k34).also kp8 fun m hm x => by have := nw m x; omega
      have nn : ∀ m,nm v8 = some m → h0.next ≤ m := fun m e => by
        rcases nv8 m e with y | y
        · exact nw m y
        · have := (kp.trans k34).1; omega
      simp (maxSteps := 2000000) -implicitDefEqProofs [ble_d,beq_d,List.range_succ,List.replicate,cond_true,cond_false,(fun ρ y hy => bs90_one ρ y (i : Int) hy),e8,hinc,undef]
      exact ⟨_,_,_,⟨rfl,rfl,rfl⟩,k - 1,by omega,i + 1,by omega,v8,by simp (maxSteps := 2000000) only [forget,List.set_cons_succ,List.set_cons_zero,hcs],lg8,kk,nn⟩
    · have ha' : anyB l i (unlL l i) = true := by unfold anyB; rw [ho2]; exact ha
      rw [ha',if_pos rfl] at hst
      obtain ⟨h4,x7,x18,x19,x20,x21,x22,x23,x24,x25,x26,hx,k4,_⟩ := useX10 hlp (unlN (h0 := h3) (K := i) (m := h'.next) (N := (unlL l i).length) hn rfl (by omega) (by omega) hsm (by omega) (fun f hf => by have := hulm f hf; omega) hvk (ho.keep kq3 fun _ _ x => x) g3 ho2 hov p hp hsame hall _ (by kernel_rfl) _ (by kernel_rfl) ⟨Keep.refl _ _,trivial⟩)
      subst hx
      clear hlp
      have k34 := kq3.trans k4
      have lg4 : Lg h4 (.slice oa (unlL l i).length oc) 3 1 (unlL l (i + 1)).length (idx (unlL l (i + 1))) := by rw [hst]; exact lg.keep k34 fun _ _ x => x
      have kk := kp.trans k34
      simp (maxSteps := 2000000) -implicitDefEqProofs [ble_d,beq_d,List.range_succ,List.replicate,cond_true,cond_false,hinc,undef]
      exact ⟨_,_,_,⟨rfl,rfl,rfl⟩,k - 1,by omega,i + 1,by omega,.slice oa (unlL l i).length oc,by simp (maxSteps := 2000000) only [forget,List.set_cons_succ,List.set_cons_zero,hcs],lg4,kk,nw⟩
  · obtain rfl : i = n := by omega
    simp (maxSteps := 2000000) -implicitDefEqProofs [ble_d,beq_d,List.range_succ,List.replicate,cond_true,cond_false,undef]
    exact hI

theorem unlike_run {h : Heap} {v : Value} {l : List Oc} (hv : Outs h v l) (hk : l.length * 8 ≤ 2 ^ 47) (hsm : Small l) :
    ∃ v' h',run Try.prog sO 47 [v] h = some (v',h') ∧ Lg h' v' 3 1 (unlL l l.length).length (idx (unlL l l.length)) ∧ Keep No h h' ∧ ∀ m,nm v' = some m → h.next ≤ m := by
  obtain ⟨va,vc,rfl⟩ : ∃ a c,v = .slice a l.length c := by obtain ⟨_,_,hs,_⟩ := hv; exact sl_form hs
  suffices hz : ∃ r,fin Try.prog Try.f47 (aexecP Try.prog (sO 47) (run Try.prog sO) loopω pt47 (Try.f47.body.getD .skip) ([.slice va l.length vc] ++ List.replicate (Try.f47.ntmps - 1) undef) h) = some r ∧ Lg r.2 r.1 3 1 (unlL l l.length).length (idx (unlL l l.length)) ∧ Keep No h r.2 ∧ ∀ m,nm r.1 = some m → h.next ≤ m by
    obtain ⟨⟨y1,y2⟩,hy,q⟩ := hz
    exact ⟨y1,y2,run_finP pt47 Try.func47 rfl planned47 hy,q⟩
  simp (maxSteps := 2000000) -implicitDefEqProofs [Try.f47,ble_d,beq_d,List.range_succ,List.replicate,cond_true,cond_false,sO47_3]
  generalize hl : loopω _ _ _ _ = r
  obtain ⟨h3,v3,x11,hx,lg,kp,nw⟩ := useX2 hl (unl1 (h0 := h) rfl hk hsm hv _ _ (by kernel_rfl) _ (by kernel_rfl) ⟨Lg.nil _ _ _,Keep.refl _ _,fun m e => by cases e⟩)
  subst hx
  simp (maxSteps := 2000000) -implicitDefEqProofs [ble_d,beq_d,List.range_succ,List.replicate,cond_true,cond_false]
  exact ⟨_,_,⟨rfl,rfl⟩,lg,kp,nw⟩
end Go.Proofs.Ytmnkmdfladbgdaa.Od

set_option linter.unusedVariables false
set_option linter.unusedSimpArgs false
namespace Go.Proofs.Ytmnkmdfladbgdaa.Od
open Go Go.Proofs Go.RowKit Go.Proofs.YtmnkmdfladbgdaaAI Go.Proofs.YtmnkmdfladbgdaaFl
noncomputable def lt52 (i : Nat) : Code := (loopsOf (Try.f52.body.getD .skip)).getD i .skip

/-- Is it the first of its like, among so many? -/
def firstB (l : List Oc) (o : Oc) (out : List Nat) (i : Nat) : Bool := !((out.take i).any fun f => sameO (l.getD f oc0) o)
theorem firstB_zero (l : List Oc) (o : Oc) (out : List Nat) : firstB l o out 0 = true := by simp [firstB]
theorem firstB_succ (l : List Oc) (o : Oc) {out : List Nat} {i : Nat} (hi : i < out.length) : firstB l o out (i + 1) = (firstB l o out i && !(sameO (l.getD (out.getD i 0) oc0) o)) := by
  unfold firstB
  rw [List.take_add_one,List.getElem?_eq_getElem hi,List.any_append]
  simp [List.getD_eq_getElem?_getD,List.getElem?_eq_getElem hi]
theorem firstB_all (l : List Oc) (K : Nat) {o : Oc} (ho : l.getD K oc0 = o) (out : List Nat) : firstB l o out out.length = !anyB l K out := by
  unfold firstB anyB
  rw [List.take_length,ho]
set_option maxRecDepth 20000 in
set_option maxHeartbeats 6400000 in
theorem runl2 {h0 : Heap} {va oa : Option Addr} {vc n K N oc : Nat} {l : List Oc} {out : List Nat} {o2 : Oc} (hn : l.length = n) (hN : out.length = N) (hk : n ≤ 2 ^ 47) (hkN : N ≤ 2 ^ 47) (hsm : Small l) (hK : K < n) (hlt : ∀ f ∈ out,f < n) (hv : Outs h0 (.slice va n vc) l) (ho : Sl h0 (.slice oa N oc) 1 N (idx out)) (ho2 : l.getD K oc0 = o2) (F : Step) (hFF : F = aexecP Try.prog (sO 52) (run Try.prog sO) loopω pt52 (lt52 1)) (t : Tm)
    (ht : forget [1,2,7,8,9,10,11,12,13,14,15,16,17,18,19,20,21,22,23,24,25,26,27,28,29,30,31,32,33,34,35,36] t = [.slice va n vc,Z,Z,.slice oa N oc,.int .i64 (K : Nat),.bool (firstB l o2 out (0)),.int .i64 (0 : Nat),Z,Z,Z,Z,Z,Z,Z,Z,Z,Z,Z,Z,Z,Z,Z,Z,Z,Z,Z,Z,Z,Z,Z,Z,Z,Z,Z,Z,Z,Z]) (hI0 : (Keep No h0 h0 ∧ True)) :
    ∃ h' x13 x14 x15 x16,loopω [1,2,7,8,9,10,11,12,13,14,15,16,17,18,19,20,21,22,23,24,25,26,27,28,29,30,31,32,33,34,35,36] F t h0 = some (.exit 2,[.slice va n vc,Z,Z,.slice oa N oc,.int .i64 (K : Nat),.bool (firstB l o2 out (N)),.int .i64 (N : Nat),Z,Z,Z,Z,Z,Z,x13,x14,x15,x16,Z,Z,Z,Z,Z,Z,Z,Z,Z,Z,Z,Z,Z,Z,Z,Z,Z,Z,Z,Z],h') ∧ (Keep No h0 h' ∧ True) := by
  subst hFF
  suffices hs : ∃ e t' h',loopω [1,2,7,8,9,10,11,12,13,14,15,16,17,18,19,20,21,22,23,24,25,26,27,28,29,30,31,32,33,34,35,36] (aexecP Try.prog (sO 52) (run Try.prog sO) loopω pt52 (lt52 1)) t h0 = some (e,t',h') ∧ (e = .exit 2 ∧ ∃ x13 x14 x15 x16,t' = [.slice va n vc,Z,Z,.slice oa N oc,.int .i64 (K : Nat),.bool (firstB l o2 out (N)),.int .i64 (N : Nat),Z,Z,Z,Z,Z,Z,x13,x14,x15,x16,Z,Z,Z,Z,Z,Z,Z,Z,Z,Z,Z,Z,Z,Z,Z,Z,Z,Z,Z,Z] ∧ (Keep No h0 h' ∧ True)) by
    obtain ⟨e,t',h',q1,rfl,x13,x14,x15,x16,rfl,q2⟩ := hs
    exact ⟨h',x13,x14,x15,x16,q1,q2⟩
  simp only [lt52,Try.f52,loopsOf,Option.getD_some,List.nil_append,List.append_nil,List.cons_append,List.getD_cons_zero,List.getD_cons_succ]
  refine loop_by (fun k t h' => ∃ (i : Nat),i + k = N ∧ forget [1,2,7,8,9,10,11,12,13,14,15,16,17,18,19,20,21,22,23,24,25,26,27,28,29,30,31,32,33,34,35,36] t = [.slice va n vc,Z,Z,.slice oa N oc,.int .i64 (K : Nat),.bool (firstB l o2 out (i)),.int .i64 (i : Nat),Z,Z,Z,Z,Z,Z,Z,Z,Z,Z,Z,Z,Z,Z,Z,Z,Z,Z,Z,Z,Z,Z,Z,Z,Z,Z,Z,Z,Z,Z] ∧ (Keep No h0 h' ∧ True))
    (fun e t' h' => e = .exit 2 ∧ ∃ x13 x14 x15 x16,t' = [.slice va n vc,Z,Z,.slice oa N oc,.int .i64 (K : Nat),.bool (firstB l o2 out (N)),.int .i64 (N : Nat),Z,Z,Z,Z,Z,Z,x13,x14,x15,x16,Z,Z,Z,Z,Z,Z,Z,Z,Z,Z,Z,Z,Z,Z,Z,Z,Z,Z,Z,Z] ∧ (Keep No h0 h' ∧ True)) ?_ (N) _ _ ⟨0,by omega,ht,hI0⟩
  rintro k t h' ⟨i,hi,ht,hI⟩
  rw [ht]
  rcases Nat.lt_or_ge i (N) with h1 | h1
  · have hinc := @inc64 i (by omega)
    have hcs := cast_succ i
    have kp := hI.1
    clear hI
    have hf := hlt _ (getD_mem (l := out) (i := i) (by omega))
    have hst := firstB_succ l o2 (out := out) (i := i) (by omega)
    obtain ⟨oa,oc,C,ce,cs,gr,ro,eb,hg,hc⟩ := sl_idx (ho.keep kp fun _ _ x => x) h1
    simp only [Value.slice.injEq,true_and] at eb
    obtain ⟨rfl,rfl⟩ := eb
    generalize out.getD i 0 = f at *
    obtain ⟨wa,wc,C2,ce2,cs2,gr2,ro2,x1,y1,z1,x2,y2,z2,x3,y3,z3,eb,hg2,hf2,hd2,_,hnest⟩ := os_at (hv.keep kp) (show f < l.length by omega)
    rw [hn] at eb
    simp only [Value.slice.injEq,true_and] at eb
    obtain ⟨rfl,rfl⟩ := eb
    obtain ⟨wb,wd,C3,ce3,cs3,gr3,ro3,p1,q1,r1,p2,q2,r2,p3,q3,r3,eb,hg3,hf3,hd3,_,hnest3⟩ := os_at (hv.keep kp) (show K < l.length by omega)
    simp only [Value.slice.injEq,Option.some.injEq] at eb
    obtain ⟨rfl,_,_⟩ := eb
    rw [hg2] at hg3
    cases hg3
    rw [ho2] at hd3 hnest3
    have hs1 := hsm.get (i := f) (by omega)
    have hs2 := hsm.get (i := K) (by omega)
    rw [ho2] at hs2
    generalize l.getD f oc0 = o1 at *
    obtain ⟨h4,e4,k4⟩ := same53_run (h := h') ⟨_,_,_,_,_,_,_,_,_,rfl,hnest⟩ ⟨_,_,_,_,_,_,_,_,_,rfl,hnest3⟩ hs1 hs2
    have l4 := k4.1
    generalize hB : firstB l o2 out (i + 1) = B' at *
    generalize firstB l o2 out i = B at *
    generalize sameO o1 o2 = r at *
    cases r
    · have hst' : B' = B := by rw [hst]; simp
      simp (maxSteps := 2000000) -implicitDefEqProofs [ble_d,beq_d,List.range_succ,List.replicate,cond_true,cond_false,h1,hf,hK,hg,hc,hg2,hf2,hd2,hf3,hd3,pt52_9,pl52_9,an52_9,aindexAddr,sz3,sz87,Try.underlying90,Try.underlying55,Try.underlying87,en53,e4,l4,hinc,undef]
      exact ⟨k - 1,by omega,i + 1,by omega,by simp (maxSteps := 2000000) only [forget,List.set_cons_succ,List.set_cons_zero,hcs,hB,hst'],kp.trans k4⟩
    · have hst' : B' = false := by rw [hst]; simp
      simp (maxSteps := 2000000) -implicitDefEqProofs [ble_d,beq_d,List.range_succ,List.replicate,cond_true,cond_false,h1,hf,hK,hg,hc,hg2,hf2,hd2,hf3,hd3,pt52_9,pl52_9,an52_9,aindexAddr,sz3,sz87,Try.underlying90,Try.underlying55,Try.underlying87,en53,e4,l4,hinc,undef]
      exact ⟨k - 1,by omega,i + 1,by omega,by simp (maxSteps := 2000000) only [forget,List.set_cons_succ,List.set_cons_zero,hcs,hB,hst'],kp.trans k4⟩
  · obtain rfl : i = N := by omega
    simp (maxSteps := 2000000) -implicitDefEqProofs [ble_d,beq_d,List.range_succ,List.replicate,cond_true,cond_false,undef]
    exact hI.1
set_option maxRecDepth 20000 in
set_option maxHeartbeats 6400000 in
theorem runl1 {h0 : Heap} {va : Option Addr} {vc n : Nat} {l : List Oc} (hn : l.length = n) (hk : n * 8 ≤ 2 ^ 47) (hsm : Small l) (hv : Outs h0 (.slice va n vc) l) (v0 : Value) (F : Step) (hFF : F = aexecP Try.prog (sO 52) (run Try.prog sO) loopω pt52 (lt52 0)) (t : Tm)
    (ht : forget [1,2,5,6,7,8,9,10,11,12,13,14,15,16,17,18,19,20,21,22,23,24,25,26,27,28,29,30,31,32,33,34,35,36] t = [.slice va n vc,Z,Z,v0,.int .i64 (0 : Nat),Z,Z,Z,Z,Z,Z,Z,Z,Z,Z,Z,Z,Z,Z,Z,Z,Z,Z,Z,Z,Z,Z,Z,Z,Z,Z,Z,Z,Z,Z,Z,Z]) (hI0 : (Lg h0 v0 3 1 (unlL l (0)).length (idx (unlL l (0))) ∧ Keep No h0 h0 ∧ ∀ m,nm v0 = some m → h0.next ≤ m)) :
    ∃ h' v x7 x8 x9 x10,loopω [1,2,5,6,7,8,9,10,11,12,13,14,15,16,17,18,19,20,21,22,23,24,25,26,27,28,29,30,31,32,33,34,35,36] F t h0 = some (.exit 0,[.slice va n vc,Z,Z,v,.int .i64 (n : Nat),Z,Z,x7,x8,x9,x10,Z,Z,Z,Z,Z,Z,Z,Z,Z,Z,Z,Z,Z,Z,Z,Z,Z,Z,Z,Z,Z,Z,Z,Z,Z,Z],h') ∧ (Lg h' v 3 1 (unlL l (n)).length (idx (unlL l (n))) ∧ Keep No h0 h' ∧ ∀ m,nm v = some m → h0.next ≤ m) := by
  subst hFF
  suffices hs : ∃ e t' h',loopω [1,2,5,6,7,8,9,10,11,12,13,14,15,16,17,18,19,20,21,22,23,24,25,26,27,28,29,30,31,32,33,34,35,36] (aexecP Try.prog (sO 52) (run Try.prog sO) loopω pt52 (lt52 0)) t h0 = some (e,t',h') ∧ (e = .exit 0 ∧ ∃ v x7 x8 x9 x10,t' = [.slice va n vc,Z,Z,v,.int .i64 (n : Nat),Z,Z,x7,x8,x9,x10,Z,Z,Z,Z,Z,Z,Z,Z,Z,Z,Z,Z,Z,Z,Z,Z,Z,Z,Z,Z,Z,Z,Z,Z,Z,Z] ∧ (Lg h' v 3 1 (unlL l (n)).length (idx (unlL l (n))) ∧ Keep No h0 h' ∧ ∀ m,nm v = some m → h0.next ≤ m)) by
    obtain ⟨e,t',h',q1,rfl,v,x7,x8,x9,x10,rfl,q2⟩ := hs
    exact ⟨h',v,x7,x8,x9,x10,q1,q2⟩
  simp only [lt52,Try.f52,loopsOf,Option.getD_some,List.nil_append,List.append_nil,List.cons_append,List.getD_cons_zero,List.getD_cons_succ]
  refine loop_by (fun k t h' => ∃ (i : Nat) (v : Value),i + k = n ∧ forget [1,2,5,6,7,8,9,10,11,12,13,14,15,16,17,18,19,20,21,22,23,24,25,26,27,28,29,30,31,32,33,34,35,36] t = [.slice va n vc,Z,Z,v,.int .i64 (i : Nat),Z,Z,Z,Z,Z,Z,Z,Z,Z,Z,Z,Z,Z,Z,Z,Z,Z,Z,Z,Z,Z,Z,Z,Z,Z,Z,Z,Z,Z,Z,Z,Z] ∧ (Lg h' v 3 1 (unlL l (i)).length (idx (unlL l (i))) ∧ Keep No h0 h' ∧ ∀ m,nm v = some m → h0.next ≤ m))
    (fun e t' h' => e = .exit 0 ∧ ∃ v x7 x8 x9 x10,t' = [.slice va n vc,Z,Z,v,.int .i64 (n : Nat),Z,Z,x7,x8,x9,x10,Z,Z,Z,Z,Z,Z,Z,Z,Z,Z,Z,Z,Z,Z,Z,Z,Z,Z,Z,Z,Z,Z,Z,Z,Z,Z] ∧ (Lg h' v 3 1 (unlL l (n)).length (idx (unlL l (n))) ∧ Keep No h0 h' ∧ ∀ m,nm v = some m → h0.next ≤ m)) ?_ (n) _ _ ⟨0,_,by omega,ht,hI0⟩
  rintro k t h' ⟨i,v,hi,ht,hI⟩
  rw [ht]
  rcases Nat.lt_or_ge i (n) with h1 | h1
  · obtain ⟨lg,kp,nw⟩ := hI
    have hinc := @inc64 i (by omega)
    have hcs := cast_succ i
    have hlen := unlL_len l i
    have hulm := unlL_lt l i
    obtain ⟨oa,oc,rfl⟩ := sl_form lg.sl
    have ho := lg.sl
    have hst : unlL l (i + 1) = if anyB l i (unlL l i) = true then unlL l i else unlL l i ++ [i] := rfl
    obtain ⟨o2,ho2⟩ : ∃ o,l.getD i oc0 = o := ⟨_,rfl⟩
    have hfa := firstB_all l i ho2 (unlL l i)
    simp (maxSteps := 2000000) -implicitDefEqProofs [ble_d,beq_d,List.range_succ,List.replicate,cond_true,cond_false,h1,sO52_7,undef]
    generalize hlp : loopω _ _ _ _ = r
    obtain ⟨h4,x13,x14,x15,x16,hx,k4,_⟩ := useX4 hlp (runl2 (h0 := h') (K := i) (N := (unlL l i).length) (out := unlL l i) (o2 := o2) hn rfl (by omega) (by omega) hsm (by omega) (fun f hf => by have := hulm f hf; omega) (hv.keep kp) ho ho2 _ (by kernel_rfl) _ (by rw [firstB_zero]; kernel_rfl) ⟨Keep.refl _ _,trivial⟩)
    subst hx
    clear hlp
    rw [hfa]
    cases ha : anyB l i (unlL l i)
    · rw [ha,if_neg (by decide)] at hst
      rw [Bool.not_false]
      obtain ⟨v8,h8,e8,lg8,kp8,nv8⟩ := app_idx (lg.keep k4 fun _ _ x => x) (by omega) i
      rw [← hst] at lg8
      have kk := (kp.trans k4).also kp8 fun m hm x => by have := nw m x; omega
      have nn : ∀ m,nm v8 = some m → h0.next ≤ m := fun m e => by
        rcases nv8 m e with y | y
        · exact nw m y
        · have := (kp.trans k4).1; omega
      simp (maxSteps := 2000000) -implicitDefEqProofs [ble_d,beq_d,List.range_succ,List.replicate,cond_true,cond_false,(fun ρ y hy => bs90_one ρ y (i : Int) hy),e8,hinc,undef]
      exact ⟨_,_,_,⟨rfl,rfl,rfl⟩,k - 1,by omega,i + 1,by omega,v8,by simp (maxSteps := 2000000) only [forget,List.set_cons_succ,List.set_cons_zero,hcs],lg8,kk,nn⟩
    · rw [ha,if_pos rfl] at hst
      rw [Bool.not_true]
      have lg4 : Lg h4 (.slice oa (unlL l i).length oc) 3 1 (unlL l (i + 1)).length (idx (unlL l (i + 1))) := by rw [hst]; exact lg.keep k4 fun _ _ x => x
      have kk := kp.trans k4
      simp (maxSteps := 2000000) -implicitDefEqProofs [ble_d,beq_d,List.range_succ,List.replicate,cond_true,cond_false,hinc,undef]
      exact ⟨_,_,_,⟨rfl,rfl,rfl⟩,k - 1,by omega,i + 1,by omega,.slice oa (unlL l i).length oc,by simp (maxSteps := 2000000) only [forget,List.set_cons_succ,List.set_cons_zero,hcs],lg4,kk,nw⟩
  · obtain rfl : i = n := by omega
    simp (maxSteps := 2000000) -implicitDefEqProofs [ble_d,beq_d,List.range_succ,List.replicate,cond_true,cond_false,undef]
    exact hI

theorem runlike_run {h : Heap} {v : Value} {l : List Oc} (hv : Outs h v l) (hk : l.length * 8 ≤ 2 ^ 47) (hsm : Small l) :
    ∃ v' h',run Try.prog sO 52 [v] h = some (v',h') ∧ Lg h' v' 3 1 (unlL l l.length).length (idx (unlL l l.length)) ∧ Keep No h h' ∧ ∀ m,nm v' = some m → h.next ≤ m := by
  obtain ⟨va,vc,rfl⟩ : ∃ a c,v = .slice a l.length c := by obtain ⟨_,_,hs,_⟩ := hv; exact sl_form hs
  suffices hz : ∃ r,fin Try.prog Try.f52 (aexecP Try.prog (sO 52) (run Try.prog sO) loopω pt52 (Try.f52.body.getD .skip) ([.slice va l.length vc] ++ List.replicate (Try.f52.ntmps - 1) undef) h) = some r ∧ Lg r.2 r.1 3 1 (unlL l l.length).length (idx (unlL l l.length)) ∧ Keep No h r.2 ∧ ∀ m,nm r.1 = some m → h.next ≤ m by
    obtain ⟨⟨y1,y2⟩,hy,q⟩ := hz
    exact ⟨y1,y2,run_finP pt52 Try.func52 rfl planned52 hy,q⟩
  simp (maxSteps := 2000000) -implicitDefEqProofs [Try.f52,ble_d,beq_d,List.range_succ,List.replicate,cond_true,cond_false,sO52_3]
  generalize hl : loopω _ _ _ _ = r
  obtain ⟨h3,v3,x7,x8,x9,x10,hx,lg,kp,nw⟩ := useX5 hl (runl1 (h0 := h) rfl hk hsm hv _ _ (by kernel_rfl) _ (by kernel_rfl) ⟨Lg.nil _ _ _,Keep.refl _ _,fun m e => by cases e⟩)
  subst hx
  simp (maxSteps := 2000000) -implicitDefEqProofs [ble_d,beq_d,List.range_succ,List.replicate,cond_true,cond_false]
  exact ⟨_,_,⟨rfl,rfl⟩,lg,kp,nw⟩
end Go.Proofs.Ytmnkmdfladbgdaa.Od

set_option linter.unusedVariables false
set_option linter.unusedSimpArgs false
namespace Go.Proofs.Ytmnkmdfladbgdaa.Od
open Go Go.Proofs Go.RowKit Go.Proofs.YtmnkmdfladbgdaaAI Go.Proofs.YtmnkmdfladbgdaaFl
noncomputable def lt46 (i : Nat) : Code := (loopsOf (Try.f46.body.getD .skip)).getD i .skip

abbrev clo48 : Value := .func (.func 48) #[] #[]
/-- The outcomes like one of them, among so many. -/
def grp (l : List Oc) (f j : Nat) : List Nat := (List.range j).filter fun i => sameO (l.getD f oc0) (l.getD i oc0)
theorem grp_succ (l : List Oc) (f j : Nat) : grp l f (j + 1) = if sameO (l.getD f oc0) (l.getD j oc0) = true then grp l f j ++ [j] else grp l f j := by
  unfold grp
  rw [List.range_succ,List.filter_append]
  cases h : sameO (l.getD f oc0) (l.getD j oc0) <;> simp only [List.filter_cons,List.filter_nil,h,if_true,Bool.false_eq_true,if_false,List.append_nil]
theorem grp_len (l : List Oc) (f j : Nat) : (grp l f j).length ≤ j := by
  have := List.length_filter_le (fun i => sameO (l.getD f oc0) (l.getD i oc0)) (List.range j)
  rw [List.length_range] at this
  exact this
theorem grp_lt (l : List Oc) (f j : Nat) : ∀ i ∈ grp l f j,i < j := fun i hi => List.mem_range.1 (List.mem_filter.1 hi).1
theorem el90 : elTyB Try.prog 90 1 24 = true := by kernel_rfl
theorem bs88_1' (a : Option Addr) (k c : Nat) (d ty pos af gu) : aalloc Try.prog (fun _ => .slice a k c) ⟨d,.buildSlice 88 1 #[(0,.tmp 0)],ty,pos,af,gu⟩ = some (.cells [.slice a k c] 90 1 false false,fun n => .slice (some ⟨n,0,none⟩) 1 1) := by kernel_rfl
theorem bs88_1 (ρ : Operand → Value) (x) (a : Option Addr) (k c : Nat) (hx : ρ x = .slice a k c) (d ty pos af gu) : aalloc Try.prog ρ ⟨d,.buildSlice 88 1 #[(0,x)],ty,pos,af,gu⟩ = some (.cells [.slice a k c] 90 1 false false,fun n => .slice (some ⟨n,0,none⟩) 1 1) := by
  have h1 : aalloc Try.prog ρ ⟨d,.buildSlice 88 1 #[(0,x)],ty,pos,af,gu⟩ = aalloc Try.prog (fun _ => ρ x) ⟨d,.buildSlice 88 1 #[(0,.tmp 0)],ty,pos,af,gu⟩ := by simp [aalloc]
  rw [h1,hx]; exact bs88_1' _ _ _ _ _ _ _ _
/-- Groups: rows of numbers in a row. -/
def GN (h : Heap) (l : List Oc) (n : Nat) (fs : List Nat) (gs : List Value) : Prop := gs.length = fs.length ∧ ∀ j,j < fs.length → ∃ a c,gs[j]? = some (.slice a (grp l (fs.getD j 0) n).length c) ∧ Sl h (.slice a (grp l (fs.getD j 0) n).length c) 1 (grp l (fs.getD j 0) n).length (idx (grp l (fs.getD j 0) n))
/-- Where a row of numbers stands there is a number. -/
theorem nm_idx {h : Heap} {v : Value} {k : Nat} {l : List Nat} (hv : Sl h v 1 k (idx l)) {m : Nat} (e : nm v = some m) : ∃ (C : List Value) (ce : TypeId) (cs : Nat) (gr ro : Bool),h.get m = some (.cells C ce cs gr ro) ∧ ∃ (j : Nat) (x : Int),C[j]? = some (Value.int .i64 x) := by
  have hlen := hv.1
  rw [idx_len,Nat.mul_one] at hlen
  obtain ⟨_,⟨rfl,rfl⟩ | ⟨a,n,rfl,hs⟩⟩ := hv
  · cases e
  · obtain ⟨h0,rfl⟩ := nm_eq e
    obtain ⟨C,ce,cs,gr,ro,hg,hc⟩ := hs h0
    refine ⟨C,ce,cs,gr,ro,hg,a.off,((l.getD 0 0 : Nat) : Int),?_⟩
    have := congrArg (fun z => z[0]?) hc
    have h2 : (idx l)[0]? = some (.int .i64 (l.getD 0 0 : Nat)) := by
      cases l with
      | nil => simp at hlen; omega
      | cons x l => simp [idx]
    rw [h2,List.getElem?_take,if_pos (by omega),List.getElem?_drop,Nat.add_zero] at this
    exact this
theorem GN.keep {S : Nat → Prop} {h h' : Heap} {l : List Oc} {n : Nat} {fs : List Nat} {gs : List Value} (hg : GN h l n fs gs) (hk : Keep S h h') (hS : ∀ m,S m → ∀ C ce cs gr ro,h.get m = some (.cells C ce cs gr ro) → ∀ (j : Nat) (x : Int),C[j]? ≠ some (Value.int .i64 x)) : GN h' l n fs gs := by
  obtain ⟨h1,h2⟩ := hg
  refine ⟨h1,fun j hj => ?_⟩
  obtain ⟨a,c,e,s⟩ := h2 j hj
  refine ⟨a,c,e,s.keep hk fun m hm hs => ?_⟩
  obtain ⟨C,ce,cs,gr,ro,hg,i,x,hx⟩ := nm_idx s hm
  exact hS m hs C ce cs gr ro hg i x hx
theorem GN.noints {h : Heap} {l : List Oc} {n : Nat} {fs : List Nat} {gs : List Value} (hg : GN h l n fs gs) (j : Nat) (x : Int) : gs[j]? ≠ some (Value.int .i64 x) := fun e => by
  obtain ⟨h1,h2⟩ := hg
  have hj : j < fs.length := by rw [← h1]; exact (List.getElem?_eq_some_iff.1 e).1
  obtain ⟨a,c,e2,_⟩ := h2 j hj
  rw [e] at e2; cases e2
set_option maxRecDepth 20000 in
set_option maxHeartbeats 6400000 in
theorem grp2 {h0 : Heap} {va : Option Addr} {vc n f : Nat} {fa : Option Addr} {fk fc N q : Nat} {ov : Value} {l : List Oc} (hn : l.length = n) (hk : n * 8 ≤ 2 ^ 47) (hsm : Small l) (hf : f < n) (hv : Outs h0 (.slice va n vc) l) (v0 : Value) (F : Step) (hFF : F = aexecP Try.prog (sO 46) (run Try.prog sO) loopω pt46 (lt46 1)) (t : Tm)
    (ht : forget [1,3,4,5,6,8,11,15,16,17,18,21,22,23,24,25,26,27,28,29,30,31,32,33,34,35,36,37,38,39,40,41,42,43] t = [.slice va n vc,Z,clo48,Z,Z,Z,Z,ov,Z,.int .i64 (f : Nat),v0,Z,.slice fa fk fc,.int .i64 N,.int .i64 (q : Nat),Z,Z,Z,Z,.int .i64 n,.int .i64 (0 : Nat),Z,Z,Z,Z,Z,Z,Z,Z,Z,Z,Z,Z,Z,Z,Z,Z,Z,Z,Z,Z,Z,Z,Z]) (hI0 : (Lg h0 v0 3 1 (grp l f (0)).length (idx (grp l f (0))) ∧ Keep No h0 h0 ∧ ∀ m,nm v0 = some m → h0.next ≤ m)) :
    ∃ h' v x21,loopω [1,3,4,5,6,8,11,15,16,17,18,21,22,23,24,25,26,27,28,29,30,31,32,33,34,35,36,37,38,39,40,41,42,43] F t h0 = some (.exit 2,[.slice va n vc,Z,clo48,Z,Z,Z,Z,ov,Z,.int .i64 (f : Nat),v,Z,.slice fa fk fc,.int .i64 N,.int .i64 (q : Nat),Z,Z,Z,Z,.int .i64 n,.int .i64 (n : Nat),x21,Z,Z,Z,Z,Z,Z,Z,Z,Z,Z,Z,Z,Z,Z,Z,Z,Z,Z,Z,Z,Z,Z],h') ∧ (Lg h' v 3 1 (grp l f (n)).length (idx (grp l f (n))) ∧ Keep No h0 h' ∧ ∀ m,nm v = some m → h0.next ≤ m) := by
  subst hFF
  suffices hs : ∃ e t' h',loopω [1,3,4,5,6,8,11,15,16,17,18,21,22,23,24,25,26,27,28,29,30,31,32,33,34,35,36,37,38,39,40,41,42,43] (aexecP Try.prog (sO 46) (run Try.prog sO) loopω pt46 (lt46 1)) t h0 = some (e,t',h') ∧ (e = .exit 2 ∧ ∃ v x21,t' = [.slice va n vc,Z,clo48,Z,Z,Z,Z,ov,Z,.int .i64 (f : Nat),v,Z,.slice fa fk fc,.int .i64 N,.int .i64 (q : Nat),Z,Z,Z,Z,.int .i64 n,.int .i64 (n : Nat),x21,Z,Z,Z,Z,Z,Z,Z,Z,Z,Z,Z,Z,Z,Z,Z,Z,Z,Z,Z,Z,Z,Z] ∧ (Lg h' v 3 1 (grp l f (n)).length (idx (grp l f (n))) ∧ Keep No h0 h' ∧ ∀ m,nm v = some m → h0.next ≤ m)) by
    obtain ⟨e,t',h',q1,rfl,v,x21,rfl,q2⟩ := hs
    exact ⟨h',v,x21,q1,q2⟩
  simp only [lt46,Try.f46,loopsOf,Option.getD_some,List.nil_append,List.append_nil,List.cons_append,List.getD_cons_zero,List.getD_cons_succ]
  refine loop_by (fun k t h' => ∃ (i : Nat) (v : Value),i + k = n ∧ forget [1,3,4,5,6,8,11,15,16,17,18,21,22,23,24,25,26,27,28,29,30,31,32,33,34,35,36,37,38,39,40,41,42,43] t = [.slice va n vc,Z,clo48,Z,Z,Z,Z,ov,Z,.int .i64 (f : Nat),v,Z,.slice fa fk fc,.int .i64 N,.int .i64 (q : Nat),Z,Z,Z,Z,.int .i64 n,.int .i64 (i : Nat),Z,Z,Z,Z,Z,Z,Z,Z,Z,Z,Z,Z,Z,Z,Z,Z,Z,Z,Z,Z,Z,Z,Z] ∧ (Lg h' v 3 1 (grp l f (i)).length (idx (grp l f (i))) ∧ Keep No h0 h' ∧ ∀ m,nm v = some m → h0.next ≤ m))
    (fun e t' h' => e = .exit 2 ∧ ∃ v x21,t' = [.slice va n vc,Z,clo48,Z,Z,Z,Z,ov,Z,.int .i64 (f : Nat),v,Z,.slice fa fk fc,.int .i64 N,.int .i64 (q : Nat),Z,Z,Z,Z,.int .i64 n,.int .i64 (n : Nat),x21,Z,Z,Z,Z,Z,Z,Z,Z,Z,Z,Z,Z,Z,Z,Z,Z,Z,Z,Z,Z,Z,Z] ∧ (Lg h' v 3 1 (grp l f (n)).length (idx (grp l f (n))) ∧ Keep No h0 h' ∧ ∀ m,nm v = some m → h0.next ≤ m)) ?_ (n) _ _ ⟨0,_,by omega,ht,hI0⟩
  rintro k t h' ⟨i,v,hi,ht,hI⟩
  rw [ht]
  rcases Nat.lt_or_ge i (n) with h1 | h1
  · obtain ⟨lg,kp,nw⟩ := hI
    have hinc := @inc64 i (by omega)
    have hcs := cast_succ i
    have hlen := grp_len l f i
    have hst := grp_succ l f i
    obtain ⟨wa,wc,C2,ce2,cs2,gr2,ro2,x1,y1,z1,x2,y2,z2,x3,y3,z3,eb,hg2,hf2,hd2,_,hnest⟩ := os_at (hv.keep kp) (show f < l.length by omega)
    rw [hn] at eb
    simp only [Value.slice.injEq,true_and] at eb
    obtain ⟨rfl,rfl⟩ := eb
    obtain ⟨wb,wd,C3,ce3,cs3,gr3,ro3,p1,q1,r1,p2,q2,r2,p3,q3,r3,eb,hg3,hf3,hd3,_,hnest3⟩ := os_at (hv.keep kp) (show i < l.length by omega)
    simp only [Value.slice.injEq,Option.some.injEq] at eb
    obtain ⟨rfl,_,_⟩ := eb
    rw [hg2] at hg3
    cases hg3
    have hs1 := hsm.get (i := f) (by omega)
    have hs2 := hsm.get (i := i) (by omega)
    generalize l.getD f oc0 = o1 at *
    generalize l.getD i oc0 = o2 at *
    obtain ⟨h4,e4,k4⟩ := same48_run (h := h') ⟨_,_,_,_,_,_,_,_,_,rfl,hnest⟩ ⟨_,_,_,_,_,_,_,_,_,rfl,hnest3⟩ hs1 hs2
    have l4 := k4.1
    have lg4 := lg.keep k4 fun _ _ x => x
    generalize sameO o1 o2 = r at *
    cases r
    · rw [if_neg (by decide)] at hst
      have lg5 : Lg h4 v 3 1 (grp l f (i + 1)).length (idx (grp l f (i + 1))) := by rw [hst]; exact lg4
      simp (maxSteps := 2000000) -implicitDefEqProofs [ble_d,beq_d,List.range_succ,List.replicate,cond_true,cond_false,h1,hf,hg2,hf2,hd2,hf3,hd3,pt46_9,pl46_9,an46_9,aindexAddr,sz3,sz87,Try.underlying90,Try.underlying55,Try.underlying87,en48,e4,l4,hinc,undef]
      exact ⟨k - 1,by omega,i + 1,by omega,v,by simp (maxSteps := 2000000) only [forget,List.set_cons_succ,List.set_cons_zero,hcs],lg5,kp.trans k4,nw⟩
    · rw [if_pos rfl] at hst
      obtain ⟨v8,h8,e8,lg8,kp8,nv8⟩ := app_idx lg4 (by omega) i
      rw [← hst] at lg8
      have kk := (kp.trans k4).also kp8 fun m hm x => by have := nw m x; omega
      have nn : ∀ m,nm v8 = some m → h0.next ≤ m := fun m e => by
        rcases nv8 m e with y | y
        · exact nw m y
        · have := (kp.trans k4).1; omega
      simp (maxSteps := 2000000) -implicitDefEqProofs [ble_d,beq_d,List.range_succ,List.replicate,cond_true,cond_false,h1,hf,hg2,hf2,hd2,hf3,hd3,pt46_9,pl46_9,an46_9,aindexAddr,sz3,sz87,Try.underlying90,Try.underlying55,Try.underlying87,en48,e4,l4,(fun ρ y hy => bs90_one ρ y (i : Int) hy),e8,hinc,undef]
      exact ⟨k - 1,by omega,i + 1,by omega,v8,by simp (maxSteps := 2000000) only [forget,List.set_cons_succ,List.set_cons_zero,hcs],lg8,kk,nn⟩
  · obtain rfl : i = n := by omega
    simp (maxSteps := 2000000) -implicitDefEqProofs [ble_d,beq_d,List.range_succ,List.replicate,cond_true,cond_false,undef]
    exact hI
set_option maxRecDepth 20000 in
set_option maxHeartbeats 6400000 in
theorem grp1 {h0 : Heap} {va : Option Addr} {vc n : Nat} {fa : Option Addr} {fc N : Nat} {l : List Oc} {fs : List Nat} (hn : l.length = n) (hN : fs.length = N) (hk : n * 8 ≤ 2 ^ 47) (hkN : N * 24 ≤ 2 ^ 47) (hsm : Small l) (hfs : ∀ f ∈ fs,f < n) (hv : Outs h0 (.slice va n vc) l) (hf : Sl h0 (.slice fa N fc) 1 N (idx fs)) (v0 : Value) (F : Step) (hFF : F = aexecP Try.prog (sO 46) (run Try.prog sO) loopω pt46 (lt46 0)) (t : Tm)
    (ht : forget [1,3,4,5,6,8,9,10,11,15,16,17,18,19,20,21,22,23,24,25,26,27,28,29,30,31,32,33,34,35,36,37,38,39,40,41,42,43] t = [.slice va n vc,Z,clo48,Z,Z,Z,Z,v0,Z,Z,Z,Z,.slice fa N fc,.int .i64 N,.int .i64 (0 : Nat),Z,Z,Z,Z,Z,Z,Z,Z,Z,Z,Z,Z,Z,Z,Z,Z,Z,Z,Z,Z,Z,Z,Z,Z,Z,Z,Z,Z,Z]) (hI0 : (∃ gs,Lg h0 v0 90 1 (0) gs ∧ GN h0 l n (fs.take (0)) gs ∧ Keep No h0 h0 ∧ ∀ m,nm v0 = some m → h0.next ≤ m)) :
    ∃ h' v x15,loopω [1,3,4,5,6,8,9,10,11,15,16,17,18,19,20,21,22,23,24,25,26,27,28,29,30,31,32,33,34,35,36,37,38,39,40,41,42,43] F t h0 = some (.exit 0,[.slice va n vc,Z,clo48,Z,Z,Z,Z,v,Z,Z,Z,Z,.slice fa N fc,.int .i64 N,.int .i64 (N : Nat),x15,Z,Z,Z,Z,Z,Z,Z,Z,Z,Z,Z,Z,Z,Z,Z,Z,Z,Z,Z,Z,Z,Z,Z,Z,Z,Z,Z,Z],h') ∧ (∃ gs,Lg h' v 90 1 (N) gs ∧ GN h' l n (fs.take (N)) gs ∧ Keep No h0 h' ∧ ∀ m,nm v = some m → h0.next ≤ m) := by
  subst hFF
  suffices hs : ∃ e t' h',loopω [1,3,4,5,6,8,9,10,11,15,16,17,18,19,20,21,22,23,24,25,26,27,28,29,30,31,32,33,34,35,36,37,38,39,40,41,42,43] (aexecP Try.prog (sO 46) (run Try.prog sO) loopω pt46 (lt46 0)) t h0 = some (e,t',h') ∧ (e = .exit 0 ∧ ∃ v x15,t' = [.slice va n vc,Z,clo48,Z,Z,Z,Z,v,Z,Z,Z,Z,.slice fa N fc,.int .i64 N,.int .i64 (N : Nat),x15,Z,Z,Z,Z,Z,Z,Z,Z,Z,Z,Z,Z,Z,Z,Z,Z,Z,Z,Z,Z,Z,Z,Z,Z,Z,Z,Z,Z] ∧ (∃ gs,Lg h' v 90 1 (N) gs ∧ GN h' l n (fs.take (N)) gs ∧ Keep No h0 h' ∧ ∀ m,nm v = some m → h0.next ≤ m)) by
    obtain ⟨e,t',h',q1,rfl,v,x15,rfl,q2⟩ := hs
    exact ⟨h',v,x15,q1,q2⟩
  simp only [lt46,Try.f46,loopsOf,Option.getD_some,List.nil_append,List.append_nil,List.cons_append,List.getD_cons_zero,List.getD_cons_succ]
  refine loop_by (fun k t h' => ∃ (i : Nat) (v : Value),i + k = N ∧ forget [1,3,4,5,6,8,9,10,11,15,16,17,18,19,20,21,22,23,24,25,26,27,28,29,30,31,32,33,34,35,36,37,38,39,40,41,42,43] t = [.slice va n vc,Z,clo48,Z,Z,Z,Z,v,Z,Z,Z,Z,.slice fa N fc,.int .i64 N,.int .i64 (i : Nat),Z,Z,Z,Z,Z,Z,Z,Z,Z,Z,Z,Z,Z,Z,Z,Z,Z,Z,Z,Z,Z,Z,Z,Z,Z,Z,Z,Z,Z] ∧ (∃ gs,Lg h' v 90 1 (i) gs ∧ GN h' l n (fs.take (i)) gs ∧ Keep No h0 h' ∧ ∀ m,nm v = some m → h0.next ≤ m))
    (fun e t' h' => e = .exit 0 ∧ ∃ v x15,t' = [.slice va n vc,Z,clo48,Z,Z,Z,Z,v,Z,Z,Z,Z,.slice fa N fc,.int .i64 N,.int .i64 (N : Nat),x15,Z,Z,Z,Z,Z,Z,Z,Z,Z,Z,Z,Z,Z,Z,Z,Z,Z,Z,Z,Z,Z,Z,Z,Z,Z,Z,Z,Z] ∧ (∃ gs,Lg h' v 90 1 (N) gs ∧ GN h' l n (fs.take (N)) gs ∧ Keep No h0 h' ∧ ∀ m,nm v = some m → h0.next ≤ m)) ?_ (N) _ _ ⟨0,_,by omega,ht,hI0⟩
  rintro k t h' ⟨i,v,hi,ht,hI⟩
  rw [ht]
  rcases Nat.lt_or_ge i (N) with h1 | h1
  · obtain ⟨gs,lg,gn,kp,nw⟩ := hI
    have hinc := @inc64 i (by omega)
    have hcs := cast_succ i
    have hfi := hfs _ (getD_mem (l := fs) (i := i) (by omega))
    obtain ⟨fa,fc,C,ce,cs,gr,ro,eb,hg,hc⟩ := sl_idx (hf.keep kp fun _ _ x => x) h1
    have ebx := eb
    simp only [Value.slice.injEq,true_and] at eb
    obtain ⟨eb1,eb2⟩ := eb
    subst eb1 eb2
    obtain ⟨f,hff⟩ : ∃ f,fs.getD i 0 = f := ⟨_,rfl⟩
    rw [hff] at hc hfi
    simp (maxSteps := 2000000) -implicitDefEqProofs [ble_d,beq_d,List.range_succ,List.replicate,cond_true,cond_false,h1,hg,hc,aindexAddr,sz3,Try.underlying90,sO46_7,undef]
    generalize hlp : loopω _ _ _ _ = r
    obtain ⟨h4,v4,x21,hx,lg4,k4,nw4⟩ := useX2 hlp (grp2 (h0 := h') (f := f) (q := i) (N := N) (fa := some fa) (fk := N) (fc := fc) (ov := v) hn hk hsm hfi (hv.keep kp) _ _ (by kernel_rfl) _ (by kernel_rfl) ⟨Lg.nil _ _ _,Keep.refl _ _,fun m e => by cases e⟩)
    subst hx
    clear hlp
    have hglen := grp_len l f n
    have hs4 := lg4.sl
    obtain ⟨ga,gc,rfl⟩ := sl_form hs4
    have k0 := Keep.new No h4 (.cells [.slice ga (grp l f n).length gc] 90 1 false false)
    have hx1 : Sl (h4.new (.cells [.slice ga (grp l f n).length gc] 90 1 false false)) (.slice (some ⟨h4.next,0,none⟩) 1 1) 1 1 [.slice ga (grp l f n).length gc] :=
      ⟨rfl,.inr ⟨_,_,rfl,fun _ => ⟨_,_,_,_,_,by rw [Heap.get_new,if_pos rfl],rfl⟩⟩⟩
    have lgk := (lg.keep k4 fun _ _ x => x).keep k0 fun _ _ x => x
    obtain ⟨v8,h8,e8,lg8,kp8,nv8,_,nf8⟩ := append_lg (t := 88) (xt := 88) Try.underlying88 Try.underlying88 rfl el90 lgk hx1 (by omega) (by omega) rfl
    have hnoint : ∀ m,nm v = some m → ∀ C ce cs gr ro,(h4.new (.cells [.slice ga (grp l f n).length gc] 90 1 false false)).get m = some (.cells C ce cs gr ro) → ∀ (j : Nat) (x : Int),C[j]? ≠ some (Value.int .i64 x) := fun m hm C ce cs gr ro hgm j x => by
      have := Lg_obj lgk hm
      rw [hgm] at this
      cases this
      exact gn.noints j x
    have gnk := ((gn.keep k4 fun m hm => hm.elim).keep k0 fun m hm => hm.elim).keep kp8 hnoint
    have hnew : Sl h8 (.slice ga (grp l f n).length gc) 1 (grp l f n).length (idx (grp l f n)) := (hs4.keep k0 fun _ _ x => x).keep kp8 fun m hm hs => by
      obtain ⟨C,ce,cs,gr,ro,hgm,j,x,hx⟩ := nm_idx (hs4.keep k0 fun _ _ x => x) hm
      exact hnoint m hs C ce cs gr ro hgm j x hx
    have ht1 : fs.take (i + 1) = fs.take i ++ [f] := by
      rw [List.take_add_one,List.getElem?_eq_getElem (by omega)]
      rw [List.getD_eq_getElem?_getD,List.getElem?_eq_getElem (by omega),Option.getD_some] at hff
      rw [hff]; rfl
    have hti : (fs.take i).length = i := by rw [List.length_take]; omega
    have gn8 : GN h8 l n (fs.take (i + 1)) (gs ++ [.slice ga (grp l f n).length gc]) := by
      rw [ht1]
      refine ⟨by rw [List.length_append,List.length_append,gnk.1]; rfl,fun j hj => ?_⟩
      rw [List.length_append,hti] at hj
      rcases Nat.lt_or_ge j i with h5 | h5
      · obtain ⟨a,c,q1,q2⟩ := gnk.2 j (by omega)
        have e5 : (fs.take i ++ [f]).getD j 0 = (fs.take i).getD j 0 := by
          rw [List.getD_eq_getElem?_getD,List.getElem?_append_left (by omega),← List.getD_eq_getElem?_getD]
        rw [e5]
        exact ⟨a,c,by rw [List.getElem?_append_left (by rw [gnk.1]; omega)]; exact q1,q2⟩
      · have hji : j = i := by simp at hj; omega
        subst hji
        have e5 : (fs.take j ++ [f]).getD j 0 = f := by
          rw [List.getD_eq_getElem?_getD,List.getElem?_append_right (by omega),hti]; simp
        rw [e5]
        exact ⟨ga,gc,by rw [List.getElem?_append_right (by rw [gnk.1]; omega),gnk.1,hti]; simp,hnew⟩
    have lg9 : Lg h8 v8 90 1 (i + 1) (gs ++ [.slice ga (grp l f n).length gc]) := lg8
    have kk := ((kp.trans k4).trans k0).also kp8 fun m hm x => by have := nw m x; omega
    have nn : ∀ m,nm v8 = some m → h0.next ≤ m := fun m e => by
      rcases Nat.lt_or_ge m (h4.new (.cells [.slice ga (grp l f n).length gc] 90 1 false false)).next with y | y
      · exact nw m (nv8 m e y)
      · have := ((kp.trans k4).trans k0).1; omega
    simp (maxSteps := 2000000) -implicitDefEqProofs [ble_d,beq_d,List.range_succ,List.replicate,cond_true,cond_false,(fun ρ y hy => bs88_1 ρ y ga (grp l f n).length gc hy),e8,hinc,undef]
    exact ⟨_,_,_,⟨rfl,rfl,rfl⟩,k - 1,by omega,i + 1,by omega,v8,by simp (maxSteps := 2000000) only [forget,List.set_cons_succ,List.set_cons_zero,hcs],_,lg9,gn8,kk,nn⟩
  · obtain rfl : i = N := by omega
    simp (maxSteps := 2000000) -implicitDefEqProofs [ble_d,beq_d,List.range_succ,List.replicate,cond_true,cond_false,undef]
    exact hI

theorem group_run {h : Heap} {v w : Value} {l : List Oc} {fs : List Nat} (hv : Outs h v l) (hf : Sl h w 1 fs.length (idx fs)) (hk : l.length * 8 ≤ 2 ^ 47) (hkN : fs.length * 24 ≤ 2 ^ 47) (hsm : Small l) (hfs : ∀ f ∈ fs,f < l.length) :
    ∃ v' h' gs,run Try.prog sO 46 [v,w,clo48] h = some (v',h') ∧ Lg h' v' 90 1 fs.length gs ∧ GN h' l l.length fs gs ∧ Keep No h h' ∧ ∀ m,nm v' = some m → h.next ≤ m := by
  obtain ⟨va,vc,rfl⟩ : ∃ a c,v = .slice a l.length c := by obtain ⟨_,_,hs,_⟩ := hv; exact sl_form hs
  obtain ⟨fa,fc,rfl⟩ := sl_form hf
  suffices hz : ∃ r,fin Try.prog Try.f46 (aexecP Try.prog (sO 46) (run Try.prog sO) loopω pt46 (Try.f46.body.getD .skip) ([.slice va l.length vc,.slice fa fs.length fc,clo48] ++ List.replicate (Try.f46.ntmps - 3) undef) h) = some r ∧ ∃ gs,Lg r.2 r.1 90 1 fs.length gs ∧ GN r.2 l l.length fs gs ∧ Keep No h r.2 ∧ ∀ m,nm r.1 = some m → h.next ≤ m by
    obtain ⟨⟨y1,y2⟩,hy,gs,q⟩ := hz
    exact ⟨y1,y2,gs,run_finP pt46 Try.func46 rfl planned46 hy,q⟩
  simp (maxSteps := 2000000) -implicitDefEqProofs [Try.f46,ble_d,beq_d,List.range_succ,List.replicate,cond_true,cond_false,sO46_3]
  generalize hl : loopω _ _ _ _ = r
  obtain ⟨h3,v3,x15,hx,gs,lg,gn,kp,nw⟩ := useX2 hl (grp1 (h0 := h) rfl rfl hk hkN hsm hfs hv hf _ _ (by kernel_rfl) _ (by kernel_rfl) ⟨[],Lg.nil _ _ _,⟨rfl,fun j hj => by simp at hj⟩,Keep.refl _ _,fun m e => by cases e⟩)
  subst hx
  simp (maxSteps := 2000000) -implicitDefEqProofs [ble_d,beq_d,List.range_succ,List.replicate,cond_true,cond_false]
  rw [List.take_length] at gn
  exact ⟨_,_,⟨rfl,rfl⟩,gs,lg,gn,kp,nw⟩
end Go.Proofs.Ytmnkmdfladbgdaa.Od

set_option linter.unusedVariables false
set_option linter.unusedSimpArgs false
namespace Go.Proofs.Ytmnkmdfladbgdaa.Od
open Go Go.Proofs Go.RowKit Go.Proofs.YtmnkmdfladbgdaaAI Go.Proofs.YtmnkmdfladbgdaaFl
noncomputable def lt25 (i : Nat) : Code := (loopsOf (Try.f25.body.getD .skip)).getD i .skip

theorem el9 : elTyB Try.prog 9 1 16 = true := by kernel_rfl
theorem el71' : elTyB Try.prog 71 2 16 = true := by kernel_rfl
theorem el87 : elTyB Try.prog 87 6 96 = true := by kernel_rfl
theorem bs85 (ρ : Operand → Value) (d ty pos af gu) : aalloc Try.prog ρ ⟨d,.buildSlice 85 0 #[],ty,pos,af,gu⟩ = some (.cells [] 9 1 false false,fun n => .slice (some ⟨n,0,none⟩) 0 0) := by kernel_rfl
theorem bs33' (ρ : Operand → Value) (d ty pos af gu) : aalloc Try.prog ρ ⟨d,.buildSlice 33 0 #[],ty,pos,af,gu⟩ = some (.cells [] 71 2 false false,fun n => .slice (some ⟨n,0,none⟩) 0 0) := by kernel_rfl
theorem pairs_one (l : List (Int × Int)) : (pairs l).all one = true := by simp [pairs,one]
/-- A copy of a row behind a new row of nothing. -/
theorem copy_any {h : Heap} {w : Value} {t e sz b k : Nat} {cs : List Value} (hu : Try.prog.underlying t = some (.slice e)) (he : elTyB Try.prog e sz b = true) (hl : Sl h w sz k cs) (kl : k * b ≤ 2 ^ 47) (k2 : k ≤ 2 ^ 47) (h1 : cs.all one = true) :
    ∃ a c h',aappend Try.prog t t (.slice (some ⟨h.next,0,none⟩) 0 0) w (h.new (.cells [] e sz false false)) = some (.slice a k c,h') ∧ Sl h' (.slice a k c) sz k cs ∧ Keep No h h' ∧ ∀ m,nm (.slice a k c) = some m → h.next ≤ m := by
  have k0 := Keep.new No h (.cells [] e sz false false)
  obtain ⟨v8,h8,e8,lg8,kp8,nv8,_,nf8⟩ := append_lg (t := t) (xt := t) (h := h.new (.cells [] e sz false false)) (v := .slice (some ⟨h.next,0,none⟩) 0 0) (k := 0) (cs := []) hu hu rfl he ⟨by simp,.inl ⟨rfl,.inr ⟨_,_,rfl⟩⟩⟩ (hl.keep k0 fun _ _ x => x) (by rw [Nat.zero_add]; exact kl) (by omega) h1
  rw [List.nil_append,Nat.zero_add] at lg8
  obtain ⟨a,c,rfl⟩ := sl_form lg8.sl
  refine ⟨a,c,h8,e8,lg8.sl,k0.trans (kp8.mono fun m _ x => absurd (nm_eq x).1 (Nat.lt_irrefl 0)),fun m hm => ?_⟩
  rcases Nat.lt_or_ge m (h.new (.cells [] e sz false false)).next with y | y
  · exact absurd (nm_eq (nv8 m hm y)).1 (Nat.lt_irrefl 0)
  · rw [Heap.next_new] at y; omega
theorem ocs_snoc : ∀ {l : List Oc} {vs : List (Value × Value × Value)} (o : Oc) (w : Value × Value × Value),vs.length = l.length → ocs (l ++ [o]) (vs ++ [w]) = ocs l vs ++ oc6 o w
  | [],[],o,w,_ => by simp [ocs]
  | [],v :: vs,o,w,h => by simp at h
  | x :: l,[],o,w,h => by simp at h
  | x :: l,v :: vs,o,w,h => by
    rw [List.cons_append,List.cons_append,ocs,ocs,ocs_snoc o w (by simpa using h),List.append_assoc]
theorem bs55_1' (e n s : Int) (a1 : Option Addr) (k1 c1 : Nat) (a2 : Option Addr) (k2 c2 : Nat) (a3 : Option Addr) (k3 c3 : Nat) (d ty pos af gu) : aalloc Try.prog (fun _ => .agg #[.int .i64 e,.int .i64 n,.slice a1 k1 c1,.int .i64 s,.slice a2 k2 c2,.slice a3 k3 c3]) ⟨d,.buildSlice 55 1 #[(0,.tmp 0)],ty,pos,af,gu⟩ = some (.cells [.int .i64 e,.int .i64 n,.slice a1 k1 c1,.int .i64 s,.slice a2 k2 c2,.slice a3 k3 c3] 87 6 false false,fun n => .slice (some ⟨n,0,none⟩) 1 1) := by kernel_rfl
theorem bs55_1 (ρ : Operand → Value) (x) (e n s : Int) (a1 : Option Addr) (k1 c1 : Nat) (a2 : Option Addr) (k2 c2 : Nat) (a3 : Option Addr) (k3 c3 : Nat) (hx : ρ x = .agg #[.int .i64 e,.int .i64 n,.slice a1 k1 c1,.int .i64 s,.slice a2 k2 c2,.slice a3 k3 c3]) (d ty pos af gu) : aalloc Try.prog ρ ⟨d,.buildSlice 55 1 #[(0,x)],ty,pos,af,gu⟩ = some (.cells [.int .i64 e,.int .i64 n,.slice a1 k1 c1,.int .i64 s,.slice a2 k2 c2,.slice a3 k3 c3] 87 6 false false,fun n => .slice (some ⟨n,0,none⟩) 1 1) := by
  have h1 : aalloc Try.prog ρ ⟨d,.buildSlice 55 1 #[(0,x)],ty,pos,af,gu⟩ = aalloc Try.prog (fun _ => ρ x) ⟨d,.buildSlice 55 1 #[(0,.tmp 0)],ty,pos,af,gu⟩ := by simp [aalloc]
  rw [h1,hx]; exact bs55_1' _ _ _ _ _ _ _ _ _ _ _ _ _ _ _ _ _
/-- No row inside stands where the row outside stands. -/
def Sep (v : Value) (vs : List (Value × Value × Value)) : Prop := ∀ w ∈ vs,∀ m,nm v = some m → nm w.1 ≠ some m ∧ nm w.2.1 ≠ some m ∧ nm w.2.2 ≠ some m
theorem nest1_keepS {S : Nat → Prop} {h h' : Heap} {o : Oc} {w : Value × Value × Value} (hn : Nest1 h o w) (hk : Keep S h h') (hS : ∀ m,S m → nm w.1 ≠ some m ∧ nm w.2.1 ≠ some m ∧ nm w.2.2 ≠ some m) : Nest1 h' o w :=
  ⟨hn.1.keep hk fun m e s => (hS m s).1 e,hn.2.1.keep hk fun m e s => (hS m s).2.1 e,hn.2.2.keep hk fun m e s => (hS m s).2.2 e⟩
theorem nest1_lt {h : Heap} {o : Oc} {w : Value × Value × Value} (hn : Nest1 h o w) (m : Nat) : (nm w.1 = some m → m < h.next) ∧ (nm w.2.1 = some m → m < h.next) ∧ (nm w.2.2 = some m → m < h.next) :=
  ⟨fun e => hn.1.lt e,fun e => hn.2.1.lt e,fun e => hn.2.2.lt e⟩
set_option maxRecDepth 20000 in
set_option maxHeartbeats 6400000 in
theorem cop1 {h0 : Heap} {va : Option Addr} {vc n : Nat} {l : List Oc} (hn : l.length = n) (hk : n * 96 ≤ 2 ^ 47) (hsm : Small l) (hv : Outs h0 (.slice va n vc) l) (v0 : Value) (F : Step) (hFF : F = aexecP Try.prog (sO 25) (run Try.prog sO) loopω pt25 (lt25 0)) (t : Tm)
    (ht : forget [1,2,4,5,6,9,10,11,12,13,14,15,16,17,18,19,20,21,22,23,24,25,26,27,28,29,30,31,32,33,34,35] t = [.slice va n vc,Z,Z,v0,Z,Z,Z,.int .i64 n,.int .i64 (0 : Nat),Z,Z,Z,Z,Z,Z,Z,Z,Z,Z,Z,Z,Z,Z,Z,Z,Z,Z,Z,Z,Z,Z,Z,Z,Z,Z,Z]) (hI0 : (∃ vs,List.length vs = (0) ∧ Lg h0 v0 87 6 (0) (ocs (l.take (0)) vs) ∧ Nest h0 (l.take (0)) vs ∧ Sep v0 vs ∧ Keep No h0 h0 ∧ ∀ m,nm v0 = some m → h0.next ≤ m)) :
    ∃ h' v x9,loopω [1,2,4,5,6,9,10,11,12,13,14,15,16,17,18,19,20,21,22,23,24,25,26,27,28,29,30,31,32,33,34,35] F t h0 = some (.exit 0,[.slice va n vc,Z,Z,v,Z,Z,Z,.int .i64 n,.int .i64 (n : Nat),x9,Z,Z,Z,Z,Z,Z,Z,Z,Z,Z,Z,Z,Z,Z,Z,Z,Z,Z,Z,Z,Z,Z,Z,Z,Z,Z],h') ∧ (∃ vs,List.length vs = (n) ∧ Lg h' v 87 6 (n) (ocs (l.take (n)) vs) ∧ Nest h' (l.take (n)) vs ∧ Sep v vs ∧ Keep No h0 h' ∧ ∀ m,nm v = some m → h0.next ≤ m) := by
  subst hFF
  suffices hs : ∃ e t' h',loopω [1,2,4,5,6,9,10,11,12,13,14,15,16,17,18,19,20,21,22,23,24,25,26,27,28,29,30,31,32,33,34,35] (aexecP Try.prog (sO 25) (run Try.prog sO) loopω pt25 (lt25 0)) t h0 = some (e,t',h') ∧ (e = .exit 0 ∧ ∃ v x9,t' = [.slice va n vc,Z,Z,v,Z,Z,Z,.int .i64 n,.int .i64 (n : Nat),x9,Z,Z,Z,Z,Z,Z,Z,Z,Z,Z,Z,Z,Z,Z,Z,Z,Z,Z,Z,Z,Z,Z,Z,Z,Z,Z] ∧ (∃ vs,List.length vs = (n) ∧ Lg h' v 87 6 (n) (ocs (l.take (n)) vs) ∧ Nest h' (l.take (n)) vs ∧ Sep v vs ∧ Keep No h0 h' ∧ ∀ m,nm v = some m → h0.next ≤ m)) by
    obtain ⟨e,t',h',q1,rfl,v,x9,rfl,q2⟩ := hs
    exact ⟨h',v,x9,q1,q2⟩
  simp only [lt25,Try.f25,loopsOf,Option.getD_some,List.nil_append,List.append_nil,List.cons_append,List.getD_cons_zero,List.getD_cons_succ]
  refine loop_by (fun k t h' => ∃ (i : Nat) (v : Value),i + k = n ∧ forget [1,2,4,5,6,9,10,11,12,13,14,15,16,17,18,19,20,21,22,23,24,25,26,27,28,29,30,31,32,33,34,35] t = [.slice va n vc,Z,Z,v,Z,Z,Z,.int .i64 n,.int .i64 (i : Nat),Z,Z,Z,Z,Z,Z,Z,Z,Z,Z,Z,Z,Z,Z,Z,Z,Z,Z,Z,Z,Z,Z,Z,Z,Z,Z,Z] ∧ (∃ vs,List.length vs = (i) ∧ Lg h' v 87 6 (i) (ocs (l.take (i)) vs) ∧ Nest h' (l.take (i)) vs ∧ Sep v vs ∧ Keep No h0 h' ∧ ∀ m,nm v = some m → h0.next ≤ m))
    (fun e t' h' => e = .exit 0 ∧ ∃ v x9,t' = [.slice va n vc,Z,Z,v,Z,Z,Z,.int .i64 n,.int .i64 (n : Nat),x9,Z,Z,Z,Z,Z,Z,Z,Z,Z,Z,Z,Z,Z,Z,Z,Z,Z,Z,Z,Z,Z,Z,Z,Z,Z,Z] ∧ (∃ vs,List.length vs = (n) ∧ Lg h' v 87 6 (n) (ocs (l.take (n)) vs) ∧ Nest h' (l.take (n)) vs ∧ Sep v vs ∧ Keep No h0 h' ∧ ∀ m,nm v = some m → h0.next ≤ m)) ?_ (n) _ _ ⟨0,_,by omega,ht,hI0⟩
  rintro k t h' ⟨i,v,hi,ht,hI⟩
  rw [ht]
  rcases Nat.lt_or_ge i (n) with h1 | h1
  · obtain ⟨vs,hlv,lg,nst,sep,kp,nw⟩ := hI
    have hinc := @inc64 i (by omega)
    have hcs := cast_succ i
    obtain ⟨wa,wc,C2,ce2,cs2,gr2,ro2,x1,y1,z1,x2,y2,z2,x3,y3,z3,eb,hg2,hf2,hd2,_,hnest⟩ := os_at (hv.keep kp) (show i < l.length by omega)
    rw [hn] at eb
    simp only [Value.slice.injEq,true_and] at eb
    obtain ⟨eb1,eb2⟩ := eb
    subst eb1 eb2
    have hs2 := hsm.get (i := i) (by omega)
    have ht1 : l.take (i + 1) = l.take i ++ [l.getD i oc0] := by
      rw [List.take_add_one,List.getElem?_eq_getElem (by omega),List.getD_eq_getElem?_getD,List.getElem?_eq_getElem (by omega)]; rfl
    have hti : (l.take i).length = i := by rw [List.length_take]; omega
    generalize l.getD i oc0 = o at *
    obtain ⟨s1,s2,s3⟩ := hnest
    have b1 := hs2.1
    have b2 := hs2.2.1
    have b3 := hs2.2.2
    have E1 : y1 = o.tx.length := by obtain ⟨_,_,e⟩ := sl_form s1; cases e; rfl
    have E2 : y2 = o.tr.length := by obtain ⟨_,_,e⟩ := sl_form s2; cases e; rfl
    have E3 : y3 = o.pk.length := by obtain ⟨_,_,e⟩ := sl_form s3; cases e; rfl
    subst E1 E2 E3
    have gz : (h'.new (.cells [.int .i64 0,.int .i64 0,.slice none 0 0,.int .i64 0,.slice none 0 0,.slice none 0 0] 87 6 false false)).get h'.next = some (.cells [.int .i64 0,.int .i64 0,.slice none 0 0,.int .i64 0,.slice none 0 0,.slice none 0 0] 87 6 false false) := by rw [Heap.get_new,if_pos rfl]
    obtain ⟨h1',h1e⟩ : ∃ x,x = (h'.new (.cells [.int .i64 0,.int .i64 0,.slice none 0 0,.int .i64 0,.slice none 0 0,.slice none 0 0] 87 6 false false)).put h'.next (some (.cells [.int .i64 o.e,.int .i64 o.en,.slice x1 o.tx.length z1,.int .i64 o.st,.slice x2 o.tr.length z2,.slice x3 o.pk.length z3] 87 6 false false)) := ⟨_,rfl⟩
    have k1 : Keep No h' h1' := h1e ▸ (Keep.new No h' _).also (Keep.put (S := fun m => m = h'.next) (Heap.get_lt gz) rfl _) fun m hm e => by omega
    have g1 : h1'.get h'.next = some (.cells [.int .i64 o.e,.int .i64 o.en,.slice x1 o.tx.length z1,.int .i64 o.st,.slice x2 o.tr.length z2,.slice x3 o.pk.length z3] 87 6 false false) := by rw [h1e,Heap.get_put (Heap.get_lt gz),if_pos rfl]
    obtain ⟨a1,c1,h2,e2,s1',k2,n2⟩ := copy_any Try.underlying85 el9 (s1.keep k1 fun _ _ x => x) (by omega) (by omega) (strs_one _)
    have g1n := (Keep.new No h1' (.cells [] 9 1 false false)).get g1 fun x => x
    have g2 := k2.get g1 fun x => x
    obtain ⟨h3,h3e⟩ : ∃ x,x = h2.put h'.next (some (.cells [.int .i64 o.e,.int .i64 o.en,.slice a1 o.tx.length c1,.int .i64 o.st,.slice x2 o.tr.length z2,.slice x3 o.pk.length z3] 87 6 false false)) := ⟨_,rfl⟩
    have kP3 : Keep (fun m => m = h'.next) h2 h3 := h3e ▸ Keep.put (S := fun m => m = h'.next) (Heap.get_lt g2) rfl _
    have g3 : h3.get h'.next = some (.cells [.int .i64 o.e,.int .i64 o.en,.slice a1 o.tx.length c1,.int .i64 o.st,.slice x2 o.tr.length z2,.slice x3 o.pk.length z3] 87 6 false false) := by rw [h3e,Heap.get_put (Heap.get_lt g2),if_pos rfl]
    have k3 : Keep No h' h3 := (k1.trans k2).also kP3 fun m hm e => by omega
    have hl1 := h1'.next
    have lt1 := Heap.get_lt g1
    obtain ⟨a2,c2,h4,e4,s2',k4,n4⟩ := copy_any Try.underlying85 el9 (s2.keep k3 fun _ _ x => x) (by omega) (by omega) (strs_one _)
    have g3n := (Keep.new No h3 (.cells [] 9 1 false false)).get g3 fun x => x
    have g4 := k4.get g3 fun x => x
    obtain ⟨h5,h5e⟩ : ∃ x,x = h4.put h'.next (some (.cells [.int .i64 o.e,.int .i64 o.en,.slice a1 o.tx.length c1,.int .i64 o.st,.slice a2 o.tr.length c2,.slice x3 o.pk.length z3] 87 6 false false)) := ⟨_,rfl⟩
    have kP5 : Keep (fun m => m = h'.next) h4 h5 := h5e ▸ Keep.put (S := fun m => m = h'.next) (Heap.get_lt g4) rfl _
    have g5 : h5.get h'.next = some (.cells [.int .i64 o.e,.int .i64 o.en,.slice a1 o.tx.length c1,.int .i64 o.st,.slice a2 o.tr.length c2,.slice x3 o.pk.length z3] 87 6 false false) := by rw [h5e,Heap.get_put (Heap.get_lt g4),if_pos rfl]
    have k5 : Keep No h' h5 := (k3.trans k4).also kP5 fun m hm e => by omega
    have lt3 := Heap.get_lt g3
    obtain ⟨a3,c3,h6,e6,s3',k6,n6⟩ := copy_any Try.underlying33 el71' (s3.keep k5 fun _ _ x => x) (by omega) (by omega) (pairs_one _)
    have g5n := (Keep.new No h5 (.cells [] 71 2 false false)).get g5 fun x => x
    have g6 := k6.get g5 fun x => x
    obtain ⟨h7,h7e⟩ : ∃ x,x = h6.put h'.next (some (.cells [.int .i64 o.e,.int .i64 o.en,.slice a1 o.tx.length c1,.int .i64 o.st,.slice a2 o.tr.length c2,.slice a3 o.pk.length c3] 87 6 false false)) := ⟨_,rfl⟩
    have kP7 : Keep (fun m => m = h'.next) h6 h7 := h7e ▸ Keep.put (S := fun m => m = h'.next) (Heap.get_lt g6) rfl _
    have g7 : h7.get h'.next = some (.cells [.int .i64 o.e,.int .i64 o.en,.slice a1 o.tx.length c1,.int .i64 o.st,.slice a2 o.tr.length c2,.slice a3 o.pk.length c3] 87 6 false false) := by rw [h7e,Heap.get_put (Heap.get_lt g6),if_pos rfl]
    have k7 : Keep No h' h7 := (k5.trans k6).also kP7 fun m hm e => by omega
    have lt5 := Heap.get_lt g5
    have q1 := ((((s1'.keep kP3 fun m e x => by have := n2 m e; omega).keep k4 fun _ _ x => x).keep kP5 fun m e x => by have := n2 m e; omega).keep k6 fun _ _ x => x).keep kP7 fun m e x => by have := n2 m e; omega
    have q2 := ((s2'.keep kP5 fun m e x => by have := n4 m e; omega).keep k6 fun _ _ x => x).keep kP7 fun m e x => by have := n4 m e; omega
    have q3 := s3'.keep kP7 fun m e x => by have := n6 m e; omega
    have nN : Nest1 h7 o (.slice a1 o.tx.length c1,.slice a2 o.tr.length c2,.slice a3 o.pk.length c3) := ⟨q1,q2,q3⟩
    have hnv : ∀ m,nm v = some m → m < h'.next := fun m e => lg.sl.lt e
    have k8 := Keep.new No h7 (.cells [.int .i64 o.e,.int .i64 o.en,.slice a1 o.tx.length c1,.int .i64 o.st,.slice a2 o.tr.length c2,.slice a3 o.pk.length c3] 87 6 false false)
    have hx1 : Sl (h7.new (.cells [.int .i64 o.e,.int .i64 o.en,.slice a1 o.tx.length c1,.int .i64 o.st,.slice a2 o.tr.length c2,.slice a3 o.pk.length c3] 87 6 false false)) (.slice (some ⟨h7.next,0,none⟩) 1 1) 6 1 (oc6 o (.slice a1 o.tx.length c1,.slice a2 o.tr.length c2,.slice a3 o.pk.length c3)) :=
      ⟨rfl,.inr ⟨_,_,rfl,fun _ => ⟨_,_,_,_,_,by rw [Heap.get_new,if_pos rfl],rfl⟩⟩⟩
    have k78 := k7.trans k8
    obtain ⟨v8,h8,e8,lg8,kp8,nv8,_,nf8⟩ := append_lg (t := 55) (xt := 55) Try.underlying55 Try.underlying55 rfl el87 (lg.keep k78 fun _ _ x => x) hx1 (by omega) (by omega) rfl
    have hlt8 : ∀ m,nm v8 = some m → (h7.new (.cells [.int .i64 o.e,.int .i64 o.en,.slice a1 o.tx.length c1,.int .i64 o.st,.slice a2 o.tr.length c2,.slice a3 o.pk.length c3] 87 6 false false)).next ≤ m := fun m e => by
      obtain ⟨m',e',hm'⟩ := nf8 (by omega)
      rw [e] at e'; cases e'; exact hm'
    have lg9 : Lg h8 v8 87 6 (i + 1) (ocs (l.take (i + 1)) (vs ++ [(.slice a1 o.tx.length c1,.slice a2 o.tr.length c2,.slice a3 o.pk.length c3)])) := by
      rw [ht1,ocs_snoc _ _ (by omega)]; exact lg8
    have nN8 : Nest1 h8 o (.slice a1 o.tx.length c1,.slice a2 o.tr.length c2,.slice a3 o.pk.length c3) := nest1_keepS (nN.keep k8) kp8 fun m hm => by
      have h9 := hnv m hm
      have := k1.1
      have := k2.1
      have := k3.1
      have := k4.1
      have := k5.1
      exact ⟨fun e => by have := n2 m e; omega,fun e => by have := n4 m e; omega,fun e => by have := n6 m e; omega⟩
    have nst8 : Nest h8 (l.take (i + 1)) (vs ++ [(.slice a1 o.tx.length c1,.slice a2 o.tr.length c2,.slice a3 o.pk.length c3)]) := by
      rw [ht1]
      intro j o' w e1' e2'
      rcases Nat.lt_or_ge j i with hj | hj
      · rw [List.getElem?_append_left (by omega)] at e1' e2'
        exact nest1_keepS ((nst j o' w e1' e2').keep k78) kp8 fun m hm => sep w (List.mem_of_getElem? e2') m hm
      · have hj2 : j = i := by
          have := (List.getElem?_eq_some_iff.1 e1').1
          rw [List.length_append,hti] at this
          simp at this; omega
        subst hj2
        rw [List.getElem?_append_right (by omega),hti,Nat.sub_self] at e1'
        rw [List.getElem?_append_right (by omega),hlv,Nat.sub_self] at e2'
        simp only [List.getElem?_cons_zero,Option.some.injEq] at e1' e2'
        rw [← e1',← e2']
        exact nN8
    have sep8 : Sep v8 (vs ++ [(.slice a1 o.tx.length c1,.slice a2 o.tr.length c2,.slice a3 o.pk.length c3)]) := by
      intro w hw m hm
      have h9 := hlt8 m hm
      have key : ∃ o',Nest1 (h7.new (.cells [.int .i64 o.e,.int .i64 o.en,.slice a1 o.tx.length c1,.int .i64 o.st,.slice a2 o.tr.length c2,.slice a3 o.pk.length c3] 87 6 false false)) o' w := by
        rcases List.mem_append.1 hw with hw | hw
        · obtain ⟨j,hj,rfl⟩ := List.mem_iff_getElem.1 hw
          exact ⟨_,(nst j ((l.take i)[j]'(by omega)) _ (List.getElem?_eq_getElem (by omega)) (List.getElem?_eq_getElem hj)).keep k78⟩
        · rw [List.mem_singleton.1 hw]; exact ⟨o,nN.keep k8⟩
      obtain ⟨o',hn'⟩ := key
      obtain ⟨t1,t2,t3⟩ := nest1_lt hn' m
      exact ⟨fun e => by have := t1 e; omega,fun e => by have := t2 e; omega,fun e => by have := t3 e; omega⟩
    have kk := (kp.trans k78).also kp8 fun m hm x => by have := nw m x; omega
    have nn : ∀ m,nm v8 = some m → h0.next ≤ m := fun m e => by have := hlt8 m e; have := (kp.trans k78).1; omega
    simp (maxSteps := 2000000) -implicitDefEqProofs [ble_d,beq_d,List.range_succ,List.replicate,cond_true,cond_false,h1,hg2,hf2,hd2,al87,gz,ok87,astore,okc_slice,← h1e,aindexAddr,sz87,sz85,sz33,Try.underlying55,Try.underlying87,fa87_2,fa87_4,fa87_5,bs85,bs33',g1,g1n,g3n,g5n,e2,g2,← h3e,g3,e4,g4,← h5e,g5,e6,g6,← h7e,g7,(fun ρ y hy => bs55_1 ρ y o.e o.en o.st a1 o.tx.length c1 a2 o.tr.length c2 a3 o.pk.length c3 hy),e8,hinc,undef]
    exact ⟨k - 1,by omega,i + 1,by omega,v8,by simp (maxSteps := 2000000) only [forget,List.set_cons_succ,List.set_cons_zero,hcs],_,by rw [List.length_append,hlv]; rfl,lg9,nst8,sep8,kk,nn⟩
  · obtain rfl : i = n := by omega
    simp (maxSteps := 2000000) -implicitDefEqProofs [ble_d,beq_d,List.range_succ,List.replicate,cond_true,cond_false,undef]
    exact hI

theorem copied_run {h : Heap} {v : Value} {l : List Oc} (hv : Outs h v l) (hk : l.length * 96 ≤ 2 ^ 47) (hsm : Small l) :
    ∃ v' h',run Try.prog sO 25 [v] h = some (v',h') ∧ Outs h' v' l ∧ Keep No h h' := by
  obtain ⟨va,vc,rfl⟩ : ∃ a c,v = .slice a l.length c := by obtain ⟨_,_,hs,_⟩ := hv; exact sl_form hs
  suffices hz : ∃ r,fin Try.prog Try.f25 (aexecP Try.prog (sO 25) (run Try.prog sO) loopω pt25 (Try.f25.body.getD .skip) ([.slice va l.length vc] ++ List.replicate (Try.f25.ntmps - 1) undef) h) = some r ∧ Outs r.2 r.1 l ∧ Keep No h r.2 by
    obtain ⟨⟨y1,y2⟩,hy,q⟩ := hz
    exact ⟨y1,y2,run_finP pt25 Try.func25 rfl planned25 hy,q⟩
  simp (maxSteps := 2000000) -implicitDefEqProofs [Try.f25,ble_d,beq_d,List.range_succ,List.replicate,cond_true,cond_false,sO25]
  generalize hl : loopω _ _ _ _ = r
  obtain ⟨h3,v3,x9,hx,vs,hlv,lg,nst,sep,kp,nw⟩ := useX2 hl (cop1 (h0 := h) rfl hk hsm hv _ _ (by kernel_rfl) _ (by kernel_rfl) ⟨[],rfl,Lg.nil _ _ _,fun j o w e => by simp at e,fun w hw => (by cases hw),Keep.refl _ _,fun m e => by cases e⟩)
  subst hx
  simp (maxSteps := 2000000) -implicitDefEqProofs [ble_d,beq_d,List.range_succ,List.replicate,cond_true,cond_false]
  rw [List.take_length] at lg nst
  exact ⟨_,_,⟨rfl,rfl⟩,⟨vs,hlv,lg.sl,nst⟩,kp⟩
end Go.Proofs.Ytmnkmdfladbgdaa.Od
