/- Odds: may the picks be? -/
import Derived.Test.YtmnkmdfladbgdaaOd8
set_option linter.unusedVariables false
set_option linter.unusedSimpArgs false
namespace Go.Proofs.Ytmnkmdfladbgdaa.Od
open Go Go.Proofs Go.RowKit Go.Proofs.YtmnkmdfladbgdaaAI Go.Proofs.YtmnkmdfladbgdaaFl

def picks (l : List (Int × Int)) : List Value := l.flatMap fun p => [.int .i64 p.1,.int .i64 p.2]
theorem picks_len (l : List (Int × Int)) : (picks l).length = l.length * 2 := by
  induction l with
  | nil => rfl
  | cons x l ih => simp only [picks,List.flatMap_cons,List.length_append,List.length_cons,List.length_nil] at *; omega
theorem picks_get (l : List (Int × Int)) (i : Nat) (hi : i < l.length) : (picks l)[i * 2]? = some (.int .i64 (l.getD i (0,0)).1) ∧ (picks l)[i * 2 + 1]? = some (.int .i64 (l.getD i (0,0)).2) := by
  induction l generalizing i with
  | nil => simp at hi
  | cons x l ih =>
    cases i with
    | zero => simp [picks]
    | succ i =>
      have := ih i (by simpa using hi)
      have h1 : (i + 1) * 2 = i * 2 + 1 + 1 := by omega
      simp only [picks,List.flatMap_cons,List.cons_append,List.nil_append,h1,List.getElem?_cons_succ] at this ⊢
      simpa using this

/-- A pick's two numbers, at its place. -/
theorem sl_pick {h : Heap} {v : Value} {k : Nat} {l : List (Int × Int)} (hs : Sl h v 2 k (picks l)) {i : Nat} (hi : i < k) :
    ∃ a n c e s gr ro,v = .slice (some a) k n ∧ h.get a.block = some (.cells c e s gr ro) ∧ a.off + i * 2 + 2 ≤ c.length ∧ (c.drop (a.off + i * 2)).take 2 = [.int .i64 (l.getD i (0,0)).1,.int .i64 (l.getD i (0,0)).2] ∧
      c[a.off + i * 2]? = some (.int .i64 (l.getD i (0,0)).1) ∧ c[a.off + i * 2 + 1]? = some (.int .i64 (l.getD i (0,0)).2) := by
  have hs0 := hs
  obtain ⟨hl,⟨rfl,rfl⟩ | ⟨a,n,rfl,_⟩⟩ := hs0
  · omega
  · obtain ⟨c,e,s,gr,ro,hg,hfit,hc,hget⟩ := hs.fit (by omega) (by omega)
    have hll : l.length = k := by rw [picks_len] at hl; omega
    obtain ⟨p1,p2⟩ := picks_get l i (by omega)
    have g1 := hget (i * 2) (by omega)
    have g2 := hget (i * 2 + 1) (by omega)
    rw [p1] at g1
    rw [p2,← Nat.add_assoc] at g2
    refine ⟨a,n,c,e,s,gr,ro,rfl,hg,by omega,?_,g1,g2⟩
    have l1 : a.off + i * 2 < c.length := by omega
    have l2 : a.off + i * 2 + 1 < c.length := by omega
    rw [List.getElem?_eq_getElem l1,Option.some.injEq] at g1
    rw [List.getElem?_eq_getElem l2,Option.some.injEq] at g2
    rw [List.drop_eq_getElem_cons l1,List.drop_eq_getElem_cons l2]
    simp [g1,g2]


theorem fa71_0 (n o : Nat) : afieldAddr Try.prog 71 (.pointer (some ⟨n,o,none⟩)) 0 = some (.pointer (some ⟨n,o + 0,none⟩)) := by kernel_rfl
theorem fa71_1 (n o : Nat) : afieldAddr Try.prog 71 (.pointer (some ⟨n,o,none⟩)) 1 = some (.pointer (some ⟨n,o + 1,none⟩)) := by kernel_rfl
noncomputable def lb72 (i : Nat) : Code := (loopsOf (Try.f72.body.getD .skip)).getD i .skip
def bad (p : Int × Int) : Bool := decide (p.1 < 2) || (decide (p.2 < 0) || decide (p.2 ≥ p.1))
def goodB (l : List (Int × Int)) : Bool := l.all fun p => !bad p
theorem good_split (l : List (Int × Int)) : (goodB l = true ∧ ∀ i,i < l.length → bad (l.getD i (0,0)) = false) ∨ (goodB l = false ∧ ∃ p,p < l.length ∧ bad (l.getD p (0,0)) = true ∧ ∀ i,i < p → bad (l.getD i (0,0)) = false) := by
  induction l with
  | nil => exact .inl ⟨rfl,fun i h => by simp at h⟩
  | cons x l ih =>
    have hc : goodB (x :: l) = (!bad x && goodB l) := rfl
    cases hx : bad x
    · rcases ih with ⟨h1,h2⟩ | ⟨h1,p,h2,h3,h4⟩
      · refine .inl ⟨by rw [hc,hx,h1]; rfl,fun i hi => ?_⟩
        cases i with
        | zero => simpa using hx
        | succ i => simpa using h2 i (by simpa using hi)
      · refine .inr ⟨by rw [hc,hx,h1]; rfl,p + 1,by simpa using h2,by simpa using h3,fun i hi => ?_⟩
        cases i with
        | zero => simpa using hx
        | succ i => simpa using h4 i (by omega)
    · exact .inr ⟨by rw [hc,hx]; rfl,0,by simp,by simpa using hx,fun i hi => by omega⟩
set_option maxRecDepth 20000 in
set_option maxHeartbeats 6400000 in
theorem gd1 {h0 : Heap} {va : Option Addr} {vc n : Nat} {l : List (Int × Int)} (hn : l.length = n) (hk : n ≤ 2 ^ 47) (hv : Sl h0 (.slice va n vc) 2 n (picks l)) (hgood : ∀ i,i < n → bad (l.getD i (0,0)) = false) (F : Step) (hFF : F = aexecP Try.prog (sO 72) (run Try.prog sO) loopω pt72 (lb72 0)) (t : Tm)
    (ht : forget [1,2,4,5,6,7,8,9,10,11,12,13,14,15,16,17,18,19,20,21,22,23,24,25,26,27,28,29,30,31,32,33,34,35,36] t = [.slice va n vc,Z,Z,.int .i64 (0 : Nat),Z,Z,Z,Z,Z,Z,Z,Z,Z,Z,Z,Z,Z,Z,Z,Z,Z,Z,Z,Z,Z,Z,Z,Z,Z,Z,Z,Z,Z,Z,Z,Z,Z]) (hI0 : h0 = h0) :
    ∃ h' x4 x5 x6 x7,loopω [1,2,4,5,6,7,8,9,10,11,12,13,14,15,16,17,18,19,20,21,22,23,24,25,26,27,28,29,30,31,32,33,34,35,36] F t h0 = some (.exit 0,[.slice va n vc,Z,Z,.int .i64 (n : Nat),x4,x5,x6,x7,Z,Z,Z,Z,Z,Z,Z,Z,Z,Z,Z,Z,Z,Z,Z,Z,Z,Z,Z,Z,Z,Z,Z,Z,Z,Z,Z,Z,Z],h') ∧ h' = h0 := by
  subst hFF
  suffices hs : ∃ e t' h',loopω [1,2,4,5,6,7,8,9,10,11,12,13,14,15,16,17,18,19,20,21,22,23,24,25,26,27,28,29,30,31,32,33,34,35,36] (aexecP Try.prog (sO 72) (run Try.prog sO) loopω pt72 (lb72 0)) t h0 = some (e,t',h') ∧ (e = .exit 0 ∧ ∃ x4 x5 x6 x7,t' = [.slice va n vc,Z,Z,.int .i64 (n : Nat),x4,x5,x6,x7,Z,Z,Z,Z,Z,Z,Z,Z,Z,Z,Z,Z,Z,Z,Z,Z,Z,Z,Z,Z,Z,Z,Z,Z,Z,Z,Z,Z,Z] ∧ h' = h0) by
    obtain ⟨e,t',h',q1,rfl,x4,x5,x6,x7,rfl,q2⟩ := hs
    exact ⟨h',x4,x5,x6,x7,q1,q2⟩
  simp only [lb72,Try.f72,loopsOf,Option.getD_some,List.nil_append,List.append_nil,List.cons_append,List.getD_cons_zero,List.getD_cons_succ]
  refine loop_by (fun k t h' => ∃ (i : Nat),i + k = n ∧ forget [1,2,4,5,6,7,8,9,10,11,12,13,14,15,16,17,18,19,20,21,22,23,24,25,26,27,28,29,30,31,32,33,34,35,36] t = [.slice va n vc,Z,Z,.int .i64 (i : Nat),Z,Z,Z,Z,Z,Z,Z,Z,Z,Z,Z,Z,Z,Z,Z,Z,Z,Z,Z,Z,Z,Z,Z,Z,Z,Z,Z,Z,Z,Z,Z,Z,Z] ∧ h' = h0)
    (fun e t' h' => e = .exit 0 ∧ ∃ x4 x5 x6 x7,t' = [.slice va n vc,Z,Z,.int .i64 (n : Nat),x4,x5,x6,x7,Z,Z,Z,Z,Z,Z,Z,Z,Z,Z,Z,Z,Z,Z,Z,Z,Z,Z,Z,Z,Z,Z,Z,Z,Z,Z,Z,Z,Z] ∧ h' = h0) ?_ (n) _ _ ⟨0,by omega,ht,hI0⟩
  rintro k t h' ⟨i,hi,ht,hI⟩
  rw [ht]
  rcases Nat.lt_or_ge i (n) with h1 | h1
  · have hinc := @inc64 i (by omega)
    have hcs := cast_succ i
    subst hI
    obtain ⟨va,vc,C,ce,cs,gr,ro,eb,hgt,hf,hd,p1,p2⟩ := sl_pick hv (show i < n by omega)
    simp only [Value.slice.injEq,true_and] at eb
    obtain ⟨rfl,rfl⟩ := eb
    have hb := hgood i (by omega)
    generalize l.getD i (0,0) = q at *
    obtain ⟨q1,q2⟩ := q
    simp only at p1 p2
    
    have c1 : ¬ q1 < 2 := fun x => by simp [bad,x] at hb
    have c2 : ¬ q2 < 0 := fun x => by simp [bad,x] at hb
    have c3 : ¬ q1 ≤ q2 := fun x => by simp [bad,x] at hb
    have hin : i < n := by omega
    simp (maxSteps := 2000000) -implicitDefEqProofs [ble_d,beq_d,List.range_succ,List.replicate,cond_true,cond_false,hin,pt72_4,pl72_4,an72_4,Try.underlying33,Try.underlying3,aindexAddr,sz71,hgt,p1,p2,fa71_0,fa71_1,c1,c2,c3,hinc,undef]
    exact ⟨k - 1,by omega,i + 1,by omega,by simp (maxSteps := 2000000) only [forget,List.set_cons_succ,List.set_cons_zero,hcs]⟩
  · obtain rfl : i = n := by omega
    simp (maxSteps := 2000000) -implicitDefEqProofs [ble_d,beq_d,List.range_succ,List.replicate,cond_true,cond_false,undef]
    exact hI
set_option maxRecDepth 20000 in
set_option maxHeartbeats 6400000 in
theorem gd2 {h0 : Heap} {va : Option Addr} {vc n : Nat} {l : List (Int × Int)} (hn : l.length = n) (hk : n ≤ 2 ^ 47) (hv : Sl h0 (.slice va n vc) 2 n (picks l)) (p : Nat) (hp : p < n) (hbad : bad (l.getD p (0,0)) = true) (hgood : ∀ i,i < p → bad (l.getD i (0,0)) = false) (F : Step) (hFF : F = aexecP Try.prog (sO 72) (run Try.prog sO) loopω pt72 (lb72 0)) (t : Tm)
    (ht : forget [1,2,4,5,6,7,8,9,10,11,12,13,14,15,16,17,18,19,20,21,22,23,24,25,26,27,28,29,30,31,32,33,34,35,36] t = [.slice va n vc,Z,Z,.int .i64 (0 : Nat),Z,Z,Z,Z,Z,Z,Z,Z,Z,Z,Z,Z,Z,Z,Z,Z,Z,Z,Z,Z,Z,Z,Z,Z,Z,Z,Z,Z,Z,Z,Z,Z,Z]) (hI0 : h0 = h0) :
    ∃ h' x4 x5 x6 x7 x10 x11 x12 x13 x14 x15 x16 x17 x18 x19 x20 x21 x22 x23 x24 x25 x26 x27 x28 x29 x30 x31 x32 x33 x34 x35 x36,loopω [1,2,4,5,6,7,8,9,10,11,12,13,14,15,16,17,18,19,20,21,22,23,24,25,26,27,28,29,30,31,32,33,34,35,36] F t h0 = some (.ret,[.slice va n vc,Z,.bool false,.int .i64 (p : Nat),x4,x5,x6,x7,Z,Z,x10,x11,x12,x13,x14,x15,x16,x17,x18,x19,x20,x21,x22,x23,x24,x25,x26,x27,x28,x29,x30,x31,x32,x33,x34,x35,x36],h') ∧ h' = h0 := by
  subst hFF
  suffices hs : ∃ e t' h',loopω [1,2,4,5,6,7,8,9,10,11,12,13,14,15,16,17,18,19,20,21,22,23,24,25,26,27,28,29,30,31,32,33,34,35,36] (aexecP Try.prog (sO 72) (run Try.prog sO) loopω pt72 (lb72 0)) t h0 = some (e,t',h') ∧ (e = .ret ∧ ∃ x4 x5 x6 x7 x10 x11 x12 x13 x14 x15 x16 x17 x18 x19 x20 x21 x22 x23 x24 x25 x26 x27 x28 x29 x30 x31 x32 x33 x34 x35 x36,t' = [.slice va n vc,Z,.bool false,.int .i64 (p : Nat),x4,x5,x6,x7,Z,Z,x10,x11,x12,x13,x14,x15,x16,x17,x18,x19,x20,x21,x22,x23,x24,x25,x26,x27,x28,x29,x30,x31,x32,x33,x34,x35,x36] ∧ h' = h0) by
    obtain ⟨e,t',h',q1,rfl,x4,x5,x6,x7,x10,x11,x12,x13,x14,x15,x16,x17,x18,x19,x20,x21,x22,x23,x24,x25,x26,x27,x28,x29,x30,x31,x32,x33,x34,x35,x36,rfl,q2⟩ := hs
    exact ⟨h',x4,x5,x6,x7,x10,x11,x12,x13,x14,x15,x16,x17,x18,x19,x20,x21,x22,x23,x24,x25,x26,x27,x28,x29,x30,x31,x32,x33,x34,x35,x36,q1,q2⟩
  simp only [lb72,Try.f72,loopsOf,Option.getD_some,List.nil_append,List.append_nil,List.cons_append,List.getD_cons_zero,List.getD_cons_succ]
  refine loop_by (fun k t h' => ∃ (i : Nat),i + k = p ∧ forget [1,2,4,5,6,7,8,9,10,11,12,13,14,15,16,17,18,19,20,21,22,23,24,25,26,27,28,29,30,31,32,33,34,35,36] t = [.slice va n vc,Z,Z,.int .i64 (i : Nat),Z,Z,Z,Z,Z,Z,Z,Z,Z,Z,Z,Z,Z,Z,Z,Z,Z,Z,Z,Z,Z,Z,Z,Z,Z,Z,Z,Z,Z,Z,Z,Z,Z] ∧ h' = h0)
    (fun e t' h' => e = .ret ∧ ∃ x4 x5 x6 x7 x10 x11 x12 x13 x14 x15 x16 x17 x18 x19 x20 x21 x22 x23 x24 x25 x26 x27 x28 x29 x30 x31 x32 x33 x34 x35 x36,t' = [.slice va n vc,Z,.bool false,.int .i64 (p : Nat),x4,x5,x6,x7,Z,Z,x10,x11,x12,x13,x14,x15,x16,x17,x18,x19,x20,x21,x22,x23,x24,x25,x26,x27,x28,x29,x30,x31,x32,x33,x34,x35,x36] ∧ h' = h0) ?_ (p) _ _ ⟨0,by omega,ht,hI0⟩
  rintro k t h' ⟨i,hi,ht,hI⟩
  rw [ht]
  rcases Nat.lt_or_ge i (p) with h1 | h1
  · have hinc := @inc64 i (by omega)
    have hcs := cast_succ i
    subst hI
    obtain ⟨va,vc,C,ce,cs,gr,ro,eb,hgt,hf,hd,p1,p2⟩ := sl_pick hv (show i < n by omega)
    simp only [Value.slice.injEq,true_and] at eb
    obtain ⟨rfl,rfl⟩ := eb
    have hb := hgood i (by omega)
    generalize l.getD i (0,0) = q at *
    obtain ⟨q1,q2⟩ := q
    simp only at p1 p2
    
    have c1 : ¬ q1 < 2 := fun x => by simp [bad,x] at hb
    have c2 : ¬ q2 < 0 := fun x => by simp [bad,x] at hb
    have c3 : ¬ q1 ≤ q2 := fun x => by simp [bad,x] at hb
    have hin : i < n := by omega
    simp (maxSteps := 2000000) -implicitDefEqProofs [ble_d,beq_d,List.range_succ,List.replicate,cond_true,cond_false,hin,pt72_4,pl72_4,an72_4,Try.underlying33,Try.underlying3,aindexAddr,sz71,hgt,p1,p2,fa71_0,fa71_1,c1,c2,c3,hinc,undef]
    exact ⟨k - 1,by omega,i + 1,by omega,by simp (maxSteps := 2000000) only [forget,List.set_cons_succ,List.set_cons_zero,hcs]⟩
  · obtain rfl : i = p := by omega
    have hinc := @inc64 i (by omega)
    have hcs := cast_succ i
    subst hI
    obtain ⟨va,vc,C,ce,cs,gr,ro,eb,hgt,hf,hd,p1,p2⟩ := sl_pick hv hp
    simp only [Value.slice.injEq,true_and] at eb
    obtain ⟨rfl,rfl⟩ := eb
    have hb := hbad
    generalize l.getD i (0,0) = q at *
    obtain ⟨q1,q2⟩ := q
    simp only at p1 p2
    by_cases c1 : q1 < 2
    · simp (maxSteps := 2000000) -implicitDefEqProofs [ble_d,beq_d,List.range_succ,List.replicate,cond_true,cond_false,hp,pt72_4,pl72_4,an72_4,Try.underlying33,Try.underlying3,aindexAddr,sz71,hgt,p1,p2,fa71_0,fa71_1,c1,undef]
    by_cases c2 : q2 < 0
    · simp (maxSteps := 2000000) -implicitDefEqProofs [ble_d,beq_d,List.range_succ,List.replicate,cond_true,cond_false,hp,pt72_4,pl72_4,an72_4,Try.underlying33,Try.underlying3,aindexAddr,sz71,hgt,p1,p2,fa71_0,fa71_1,c1,c2,undef]
    have c3 : q1 ≤ q2 := by simp [bad,c1,c2] at hb; omega
    simp (maxSteps := 2000000) -implicitDefEqProofs [ble_d,beq_d,List.range_succ,List.replicate,cond_true,cond_false,hp,pt72_4,pl72_4,an72_4,Try.underlying33,Try.underlying3,aindexAddr,sz71,hgt,p1,p2,fa71_0,fa71_1,c1,c2,c3,undef]
theorem useX31 {ks : List Nat} {F : Step} {t : Tm} {h : Heap} {rr : Option (AEx × Tm × Heap)} {f : Heap → Value → Value → Value → Value → Value → Value → Value → Value → Value → Value → Value → Value → Value → Value → Value → Value → Value → Value → Value → Value → Value → Value → Value → Value → Value → Value → Value → Value → Value → Value → Value → Option (AEx × Tm × Heap)} {p : Heap → Value → Value → Value → Value → Value → Value → Value → Value → Value → Value → Value → Value → Value → Value → Value → Value → Value → Value → Value → Value → Value → Value → Value → Value → Value → Value → Value → Value → Value → Value → Value → Prop} (hl : loopω ks F t h = rr) (H : ∃ h' x0 x1 x2 x3 x4 x5 x6 x7 x8 x9 x10 x11 x12 x13 x14 x15 x16 x17 x18 x19 x20 x21 x22 x23 x24 x25 x26 x27 x28 x29 x30,loopω ks F t h = f h' x0 x1 x2 x3 x4 x5 x6 x7 x8 x9 x10 x11 x12 x13 x14 x15 x16 x17 x18 x19 x20 x21 x22 x23 x24 x25 x26 x27 x28 x29 x30 ∧ p h' x0 x1 x2 x3 x4 x5 x6 x7 x8 x9 x10 x11 x12 x13 x14 x15 x16 x17 x18 x19 x20 x21 x22 x23 x24 x25 x26 x27 x28 x29 x30) : ∃ h' x0 x1 x2 x3 x4 x5 x6 x7 x8 x9 x10 x11 x12 x13 x14 x15 x16 x17 x18 x19 x20 x21 x22 x23 x24 x25 x26 x27 x28 x29 x30,rr = f h' x0 x1 x2 x3 x4 x5 x6 x7 x8 x9 x10 x11 x12 x13 x14 x15 x16 x17 x18 x19 x20 x21 x22 x23 x24 x25 x26 x27 x28 x29 x30 ∧ p h' x0 x1 x2 x3 x4 x5 x6 x7 x8 x9 x10 x11 x12 x13 x14 x15 x16 x17 x18 x19 x20 x21 x22 x23 x24 x25 x26 x27 x28 x29 x30 := hl ▸ H

theorem useX4' {ks : List Nat} {F : Step} {t : Tm} {h : Heap} {rr : Option (AEx × Tm × Heap)} {f : Heap → Value → Value → Value → Value → Option (AEx × Tm × Heap)} {p : Heap → Value → Value → Value → Value → Prop} (hl : loopω ks F t h = rr) (H : ∃ h' x0 x1 x2 x3,loopω ks F t h = f h' x0 x1 x2 x3 ∧ p h' x0 x1 x2 x3) : ∃ h' x0 x1 x2 x3,rr = f h' x0 x1 x2 x3 ∧ p h' x0 x1 x2 x3 := hl ▸ H
theorem rgood72_run {h : Heap} {v : Value} {l : List (Int × Int)} (hv : Sl h v 2 l.length (picks l)) (hk : l.length ≤ 2 ^ 47) : run Try.prog sO 72 [v] h = some (.bool (goodB l),h) := by
  obtain ⟨a,c,rfl⟩ := sl_form hv
  suffices hx : ∃ y,fin Try.prog Try.f72 (aexecP Try.prog (sO 72) (run Try.prog sO) loopω pt72 (Try.f72.body.getD .skip) ([.slice a l.length c] ++ List.replicate (Try.f72.ntmps - 1) undef) h) = some y ∧ y.1 = .bool (goodB l) ∧ y.2 = h by
    obtain ⟨⟨y1,y2⟩,hy,rfl,rfl⟩ := hx
    exact run_finP pt72 Try.func72 rfl planned72 hy
  simp (maxSteps := 2000000) -implicitDefEqProofs [Try.f72,ble_d,beq_d,List.range_succ,List.replicate,cond_true,cond_false,sO72]
  generalize hl : loopω _ _ _ _ = r
  rcases good_split l with ⟨hg,hall⟩ | ⟨hg,p,hp,hbad,hall⟩
  · rw [hg]
    obtain ⟨h3,x4,x5,x6,x7,hx,hh⟩ := useX4' hl (gd1 (h0 := h) (va := a) (vc := c) (n := l.length) (l := l) rfl hk hv hall _ (by kernel_rfl) _ (by kernel_rfl) rfl)
    subst hx
    subst hh
    simp (maxSteps := 2000000) -implicitDefEqProofs [ble_d,beq_d,List.range_succ,List.replicate,cond_true,cond_false]
  · rw [hg]
    obtain ⟨h3,x0,x1,x2,x3,x4,x5,x6,x7,x8,x9,x10,x11,x12,x13,x14,x15,x16,x17,x18,x19,x20,x21,x22,x23,x24,x25,x26,x27,x28,x29,x30,hx,hh⟩ := useX31 hl (gd2 (h0 := h) (va := a) (vc := c) (n := l.length) (l := l) rfl hk hv p hp hbad hall _ (by kernel_rfl) _ (by kernel_rfl) rfl)
    subst hx
    subst hh
    simp (maxSteps := 2000000) -implicitDefEqProofs [ble_d,beq_d,List.range_succ,List.replicate,cond_true,cond_false]
end Go.Proofs.Ytmnkmdfladbgdaa.Od

set_option linter.unusedVariables false
set_option linter.unusedSimpArgs false
namespace Go.Proofs.Ytmnkmdfladbgdaa.Od
open Go Go.Proofs Go.RowKit Go.Proofs.YtmnkmdfladbgdaaAI Go.Proofs.YtmnkmdfladbgdaaFl

noncomputable def lb39 (i : Nat) : Code := (loopsOf (Try.f39.body.getD .skip)).getD i .skip
def smallB (l : List (Int × Int)) : Bool := l.all fun p => !decide (4096 < p.1)
theorem small_split (l : List (Int × Int)) : (smallB l = true ∧ ∀ i,i < l.length → ¬ 4096 < (l.getD i (0,0)).1) ∨ (smallB l = false ∧ ∃ p,p < l.length ∧ 4096 < (l.getD p (0,0)).1 ∧ ∀ i,i < p → ¬ 4096 < (l.getD i (0,0)).1) := by
  induction l with
  | nil => exact .inl ⟨rfl,fun i h => by simp at h⟩
  | cons x l ih =>
    have hc : smallB (x :: l) = (!decide (4096 < x.1) && smallB l) := rfl
    by_cases hx : 4096 < x.1
    · exact .inr ⟨by rw [hc,decide_eq_true hx]; rfl,0,by simp,by simpa using hx,fun i hi => by omega⟩
    · rcases ih with ⟨h1,h2⟩ | ⟨h1,p,h2,h3,h4⟩
      · refine .inl ⟨by rw [hc,decide_eq_false hx,h1]; rfl,fun i hi => ?_⟩
        cases i with
        | zero => simpa using hx
        | succ i => simpa using h2 i (by simpa using hi)
      · refine .inr ⟨by rw [hc,decide_eq_false hx,h1]; rfl,p + 1,by simpa using h2,by simpa using h3,fun i hi => ?_⟩
        cases i with
        | zero => simpa using hx
        | succ i => simpa using h4 i (by omega)
set_option maxRecDepth 20000 in
set_option maxHeartbeats 6400000 in
theorem sm1 {h0 : Heap} {va : Option Addr} {vc n : Nat} {l : List (Int × Int)} (hn : l.length = n) (hk : n ≤ 2 ^ 47) (hv : Sl h0 (.slice va n vc) 2 n (picks l)) (hgood : ∀ i,i < n → ¬ 4096 < (l.getD i (0,0)).1) (F : Step) (hFF : F = aexecP Try.prog (sO 39) (run Try.prog sO) loopω pt39 (lb39 0)) (t : Tm)
    (ht : forget [1,2,4,5,6,7,8,9,10,11,12,13,14,15,16,17] t = [.slice va n vc,Z,Z,.int .i64 (0 : Nat),Z,Z,Z,Z,Z,Z,Z,Z,Z,Z,Z,Z,Z,Z]) (hI0 : h0 = h0) :
    ∃ h' x4 x5 x6 x7,loopω [1,2,4,5,6,7,8,9,10,11,12,13,14,15,16,17] F t h0 = some (.exit 0,[.slice va n vc,Z,Z,.int .i64 (n : Nat),x4,x5,x6,x7,Z,Z,Z,Z,Z,Z,Z,Z,Z,Z],h') ∧ h' = h0 := by
  subst hFF
  suffices hs : ∃ e t' h',loopω [1,2,4,5,6,7,8,9,10,11,12,13,14,15,16,17] (aexecP Try.prog (sO 39) (run Try.prog sO) loopω pt39 (lb39 0)) t h0 = some (e,t',h') ∧ (e = .exit 0 ∧ ∃ x4 x5 x6 x7,t' = [.slice va n vc,Z,Z,.int .i64 (n : Nat),x4,x5,x6,x7,Z,Z,Z,Z,Z,Z,Z,Z,Z,Z] ∧ h' = h0) by
    obtain ⟨e,t',h',q1,rfl,x4,x5,x6,x7,rfl,q2⟩ := hs
    exact ⟨h',x4,x5,x6,x7,q1,q2⟩
  simp only [lb39,Try.f39,loopsOf,Option.getD_some,List.nil_append,List.append_nil,List.cons_append,List.getD_cons_zero,List.getD_cons_succ]
  refine loop_by (fun k t h' => ∃ (i : Nat),i + k = n ∧ forget [1,2,4,5,6,7,8,9,10,11,12,13,14,15,16,17] t = [.slice va n vc,Z,Z,.int .i64 (i : Nat),Z,Z,Z,Z,Z,Z,Z,Z,Z,Z,Z,Z,Z,Z] ∧ h' = h0)
    (fun e t' h' => e = .exit 0 ∧ ∃ x4 x5 x6 x7,t' = [.slice va n vc,Z,Z,.int .i64 (n : Nat),x4,x5,x6,x7,Z,Z,Z,Z,Z,Z,Z,Z,Z,Z] ∧ h' = h0) ?_ (n) _ _ ⟨0,by omega,ht,hI0⟩
  rintro k t h' ⟨i,hi,ht,hI⟩
  rw [ht]
  rcases Nat.lt_or_ge i (n) with h1 | h1
  · have hinc := @inc64 i (by omega)
    have hcs := cast_succ i
    subst hI
    obtain ⟨va,vc,C,ce,cs,gr,ro,eb,hgt,hf,hd,p1,p2⟩ := sl_pick hv (show i < n by omega)
    simp only [Value.slice.injEq,true_and] at eb
    obtain ⟨rfl,rfl⟩ := eb
    have hb := hgood i (by omega)
    generalize l.getD i (0,0) = q at *
    obtain ⟨q1,q2⟩ := q
    simp only at p1 p2 hb
    
    have hin : i < n := by omega
    simp (maxSteps := 2000000) -implicitDefEqProofs [ble_d,beq_d,List.range_succ,List.replicate,cond_true,cond_false,hin,hb,Try.underlying33,Try.underlying3,aindexAddr,sz71,hgt,p1,p2,fa71_0,fa71_1,hinc,undef]
    exact ⟨k - 1,by omega,i + 1,by omega,by simp (maxSteps := 2000000) only [forget,List.set_cons_succ,List.set_cons_zero,hcs]⟩
  · obtain rfl : i = n := by omega
    simp (maxSteps := 2000000) -implicitDefEqProofs [ble_d,beq_d,List.range_succ,List.replicate,cond_true,cond_false,undef]
    exact hI
set_option maxRecDepth 20000 in
set_option maxHeartbeats 6400000 in
theorem sm2 {h0 : Heap} {va : Option Addr} {vc n : Nat} {l : List (Int × Int)} (hn : l.length = n) (hk : n ≤ 2 ^ 47) (hv : Sl h0 (.slice va n vc) 2 n (picks l)) (p : Nat) (hp : p < n) (hbad : 4096 < (l.getD p (0,0)).1) (hgood : ∀ i,i < p → ¬ 4096 < (l.getD i (0,0)).1) (F : Step) (hFF : F = aexecP Try.prog (sO 39) (run Try.prog sO) loopω pt39 (lb39 0)) (t : Tm)
    (ht : forget [1,2,4,5,6,7,8,9,10,11,12,13,14,15,16,17] t = [.slice va n vc,Z,Z,.int .i64 (0 : Nat),Z,Z,Z,Z,Z,Z,Z,Z,Z,Z,Z,Z,Z,Z]) (hI0 : h0 = h0) :
    ∃ h' x4 x5 x6 x7 x10 x11 x12 x13 x14 x15,loopω [1,2,4,5,6,7,8,9,10,11,12,13,14,15,16,17] F t h0 = some (.ret,[.slice va n vc,Z,.bool false,.int .i64 (p : Nat),x4,x5,x6,x7,Z,Z,x10,x11,x12,x13,x14,x15,Z,Z],h') ∧ h' = h0 := by
  subst hFF
  suffices hs : ∃ e t' h',loopω [1,2,4,5,6,7,8,9,10,11,12,13,14,15,16,17] (aexecP Try.prog (sO 39) (run Try.prog sO) loopω pt39 (lb39 0)) t h0 = some (e,t',h') ∧ (e = .ret ∧ ∃ x4 x5 x6 x7 x10 x11 x12 x13 x14 x15,t' = [.slice va n vc,Z,.bool false,.int .i64 (p : Nat),x4,x5,x6,x7,Z,Z,x10,x11,x12,x13,x14,x15,Z,Z] ∧ h' = h0) by
    obtain ⟨e,t',h',q1,rfl,x4,x5,x6,x7,x10,x11,x12,x13,x14,x15,rfl,q2⟩ := hs
    exact ⟨h',x4,x5,x6,x7,x10,x11,x12,x13,x14,x15,q1,q2⟩
  simp only [lb39,Try.f39,loopsOf,Option.getD_some,List.nil_append,List.append_nil,List.cons_append,List.getD_cons_zero,List.getD_cons_succ]
  refine loop_by (fun k t h' => ∃ (i : Nat),i + k = p ∧ forget [1,2,4,5,6,7,8,9,10,11,12,13,14,15,16,17] t = [.slice va n vc,Z,Z,.int .i64 (i : Nat),Z,Z,Z,Z,Z,Z,Z,Z,Z,Z,Z,Z,Z,Z] ∧ h' = h0)
    (fun e t' h' => e = .ret ∧ ∃ x4 x5 x6 x7 x10 x11 x12 x13 x14 x15,t' = [.slice va n vc,Z,.bool false,.int .i64 (p : Nat),x4,x5,x6,x7,Z,Z,x10,x11,x12,x13,x14,x15,Z,Z] ∧ h' = h0) ?_ (p) _ _ ⟨0,by omega,ht,hI0⟩
  rintro k t h' ⟨i,hi,ht,hI⟩
  rw [ht]
  rcases Nat.lt_or_ge i (p) with h1 | h1
  · have hinc := @inc64 i (by omega)
    have hcs := cast_succ i
    subst hI
    obtain ⟨va,vc,C,ce,cs,gr,ro,eb,hgt,hf,hd,p1,p2⟩ := sl_pick hv (show i < n by omega)
    simp only [Value.slice.injEq,true_and] at eb
    obtain ⟨rfl,rfl⟩ := eb
    have hb := hgood i (by omega)
    generalize l.getD i (0,0) = q at *
    obtain ⟨q1,q2⟩ := q
    simp only at p1 p2 hb
    
    have hin : i < n := by omega
    simp (maxSteps := 2000000) -implicitDefEqProofs [ble_d,beq_d,List.range_succ,List.replicate,cond_true,cond_false,hin,hb,Try.underlying33,Try.underlying3,aindexAddr,sz71,hgt,p1,p2,fa71_0,fa71_1,hinc,undef]
    exact ⟨k - 1,by omega,i + 1,by omega,by simp (maxSteps := 2000000) only [forget,List.set_cons_succ,List.set_cons_zero,hcs]⟩
  · obtain rfl : i = p := by omega
    have hinc := @inc64 i (by omega)
    have hcs := cast_succ i
    subst hI
    obtain ⟨va,vc,C,ce,cs,gr,ro,eb,hgt,hf,hd,p1,p2⟩ := sl_pick hv hp
    simp only [Value.slice.injEq,true_and] at eb
    obtain ⟨rfl,rfl⟩ := eb
    have hb := hbad
    generalize l.getD i (0,0) = q at *
    obtain ⟨q1,q2⟩ := q
    simp only at p1 p2 hb
    simp (maxSteps := 2000000) -implicitDefEqProofs [ble_d,beq_d,List.range_succ,List.replicate,cond_true,cond_false,hp,hb,Try.underlying33,Try.underlying3,aindexAddr,sz71,hgt,p1,p2,fa71_0,fa71_1,undef]
theorem useX10' {ks : List Nat} {F : Step} {t : Tm} {h : Heap} {rr : Option (AEx × Tm × Heap)} {f : Heap → Value → Value → Value → Value → Value → Value → Value → Value → Value → Value → Option (AEx × Tm × Heap)} {p : Heap → Value → Value → Value → Value → Value → Value → Value → Value → Value → Value → Prop} (hl : loopω ks F t h = rr) (H : ∃ h' x0 x1 x2 x3 x4 x5 x6 x7 x8 x9,loopω ks F t h = f h' x0 x1 x2 x3 x4 x5 x6 x7 x8 x9 ∧ p h' x0 x1 x2 x3 x4 x5 x6 x7 x8 x9) : ∃ h' x0 x1 x2 x3 x4 x5 x6 x7 x8 x9,rr = f h' x0 x1 x2 x3 x4 x5 x6 x7 x8 x9 ∧ p h' x0 x1 x2 x3 x4 x5 x6 x7 x8 x9 := hl ▸ H

theorem rgood39_run {h : Heap} {v : Value} {l : List (Int × Int)} (hv : Sl h v 2 l.length (picks l)) (hk : l.length ≤ 2 ^ 47) : run Try.prog sO 39 [v] h = some (.bool (smallB l && goodB l),h) := by
  have e1 := rgood72_run hv hk
  obtain ⟨a,c,rfl⟩ := sl_form hv
  suffices hx : ∃ y,fin Try.prog Try.f39 (aexecP Try.prog (sO 39) (run Try.prog sO) loopω pt39 (Try.f39.body.getD .skip) ([.slice a l.length c] ++ List.replicate (Try.f39.ntmps - 1) undef) h) = some y ∧ y.1 = .bool (smallB l && goodB l) ∧ y.2 = h by
    obtain ⟨⟨y1,y2⟩,hy,rfl,rfl⟩ := hx
    exact run_finP pt39 Try.func39 rfl planned39 hy
  simp (maxSteps := 2000000) -implicitDefEqProofs [Try.f39,ble_d,beq_d,List.range_succ,List.replicate,cond_true,cond_false,sO39]
  generalize hl : loopω _ _ _ _ = r
  rcases small_split l with ⟨hg,hall⟩ | ⟨hg,p,hp,hbad,hall⟩
  · rw [hg,Bool.true_and]
    obtain ⟨h3,x4,x5,x6,x7,hx,hh⟩ := useX4' hl (sm1 (h0 := h) (va := a) (vc := c) (n := l.length) (l := l) rfl hk hv hall _ (by kernel_rfl) _ (by kernel_rfl) rfl)
    subst hx
    subst hh
    simp (maxSteps := 2000000) -implicitDefEqProofs [ble_d,beq_d,List.range_succ,List.replicate,cond_true,cond_false,en72,e1]
  · rw [hg,Bool.false_and]
    obtain ⟨h3,x0,x1,x2,x3,x4,x5,x6,x7,x8,x9,hx,hh⟩ := useX10' hl (sm2 (h0 := h) (va := a) (vc := c) (n := l.length) (l := l) rfl hk hv p hp hbad hall _ (by kernel_rfl) _ (by kernel_rfl) rfl)
    subst hx
    subst hh
    simp (maxSteps := 2000000) -implicitDefEqProofs [ble_d,beq_d,List.range_succ,List.replicate,cond_true,cond_false]
end Go.Proofs.Ytmnkmdfladbgdaa.Od

set_option linter.unusedVariables false
set_option linter.unusedSimpArgs false
namespace Go.Proofs.Ytmnkmdfladbgdaa.Od
open Go Go.Proofs Go.RowKit Go.Proofs.YtmnkmdfladbgdaaAI Go.Proofs.YtmnkmdfladbgdaaFl

noncomputable def lb90 (i : Nat) : Code := (loopsOf (Try.f90.body.getD .skip)).getD i .skip
abbrev clo71 : Value := .func (.func 71) #[] #[]
theorem clo_run (s : Scr) (h : Heap) (a b : Int) : run Try.prog s 71 [.agg #[.int .i64 a,.int .i64 b]] h = some (.bool (decide (4096 < a)),h.new (.cells [.int .i64 a,.int .i64 b] 71 2 false false)) := by
  refine run_finP pt71 Try.func71 rfl planned71 ?_
  have g0 : (h.new (.cells [.int .i64 a,.int .i64 b] 71 2 false false)).get h.next = some (.cells [.int .i64 a,.int .i64 b] 71 2 false false) := by rw [Heap.get_new,if_pos rfl]
  have hbx := fun ρ x hx d ty pos af gu => bx 71 2 sz71 ρ x [.int .i64 a,.int .i64 b] hx d ty pos af gu
  have hok : okCells (.agg #[.int .i64 a,.int .i64 b]) = some [.int .i64 a,.int .i64 b] := okc2 rfl rfl
  obtain ⟨q,hq⟩ : ∃ q,q = h.new (.cells [.int .i64 a,.int .i64 b] 71 2 false false) := ⟨_,rfl⟩
  rw [← hq] at g0 ⊢
  simp (maxSteps := 2000000) -implicitDefEqProofs [Try.f71,ble_d,beq_d,List.range_succ,List.replicate,cond_true,cond_false,hbx,hok,← hq,g0,fa71_0,Try.underlying3]
set_option maxRecDepth 20000 in
set_option maxHeartbeats 6400000 in
theorem ix1 {h0 : Heap} {va : Option Addr} {vc n : Nat} {l : List (Int × Int)} (hn : l.length = n) (hk : n ≤ 2 ^ 47) (hv : Sl h0 (.slice va n vc) 2 n (picks l)) (hgood : ∀ i,i < n → ¬ 4096 < (l.getD i (0,0)).1) (F : Step) (hFF : F = aexecP Try.prog (sO 90) (run Try.prog sO) loopω pt90 (lb90 0)) (t : Tm)
    (ht : forget [2,3,4,5,6,9,10,11,12,13,14,15,16,17,18] t = [.slice va n vc,clo71,Z,Z,Z,Z,Z,.int .i64 n,.int .i64 (0 : Nat),Z,Z,Z,Z,Z,Z,Z,Z,Z,Z]) (hI0 : (Keep No h0 h0 ∧ True)) :
    ∃ h' x9,loopω [2,3,4,5,6,9,10,11,12,13,14,15,16,17,18] F t h0 = some (.exit 0,[.slice va n vc,clo71,Z,Z,Z,Z,Z,.int .i64 n,.int .i64 (n : Nat),x9,Z,Z,Z,Z,Z,Z,Z,Z,Z],h') ∧ (Keep No h0 h' ∧ True) := by
  subst hFF
  suffices hs : ∃ e t' h',loopω [2,3,4,5,6,9,10,11,12,13,14,15,16,17,18] (aexecP Try.prog (sO 90) (run Try.prog sO) loopω pt90 (lb90 0)) t h0 = some (e,t',h') ∧ (e = .exit 0 ∧ ∃ x9,t' = [.slice va n vc,clo71,Z,Z,Z,Z,Z,.int .i64 n,.int .i64 (n : Nat),x9,Z,Z,Z,Z,Z,Z,Z,Z,Z] ∧ (Keep No h0 h' ∧ True)) by
    obtain ⟨e,t',h',q1,rfl,x9,rfl,q2⟩ := hs
    exact ⟨h',x9,q1,q2⟩
  simp only [lb90,Try.f90,loopsOf,Option.getD_some,List.nil_append,List.append_nil,List.cons_append,List.getD_cons_zero,List.getD_cons_succ]
  refine loop_by (fun k t h' => ∃ (i : Nat),i + k = n ∧ forget [2,3,4,5,6,9,10,11,12,13,14,15,16,17,18] t = [.slice va n vc,clo71,Z,Z,Z,Z,Z,.int .i64 n,.int .i64 (i : Nat),Z,Z,Z,Z,Z,Z,Z,Z,Z,Z] ∧ (Keep No h0 h' ∧ True))
    (fun e t' h' => e = .exit 0 ∧ ∃ x9,t' = [.slice va n vc,clo71,Z,Z,Z,Z,Z,.int .i64 n,.int .i64 (n : Nat),x9,Z,Z,Z,Z,Z,Z,Z,Z,Z] ∧ (Keep No h0 h' ∧ True)) ?_ (n) _ _ ⟨0,by omega,ht,hI0⟩
  rintro k t h' ⟨i,hi,ht,hI⟩
  rw [ht]
  rcases Nat.lt_or_ge i (n) with h1 | h1
  · obtain ⟨kp,_⟩ := hI
    have hinc := @inc64 i (by omega)
    have hcs := cast_succ i
    obtain ⟨va,vc,C,ce,cs,gr,ro,eb,hgt,hf,hd,p1,p2⟩ := sl_pick (hv.keep kp fun _ _ x => x) (show i < n by omega)
    simp only [Value.slice.injEq,true_and] at eb
    obtain ⟨rfl,rfl⟩ := eb
    have hb := hgood i (by omega)
    generalize l.getD i (0,0) = q at *
    obtain ⟨q1,q2⟩ := q
    simp only at p1 p2 hb hd
    have e1 := clo_run sO h' q1 q2
    have k1 := Keep.new No h' (.cells [.int .i64 q1,.int .i64 q2] 71 2 false false)
    
    have hin : i < n := by omega
    simp (maxSteps := 2000000) -implicitDefEqProofs [ble_d,beq_d,List.range_succ,List.replicate,cond_true,cond_false,hin,hb,Try.underlying33,Try.underlying71,Try.underlying70,aindexAddr,sz71,hgt,hf,hd,en71,e1,hinc,undef]
    exact ⟨k - 1,by omega,i + 1,by omega,by simp (maxSteps := 2000000) only [forget,List.set_cons_succ,List.set_cons_zero,hcs],kp.trans k1⟩
  · obtain rfl : i = n := by omega
    simp (maxSteps := 2000000) -implicitDefEqProofs [ble_d,beq_d,List.range_succ,List.replicate,cond_true,cond_false,undef]
    exact hI.1
set_option maxRecDepth 20000 in
set_option maxHeartbeats 6400000 in
theorem ix2 {h0 : Heap} {va : Option Addr} {vc n : Nat} {l : List (Int × Int)} (hn : l.length = n) (hk : n ≤ 2 ^ 47) (hv : Sl h0 (.slice va n vc) 2 n (picks l)) (p : Nat) (hp : p < n) (hbad : 4096 < (l.getD p (0,0)).1) (hgood : ∀ i,i < p → ¬ 4096 < (l.getD i (0,0)).1) (F : Step) (hFF : F = aexecP Try.prog (sO 90) (run Try.prog sO) loopω pt90 (lb90 0)) (t : Tm)
    (ht : forget [2,3,4,5,6,9,10,11,12,13,14,15,16,17,18] t = [.slice va n vc,clo71,Z,Z,Z,Z,Z,.int .i64 n,.int .i64 (0 : Nat),Z,Z,Z,Z,Z,Z,Z,Z,Z,Z]) (hI0 : (Keep No h0 h0 ∧ True)) :
    ∃ h' x5 x9 x10 x11 x12 x13 x14 x15 x16 x17,loopω [2,3,4,5,6,9,10,11,12,13,14,15,16,17,18] F t h0 = some (.ret,[.slice va n vc,clo71,Z,Z,.int .i64 (p : Nat),x5,Z,.int .i64 n,.int .i64 (p : Nat),x9,x10,x11,x12,x13,x14,x15,x16,x17,Z],h') ∧ (Keep No h0 h' ∧ True) := by
  subst hFF
  suffices hs : ∃ e t' h',loopω [2,3,4,5,6,9,10,11,12,13,14,15,16,17,18] (aexecP Try.prog (sO 90) (run Try.prog sO) loopω pt90 (lb90 0)) t h0 = some (e,t',h') ∧ (e = .ret ∧ ∃ x5 x9 x10 x11 x12 x13 x14 x15 x16 x17,t' = [.slice va n vc,clo71,Z,Z,.int .i64 (p : Nat),x5,Z,.int .i64 n,.int .i64 (p : Nat),x9,x10,x11,x12,x13,x14,x15,x16,x17,Z] ∧ (Keep No h0 h' ∧ True)) by
    obtain ⟨e,t',h',q1,rfl,x5,x9,x10,x11,x12,x13,x14,x15,x16,x17,rfl,q2⟩ := hs
    exact ⟨h',x5,x9,x10,x11,x12,x13,x14,x15,x16,x17,q1,q2⟩
  simp only [lb90,Try.f90,loopsOf,Option.getD_some,List.nil_append,List.append_nil,List.cons_append,List.getD_cons_zero,List.getD_cons_succ]
  refine loop_by (fun k t h' => ∃ (i : Nat),i + k = p ∧ forget [2,3,4,5,6,9,10,11,12,13,14,15,16,17,18] t = [.slice va n vc,clo71,Z,Z,Z,Z,Z,.int .i64 n,.int .i64 (i : Nat),Z,Z,Z,Z,Z,Z,Z,Z,Z,Z] ∧ (Keep No h0 h' ∧ True))
    (fun e t' h' => e = .ret ∧ ∃ x5 x9 x10 x11 x12 x13 x14 x15 x16 x17,t' = [.slice va n vc,clo71,Z,Z,.int .i64 (p : Nat),x5,Z,.int .i64 n,.int .i64 (p : Nat),x9,x10,x11,x12,x13,x14,x15,x16,x17,Z] ∧ (Keep No h0 h' ∧ True)) ?_ (p) _ _ ⟨0,by omega,ht,hI0⟩
  rintro k t h' ⟨i,hi,ht,hI⟩
  rw [ht]
  rcases Nat.lt_or_ge i (p) with h1 | h1
  · obtain ⟨kp,_⟩ := hI
    have hinc := @inc64 i (by omega)
    have hcs := cast_succ i
    obtain ⟨va,vc,C,ce,cs,gr,ro,eb,hgt,hf,hd,p1,p2⟩ := sl_pick (hv.keep kp fun _ _ x => x) (show i < n by omega)
    simp only [Value.slice.injEq,true_and] at eb
    obtain ⟨rfl,rfl⟩ := eb
    have hb := hgood i (by omega)
    generalize l.getD i (0,0) = q at *
    obtain ⟨q1,q2⟩ := q
    simp only at p1 p2 hb hd
    have e1 := clo_run sO h' q1 q2
    have k1 := Keep.new No h' (.cells [.int .i64 q1,.int .i64 q2] 71 2 false false)
    
    have hin : i < n := by omega
    simp (maxSteps := 2000000) -implicitDefEqProofs [ble_d,beq_d,List.range_succ,List.replicate,cond_true,cond_false,hin,hb,Try.underlying33,Try.underlying71,Try.underlying70,aindexAddr,sz71,hgt,hf,hd,en71,e1,hinc,undef]
    exact ⟨k - 1,by omega,i + 1,by omega,by simp (maxSteps := 2000000) only [forget,List.set_cons_succ,List.set_cons_zero,hcs],kp.trans k1⟩
  · obtain rfl : i = p := by omega
    obtain ⟨kp,_⟩ := hI
    have hinc := @inc64 i (by omega)
    have hcs := cast_succ i
    obtain ⟨va,vc,C,ce,cs,gr,ro,eb,hgt,hf,hd,p1,p2⟩ := sl_pick (hv.keep kp fun _ _ x => x) hp
    simp only [Value.slice.injEq,true_and] at eb
    obtain ⟨rfl,rfl⟩ := eb
    have hb := hbad
    generalize l.getD i (0,0) = q at *
    obtain ⟨q1,q2⟩ := q
    simp only at p1 p2 hb hd
    have e1 := clo_run sO h' q1 q2
    have k1 := Keep.new No h' (.cells [.int .i64 q1,.int .i64 q2] 71 2 false false)
    simp (maxSteps := 2000000) -implicitDefEqProofs [ble_d,beq_d,List.range_succ,List.replicate,cond_true,cond_false,hp,hb,Try.underlying33,Try.underlying71,Try.underlying70,aindexAddr,sz71,hgt,hf,hd,en71,e1,undef]
    exact kp.trans k1
theorem useX1' {ks : List Nat} {F : Step} {t : Tm} {h : Heap} {rr : Option (AEx × Tm × Heap)} {f : Heap → Value → Option (AEx × Tm × Heap)} {p : Heap → Value → Prop} (hl : loopω ks F t h = rr) (H : ∃ h' x0,loopω ks F t h = f h' x0 ∧ p h' x0) : ∃ h' x0,rr = f h' x0 ∧ p h' x0 := hl ▸ H

theorem contains_run {h : Heap} {v : Value} {l : List (Int × Int)} (hv : Sl h v 2 l.length (picks l)) (hk : l.length ≤ 2 ^ 47) : ∃ h',run Try.prog sO 70 [v,clo71] h = some (.bool (!smallB l),h') ∧ Keep No h h' := by
  obtain ⟨a,c,rfl⟩ := sl_form hv
  have hx : ∃ h' r,run Try.prog sO 90 [.slice a l.length c,clo71] h = some (.int .i64 r,h') ∧ decide (0 ≤ r) = !smallB l ∧ Keep No h h' := by
    suffices hx : ∃ y,fin Try.prog Try.f90 (aexecP Try.prog (sO 90) (run Try.prog sO) loopω pt90 (Try.f90.body.getD .skip) ([.slice a l.length c,clo71] ++ List.replicate (Try.f90.ntmps - 2) undef) h) = some y ∧ ∃ r,y.1 = .int .i64 r ∧ decide (0 ≤ r) = !smallB l ∧ Keep No h y.2 by
      obtain ⟨⟨y1,y2⟩,hy,r,rfl,q⟩ := hx
      exact ⟨y2,r,run_finP pt90 Try.func90 rfl planned90 hy,q⟩
    simp (maxSteps := 2000000) -implicitDefEqProofs [Try.f90,ble_d,beq_d,List.range_succ,List.replicate,cond_true,cond_false,sO90]
    generalize hl : loopω _ _ _ _ = r
    rcases small_split l with ⟨hg,hall⟩ | ⟨hg,p,hp,hbad,hall⟩
    · obtain ⟨h3,x9,hx,kp,_⟩ := useX1' hl (ix1 (h0 := h) (va := a) (vc := c) (n := l.length) (l := l) rfl hk hv hall _ (by kernel_rfl) _ (by kernel_rfl) ⟨Keep.refl _ _,trivial⟩)
      subst hx
      simp (maxSteps := 2000000) -implicitDefEqProofs [ble_d,beq_d,List.range_succ,List.replicate,cond_true,cond_false]
      exact ⟨_,_,⟨rfl,rfl⟩, -1,rfl,by rw [hg]; rfl,kp⟩
    · obtain ⟨h3,x0,x1,x2,x3,x4,x5,x6,x7,x8,x9,hx,kp,_⟩ := useX10' hl (ix2 (h0 := h) (va := a) (vc := c) (n := l.length) (l := l) rfl hk hv p hp hbad hall _ (by kernel_rfl) _ (by kernel_rfl) ⟨Keep.refl _ _,trivial⟩)
      subst hx
      simp (maxSteps := 2000000) -implicitDefEqProofs [ble_d,beq_d,List.range_succ,List.replicate,cond_true,cond_false]
      exact ⟨_,_,⟨rfl,rfl⟩,p,rfl,by rw [hg]; simp,kp⟩
  obtain ⟨h',r,e,hr,k⟩ := hx
  refine ⟨h',run_finP pt70 Try.func70 rfl planned70 ?_,k⟩
  rw [← hr]
  simp (maxSteps := 2000000) -implicitDefEqProofs [Try.f70,ble_d,beq_d,List.range_succ,List.replicate,cond_true,cond_false,en90,e]
end Go.Proofs.Ytmnkmdfladbgdaa.Od

set_option linter.unusedVariables false
set_option linter.unusedSimpArgs false
namespace Go.Proofs.Ytmnkmdfladbgdaa.Od
open Go Go.Proofs Go.RowKit Go.Proofs.YtmnkmdfladbgdaaAI Go.Proofs.YtmnkmdfladbgdaaFl

def tooks (l : List (Int × Int)) : List Int := l.map (·.2)
theorem take_tooks (l : List (Int × Int)) {i : Nat} (hi : i < l.length) : (tooks l).take (i + 1) = (tooks l).take i ++ [(l.getD i (0,0)).2] := by
  have h1 : i < (tooks l).length := by simpa [tooks] using hi
  rw [List.take_add_one,List.getElem?_eq_getElem h1]
  simp [tooks,List.getD_eq_getElem?_getD,List.getElem?_eq_getElem hi]

set_option maxHeartbeats 800000 in
theorem goodB_false {l : List (Int × Int)} {i : Nat} (hi : i < l.length) (hb : bad (l.getD i (0,0)) = true) : goodB l = false := by
  unfold goodB
  rw [List.all_eq_false]
  refine ⟨l[i],List.getElem_mem hi,?_⟩
  rw [List.getD_eq_getElem?_getD,List.getElem?_eq_getElem hi] at hb
  simp only [Option.getD_some] at hb
  simp [hb]
theorem bs90_1' (a : Int) (d ty pos af gu) : aalloc Try.prog (fun _ => .int .i64 a) ⟨d,.buildSlice 90 1 #[(0,.tmp 0)],ty,pos,af,gu⟩ = some (.cells [.int .i64 a] 3 1 false false,fun n => .slice (some ⟨n,0,none⟩) 1 1) := by kernel_rfl
theorem bs90_1 (ρ : Operand → Value) (x) (a : Int) (hx : ρ x = .int .i64 a) (d ty pos af gu) : aalloc Try.prog ρ ⟨d,.buildSlice 90 1 #[(0,x)],ty,pos,af,gu⟩ = some (.cells [.int .i64 a] 3 1 false false,fun n => .slice (some ⟨n,0,none⟩) 1 1) := by
  have h1 : aalloc Try.prog ρ ⟨d,.buildSlice 90 1 #[(0,x)],ty,pos,af,gu⟩ = aalloc Try.prog (fun _ => ρ x) ⟨d,.buildSlice 90 1 #[(0,.tmp 0)],ty,pos,af,gu⟩ := by simp [aalloc]
  rw [h1,hx]; exact bs90_1' _ _ _ _ _ _
theorem zr3 : (Try.prog.info? 3).bind (fun i => i.zero) = some (.int .i64 0) := by kernel_rfl
theorem ms90 (ρ : Operand → Value) (a b : Operand) (k : Nat) (ha : ρ a = .int .i64 0) (hb : ρ b = .int .i64 k) (hk : k * 8 ≤ 2 ^ 47) (d ty pos af gu) :
    aalloc Try.prog ρ ⟨d,.makeSlice 90 a b,ty,pos,af,gu⟩ = some (.cells (List.replicate k (.int .i64 0)) 3 1 false false,fun n => .slice (some ⟨n,0,none⟩) 0 k) := by
  obtain ⟨i,z,hi,hz,hp,hzc,hz1,hsz,hby,h0⟩ := elTy el3
  have hzz := zr3
  rw [hi] at hzz
  simp only [Option.bind_some,hz,Option.some.injEq] at hzz
  subst hzz
  unfold aalloc
  simp only [ha,hb,Try.underlying90,hi,hz,hsz,hby]
  have : (bif plain (Value.int .i64 0) && Nat.beq (Value.int .i64 0).cells.size 1 && (Value.int .i64 0).cells.toList.all one && Nat.blt 0 1 then (1 : Nat) else 0) = 1 := by kernel_rfl
  simp [plain,plainN,one,Value.cells,beq_d,Nat.blt,ble_d]
  omega

theorem al71 (ρ : Operand → Value) (d ty pos af gu) : aalloc Try.prog ρ ⟨d,.alloc 71,ty,pos,af,gu⟩ = some (.cells [.int .i64 0,.int .i64 0] 71 2 false false,fun n => .pointer (some ⟨n,0,none⟩)) := by kernel_rfl

set_option maxRecDepth 20000 in
theorem append_in {h : Heap} {m : Nat} {xs rest : List Value} {y x : Value} {gr : Bool} (hg : h.get m = some (.cells (xs ++ rest) 3 1 gr false)) (hx : Sl h x 1 1 [y]) (hy : one y = true) (hr : 0 < rest.length) (hb : (xs.length + 1) * 8 ≤ 2 ^ 47) :
    aappend Try.prog 90 90 (.slice (some ⟨m,0,none⟩) xs.length (xs.length + rest.length)) x h = some (.slice (some ⟨m,0,none⟩) (xs.length + 1) (xs.length + rest.length),h.put m (some (.cells (xs ++ y :: rest.tail) 3 1 gr false))) := by
  obtain ⟨i,z,hi,hz,hp,hzc,hz1,hsz,hby,h0⟩ := elTy el3
  have hxa := hx.acells (by omega)
  have hcond : (Nat.blt 0 1 && plain z && Nat.beq z.cells.size 1 && z.cells.toList.all one) = true := by rw [hp,hzc,hz1]; rfl
  have hbb : (Nat.ble ((xs.length + 1) * 8) (2 ^ 47) && Nat.ble (xs.length + 1) (2 ^ 47)) = true := by rw [ble_t hb,ble_t (by omega)]; rfl
  have hap : aappend Try.prog 90 90 (.slice (some ⟨m,0,none⟩) xs.length (xs.length + rest.length)) x h = aappendE Try.prog 3 (.slice (some ⟨m,0,none⟩) xs.length (xs.length + rest.length)) x h := by
    unfold aappend; rw [Try.underlying90]; rfl
  rw [hap]
  unfold aappendE
  rw [hi]
  simp only [hz,hsz,hby,hxa,hcond,cond_true,hbb,hg]
  have h1 : Nat.ble (xs.length + 1) (xs.length + rest.length) = true := ble_t (by omega)
  have h2 : Nat.ble (0 + (xs.length + 1) * 1) (xs ++ rest).length = true := ble_t (by rw [List.length_append]; omega)
  have h3 : [y].all one = true := by simp [hy]
  simp only [h1,h2,h3,cond_true,Bool.and_self,show Nat.beq 1 0 = false from rfl,cond_false]
  congr 4
  · rw [Nat.zero_add,Nat.mul_one,List.take_left',List.append_assoc]
    · congr 1
      rw [Nat.zero_add,Nat.mul_one,List.drop_append]
      cases rest with
      | nil => simp at hr
      | cons r rs => simp
    · rfl

set_option maxRecDepth 20000 in
set_option maxHeartbeats 1600000 in
theorem of_run {h : Heap} {v : Value} {l : List (Int × Int)} (hv : Sl h v 2 l.length (picks l)) (hlen : l.length * 8 ≤ 2 ^ 47) :
    ∃ v' h',run Try.prog sO 69 [v] h = some (.tuple #[v',.int .i64 (if goodB l then 0 else 2)],h') ∧ Keep No h h' ∧ (goodB l = true → Sl h' v' 1 l.length (ints (tooks l))) ∧ (goodB l = false → v' = .slice none 0 0) := by
  obtain ⟨a,c,rfl⟩ : ∃ a c,v = .slice a l.length c := by
    rcases sl_cut hv with ⟨rfl,h0⟩ | ⟨a,c,rfl⟩
    · exact ⟨none,0,by rw [h0]⟩
    · exact ⟨_,_,rfl⟩
  suffices hx : ∃ y,fin Try.prog Try.f69 (aexecP Try.prog (sO 69) (run Try.prog sO) loopω (fun _ => ([],[])) (Try.f69.body.getD .skip) ([.slice a l.length c] ++ List.replicate (Try.f69.ntmps - 1) undef) h) = some y ∧ ∃ v',y.1 = .tuple #[v',.int .i64 (if goodB l then 0 else 2)] ∧ Keep No h y.2 ∧ (goodB l = true → Sl y.2 v' 1 l.length (ints (tooks l))) ∧ (goodB l = false → v' = .slice none 0 0) by
    obtain ⟨⟨y1,y2⟩,hy,v',rfl,q⟩ := hx
    exact ⟨v',y2,run_finP _ Try.func69 rfl (by kernel_rfl) hy,q⟩
  simp (maxSteps := 2000000) -implicitDefEqProofs [Try.f69,ble_d,beq_d,List.range_succ,List.replicate,cond_true,cond_false,sO69,Try.underlying33,(fun ρ a b => ms90 ρ a b l.length),hlen]
  generalize hl : loopω _ _ _ _ = r
  obtain ⟨e,t',h',hx,hK,hR⟩ : ∃ e t' h',r = some (e,t',h') ∧ Keep No h h' ∧ ((e = .exit 0 ∧ goodB l = true ∧ Sl h' (.slice (some ⟨h.next,0,none⟩) l.length l.length) 1 l.length (ints (tooks l)) ∧ ∃ x13,t' = [Z,Z,Z,Z,.slice (some ⟨h.next,0,none⟩) l.length l.length,Z,Z,Z,Z,Z,.slice a l.length c,.int .i64 l.length,.int .i64 l.length,x13,Z,Z,Z,Z,Z,Z,Z,Z,Z,Z,Z,Z,Z,Z,Z,Z,Z,Z,Z,Z,Z,Z,Z,Z]) ∨ (e = .ret ∧ goodB l = false ∧ t'[2]?.getD undef = .slice none 0 0 ∧ t'[3]?.getD undef = .int .i64 2)) := by
    rw [← hl]
    refine loop_by (fun k t h' => ∃ i,i + k = l.length ∧ forget [0,1,2,3,5,6,7,8,9,13,14,15,16,17,18,19,20,21,22,23,24,25,26,27,28,29,30,31,32,33,34,35,36,37] t = [Z,Z,Z,Z,.slice (some ⟨h.next,0,none⟩) i l.length,Z,Z,Z,Z,Z,.slice a l.length c,.int .i64 l.length,.int .i64 i,Z,Z,Z,Z,Z,Z,Z,Z,Z,Z,Z,Z,Z,Z,Z,Z,Z,Z,Z,Z,Z,Z,Z,Z,Z] ∧ Keep No h h' ∧ h'.get h.next = some (.cells (ints ((tooks l).take i) ++ List.replicate (l.length - i) (.int .i64 0)) 3 1 false false) ∧ ∀ j,j < i → bad (l.getD j (0,0)) = false)
      (fun e t' h' => Keep No h h' ∧ ((e = .exit 0 ∧ goodB l = true ∧ Sl h' (.slice (some ⟨h.next,0,none⟩) l.length l.length) 1 l.length (ints (tooks l)) ∧ ∃ x13,t' = [Z,Z,Z,Z,.slice (some ⟨h.next,0,none⟩) l.length l.length,Z,Z,Z,Z,Z,.slice a l.length c,.int .i64 l.length,.int .i64 l.length,x13,Z,Z,Z,Z,Z,Z,Z,Z,Z,Z,Z,Z,Z,Z,Z,Z,Z,Z,Z,Z,Z,Z,Z,Z]) ∨ (e = .ret ∧ goodB l = false ∧ t'[2]?.getD undef = .slice none 0 0 ∧ t'[3]?.getD undef = .int .i64 2))) ?_ l.length _ _ ⟨0,by omega,by kernel_rfl,Keep.new _ _ _,by rw [Heap.get_new,if_pos rfl]; simp [ints],fun j hj => by omega⟩
    rintro k t h' ⟨i,hi,ht,hK,hm,hg⟩
    rw [ht]
    rcases Nat.lt_or_ge i l.length with h1 | h1
    · obtain ⟨a,c,C,e,s,gr,ro,ea,hgt,hf,hd,p1,p2⟩ := sl_pick (hv.keep hK (fun _ _ x => x)) h1
      simp only [Value.slice.injEq,true_and] at ea
      obtain ⟨rfl,rfl⟩ := ea
      have hw : IntKind.i64.wrap ((i : Int) + 1) = ((i + 1 : Nat) : Int) := by rw [IntWalk.i64_in _ (by omega)]; omega
      have hii : ((i + 1 : Nat) : Int) = (i : Int) + 1 := by omega
      have hbad := @goodB_false l i h1
      have htk := take_tooks l h1
      have hnext : bad (l.getD i (0,0)) = false → ∀ j,j < i + 1 → bad (l.getD j (0,0)) = false := fun hb j hj => by
        rcases Nat.lt_or_ge j i with h2 | h2
        · exact hg j h2
        · have : j = i := by omega
          subst this; exact hb
      generalize hq : l.getD i (0,0) = q at *
      obtain ⟨q1,q2⟩ := q
      simp only at p1 p2 hd htk
      have gz : (h'.new (.cells [.int .i64 0,.int .i64 0] 71 2 false false)).get h'.next = some (.cells [.int .i64 0,.int .i64 0] 71 2 false false) := by rw [Heap.get_new,if_pos rfl]
      obtain ⟨h3,h3e⟩ : ∃ x,x = (h'.new (.cells [.int .i64 0,.int .i64 0] 71 2 false false)).put h'.next (some (.cells [.int .i64 q1,.int .i64 q2] 71 2 false false)) := ⟨_,rfl⟩
      have k3 : Keep No h' h3 := h3e ▸ (Keep.new No h' _).also (Keep.put (S := fun m => m = h'.next) (Heap.get_lt gz) rfl _) fun m hm e => by omega
      have g3 : h3.get h'.next = some (.cells [.int .i64 q1,.int .i64 q2] 71 2 false false) := by rw [h3e,Heap.get_put (Heap.get_lt gz),if_pos rfl]
      have okQ : okCells (.agg #[.int .i64 q1,.int .i64 q2]) = some [.int .i64 q1,.int .i64 q2] := rfl
      have hK3 := hK.trans k3
      by_cases c1 : q1 < 2
      · have hb := hbad (by simp [bad,c1])
        simp (maxSteps := 2000000) -implicitDefEqProofs [ble_d,beq_d,List.range_succ,List.replicate,cond_true,cond_false,Try.underlying33,Try.underlying3,Try.underlying71,h1,aindexAddr,sz71,hgt,hf,hd,al71,gz,okQ,astore,← h3e,g3,fa71_0,fa71_1,c1,hb,hK3]
      by_cases c2 : q2 < 0
      · have hb := hbad (by simp [bad,c2])
        simp (maxSteps := 2000000) -implicitDefEqProofs [ble_d,beq_d,List.range_succ,List.replicate,cond_true,cond_false,Try.underlying33,Try.underlying3,Try.underlying71,h1,aindexAddr,sz71,hgt,hf,hd,al71,gz,okQ,astore,← h3e,g3,fa71_0,fa71_1,c1,c2,hb,hK3]
      by_cases c3 : q2 ≥ q1
      · have hb := hbad (by simp [bad,c3])
        have c3' : q1 ≤ q2 := c3
        simp (maxSteps := 2000000) -implicitDefEqProofs [ble_d,beq_d,List.range_succ,List.replicate,cond_true,cond_false,Try.underlying33,Try.underlying3,Try.underlying71,h1,aindexAddr,sz71,hgt,hf,hd,al71,gz,okQ,astore,← h3e,g3,fa71_0,fa71_1,c1,c2,c3',hb,hK3]
      · have hb := hnext (by simp [bad,c1,c2]; omega)
        have c3' : ¬ q1 ≤ q2 := c3
        have hm4 := (k3.trans (Keep.new No h3 (.cells [.int .i64 q2] 3 1 false false))).get hm (fun x => x)
        have hx1 : Sl (h3.new (.cells [.int .i64 q2] 3 1 false false)) (.slice (some ⟨h3.next,0,none⟩) 1 1) 1 1 [.int .i64 q2] := ⟨rfl,.inr ⟨_,_,rfl,fun _ => ⟨_,_,_,_,_,by rw [Heap.get_new,if_pos rfl],rfl⟩⟩⟩
        have hxl : (ints ((tooks l).take i)).length = i := by simp [ints,tooks]; omega
        have e2 := append_in hm4 hx1 rfl (by simp; omega) (by rw [hxl]; omega)
        rw [hxl,List.length_replicate,show i + (l.length - i) = l.length by omega] at e2
        obtain ⟨h5,h5e⟩ : ∃ x,x = (h3.new (.cells [.int .i64 q2] 3 1 false false)).put h.next (some (.cells (ints ((tooks l).take i) ++ .int .i64 q2 :: (List.replicate (l.length - i) (Value.int .i64 0)).tail) 3 1 false false)) := ⟨_,rfl⟩
        rw [← h5e] at e2
        have k5 : Keep No h h5 := h5e ▸ (hK3.trans (Keep.new No h3 _)).also (Keep.put (S := fun m => m = h.next) (Heap.get_lt hm4) rfl _) fun m hm e => by omega
        have g5 : h5.get h.next = some (.cells (ints ((tooks l).take (i + 1)) ++ List.replicate (l.length - (i + 1)) (.int .i64 0)) 3 1 false false) := by
          rw [h5e,Heap.get_put (Heap.get_lt hm4),if_pos rfl,htk]
          simp [ints,List.tail_replicate,Nat.sub_sub]
        simp (maxSteps := 2000000) -implicitDefEqProofs [ble_d,beq_d,List.range_succ,List.replicate,cond_true,cond_false,Try.underlying33,Try.underlying3,Try.underlying71,Try.underlying90,h1,aindexAddr,sz71,hgt,hf,hd,al71,gz,okQ,astore,← h3e,g3,fa71_0,fa71_1,c1,c2,c3',(fun ρ x => bs90_1 ρ x q2),e2,hw]
        exact ⟨k - 1,by omega,i + 1,by omega,by simp only [forget,List.set_cons_succ,List.set_cons_zero,hii],k5,g5,hb⟩
    · have hi' : i = l.length := by omega
      subst hi'
      have hall : goodB l = true := by
        unfold goodB
        rw [List.all_eq_true]
        intro p hp
        obtain ⟨j,hj,rfl⟩ := List.mem_iff_getElem.1 hp
        have := hg j hj
        rw [List.getD_eq_getElem?_getD,List.getElem?_eq_getElem hj] at this
        simp only [Option.getD_some] at this
        simp [this]
      have hsl : Sl h' (.slice (some ⟨h.next,0,none⟩) l.length l.length) 1 l.length (ints (tooks l)) := by
        have htk : (tooks l).take l.length = tooks l := List.take_of_length_le (by simp [tooks])
        rw [htk,Nat.sub_self,List.replicate_zero,List.append_nil] at hm
        exact ⟨by simp [ints,tooks],.inr ⟨_,_,rfl,fun _ => ⟨_,_,_,_,_,hm,by rw [List.drop_zero,List.take_of_length_le (by simp [ints,tooks])]⟩⟩⟩
      simp (maxSteps := 2000000) -implicitDefEqProofs [ble_d,beq_d,List.range_succ,List.replicate,cond_true,cond_false,hall,hK,hsl]
  subst hx
  rcases hR with ⟨rfl,hB,hsl,x13,rfl⟩ | ⟨rfl,hB,t2,t3⟩
  · simp (maxSteps := 2000000) -implicitDefEqProofs [ble_d,beq_d,List.range_succ,List.replicate,cond_true,cond_false,hB]
    exact ⟨_,_,⟨rfl,rfl⟩,_,rfl,hK,hsl⟩
  · simp (maxSteps := 2000000) -implicitDefEqProofs [ble_d,beq_d,List.range_succ,List.replicate,cond_true,cond_false,hB,t2,t3]
    exact ⟨_,_,⟨rfl,rfl⟩,rfl,hK⟩
end Go.Proofs.Ytmnkmdfladbgdaa.Od

set_option linter.unusedVariables false
set_option linter.unusedSimpArgs false
namespace Go.Proofs.Ytmnkmdfladbgdaa.Od
open Go Go.Proofs Go.RowKit Go.Proofs.YtmnkmdfladbgdaaAI Go.Proofs.YtmnkmdfladbgdaaFl

theorem good38_run {h : Heap} {v : Value} {l : List (Int × Int)} (hv : Sl h v 2 l.length (picks l)) (hk : l.length * 8 ≤ 2 ^ 47) : ∃ h',run Try.prog sO 38 [v] h = some (.bool (smallB l && goodB l),h') ∧ Keep No h h' := by
  obtain ⟨v1,h1,e1,k1,_,_⟩ := of_run hv hk
  obtain ⟨h2,e2,k2⟩ := contains_run (hv.keep k1 fun _ _ x => x) (by omega)
  cases hg : goodB l
  · rw [hg] at e1
    simp only [Bool.false_eq_true,if_false] at e1
    refine ⟨h1,run_finP pt38 Try.func38 rfl planned38 ?_,k1⟩
    rw [Bool.and_false]
    simp (maxSteps := 2000000) -implicitDefEqProofs [Try.f38,ble_d,beq_d,List.range_succ,List.replicate,cond_true,cond_false,ibeq,en69,e1,undef]
  · rw [hg] at e1
    simp only [if_true] at e1
    refine ⟨h2,run_finP pt38 Try.func38 rfl planned38 ?_,k1.trans k2⟩
    rw [Bool.and_true]
    simp (maxSteps := 2000000) -implicitDefEqProofs [Try.f38,ble_d,beq_d,List.range_succ,List.replicate,cond_true,cond_false,ibeq,en69,en70,e1,e2,undef]
end Go.Proofs.Ytmnkmdfladbgdaa.Od
