/- Odds: the law OddsTotals. -/
import Derived.Test.YtmnkmdfladbgdaaOd20
import Derived.Test.YtmnkmdfladbgdaaOd8
set_option linter.unusedVariables false
set_option linter.unusedSimpArgs false
namespace Go.Proofs.Ytmnkmdfladbgdaa.Od
open Go Go.Proofs Go.RowKit Go.Proofs.YtmnkmdfladbgdaaAI Go.Proofs.YtmnkmdfladbgdaaFl Go.Proofs.YtmnkmdfladbgdaaRnd

/-- The sum so far; none: a NaN. -/
def totF (cs : List Nat) : Nat → Option Nat
  | 0 => some 0
  | i + 1 => match totF cs i with
    | some a => Ieee.double.add a (cs.getD i 0)
    | none => none
def totD (cs : List Nat) : Nat → Nat
  | 0 => 0
  | i + 1 => addD (totD cs i) (cs.getD i 0)
/-- The sum's bits; of a NaN: unknown. -/
def tvB (o : Option Nat) : Nat := o.getD 18446744073709551616
theorem wd_num {s : Bool} {r : Nat} (h : r ≤ 9218868437227405312) : wd s r < 18446744073709551616 ∧ isN (wd s r) = false := by
  unfold wd
  cases s
  · simp only [Bool.false_eq_true,if_false]
    exact ⟨by omega,decide_eq_false (by omega)⟩
  · simp only [if_true]
    exact ⟨by omega,decide_eq_false (by omega)⟩
theorem add_some {a b r : Nat} (ha : a < 18446744073709551616) (hb : b < 18446744073709551616) (h : Ieee.double.add a b = some r) : r < 18446744073709551616 ∧ isN r = false := by
  have hr : ∀ N e,rung N e ≤ 9218868437227405312 := fun N e => (near_rung' N e).1
  have hi : ∀ {x : Nat},x < 18446744073709551616 → Mg x = 9218868437227405312 → isN x = false := fun {x} hx e => by
    have := (wd_num (s := Sg x) (r := Mg x) (Nat.le_of_eq e)).2
    rwa [← wd_eq hx] at this
  by_cases n : isN a = true ∨ isN b = true
  · rw [add_nan ha hb n] at h; cases h
  · have na : ¬ isN a = true := fun x => n (.inl x)
    have nb : ¬ isN b = true := fun x => n (.inr x)
    have la : Mg a ≤ 9218868437227405312 := Nat.le_of_not_lt fun x => na (by unfold isN; exact decide_eq_true x)
    have lb : Mg b ≤ 9218868437227405312 := Nat.le_of_not_lt fun x => nb (by unfold isN; exact decide_eq_true x)
    by_cases ia : Mg a = 9218868437227405312
    · by_cases ib : Mg b = 9218868437227405312
      · rw [add_infinf ha hb ia ib] at h
        split at h
        · cases h; exact ⟨ha,hi ha ia⟩
        · cases h
      · rw [(add_infl ha hb ia (by omega)).1] at h; cases h; exact ⟨ha,hi ha ia⟩
    · by_cases ib : Mg b = 9218868437227405312
      · rw [(add_infl hb ha ib (by omega)).2] at h; cases h; exact ⟨hb,hi hb ib⟩
      · rw [add_signed ha hb (by omega) (by omega)] at h; cases h; exact wd_num (hr _ _)
theorem tot_rel {cs : List Nat} (hw : W64 cs) (i : Nat) : (∀ r,totF cs i = some r → totD cs i = r ∧ r < 18446744073709551616 ∧ isN r = false) ∧ (totF cs i = none → totD cs i = 9221120237041090561) ∧ totD cs i < 18446744073709551616 := by
  induction i with
  | zero => exact ⟨fun r e => (by cases e; exact ⟨rfl,by omega,rfl⟩),fun e => (by cases e),by show (0 : Nat) < _; omega⟩
  | succ i ih =>
    obtain ⟨i1,i2,i3⟩ := ih
    have hc := hw.get i
    have hD : totD cs (i + 1) = addD (totD cs i) (cs.getD i 0) := rfl
    have hlt : totD cs (i + 1) < 18446744073709551616 := by rw [hD]; exact addD_lt i3 hc
    cases hF : totF cs i with
    | none =>
      have hF' : totF cs (i + 1) = none := by show (match totF cs i with | some a => _ | none => none) = none; rw [hF]
      rw [hF']
      refine ⟨fun r e => (by cases e),fun _ => ?_,hlt⟩
      rw [hD,i2 hF]
      unfold addD
      rw [add_nan (by omega) hc (.inl (by decide))]; rfl
    | some a =>
      obtain ⟨e1,e2,e3⟩ := i1 a hF
      have hF' : totF cs (i + 1) = Ieee.double.add a (cs.getD i 0) := by show (match totF cs i with | some a => _ | none => none) = _; rw [hF]
      rw [hF']
      refine ⟨fun r e => ?_,fun e => ?_,hlt⟩
      · rw [hD,e1]; unfold addD; rw [e]; exact ⟨rfl,add_some e2 hc e⟩
      · rw [hD,e1]; unfold addD; rw [e]; rfl
theorem tot_step {cs : List Nat} (hw : W64 cs) (i : Nat) : afloat (.float .f64 (tvB (totF cs i))) (.float .f64 (cs.getD i 0)) = some (.float .f64 (tvB (totF cs (i + 1)))) := by
  have hc := hw.get i
  obtain ⟨i1,i2,i3⟩ := tot_rel hw i
  cases hF : totF cs i with
  | none =>
    have hF' : totF cs (i + 1) = none := by show (match totF cs i with | some a => _ | none => none) = none; rw [hF]
    rw [hF']
    exact afloat_nan hc
  | some a =>
    obtain ⟨e1,e2,e3⟩ := i1 a hF
    have hF' : totF cs (i + 1) = Ieee.double.add a (cs.getD i 0) := by show (match totF cs i with | some a => _ | none => none) = _; rw [hF]
    rw [hF']
    cases hA : Ieee.double.add a (cs.getD i 0) with
    | none => exact afloat_none e2 hc hA
    | some r => exact afloat_some e2 hc (add_some e2 hc hA).1 hA
set_option maxRecDepth 20000 in
set_option maxHeartbeats 6400000 in
theorem tot1 {h0 : Heap} {va : Option Addr} {vc n : Nat} {cs : List Nat} (hn : cs.length = n) (hk : n ≤ 2 ^ 47) (hw : W64 cs) (hv : Sl h0 (.slice va n vc) 1 n (fl cs)) (F : Step) (hFF : F = aexecP Try.prog (sO 20) (run Try.prog sO) loopω pt20 (lb20 0)) (t : Tm)
    (ht : forget [0,1,2,4,5,9,10,11,12,13,14,15,16,17,18,19,20] t = [Z,Z,Z,.float .f64 (tvB (totF cs (0))),Z,Z,.slice va n vc,.int .i64 n,.int .i64 (0 : Nat),Z,Z,Z,Z,Z,Z,Z,Z,Z,Z,Z,Z]) (hI0 : h0 = h0) :
    ∃ h' x9,loopω [0,1,2,4,5,9,10,11,12,13,14,15,16,17,18,19,20] F t h0 = some (.exit 0,[Z,Z,Z,.float .f64 (tvB (totF cs (n))),Z,Z,.slice va n vc,.int .i64 n,.int .i64 (n : Nat),x9,Z,Z,Z,Z,Z,Z,Z,Z,Z,Z,Z],h') ∧ h' = h0 := by
  subst hFF
  suffices hs : ∃ e t' h',loopω [0,1,2,4,5,9,10,11,12,13,14,15,16,17,18,19,20] (aexecP Try.prog (sO 20) (run Try.prog sO) loopω pt20 (lb20 0)) t h0 = some (e,t',h') ∧ (e = .exit 0 ∧ ∃ x9,t' = [Z,Z,Z,.float .f64 (tvB (totF cs (n))),Z,Z,.slice va n vc,.int .i64 n,.int .i64 (n : Nat),x9,Z,Z,Z,Z,Z,Z,Z,Z,Z,Z,Z] ∧ h' = h0) by
    obtain ⟨e,t',h',q1,rfl,x9,rfl,q2⟩ := hs
    exact ⟨h',x9,q1,q2⟩
  simp only [lb20,Try.f20,loopsOf,Option.getD_some,List.nil_append,List.append_nil,List.cons_append,List.getD_cons_zero,List.getD_cons_succ]
  refine loop_by (fun k t h' => ∃ (i : Nat),i + k = n ∧ forget [0,1,2,4,5,9,10,11,12,13,14,15,16,17,18,19,20] t = [Z,Z,Z,.float .f64 (tvB (totF cs (i))),Z,Z,.slice va n vc,.int .i64 n,.int .i64 (i : Nat),Z,Z,Z,Z,Z,Z,Z,Z,Z,Z,Z,Z] ∧ h' = h0)
    (fun e t' h' => e = .exit 0 ∧ ∃ x9,t' = [Z,Z,Z,.float .f64 (tvB (totF cs (n))),Z,Z,.slice va n vc,.int .i64 n,.int .i64 (n : Nat),x9,Z,Z,Z,Z,Z,Z,Z,Z,Z,Z,Z] ∧ h' = h0) ?_ (n) _ _ ⟨0,by omega,ht,hI0⟩
  rintro k t h' ⟨i,hi,ht,hI⟩
  rw [ht]
  rcases Nat.lt_or_ge i (n) with h1 | h1
  · have hinc := @inc64 i (by omega)
    have hcs := cast_succ i
    subst hI
    have hst := tot_step hw i
    obtain ⟨va,vc,C,ce,css,gr,ro,eb,hg,hc⟩ := sl_fl hv h1
    simp only [Value.slice.injEq,true_and] at eb
    obtain ⟨rfl,rfl⟩ := eb
    generalize cs.getD i 0 = x at *
    generalize hA : tvB (totF cs (i + 1)) = A' at *
    generalize tvB (totF cs i) = A at *
    simp (maxSteps := 2000000) -implicitDefEqProofs [ble_d,beq_d,List.range_succ,List.replicate,cond_true,cond_false,h1,aindexAddr,sz34,Try.underlying24,hg,hc,hst,hinc,undef]
    exact ⟨k - 1,by omega,i + 1,by omega,by simp (maxSteps := 2000000) only [forget,List.set_cons_succ,List.set_cons_zero,hcs,hA]⟩
  · obtain rfl : i = n := by omega
    simp (maxSteps := 2000000) -implicitDefEqProofs [ble_d,beq_d,List.range_succ,List.replicate,cond_true,cond_false]
    exact hI
theorem total_run {h : Heap} {v : Value} {cs : List Nat} (hv : Sl h v 1 cs.length (fl cs)) (hw : W64 cs) (hk : cs.length ≤ 2 ^ 47) : run Try.prog sO 20 [v] h = some (Fl (totD cs cs.length),h) := by
  obtain ⟨a,c,rfl⟩ := sl_form hv
  suffices hx : ∃ y,fin Try.prog Try.f20 (aexecP Try.prog (sO 20) (run Try.prog sO) loopω pt20 (Try.f20.body.getD .skip) ([.slice a cs.length c] ++ List.replicate (Try.f20.ntmps - 1) undef) h) = some y ∧ y.1 = Fl (totD cs cs.length) ∧ y.2 = h by
    obtain ⟨⟨y1,y2⟩,hy,rfl,rfl⟩ := hx
    exact run_finP pt20 Try.func20 rfl planned20 hy
  have p0 : plain (Fl 0) = true := rfl
  simp (maxSteps := 2000000) -implicitDefEqProofs [Try.f20,ble_d,beq_d,List.range_succ,List.replicate,cond_true,cond_false,sO20,p0]
  generalize hl : loopω _ _ _ _ = r
  have h0 : tvB (totF cs 0) = 0 := rfl
  obtain ⟨h3,x9,hx,hh⟩ := useX1 hl (tot1 (h0 := h) (va := a) (vc := c) (n := cs.length) (cs := cs) rfl hk hw hv _ (by kernel_rfl) _ (by rw [h0]; kernel_rfl) rfl)
  subst hx
  subst hh
  clear hl
  obtain ⟨i1,i2,i3⟩ := tot_rel hw cs.length
  cases hF : totF cs cs.length with
  | none =>
    rw [i2 hF]
    have hb : tvB none = 18446744073709551616 := rfl
    rw [hb]
    simp (maxSteps := 2000000) -implicitDefEqProofs [ble_d,beq_d,List.range_succ,List.replicate,cond_true,cond_false,nanCmp_neq,en29,nan_run,plf,p0]
  | some r =>
    obtain ⟨e1,e2,e3⟩ := i1 r hF
    rw [e1]
    have hb : tvB (some r) = r := rfl
    rw [hb]
    have nn := fneq_self r e2
    rw [e3] at nn
    have hq := fun t x y hx hy => fneq t x y r r hx hy e2 e2
    simp (maxSteps := 2000000) -implicitDefEqProofs [ble_d,beq_d,List.range_succ,List.replicate,cond_true,cond_false,nc0 e2 e2,hq,nn]
end Go.Proofs.Ytmnkmdfladbgdaa.Od
