/- Odds: the plain theory of shares. -/
import Derived.Test.YtmnkmdfladbgdaaOd4
import Derived.Test.YtmnkmdfladbgdaaRnd7
set_option linter.unusedVariables false
set_option linter.unusedSimpArgs false
namespace Go.Proofs.Ytmnkmdfladbgdaa.Od
open Go Go.Proofs Go.RowKit Go.Proofs.YtmnkmdfladbgdaaAI Go.Proofs.YtmnkmdfladbgdaaFl

/-- All are words of 64 bits. -/
def W64 (l : List Nat) : Prop := ∀ n ∈ l,n < 18446744073709551616
theorem W64.get {l : List Nat} (h : W64 l) (i : Nat) : l.getD i 0 < 18446744073709551616 := by
  rw [List.getD_eq_getElem?_getD]
  cases hx : l[i]? with
  | none => simp
  | some x => simpa using h x (List.mem_of_getElem? hx)
theorem fl_take (l : List Nat) {i : Nat} (hi : i < l.length) : fl (l.take (i + 1)) = fl (l.take i) ++ [.float .f64 (l.getD i 0)] := by
  rw [List.take_add_one,List.getElem?_eq_getElem hi]
  unfold fl
  rw [List.map_append]
  simp only [Option.toList,List.map_cons,List.map_nil,List.getD_eq_getElem?_getD,List.getElem?_eq_getElem hi,Option.getD_some]

/-- The loop of Floats: how far it came. -/
def FlI (h0 h : Heap) (ws : List Nat) (i : Nat) (v : Value) : Prop := Lg h v 34 1 i (fl (ws.take i)) ∧ Keep No h0 h ∧ ∀ m,nm v = some m → h0.next ≤ m
theorem floats_run {h : Heap} {v : Value} {ws : List Nat} (hv : Sl h v 1 ws.length (us ws)) (hw : W64 ws) (hk : ws.length * 8 ≤ 2 ^ 47) :
    ∃ v' h',run Try.prog sO 11 [v] h = some (v',h') ∧ Lg h' v' 34 1 ws.length (fl ws) ∧ Keep No h h' ∧ ∀ m,nm v' = some m → h.next ≤ m := by
  obtain ⟨a,c,rfl⟩ := sl_form hv
  suffices hx : ∃ y,fin Try.prog Try.f11 (aexecP Try.prog (sO 11) (run Try.prog sO) loopω pt11 (Try.f11.body.getD .skip) ([.slice a ws.length c] ++ List.replicate (Try.f11.ntmps - 1) undef) h) = some y ∧ FlI h y.2 ws ws.length y.1 by
    obtain ⟨⟨y1,y2⟩,hy,hl,hkp,hn⟩ := hx
    rw [List.take_length] at hl
    exact ⟨y1,y2,run_finP pt11 Try.func11 rfl planned11 hy,hl,hkp,hn⟩
  simp (maxSteps := 2000000) -implicitDefEqProofs [Try.f11,ble_d,beq_d,List.range_succ,List.replicate,cond_true,cond_false,Try.underlying22,sO11]
  generalize hl : loopω _ _ _ _ = r
  obtain ⟨e,t',h',hx,he,v',x4,x8,x9,x10,x11,x12,x13,x14,x15,x16,x17,ht,hI⟩ : ∃ e t' h',r = some (e,t',h') ∧ e = .exit 0 ∧ ∃ v' x4 x8 x9 x10 x11 x12 x13 x14 x15 x16 x17,t' = [.slice a ws.length c,Z,Z,v',x4,Z,.int .i64 ws.length,.int .i64 ws.length,x8,x9,x10,x11,x12,x13,x14,x15,x16,x17,Z,Z] ∧ FlI h h' ws ws.length v' := by
    rw [← hl]
    refine loop_by (fun k t h' => ∃ i v',i + k = ws.length ∧ forget [1,2,4,5,8,9,10,11,12,13,14,15,16,17,18,19] t = [.slice a ws.length c,Z,Z,v',Z,Z,.int .i64 ws.length,.int .i64 (i : Nat),Z,Z,Z,Z,Z,Z,Z,Z,Z,Z,Z,Z] ∧ FlI h h' ws i v')
      (fun e t' h' => e = .exit 0 ∧ ∃ v' x4 x8 x9 x10 x11 x12 x13 x14 x15 x16 x17,t' = [.slice a ws.length c,Z,Z,v',x4,Z,.int .i64 ws.length,.int .i64 ws.length,x8,x9,x10,x11,x12,x13,x14,x15,x16,x17,Z,Z] ∧ FlI h h' ws ws.length v') ?_ ws.length _ _ ⟨0,_,by omega,by kernel_rfl,Lg.nil _ _ _,Keep.refl _ _,fun m e => by cases e⟩
    rintro k t h' ⟨i,v',hi,ht,lg,kp,nv⟩
    rw [ht]
    rcases Nat.lt_or_ge i ws.length with h1 | h1
    · obtain ⟨a,c,C,ce,cs,gr,ro,eb,hg,hc⟩ := sl_u64 (hv.keep kp fun _ _ x => x) h1
      simp only [Value.slice.injEq,true_and] at eb
      obtain ⟨rfl,rfl⟩ := eb
      have hwi := hw.get i
      have hx : Sl (h'.new (.cells [.float .f64 (ws.getD i 0)] 34 1 false false)) (.slice (some ⟨h'.next,0,none⟩) 1 1) 1 1 [.float .f64 (ws.getD i 0)] :=
        ⟨rfl,.inr ⟨_,_,rfl,fun _ => ⟨_,_,_,_,_,by rw [Heap.get_new,if_pos rfl],rfl⟩⟩⟩
      obtain ⟨v8,h8,e8,lg8,kp8,nv8,_,nf8⟩ := append_lg (t := 24) (xt := 24) Try.underlying24 Try.underlying24 rfl el34 (lg.keep (Keep.new No h' _) (fun _ _ x => x)) hx (by omega) (by omega) rfl
      rw [← fl_take ws h1] at lg8
      have hn0 := kp.1
      have o5 : FlI h h8 ws (i + 1) v8 := by
        refine ⟨lg8,(kp.trans ((Keep.new No h' _))).also kp8 fun m hm x => by have := nv m x; omega,fun m e => ?_⟩
        rcases Nat.lt_or_ge m (h'.next + 1) with y | y
        · exact nv m (nv8 m e (by rw [Heap.next_new]; omega))
        · omega
      have hinc := @inc64 i (by omega)
      have hcs := cast_succ i
      generalize ws.getD i 0 = w at *
      have hfb := fun t x hx => fb23 t x w hx hwi
      simp (maxSteps := 2000000) -implicitDefEqProofs [ble_d,beq_d,List.range_succ,List.replicate,cond_true,cond_false,h1,aindexAddr,sz37,Try.underlying22,hg,hc,en23,hfb,(fun ρ x => bs24_1 ρ x w),e8,hinc]
      exact ⟨k - 1,by omega,i + 1,by omega,v8,by simp (maxSteps := 2000000) only [forget,List.set_cons_succ,List.set_cons_zero,hcs],o5⟩
    · have hi' : i = ws.length := by omega
      subst hi'
      simp (maxSteps := 2000000) -implicitDefEqProofs [ble_d,beq_d,List.range_succ,List.replicate,cond_true,cond_false]
      exact ⟨lg,kp,nv⟩
  subst hx he ht
  simp (maxSteps := 2000000) -implicitDefEqProofs [ble_d,beq_d,List.range_succ,List.replicate,cond_true,cond_false]
  exact ⟨_,_,⟨rfl,rfl⟩,hI⟩

/-- The weight at a turn. -/
def atB (ws : List Nat) (turn i : Int) : Nat := if ws.length = 0 then 0 else if turn < 0 then 0 else if i < 0 then 0 else oneB (ws.getD ((turn.toNat % ws.length + i.toNat % ws.length) % ws.length) 0)
theorem atB_lt {ws : List Nat} (h : W64 ws) (turn i : Int) : atB ws turn i < 18446744073709551616 := by
  unfold atB; (repeat' split) <;> first | omega | exact oneB_lt (h.get _)
theorem at_ix {turn i : Int} {n : Nat} (h1 : 0 ≤ turn) (h2 : 0 ≤ i) (hn : n ≤ 2 ^ 47) (h0 : n ≠ 0) :
    turn.tmod n = ((turn.toNat % n : Nat) : Int) ∧ i.tmod n = ((i.toNat % n : Nat) : Int) ∧ IntKind.i64.wrap (((turn.toNat % n : Nat) : Int) + ((i.toNat % n : Nat) : Int)) = ((turn.toNat % n + i.toNat % n : Nat) : Int) ∧
      ((turn.toNat % n + i.toNat % n : Nat) : Int).tmod n = (((turn.toNat % n + i.toNat % n) % n : Nat) : Int) := by
  have e1 : turn = (turn.toNat : Int) := by omega
  have e2 : i = (i.toNat : Int) := by omega
  have m1 := Nat.mod_lt turn.toNat (show 0 < n by omega)
  have m2 := Nat.mod_lt i.toNat (show 0 < n by omega)
  refine ⟨by conv => lhs; rw [e1]
             exact (Int.ofNat_tmod _ _).symm, by conv => lhs; rw [e2]
                                                 exact (Int.ofNat_tmod _ _).symm,?_,(Int.ofNat_tmod _ _).symm⟩
  rw [IntWalk.i64_in _ (by omega)]; omega
theorem at_run {h : Heap} {v : Value} {ws : List Nat} (turn i : Int) (hv : Sl h v 1 ws.length (fl ws)) (hw : W64 ws) (hk : ws.length ≤ 2 ^ 47) :
    run Try.prog sO 32 [v,.int .i64 turn,.int .i64 i] h = some (Fl (atB ws turn i),h) := by
  obtain ⟨a,c,rfl⟩ := sl_form hv
  refine run_finP pt32 Try.func32 rfl planned32 ?_
  have p0 : plain (Fl 0) = true := rfl
  by_cases h0 : ws.length = 0
  · simp (maxSteps := 2000000) -implicitDefEqProofs [Try.f32,ble_d,beq_d,List.range_succ,List.replicate,cond_true,cond_false,p0,ibeq,Try.underlying24,h0,atB]
  by_cases h1 : turn < 0
  · simp (maxSteps := 2000000) -implicitDefEqProofs [Try.f32,ble_d,beq_d,List.range_succ,List.replicate,cond_true,cond_false,p0,ibeq,Try.underlying24,h0,h1,atB]
  by_cases h2 : i < 0
  · simp (maxSteps := 2000000) -implicitDefEqProofs [Try.f32,ble_d,beq_d,List.range_succ,List.replicate,cond_true,cond_false,p0,ibeq,Try.underlying24,h0,h1,h2,atB]
  obtain ⟨e1,e2,e3,e4⟩ := @at_ix turn i ws.length (by omega) (by omega) hk h0
  have hlt := Nat.mod_lt (turn.toNat % ws.length + i.toNat % ws.length) (show 0 < ws.length by omega)
  have hd : atB ws turn i = oneB (ws.getD ((turn.toNat % ws.length + i.toNat % ws.length) % ws.length) 0) := by simp only [atB,h0,h1,h2,if_false]
  rw [hd]
  generalize hq : turn.toNat % ws.length = q1 at *
  generalize hq2 : i.toNat % ws.length = q2 at *
  generalize hj : (q1 + q2) % ws.length = j at *
  obtain ⟨a,c,C,ce,cs,gr,ro,eb,hg,hc⟩ := sl_fl hv hlt
  simp only [Value.slice.injEq,true_and] at eb
  obtain ⟨rfl,rfl⟩ := eb
  have hwj := hw.get j
  generalize ws.getD j 0 = w at *
  have e3' : IntKind.i64.wrap ((q1 : Int) + (q2 : Int)) = (q1 : Int) + (q2 : Int) := by rw [e3]; omega
  have e4' : ((q1 : Int) + (q2 : Int)).tmod ws.length = (j : Int) := by rw [← e4]; congr 1
  have nn := fneq_self w hwj
  have hnq := fun t x y hx hy => fneq t x y w w hx hy hwj hwj
  cases hn : isN w
  · rw [hn] at nn
    simp (maxSteps := 2000000) -implicitDefEqProofs [Try.f32,ble_d,beq_d,List.range_succ,List.replicate,cond_true,cond_false,p0,ibeq,Try.underlying24,h0,h1,h2,pt32_4,pl32_4,an32_4,e1,e2,e3',e4',aindexAddr,sz34,hlt,hg,hc,nc0 hwj hwj,hnq,nn,oneB,hn]
  · rw [hn] at nn
    simp (maxSteps := 2000000) -implicitDefEqProofs [Try.f32,ble_d,beq_d,List.range_succ,List.replicate,cond_true,cond_false,p0,ibeq,Try.underlying24,h0,h1,h2,pt32_4,pl32_4,an32_4,e1,e2,e3',e4',aindexAddr,sz34,hlt,hg,hc,nc0 hwj hwj,hnq,nn,oneB,hn,en29,nan_run,plf,p0]
theorem rat_run {h : Heap} {v : Value} {ws : List Nat} (turn i : Int) (hv : Sl h v 1 ws.length (us ws)) (hw : W64 ws) (hk : ws.length ≤ 2 ^ 47) :
    run Try.prog sO 34 [v,.int .i64 turn,.int .i64 i] h = some (U (atB ws turn i),h) := by
  obtain ⟨a,c,rfl⟩ := sl_form hv
  refine run_finP pt34 Try.func34 rfl planned34 ?_
  by_cases h0 : ws.length = 0
  · simp (maxSteps := 2000000) -implicitDefEqProofs [Try.f34,ble_d,beq_d,List.range_succ,List.replicate,cond_true,cond_false,ibeq,Try.underlying22,h0,atB]
  by_cases h1 : turn < 0
  · simp (maxSteps := 2000000) -implicitDefEqProofs [Try.f34,ble_d,beq_d,List.range_succ,List.replicate,cond_true,cond_false,ibeq,Try.underlying22,h0,h1,atB]
  by_cases h2 : i < 0
  · simp (maxSteps := 2000000) -implicitDefEqProofs [Try.f34,ble_d,beq_d,List.range_succ,List.replicate,cond_true,cond_false,ibeq,Try.underlying22,h0,h1,h2,atB]
  obtain ⟨e1,e2,e3,e4⟩ := @at_ix turn i ws.length (by omega) (by omega) hk h0
  have hlt := Nat.mod_lt (turn.toNat % ws.length + i.toNat % ws.length) (show 0 < ws.length by omega)
  have hd : atB ws turn i = oneB (ws.getD ((turn.toNat % ws.length + i.toNat % ws.length) % ws.length) 0) := by simp only [atB,h0,h1,h2,if_false]
  rw [hd]
  generalize hq : turn.toNat % ws.length = q1 at *
  generalize hq2 : i.toNat % ws.length = q2 at *
  generalize hj : (q1 + q2) % ws.length = j at *
  obtain ⟨a,c,C,ce,cs,gr,ro,eb,hg,hc⟩ := sl_u64 hv hlt
  simp only [Value.slice.injEq,true_and] at eb
  obtain ⟨rfl,rfl⟩ := eb
  have hwj := hw.get j
  generalize ws.getD j 0 = w at *
  have e3' : IntKind.i64.wrap ((q1 : Int) + (q2 : Int)) = (q1 : Int) + (q2 : Int) := by rw [e3]; omega
  have e4' : ((q1 : Int) + (q2 : Int)).tmod ws.length = (j : Int) := by rw [← e4]; congr 1
  simp (maxSteps := 2000000) -implicitDefEqProofs [Try.f34,ble_d,beq_d,List.range_succ,List.replicate,cond_true,cond_false,ibeq,Try.underlying22,h0,h1,h2,pt34_4,pl34_4,an34_4,e1,e2,e3',e4',aindexAddr,sz37,hlt,hg,hc,en59,one_run]
end Go.Proofs.Ytmnkmdfladbgdaa.Od

set_option linter.unusedVariables false
set_option linter.unusedSimpArgs false
namespace Go.Proofs.Ytmnkmdfladbgdaa.Od
open Go Go.Proofs Go.RowKit Go.Proofs.YtmnkmdfladbgdaaAI Go.Proofs.YtmnkmdfladbgdaaFl Go.Proofs.YtmnkmdfladbgdaaRnd

/-- Bits of a float from nought on. -/
def Pos (a : Nat) : Prop := a ≤ 9218868437227405312
theorem Pos.lt {a : Nat} (h : Pos a) : a < 18446744073709551616 := by unfold Pos at h; omega
theorem Pos.nan {a : Nat} (h : Pos a) : isN a = false := by unfold Pos at h; unfold isN; simp; omega
theorem Pos.sv {a : Nat} (h : Pos a) : sv a = (a : Int) := by unfold Pos at h; unfold YtmnkmdfladbgdaaFl.sv; rw [if_neg (by omega)]; omega
theorem pos_gt {a b : Nat} (ha : Pos a) (hb : Pos b) : (Ieee.double.order a b == some .gt) = decide (b < a) := by
  rw [fgt a b ha.lt hb.lt,ha.nan,hb.nan,ha.sv,hb.sv]
  simp
theorem pos_eq {a b : Nat} (ha : Pos a) (hb : Pos b) : (Ieee.double.order a b == some .eq) = decide (a = b) := by
  rw [order_eq a b ha.lt hb.lt,ha.nan,hb.nan,ha.sv,hb.sv]
  simp only [Bool.false_eq_true,false_or,or_self,if_false,Bool.or_self]
  rcases Nat.lt_trichotomy a b with h | h | h
  · rw [cmp_lt (by omega)]; simp; omega
  · rw [cmp_eq (by omega)]; simp [h]
  · rw [cmp_gt (by omega)]; simp; omega
theorem worth_pos {b : Nat} (h : b < 18446744073709551616) : Pos (worthB b) := by
  unfold worthB Pos
  split
  · rename_i h1
    unfold key at h1
    split at h1
    · omega
    · split at h1 <;> omega
  · omega
def addB (a b : Nat) : Nat := (Ieee.double.add a b).getD 0
def divB (a b : Nat) : Nat := (Ieee.double.div a b).getD 0
theorem addB_ok {a b : Nat} (ha : Pos a) (hb : Pos b) : Ieee.double.add a b = some (addB a b) ∧ Pos (addB a b) ∧ a ≤ addB a b ∧ b ≤ addB a b := by
  obtain ⟨r,e,h1,h2,h3⟩ := add_up (a := a) (b := b) ha hb
  have : addB a b = r := by unfold addB; rw [e]; rfl
  rw [this]; exact ⟨e,h1,h2,h3⟩
/-- What each position weighs. -/
def wt (ws : List Nat) (turn : Int) (i : Nat) : Nat := worthB (atB ws turn (i : Int))
def wl (ws : List Nat) (turn : Int) (n : Nat) : List Nat := (List.range n).map (wt ws turn)
def sumB (ws : List Nat) (turn : Int) : Nat → Nat
  | 0 => 0
  | n + 1 => addB (sumB ws turn n) (wt ws turn n)
def infB (ws : List Nat) (turn : Int) : Nat → Nat
  | 0 => 0
  | n + 1 => if wt ws turn n = 9218868437227405312 then infB ws turn n + 1 else infB ws turn n
theorem infB_le (ws : List Nat) (turn : Int) (n : Nat) : infB ws turn n ≤ n := by
  induction n with
  | zero => exact Nat.le_refl _
  | succ n ih => unfold infB; split <;> omega
theorem infB_pos {ws : List Nat} {turn : Int} {n i : Nat} (hi : i < n) (h : wt ws turn i = 9218868437227405312) : 0 < infB ws turn n := by
  induction n with
  | zero => omega
  | succ n ih =>
    unfold infB
    split
    · omega
    · rename_i h1
      refine ih ?_
      rcases Nat.lt_or_eq_of_le (Nat.le_of_lt_succ hi) with h2 | rfl
      · exact h2
      · exact absurd h h1
/-- The share of a position that weighs w. -/
def shareB (ws : List Nat) (turn : Int) (n w : Nat) : Nat :=
  if 0 < infB ws turn n then (if w = 9218868437227405312 then divB (Fi 1) (Fi (infB ws turn n)) else 0) else if sumB ws turn n = 0 then divB (Fi 1) (Fi n) else divB w (sumB ws turn n)
theorem one_lit : Fi 1 = 4607182418800017408 := by kernel_rfl
theorem nearest_fi (n : Nat) : FloatKind.f64.nearest (n : Int) = Fi n := by
  unfold FloatKind.nearest FloatKind.encode FloatKind.format Fi
  rw [← nearest_rung]
  have h1 : decide ((n : Int) < 0) = false := by simp
  show Ieee.double.write (.number (decide ((n : Int) < 0)) _ _) = _
  rw [h1]; rfl
theorem Fi_pos {k : Nat} (h : k < 2 ^ 53) : Pos (Fi k) := Nat.le_of_lt (Fi_spec h).1
theorem Fi_gt {k : Nat} (h : k < 2 ^ 53) : 0 < Fi k ↔ 0 < k := by
  constructor
  · intro h1
    rcases Nat.eq_zero_or_pos k with h0 | h0
    · subst h0; rw [Fi_zero] at h1; omega
    · exact h0
  · exact (Fi_spec h).2.2
theorem divB_ok {a b : Nat} (hab : a ≤ b) (hb : Pos b) (ha : a < 9218868437227405312) (h0 : 0 < b) : Ieee.double.div a b = some (divB a b) ∧ divB a b ≤ 4607182418800017408 := by
  obtain ⟨r,e,h1⟩ := div_share hab hb ha h0
  have : divB a b = r := by unfold divB; rw [e]; rfl
  rw [this,← one_lit]; exact ⟨e,h1⟩
section
variable {ws : List Nat} (hw : W64 ws) (turn : Int)
include hw
theorem wt_pos (i : Nat) : Pos (wt ws turn i) := worth_pos (atB_lt hw turn _)
theorem sum_ok (n : Nat) : Pos (sumB ws turn n) ∧ ∀ i,i < n → wt ws turn i ≤ sumB ws turn n := by
  induction n with
  | zero => exact ⟨by show (0 : Nat) ≤ _; omega,fun i h => by omega⟩
  | succ n ih =>
    obtain ⟨h1,h2,h3,h4⟩ := addB_ok ih.1 (wt_pos hw turn n)
    refine ⟨h2,fun i hi => ?_⟩
    show _ ≤ addB _ _
    rcases Nat.lt_or_eq_of_le (Nat.le_of_lt_succ hi) with h5 | rfl
    · exact Nat.le_trans (ih.2 i h5) h3
    · exact h4
theorem share_le {n i : Nat} (hi : i < n) (hn : n ≤ 4096) : shareB ws turn n (wt ws turn i) ≤ 4607182418800017408 := by
  have hk := infB_le ws turn n
  have h1 : Fi 1 < 9218868437227405312 := by rw [one_lit]; omega
  unfold shareB
  split
  · split
    · exact (divB_ok (Fi_mono (by omega) (by omega)) (Fi_pos (by omega)) h1 ((Fi_gt (by omega)).2 (by omega))).2
    · omega
  · rename_i h0
    split
    · exact (divB_ok (Fi_mono (by omega) (by omega)) (Fi_pos (by omega)) h1 ((Fi_gt (by omega)).2 (by omega))).2
    · obtain ⟨s1,s2⟩ := sum_ok hw turn n
      refine (divB_ok (s2 i hi) s1 ?_ (by omega)).2
      have := wt_pos hw turn i
      unfold Pos at this
      rcases Nat.lt_or_eq_of_le this with h | h
      · exact h
      · exact absurd (infB_pos hi h) h0
end
end Go.Proofs.Ytmnkmdfladbgdaa.Od
