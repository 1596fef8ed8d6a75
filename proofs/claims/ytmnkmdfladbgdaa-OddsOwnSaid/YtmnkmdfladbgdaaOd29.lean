/- Odds: how likely a log is, by the document. -/
import Derived.Test.YtmnkmdfladbgdaaOd27
import Derived.Test.YtmnkmdfladbgdaaOd14
import Derived.Test.YtmnkmdfladbgdaaOd22
set_option linter.unusedVariables false
set_option linter.unusedSimpArgs false
namespace Go.Proofs.Ytmnkmdfladbgdaa.Od
open Go Go.Proofs Go.RowKit Go.Proofs.YtmnkmdfladbgdaaAI Go.Proofs.YtmnkmdfladbgdaaFl Go.Proofs.YtmnkmdfladbgdaaRnd

/-- How likely the first picks are. -/
def chB (ws : List Nat) (l : List (Int × Int)) : Nat → Nat
  | 0 => 4607182418800017408
  | i + 1 => mulB (chB ws l i) (shB ws i (l.getD i (0,0)).1.toNat (l.getD i (0,0)).2.toNat)
theorem Vr_one : Vr 4607182418800017408 = 2 ^ 1074 := by kernel_rfl
theorem mul_le_one {a b : Nat} (ha : a ≤ 4607182418800017408) (hb : b ≤ 4607182418800017408) : mulB a b ≤ 4607182418800017408 := by
  have hi : iR = 9218868437227405312 := rfl
  obtain ⟨r,e,hr⟩ := mul_near (a := a) (b := b) (by omega) (by omega)
  have hB : mulB a b = r := by unfold mulB; rw [e]; rfl
  rw [hB]
  refine Nat.le_trans ?_ ha
  have h2 : (2 : Nat) ^ 1074 = 2 * 2 ^ 1073 := by
    obtain ⟨K,hK⟩ : ∃ K : Nat,K = 1073 := ⟨_,rfl⟩
    rw [← hK,show (1074 : Nat) = K + 1 by omega,Nat.pow_succ,Nat.mul_comm]
  have h3 := Vr_one
  rw [h2] at h3
  obtain ⟨K,hK⟩ : ∃ K : Nat,K = 1073 := ⟨_,rfl⟩
  rw [← hK] at hr h3
  refine hr.mono (Nat.two_pow_pos _) (by omega) (Near.self (r := a) (by omega)) ?_
  have h1 : Vr b ≤ 2 * 2 ^ K := by
    rw [← h3]
    rcases Nat.lt_or_eq_of_le hb with h | h
    · exact Nat.le_of_lt (Vr_mono h)
    · rw [h]; exact Nat.le_refl _
  have := Nat.mul_le_mul_left (Vr a) h1
  rw [Nat.mul_one,Nat.mul_assoc,Nat.mul_left_comm]
  exact this
/-- Picks that may be. -/
def okP (l : List (Int × Int)) : Prop := ∀ i,i < l.length → 2 ≤ (l.getD i (0,0)).1 ∧ (l.getD i (0,0)).1 ≤ 4096 ∧ 0 ≤ (l.getD i (0,0)).2 ∧ (l.getD i (0,0)).2 < (l.getD i (0,0)).1
theorem okP_of {l : List (Int × Int)} (h : (smallB l && goodB l) = true) : okP l := fun i hi => by
  rw [Bool.and_eq_true] at h
  rcases small_split l with ⟨_,s⟩ | ⟨s,_⟩
  · rcases good_split l with ⟨_,g⟩ | ⟨g,_⟩
    · have h1 := s i hi
      have h2 := g i hi
      unfold bad at h2
      simp only [Bool.or_eq_false_iff,decide_eq_false_iff_not] at h2
      omega
    · rw [g] at h; exact absurd h.2 (by decide)
  · rw [s] at h; exact absurd h.1 (by decide)
theorem chB_le {ws : List Nat} (hw : W64 ws) {l : List (Int × Int)} (hl : okP l) (i : Nat) (hi : i ≤ l.length) : chB ws l i ≤ 4607182418800017408 := by
  induction i with
  | zero => exact Nat.le_refl _
  | succ i ih =>
    have h1 := hl i (by omega)
    exact mul_le_one (ih (by omega)) (shB_le hw _ (by omega) (by omega))
set_option maxRecDepth 20000 in
set_option maxHeartbeats 6400000 in
theorem ch1 {h0 : Heap} {wa la : Option Addr} {wc lc n : Nat} {ws : List Nat} {l : List (Int × Int)} (hw : W64 ws) (hn : l.length = n) (hk : n ≤ 2 ^ 47) (kw : ws.length ≤ 2 ^ 47) (hok : okP l) (hv : Sl h0 (.slice wa ws.length wc) 1 ws.length (fl ws)) (hl : Sl h0 (.slice la n lc) 2 n (picks l)) (F : Step) (hFF : F = aexecP Try.prog (sO 14) (run Try.prog sO) loopω pt14 (lb14 0)) (t : Tm)
    (ht : forget [1,2,3,4,5,7,8,9,10,11,12,13,17,18,19,20,21,22,23,24,25,26,27,28,29,30,31,32,33,34,35,36,37] t = [.slice wa ws.length wc,Z,Z,Z,Z,Z,.float .f64 (chB ws l (0)),Z,Z,Z,Z,Z,Z,Z,.slice la n lc,.int .i64 n,.int .i64 (0 : Nat),Z,Z,Z,Z,Z,Z,Z,Z,Z,Z,Z,Z,Z,Z,Z,Z,Z,Z,Z,Z,Z]) (hI0 : (Keep No h0 h0 ∧ True)) :
    ∃ h' x17,loopω [1,2,3,4,5,7,8,9,10,11,12,13,17,18,19,20,21,22,23,24,25,26,27,28,29,30,31,32,33,34,35,36,37] F t h0 = some (.exit 0,[.slice wa ws.length wc,Z,Z,Z,Z,Z,.float .f64 (chB ws l (n)),Z,Z,Z,Z,Z,Z,Z,.slice la n lc,.int .i64 n,.int .i64 (n : Nat),x17,Z,Z,Z,Z,Z,Z,Z,Z,Z,Z,Z,Z,Z,Z,Z,Z,Z,Z,Z,Z],h') ∧ (Keep No h0 h' ∧ True) := by
  subst hFF
  suffices hs : ∃ e t' h',loopω [1,2,3,4,5,7,8,9,10,11,12,13,17,18,19,20,21,22,23,24,25,26,27,28,29,30,31,32,33,34,35,36,37] (aexecP Try.prog (sO 14) (run Try.prog sO) loopω pt14 (lb14 0)) t h0 = some (e,t',h') ∧ (e = .exit 0 ∧ ∃ x17,t' = [.slice wa ws.length wc,Z,Z,Z,Z,Z,.float .f64 (chB ws l (n)),Z,Z,Z,Z,Z,Z,Z,.slice la n lc,.int .i64 n,.int .i64 (n : Nat),x17,Z,Z,Z,Z,Z,Z,Z,Z,Z,Z,Z,Z,Z,Z,Z,Z,Z,Z,Z,Z] ∧ (Keep No h0 h' ∧ True)) by
    obtain ⟨e,t',h',q1,rfl,x17,rfl,q2⟩ := hs
    exact ⟨h',x17,q1,q2⟩
  simp only [lb14,Try.f14,loopsOf,Option.getD_some,List.nil_append,List.append_nil,List.cons_append,List.getD_cons_zero,List.getD_cons_succ]
  refine loop_by (fun k t h' => ∃ (i : Nat),i + k = n ∧ forget [1,2,3,4,5,7,8,9,10,11,12,13,17,18,19,20,21,22,23,24,25,26,27,28,29,30,31,32,33,34,35,36,37] t = [.slice wa ws.length wc,Z,Z,Z,Z,Z,.float .f64 (chB ws l (i)),Z,Z,Z,Z,Z,Z,Z,.slice la n lc,.int .i64 n,.int .i64 (i : Nat),Z,Z,Z,Z,Z,Z,Z,Z,Z,Z,Z,Z,Z,Z,Z,Z,Z,Z,Z,Z,Z] ∧ (Keep No h0 h' ∧ True))
    (fun e t' h' => e = .exit 0 ∧ ∃ x17,t' = [.slice wa ws.length wc,Z,Z,Z,Z,Z,.float .f64 (chB ws l (n)),Z,Z,Z,Z,Z,Z,Z,.slice la n lc,.int .i64 n,.int .i64 (n : Nat),x17,Z,Z,Z,Z,Z,Z,Z,Z,Z,Z,Z,Z,Z,Z,Z,Z,Z,Z,Z,Z] ∧ (Keep No h0 h' ∧ True)) ?_ (n) _ _ ⟨0,by omega,ht,hI0⟩
  rintro k t h' ⟨i,hi,ht,hI⟩
  rw [ht]
  rcases Nat.lt_or_ge i (n) with h1 | h1
  · obtain ⟨kp,_⟩ := hI
    have hinc := @inc64 i (by omega)
    have hcs := cast_succ i
    have hvk := hv.keep kp fun _ _ x => x
    have hlk := hl.keep kp fun _ _ x => x
    have hst : chB ws l (i + 1) = mulB (chB ws l i) (shB ws i (l.getD i (0,0)).1.toNat (l.getD i (0,0)).2.toNat) := rfl
    have hp := hok i (by omega)
    have hlt := chB_le hw hok i (by omega)
    obtain ⟨la,lc,C,ce,cs,gr,ro,eb,hgt,hf,hd,p1,p2⟩ := sl_pick hlk (show i < n by omega)
    simp only [Value.slice.injEq,true_and] at eb
    obtain ⟨rfl,rfl⟩ := eb
    generalize hq : l.getD i (0,0) = q at *
    obtain ⟨q1,q2⟩ := q
    simp only at p1 p2 hd hst hp
    obtain ⟨N,rfl⟩ : ∃ N : Nat,q1 = N := ⟨q1.toNat,by omega⟩
    obtain ⟨J,rfl⟩ : ∃ J : Nat,q2 = J := ⟨q2.toNat,by omega⟩
    rw [Int.toNat_natCast,Int.toNat_natCast] at hst
    have hJ : J < N := by omega
    have hsh := shB_le hw i hJ (show N ≤ 4096 by omega)
    
    have gz : (h'.new (.cells [.int .i64 0,.int .i64 0] 71 2 false false)).get h'.next = some (.cells [.int .i64 0,.int .i64 0] 71 2 false false) := by rw [Heap.get_new,if_pos rfl]
    obtain ⟨h3,h3e⟩ : ∃ x,x = (h'.new (.cells [.int .i64 0,.int .i64 0] 71 2 false false)).put h'.next (some (.cells [.int .i64 N,.int .i64 J] 71 2 false false)) := ⟨_,rfl⟩
    have k3 : Keep No h' h3 := h3e ▸ (Keep.new No h' _).also (Keep.put (S := fun m => m = h'.next) (Heap.get_lt gz) rfl _) fun m hm e => by omega
    have g3 : h3.get h'.next = some (.cells [.int .i64 N,.int .i64 J] 71 2 false false) := by rw [h3e,Heap.get_put (Heap.get_lt gz),if_pos rfl]
    have okQ : okCells (.agg #[.int .i64 N,.int .i64 J]) = some [.int .i64 N,.int .i64 J] := rfl
    obtain ⟨hB,e2,g2,k2⟩ := shares_run (i : Int) (n := N) (by omega) (by omega) (by omega) (hvk.keep k3 fun _ _ x => x) hw (by omega)
    have gB := (k2.get g3 fun x => x)
    have hll := sharesL_len ws i N
    have gg := sharesL_get (ws := ws) (turn := i) hJ
    have hcell : (fl (sharesL ws i N))[J]? = some (.float .f64 (shB ws i N J)) := by
      rw [← gg]
      simp [fl,List.getElem?_eq_getElem (show J < (sharesL ws i N).length by omega)]
    have hmul := mul_ok (a := chB ws l i) (b := shB ws i N J) (by omega) (by omega)
    have hMlt : mulB (chB ws l i) (shB ws i N J) < 18446744073709551616 := by have := mul_le_one hlt hsh; omega
    rw [← hst] at hmul hMlt
    generalize hA : chB ws l (i + 1) = A' at *
    generalize chB ws l i = A at *
    generalize shB ws i N J = B at *
    have hfm := fun t x y hx hy => fmul t x y A B A' hx hy (by omega) (by omega) hMlt hmul.1
    have nm0 := nanCmp_mul
    simp (maxSteps := 2000000) -implicitDefEqProofs [ble_d,beq_d,List.range_succ,List.replicate,cond_true,cond_false,h1,Try.underlying33,Try.underlying24,aindexAddr,sz71,sz34,hgt,hf,hd,al71,gz,okQ,astore,← h3e,g3,gB,g2,fa71_0,fa71_1,en10,e2,hcell,hJ,hfm,plf,hMlt,hinc,undef]
    exact ⟨k - 1,by omega,i + 1,by omega,by simp (maxSteps := 2000000) only [forget,List.set_cons_succ,List.set_cons_zero,hcs,hA],(kp.trans k3).trans k2⟩
  · obtain rfl : i = n := by omega
    simp (maxSteps := 2000000) -implicitDefEqProofs [ble_d,beq_d,List.range_succ,List.replicate,cond_true,cond_false,undef]
    exact hI.1

set_option maxRecDepth 20000 in
theorem chance_run {h : Heap} {v w : Value} {ws : List Nat} {l : List (Int × Int)} (hw : W64 ws) (kl : l.length * 8 ≤ 2 ^ 47) (kw : ws.length ≤ 2 ^ 47) (hv : Sl h v 1 ws.length (fl ws)) (hl : Sl h w 2 l.length (picks l)) :
    ∃ h',run Try.prog sO 14 [v,w] h = some (.tuple #[Fl (if (smallB l && goodB l) = true then chB ws l l.length else 0),.int .i64 (if (smallB l && goodB l) = true then 0 else 2)],h') ∧ Keep No h h' := by
  obtain ⟨h1,e1,k1⟩ := good38_run hl (by omega)
  have hv1 := hv.keep k1 fun _ _ x => x
  have hl1 := hl.keep k1 fun _ _ x => x
  obtain ⟨wa,wc,rfl⟩ := sl_form hv
  obtain ⟨la,lc,rfl⟩ := sl_form hl
  cases hg : (smallB l && goodB l)
  · rw [hg] at e1
    simp only [Bool.false_eq_true,if_false]
    refine ⟨h1,run_finP pt14 Try.func14 rfl planned14 ?_,k1⟩
    simp (maxSteps := 2000000) -implicitDefEqProofs [Try.f14,ble_d,beq_d,List.range_succ,List.replicate,cond_true,cond_false,en38,e1,undef,plf]
  · rw [hg] at e1
    simp only [if_true]
    suffices hx : ∃ y,fin Try.prog Try.f14 (aexecP Try.prog (sO 14) (run Try.prog sO) loopω pt14 (Try.f14.body.getD .skip) ([.slice wa ws.length wc,.slice la l.length lc] ++ List.replicate (Try.f14.ntmps - 2) undef) h) = some y ∧ y.1 = .tuple #[Fl (chB ws l l.length),.int .i64 0] ∧ Keep No h y.2 by
      obtain ⟨⟨y1,y2⟩,hy,rfl,q⟩ := hx
      exact ⟨y2,run_finP pt14 Try.func14 rfl planned14 hy,q⟩
    simp (maxSteps := 2000000) -implicitDefEqProofs [Try.f14,ble_d,beq_d,List.range_succ,List.replicate,cond_true,cond_false,en38,e1,sO14,undef,plf]
    generalize hlp : loopω _ _ _ _ = r
    obtain ⟨h3,x17,hx,kp,_⟩ := useX1 hlp (ch1 (h0 := h1) (wa := wa) (la := la) (wc := wc) (lc := lc) (n := l.length) (ws := ws) (l := l) hw rfl (by omega) kw (okP_of hg) hv1 hl1 _ (by kernel_rfl) _ (by kernel_rfl) ⟨Keep.refl _ _,trivial⟩)
    subst hx
    simp (maxSteps := 2000000) -implicitDefEqProofs [ble_d,beq_d,List.range_succ,List.replicate,cond_true,cond_false,plf]
    exact ⟨_,_,⟨rfl,rfl⟩,rfl,k1.trans kp⟩
end Go.Proofs.Ytmnkmdfladbgdaa.Od

set_option linter.unusedVariables false
set_option linter.unusedSimpArgs false
namespace Go.Proofs.Ytmnkmdfladbgdaa.Od
open Go Go.Proofs Go.RowKit Go.Proofs.YtmnkmdfladbgdaaAI Go.Proofs.YtmnkmdfladbgdaaFl Go.Proofs.YtmnkmdfladbgdaaRnd
set_option maxRecDepth 20000 in
set_option maxHeartbeats 6400000 in
theorem rch1 {h0 : Heap} {wa la : Option Addr} {wc lc n : Nat} {ws : List Nat} {l : List (Int × Int)} (hw : W64 ws) (hn : l.length = n) (hk : n ≤ 2 ^ 47) (kw : ws.length ≤ 2 ^ 47) (hok : okP l) (hv : Sl h0 (.slice wa ws.length wc) 1 ws.length (us ws)) (hl : Sl h0 (.slice la n lc) 2 n (picks l)) (F : Step) (hFF : F = aexecP Try.prog (sO 15) (run Try.prog sO) loopω pt15 (lb15 0)) (t : Tm)
    (ht : forget [2,3,4,5,8,9,10,11,12,13,14,15,16,17,18,19,20,21,22,23,24,25,26,27,28,29,30,31,32,33,34,35,36,37,38,39,40,41] t = [.slice wa ws.length wc,.slice la n lc,Z,Z,Z,Z,U (chB ws l (0)),.int .i64 (0 : Nat),Z,Z,Z,Z,Z,Z,Z,Z,Z,Z,Z,Z,Z,Z,Z,Z,Z,Z,Z,Z,Z,Z,Z,Z,Z,Z,Z,Z,Z,Z,Z,Z,Z,Z]) (hI0 : (Keep No h0 h0 ∧ True)) :
    ∃ h' x14 x15 x16 x17,loopω [2,3,4,5,8,9,10,11,12,13,14,15,16,17,18,19,20,21,22,23,24,25,26,27,28,29,30,31,32,33,34,35,36,37,38,39,40,41] F t h0 = some (.exit 0,[.slice wa ws.length wc,.slice la n lc,Z,Z,Z,Z,U (chB ws l (n)),.int .i64 (n : Nat),Z,Z,Z,Z,Z,Z,x14,x15,x16,x17,Z,Z,Z,Z,Z,Z,Z,Z,Z,Z,Z,Z,Z,Z,Z,Z,Z,Z,Z,Z,Z,Z,Z,Z],h') ∧ (Keep No h0 h' ∧ True) := by
  subst hFF
  suffices hs : ∃ e t' h',loopω [2,3,4,5,8,9,10,11,12,13,14,15,16,17,18,19,20,21,22,23,24,25,26,27,28,29,30,31,32,33,34,35,36,37,38,39,40,41] (aexecP Try.prog (sO 15) (run Try.prog sO) loopω pt15 (lb15 0)) t h0 = some (e,t',h') ∧ (e = .exit 0 ∧ ∃ x14 x15 x16 x17,t' = [.slice wa ws.length wc,.slice la n lc,Z,Z,Z,Z,U (chB ws l (n)),.int .i64 (n : Nat),Z,Z,Z,Z,Z,Z,x14,x15,x16,x17,Z,Z,Z,Z,Z,Z,Z,Z,Z,Z,Z,Z,Z,Z,Z,Z,Z,Z,Z,Z,Z,Z,Z,Z] ∧ (Keep No h0 h' ∧ True)) by
    obtain ⟨e,t',h',q1,rfl,x14,x15,x16,x17,rfl,q2⟩ := hs
    exact ⟨h',x14,x15,x16,x17,q1,q2⟩
  simp only [lb15,Try.f15,loopsOf,Option.getD_some,List.nil_append,List.append_nil,List.cons_append,List.getD_cons_zero,List.getD_cons_succ]
  refine loop_by (fun k t h' => ∃ (i : Nat),i + k = n ∧ forget [2,3,4,5,8,9,10,11,12,13,14,15,16,17,18,19,20,21,22,23,24,25,26,27,28,29,30,31,32,33,34,35,36,37,38,39,40,41] t = [.slice wa ws.length wc,.slice la n lc,Z,Z,Z,Z,U (chB ws l (i)),.int .i64 (i : Nat),Z,Z,Z,Z,Z,Z,Z,Z,Z,Z,Z,Z,Z,Z,Z,Z,Z,Z,Z,Z,Z,Z,Z,Z,Z,Z,Z,Z,Z,Z,Z,Z,Z,Z] ∧ (Keep No h0 h' ∧ True))
    (fun e t' h' => e = .exit 0 ∧ ∃ x14 x15 x16 x17,t' = [.slice wa ws.length wc,.slice la n lc,Z,Z,Z,Z,U (chB ws l (n)),.int .i64 (n : Nat),Z,Z,Z,Z,Z,Z,x14,x15,x16,x17,Z,Z,Z,Z,Z,Z,Z,Z,Z,Z,Z,Z,Z,Z,Z,Z,Z,Z,Z,Z,Z,Z,Z,Z] ∧ (Keep No h0 h' ∧ True)) ?_ (n) _ _ ⟨0,by omega,ht,hI0⟩
  rintro k t h' ⟨i,hi,ht,hI⟩
  rw [ht]
  rcases Nat.lt_or_ge i (n) with h1 | h1
  · obtain ⟨kp,_⟩ := hI
    have hinc := @inc64 i (by omega)
    have hcs := cast_succ i
    have hvk := hv.keep kp fun _ _ x => x
    have hlk := hl.keep kp fun _ _ x => x
    have hst : chB ws l (i + 1) = mulB (chB ws l i) (shB ws i (l.getD i (0,0)).1.toNat (l.getD i (0,0)).2.toNat) := rfl
    have hp := hok i (by omega)
    have hlt := chB_le hw hok i (by omega)
    obtain ⟨la,lc,C,ce,cs,gr,ro,eb,hgt,hf,hd,p1,p2⟩ := sl_pick hlk (show i < n by omega)
    simp only [Value.slice.injEq,true_and] at eb
    obtain ⟨rfl,rfl⟩ := eb
    generalize hq : l.getD i (0,0) = q at *
    obtain ⟨q1,q2⟩ := q
    simp only at p1 p2 hd hst hp
    obtain ⟨N,rfl⟩ : ∃ N : Nat,q1 = N := ⟨q1.toNat,by omega⟩
    obtain ⟨J,rfl⟩ : ∃ J : Nat,q2 = J := ⟨q2.toNat,by omega⟩
    rw [Int.toNat_natCast,Int.toNat_natCast] at hst
    have hJ : J < N := by omega
    have hsh := shB_le hw i hJ (show N ≤ 4096 by omega)
    
    obtain ⟨v2,hB,e2,l2,k2,n2⟩ := rshares_run (i : Int) (n := N) (by omega) (by omega) (by omega) hvk hw (by omega)
    have hgtB := k2.get hgt fun x => x
    have hll := sharesL_len ws i N
    have gg := sharesL_get (ws := ws) (turn := i) hJ
    have s2 := l2.sl
    obtain ⟨sa,sc,C2,ce2,cs2,gr2,ro2,eb,hg2,hc2⟩ := sl_u64 s2 (i := J) hJ
    subst eb
    rw [gg] at hc2
    obtain ⟨hC,e3,k3⟩ := mul_run (h := hB) (a := chB ws l i) (b := shB ws i N J) (by omega) (by omega)
    rw [← hst] at e3
    generalize hA : chB ws l (i + 1) = A' at *
    generalize chB ws l i = A at *
    generalize shB ws i N J = B at *
    simp (maxSteps := 2000000) -implicitDefEqProofs [ble_d,beq_d,List.range_succ,List.replicate,cond_true,cond_false,h1,Try.underlying33,Try.underlying22,aindexAddr,sz71,sz37,hgt,hgtB,p1,p2,fa71_0,fa71_1,en12,en40,e2,e3,hg2,hc2,hJ,hinc,undef]
    exact ⟨k - 1,by omega,i + 1,by omega,by simp (maxSteps := 2000000) only [forget,List.set_cons_succ,List.set_cons_zero,hcs,hA],(kp.trans k2).trans k3⟩
  · obtain rfl : i = n := by omega
    simp (maxSteps := 2000000) -implicitDefEqProofs [ble_d,beq_d,List.range_succ,List.replicate,cond_true,cond_false,undef]
    exact hI.1

set_option maxRecDepth 20000 in
theorem rchance_run {h : Heap} {v w : Value} {ws : List Nat} {l : List (Int × Int)} (hw : W64 ws) (kl : l.length * 8 ≤ 2 ^ 47) (kw : ws.length ≤ 2 ^ 47) (hv : Sl h v 1 ws.length (us ws)) (hl : Sl h w 2 l.length (picks l)) :
    ∃ h',run Try.prog sO 15 [v,w] h = some (.tuple #[U (if (smallB l && goodB l) = true then chB ws l l.length else 0),.int .i64 (if (smallB l && goodB l) = true then 0 else 2)],h') ∧ Keep No h h' := by
  have e1 := rgood39_run hl (by omega)
  obtain ⟨wa,wc,rfl⟩ := sl_form hv
  obtain ⟨la,lc,rfl⟩ := sl_form hl
  cases hg : (smallB l && goodB l)
  · rw [hg] at e1
    simp only [Bool.false_eq_true,if_false]
    refine ⟨h,run_finP pt15 Try.func15 rfl planned15 ?_,Keep.refl _ _⟩
    simp (maxSteps := 2000000) -implicitDefEqProofs [Try.f15,ble_d,beq_d,List.range_succ,List.replicate,cond_true,cond_false,en39,e1,undef]
  · rw [hg] at e1
    simp only [if_true]
    suffices hx : ∃ y,fin Try.prog Try.f15 (aexecP Try.prog (sO 15) (run Try.prog sO) loopω pt15 (Try.f15.body.getD .skip) ([.slice wa ws.length wc,.slice la l.length lc] ++ List.replicate (Try.f15.ntmps - 2) undef) h) = some y ∧ y.1 = .tuple #[U (chB ws l l.length),.int .i64 0] ∧ Keep No h y.2 by
      obtain ⟨⟨y1,y2⟩,hy,rfl,q⟩ := hx
      exact ⟨y2,run_finP pt15 Try.func15 rfl planned15 hy,q⟩
    have ei := @int_run h 1 (by omega) (by omega)
    rw [one_lit] at ei
    have ei' : run Try.prog sO 37 [.int .i64 1] h = some (U 4607182418800017408,h) := ei
    simp (maxSteps := 2000000) -implicitDefEqProofs [Try.f15,ble_d,beq_d,List.range_succ,List.replicate,cond_true,cond_false,en39,en37,e1,ei',sO15,undef]
    generalize hlp : loopω _ _ _ _ = r
    obtain ⟨h3,x14,x15,x16,x17,hx,kp,_⟩ := useX4 hlp (rch1 (h0 := h) (wa := wa) (la := la) (wc := wc) (lc := lc) (n := l.length) (ws := ws) (l := l) hw rfl (by omega) kw (okP_of hg) hv hl _ (by kernel_rfl) _ (by kernel_rfl) ⟨Keep.refl _ _,trivial⟩)
    subst hx
    simp (maxSteps := 2000000) -implicitDefEqProofs [ble_d,beq_d,List.range_succ,List.replicate,cond_true,cond_false]
    exact ⟨_,_,⟨rfl,rfl⟩,rfl,kp⟩
end Go.Proofs.Ytmnkmdfladbgdaa.Od
