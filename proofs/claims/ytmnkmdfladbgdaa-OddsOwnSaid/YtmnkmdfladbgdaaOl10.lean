/- Odds: Bits, Bit, natural. -/
import Derived.Test.YtmnkmdfladbgdaaOl4
set_option linter.unusedVariables false
set_option linter.unusedSimpArgs false
namespace Go.Proofs.Ytmnkmdfladbgdaa.Od
open Go Go.Proofs Go.RowKit Go.Proofs.YtmnkmdfladbgdaaAI Go.Proofs.YtmnkmdfladbgdaaFl

noncomputable def lb66 (i : Nat) : Code := (loopsOf (Try.f66.body.getD .skip)).getD i .skip
theorem getD_out {a : List Nat} {i : Nat} (h : a.length ≤ i) : a.getD i 0 = 0 := by rw [List.getD_eq_getElem?_getD,List.getElem?_eq_none h]; rfl
theorem quo32' {a s : Nat} (h : a / 4294967296 = s) (hs : s < 18446744073709551616) : IntKind.u64.wrap ((a : Int) / 4294967296) = (s : Int) := by
  have : (a : Int) / 4294967296 = ((a / 4294967296 : Nat) : Int) := by omega
  rw [this]; exact wu64 h hs
def cy (a b : List Nat) (i : Nat) : Nat := (nv a + nv b) / 4294967296 ^ i - nv a / 4294967296 ^ i - nv b / 4294967296 ^ i
set_option maxRecDepth 20000 in
set_option maxHeartbeats 6400000 in
theorem plus1 {h0 : Heap} {va vb : Option Addr} {vca vcb La Lb M : Nat} {a b : List Nat} (hLa : a.length = La) (hLb : b.length = Lb) (wa : W32 a) (wb : W32 b) (ka : La ≤ 1000) (kb : Lb ≤ 1000) (hM : M = max La Lb) (hva : Sl h0 (.slice va La vca) 1 La (u3 a)) (hvb : Sl h0 (.slice vb Lb vcb) 1 Lb (u3 b)) (v0 : Value) (F : Step) (hFF : F = aexecP Try.prog (sO 66) (run Try.prog sO) loopω pt66 (lb66 0)) (t : Tm)
    (ht : forget [2,3,4,8,9,10,11,12,13,14,15,16,17,18,19,20,21,22,23,24,25,26,27,28,29,30,31,32,33,34,35,36,37,38,39,40,41,42,43,44,45,46,47,48,49,50,51,52,53,54,55,56] t = [.slice va La vca,.slice vb Lb vcb,Z,Z,Z,v0,.int .u64 (cy a b (0) : Nat),.int .i64 (0 : Nat),Z,Z,Z,Z,Z,Z,Z,Z,Z,Z,Z,Z,Z,Z,Z,Z,Z,Z,Z,Z,Z,Z,Z,Z,Z,Z,Z,Z,Z,Z,Z,Z,Z,Z,Z,Z,Z,Z,Z,Z,Z,Z,Z,Z,Z,Z,Z,Z,Z]) (hI0 : (Lg h0 v0 101 1 (0) (u3 (dg (nv a + nv b) (0))) ∧ Keep No h0 h0 ∧ (∀ m,nm v0 = some m → h0.next ≤ m) ∧ (nv a + nv b) / 4294967296 ^ (0) = cy a b (0) + nv a / 4294967296 ^ (0) + nv b / 4294967296 ^ (0) ∧ cy a b (0) ≤ 1)) :
    ∃ h' v x8 x9 x10 x11 x12 x13 x14 x15 x16 x17,loopω [2,3,4,8,9,10,11,12,13,14,15,16,17,18,19,20,21,22,23,24,25,26,27,28,29,30,31,32,33,34,35,36,37,38,39,40,41,42,43,44,45,46,47,48,49,50,51,52,53,54,55,56] F t h0 = some (.exit 0,[.slice va La vca,.slice vb Lb vcb,Z,Z,Z,v,.int .u64 (cy a b (M) : Nat),.int .i64 (M : Nat),x8,x9,x10,x11,x12,x13,x14,x15,x16,x17,Z,Z,Z,Z,Z,Z,Z,Z,Z,Z,Z,Z,Z,Z,Z,Z,Z,Z,Z,Z,Z,Z,Z,Z,Z,Z,Z,Z,Z,Z,Z,Z,Z,Z,Z,Z,Z,Z,Z],h') ∧ (Lg h' v 101 1 (M) (u3 (dg (nv a + nv b) (M))) ∧ Keep No h0 h' ∧ (∀ m,nm v = some m → h0.next ≤ m) ∧ (nv a + nv b) / 4294967296 ^ (M) = cy a b (M) + nv a / 4294967296 ^ (M) + nv b / 4294967296 ^ (M) ∧ cy a b (M) ≤ 1) := by
  subst hFF
  suffices hs : ∃ e t' h',loopω [2,3,4,8,9,10,11,12,13,14,15,16,17,18,19,20,21,22,23,24,25,26,27,28,29,30,31,32,33,34,35,36,37,38,39,40,41,42,43,44,45,46,47,48,49,50,51,52,53,54,55,56] (aexecP Try.prog (sO 66) (run Try.prog sO) loopω pt66 (lb66 0)) t h0 = some (e,t',h') ∧ (e = .exit 0 ∧ ∃ v x8 x9 x10 x11 x12 x13 x14 x15 x16 x17,t' = [.slice va La vca,.slice vb Lb vcb,Z,Z,Z,v,.int .u64 (cy a b (M) : Nat),.int .i64 (M : Nat),x8,x9,x10,x11,x12,x13,x14,x15,x16,x17,Z,Z,Z,Z,Z,Z,Z,Z,Z,Z,Z,Z,Z,Z,Z,Z,Z,Z,Z,Z,Z,Z,Z,Z,Z,Z,Z,Z,Z,Z,Z,Z,Z,Z,Z,Z,Z,Z,Z] ∧ (Lg h' v 101 1 (M) (u3 (dg (nv a + nv b) (M))) ∧ Keep No h0 h' ∧ (∀ m,nm v = some m → h0.next ≤ m) ∧ (nv a + nv b) / 4294967296 ^ (M) = cy a b (M) + nv a / 4294967296 ^ (M) + nv b / 4294967296 ^ (M) ∧ cy a b (M) ≤ 1)) by
    obtain ⟨e,t',h',q1,rfl,v,x8,x9,x10,x11,x12,x13,x14,x15,x16,x17,rfl,q2⟩ := hs
    exact ⟨h',v,x8,x9,x10,x11,x12,x13,x14,x15,x16,x17,q1,q2⟩
  simp only [lb66,Try.f66,loopsOf,Option.getD_some,List.nil_append,List.append_nil,List.cons_append,List.getD_cons_zero,List.getD_cons_succ]
  refine loop_by (fun k t h' => ∃ (i : Nat) (v : Value),i + k = M ∧ forget [2,3,4,8,9,10,11,12,13,14,15,16,17,18,19,20,21,22,23,24,25,26,27,28,29,30,31,32,33,34,35,36,37,38,39,40,41,42,43,44,45,46,47,48,49,50,51,52,53,54,55,56] t = [.slice va La vca,.slice vb Lb vcb,Z,Z,Z,v,.int .u64 (cy a b (i) : Nat),.int .i64 (i : Nat),Z,Z,Z,Z,Z,Z,Z,Z,Z,Z,Z,Z,Z,Z,Z,Z,Z,Z,Z,Z,Z,Z,Z,Z,Z,Z,Z,Z,Z,Z,Z,Z,Z,Z,Z,Z,Z,Z,Z,Z,Z,Z,Z,Z,Z,Z,Z,Z,Z] ∧ (Lg h' v 101 1 (i) (u3 (dg (nv a + nv b) (i))) ∧ Keep No h0 h' ∧ (∀ m,nm v = some m → h0.next ≤ m) ∧ (nv a + nv b) / 4294967296 ^ (i) = cy a b (i) + nv a / 4294967296 ^ (i) + nv b / 4294967296 ^ (i) ∧ cy a b (i) ≤ 1))
    (fun e t' h' => e = .exit 0 ∧ ∃ v x8 x9 x10 x11 x12 x13 x14 x15 x16 x17,t' = [.slice va La vca,.slice vb Lb vcb,Z,Z,Z,v,.int .u64 (cy a b (M) : Nat),.int .i64 (M : Nat),x8,x9,x10,x11,x12,x13,x14,x15,x16,x17,Z,Z,Z,Z,Z,Z,Z,Z,Z,Z,Z,Z,Z,Z,Z,Z,Z,Z,Z,Z,Z,Z,Z,Z,Z,Z,Z,Z,Z,Z,Z,Z,Z,Z,Z,Z,Z,Z,Z] ∧ (Lg h' v 101 1 (M) (u3 (dg (nv a + nv b) (M))) ∧ Keep No h0 h' ∧ (∀ m,nm v = some m → h0.next ≤ m) ∧ (nv a + nv b) / 4294967296 ^ (M) = cy a b (M) + nv a / 4294967296 ^ (M) + nv b / 4294967296 ^ (M) ∧ cy a b (M) ≤ 1)) ?_ (M) _ _ ⟨0,_,by omega,ht,hI0⟩
  rintro k t h' ⟨i,v,hi,ht,hI⟩
  rw [ht]
  rcases Nat.lt_or_ge i (M) with h1 | h1
  · obtain ⟨lg,kp,nw,hc1,hc2⟩ := hI
    have hinc := @inc64 i (by omega)
    have hcs := cast_succ i
    have hak := hva.keep kp fun _ _ x => x
    have hbk := hvb.keep kp fun _ _ x => x
    obtain ⟨p1,p2,p3⟩ := plus_step wa wb hc1 hc2
    have lga : a.getD i 0 < 4294967296 := wa.get i
    have lgb : b.getD i 0 < 4294967296 := wb.get i
    have hcy : cy a b (i + 1) = (cy a b i + a.getD i 0 + b.getD i 0) / 4294967296 := by
      have hd : cy a b (i + 1) = (nv a + nv b) / 4294967296 ^ (i + 1) - nv a / 4294967296 ^ (i + 1) - nv b / 4294967296 ^ (i + 1) := rfl
      omega
    have q1 : (nv a + nv b) / 4294967296 ^ (i + 1) = cy a b (i + 1) + nv a / 4294967296 ^ (i + 1) + nv b / 4294967296 ^ (i + 1) := by rw [hcy]; exact p3
    have q2 : cy a b (i + 1) ≤ 1 := by rw [hcy]; exact p2
    have hdl := dg_len (nv a + nv b) i
    have lg' : Lg h' v 101 1 (dg (nv a + nv b) i).length (u3 (dg (nv a + nv b) i)) := by rw [hdl]; exact lg
    obtain ⟨v8,h8,e8,lg8,kp8,nv8⟩ := app_u3 lg' (by omega) ((nv a + nv b) / 4294967296 ^ i % 4294967296)
    have kk := kp.also kp8 fun m hm x => by have := nw m x; omega
    have nn : ∀ m,nm v8 = some m → h0.next ≤ m := fun m e => by
      rcases nv8 m e with y | y
      · exact nw m y
      · have := kp.1; omega
    rw [← dg_succ,dg_len] at lg8
    have ga : a.length ≤ i → a.getD i 0 = 0 := getD_out
    have gb : b.length ≤ i → b.getD i 0 = 0 := getD_out
    rw [← p1] at e8
    by_cases i1 : i < La
    · by_cases i2 : i < Lb
      · obtain ⟨va,vca,C,ce,cs,gr,ro,eb,hg,hc⟩ := sl_u3 hak i1
        simp only [Value.slice.injEq,true_and] at eb
        obtain ⟨rfl,rfl⟩ := eb
        obtain ⟨vb,vcb,C2,ce2,cs2,gr2,ro2,eb,hg2,hc22⟩ := sl_u3 hbk i2
        simp only [Value.slice.injEq,true_and] at eb
        obtain ⟨rfl,rfl⟩ := eb
        generalize hxa : a.getD i 0 = x at *
        generalize hxb : b.getD i 0 = y at *
        generalize hcc : cy a b i = c at *
        obtain ⟨s2,hs2⟩ : ∃ s,c + x + y = s := ⟨_,rfl⟩
        obtain ⟨d,hd⟩ : ∃ d,s2 % 4294967296 = d := ⟨_,rfl⟩
        obtain ⟨c',hc'⟩ : ∃ d,s2 / 4294967296 = d := ⟨_,rfl⟩
        rw [hs2,hc'] at hcy
        rw [hs2,hd] at e8
        have w3 := mod32 hd
        have w4 := wu32 (a := d) rfl (by omega)
        have w5 := quo32' hc' (by omega)
        obtain ⟨s1,hs1⟩ : ∃ s,c + x = s := ⟨_,rfl⟩
        have w0 := wu64 (a := x) rfl (by omega)
        have w0' := wu64 (a := y) rfl (by omega)
        have w1 := au64 hs1 (by omega)
        have w2 := au64 (show s1 + y = s2 by omega) (by omega)
        simp (maxSteps := 2000000) -implicitDefEqProofs [ble_d,beq_d,List.range_succ,List.replicate,cond_true,cond_false,i1,i2,w0,w0',w1,w2,hg,hc,hg2,hc22,aindexAddr,sz101,Try.underlying40,cv101_37,cv37_101,w3,w4,w5,(fun ρ z hz => bs40_1 ρ z (d : Int) hz),e8,hinc,undef]
        exact ⟨k - 1,by omega,i + 1,by omega,v8,by simp (maxSteps := 2000000) only [forget,List.set_cons_succ,List.set_cons_zero,hcs,hcy],lg8,kk,nn,q1,q2⟩
      · obtain ⟨va,vca,C,ce,cs,gr,ro,eb,hg,hc⟩ := sl_u3 hak i1
        simp only [Value.slice.injEq,true_and] at eb
        obtain ⟨rfl,rfl⟩ := eb
        have z0 := gb (by omega)
        generalize hxa : a.getD i 0 = x at *
        generalize hxb : b.getD i 0 = y at *
        generalize hcc : cy a b i = c at *
        obtain ⟨s2,hs2⟩ : ∃ s,c + x + y = s := ⟨_,rfl⟩
        obtain ⟨d,hd⟩ : ∃ d,s2 % 4294967296 = d := ⟨_,rfl⟩
        obtain ⟨c',hc'⟩ : ∃ d,s2 / 4294967296 = d := ⟨_,rfl⟩
        rw [hs2,hc'] at hcy
        rw [hs2,hd] at e8
        have w3 := mod32 hd
        have w4 := wu32 (a := d) rfl (by omega)
        have w5 := quo32' hc' (by omega)
        have w0 := wu64 (a := x) rfl (by omega)
        have w1 := au64 (show c + x = s2 by omega) (by omega)
        simp (maxSteps := 2000000) -implicitDefEqProofs [ble_d,beq_d,List.range_succ,List.replicate,cond_true,cond_false,i1,i2,w0,w1,hg,hc,aindexAddr,sz101,Try.underlying40,cv101_37,cv37_101,w3,w4,w5,(fun ρ z hz => bs40_1 ρ z (d : Int) hz),e8,hinc,undef]
        exact ⟨k - 1,by omega,i + 1,by omega,v8,by simp (maxSteps := 2000000) only [forget,List.set_cons_succ,List.set_cons_zero,hcs,hcy],lg8,kk,nn,q1,q2⟩
    · have i2 : i < Lb := by omega
      obtain ⟨vb,vcb,C2,ce2,cs2,gr2,ro2,eb,hg2,hc22⟩ := sl_u3 hbk i2
      simp only [Value.slice.injEq,true_and] at eb
      obtain ⟨rfl,rfl⟩ := eb
      have z0 := ga (by omega)
      generalize hxa : a.getD i 0 = x at *
      generalize hxb : b.getD i 0 = y at *
      generalize hcc : cy a b i = c at *
      obtain ⟨s2,hs2⟩ : ∃ s,c + x + y = s := ⟨_,rfl⟩
      obtain ⟨d,hd⟩ : ∃ d,s2 % 4294967296 = d := ⟨_,rfl⟩
      obtain ⟨c',hc'⟩ : ∃ d,s2 / 4294967296 = d := ⟨_,rfl⟩
      rw [hs2,hc'] at hcy
      rw [hs2,hd] at e8
      have w3 := mod32 hd
      have w4 := wu32 (a := d) rfl (by omega)
      have w5 := quo32' hc' (by omega)
      have w0 := wu64 (a := y) rfl (by omega)
      have w1 := au64 (show c + y = s2 by omega) (by omega)
      simp (maxSteps := 2000000) -implicitDefEqProofs [ble_d,beq_d,List.range_succ,List.replicate,cond_true,cond_false,i1,i2,w0,w1,hg2,hc22,aindexAddr,sz101,Try.underlying40,cv101_37,cv37_101,w3,w4,w5,(fun ρ z hz => bs40_1 ρ z (d : Int) hz),e8,hinc,undef]
      exact ⟨k - 1,by omega,i + 1,by omega,v8,by simp (maxSteps := 2000000) only [forget,List.set_cons_succ,List.set_cons_zero,hcs,hcy],lg8,kk,nn,q1,q2⟩
  · obtain rfl : i = M := by omega
    have i1 : ¬ i < La := by omega
    have i2 : ¬ i < Lb := by omega
    simp (maxSteps := 2000000) -implicitDefEqProofs [ble_d,beq_d,List.range_succ,List.replicate,cond_true,cond_false,i1,i2,undef]
    exact hI

theorem plus_run {h : Heap} {v w : Value} {a b : List Nat} (ha : Na h v a) (hb : Na h w b) (ka : a.length ≤ 900) (kb : b.length ≤ 900) : ∃ v' h',run Try.prog sO 66 [v,w] h = some (v',h') ∧ Nt h h' v' (nv a + nv b) ∧ (lm (nv a + nv b)).length ≤ max a.length b.length + 1 := by
  obtain ⟨hv,wa,_⟩ := ha
  obtain ⟨hv2,wb,_⟩ := hb
  obtain ⟨va,vca,rfl⟩ := sl_form hv
  obtain ⟨vb,vcb,rfl⟩ := sl_form hv2
  obtain ⟨M,hM⟩ : ∃ M,M = max a.length b.length := ⟨_,rfl⟩
  have hz : cy a b 0 = 0 := by unfold cy; simp
  suffices hx : ∃ y,fin Try.prog Try.f66 (aexecP Try.prog (sO 66) (run Try.prog sO) loopω pt66 (Try.f66.body.getD .skip) ([.slice va a.length vca,.slice vb b.length vcb] ++ List.replicate (Try.f66.ntmps - 2) undef) h) = some y ∧ Nt h y.2 y.1 (nv a + nv b) ∧ (lm (nv a + nv b)).length ≤ M + 1 by
    obtain ⟨⟨y1,y2⟩,hy,q⟩ := hx
    exact ⟨y1,y2,run_finP pt66 Try.func66 rfl planned66 hy,q.1,by rw [← hM]; exact q.2⟩
  simp (maxSteps := 2000000) -implicitDefEqProofs [Try.f66,ble_d,beq_d,List.range_succ,List.replicate,cond_true,cond_false,Try.underlying40,sO66]
  generalize hl : loopω _ _ _ _ = r
  obtain ⟨hA,v5,x8,x9,x10,x11,x12,x13,x14,x15,x16,x17,hx,lg,kp,nw,hc1,hc2⟩ := useX11 hl (plus1 (h0 := h) (va := va) (vb := vb) (vca := vca) (vcb := vcb) (La := a.length) (Lb := b.length) (M := M) (a := a) (b := b) rfl rfl wa wb (by omega) (by omega) hM hv hv2 _ _ (by kernel_rfl) _ (by rw [hz]; kernel_rfl) ⟨Lg.nil _ _ _,Keep.refl _ _,fun m e => (by cases e),by rw [hz]; simp,by rw [hz]; omega⟩)
  subst hx
  clear hl
  have hnA := nv_div_len wa (i := M) (by omega)
  have hnB := nv_div_len wb (i := M) (by omega)
  rw [hnA,hnB] at hc1
  simp only [Nat.add_zero] at hc1
  have hdl := dg_len (nv a + nv b) M
  have lg' : Lg hA v5 101 1 (dg (nv a + nv b) M).length (u3 (dg (nv a + nv b) M)) := by rw [hdl]; exact lg
  obtain ⟨v8,h8,e8,lg8,kp8,nv8⟩ := app_u3 lg' (by omega) (cy a b M)
  have hdd : dg (nv a + nv b) M ++ [cy a b M] = dg (nv a + nv b) (M + 1) := by rw [dg_succ,hc1,Nat.mod_eq_of_lt (by omega)]
  rw [hdd,dg_len] at lg8
  have kk := kp.also kp8 fun m hm x => by have := nw m x; omega
  have hna : Na h8 v8 (dg (nv a + nv b) (M + 1)) := ⟨by rw [dg_len]; exact lg8.sl,dg_w _ _,by rw [dg_len]; omega⟩
  obtain ⟨v9,h9,e9,n9,k9⟩ := trim_run hna
  have hval : nv (dg (nv a + nv b) (M + 1)) = nv a + nv b := by
    rw [nv_dg,Nat.mod_eq_of_lt]
    have h1 := Nat.div_add_mod (nv a + nv b) (4294967296 ^ M)
    have h2 := Nat.mod_lt (nv a + nv b) (Nat.pow_pos (n := M) (show 0 < 4294967296 by omega))
    rw [hc1] at h1
    rw [Nat.pow_succ]
    generalize 4294967296 ^ M = P at *
    have : P * cy a b M ≤ P * 1 := Nat.mul_le_mul_left P hc2
    omega
  rw [hval] at n9 k9
  rw [dg_len] at k9
  generalize cy a b M = c at *
  have w4 := wu32 (a := c) rfl (by omega)
  simp (maxSteps := 2000000) -implicitDefEqProofs [ble_d,beq_d,List.range_succ,List.replicate,cond_true,cond_false,cv37_101,w4,(fun ρ z hz => bs40_1 ρ z (c : Int) hz),e8,Try.underlying40,en85,e9]
  exact ⟨_,_,⟨rfl,rfl⟩,⟨n9.1,kk.trans n9.2.1,fun m e => by have := n9.2.2 m e; have := kk.1; omega⟩,k9⟩
end Go.Proofs.Ytmnkmdfladbgdaa.Od

set_option linter.unusedVariables false
set_option linter.unusedSimpArgs false
namespace Go.Proofs.Ytmnkmdfladbgdaa.Od
open Go Go.Proofs Go.RowKit Go.Proofs.YtmnkmdfladbgdaaAI Go.Proofs.YtmnkmdfladbgdaaFl

noncomputable def lb61 (i : Nat) : Code := (loopsOf (Try.f61.body.getD .skip)).getD i .skip
/-- Appending to a slice that is full. -/
theorem append_full {P : Program} {t xt e : TypeId} {d : TypeDesc} {sz bts : Nat} (ht : P.underlying t = some (.slice e)) (hxt : P.underlying xt = some d) (hd : appends d = true) (hE : elTyB P e sz bts = true)
    {h : Heap} {x : Value} {m k j : Nat} {cs ds : List Value} (hv : Sl h (.slice (some ⟨m,0,none⟩) k k) sz k cs) (hx : Sl h x sz j ds) (hb : (k + j) * bts ≤ 2 ^ 47) (hb2 : k + j ≤ 2 ^ 47) (hj : 0 < j) :
    ∃ v' h',aappend P t xt (.slice (some ⟨m,0,none⟩) k k) x h = some (v',h') ∧ Lg h' v' e sz (k + j) (cs ++ ds) ∧ Keep No h h' ∧ ∀ m,nm v' = some m → h.next ≤ m := by
  obtain ⟨i,z,hi,hz,hp,hzc,hz1,hsz,hby,h0⟩ := elTy hE
  subst hsz hby
  have hb0 : Nat.blt 0 i.size = true := blt_t h0
  have hzb : Nat.beq z.cells.size i.size = true := by rw [hzc]; exact beq_refl' _
  have hcond : (Nat.blt 0 i.size && plain z && Nat.beq z.cells.size i.size && z.cells.toList.all one) = true := by rw [hb0,hp,hzb,hz1]; rfl
  have hE' : ∀ r,aappendE P e (.slice (some ⟨m,0,none⟩) k k) x h = r → aappend P t xt (.slice (some ⟨m,0,none⟩) k k) x h = r := fun r hr => by
    unfold aappend; rw [ht,hxt]; simp only [hd,cond_true]; exact hr
  have hxa := hx.acells h0
  have hva := hv.acells h0
  have hjb := beq_pos hj
  have hbb : (Nat.ble ((k + j) * i.bytes) (2 ^ 47) && Nat.ble (k + j) (2 ^ 47)) = true := by rw [ble_t hb,ble_t hb2]; rfl
  refine ⟨.slice (some ⟨h.next,0,some 0⟩) (k + j) i.size,h.new (.cells (cs ++ ds) e i.size true false),hE' _ ?_,⟨by rw [List.length_append,hv.1,hx.1,Nat.add_mul],.inr ⟨h.next,by omega,rfl,by rw [Heap.get_new,if_pos rfl]⟩⟩,Keep.new _ _ _,fun m e => by have := (nm_eq e).2; simp only at this; omega⟩
  unfold aappendE
  rw [hi]
  simp only [hz,hxa,hcond,cond_true,hjb,cond_false,hbb,hva]
  rw [ble_f (show k < k + j by omega)]
  rfl

def Gs (h0 h : Heap) (v : Value) (l : List Nat) : Prop := (Lg h v 101 1 l.length (u3 l) ∧ ∀ m,nm v = some m → h0.next ≤ m) ∨ (∃ m,v = .slice (some ⟨m,0,none⟩) l.length l.length ∧ Sl h v 1 l.length (u3 l))
theorem app_g {h0 h : Heap} {v : Value} {l : List Nat} (hv : Gs h0 h v l) (kp : Keep No h0 h) (hk : l.length + 1 ≤ 100000) (x : Nat) :
    ∃ v' h',aappend Try.prog 40 40 v (.slice (some ⟨h.next,0,none⟩) 1 1) (h.new (.cells [.int .u32 (x : Nat)] 101 1 false false)) = some (v',h') ∧ Lg h' v' 101 1 (l ++ [x]).length (u3 (l ++ [x])) ∧ Keep No h0 h' ∧ ∀ m,nm v' = some m → h0.next ≤ m := by
  rcases hv with ⟨lg,nw⟩ | ⟨m,rfl,hs⟩
  · obtain ⟨v8,h8,e8,lg8,kp8,nv8⟩ := app_u3 lg hk x
    refine ⟨v8,h8,e8,lg8,kp.also kp8 fun m hm y => (by have := nw m y; omega),fun m e => ?_⟩
    rcases nv8 m e with y | y
    · exact nw m y
    · have := kp.1; omega
  · have k0 := Keep.new No h (.cells [.int .u32 (x : Nat)] 101 1 false false)
    have hx : Sl (h.new (.cells [.int .u32 (x : Nat)] 101 1 false false)) (.slice (some ⟨h.next,0,none⟩) 1 1) 1 1 [.int .u32 (x : Nat)] :=
      ⟨rfl,.inr ⟨_,_,rfl,fun _ => ⟨_,_,_,_,_,by rw [Heap.get_new,if_pos rfl],rfl⟩⟩⟩
    obtain ⟨v8,h8,e8,lg8,kp8,nv8⟩ := append_full (t := 40) (xt := 40) Try.underlying40 Try.underlying40 rfl el101 (hs.keep k0 (fun _ _ x => x)) hx (by omega) (by omega) (by omega)
    exact ⟨v8,h8,e8,by rw [u3_snoc,List.length_append]; exact lg8,(kp.trans k0).trans kp8,fun m e => by have := nv8 m e; have := kp.1; rw [Heap.next_new] at *; omega⟩
def sy (a : List Nat) (s i : Nat) : Nat := nv a * 2 ^ s / 4294967296 ^ i - nv a / 4294967296 ^ i * 2 ^ s
theorem zr101 : (Try.prog.info? 101).bind (fun i => i.zero) = some (.int .u32 0) := by kernel_rfl
theorem ms40 (ρ : Operand → Value) (a b : Operand) (k : Nat) (ha : ρ a = .int .i64 k) (hb : ρ b = .int .i64 k) (hk : k * 4 ≤ 2 ^ 47) (d ty pos af gu) :
    aalloc Try.prog ρ ⟨d,.makeSlice 40 a b,ty,pos,af,gu⟩ = some (.cells (u3 (List.replicate k 0)) 101 1 false false,fun n => .slice (some ⟨n,0,none⟩) k k) := by
  obtain ⟨i,z,hi,hz,hp,hzc,hz1,hsz,hby,h0⟩ := elTy el101
  have hzz := zr101
  rw [hi] at hzz
  simp only [Option.bind_some,hz,Option.some.injEq] at hzz
  subst hzz
  unfold aalloc
  simp only [ha,hb,Try.underlying40,hi,hz,hsz,hby]
  have : (bif plain (Value.int .u32 0) && Nat.beq (Value.int .u32 0).cells.size 1 && (Value.int .u32 0).cells.toList.all one && Nat.blt 0 1 then (1 : Nat) else 0) = 1 := by kernel_rfl
  have hr : u3 (List.replicate k 0) = List.replicate k (Value.int .u32 0) := by simp [u3]
  rw [hr]
  simp [plain,plainN,one,Value.cells,beq_d,Nat.blt,ble_d]
  omega
set_option maxRecDepth 20000 in
set_option maxHeartbeats 6400000 in
theorem shl1 {h0 : Heap} {va : Option Addr} {vca La n z s : Nat} {a : List Nat} (hLa : a.length = La) (wa : W32 a) (ka : La ≤ 1000) (hn : n ≤ 10000) (hz : z = n / 32) (hs : s = n % 32) (hva : Sl h0 (.slice va La vca) 1 La (u3 a)) (v0 : Value) (F : Step) (hFF : F = aexecP Try.prog (sO 61) (run Try.prog sO) loopω pt61 (lb61 0)) (t : Tm)
    (ht : forget [2,3,4,8,9,10,11,12,13,14,15,16,17,18,19,20,21,22,23,24,25,26,27,28,29,30,31,32,33,34,35,36,37,38,39,40,41,42,43] t = [.slice va La vca,.int .i64 (n : Nat),Z,Z,Z,v0,.int .u64 (sy a s (0) : Nat),.int .i64 (0 : Nat),Z,Z,Z,Z,Z,Z,Z,Z,Z,Z,Z,Z,Z,Z,Z,Z,Z,Z,Z,Z,Z,Z,Z,Z,Z,Z,Z,Z,Z,Z,Z,Z,Z,Z,Z,Z]) (hI0 : (Gs h0 h0 v0 (List.replicate z 0 ++ dg (nv a * 2 ^ s) (0)) ∧ Keep No h0 h0 ∧ nv a * 2 ^ s / 4294967296 ^ (0) = sy a s (0) + nv a / 4294967296 ^ (0) * 2 ^ s ∧ sy a s (0) < 2 ^ s)) :
    ∃ h' v x12 x13 x14 x15,loopω [2,3,4,8,9,10,11,12,13,14,15,16,17,18,19,20,21,22,23,24,25,26,27,28,29,30,31,32,33,34,35,36,37,38,39,40,41,42,43] F t h0 = some (.exit 0,[.slice va La vca,.int .i64 (n : Nat),Z,Z,Z,v,.int .u64 (sy a s (La) : Nat),.int .i64 (La : Nat),Z,Z,Z,Z,x12,x13,x14,x15,Z,Z,Z,Z,Z,Z,Z,Z,Z,Z,Z,Z,Z,Z,Z,Z,Z,Z,Z,Z,Z,Z,Z,Z,Z,Z,Z,Z],h') ∧ (Gs h0 h' v (List.replicate z 0 ++ dg (nv a * 2 ^ s) (La)) ∧ Keep No h0 h' ∧ nv a * 2 ^ s / 4294967296 ^ (La) = sy a s (La) + nv a / 4294967296 ^ (La) * 2 ^ s ∧ sy a s (La) < 2 ^ s) := by
  subst hFF
  suffices hs : ∃ e t' h',loopω [2,3,4,8,9,10,11,12,13,14,15,16,17,18,19,20,21,22,23,24,25,26,27,28,29,30,31,32,33,34,35,36,37,38,39,40,41,42,43] (aexecP Try.prog (sO 61) (run Try.prog sO) loopω pt61 (lb61 0)) t h0 = some (e,t',h') ∧ (e = .exit 0 ∧ ∃ v x12 x13 x14 x15,t' = [.slice va La vca,.int .i64 (n : Nat),Z,Z,Z,v,.int .u64 (sy a s (La) : Nat),.int .i64 (La : Nat),Z,Z,Z,Z,x12,x13,x14,x15,Z,Z,Z,Z,Z,Z,Z,Z,Z,Z,Z,Z,Z,Z,Z,Z,Z,Z,Z,Z,Z,Z,Z,Z,Z,Z,Z,Z] ∧ (Gs h0 h' v (List.replicate z 0 ++ dg (nv a * 2 ^ s) (La)) ∧ Keep No h0 h' ∧ nv a * 2 ^ s / 4294967296 ^ (La) = sy a s (La) + nv a / 4294967296 ^ (La) * 2 ^ s ∧ sy a s (La) < 2 ^ s)) by
    obtain ⟨e,t',h',q1,rfl,v,x12,x13,x14,x15,rfl,q2⟩ := hs
    exact ⟨h',v,x12,x13,x14,x15,q1,q2⟩
  simp only [lb61,Try.f61,loopsOf,Option.getD_some,List.nil_append,List.append_nil,List.cons_append,List.getD_cons_zero,List.getD_cons_succ]
  refine loop_by (fun k t h' => ∃ (i : Nat) (v : Value),i + k = La ∧ forget [2,3,4,8,9,10,11,12,13,14,15,16,17,18,19,20,21,22,23,24,25,26,27,28,29,30,31,32,33,34,35,36,37,38,39,40,41,42,43] t = [.slice va La vca,.int .i64 (n : Nat),Z,Z,Z,v,.int .u64 (sy a s (i) : Nat),.int .i64 (i : Nat),Z,Z,Z,Z,Z,Z,Z,Z,Z,Z,Z,Z,Z,Z,Z,Z,Z,Z,Z,Z,Z,Z,Z,Z,Z,Z,Z,Z,Z,Z,Z,Z,Z,Z,Z,Z] ∧ (Gs h0 h' v (List.replicate z 0 ++ dg (nv a * 2 ^ s) (i)) ∧ Keep No h0 h' ∧ nv a * 2 ^ s / 4294967296 ^ (i) = sy a s (i) + nv a / 4294967296 ^ (i) * 2 ^ s ∧ sy a s (i) < 2 ^ s))
    (fun e t' h' => e = .exit 0 ∧ ∃ v x12 x13 x14 x15,t' = [.slice va La vca,.int .i64 (n : Nat),Z,Z,Z,v,.int .u64 (sy a s (La) : Nat),.int .i64 (La : Nat),Z,Z,Z,Z,x12,x13,x14,x15,Z,Z,Z,Z,Z,Z,Z,Z,Z,Z,Z,Z,Z,Z,Z,Z,Z,Z,Z,Z,Z,Z,Z,Z,Z,Z,Z,Z] ∧ (Gs h0 h' v (List.replicate z 0 ++ dg (nv a * 2 ^ s) (La)) ∧ Keep No h0 h' ∧ nv a * 2 ^ s / 4294967296 ^ (La) = sy a s (La) + nv a / 4294967296 ^ (La) * 2 ^ s ∧ sy a s (La) < 2 ^ s)) ?_ (La) _ _ ⟨0,_,by omega,ht,hI0⟩
  rintro k t h' ⟨i,v,hi,ht,hI⟩
  rw [ht]
  rcases Nat.lt_or_ge i (La) with h1 | h1
  · obtain ⟨lg,kp,hc1,hc2⟩ := hI
    have hinc := @inc64 i (by omega)
    have hcs := cast_succ i
    have hak := hva.keep kp fun _ _ x => x
    have hs32 : s < 32 := by omega
    obtain ⟨p1,p2,p3⟩ := shl_step wa hs32 hc1 hc2
    have lga : a.getD i 0 < 4294967296 := wa.get i
    have hcy : sy a s (i + 1) = (a.getD i 0 * 2 ^ s + sy a s i) / 4294967296 := by
      have hd : sy a s (i + 1) = nv a * 2 ^ s / 4294967296 ^ (i + 1) - nv a / 4294967296 ^ (i + 1) * 2 ^ s := rfl
      rw [p3] at hd; omega
    have q1 : nv a * 2 ^ s / 4294967296 ^ (i + 1) = sy a s (i + 1) + nv a / 4294967296 ^ (i + 1) * 2 ^ s := by rw [hcy]; exact p3
    have q2 : sy a s (i + 1) < 2 ^ s := by rw [hcy]; exact p2
    obtain ⟨v8,h8,e8,lg8,kk,nn⟩ := app_g lg kp (by rw [List.length_append,List.length_replicate,dg_len]; omega) (nv a * 2 ^ s / 4294967296 ^ i % 4294967296)
    rw [List.append_assoc,← dg_succ] at lg8
    rw [← p1] at e8
    have h2s : 2 ^ s ≤ 2 ^ 31 := Nat.pow_le_pow_right (by omega) (by omega)
    have hmul : a.getD i 0 * 2 ^ s ≤ 4294967295 * 2 ^ 31 := Nat.mul_le_mul (by omega) h2s
    obtain ⟨va,vca,C,ce,cs,gr,ro,eb,hg,hc⟩ := sl_u3 hak h1
    simp only [Value.slice.injEq,true_and] at eb
    obtain ⟨rfl,rfl⟩ := eb
    generalize hxa : a.getD i 0 = x at *
    generalize hcc : sy a s i = c at *
    obtain ⟨s1,hs1⟩ : ∃ y,x * 2 ^ s = y := ⟨_,rfl⟩
    obtain ⟨s2,hs2⟩ : ∃ y,s1 + c = y := ⟨_,rfl⟩
    have hs12 : x * 2 ^ s + c = s2 := by omega
    obtain ⟨d,hd⟩ : ∃ d,s2 % 4294967296 = d := ⟨_,rfl⟩
    obtain ⟨c',hc'⟩ : ∃ d,s2 / 4294967296 = d := ⟨_,rfl⟩
    rw [hs12,hc'] at hcy
    rw [hs12,hd] at e8
    have m1 : (n : Int).tmod 32 = (s : Int) := by rw [hs]; rfl
    have m1' : (n : Int) % 32 = (s : Int) := by omega
    have w0 := wu64 (a := x) rfl (by omega)
    have w1 := wu64 (a := s) rfl (by omega)
    have w2 := shl64 (a := x) (k := s) hs1 (by omega) (by omega)
    have w3 := au64 hs2 (by omega)
    have w4 := mod32 hd
    have w5 := wu32 (a := d) rfl (by omega)
    have w6 := quo32' hc' (by omega)
    simp (maxSteps := 2000000) -implicitDefEqProofs [ble_d,beq_d,List.range_succ,List.replicate,cond_true,cond_false,h1,hg,hc,m1,m1',w0,w1,w2,w3,w4,w5,w6,shl37,aindexAddr,sz101,Try.underlying40,cv101_37,cv37_101,cv3_117,(fun ρ z hz => bs40_1 ρ z (d : Int) hz),e8,hinc,undef]
    exact ⟨k - 1,by omega,i + 1,by omega,v8,by simp (maxSteps := 2000000) only [forget,List.set_cons_succ,List.set_cons_zero,hcs,hcy],.inl ⟨lg8,nn⟩,kk,q1,q2⟩
  · obtain rfl : i = La := by omega
    simp (maxSteps := 2000000) -implicitDefEqProofs [ble_d,beq_d,List.range_succ,List.replicate,cond_true,cond_false,undef]
    exact hI

theorem shl_run {h : Heap} {v : Value} {a : List Nat} (n : Nat) (ha : Na h v a) (hn : n ≤ 10000) (hb : n / 32 + a.length ≤ 900) : ∃ v' h',run Try.prog sO 61 [v,.int .i64 (n : Nat)] h = some (v',h') ∧ Nt h h' v' (nv a * 2 ^ n) ∧ (lm (nv a * 2 ^ n)).length ≤ n / 32 + a.length + 1 := by
  obtain ⟨hv,wa,ka⟩ := ha
  obtain ⟨va,vca,rfl⟩ := sl_form hv
  obtain ⟨z,hz⟩ : ∃ z,z = n / 32 := ⟨_,rfl⟩
  obtain ⟨s,hs⟩ : ∃ s,s = n % 32 := ⟨_,rfl⟩
  have hy0 : sy a s 0 = 0 := by unfold sy; simp
  suffices hx : ∃ y,fin Try.prog Try.f61 (aexecP Try.prog (sO 61) (run Try.prog sO) loopω pt61 (Try.f61.body.getD .skip) ([.slice va a.length vca,.int .i64 (n : Nat)] ++ List.replicate (Try.f61.ntmps - 2) undef) h) = some y ∧ Nt h y.2 y.1 (nv a * 2 ^ n) ∧ (lm (nv a * 2 ^ n)).length ≤ z + a.length + 1 by
    obtain ⟨⟨y1,y2⟩,hy,q⟩ := hx
    exact ⟨y1,y2,run_finP pt61 Try.func61 rfl planned61 hy,by rw [← hz]; exact q⟩
  have hms := fun ρ x y hx hy => ms40 ρ x y z hx hy (by omega)
  have d1 : IntKind.i64.wrap ((n : Int).tdiv 32) = (z : Int) := by
    have : (n : Int).tdiv 32 = ((n / 32 : Nat) : Int) := rfl
    rw [this]; exact wi64 hz.symm (by omega)
  have d1' : IntKind.i64.wrap ((n : Int) / 32) = (z : Int) := by
    have : (n : Int) / 32 = ((n / 32 : Nat) : Int) := by omega
    rw [this]; exact wi64 hz.symm (by omega)
  have k0 := Keep.new No h (.cells (u3 (List.replicate z 0)) 101 1 false false)
  have g0 : (h.new (.cells (u3 (List.replicate z 0)) 101 1 false false)).get h.next = some (.cells (u3 (List.replicate z 0)) 101 1 false false) := by rw [Heap.get_new,if_pos rfl]
  obtain ⟨hA,hhA⟩ : ∃ x,x = h.new (.cells (u3 (List.replicate z 0)) 101 1 false false) := ⟨_,rfl⟩
  rw [← hhA] at k0 g0
  simp (maxSteps := 2000000) -implicitDefEqProofs [Try.f61,ble_d,beq_d,List.range_succ,List.replicate,cond_true,cond_false,Try.underlying40,d1,d1',hms,← hhA,sO61]
  generalize hl : loopω _ _ _ _ = r
  obtain ⟨hB,v5,x12,x13,x14,x15,hx,lg,kp,hc1,hc2⟩ := useX5 hl (shl1 (h0 := hA) (va := va) (vca := vca) (La := a.length) (n := n) (z := z) (s := s) (a := a) rfl wa ka hn hz hs (hv.keep k0 fun _ _ x => x) _ _ (by kernel_rfl) _ (by rw [hy0]; kernel_rfl) ⟨.inr ⟨h.next,by rw [dg_zero,List.append_nil,List.length_replicate],by
      rw [dg_zero,List.append_nil,List.length_replicate]
      exact ⟨by simp [u3],.inr ⟨_,_,rfl,fun _ => ⟨_,_,_,_,_,g0,by simp [u3]⟩⟩⟩⟩,Keep.refl _ _,by rw [hy0]; simp,by rw [hy0]; exact Nat.two_pow_pos s⟩)
  subst hx
  clear hl
  rw [nv_div_len wa (Nat.le_refl _),Nat.zero_mul,Nat.add_zero] at hc1
  obtain ⟨v8,h8,e8,lg8,kk,nn⟩ := app_g lg kp (by rw [List.length_append,List.length_replicate,dg_len]; omega) (sy a s a.length)
  have h2s : 2 ^ s ≤ 2 ^ 31 := Nat.pow_le_pow_right (by omega) (by omega)
  have hdd : (List.replicate z 0 ++ dg (nv a * 2 ^ s) a.length) ++ [sy a s a.length] = List.replicate z 0 ++ dg (nv a * 2 ^ s) (a.length + 1) := by rw [List.append_assoc,dg_succ,hc1,Nat.mod_eq_of_lt (by omega)]
  have hll : (List.replicate z 0 ++ dg (nv a * 2 ^ s) (a.length + 1)).length = z + a.length + 1 := by rw [List.length_append,List.length_replicate,dg_len]; omega
  rw [hdd,hll] at lg8
  have hval := shl_val (n := n) (z := z) (s := s) (by omega) (nv a) (a.length + 1) (by
    have h1 := nv_lt wa
    rw [Nat.pow_succ]
    exact Nat.mul_lt_mul_of_lt_of_le h1 (by omega) (by omega))
  have hww : W32 (List.replicate z 0 ++ dg (nv a * 2 ^ s) (a.length + 1)) := fun x hx => by
    rcases List.mem_append.1 hx with h1 | h1
    · rw [(List.mem_replicate.1 h1).2]; omega
    · exact dg_w _ _ x h1
  have w4 := wu32 (a := sy a s a.length) rfl (by omega)
  have hna : Na h8 v8 (List.replicate z 0 ++ dg (nv a * 2 ^ s) (a.length + 1)) := ⟨by rw [hll]; exact lg8.sl,hww,by rw [hll]; omega⟩
  obtain ⟨v9,h9,e9,n9,k9⟩ := trim_run hna
  rw [hval] at n9 k9
  rw [hll] at k9
  generalize sy a s a.length = c at *
  simp (maxSteps := 2000000) -implicitDefEqProofs [ble_d,beq_d,List.range_succ,List.replicate,cond_true,cond_false,cv37_101,w4,(fun ρ z hz => bs40_1 ρ z (c : Int) hz),e8,Try.underlying40,en85,e9]
  exact ⟨_,_,⟨rfl,rfl⟩,⟨n9.1,k0.trans (kk.trans n9.2.1),fun m e => by have := n9.2.2 m e; have := kk.1; have := k0.1; omega⟩,k9⟩

end Go.Proofs.Ytmnkmdfladbgdaa.Od

set_option linter.unusedVariables false
set_option linter.unusedSimpArgs false
namespace Go.Proofs.Ytmnkmdfladbgdaa.Od
open Go Go.Proofs Go.RowKit Go.Proofs.YtmnkmdfladbgdaaAI Go.Proofs.YtmnkmdfladbgdaaFl

noncomputable def lb87 (i : Nat) : Code := (loopsOf (Try.f87.body.getD .skip)).getD i .skip
def zi (z i : Nat) : Nat := z + i
theorem sl_u3_2 {h : Heap} {v : Value} {k : Nat} {l : List Nat} (hs : Sl h v 1 k (u3 l)) {i j : Nat} (hi : i < k) (hj : j < k) :
    ∃ a n c e s gr ro,v = .slice (some a) k n ∧ h.get a.block = some (.cells c e s gr ro) ∧ c[a.off + i]? = some (.int .u32 (l.getD i 0 : Nat)) ∧ c[a.off + j]? = some (.int .u32 (l.getD j 0 : Nat)) := by
  obtain ⟨a,n,c,e,s,gr,ro,rfl,hg,h1⟩ := sl_u3 hs hi
  obtain ⟨a',n',c',e',s',gr',ro',eb,hg',h2⟩ := sl_u3 hs hj
  cases eb
  rw [hg] at hg'
  cases hg'
  exact ⟨a,n,c,e,s,gr,ro,rfl,hg,h1,h2⟩
theorem shr_small {a n z L : Nat} (hz : z = n / 32) (h : a < 4294967296 ^ L) : a / 2 ^ n < 4294967296 ^ (L - z) := by
  refine Nat.div_lt_of_lt_mul (Nat.lt_of_lt_of_le h ?_)
  have h1 : 4294967296 ^ z ≤ 2 ^ n := by
    rw [show (4294967296 : Nat) = 2 ^ 32 from rfl,← Nat.pow_mul]
    exact Nat.pow_le_pow_right (by omega) (by omega)
  exact Nat.le_trans (Nat.pow_le_pow_right (by omega) (show L ≤ z + (L - z) by omega)) (by rw [Nat.pow_add]; exact Nat.mul_le_mul_right _ h1)
set_option maxRecDepth 20000 in
set_option maxHeartbeats 6400000 in
theorem shr1 {h0 : Heap} {va : Option Addr} {vca La n z s : Nat} {a : List Nat} (hLa : a.length = La) (wa : W32 a) (ka : La ≤ 1000) (hn : n ≤ 100000) (hz : z = n / 32) (hs : s = n % 32) (hva : Sl h0 (.slice va La vca) 1 La (u3 a)) (v0 : Value) (F : Step) (hFF : F = aexecP Try.prog (sO 87) (run Try.prog sO) loopω pt87 (lb87 0)) (t : Tm)
    (ht : forget [2,3,4,7,8,9,10,11,12,13,14,15,16,17,18,19,20,21,22,23,24,25,26,27,28,29,30,31,32,33,34,35,36,37,38,39,40,41,42,43,44,45,46] t = [.slice va La vca,.int .i64 (n : Nat),Z,Z,Z,v0,.int .i64 (zi z (0) : Nat),Z,Z,Z,Z,Z,Z,Z,Z,Z,Z,Z,Z,Z,Z,Z,Z,Z,Z,Z,Z,Z,Z,Z,Z,Z,Z,Z,Z,Z,Z,Z,Z,Z,Z,Z,Z,Z,Z,Z,Z]) (hI0 : (Lg h0 v0 101 1 (0) (u3 (dg (nv a / 2 ^ n) (0))) ∧ Keep No h0 h0 ∧ ∀ m,nm v0 = some m → h0.next ≤ m)) :
    ∃ h' v x10 x11 x12 x13,loopω [2,3,4,7,8,9,10,11,12,13,14,15,16,17,18,19,20,21,22,23,24,25,26,27,28,29,30,31,32,33,34,35,36,37,38,39,40,41,42,43,44,45,46] F t h0 = some (.exit 0,[.slice va La vca,.int .i64 (n : Nat),Z,Z,Z,v,.int .i64 (zi z (La - z) : Nat),Z,Z,Z,x10,x11,x12,x13,Z,Z,Z,Z,Z,Z,Z,Z,Z,Z,Z,Z,Z,Z,Z,Z,Z,Z,Z,Z,Z,Z,Z,Z,Z,Z,Z,Z,Z,Z,Z,Z,Z],h') ∧ (Lg h' v 101 1 (La - z) (u3 (dg (nv a / 2 ^ n) (La - z))) ∧ Keep No h0 h' ∧ ∀ m,nm v = some m → h0.next ≤ m) := by
  subst hFF
  suffices hs : ∃ e t' h',loopω [2,3,4,7,8,9,10,11,12,13,14,15,16,17,18,19,20,21,22,23,24,25,26,27,28,29,30,31,32,33,34,35,36,37,38,39,40,41,42,43,44,45,46] (aexecP Try.prog (sO 87) (run Try.prog sO) loopω pt87 (lb87 0)) t h0 = some (e,t',h') ∧ (e = .exit 0 ∧ ∃ v x10 x11 x12 x13,t' = [.slice va La vca,.int .i64 (n : Nat),Z,Z,Z,v,.int .i64 (zi z (La - z) : Nat),Z,Z,Z,x10,x11,x12,x13,Z,Z,Z,Z,Z,Z,Z,Z,Z,Z,Z,Z,Z,Z,Z,Z,Z,Z,Z,Z,Z,Z,Z,Z,Z,Z,Z,Z,Z,Z,Z,Z,Z] ∧ (Lg h' v 101 1 (La - z) (u3 (dg (nv a / 2 ^ n) (La - z))) ∧ Keep No h0 h' ∧ ∀ m,nm v = some m → h0.next ≤ m)) by
    obtain ⟨e,t',h',q1,rfl,v,x10,x11,x12,x13,rfl,q2⟩ := hs
    exact ⟨h',v,x10,x11,x12,x13,q1,q2⟩
  simp only [lb87,Try.f87,loopsOf,Option.getD_some,List.nil_append,List.append_nil,List.cons_append,List.getD_cons_zero,List.getD_cons_succ]
  refine loop_by (fun k t h' => ∃ (i : Nat) (v : Value),i + k = La - z ∧ forget [2,3,4,7,8,9,10,11,12,13,14,15,16,17,18,19,20,21,22,23,24,25,26,27,28,29,30,31,32,33,34,35,36,37,38,39,40,41,42,43,44,45,46] t = [.slice va La vca,.int .i64 (n : Nat),Z,Z,Z,v,.int .i64 (zi z (i) : Nat),Z,Z,Z,Z,Z,Z,Z,Z,Z,Z,Z,Z,Z,Z,Z,Z,Z,Z,Z,Z,Z,Z,Z,Z,Z,Z,Z,Z,Z,Z,Z,Z,Z,Z,Z,Z,Z,Z,Z,Z] ∧ (Lg h' v 101 1 (i) (u3 (dg (nv a / 2 ^ n) (i))) ∧ Keep No h0 h' ∧ ∀ m,nm v = some m → h0.next ≤ m))
    (fun e t' h' => e = .exit 0 ∧ ∃ v x10 x11 x12 x13,t' = [.slice va La vca,.int .i64 (n : Nat),Z,Z,Z,v,.int .i64 (zi z (La - z) : Nat),Z,Z,Z,x10,x11,x12,x13,Z,Z,Z,Z,Z,Z,Z,Z,Z,Z,Z,Z,Z,Z,Z,Z,Z,Z,Z,Z,Z,Z,Z,Z,Z,Z,Z,Z,Z,Z,Z,Z,Z] ∧ (Lg h' v 101 1 (La - z) (u3 (dg (nv a / 2 ^ n) (La - z))) ∧ Keep No h0 h' ∧ ∀ m,nm v = some m → h0.next ≤ m)) ?_ (La - z) _ _ ⟨0,_,by omega,ht,hI0⟩
  rintro k t h' ⟨i,v,hi,ht,hI⟩
  rw [ht]
  rcases Nat.lt_or_ge i (La - z) with h1 | h1
  · obtain ⟨lg,kp,nw⟩ := hI
    have hak := hva.keep kp fun _ _ x => x
    have hs32 : s < 32 := by omega
    obtain ⟨p,hp⟩ : ∃ p,zi z i = p := ⟨_,rfl⟩
    have hp' : z + i = p := hp
    obtain ⟨r,hr⟩ : ∃ r,p + 1 = r := ⟨_,rfl⟩
    have hp2 : zi z (i + 1) = r := by unfold zi; omega
    have i1 : p < La := by omega
    have p1 := @shr_step a wa p s hs32
    rw [hr] at p1
    have p2 := @shr_pos n z s i (by omega) (nv a)
    rw [hp'] at p2
    have lga : a.getD p 0 < 4294967296 := wa.get p
    have lgb : a.getD r 0 < 4294967296 := wa.get r
    have hinc : IntKind.i64.wrap ((p : Int) + 1) = (r : Int) := by have := @inc64 p (by omega); rw [this,hr]
    have hdl := dg_len (nv a / 2 ^ n) i
    have lg' : Lg h' v 101 1 (dg (nv a / 2 ^ n) i).length (u3 (dg (nv a / 2 ^ n) i)) := by rw [hdl]; exact lg
    obtain ⟨v8,h8,e8,lg8,kp8,nv8⟩ := app_u3 lg' (by omega) (nv a / 2 ^ n / 4294967296 ^ i % 4294967296)
    rw [← dg_succ,dg_len] at lg8
    rw [p2,← p1] at e8
    have kk := kp.also kp8 fun m hm x => by have := nw m x; omega
    have nn : ∀ m,nm v8 = some m → h0.next ≤ m := fun m e => by
      rcases nv8 m e with y | y
      · exact nw m y
      · have := kp.1; omega
    rw [hp]
    have m1 : (n : Int).tmod 32 = (s : Int) := by rw [hs]; rfl
    have m1' : (n : Int) % 32 = (s : Int) := by omega
    have w1 := wu64 (a := s) rfl (by omega)
    by_cases i2 : r < La
    · obtain ⟨va,vca,C,ce,cs,gr,ro,eb,hg,hc,hc'⟩ := sl_u3_2 hak i1 i2
      simp only [Value.slice.injEq,true_and] at eb
      obtain ⟨rfl,rfl⟩ := eb
      generalize a.getD p 0 = x at *
      generalize a.getD r 0 = y at *
      obtain ⟨s1,hs1⟩ : ∃ q,y * 4294967296 = q := ⟨_,rfl⟩
      obtain ⟨s2,hs2⟩ : ∃ q,x + s1 = q := ⟨_,rfl⟩
      obtain ⟨e,he⟩ : ∃ q,s2 / 2 ^ s = q := ⟨_,rfl⟩
      obtain ⟨d,hd⟩ : ∃ q,e % 4294967296 = q := ⟨_,rfl⟩
      rw [hs1,hs2,he,hd] at e8
      have w0 := wu64 (a := x) rfl (by omega)
      have w0' := wu64 (a := y) rfl (by omega)
      have w2 : IntKind.u64.wrap ((y : Int) * 4294967296) = (s1 : Int) := by
        have : (y : Int) * 4294967296 = ((y * 4294967296 : Nat) : Int) := by omega
        rw [this]; exact wu64 hs1 (by omega)
      have w3 := au64 hs2 (by omega)
      have w4 := shr64 (a := s2) (k := s) he (by omega)
      have w5 := mod32 hd
      have w6 := wu32 (a := d) rfl (by omega)
      simp (maxSteps := 2000000) -implicitDefEqProofs [ble_d,beq_d,List.range_succ,List.replicate,cond_true,cond_false,i1,i2,hg,hc,hc',m1,m1',w0,w0',w1,w2,w3,w4,w5,w6,shl37,shr37,aindexAddr,sz101,Try.underlying40,cv101_37,cv37_101,cv3_117,(fun ρ z hz => bs40_1 ρ z (d : Int) hz),e8,hinc,undef]
      exact ⟨k - 1,by omega,i + 1,by omega,v8,by simp (maxSteps := 2000000) only [forget,List.set_cons_succ,List.set_cons_zero,hp2],lg8,kk,nn⟩
    · have z0 : a.getD r 0 = 0 := getD_out (by omega)
      obtain ⟨va,vca,C,ce,cs,gr,ro,eb,hg,hc⟩ := sl_u3 hak i1
      simp only [Value.slice.injEq,true_and] at eb
      obtain ⟨rfl,rfl⟩ := eb
      rw [z0] at e8
      generalize a.getD p 0 = x at *
      obtain ⟨e,he⟩ : ∃ q,x / 2 ^ s = q := ⟨_,rfl⟩
      obtain ⟨d,hd⟩ : ∃ q,e % 4294967296 = q := ⟨_,rfl⟩
      rw [Nat.zero_mul,Nat.add_zero,he,hd] at e8
      have w0 := wu64 (a := x) rfl (by omega)
      have w4 := shr64 (a := x) (k := s) he (by omega)
      have w5 := mod32 hd
      have w6 := wu32 (a := d) rfl (by omega)
      simp (maxSteps := 2000000) -implicitDefEqProofs [ble_d,beq_d,List.range_succ,List.replicate,cond_true,cond_false,i1,i2,hg,hc,m1,m1',w0,w1,w4,w5,w6,shl37,shr37,aindexAddr,sz101,Try.underlying40,cv101_37,cv37_101,cv3_117,(fun ρ z hz => bs40_1 ρ z (d : Int) hz),e8,hinc,undef]
      exact ⟨k - 1,by omega,i + 1,by omega,v8,by simp (maxSteps := 2000000) only [forget,List.set_cons_succ,List.set_cons_zero,hp2],lg8,kk,nn⟩
  · obtain rfl : i = La - z := by omega
    obtain ⟨p,hp⟩ : ∃ p,zi z (La - z) = p := ⟨_,rfl⟩
    have hp' : z + (La - z) = p := hp
    rw [hp]
    have i1 : ¬ p < La := by omega
    simp (maxSteps := 2000000) -implicitDefEqProofs [ble_d,beq_d,List.range_succ,List.replicate,cond_true,cond_false,i1,undef]
    exact hI

theorem shr_run {h : Heap} {v : Value} {a : List Nat} (n : Nat) (ha : Na h v a) (hn : n ≤ 100000) : ∃ v' h',run Try.prog sO 87 [v,.int .i64 (n : Nat)] h = some (v',h') ∧ Nt h h' v' (nv a / 2 ^ n) ∧ (lm (nv a / 2 ^ n)).length ≤ a.length := by
  obtain ⟨hv,wa,ka⟩ := ha
  obtain ⟨va,vca,rfl⟩ := sl_form hv
  obtain ⟨z,hz⟩ : ∃ z,z = n / 32 := ⟨_,rfl⟩
  obtain ⟨s,hs⟩ : ∃ s,s = n % 32 := ⟨_,rfl⟩
  suffices hx : ∃ y,fin Try.prog Try.f87 (aexecP Try.prog (sO 87) (run Try.prog sO) loopω pt87 (Try.f87.body.getD .skip) ([.slice va a.length vca,.int .i64 (n : Nat)] ++ List.replicate (Try.f87.ntmps - 2) undef) h) = some y ∧ Nt h y.2 y.1 (nv a / 2 ^ n) ∧ (lm (nv a / 2 ^ n)).length ≤ a.length by
    obtain ⟨⟨y1,y2⟩,hy,q⟩ := hx
    exact ⟨y1,y2,run_finP pt87 Try.func87 rfl planned87 hy,q⟩
  have d1 : IntKind.i64.wrap ((n : Int).tdiv 32) = (z : Int) := by
    have : (n : Int).tdiv 32 = ((n / 32 : Nat) : Int) := rfl
    rw [this]; exact wi64 hz.symm (by omega)
  have d1' : IntKind.i64.wrap ((n : Int) / 32) = (z : Int) := by
    have : (n : Int) / 32 = ((n / 32 : Nat) : Int) := by omega
    rw [this]; exact wi64 hz.symm (by omega)
  simp (maxSteps := 2000000) -implicitDefEqProofs [Try.f87,ble_d,beq_d,List.range_succ,List.replicate,cond_true,cond_false,Try.underlying40,d1,d1',sO87]
  generalize hl : loopω _ _ _ _ = r
  obtain ⟨hB,v5,x12,x13,x14,x15,hx,lg,kp,nw⟩ := useX5 hl (shr1 (h0 := h) (va := va) (vca := vca) (La := a.length) (n := n) (z := z) (s := s) (a := a) rfl wa ka hn hz hs hv _ _ (by kernel_rfl) _ (by kernel_rfl) ⟨Lg.nil _ _ _,Keep.refl _ _,fun m e => by cases e⟩)
  subst hx
  clear hl
  have hval : nv (dg (nv a / 2 ^ n) (a.length - z)) = nv a / 2 ^ n := by rw [nv_dg,Nat.mod_eq_of_lt (shr_small hz (nv_lt wa))]
  have hna : Na hB v5 (dg (nv a / 2 ^ n) (a.length - z)) := ⟨by rw [dg_len]; exact lg.sl,dg_w _ _,by rw [dg_len]; omega⟩
  obtain ⟨v9,h9,e9,n9,k9⟩ := trim_run hna
  rw [hval] at n9 k9
  rw [dg_len] at k9
  simp (maxSteps := 2000000) -implicitDefEqProofs [ble_d,beq_d,List.range_succ,List.replicate,cond_true,cond_false,Try.underlying40,en85,e9]
  exact ⟨_,_,⟨rfl,rfl⟩,⟨n9.1,kp.trans n9.2.1,fun m e => by have := n9.2.2 m e; have := kp.1; omega⟩,by omega⟩
end Go.Proofs.Ytmnkmdfladbgdaa.Od

set_option linter.unusedVariables false
set_option linter.unusedSimpArgs false
namespace Go.Proofs.Ytmnkmdfladbgdaa.Od
open Go Go.Proofs Go.RowKit Go.Proofs.YtmnkmdfladbgdaaAI Go.Proofs.YtmnkmdfladbgdaaFl

noncomputable def lb65 (i : Nat) : Code := (loopsOf (Try.f65.body.getD .skip)).getD i .skip
theorem mi_len {N i La : Nat} {a : List Nat} (hLa : a.length = La) (hi : i ≤ La) : (dg N i ++ a.drop i).length = La := by rw [List.length_append,dg_len,List.length_drop]; omega
theorem mi_get {N i : Nat} {a : List Nat} (hi : i < a.length) : (u3 (dg N i ++ a.drop i))[i]? = some (.int .u32 (a.getD i 0 : Nat)) := by
  have h : (dg N i ++ a.drop i).getD i 0 = a.getD i 0 := by
    rw [List.getD_eq_getElem?_getD,List.getElem?_append_right (by rw [dg_len]; exact Nat.le_refl _),dg_len,Nat.sub_self,List.getElem?_drop,List.getD_eq_getElem?_getD,Nat.add_zero]
  rw [u3_get (by rw [mi_len rfl (Nat.le_of_lt hi)]; exact hi),h]
theorem mi_set {N i d : Nat} {a : List Nat} (hi : i < a.length) (hd : d = N / 4294967296 ^ i % 4294967296) : (dg N i ++ a.drop i).set i d = dg N (i + 1) ++ a.drop (i + 1) := by
  have h2 : a.drop i = a.getD i 0 :: a.drop (i + 1) := by
    rw [List.drop_eq_getElem_cons hi,List.getD_eq_getElem?_getD,List.getElem?_eq_getElem hi,Option.getD_some]
  rw [h2,List.set_append_right _ _ (by rw [dg_len]; exact Nat.le_refl _),dg_len,Nat.sub_self,List.set_cons_zero,dg_succ,List.append_assoc,hd]
  simp
theorem oku3 (k : IntKind) (n : Int) : okCells (.int k n) = some [.int k n] := rfl
set_option maxRecDepth 20000 in
set_option maxHeartbeats 6400000 in
theorem minus1 {h0 : Heap} {xa vb : Option Addr} {xc vcb m La Lb N : Nat} {a b : List Nat} (hLa : a.length = La) (hLb : b.length = Lb) (wa : W32 a) (wb : W32 b) (ka : La ≤ 1000) (kb : Lb ≤ 1000) (hvb : Sl h0 (.slice vb Lb vcb) 1 Lb (u3 b)) (hm : nm (.slice vb Lb vcb) ≠ some m) (hx0 : 0 < La → xa = some ⟨m,0,some 0⟩ ∧ xc = 1) (v0 : Value) (F : Step) (hFF : F = aexecP Try.prog (sO 65) (run Try.prog sO) loopω pt65 (lb65 0)) (t : Tm)
    (ht : forget [0,1,2,3,4,9,10,11,12,13,14,15,16,17,18,19,20,21,22,23,24,25,26,27,28,29,30,31,32,33,34,35,36,37,38,39,40,41,42,43,44,45,46,47,48] t = [Z,Z,Z,Z,Z,.slice xa La xc,.slice vb Lb vcb,v0,.int .i64 (0 : Nat),Z,Z,Z,Z,Z,Z,Z,Z,Z,Z,Z,Z,Z,Z,Z,Z,Z,Z,Z,Z,Z,Z,Z,Z,Z,Z,Z,Z,Z,Z,Z,Z,Z,Z,Z,Z,Z,Z,Z,Z]) (hI0 : ((0 < La → h0.get m = some (.cells (u3 (dg N (0) ++ a.drop (0))) 101 1 true false)) ∧ Keep (fun m' => m' = m) h0 h0 ∧ ∃ c : Nat,v0 = .int .i64 (c : Nat) ∧ N / 4294967296 ^ (0) + nv b / 4294967296 ^ (0) + c = nv a / 4294967296 ^ (0) ∧ c ≤ 1)) :
    ∃ h' v x14 x15 x16 x17,loopω [0,1,2,3,4,9,10,11,12,13,14,15,16,17,18,19,20,21,22,23,24,25,26,27,28,29,30,31,32,33,34,35,36,37,38,39,40,41,42,43,44,45,46,47,48] F t h0 = some (.exit 0,[Z,Z,Z,Z,Z,.slice xa La xc,.slice vb Lb vcb,v,.int .i64 (La : Nat),Z,Z,Z,Z,Z,x14,x15,x16,x17,Z,Z,Z,Z,Z,Z,Z,Z,Z,Z,Z,Z,Z,Z,Z,Z,Z,Z,Z,Z,Z,Z,Z,Z,Z,Z,Z,Z,Z,Z,Z],h') ∧ ((0 < La → h'.get m = some (.cells (u3 (dg N (La) ++ a.drop (La))) 101 1 true false)) ∧ Keep (fun m' => m' = m) h0 h' ∧ ∃ c : Nat,v = .int .i64 (c : Nat) ∧ N / 4294967296 ^ (La) + nv b / 4294967296 ^ (La) + c = nv a / 4294967296 ^ (La) ∧ c ≤ 1) := by
  subst hFF
  suffices hs : ∃ e t' h',loopω [0,1,2,3,4,9,10,11,12,13,14,15,16,17,18,19,20,21,22,23,24,25,26,27,28,29,30,31,32,33,34,35,36,37,38,39,40,41,42,43,44,45,46,47,48] (aexecP Try.prog (sO 65) (run Try.prog sO) loopω pt65 (lb65 0)) t h0 = some (e,t',h') ∧ (e = .exit 0 ∧ ∃ v x14 x15 x16 x17,t' = [Z,Z,Z,Z,Z,.slice xa La xc,.slice vb Lb vcb,v,.int .i64 (La : Nat),Z,Z,Z,Z,Z,x14,x15,x16,x17,Z,Z,Z,Z,Z,Z,Z,Z,Z,Z,Z,Z,Z,Z,Z,Z,Z,Z,Z,Z,Z,Z,Z,Z,Z,Z,Z,Z,Z,Z,Z] ∧ ((0 < La → h'.get m = some (.cells (u3 (dg N (La) ++ a.drop (La))) 101 1 true false)) ∧ Keep (fun m' => m' = m) h0 h' ∧ ∃ c : Nat,v = .int .i64 (c : Nat) ∧ N / 4294967296 ^ (La) + nv b / 4294967296 ^ (La) + c = nv a / 4294967296 ^ (La) ∧ c ≤ 1)) by
    obtain ⟨e,t',h',q1,rfl,v,x14,x15,x16,x17,rfl,q2⟩ := hs
    exact ⟨h',v,x14,x15,x16,x17,q1,q2⟩
  simp only [lb65,Try.f65,loopsOf,Option.getD_some,List.nil_append,List.append_nil,List.cons_append,List.getD_cons_zero,List.getD_cons_succ]
  refine loop_by (fun k t h' => ∃ (i : Nat) (v : Value),i + k = La ∧ forget [0,1,2,3,4,9,10,11,12,13,14,15,16,17,18,19,20,21,22,23,24,25,26,27,28,29,30,31,32,33,34,35,36,37,38,39,40,41,42,43,44,45,46,47,48] t = [Z,Z,Z,Z,Z,.slice xa La xc,.slice vb Lb vcb,v,.int .i64 (i : Nat),Z,Z,Z,Z,Z,Z,Z,Z,Z,Z,Z,Z,Z,Z,Z,Z,Z,Z,Z,Z,Z,Z,Z,Z,Z,Z,Z,Z,Z,Z,Z,Z,Z,Z,Z,Z,Z,Z,Z,Z] ∧ ((0 < La → h'.get m = some (.cells (u3 (dg N (i) ++ a.drop (i))) 101 1 true false)) ∧ Keep (fun m' => m' = m) h0 h' ∧ ∃ c : Nat,v = .int .i64 (c : Nat) ∧ N / 4294967296 ^ (i) + nv b / 4294967296 ^ (i) + c = nv a / 4294967296 ^ (i) ∧ c ≤ 1))
    (fun e t' h' => e = .exit 0 ∧ ∃ v x14 x15 x16 x17,t' = [Z,Z,Z,Z,Z,.slice xa La xc,.slice vb Lb vcb,v,.int .i64 (La : Nat),Z,Z,Z,Z,Z,x14,x15,x16,x17,Z,Z,Z,Z,Z,Z,Z,Z,Z,Z,Z,Z,Z,Z,Z,Z,Z,Z,Z,Z,Z,Z,Z,Z,Z,Z,Z,Z,Z,Z,Z] ∧ ((0 < La → h'.get m = some (.cells (u3 (dg N (La) ++ a.drop (La))) 101 1 true false)) ∧ Keep (fun m' => m' = m) h0 h' ∧ ∃ c : Nat,v = .int .i64 (c : Nat) ∧ N / 4294967296 ^ (La) + nv b / 4294967296 ^ (La) + c = nv a / 4294967296 ^ (La) ∧ c ≤ 1)) ?_ (La) _ _ ⟨0,_,by omega,ht,hI0⟩
  rintro k t h' ⟨i,v,hi,ht,hI⟩
  rw [ht]
  rcases Nat.lt_or_ge i (La) with h1 | h1
  · obtain ⟨hgA,kp,c,rfl,hc1,hc2⟩ := hI
    obtain ⟨rfl,rfl⟩ := hx0 (by omega)
    have hg := hgA (by omega)
    have hinc := @inc64 i (by omega)
    have hcs := cast_succ i
    have hbk := hvb.keep kp fun m' e x => hm (x ▸ e)
    have hlt := Heap.get_lt hg
    obtain ⟨st1,st2⟩ := minus_step wa wb hc1 hc2
    have lga : a.getD i 0 < 4294967296 := wa.get i
    have lgb : b.getD i 0 < 4294967296 := wb.get i
    have hll := mi_len (N := N) hLa (Nat.le_of_lt h1)
    have hgi := mi_get (N := N) (a := a) (i := i) (by omega)
    have hset := fun d hd => mi_set (N := N) (a := a) (i := i) (d := d) (by omega) hd
    have ca : i + 1 ≤ (u3 (dg N i ++ a.drop i)).length := by rw [u3_len]; omega
    have gb : b.length ≤ i → b.getD i 0 = 0 := getD_out
    have hsa := fun d => u3_set (l := dg N i ++ a.drop i) (i := i) (by omega) d
    generalize hxa : a.getD i 0 = x at *
    generalize hxb : b.getD i 0 = y at *
    generalize hLL : dg N i ++ a.drop i = LL at *
    have w0 := wi64 (a := x) rfl (by omega)
    have w0' := wi64 (a := y) rfl (by omega)
    have o5 : ∀ (q : Heap) (d c' : Nat),q = h'.put m (some (.cells (u3 (LL.set i d)) 101 1 true false)) → d = N / 4294967296 ^ i % 4294967296 → N / 4294967296 ^ (i + 1) + nv b / 4294967296 ^ (i + 1) + c' = nv a / 4294967296 ^ (i + 1) → c' ≤ 1 → q.get m = some (.cells (u3 (dg N (i + 1) ++ a.drop (i + 1))) 101 1 true false) ∧ Keep (fun m' => m' = m) h0 q := fun q d c' hq hd _ _ => by
      rw [hset d hd] at hq
      exact ⟨by rw [hq,Heap.get_put hlt,if_pos rfl],by rw [hq]; exact kp.trans (Keep.put (S := fun m' => m' = m) hlt rfl _)⟩
    by_cases i2 : i < Lb
    · by_cases i3 : c + y ≤ x
      · obtain ⟨vb,vcb,C2,ce2,cs2,gr2,ro2,eb,hg2,hc22⟩ := sl_u3 hbk i2
        simp only [Value.slice.injEq,true_and] at eb
        obtain ⟨rfl,rfl⟩ := eb
        rw [hxb] at hc22
        obtain ⟨d1,d2⟩ := st1 (by omega)
        obtain ⟨d,hd⟩ : ∃ d,x - c - y = d := ⟨_,rfl⟩
        rw [hd] at d1
        obtain ⟨q,hq⟩ : ∃ q,q = h'.put m (some (.cells (u3 (LL.set i d)) 101 1 true false)) := ⟨_,rfl⟩
        obtain ⟨o1,o2⟩ := o5 q d 0 hq d1 d2 (by omega)
        have hsd := hsa d
        have q1 : d < 4294967296 := by omega
        have e1 : IntKind.i64.wrap ((x : Int) - (c : Int)) = (x : Int) - (c : Int) := IntWalk.i64_in _ (by omega)
        have e2 : IntKind.i64.wrap ((x : Int) - (c : Int) - (y : Int)) = (d : Int) := by rw [IntWalk.i64_in _ (by omega)]; omega
        have e3 : ¬ ((d : Int) < 0) := by omega
        have e4 : True := trivial
        have e5 := wu32 (a := d) rfl q1
        have e6 : True := trivial
        simp (maxSteps := 2000000) -implicitDefEqProofs [ble_d,beq_d,List.range_succ,List.replicate,cond_true,cond_false,h1,i2,w0,w0',hg,hgi,hg2,hc22,e1,e2,e3,e4,e5,e6,hsd,ca,astore,oku3,← hq,aindexAddr,sz101,Try.underlying40,cv101_2,cv2_101,hinc,undef]
        exact ⟨k - 1,by omega,i + 1,by omega,.int .i64 0,by simp (maxSteps := 2000000) only [forget,List.set_cons_succ,List.set_cons_zero,hcs],fun _ => o1,o2,0,by first | rfl | (simp; done),d2,by omega⟩
      · obtain ⟨vb,vcb,C2,ce2,cs2,gr2,ro2,eb,hg2,hc22⟩ := sl_u3 hbk i2
        simp only [Value.slice.injEq,true_and] at eb
        obtain ⟨rfl,rfl⟩ := eb
        rw [hxb] at hc22
        obtain ⟨d1,d2⟩ := st2 (by omega)
        obtain ⟨d,hd⟩ : ∃ d,x + 4294967296 - c - y = d := ⟨_,rfl⟩
        rw [hd] at d1
        obtain ⟨q,hq⟩ : ∃ q,q = h'.put m (some (.cells (u3 (LL.set i d)) 101 1 true false)) := ⟨_,rfl⟩
        obtain ⟨o1,o2⟩ := o5 q d 1 hq d1 d2 (by omega)
        have hsd := hsa d
        have q1 : d < 4294967296 := by omega
        have e1 : IntKind.i64.wrap ((x : Int) - (c : Int)) = (x : Int) - (c : Int) := IntWalk.i64_in _ (by omega)
        have e2 : IntKind.i64.wrap ((x : Int) - (c : Int) - (y : Int)) = (d : Int) - 4294967296 := by rw [IntWalk.i64_in _ (by omega)]; omega
        have e3 : (d : Int) < 4294967296 := by omega
        have e4 : IntKind.i64.wrap ((d : Int)) = (d : Int) := wi64 rfl (by omega)
        have e5 := wu32 (a := d) rfl q1
        have e6 : (d : Int) - 4294967296 < 0 := by omega
        simp (maxSteps := 2000000) -implicitDefEqProofs [ble_d,beq_d,List.range_succ,List.replicate,cond_true,cond_false,h1,i2,w0,w0',hg,hgi,hg2,hc22,e1,e2,e3,e4,e5,e6,hsd,ca,astore,oku3,← hq,aindexAddr,sz101,Try.underlying40,cv101_2,cv2_101,hinc,undef]
        exact ⟨k - 1,by omega,i + 1,by omega,.int .i64 1,by simp (maxSteps := 2000000) only [forget,List.set_cons_succ,List.set_cons_zero,hcs],fun _ => o1,o2,1,by first | rfl | (simp; done),d2,by omega⟩
    · by_cases i3 : c + y ≤ x
      · have z0 : y = 0 := gb (by omega)
        obtain ⟨d1,d2⟩ := st1 (by omega)
        obtain ⟨d,hd⟩ : ∃ d,x - c - y = d := ⟨_,rfl⟩
        rw [hd] at d1
        obtain ⟨q,hq⟩ : ∃ q,q = h'.put m (some (.cells (u3 (LL.set i d)) 101 1 true false)) := ⟨_,rfl⟩
        obtain ⟨o1,o2⟩ := o5 q d 0 hq d1 d2 (by omega)
        have hsd := hsa d
        have q1 : d < 4294967296 := by omega
        have e1 : IntKind.i64.wrap ((x : Int) - (c : Int)) = (d : Int) := by rw [IntWalk.i64_in _ (by omega)]; omega
        have e2 : True := trivial
        have e3 : ¬ ((d : Int) < 0) := by omega
        have e4 : True := trivial
        have e5 := wu32 (a := d) rfl q1
        have e6 : True := trivial
        simp (maxSteps := 2000000) -implicitDefEqProofs [ble_d,beq_d,List.range_succ,List.replicate,cond_true,cond_false,h1,i2,w0,w0',hg,hgi,e1,e2,e3,e4,e5,e6,hsd,ca,astore,oku3,← hq,aindexAddr,sz101,Try.underlying40,cv101_2,cv2_101,hinc,undef]
        exact ⟨k - 1,by omega,i + 1,by omega,.int .i64 0,by simp (maxSteps := 2000000) only [forget,List.set_cons_succ,List.set_cons_zero,hcs],fun _ => o1,o2,0,by first | rfl | (simp; done),d2,by omega⟩
      · have z0 : y = 0 := gb (by omega)
        obtain ⟨d1,d2⟩ := st2 (by omega)
        obtain ⟨d,hd⟩ : ∃ d,x + 4294967296 - c - y = d := ⟨_,rfl⟩
        rw [hd] at d1
        obtain ⟨q,hq⟩ : ∃ q,q = h'.put m (some (.cells (u3 (LL.set i d)) 101 1 true false)) := ⟨_,rfl⟩
        obtain ⟨o1,o2⟩ := o5 q d 1 hq d1 d2 (by omega)
        have hsd := hsa d
        have q1 : d < 4294967296 := by omega
        have e1 : IntKind.i64.wrap ((x : Int) - (c : Int)) = (d : Int) - 4294967296 := by rw [IntWalk.i64_in _ (by omega)]; omega
        have e2 : True := trivial
        have e3 : (d : Int) < 4294967296 := by omega
        have e4 : IntKind.i64.wrap ((d : Int)) = (d : Int) := wi64 rfl (by omega)
        have e5 := wu32 (a := d) rfl q1
        have e6 : (d : Int) - 4294967296 < 0 := by omega
        simp (maxSteps := 2000000) -implicitDefEqProofs [ble_d,beq_d,List.range_succ,List.replicate,cond_true,cond_false,h1,i2,w0,w0',hg,hgi,e1,e2,e3,e4,e5,e6,hsd,ca,astore,oku3,← hq,aindexAddr,sz101,Try.underlying40,cv101_2,cv2_101,hinc,undef]
        exact ⟨k - 1,by omega,i + 1,by omega,.int .i64 1,by simp (maxSteps := 2000000) only [forget,List.set_cons_succ,List.set_cons_zero,hcs],fun _ => o1,o2,1,by first | rfl | (simp; done),d2,by omega⟩
  · obtain rfl : i = La := by omega
    simp (maxSteps := 2000000) -implicitDefEqProofs [ble_d,beq_d,List.range_succ,List.replicate,cond_true,cond_false,undef]
    exact hI

theorem minus_run {h : Heap} {v w : Value} {a b : List Nat} (ha : Na h v a) (hb : Na h w b) (hle : nv b ≤ nv a) : ∃ v' h',run Try.prog sO 65 [v,w] h = some (v',h') ∧ Nt h h' v' (nv a - nv b) ∧ (lm (nv a - nv b)).length ≤ a.length := by
  obtain ⟨v1,h1,e1,⟨l1,k1,n1⟩,b1⟩ := trim_run ha
  obtain ⟨v2,h2,e2,⟨l2,k2,n2⟩,b2⟩ := trim_run (hb.keep k1)
  have ka := ha.2.2
  have kb := hb.2.2
  have va0 := ha.1
  have vb0 := hb.1
  obtain ⟨xa0,xc0,rfl⟩ := sl_form va0
  obtain ⟨ya0,yc0,rfl⟩ := sl_form vb0
  have l1' := l1.keep k2 fun _ _ x => x
  have s2 := l2.sl
  obtain ⟨_,hform⟩ := l1'
  have hlt := fun m e => l1.sl.lt (m := m) e
  obtain ⟨xa,xc,rfl⟩ := sl_form l1.sl
  obtain ⟨ya,yc,rfl⟩ := sl_form s2
  have na : nv (lm (nv a)) = nv a := nv_lm _
  have nb : nv (lm (nv b)) = nv b := nv_lm _
  generalize hA : lm (nv a) = A at *
  generalize hB : lm (nv b) = B at *
  have wA : W32 A := hA ▸ lm_w _
  have wB : W32 B := hB ▸ lm_w _
  obtain ⟨m,hm1,hm2,hm3⟩ : ∃ m,(0 < A.length → xa = some ⟨m,0,some 0⟩ ∧ xc = 1) ∧ (0 < A.length → h2.get m = some (.cells (u3 A) 101 1 true false)) ∧ (m < h1.next ∧ h.next ≤ m ∨ A.length = 0 ∧ m = h2.next) := by
    rcases hform with ⟨h0,_⟩ | ⟨m,h0,e,hg⟩
    · exact ⟨h2.next,fun x => by omega,fun x => by omega,.inr ⟨h0,rfl⟩⟩
    · simp only [Value.slice.injEq,true_and] at e
      obtain ⟨rfl,rfl⟩ := e
      exact ⟨m,fun _ => ⟨rfl,rfl⟩,fun _ => hg,.inl ⟨hlt m (nm_pos h0),n1 m (nm_pos h0)⟩⟩
  suffices hx : ∃ y,fin Try.prog Try.f65 (aexecP Try.prog (sO 65) (run Try.prog sO) loopω pt65 (Try.f65.body.getD .skip) ([.slice xa0 a.length xc0,.slice ya0 b.length yc0] ++ List.replicate (Try.f65.ntmps - 2) undef) h) = some y ∧ Nt h y.2 y.1 (nv a - nv b) ∧ (lm (nv a - nv b)).length ≤ A.length by
    obtain ⟨⟨y1,y2⟩,hy,q⟩ := hx
    exact ⟨y1,y2,run_finP pt65 Try.func65 rfl planned65 hy,q.1,by omega⟩
  have hlt2 := fun m e => s2.lt (m := m) e
  simp (maxSteps := 2000000) -implicitDefEqProofs [Try.f65,ble_d,beq_d,List.range_succ,List.replicate,cond_true,cond_false,Try.underlying40,en85,e1,e2,sO65]
  generalize hl : loopω _ _ _ _ = r
  obtain ⟨h3,v7,x14,x15,x16,x17,hx,q1,q2,_⟩ := useX5 hl (minus1 (h0 := h2) (xa := xa) (xc := xc) (vb := ya) (vcb := yc) (m := m) (La := A.length) (Lb := B.length) (N := nv a - nv b) (a := A) (b := B) rfl rfl wA wB (by omega) (by omega) s2 (fun e => by have := n2 m e; have := hlt2 m e; omega) hm1 _ _ (by kernel_rfl) _ (by kernel_rfl) ⟨fun x => by rw [dg_zero,List.nil_append,List.drop_zero]; exact hm2 x,Keep.refl _ _,0,rfl,by rw [na,nb]; simp; omega,by omega⟩)
  subst hx
  clear hl
  have hN : nv (dg (nv a - nv b) A.length) = nv a - nv b := by
    rw [nv_dg,Nat.mod_eq_of_lt]
    have := nv_lt wA
    rw [na] at this
    omega
  have hna : Na h3 (.slice xa A.length xc) (dg (nv a - nv b) A.length) := by
    refine ⟨?_,dg_w _ _,by rw [dg_len]; omega⟩
    rw [dg_len]
    rcases Nat.eq_zero_or_pos A.length with h0 | h0
    · rw [h0] at hform ⊢
      rcases hform with ⟨_,h4⟩ | ⟨m',h0',_,_⟩
      · rw [dg_zero]
        rcases h4 with h4 | ⟨m',off,h4⟩
        · rw [h4]; exact (Lg.nil h3 101 1).sl
        · rw [h4]; exact (Lg.empty h3 101 1 m' off).sl
      · omega
    · obtain ⟨rfl,rfl⟩ := hm1 h0
      have hg := q1 h0
      rw [List.drop_length,List.append_nil] at hg
      refine ⟨by rw [u3_len,dg_len]; omega,.inr ⟨_,_,rfl,fun _ => ⟨_,_,_,_,_,hg,by simp [u3_len,dg_len]; exact List.take_of_length_le (by rw [u3_len,dg_len]; exact Nat.le_refl _)⟩⟩⟩
  obtain ⟨v9,h9,e9,n9,k9⟩ := trim_run hna
  rw [hN] at n9 k9
  rw [dg_len] at k9
  simp (maxSteps := 2000000) -implicitDefEqProofs [ble_d,beq_d,List.range_succ,List.replicate,cond_true,cond_false,Try.underlying40,en85,e9]
  have k1' := k1.1
  have k2' := k2.1
  have q2' := q2.1
  exact ⟨_,_,⟨rfl,rfl⟩,⟨n9.1,((k1.trans k2).also q2 fun m' hm x => by omega).trans n9.2.1,fun m' e => by have := n9.2.2 m' e; omega⟩,k9⟩
end Go.Proofs.Ytmnkmdfladbgdaa.Od

set_option linter.unusedVariables false
set_option linter.unusedSimpArgs false
namespace Go.Proofs.Ytmnkmdfladbgdaa.Od
open Go Go.Proofs Go.RowKit Go.Proofs.YtmnkmdfladbgdaaAI Go.Proofs.YtmnkmdfladbgdaaFl

noncomputable def lb63 (i : Nat) : Code := (loopsOf (Try.f63.body.getD .skip)).getD i .skip

theorem top_diff : ∀ {x y : List Nat},W32 x → W32 y → x.length = y.length → x ≠ y → ∃ p,p < x.length ∧ (∀ j,p < j → x.getD j 0 = y.getD j 0) ∧ ((x.getD p 0 < y.getD p 0 ∧ nv x < nv y) ∨ (y.getD p 0 < x.getD p 0 ∧ nv y < nv x)) := by
  intro x
  induction x with
  | nil => intro y _ _ hl hne; cases y with
    | nil => exact absurd rfl hne
    | cons => simp at hl
  | cons a x ih =>
    intro y hx hy hl hne
    cases y with
    | nil => simp at hl
    | cons b y =>
      have ha := hx a (List.mem_cons_self ..)
      have hb := hy b (List.mem_cons_self ..)
      by_cases he : x = y
      · subst he
        have hab : a ≠ b := fun e => hne (by rw [e])
        refine ⟨0,by simp,fun j hj => ?_,?_⟩
        · obtain ⟨j,rfl⟩ : ∃ q,j = q + 1 := ⟨j - 1,by omega⟩
          simp
        · simp only [List.getD_cons_zero,nv]; omega
      · obtain ⟨p,h1,h2,h3⟩ := ih hx.tail hy.tail (by simpa using hl) he
        refine ⟨p + 1,by simpa using h1,fun j hj => ?_,?_⟩
        · obtain ⟨j,rfl⟩ : ∃ q,j = q + 1 := ⟨j - 1,by omega⟩
          simpa using h2 j (by omega)
        · simp only [List.getD_cons_succ,nv]; omega
def cmpN (a b : Nat) : Int := if a < b then -1 else if b < a then 1 else 0
theorem len_lt {a b : Nat} (h : (lm a).length < (lm b).length) : a < b := by
  have h1 := nv_lt (lm_w a)
  rw [nv_lm] at h1
  rcases Nat.lt_or_ge b (4294967296 ^ (lm a).length) with h2 | h2
  · have := lm_len h2; omega
  · omega
def lz (L i : Nat) : Int := (L : Int) - 1 - i
set_option maxRecDepth 20000 in
set_option maxHeartbeats 6400000 in
theorem cmpE {h0 : Heap} {xa ya : Option Addr} {xc yc L : Nat} {x y : List Nat} (hL : x.length = L) (hL2 : y.length = L) (wx : W32 x) (wy : W32 y) (ka : L ≤ 1000) (hx : Sl h0 (.slice xa L xc) 1 L (u3 x)) (hy : Sl h0 (.slice ya L yc) 1 L (u3 y)) (hxy : x = y) (F : Step) (hFF : F = aexecP Try.prog (sO 63) (run Try.prog sO) loopω pt63 (lb63 0)) (t : Tm)
    (ht : forget [0,1,2,3,4,8,9,10,11,12,13,14,15,16,17,18,19,20,21,22,23,24,25,26,27,28,29,30,31,32,33,34,35,36,37,38,39,40,41,42,43,44,45,46] t = [Z,Z,Z,Z,Z,.slice xa L xc,.slice ya L yc,.int .i64 (lz L (0)),Z,Z,Z,Z,Z,Z,Z,Z,Z,Z,Z,Z,Z,Z,Z,Z,Z,Z,Z,Z,Z,Z,Z,Z,Z,Z,Z,Z,Z,Z,Z,Z,Z,Z,Z,Z,Z,Z,Z]) (hI0 : h0 = h0) :
    ∃ h' x25 x26,loopω [0,1,2,3,4,8,9,10,11,12,13,14,15,16,17,18,19,20,21,22,23,24,25,26,27,28,29,30,31,32,33,34,35,36,37,38,39,40,41,42,43,44,45,46] F t h0 = some (.exit 0,[Z,Z,Z,Z,Z,.slice xa L xc,.slice ya L yc,.int .i64 (lz L (L)),Z,Z,Z,Z,Z,Z,Z,Z,Z,Z,Z,Z,Z,Z,Z,Z,Z,x25,x26,Z,Z,Z,Z,Z,Z,Z,Z,Z,Z,Z,Z,Z,Z,Z,Z,Z,Z,Z,Z],h') ∧ h' = h0 := by
  subst hFF
  suffices hs : ∃ e t' h',loopω [0,1,2,3,4,8,9,10,11,12,13,14,15,16,17,18,19,20,21,22,23,24,25,26,27,28,29,30,31,32,33,34,35,36,37,38,39,40,41,42,43,44,45,46] (aexecP Try.prog (sO 63) (run Try.prog sO) loopω pt63 (lb63 0)) t h0 = some (e,t',h') ∧ (e = .exit 0 ∧ ∃ x25 x26,t' = [Z,Z,Z,Z,Z,.slice xa L xc,.slice ya L yc,.int .i64 (lz L (L)),Z,Z,Z,Z,Z,Z,Z,Z,Z,Z,Z,Z,Z,Z,Z,Z,Z,x25,x26,Z,Z,Z,Z,Z,Z,Z,Z,Z,Z,Z,Z,Z,Z,Z,Z,Z,Z,Z,Z] ∧ h' = h0) by
    obtain ⟨e,t',h',q1,rfl,x25,x26,rfl,q2⟩ := hs
    exact ⟨h',x25,x26,q1,q2⟩
  simp only [lb63,Try.f63,loopsOf,Option.getD_some,List.nil_append,List.append_nil,List.cons_append,List.getD_cons_zero,List.getD_cons_succ]
  refine loop_by (fun k t h' => ∃ (i : Nat),i + k = L ∧ forget [0,1,2,3,4,8,9,10,11,12,13,14,15,16,17,18,19,20,21,22,23,24,25,26,27,28,29,30,31,32,33,34,35,36,37,38,39,40,41,42,43,44,45,46] t = [Z,Z,Z,Z,Z,.slice xa L xc,.slice ya L yc,.int .i64 (lz L (i)),Z,Z,Z,Z,Z,Z,Z,Z,Z,Z,Z,Z,Z,Z,Z,Z,Z,Z,Z,Z,Z,Z,Z,Z,Z,Z,Z,Z,Z,Z,Z,Z,Z,Z,Z,Z,Z,Z,Z] ∧ h' = h0)
    (fun e t' h' => e = .exit 0 ∧ ∃ x25 x26,t' = [Z,Z,Z,Z,Z,.slice xa L xc,.slice ya L yc,.int .i64 (lz L (L)),Z,Z,Z,Z,Z,Z,Z,Z,Z,Z,Z,Z,Z,Z,Z,Z,Z,x25,x26,Z,Z,Z,Z,Z,Z,Z,Z,Z,Z,Z,Z,Z,Z,Z,Z,Z,Z,Z,Z] ∧ h' = h0) ?_ (L) _ _ ⟨0,by omega,ht,hI0⟩
  rintro k t h' ⟨i,hi,ht,hI⟩
  rw [ht]
  rcases Nat.lt_or_ge i (L) with h1 | h1
  · obtain ⟨q,hq⟩ : ∃ q : Nat,L - 1 - i = q := ⟨_,rfl⟩
    have hz1 : lz L i = (q : Int) := by unfold lz; omega
    have hz2 : IntKind.i64.wrap ((q : Int) - 1) = lz L (i + 1) := by rw [IntWalk.i64_in _ (by omega)]; unfold lz; omega
    subst hI
    rw [hz1]
    have hqL : q < L := by omega
    obtain ⟨xa,xc,C,ce,cs,gr,ro,eb,hg,hc⟩ := sl_u3 hx hqL
    simp only [Value.slice.injEq,true_and] at eb
    obtain ⟨rfl,rfl⟩ := eb
    obtain ⟨ya,yc,C2,ce2,cs2,gr2,ro2,eb,hg2,hc2⟩ := sl_u3 hy hqL
    simp only [Value.slice.injEq,true_and] at eb
    obtain ⟨rfl,rfl⟩ := eb
    
    have he : x.getD q 0 = y.getD q 0 := by rw [hxy]
    rw [he] at hc
    generalize y.getD q 0 = w at *
    simp (maxSteps := 2000000) -implicitDefEqProofs [ble_d,beq_d,List.range_succ,List.replicate,cond_true,cond_false,hqL,aindexAddr,sz101,Try.underlying40,hg,hc,hg2,hc2,pt63_9,pl63_9,an63_9,pt63_11,pl63_11,an63_11,hz2,  undef]
    exact ⟨k - 1,by omega,i + 1,by omega,by simp (maxSteps := 2000000) only [forget,List.set_cons_succ,List.set_cons_zero]⟩
  · obtain rfl : i = L := by omega
    have hz : lz i i = -1 := by unfold lz; omega
    rw [hz]
    simp (maxSteps := 2000000) -implicitDefEqProofs [ble_d,beq_d,List.range_succ,List.replicate,cond_true,cond_false,undef]
    exact hI
set_option maxRecDepth 20000 in
set_option maxHeartbeats 6400000 in
theorem cmpL {h0 : Heap} {xa ya : Option Addr} {xc yc L : Nat} {x y : List Nat} (hL : x.length = L) (hL2 : y.length = L) (wx : W32 x) (wy : W32 y) (ka : L ≤ 1000) (hx : Sl h0 (.slice xa L xc) 1 L (u3 x)) (hy : Sl h0 (.slice ya L yc) 1 L (u3 y)) (p : Nat) (hp : p < L) (hab : ∀ j,p < j → x.getD j 0 = y.getD j 0) (hlt : x.getD p 0 < y.getD p 0) (F : Step) (hFF : F = aexecP Try.prog (sO 63) (run Try.prog sO) loopω pt63 (lb63 0)) (t : Tm)
    (ht : forget [0,1,2,3,4,8,9,10,11,12,13,14,15,16,17,18,19,20,21,22,23,24,25,26,27,28,29,30,31,32,33,34,35,36,37,38,39,40,41,42,43,44,45,46] t = [Z,Z,Z,Z,Z,.slice xa L xc,.slice ya L yc,.int .i64 (lz L (0)),Z,Z,Z,Z,Z,Z,Z,Z,Z,Z,Z,Z,Z,Z,Z,Z,Z,Z,Z,Z,Z,Z,Z,Z,Z,Z,Z,Z,Z,Z,Z,Z,Z,Z,Z,Z,Z,Z,Z]) (hI0 : h0 = h0) :
    ∃ h' x25 x26 x29 x30 x31 x32 x33 x34 x35 x36 x37 x38 x39 x40 x41 x42 x43 x44 x45 x46,loopω [0,1,2,3,4,8,9,10,11,12,13,14,15,16,17,18,19,20,21,22,23,24,25,26,27,28,29,30,31,32,33,34,35,36,37,38,39,40,41,42,43,44,45,46] F t h0 = some (.ret,[Z,Z,Z,Z,.int .i64 (-1),.slice xa L xc,.slice ya L yc,.int .i64 (lz L (L - 1 - p)),Z,Z,Z,Z,Z,Z,Z,Z,Z,Z,Z,Z,Z,Z,Z,Z,Z,x25,x26,Z,Z,x29,x30,x31,x32,x33,x34,x35,x36,x37,x38,x39,x40,x41,x42,x43,x44,x45,x46],h') ∧ h' = h0 := by
  subst hFF
  suffices hs : ∃ e t' h',loopω [0,1,2,3,4,8,9,10,11,12,13,14,15,16,17,18,19,20,21,22,23,24,25,26,27,28,29,30,31,32,33,34,35,36,37,38,39,40,41,42,43,44,45,46] (aexecP Try.prog (sO 63) (run Try.prog sO) loopω pt63 (lb63 0)) t h0 = some (e,t',h') ∧ (e = .ret ∧ ∃ x25 x26 x29 x30 x31 x32 x33 x34 x35 x36 x37 x38 x39 x40 x41 x42 x43 x44 x45 x46,t' = [Z,Z,Z,Z,.int .i64 (-1),.slice xa L xc,.slice ya L yc,.int .i64 (lz L (L - 1 - p)),Z,Z,Z,Z,Z,Z,Z,Z,Z,Z,Z,Z,Z,Z,Z,Z,Z,x25,x26,Z,Z,x29,x30,x31,x32,x33,x34,x35,x36,x37,x38,x39,x40,x41,x42,x43,x44,x45,x46] ∧ h' = h0) by
    obtain ⟨e,t',h',q1,rfl,x25,x26,x29,x30,x31,x32,x33,x34,x35,x36,x37,x38,x39,x40,x41,x42,x43,x44,x45,x46,rfl,q2⟩ := hs
    exact ⟨h',x25,x26,x29,x30,x31,x32,x33,x34,x35,x36,x37,x38,x39,x40,x41,x42,x43,x44,x45,x46,q1,q2⟩
  simp only [lb63,Try.f63,loopsOf,Option.getD_some,List.nil_append,List.append_nil,List.cons_append,List.getD_cons_zero,List.getD_cons_succ]
  refine loop_by (fun k t h' => ∃ (i : Nat),i + k = L - 1 - p ∧ forget [0,1,2,3,4,8,9,10,11,12,13,14,15,16,17,18,19,20,21,22,23,24,25,26,27,28,29,30,31,32,33,34,35,36,37,38,39,40,41,42,43,44,45,46] t = [Z,Z,Z,Z,Z,.slice xa L xc,.slice ya L yc,.int .i64 (lz L (i)),Z,Z,Z,Z,Z,Z,Z,Z,Z,Z,Z,Z,Z,Z,Z,Z,Z,Z,Z,Z,Z,Z,Z,Z,Z,Z,Z,Z,Z,Z,Z,Z,Z,Z,Z,Z,Z,Z,Z] ∧ h' = h0)
    (fun e t' h' => e = .ret ∧ ∃ x25 x26 x29 x30 x31 x32 x33 x34 x35 x36 x37 x38 x39 x40 x41 x42 x43 x44 x45 x46,t' = [Z,Z,Z,Z,.int .i64 (-1),.slice xa L xc,.slice ya L yc,.int .i64 (lz L (L - 1 - p)),Z,Z,Z,Z,Z,Z,Z,Z,Z,Z,Z,Z,Z,Z,Z,Z,Z,x25,x26,Z,Z,x29,x30,x31,x32,x33,x34,x35,x36,x37,x38,x39,x40,x41,x42,x43,x44,x45,x46] ∧ h' = h0) ?_ (L - 1 - p) _ _ ⟨0,by omega,ht,hI0⟩
  rintro k t h' ⟨i,hi,ht,hI⟩
  rw [ht]
  rcases Nat.lt_or_ge i (L - 1 - p) with h1 | h1
  · obtain ⟨q,hq⟩ : ∃ q : Nat,L - 1 - i = q := ⟨_,rfl⟩
    have hz1 : lz L i = (q : Int) := by unfold lz; omega
    have hz2 : IntKind.i64.wrap ((q : Int) - 1) = lz L (i + 1) := by rw [IntWalk.i64_in _ (by omega)]; unfold lz; omega
    subst hI
    rw [hz1]
    have hqL : q < L := by omega
    obtain ⟨xa,xc,C,ce,cs,gr,ro,eb,hg,hc⟩ := sl_u3 hx hqL
    simp only [Value.slice.injEq,true_and] at eb
    obtain ⟨rfl,rfl⟩ := eb
    obtain ⟨ya,yc,C2,ce2,cs2,gr2,ro2,eb,hg2,hc2⟩ := sl_u3 hy hqL
    simp only [Value.slice.injEq,true_and] at eb
    obtain ⟨rfl,rfl⟩ := eb
    
    have he : x.getD q 0 = y.getD q 0 := hab q (by omega)
    rw [he] at hc
    generalize y.getD q 0 = w at *
    simp (maxSteps := 2000000) -implicitDefEqProofs [ble_d,beq_d,List.range_succ,List.replicate,cond_true,cond_false,hqL,aindexAddr,sz101,Try.underlying40,hg,hc,hg2,hc2,pt63_9,pl63_9,an63_9,pt63_11,pl63_11,an63_11,hz2,  undef]
    exact ⟨k - 1,by omega,i + 1,by omega,by simp (maxSteps := 2000000) only [forget,List.set_cons_succ,List.set_cons_zero]⟩
  · obtain rfl : i = L - 1 - p := by omega
    obtain ⟨q,hq⟩ : ∃ q : Nat,L - 1 - (L - 1 - p) = q := ⟨_,rfl⟩
    obtain rfl : q = p := by omega
    have hz1 : lz L (L - 1 - q) = (q : Int) := by unfold lz; omega
    have hz2 : IntKind.i64.wrap ((q : Int) - 1) = lz L (L - 1 - q + 1) := by rw [IntWalk.i64_in _ (by omega)]; unfold lz; omega
    subst hI
    rw [hz1]
    have hqL : q < L := by omega
    obtain ⟨xa,xc,C,ce,cs,gr,ro,eb,hg,hc⟩ := sl_u3 hx hqL
    simp only [Value.slice.injEq,true_and] at eb
    obtain ⟨rfl,rfl⟩ := eb
    obtain ⟨ya,yc,C2,ce2,cs2,gr2,ro2,eb,hg2,hc2⟩ := sl_u3 hy hqL
    simp only [Value.slice.injEq,true_and] at eb
    obtain ⟨rfl,rfl⟩ := eb
    
    generalize x.getD q 0 = u at *
    generalize y.getD q 0 = w at *
    simp (maxSteps := 2000000) -implicitDefEqProofs [ble_d,beq_d,List.range_succ,List.replicate,cond_true,cond_false,hqL,aindexAddr,sz101,Try.underlying40,hg,hc,hg2,hc2,pt63_9,pl63_9,an63_9,pt63_11,pl63_11,an63_11,hz2,hlt,  undef]
set_option maxRecDepth 20000 in
set_option maxHeartbeats 6400000 in
theorem cmpG {h0 : Heap} {xa ya : Option Addr} {xc yc L : Nat} {x y : List Nat} (hL : x.length = L) (hL2 : y.length = L) (wx : W32 x) (wy : W32 y) (ka : L ≤ 1000) (hx : Sl h0 (.slice xa L xc) 1 L (u3 x)) (hy : Sl h0 (.slice ya L yc) 1 L (u3 y)) (p : Nat) (hp : p < L) (hab : ∀ j,p < j → x.getD j 0 = y.getD j 0) (hlt : y.getD p 0 < x.getD p 0) (F : Step) (hFF : F = aexecP Try.prog (sO 63) (run Try.prog sO) loopω pt63 (lb63 0)) (t : Tm)
    (ht : forget [0,1,2,3,4,8,9,10,11,12,13,14,15,16,17,18,19,20,21,22,23,24,25,26,27,28,29,30,31,32,33,34,35,36,37,38,39,40,41,42,43,44,45,46] t = [Z,Z,Z,Z,Z,.slice xa L xc,.slice ya L yc,.int .i64 (lz L (0)),Z,Z,Z,Z,Z,Z,Z,Z,Z,Z,Z,Z,Z,Z,Z,Z,Z,Z,Z,Z,Z,Z,Z,Z,Z,Z,Z,Z,Z,Z,Z,Z,Z,Z,Z,Z,Z,Z,Z]) (hI0 : h0 = h0) :
    ∃ h' x25 x26 x29 x30 x31 x32 x33 x34 x35 x36 x37 x38 x39 x40 x41 x42 x43 x44 x45 x46,loopω [0,1,2,3,4,8,9,10,11,12,13,14,15,16,17,18,19,20,21,22,23,24,25,26,27,28,29,30,31,32,33,34,35,36,37,38,39,40,41,42,43,44,45,46] F t h0 = some (.ret,[Z,Z,Z,Z,.int .i64 1,.slice xa L xc,.slice ya L yc,.int .i64 (lz L (L - 1 - p)),Z,Z,Z,Z,Z,Z,Z,Z,Z,Z,Z,Z,Z,Z,Z,Z,Z,x25,x26,Z,Z,x29,x30,x31,x32,x33,x34,x35,x36,x37,x38,x39,x40,x41,x42,x43,x44,x45,x46],h') ∧ h' = h0 := by
  subst hFF
  suffices hs : ∃ e t' h',loopω [0,1,2,3,4,8,9,10,11,12,13,14,15,16,17,18,19,20,21,22,23,24,25,26,27,28,29,30,31,32,33,34,35,36,37,38,39,40,41,42,43,44,45,46] (aexecP Try.prog (sO 63) (run Try.prog sO) loopω pt63 (lb63 0)) t h0 = some (e,t',h') ∧ (e = .ret ∧ ∃ x25 x26 x29 x30 x31 x32 x33 x34 x35 x36 x37 x38 x39 x40 x41 x42 x43 x44 x45 x46,t' = [Z,Z,Z,Z,.int .i64 1,.slice xa L xc,.slice ya L yc,.int .i64 (lz L (L - 1 - p)),Z,Z,Z,Z,Z,Z,Z,Z,Z,Z,Z,Z,Z,Z,Z,Z,Z,x25,x26,Z,Z,x29,x30,x31,x32,x33,x34,x35,x36,x37,x38,x39,x40,x41,x42,x43,x44,x45,x46] ∧ h' = h0) by
    obtain ⟨e,t',h',q1,rfl,x25,x26,x29,x30,x31,x32,x33,x34,x35,x36,x37,x38,x39,x40,x41,x42,x43,x44,x45,x46,rfl,q2⟩ := hs
    exact ⟨h',x25,x26,x29,x30,x31,x32,x33,x34,x35,x36,x37,x38,x39,x40,x41,x42,x43,x44,x45,x46,q1,q2⟩
  simp only [lb63,Try.f63,loopsOf,Option.getD_some,List.nil_append,List.append_nil,List.cons_append,List.getD_cons_zero,List.getD_cons_succ]
  refine loop_by (fun k t h' => ∃ (i : Nat),i + k = L - 1 - p ∧ forget [0,1,2,3,4,8,9,10,11,12,13,14,15,16,17,18,19,20,21,22,23,24,25,26,27,28,29,30,31,32,33,34,35,36,37,38,39,40,41,42,43,44,45,46] t = [Z,Z,Z,Z,Z,.slice xa L xc,.slice ya L yc,.int .i64 (lz L (i)),Z,Z,Z,Z,Z,Z,Z,Z,Z,Z,Z,Z,Z,Z,Z,Z,Z,Z,Z,Z,Z,Z,Z,Z,Z,Z,Z,Z,Z,Z,Z,Z,Z,Z,Z,Z,Z,Z,Z] ∧ h' = h0)
    (fun e t' h' => e = .ret ∧ ∃ x25 x26 x29 x30 x31 x32 x33 x34 x35 x36 x37 x38 x39 x40 x41 x42 x43 x44 x45 x46,t' = [Z,Z,Z,Z,.int .i64 1,.slice xa L xc,.slice ya L yc,.int .i64 (lz L (L - 1 - p)),Z,Z,Z,Z,Z,Z,Z,Z,Z,Z,Z,Z,Z,Z,Z,Z,Z,x25,x26,Z,Z,x29,x30,x31,x32,x33,x34,x35,x36,x37,x38,x39,x40,x41,x42,x43,x44,x45,x46] ∧ h' = h0) ?_ (L - 1 - p) _ _ ⟨0,by omega,ht,hI0⟩
  rintro k t h' ⟨i,hi,ht,hI⟩
  rw [ht]
  rcases Nat.lt_or_ge i (L - 1 - p) with h1 | h1
  · obtain ⟨q,hq⟩ : ∃ q : Nat,L - 1 - i = q := ⟨_,rfl⟩
    have hz1 : lz L i = (q : Int) := by unfold lz; omega
    have hz2 : IntKind.i64.wrap ((q : Int) - 1) = lz L (i + 1) := by rw [IntWalk.i64_in _ (by omega)]; unfold lz; omega
    subst hI
    rw [hz1]
    have hqL : q < L := by omega
    obtain ⟨xa,xc,C,ce,cs,gr,ro,eb,hg,hc⟩ := sl_u3 hx hqL
    simp only [Value.slice.injEq,true_and] at eb
    obtain ⟨rfl,rfl⟩ := eb
    obtain ⟨ya,yc,C2,ce2,cs2,gr2,ro2,eb,hg2,hc2⟩ := sl_u3 hy hqL
    simp only [Value.slice.injEq,true_and] at eb
    obtain ⟨rfl,rfl⟩ := eb
    
    have he : x.getD q 0 = y.getD q 0 := hab q (by omega)
    rw [he] at hc
    generalize y.getD q 0 = w at *
    simp (maxSteps := 2000000) -implicitDefEqProofs [ble_d,beq_d,List.range_succ,List.replicate,cond_true,cond_false,hqL,aindexAddr,sz101,Try.underlying40,hg,hc,hg2,hc2,pt63_9,pl63_9,an63_9,pt63_11,pl63_11,an63_11,hz2,  undef]
    exact ⟨k - 1,by omega,i + 1,by omega,by simp (maxSteps := 2000000) only [forget,List.set_cons_succ,List.set_cons_zero]⟩
  · obtain rfl : i = L - 1 - p := by omega
    obtain ⟨q,hq⟩ : ∃ q : Nat,L - 1 - (L - 1 - p) = q := ⟨_,rfl⟩
    obtain rfl : q = p := by omega
    have hz1 : lz L (L - 1 - q) = (q : Int) := by unfold lz; omega
    have hz2 : IntKind.i64.wrap ((q : Int) - 1) = lz L (L - 1 - q + 1) := by rw [IntWalk.i64_in _ (by omega)]; unfold lz; omega
    subst hI
    rw [hz1]
    have hqL : q < L := by omega
    obtain ⟨xa,xc,C,ce,cs,gr,ro,eb,hg,hc⟩ := sl_u3 hx hqL
    simp only [Value.slice.injEq,true_and] at eb
    obtain ⟨rfl,rfl⟩ := eb
    obtain ⟨ya,yc,C2,ce2,cs2,gr2,ro2,eb,hg2,hc2⟩ := sl_u3 hy hqL
    simp only [Value.slice.injEq,true_and] at eb
    obtain ⟨rfl,rfl⟩ := eb
    
    generalize x.getD q 0 = u at *
    generalize y.getD q 0 = w at *
    have hnl : ¬ u < w := by omega
    simp (maxSteps := 2000000) -implicitDefEqProofs [ble_d,beq_d,List.range_succ,List.replicate,cond_true,cond_false,hqL,aindexAddr,sz101,Try.underlying40,hg,hc,hg2,hc2,pt63_9,pl63_9,an63_9,pt63_11,pl63_11,an63_11,hz2,hlt,hnl,  undef]
theorem useX20 {ks : List Nat} {F : Step} {t : Tm} {h : Heap} {rr : Option (AEx × Tm × Heap)} {f : Heap → Value → Value → Value → Value → Value → Value → Value → Value → Value → Value → Value → Value → Value → Value → Value → Value → Value → Value → Value → Value → Option (AEx × Tm × Heap)} {p : Heap → Value → Value → Value → Value → Value → Value → Value → Value → Value → Value → Value → Value → Value → Value → Value → Value → Value → Value → Value → Value → Prop} (hl : loopω ks F t h = rr) (H : ∃ h' x0 x1 x2 x3 x4 x5 x6 x7 x8 x9 x10 x11 x12 x13 x14 x15 x16 x17 x18 x19,loopω ks F t h = f h' x0 x1 x2 x3 x4 x5 x6 x7 x8 x9 x10 x11 x12 x13 x14 x15 x16 x17 x18 x19 ∧ p h' x0 x1 x2 x3 x4 x5 x6 x7 x8 x9 x10 x11 x12 x13 x14 x15 x16 x17 x18 x19) : ∃ h' x0 x1 x2 x3 x4 x5 x6 x7 x8 x9 x10 x11 x12 x13 x14 x15 x16 x17 x18 x19,rr = f h' x0 x1 x2 x3 x4 x5 x6 x7 x8 x9 x10 x11 x12 x13 x14 x15 x16 x17 x18 x19 ∧ p h' x0 x1 x2 x3 x4 x5 x6 x7 x8 x9 x10 x11 x12 x13 x14 x15 x16 x17 x18 x19 := hl ▸ H

theorem cmp3_run {h : Heap} {v w : Value} {a b : List Nat} (ha : Na h v a) (hb : Na h w b) : ∃ h',run Try.prog sO 63 [v,w] h = some (.int .i64 (cmpN (nv a) (nv b)),h') ∧ Keep No h h' := by
  obtain ⟨v1,h1,e1,⟨l1,k1,n1⟩,b1⟩ := trim_run ha
  obtain ⟨v2,h2,e2,⟨l2,k2,n2⟩,b2⟩ := trim_run (hb.keep k1)
  have ka := ha.2.2
  have kb := hb.2.2
  have s1 := l1.sl.keep k2 fun _ _ x => x
  have s2 := l2.sl
  obtain ⟨xa0,xc0,rfl⟩ := sl_form ha.1
  obtain ⟨ya0,yc0,rfl⟩ := sl_form hb.1
  obtain ⟨xa,xc,rfl⟩ := sl_form s1
  obtain ⟨ya,yc,rfl⟩ := sl_form s2
  suffices hx : ∃ y,fin Try.prog Try.f63 (aexecP Try.prog (sO 63) (run Try.prog sO) loopω pt63 (Try.f63.body.getD .skip) ([.slice xa0 a.length xc0,.slice ya0 b.length yc0] ++ List.replicate (Try.f63.ntmps - 2) undef) h) = some y ∧ y.1 = .int .i64 (cmpN (nv a) (nv b)) ∧ Keep No h y.2 by
    obtain ⟨⟨y1,y2⟩,hy,rfl,q⟩ := hx
    exact ⟨y2,run_finP pt63 Try.func63 rfl planned63 hy,q⟩
  have hA := lm_w (nv a)
  have hB := lm_w (nv b)
  have kk := k1.trans k2
  rcases Nat.lt_trichotomy (lm (nv a)).length (lm (nv b)).length with c1 | c1 | c1
  · have hv : cmpN (nv a) (nv b) = -1 := by unfold cmpN; rw [if_pos (len_lt c1)]
    rw [hv]
    simp (maxSteps := 2000000) -implicitDefEqProofs [Try.f63,ble_d,beq_d,List.range_succ,List.replicate,cond_true,cond_false,Try.underlying40,en85,e1,e2,c1]
    exact kk
  · have hna : nv (lm (nv a)) = nv a := nv_lm _
    have hnb : nv (lm (nv b)) = nv b := nv_lm _
    rw [c1] at s1 b1 e1
    generalize hLL : (lm (nv b)).length = L at *
    have n0 : ¬ L < L := by omega
    have wd : IntKind.i64.wrap ((L : Int) - 1) = lz L 0 := by rw [IntWalk.i64_in _ (by omega)]; unfold lz; omega
    by_cases he : lm (nv a) = lm (nv b)
    · have hv : cmpN (nv a) (nv b) = 0 := by
        have : nv a = nv b := by rw [← hna,he,hnb]
        unfold cmpN; rw [if_neg (by omega),if_neg (by omega)]
      rw [hv]
      simp (maxSteps := 2000000) -implicitDefEqProofs [Try.f63,ble_d,beq_d,List.range_succ,List.replicate,cond_true,cond_false,Try.underlying40,en85,e1,e2,n0,wd,sO63]
      generalize hl : loopω _ _ _ _ = r
      obtain ⟨h3,x25,x26,hx,hh⟩ := useX2 hl (cmpE (h0 := h2) (xa := xa) (xc := xc) (ya := ya) (yc := yc) (L := L) (x := lm (nv a)) (y := lm (nv b)) c1 hLL hA hB (by omega) s1 s2 he _ (by kernel_rfl) _ (by kernel_rfl) rfl)
      subst hx
      subst hh
      simp (maxSteps := 2000000) -implicitDefEqProofs [ble_d,beq_d,List.range_succ,List.replicate,cond_true,cond_false]
      exact ⟨_,_,⟨rfl,rfl⟩,rfl,kk⟩
    · obtain ⟨p,hp,hab,hlt⟩ := top_diff hA hB (by omega) he
      rw [hna,hnb] at hlt
      rcases hlt with ⟨hlt,hlv⟩ | ⟨hlt,hlv⟩
      · have hv : cmpN (nv a) (nv b) = -1 := by unfold cmpN; rw [if_pos hlv]
        rw [hv]
        simp (maxSteps := 2000000) -implicitDefEqProofs [Try.f63,ble_d,beq_d,List.range_succ,List.replicate,cond_true,cond_false,Try.underlying40,en85,e1,e2,n0,wd,sO63]
        generalize hl : loopω _ _ _ _ = r
        obtain ⟨h3,x0,x1,x2,x3,x4,x5,x6,x7,x8,x9,x10,x11,x12,x13,x14,x15,x16,x17,x18,x19,hx,hh⟩ := useX20 hl (cmpL (h0 := h2) (xa := xa) (xc := xc) (ya := ya) (yc := yc) (L := L) (x := lm (nv a)) (y := lm (nv b)) c1 hLL hA hB (by omega) s1 s2 p (by omega) hab hlt _ (by kernel_rfl) _ (by kernel_rfl) rfl)
        subst hx
        subst hh
        simp (maxSteps := 2000000) -implicitDefEqProofs [ble_d,beq_d,List.range_succ,List.replicate,cond_true,cond_false]
        exact ⟨_,_,⟨rfl,rfl⟩,rfl,kk⟩
      · have hv : cmpN (nv a) (nv b) = 1 := by unfold cmpN; rw [if_neg (by omega),if_pos hlv]
        rw [hv]
        simp (maxSteps := 2000000) -implicitDefEqProofs [Try.f63,ble_d,beq_d,List.range_succ,List.replicate,cond_true,cond_false,Try.underlying40,en85,e1,e2,n0,wd,sO63]
        generalize hl : loopω _ _ _ _ = r
        obtain ⟨h3,x0,x1,x2,x3,x4,x5,x6,x7,x8,x9,x10,x11,x12,x13,x14,x15,x16,x17,x18,x19,hx,hh⟩ := useX20 hl (cmpG (h0 := h2) (xa := xa) (xc := xc) (ya := ya) (yc := yc) (L := L) (x := lm (nv a)) (y := lm (nv b)) c1 hLL hA hB (by omega) s1 s2 p (by omega) hab hlt _ (by kernel_rfl) _ (by kernel_rfl) rfl)
        subst hx
        subst hh
        simp (maxSteps := 2000000) -implicitDefEqProofs [ble_d,beq_d,List.range_succ,List.replicate,cond_true,cond_false]
        exact ⟨_,_,⟨rfl,rfl⟩,rfl,kk⟩
  · have c2 : ¬ (lm (nv a)).length < (lm (nv b)).length := by omega
    have hv : cmpN (nv a) (nv b) = 1 := by unfold cmpN; rw [if_neg (by have := len_lt c1; omega),if_pos (len_lt c1)]
    rw [hv]
    simp (maxSteps := 2000000) -implicitDefEqProofs [Try.f63,ble_d,beq_d,List.range_succ,List.replicate,cond_true,cond_false,Try.underlying40,en85,e1,e2,c1,c2]
    exact kk
end Go.Proofs.Ytmnkmdfladbgdaa.Od

set_option linter.unusedVariables false
set_option linter.unusedSimpArgs false
namespace Go.Proofs.Ytmnkmdfladbgdaa.Od
open Go Go.Proofs Go.RowKit Go.Proofs.YtmnkmdfladbgdaaAI Go.Proofs.YtmnkmdfladbgdaaFl

noncomputable def lb86 (i : Nat) : Code := (loopsOf (Try.f86.body.getD .skip)).getD i .skip

theorem log2_of {n k : Nat} (h1 : 2 ^ k ≤ n) (h2 : n < 2 ^ (k + 1)) : n.log2 = k := by
  have h0 : n ≠ 0 := by have := Nat.two_pow_pos k; omega
  exact (Nat.log2_eq_iff h0).2 ⟨h1,h2⟩
theorem log2_up {lo x j : Nat} (hlo : lo < 2 ^ j) (hx : 0 < x) : (lo + 2 ^ j * x).log2 = j + x.log2 := by
  have h1 : 2 ^ x.log2 ≤ x := Nat.log2_self_le (by omega)
  have h2 : x < 2 ^ (x.log2 + 1) := Nat.lt_log2_self
  refine log2_of ?_ ?_
  · rw [Nat.pow_add]
    have := Nat.mul_le_mul_left (2 ^ j) h1
    omega
  · rw [Nat.add_assoc,Nat.pow_add]
    have := Nat.mul_le_mul_left (2 ^ j) (Nat.succ_le_of_lt h2)
    rw [Nat.mul_succ] at this
    omega
def dv (x i : Nat) : Nat := x / 2 ^ i
def bl (n : Nat) : Nat := if n = 0 then 0 else n.log2 + 1
theorem bl_lm {n : Nat} (h : 0 < n) : 0 < (lm n).length ∧ 0 < (lm n).getD ((lm n).length - 1) 0 ∧ bl n = 32 * ((lm n).length - 1) + ((lm n).getD ((lm n).length - 1) 0).log2 + 1 := by
  obtain ⟨h1,h2⟩ := lm_last h
  refine ⟨h1,by omega,?_⟩
  have hw := lm_w n
  obtain ⟨j,hj⟩ : ∃ j,(lm n).length - 1 = j := ⟨_,rfl⟩
  rw [hj] at h2 ⊢
  have h3 := nv_take (l := lm n) (i := j) (by omega)
  rw [show j + 1 = (lm n).length by omega,List.take_length,nv_lm] at h3
  have h4 : nv ((lm n).take j) < 4294967296 ^ j := by
    have := nv_lt (l := (lm n).take j) fun x hx => hw x (List.mem_of_mem_take hx)
    rw [List.length_take,Nat.min_eq_left (by omega)] at this
    exact this
  have h5 : (4294967296 : Nat) ^ j = 2 ^ (32 * j) := by rw [show (4294967296 : Nat) = 2 ^ 32 from rfl,← Nat.pow_mul]
  rw [h5] at h3 h4
  unfold bl
  rw [if_neg (by omega)]
  conv => lhs; rw [h3]
  rw [log2_up h4 (by omega)]
set_option maxRecDepth 20000 in
set_option maxHeartbeats 6400000 in
theorem bits1 {h0 : Heap} {b x : Nat} (hb : b ≤ 100000) (hx : 0 < x) (hx2 : x < 4294967296) (F : Step) (hFF : F = aexecP Try.prog (sO 86) (run Try.prog sO) loopω pt86 (lb86 0)) (t : Tm)
    (ht : forget [0,1,2,3,6,7,8,9,10,11,12,13,14,15,16,17,18,19,20,21,22,23,24,25,26,27] t = [Z,Z,Z,Z,.int .i64 (zi b (0) : Nat),.int .u32 (dv x (0) : Nat),Z,Z,Z,Z,Z,Z,Z,Z,Z,Z,Z,Z,Z,Z,Z,Z,Z,Z,Z,Z,Z,Z]) (hI0 : h0 = h0) :
    ∃ h' x21 x22,loopω [0,1,2,3,6,7,8,9,10,11,12,13,14,15,16,17,18,19,20,21,22,23,24,25,26,27] F t h0 = some (.exit 0,[Z,Z,Z,Z,.int .i64 (zi b (x.log2 + 1) : Nat),.int .u32 (dv x (x.log2 + 1) : Nat),Z,Z,Z,Z,Z,Z,Z,Z,Z,Z,Z,Z,Z,Z,Z,x21,x22,Z,Z,Z,Z,Z],h') ∧ h' = h0 := by
  subst hFF
  suffices hs : ∃ e t' h',loopω [0,1,2,3,6,7,8,9,10,11,12,13,14,15,16,17,18,19,20,21,22,23,24,25,26,27] (aexecP Try.prog (sO 86) (run Try.prog sO) loopω pt86 (lb86 0)) t h0 = some (e,t',h') ∧ (e = .exit 0 ∧ ∃ x21 x22,t' = [Z,Z,Z,Z,.int .i64 (zi b (x.log2 + 1) : Nat),.int .u32 (dv x (x.log2 + 1) : Nat),Z,Z,Z,Z,Z,Z,Z,Z,Z,Z,Z,Z,Z,Z,Z,x21,x22,Z,Z,Z,Z,Z] ∧ h' = h0) by
    obtain ⟨e,t',h',q1,rfl,x21,x22,rfl,q2⟩ := hs
    exact ⟨h',x21,x22,q1,q2⟩
  simp only [lb86,Try.f86,loopsOf,Option.getD_some,List.nil_append,List.append_nil,List.cons_append,List.getD_cons_zero,List.getD_cons_succ]
  refine loop_by (fun k t h' => ∃ (i : Nat),i + k = x.log2 + 1 ∧ forget [0,1,2,3,6,7,8,9,10,11,12,13,14,15,16,17,18,19,20,21,22,23,24,25,26,27] t = [Z,Z,Z,Z,.int .i64 (zi b (i) : Nat),.int .u32 (dv x (i) : Nat),Z,Z,Z,Z,Z,Z,Z,Z,Z,Z,Z,Z,Z,Z,Z,Z,Z,Z,Z,Z,Z,Z] ∧ h' = h0)
    (fun e t' h' => e = .exit 0 ∧ ∃ x21 x22,t' = [Z,Z,Z,Z,.int .i64 (zi b (x.log2 + 1) : Nat),.int .u32 (dv x (x.log2 + 1) : Nat),Z,Z,Z,Z,Z,Z,Z,Z,Z,Z,Z,Z,Z,Z,Z,x21,x22,Z,Z,Z,Z,Z] ∧ h' = h0) ?_ (x.log2 + 1) _ _ ⟨0,by omega,ht,hI0⟩
  rintro k t h' ⟨i,hi,ht,hI⟩
  rw [ht]
  rcases Nat.lt_or_ge i (x.log2 + 1) with h1 | h1
  · have hlg : x.log2 < 32 := by
      rcases Nat.lt_or_ge x.log2 32 with h | h
      · exact h
      · have h3 : 2 ^ x.log2 ≤ x := Nat.log2_self_le (by omega)
        have h4 := Nat.pow_le_pow_right (show 0 < 2 by omega) h
        omega
    obtain ⟨p,hp⟩ : ∃ p,zi b i = p := ⟨_,rfl⟩
    obtain ⟨r,hr⟩ : ∃ r,zi b (i + 1) = r := ⟨_,rfl⟩
    obtain ⟨q,hq0'⟩ : ∃ q,dv x i = q := ⟨_,rfl⟩
    have hq : x / 2 ^ i = q := hq0'
    have hpi : b + i = p := hp
    have hri : b + (i + 1) = r := hr
    have hq0 : 0 < q := by
      rw [← hq]
      have h3 : 2 ^ x.log2 ≤ x := Nat.log2_self_le (by omega)
      have h4 : 2 ^ i ≤ 2 ^ x.log2 := Nat.pow_le_pow_right (by omega) (by omega)
      exact Nat.div_pos (by omega) (Nat.two_pow_pos i)
    have hql : q < 4294967296 := by rw [← hq]; exact Nat.lt_of_le_of_lt (Nat.div_le_self _ _) hx2
    obtain ⟨q2,hq2⟩ : ∃ y,q / 2 = y := ⟨_,rfl⟩
    have hq3 : dv x (i + 1) = q2 := by unfold dv; rw [← hq2,← hq,Nat.pow_succ,Nat.div_div_eq_div_mul]
    have w1 : IntKind.i64.wrap ((p : Int) + 1) = (r : Int) := by rw [IntWalk.i64_in _ (by omega)]; omega
    have w2 : IntKind.u32.wrap ((q : Int).tdiv 2) = (q2 : Int) := by
      have : (q : Int).tdiv 2 = ((q / 2 : Nat) : Int) := rfl
      rw [this]; exact wu32 hq2 (by omega)
    have w2' : IntKind.u32.wrap ((q : Int) / 2) = (q2 : Int) := by
      have : (q : Int) / 2 = ((q / 2 : Nat) : Int) := by omega
      rw [this]; exact wu32 hq2 (by omega)
    subst hI
    rw [hp,hq0']
    simp (maxSteps := 2000000) -implicitDefEqProofs [ble_d,beq_d,List.range_succ,List.replicate,cond_true,cond_false,hq0,w1,w2,w2',undef]
    exact ⟨k - 1,by omega,i + 1,by omega,by simp (maxSteps := 2000000) only [forget,List.set_cons_succ,List.set_cons_zero,hr,hq3]⟩
  · obtain rfl : i = x.log2 + 1 := by omega
    have hq : dv x (x.log2 + 1) = 0 := Nat.div_eq_of_lt Nat.lt_log2_self
    rw [hq]
    simp (maxSteps := 2000000) -implicitDefEqProofs [ble_d,beq_d,List.range_succ,List.replicate,cond_true,cond_false,undef]
    exact hI

theorem bits_run {h : Heap} {v : Value} {a : List Nat} (ha : Na h v a) : ∃ h',run Try.prog sO 86 [v] h = some (.int .i64 (bl (nv a) : Nat),h') ∧ Keep No h h' := by
  obtain ⟨v1,h1,e1,⟨l1,k1,n1⟩,b1⟩ := trim_run ha
  have ka := ha.2.2
  have s1 := l1.sl
  obtain ⟨va0,vc0,rfl⟩ := sl_form ha.1
  obtain ⟨va,vca,rfl⟩ := sl_form s1
  suffices hx : ∃ y,fin Try.prog Try.f86 (aexecP Try.prog (sO 86) (run Try.prog sO) loopω pt86 (Try.f86.body.getD .skip) ([.slice va0 a.length vc0] ++ List.replicate (Try.f86.ntmps - 1) undef) h) = some y ∧ y.1 = .int .i64 (bl (nv a) : Nat) ∧ Keep No h y.2 by
    obtain ⟨⟨y1,y2⟩,hy,rfl,q⟩ := hx
    exact ⟨y2,run_finP pt86 Try.func86 rfl planned86 hy,q⟩
  rcases Nat.eq_zero_or_pos (nv a) with h0 | h0
  · have hz : (lm (nv a)).length = 0 := by rw [h0,lm_zero]; rfl
    have hv : bl (nv a) = 0 := by unfold bl; rw [if_pos h0]
    rw [hv]
    rw [hz] at e1
    simp (maxSteps := 2000000) -implicitDefEqProofs [Try.f86,ble_d,beq_d,List.range_succ,List.replicate,cond_true,cond_false,Try.underlying40,en85,e1]
    exact k1
  · obtain ⟨c1,c2,c3⟩ := bl_lm h0
    obtain ⟨j,hj⟩ : ∃ j,(lm (nv a)).length - 1 = j := ⟨_,rfl⟩
    have hj1 : (lm (nv a)).length = j + 1 := by omega
    rw [hj] at c2 c3
    have hxl : (lm (nv a)).getD j 0 < 4294967296 := (lm_w (nv a)).get j
    have hjlt : j < j + 1 := by omega
    rw [hj1] at s1 e1
    obtain ⟨va,vca,C,ce,cs,gr,ro,eb,hg,hc⟩ := sl_u3 s1 hjlt
    simp only [Value.slice.injEq,true_and] at eb
    obtain ⟨rfl,rfl⟩ := eb
    generalize (lm (nv a)).getD j 0 = x at *
    obtain ⟨L,hL⟩ : ∃ L,j + 1 = L := ⟨_,rfl⟩
    rw [hL] at e1 hjlt
    have w1 : IntKind.i64.wrap ((L : Int) - 1) = (j : Int) := by rw [IntWalk.i64_in _ (by omega)]; omega
    obtain ⟨b,hb⟩ : ∃ b,32 * j = b := ⟨_,rfl⟩
    have w2 : IntKind.i64.wrap (32 * (j : Int)) = (b : Int) := by rw [IntWalk.i64_in _ (by omega)]; omega
    have n0 : ¬ L = 0 := by omega
    simp (maxSteps := 2000000) -implicitDefEqProofs [Try.f86,ble_d,beq_d,List.range_succ,List.replicate,cond_true,cond_false,Try.underlying40,en85,e1,w1,w2,n0,ibeq,hjlt,aindexAddr,sz101,hg,hc,sO86]
    generalize hl : loopω _ _ _ _ = r
    have hz0 : zi b 0 = b := rfl
    have hd0 : dv x 0 = x := by unfold dv; simp
    obtain ⟨h3,x21,x22,hx,hh⟩ := useX2 hl (bits1 (h0 := h1) (b := b) (x := x) (by omega) c2 hxl _ (by kernel_rfl) _ (by rw [hz0,hd0]; kernel_rfl) rfl)
    subst hx
    subst hh
    have hfin : zi b (x.log2 + 1) = bl (nv a) := by unfold zi; rw [c3]; omega
    rw [hfin]
    simp (maxSteps := 2000000) -implicitDefEqProofs [ble_d,beq_d,List.range_succ,List.replicate,cond_true,cond_false]
    exact ⟨_,_,⟨rfl,rfl⟩,rfl,k1⟩
theorem bit_eq {a : List Nat} (ha : W32 a) {n z s : Nat} (hz : n = 32 * z + s) (hs : s < 32) : a.getD z 0 / 2 ^ s % 2 = nv a / 2 ^ n % 2 := by
  have h1 := nv_div ha z
  obtain ⟨q,hq⟩ : ∃ q,4294967296 = 2 ^ s * (2 * q) := ⟨2 ^ (31 - s),by rw [← Nat.pow_succ',← Nat.pow_add,show s + (31 - s).succ = 32 by omega]⟩
  have h2 : nv a / 2 ^ n = nv a / 4294967296 ^ z / 2 ^ s := by
    rw [Nat.div_div_eq_div_mul,hz,show (4294967296 : Nat) = 2 ^ 32 from rfl,← Nat.pow_mul,← Nat.pow_add]
  have h3 : nv a / 4294967296 ^ z = a.getD z 0 + 2 ^ s * (2 * (q * (nv a / 4294967296 ^ (z + 1)))) := by
    rw [h1,← Nat.mul_assoc,← Nat.mul_assoc,Nat.mul_assoc (2 ^ s) 2 q,← hq]
  rw [h2,h3,Nat.add_mul_div_left _ _ (Nat.two_pow_pos s)]
  omega
theorem bit_run {h : Heap} {v : Value} {a : List Nat} (n : Nat) (ha : Na h v a) (hn : n ≤ 100000) : run Try.prog sO 88 [v,.int .i64 (n : Nat)] h = some (.bool (decide (nv a / 2 ^ n % 2 = 1)),h) := by
  obtain ⟨hv,wa,ka⟩ := ha
  obtain ⟨va,vca,rfl⟩ := sl_form hv
  obtain ⟨z,hz⟩ : ∃ z,z = n / 32 := ⟨_,rfl⟩
  obtain ⟨s,hs⟩ : ∃ s,s = n % 32 := ⟨_,rfl⟩
  have d1 : IntKind.i64.wrap ((n : Int).tdiv 32) = (z : Int) := by
    have : (n : Int).tdiv 32 = ((n / 32 : Nat) : Int) := rfl
    rw [this]; exact wi64 hz.symm (by omega)
  have d1' : IntKind.i64.wrap ((n : Int) / 32) = (z : Int) := by
    have : (n : Int) / 32 = ((n / 32 : Nat) : Int) := by omega
    rw [this]; exact wi64 hz.symm (by omega)
  have m1 : (n : Int).tmod 32 = (s : Int) := by rw [hs]; rfl
  have m1' : (n : Int) % 32 = (s : Int) := by omega
  refine run_finP pt88 Try.func88 rfl planned88 ?_
  have n0 : ¬ ((n : Int) < 0) := by omega
  have hbe := @bit_eq a wa n z s (by omega) (by omega)
  by_cases c1 : a.length ≤ z
  · rw [getD_out c1,Nat.zero_div] at hbe
    have hv0 : decide (nv a / 2 ^ n % 2 = 1) = false := by rw [← hbe]; rfl
    rw [hv0]
    simp (maxSteps := 2000000) -implicitDefEqProofs [Try.f88,ble_d,beq_d,List.range_succ,List.replicate,cond_true,cond_false,n0,Try.underlying40,d1,d1',c1,undef]
  · have c2 : z < a.length := by omega
    obtain ⟨va,vca,C,ce,cs,gr,ro,eb,hg,hc⟩ := sl_u3 hv c2
    simp only [Value.slice.injEq,true_and] at eb
    obtain ⟨rfl,rfl⟩ := eb
    rw [← hbe]
    generalize a.getD z 0 = x at *
    obtain ⟨f,hf⟩ : ∃ f,x / 2 ^ s = f := ⟨_,rfl⟩
    obtain ⟨g,hgg⟩ : ∃ g,f % 2 = g := ⟨_,rfl⟩
    rw [hf,hgg]
    have w1 := wu64 (a := s) rfl (by omega)
    have w2 := shr32 (a := x) (k := s) hf (by omega)
    have w3 : (f : Int).tmod 2 = (g : Int) := by rw [← hgg]; rfl
    have w3' : (f : Int) % 2 = (g : Int) := by omega
    have hgi : ((g : Int) = 1) = (g = 1) := by rw [eq_iff_iff]; omega
    simp (maxSteps := 2000000) -implicitDefEqProofs [Try.f88,ble_d,beq_d,List.range_succ,List.replicate,cond_true,cond_false,n0,Try.underlying40,d1,d1',m1,m1',c1,c2,w1,w2,w3,w3',ibeq,hgi,shr101,cv3_117,aindexAddr,sz101,hg,hc,undef]
theorem bs40_2' (a b : Int) (d ty pos af gu) : aalloc Try.prog (fun x => match x with | .tmp 0 => .int .u32 a | _ => .int .u32 b) ⟨d,.buildSlice 40 2 #[(0,.tmp 0),(1,.tmp 1)],ty,pos,af,gu⟩ = some (.cells [.int .u32 a,.int .u32 b] 101 1 false false,fun n => .slice (some ⟨n,0,none⟩) 2 2) := by kernel_rfl
theorem bs40_2 (ρ : Operand → Value) (x y) (a b : Int) (hx : ρ x = .int .u32 a) (hy : ρ y = .int .u32 b) (d ty pos af gu) : aalloc Try.prog ρ ⟨d,.buildSlice 40 2 #[(0,x),(1,y)],ty,pos,af,gu⟩ = some (.cells [.int .u32 a,.int .u32 b] 101 1 false false,fun n => .slice (some ⟨n,0,none⟩) 2 2) := by
  have h1 : aalloc Try.prog ρ ⟨d,.buildSlice 40 2 #[(0,x),(1,y)],ty,pos,af,gu⟩ = aalloc Try.prog (fun x => match x with | .tmp 0 => .int .u32 a | _ => .int .u32 b) ⟨d,.buildSlice 40 2 #[(0,.tmp 0),(1,.tmp 1)],ty,pos,af,gu⟩ := by simp [aalloc,hx,hy]
  rw [h1]; exact bs40_2' _ _ _ _ _ _ _
theorem nat_run {h : Heap} {m : Nat} (hm : m < 18446744073709551616) : ∃ v h',run Try.prog sO 62 [U m] h = some (v,h') ∧ Na h' v [m % 4294967296,m / 4294967296] ∧ Keep No h h' := by
  obtain ⟨x,hx⟩ : ∃ x,m % 4294967296 = x := ⟨_,rfl⟩
  obtain ⟨y,hy⟩ : ∃ x,m / 4294967296 = x := ⟨_,rfl⟩
  have w1 := mod32 hx
  have w2 := quo32' hy (by omega)
  have w3 := wu32 (a := x) rfl (by omega)
  have w4 := wu32 (a := y) rfl (by omega)
  refine ⟨.slice (some ⟨h.next,0,none⟩) 2 2,h.new (.cells [.int .u32 (x : Nat),.int .u32 (y : Nat)] 101 1 false false),run_finP pt62 Try.func62 rfl planned62 ?_,?_,Keep.new _ _ _⟩
  · simp (maxSteps := 2000000) -implicitDefEqProofs [Try.f62,ble_d,beq_d,List.range_succ,List.replicate,cond_true,cond_false,Try.underlying40,w1,w2,w3,w4,cv37_101,(fun ρ a b hx hy => bs40_2 ρ a b (x : Int) (y : Int) hx hy)]
  · rw [hx,hy]
    refine ⟨⟨by simp [u3],.inr ⟨_,_,rfl,fun _ => ⟨_,_,_,_,_,by rw [Heap.get_new,if_pos rfl],by simp [u3]⟩⟩⟩,fun z hz => ?_,by simp⟩
    simp only [List.mem_cons,List.not_mem_nil,or_false] at hz
    omega
theorem nv_two (m : Nat) : nv [m % 4294967296,m / 4294967296] = m := by simp only [nv]; omega
end Go.Proofs.Ytmnkmdfladbgdaa.Od
