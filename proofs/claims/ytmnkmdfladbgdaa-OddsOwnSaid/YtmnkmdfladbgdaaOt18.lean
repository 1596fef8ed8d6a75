/- Odds: the document's Table, a row's place. -/
import Derived.Test.YtmnkmdfladbgdaaOt15
import Derived.Test.YtmnkmdfladbgdaaOd29
set_option linter.unusedVariables false
set_option linter.unusedSimpArgs false
namespace Go.Proofs.Ytmnkmdfladbgdaa.Od
open Go Go.Proofs Go.RowKit Go.Proofs.YtmnkmdfladbgdaaAI Go.Proofs.YtmnkmdfladbgdaaFl Go.Proofs.YtmnkmdfladbgdaaSrt
noncomputable def lt26 (i : Nat) : Code := (loopsOf (Try.f26.body.getD .skip)).getD i .skip

theorem us_snoc' (l : List Nat) (x : Nat) : us (l ++ [x]) = us l ++ [.int .u64 (x : Nat)] := by simp [us]
theorem app_usL {h : Heap} {v : Value} {l : List Nat} (hl : Lg h v 37 1 l.length (us l)) (hk : (l.length + 1) * 8 ≤ 2 ^ 47) (x : Nat) :
    ∃ v' h',aappend Try.prog 22 22 v (.slice (some ⟨h.next,0,none⟩) 1 1) (h.new (.cells [.int .u64 (x : Nat)] 37 1 false false)) = some (v',h') ∧ Lg h' v' 37 1 (l ++ [x]).length (us (l ++ [x])) ∧ Keep (fun m => nm v = some m) h h' ∧ ∀ m,nm v' = some m → nm v = some m ∨ h.next ≤ m := by
  have k0 := Keep.new No h (.cells [.int .u64 (x : Nat)] 37 1 false false)
  have hx : Sl (h.new (.cells [.int .u64 (x : Nat)] 37 1 false false)) (.slice (some ⟨h.next,0,none⟩) 1 1) 1 1 [.int .u64 (x : Nat)] :=
    ⟨rfl,.inr ⟨_,_,rfl,fun _ => ⟨_,_,_,_,_,by rw [Heap.get_new,if_pos rfl],rfl⟩⟩⟩
  obtain ⟨v8,h8,e8,lg8,kp8,nv8,_,nf8⟩ := append_lg (t := 22) (xt := 22) Try.underlying22 Try.underlying22 rfl el37 (hl.keep k0 (fun _ _ x => x)) hx (by omega) (by omega) rfl
  refine ⟨v8,h8,e8,by rw [us_snoc',List.length_append]; exact lg8,(k0.mono fun m _ x => x.elim).also kp8 fun m _ x => x,fun m e => ?_⟩
  rcases Nat.lt_or_ge m (h.next + 1) with y | y
  · exact .inl (nv8 m e (by rw [Heap.next_new]; exact y))
  · exact .inr (by omega)
set_option maxRecDepth 20000 in
set_option maxHeartbeats 6400000 in
theorem rtbE {h0 : Heap} {va wa : Option Addr} {vc wc n : Nat} {ws : List Nat} {l : List Oc} (hn : l.length = n) (hk : n * 8 ≤ 2 ^ 47) (hw : W64 ws) (kw : ws.length ≤ 2 ^ 47) (hsm : Small l) (hv : Outs h0 (.slice va n vc) l) (hws : Sl h0 (.slice wa ws.length wc) 1 ws.length (us ws)) (hall : ∀ i,i < n → okPk (l.getD i oc0) = true) (v0 : Value) (F : Step) (hFF : F = aexecP Try.prog (sO 26) (run Try.prog sO) loopω pt26 (lt26 0)) (t : Tm)
    (ht : forget [2,3,4,5,8,9,10,11,12,13,14,15,16,17,18,19,20,21,22,23,24,25,26,27,28,29,30,31,32,33,34,35,36,37,38,39,40,41,42,43,44,45,46,47,48,49,50,51,52,53,54,55,56,57,58,59,60,61,62,63,64,65,66,67,68,69,70,71,72,73,74,75,76,77,78,79,80,81,82,83,84,85,86,87,88,89,90,91,92,93,94,95,96,97,98,99,100,101,102,103,104,105,106,107,108,109,110,111] t = [.slice va n vc,.slice wa ws.length wc,Z,Z,Z,Z,v0,.int .i64 (0 : Nat),Z,Z,Z,Z,Z,Z,Z,Z,Z,Z,Z,Z,Z,Z,Z,Z,Z,Z,Z,Z,Z,Z,Z,Z,Z,Z,Z,Z,Z,Z,Z,Z,Z,Z,Z,Z,Z,Z,Z,Z,Z,Z,Z,Z,Z,Z,Z,Z,Z,Z,Z,Z,Z,Z,Z,Z,Z,Z,Z,Z,Z,Z,Z,Z,Z,Z,Z,Z,Z,Z,Z,Z,Z,Z,Z,Z,Z,Z,Z,Z,Z,Z,Z,Z,Z,Z,Z,Z,Z,Z,Z,Z,Z,Z,Z,Z,Z,Z,Z,Z,Z,Z,Z,Z]) (hI0 : (Lg h0 v0 37 1 (0) (us (chs ws (l.take (0)))) ∧ Keep No h0 h0 ∧ ∀ m,nm v0 = some m → h0.next ≤ m)) :
    ∃ h' v x16 x17 x18 x19,loopω [2,3,4,5,8,9,10,11,12,13,14,15,16,17,18,19,20,21,22,23,24,25,26,27,28,29,30,31,32,33,34,35,36,37,38,39,40,41,42,43,44,45,46,47,48,49,50,51,52,53,54,55,56,57,58,59,60,61,62,63,64,65,66,67,68,69,70,71,72,73,74,75,76,77,78,79,80,81,82,83,84,85,86,87,88,89,90,91,92,93,94,95,96,97,98,99,100,101,102,103,104,105,106,107,108,109,110,111] F t h0 = some (.exit 0,[.slice va n vc,.slice wa ws.length wc,Z,Z,Z,Z,v,.int .i64 (n : Nat),Z,Z,Z,Z,Z,Z,Z,Z,x16,x17,x18,x19,Z,Z,Z,Z,Z,Z,Z,Z,Z,Z,Z,Z,Z,Z,Z,Z,Z,Z,Z,Z,Z,Z,Z,Z,Z,Z,Z,Z,Z,Z,Z,Z,Z,Z,Z,Z,Z,Z,Z,Z,Z,Z,Z,Z,Z,Z,Z,Z,Z,Z,Z,Z,Z,Z,Z,Z,Z,Z,Z,Z,Z,Z,Z,Z,Z,Z,Z,Z,Z,Z,Z,Z,Z,Z,Z,Z,Z,Z,Z,Z,Z,Z,Z,Z,Z,Z,Z,Z,Z,Z,Z,Z],h') ∧ (Lg h' v 37 1 (n) (us (chs ws (l.take (n)))) ∧ Keep No h0 h' ∧ ∀ m,nm v = some m → h0.next ≤ m) := by
  subst hFF
  suffices hs : ∃ e t' h',loopω [2,3,4,5,8,9,10,11,12,13,14,15,16,17,18,19,20,21,22,23,24,25,26,27,28,29,30,31,32,33,34,35,36,37,38,39,40,41,42,43,44,45,46,47,48,49,50,51,52,53,54,55,56,57,58,59,60,61,62,63,64,65,66,67,68,69,70,71,72,73,74,75,76,77,78,79,80,81,82,83,84,85,86,87,88,89,90,91,92,93,94,95,96,97,98,99,100,101,102,103,104,105,106,107,108,109,110,111] (aexecP Try.prog (sO 26) (run Try.prog sO) loopω pt26 (lt26 0)) t h0 = some (e,t',h') ∧ (e = .exit 0 ∧ ∃ v x16 x17 x18 x19,t' = [.slice va n vc,.slice wa ws.length wc,Z,Z,Z,Z,v,.int .i64 (n : Nat),Z,Z,Z,Z,Z,Z,Z,Z,x16,x17,x18,x19,Z,Z,Z,Z,Z,Z,Z,Z,Z,Z,Z,Z,Z,Z,Z,Z,Z,Z,Z,Z,Z,Z,Z,Z,Z,Z,Z,Z,Z,Z,Z,Z,Z,Z,Z,Z,Z,Z,Z,Z,Z,Z,Z,Z,Z,Z,Z,Z,Z,Z,Z,Z,Z,Z,Z,Z,Z,Z,Z,Z,Z,Z,Z,Z,Z,Z,Z,Z,Z,Z,Z,Z,Z,Z,Z,Z,Z,Z,Z,Z,Z,Z,Z,Z,Z,Z,Z,Z,Z,Z,Z,Z] ∧ (Lg h' v 37 1 (n) (us (chs ws (l.take (n)))) ∧ Keep No h0 h' ∧ ∀ m,nm v = some m → h0.next ≤ m)) by
    obtain ⟨e,t',h',q1,rfl,v,x16,x17,x18,x19,rfl,q2⟩ := hs
    exact ⟨h',v,x16,x17,x18,x19,q1,q2⟩
  simp only [lt26,Try.f26,loopsOf,Option.getD_some,List.nil_append,List.append_nil,List.cons_append,List.getD_cons_zero,List.getD_cons_succ]
  refine loop_by (fun k t h' => ∃ (i : Nat) (v : Value),i + k = n ∧ forget [2,3,4,5,8,9,10,11,12,13,14,15,16,17,18,19,20,21,22,23,24,25,26,27,28,29,30,31,32,33,34,35,36,37,38,39,40,41,42,43,44,45,46,47,48,49,50,51,52,53,54,55,56,57,58,59,60,61,62,63,64,65,66,67,68,69,70,71,72,73,74,75,76,77,78,79,80,81,82,83,84,85,86,87,88,89,90,91,92,93,94,95,96,97,98,99,100,101,102,103,104,105,106,107,108,109,110,111] t = [.slice va n vc,.slice wa ws.length wc,Z,Z,Z,Z,v,.int .i64 (i : Nat),Z,Z,Z,Z,Z,Z,Z,Z,Z,Z,Z,Z,Z,Z,Z,Z,Z,Z,Z,Z,Z,Z,Z,Z,Z,Z,Z,Z,Z,Z,Z,Z,Z,Z,Z,Z,Z,Z,Z,Z,Z,Z,Z,Z,Z,Z,Z,Z,Z,Z,Z,Z,Z,Z,Z,Z,Z,Z,Z,Z,Z,Z,Z,Z,Z,Z,Z,Z,Z,Z,Z,Z,Z,Z,Z,Z,Z,Z,Z,Z,Z,Z,Z,Z,Z,Z,Z,Z,Z,Z,Z,Z,Z,Z,Z,Z,Z,Z,Z,Z,Z,Z,Z,Z] ∧ (Lg h' v 37 1 (i) (us (chs ws (l.take (i)))) ∧ Keep No h0 h' ∧ ∀ m,nm v = some m → h0.next ≤ m))
    (fun e t' h' => e = .exit 0 ∧ ∃ v x16 x17 x18 x19,t' = [.slice va n vc,.slice wa ws.length wc,Z,Z,Z,Z,v,.int .i64 (n : Nat),Z,Z,Z,Z,Z,Z,Z,Z,x16,x17,x18,x19,Z,Z,Z,Z,Z,Z,Z,Z,Z,Z,Z,Z,Z,Z,Z,Z,Z,Z,Z,Z,Z,Z,Z,Z,Z,Z,Z,Z,Z,Z,Z,Z,Z,Z,Z,Z,Z,Z,Z,Z,Z,Z,Z,Z,Z,Z,Z,Z,Z,Z,Z,Z,Z,Z,Z,Z,Z,Z,Z,Z,Z,Z,Z,Z,Z,Z,Z,Z,Z,Z,Z,Z,Z,Z,Z,Z,Z,Z,Z,Z,Z,Z,Z,Z,Z,Z,Z,Z,Z,Z,Z,Z] ∧ (Lg h' v 37 1 (n) (us (chs ws (l.take (n)))) ∧ Keep No h0 h' ∧ ∀ m,nm v = some m → h0.next ≤ m)) ?_ (n) _ _ ⟨0,_,by omega,ht,hI0⟩
  rintro k t h' ⟨i,v,hi,ht,hI⟩
  rw [ht]
  rcases Nat.lt_or_ge i (n) with h1 | h1
  · obtain ⟨lg,kp,nw⟩ := hI
    have hinc := @inc64 i (by omega)
    have hcs := cast_succ i
    obtain ⟨ga,gc,C2,ce2,cs2,gr2,ro2,x1,y1,z1,x2,y2,z2,x3,y3,z3,eb,hg2,hf2,_,hd5,hnest⟩ := os_at (hv.keep kp) (show i < l.length by omega)
    rw [hn] at eb
    simp only [Value.slice.injEq,true_and] at eb
    obtain ⟨rfl,rfl⟩ := eb
    have hs2 := hsm.get (i := i) (by omega)
    have hst := chs_take (ws := ws) (l := l) (i := i) (by omega)
    have hok := hall i (by omega)
    generalize l.getD i oc0 = o at *
    have b3 := hs2.2.2
    have s3 : Sl h' (.slice x3 y3 z3) 2 o.pk.length (picks o.pk) := hnest.2.2
    obtain ⟨h4,e4,k4⟩ := rchance_run (l := o.pk) hw (by omega) kw (hws.keep kp fun _ _ x => x) s3
    have hok' : (smallB o.pk && goodB o.pk) = true := hok
    rw [hok'] at e4
    
    have h1N : i < n := by omega
    have hT := chO_lt hw hok
    have hch : chB ws o.pk o.pk.length = chO ws o := rfl
    rw [hch] at e4
    simp only [if_true] at e4
    have hcl : (chs ws (l.take i)).length = i := by rw [chs_len,List.length_take]; omega
    have lg' : Lg h4 v 37 1 (chs ws (l.take i)).length (us (chs ws (l.take i))) := by rw [hcl]; exact lg.keep k4 fun _ _ x => x
    obtain ⟨v8,h8,e8,lg8,kp8,nv8⟩ := app_usL lg' (by omega) (chO ws o)
    rw [← hst] at lg8
    have hcl2 : (chs ws (l.take (i + 1))).length = i + 1 := by rw [chs_len,List.length_take]; omega
    rw [hcl2] at lg8
    have kk := (kp.trans k4).also kp8 fun m hm x => by have := nw m x; omega
    have nn : ∀ m,nm v8 = some m → h0.next ≤ m := fun m e => by
      rcases nv8 m e with y | y
      · exact nw m y
      · have := (kp.trans k4).1; omega
    generalize chO ws o = T at *
    simp (maxSteps := 2000000) -implicitDefEqProofs [ble_d,beq_d,List.range_succ,List.replicate,cond_true,cond_false,h1N,Try.underlying55,aindexAddr,sz87,sz33,hg2,hd5,fa87_5,en15,e4,ibne,(fun ρ y hy => bs22_1 ρ y (T : Int) hy),e8,hinc,undef]
    exact ⟨k - 1,by omega,i + 1,by omega,v8,by simp (maxSteps := 2000000) only [forget,List.set_cons_succ,List.set_cons_zero,hcs],lg8,kk,nn⟩
  · obtain rfl : i = n := by omega
    simp (maxSteps := 2000000) -implicitDefEqProofs [ble_d,beq_d,List.range_succ,List.replicate,cond_true,cond_false,undef]
    exact hI
set_option maxRecDepth 20000 in
set_option maxHeartbeats 6400000 in
theorem rtbN {h0 : Heap} {va wa : Option Addr} {vc wc n : Nat} {ws : List Nat} {l : List Oc} (hn : l.length = n) (hk : n * 8 ≤ 2 ^ 47) (hw : W64 ws) (kw : ws.length ≤ 2 ^ 47) (hsm : Small l) (hv : Outs h0 (.slice va n vc) l) (hws : Sl h0 (.slice wa ws.length wc) 1 ws.length (us ws)) (p : Nat) (hp : p < n) (hbad : okPk (l.getD p oc0) = false) (hall : ∀ i,i < p → okPk (l.getD i oc0) = true) (v0 : Value) (F : Step) (hFF : F = aexecP Try.prog (sO 26) (run Try.prog sO) loopω pt26 (lt26 0)) (t : Tm)
    (ht : forget [2,3,4,5,8,9,10,11,12,13,14,15,16,17,18,19,20,21,22,23,24,25,26,27,28,29,30,31,32,33,34,35,36,37,38,39,40,41,42,43,44,45,46,47,48,49,50,51,52,53,54,55,56,57,58,59,60,61,62,63,64,65,66,67,68,69,70,71,72,73,74,75,76,77,78,79,80,81,82,83,84,85,86,87,88,89,90,91,92,93,94,95,96,97,98,99,100,101,102,103,104,105,106,107,108,109,110,111] t = [.slice va n vc,.slice wa ws.length wc,Z,Z,Z,Z,v0,.int .i64 (0 : Nat),Z,Z,Z,Z,Z,Z,Z,Z,Z,Z,Z,Z,Z,Z,Z,Z,Z,Z,Z,Z,Z,Z,Z,Z,Z,Z,Z,Z,Z,Z,Z,Z,Z,Z,Z,Z,Z,Z,Z,Z,Z,Z,Z,Z,Z,Z,Z,Z,Z,Z,Z,Z,Z,Z,Z,Z,Z,Z,Z,Z,Z,Z,Z,Z,Z,Z,Z,Z,Z,Z,Z,Z,Z,Z,Z,Z,Z,Z,Z,Z,Z,Z,Z,Z,Z,Z,Z,Z,Z,Z,Z,Z,Z,Z,Z,Z,Z,Z,Z,Z,Z,Z,Z,Z]) (hI0 : (Lg h0 v0 37 1 (0) (us (chs ws (l.take (0)))) ∧ Keep No h0 h0 ∧ ∀ m,nm v0 = some m → h0.next ≤ m)) :
    ∃ h' v x8 x9 x16 x17 x18 x19 x22 x23 x24 x25 x26 x27 x28 x29 x30 x31 x32 x33 x34,loopω [2,3,4,5,8,9,10,11,12,13,14,15,16,17,18,19,20,21,22,23,24,25,26,27,28,29,30,31,32,33,34,35,36,37,38,39,40,41,42,43,44,45,46,47,48,49,50,51,52,53,54,55,56,57,58,59,60,61,62,63,64,65,66,67,68,69,70,71,72,73,74,75,76,77,78,79,80,81,82,83,84,85,86,87,88,89,90,91,92,93,94,95,96,97,98,99,100,101,102,103,104,105,106,107,108,109,110,111] F t h0 = some (.ret,[.slice va n vc,.slice wa ws.length wc,Z,Z,.slice none 0 0,.int .i64 2,v,.int .i64 (p : Nat),x8,x9,Z,Z,Z,Z,Z,Z,x16,x17,x18,x19,Z,Z,x22,x23,x24,x25,x26,x27,x28,x29,x30,x31,x32,x33,x34,Z,Z,Z,Z,Z,Z,Z,Z,Z,Z,Z,Z,Z,Z,Z,Z,Z,Z,Z,Z,Z,Z,Z,Z,Z,Z,Z,Z,Z,Z,Z,Z,Z,Z,Z,Z,Z,Z,Z,Z,Z,Z,Z,Z,Z,Z,Z,Z,Z,Z,Z,Z,Z,Z,Z,Z,Z,Z,Z,Z,Z,Z,Z,Z,Z,Z,Z,Z,Z,Z,Z,Z,Z,Z,Z,Z,Z],h') ∧ Keep No h0 h' := by
  subst hFF
  suffices hs : ∃ e t' h',loopω [2,3,4,5,8,9,10,11,12,13,14,15,16,17,18,19,20,21,22,23,24,25,26,27,28,29,30,31,32,33,34,35,36,37,38,39,40,41,42,43,44,45,46,47,48,49,50,51,52,53,54,55,56,57,58,59,60,61,62,63,64,65,66,67,68,69,70,71,72,73,74,75,76,77,78,79,80,81,82,83,84,85,86,87,88,89,90,91,92,93,94,95,96,97,98,99,100,101,102,103,104,105,106,107,108,109,110,111] (aexecP Try.prog (sO 26) (run Try.prog sO) loopω pt26 (lt26 0)) t h0 = some (e,t',h') ∧ (e = .ret ∧ ∃ v x8 x9 x16 x17 x18 x19 x22 x23 x24 x25 x26 x27 x28 x29 x30 x31 x32 x33 x34,t' = [.slice va n vc,.slice wa ws.length wc,Z,Z,.slice none 0 0,.int .i64 2,v,.int .i64 (p : Nat),x8,x9,Z,Z,Z,Z,Z,Z,x16,x17,x18,x19,Z,Z,x22,x23,x24,x25,x26,x27,x28,x29,x30,x31,x32,x33,x34,Z,Z,Z,Z,Z,Z,Z,Z,Z,Z,Z,Z,Z,Z,Z,Z,Z,Z,Z,Z,Z,Z,Z,Z,Z,Z,Z,Z,Z,Z,Z,Z,Z,Z,Z,Z,Z,Z,Z,Z,Z,Z,Z,Z,Z,Z,Z,Z,Z,Z,Z,Z,Z,Z,Z,Z,Z,Z,Z,Z,Z,Z,Z,Z,Z,Z,Z,Z,Z,Z,Z,Z,Z,Z,Z,Z,Z] ∧ Keep No h0 h') by
    obtain ⟨e,t',h',q1,rfl,v,x8,x9,x16,x17,x18,x19,x22,x23,x24,x25,x26,x27,x28,x29,x30,x31,x32,x33,x34,rfl,q2⟩ := hs
    exact ⟨h',v,x8,x9,x16,x17,x18,x19,x22,x23,x24,x25,x26,x27,x28,x29,x30,x31,x32,x33,x34,q1,q2⟩
  simp only [lt26,Try.f26,loopsOf,Option.getD_some,List.nil_append,List.append_nil,List.cons_append,List.getD_cons_zero,List.getD_cons_succ]
  refine loop_by (fun k t h' => ∃ (i : Nat) (v : Value),i + k = p ∧ forget [2,3,4,5,8,9,10,11,12,13,14,15,16,17,18,19,20,21,22,23,24,25,26,27,28,29,30,31,32,33,34,35,36,37,38,39,40,41,42,43,44,45,46,47,48,49,50,51,52,53,54,55,56,57,58,59,60,61,62,63,64,65,66,67,68,69,70,71,72,73,74,75,76,77,78,79,80,81,82,83,84,85,86,87,88,89,90,91,92,93,94,95,96,97,98,99,100,101,102,103,104,105,106,107,108,109,110,111] t = [.slice va n vc,.slice wa ws.length wc,Z,Z,Z,Z,v,.int .i64 (i : Nat),Z,Z,Z,Z,Z,Z,Z,Z,Z,Z,Z,Z,Z,Z,Z,Z,Z,Z,Z,Z,Z,Z,Z,Z,Z,Z,Z,Z,Z,Z,Z,Z,Z,Z,Z,Z,Z,Z,Z,Z,Z,Z,Z,Z,Z,Z,Z,Z,Z,Z,Z,Z,Z,Z,Z,Z,Z,Z,Z,Z,Z,Z,Z,Z,Z,Z,Z,Z,Z,Z,Z,Z,Z,Z,Z,Z,Z,Z,Z,Z,Z,Z,Z,Z,Z,Z,Z,Z,Z,Z,Z,Z,Z,Z,Z,Z,Z,Z,Z,Z,Z,Z,Z,Z] ∧ (Lg h' v 37 1 (i) (us (chs ws (l.take (i)))) ∧ Keep No h0 h' ∧ ∀ m,nm v = some m → h0.next ≤ m))
    (fun e t' h' => e = .ret ∧ ∃ v x8 x9 x16 x17 x18 x19 x22 x23 x24 x25 x26 x27 x28 x29 x30 x31 x32 x33 x34,t' = [.slice va n vc,.slice wa ws.length wc,Z,Z,.slice none 0 0,.int .i64 2,v,.int .i64 (p : Nat),x8,x9,Z,Z,Z,Z,Z,Z,x16,x17,x18,x19,Z,Z,x22,x23,x24,x25,x26,x27,x28,x29,x30,x31,x32,x33,x34,Z,Z,Z,Z,Z,Z,Z,Z,Z,Z,Z,Z,Z,Z,Z,Z,Z,Z,Z,Z,Z,Z,Z,Z,Z,Z,Z,Z,Z,Z,Z,Z,Z,Z,Z,Z,Z,Z,Z,Z,Z,Z,Z,Z,Z,Z,Z,Z,Z,Z,Z,Z,Z,Z,Z,Z,Z,Z,Z,Z,Z,Z,Z,Z,Z,Z,Z,Z,Z,Z,Z,Z,Z,Z,Z,Z,Z] ∧ Keep No h0 h') ?_ (p) _ _ ⟨0,_,by omega,ht,hI0⟩
  rintro k t h' ⟨i,v,hi,ht,hI⟩
  rw [ht]
  rcases Nat.lt_or_ge i (p) with h1 | h1
  · obtain ⟨lg,kp,nw⟩ := hI
    have hinc := @inc64 i (by omega)
    have hcs := cast_succ i
    obtain ⟨ga,gc,C2,ce2,cs2,gr2,ro2,x1,y1,z1,x2,y2,z2,x3,y3,z3,eb,hg2,hf2,_,hd5,hnest⟩ := os_at (hv.keep kp) (show i < l.length by omega)
    rw [hn] at eb
    simp only [Value.slice.injEq,true_and] at eb
    obtain ⟨rfl,rfl⟩ := eb
    have hs2 := hsm.get (i := i) (by omega)
    have hst := chs_take (ws := ws) (l := l) (i := i) (by omega)
    have hok := hall i (by omega)
    generalize l.getD i oc0 = o at *
    have b3 := hs2.2.2
    have s3 : Sl h' (.slice x3 y3 z3) 2 o.pk.length (picks o.pk) := hnest.2.2
    obtain ⟨h4,e4,k4⟩ := rchance_run (l := o.pk) hw (by omega) kw (hws.keep kp fun _ _ x => x) s3
    have hok' : (smallB o.pk && goodB o.pk) = true := hok
    rw [hok'] at e4
    
    have h1N : i < n := by omega
    have hT := chO_lt hw hok
    have hch : chB ws o.pk o.pk.length = chO ws o := rfl
    rw [hch] at e4
    simp only [if_true] at e4
    have hcl : (chs ws (l.take i)).length = i := by rw [chs_len,List.length_take]; omega
    have lg' : Lg h4 v 37 1 (chs ws (l.take i)).length (us (chs ws (l.take i))) := by rw [hcl]; exact lg.keep k4 fun _ _ x => x
    obtain ⟨v8,h8,e8,lg8,kp8,nv8⟩ := app_usL lg' (by omega) (chO ws o)
    rw [← hst] at lg8
    have hcl2 : (chs ws (l.take (i + 1))).length = i + 1 := by rw [chs_len,List.length_take]; omega
    rw [hcl2] at lg8
    have kk := (kp.trans k4).also kp8 fun m hm x => by have := nw m x; omega
    have nn : ∀ m,nm v8 = some m → h0.next ≤ m := fun m e => by
      rcases nv8 m e with y | y
      · exact nw m y
      · have := (kp.trans k4).1; omega
    generalize chO ws o = T at *
    simp (maxSteps := 2000000) -implicitDefEqProofs [ble_d,beq_d,List.range_succ,List.replicate,cond_true,cond_false,h1N,Try.underlying55,aindexAddr,sz87,sz33,hg2,hd5,fa87_5,en15,e4,ibne,(fun ρ y hy => bs22_1 ρ y (T : Int) hy),e8,hinc,undef]
    exact ⟨k - 1,by omega,i + 1,by omega,v8,by simp (maxSteps := 2000000) only [forget,List.set_cons_succ,List.set_cons_zero,hcs],lg8,kk,nn⟩
  · obtain rfl : i = p := by omega
    have h1N : i < n := hp
    
    obtain ⟨lg,kp,nw⟩ := hI
    have hinc := @inc64 i (by omega)
    have hcs := cast_succ i
    obtain ⟨ga,gc,C2,ce2,cs2,gr2,ro2,x1,y1,z1,x2,y2,z2,x3,y3,z3,eb,hg2,hf2,_,hd5,hnest⟩ := os_at (hv.keep kp) (show i < l.length by omega)
    rw [hn] at eb
    simp only [Value.slice.injEq,true_and] at eb
    obtain ⟨rfl,rfl⟩ := eb
    have hs2 := hsm.get (i := i) (by omega)
    have hst := chs_take (ws := ws) (l := l) (i := i) (by omega)
    have hok := hbad
    generalize l.getD i oc0 = o at *
    have b3 := hs2.2.2
    have s3 : Sl h' (.slice x3 y3 z3) 2 o.pk.length (picks o.pk) := hnest.2.2
    obtain ⟨h4,e4,k4⟩ := rchance_run (l := o.pk) hw (by omega) kw (hws.keep kp fun _ _ x => x) s3
    have hok' : (smallB o.pk && goodB o.pk) = false := hok
    rw [hok'] at e4
    
    simp only [Bool.false_eq_true,if_false] at e4
    simp (maxSteps := 2000000) -implicitDefEqProofs [ble_d,beq_d,List.range_succ,List.replicate,cond_true,cond_false,h1N,Try.underlying55,aindexAddr,sz87,sz33,hg2,hd5,fa87_5,en15,e4,ibne,undef]
    exact kp.trans k4
end Go.Proofs.Ytmnkmdfladbgdaa.Od

set_option linter.unusedVariables false
set_option linter.unusedSimpArgs false
namespace Go.Proofs.Ytmnkmdfladbgdaa.Od
open Go Go.Proofs Go.RowKit Go.Proofs.YtmnkmdfladbgdaaAI Go.Proofs.YtmnkmdfladbgdaaFl Go.Proofs.YtmnkmdfladbgdaaSrt

theorem totP_app (cs : List Nat) (y : List Nat) : ∀ i,i ≤ cs.length → totP (cs ++ y) i = totP cs i := by
  intro i
  induction i with
  | zero => intro _; rfl
  | succ i ih =>
    intro hi
    show addB (totP (cs ++ y) i) ((cs ++ y).getD i 0) = addB (totP cs i) (cs.getD i 0)
    rw [ih (by omega)]
    congr 1
    rw [List.getD_eq_getElem?_getD,List.getElem?_append_left (by omega),← List.getD_eq_getElem?_getD]
theorem totP_snoc (cs : List Nat) (x : Nat) : totP (cs ++ [x]) (cs.length + 1) = addB (totP cs cs.length) x := by
  show addB (totP (cs ++ [x]) cs.length) ((cs ++ [x]).getD cs.length 0) = _
  rw [totP_app cs [x] cs.length (Nat.le_refl _)]
  congr 1
  rw [List.getD_eq_getElem?_getD,List.getElem?_append_right (Nat.le_refl _)]
  simp
/-- A group's count and chance so far. -/
def cntG (l : List Oc) (f j : Nat) : Nat := (grp l f j).length
def sumG (ws : List Nat) (l : List Oc) (f j : Nat) : Nat := totP (grpC ws l f j) (grp l f j).length
theorem cs_succ (ws : List Nat) (l : List Oc) (f j : Nat) : (sameO (l.getD f oc0) (l.getD j oc0) = true → cntG l f (j + 1) = cntG l f j + 1 ∧ sumG ws l f (j + 1) = addB (sumG ws l f j) (chO ws (l.getD j oc0))) ∧ (sameO (l.getD f oc0) (l.getD j oc0) = false → cntG l f (j + 1) = cntG l f j ∧ sumG ws l f (j + 1) = sumG ws l f j) := by
  have hg := grp_succ l f j
  unfold cntG sumG grpC
  constructor
  · intro h
    rw [h,if_pos rfl] at hg
    rw [hg,List.length_append,List.map_append]
    refine ⟨rfl,?_⟩
    have hl : ((grp l f j).map fun i => chO ws (l.getD i oc0)).length = (grp l f j).length := List.length_map _
    have := totP_snoc ((grp l f j).map fun i => chO ws (l.getD i oc0)) (chO ws (l.getD j oc0))
    rw [hl] at this
    exact this
  · intro h
    rw [h,if_neg (by decide)] at hg
    rw [hg]
    exact ⟨rfl,rfl⟩
theorem sz97 : szOf Try.prog 97 = some 3 := by kernel_rfl
theorem fa97_0 (n o : Nat) : afieldAddr Try.prog 97 (.pointer (some ⟨n,o,none⟩)) 0 = some (.pointer (some ⟨n,o + 0,none⟩)) := by kernel_rfl
theorem fa97_1 (n o : Nat) : afieldAddr Try.prog 97 (.pointer (some ⟨n,o,none⟩)) 1 = some (.pointer (some ⟨n,o + 1,none⟩)) := by kernel_rfl
theorem fa97_2 (n o : Nat) : afieldAddr Try.prog 97 (.pointer (some ⟨n,o,none⟩)) 2 = some (.pointer (some ⟨n,o + 2,none⟩)) := by kernel_rfl
abbrev rowO (f c s : Nat) : AObj := .cells [.int .i64 (f : Nat),.int .i64 (c : Nat),.int .u64 (s : Nat)] 97 3 false false
set_option maxRecDepth 20000 in
set_option maxHeartbeats 6400000 in
theorem rtbC {h0 : Heap} {va ca fa : Option Addr} {vc n cc f fc N q mb : Nat} {ov : Value} {ws : List Nat} {l : List Oc} {fs : List Nat} (hn : l.length = n) (hk : n * 8 ≤ 2 ^ 47) (hw : W64 ws) (hok : ∀ i,i < l.length → okPk (l.getD i oc0) = true) (hsm : Small l) (hf : f < n) (hN : fs.length = N) (hq : q < N) (hfq : fs.getD q 0 = f) (hv : Outs h0 (.slice va n vc) l) (hc : Sl h0 (.slice ca n cc) 1 n (us (chs ws l))) (hF : Sl h0 (.slice fa N fc) 1 N (idx fs)) (hnv : ∀ h,Keep (fun m => m = mb) h0 h → Outs h (.slice va n vc) l) (hnc : nm (.slice ca n cc) ≠ some mb) (hnf : nm (.slice fa N fc) ≠ some mb) (F : Step) (hFF : F = aexecP Try.prog (sO 26) (run Try.prog sO) loopω pt26 (lt26 2)) (t : Tm)
    (ht : forget [1,2,3,4,5,7,8,9,15,16,17,18,19,20,21,22,23,24,25,26,27,28,29,30,31,32,33,34,35,36,37,38,39,40,41,42,43,44,45,46,47,48,49,50,51,52,53,54,55,56,57,58,59,60,61,62,63,64,65,66,67,68,69,70,71,72,73,74,75,76,77,78,79,80,81,82,83,84,85,86,87,88,89,90,91,92,93,94,95,96,97,98,99,100,101,102,103,104,105,106,107,108,109,110,111] t = [.slice va n vc,Z,Z,Z,Z,Z,.slice ca n cc,Z,Z,Z,ov,.slice fa N fc,.int .i64 (q : Nat),.pointer (some ⟨mb,0,none⟩),.int .i64 (0 : Nat),Z,Z,Z,Z,Z,Z,Z,Z,Z,Z,Z,Z,Z,Z,Z,Z,Z,Z,Z,Z,Z,Z,Z,Z,Z,Z,Z,Z,Z,Z,Z,Z,Z,Z,Z,Z,Z,Z,Z,Z,Z,Z,Z,Z,Z,Z,Z,Z,Z,Z,Z,Z,Z,Z,Z,Z,Z,Z,Z,Z,Z,Z,Z,Z,Z,Z,Z,Z,Z,Z,Z,Z,Z,Z,Z,Z,Z,Z,Z,Z,Z,Z,Z,Z,Z,Z,Z,Z,Z,Z,Z,Z,Z,Z,Z,Z,Z]) (hI0 : ((h0).get mb = some (rowO f (cntG l f (0)) (sumG ws l f (0))) ∧ Keep (fun m => m = mb) h0 h0)) :
    ∃ h' x52 x53 x54 x55,loopω [1,2,3,4,5,7,8,9,15,16,17,18,19,20,21,22,23,24,25,26,27,28,29,30,31,32,33,34,35,36,37,38,39,40,41,42,43,44,45,46,47,48,49,50,51,52,53,54,55,56,57,58,59,60,61,62,63,64,65,66,67,68,69,70,71,72,73,74,75,76,77,78,79,80,81,82,83,84,85,86,87,88,89,90,91,92,93,94,95,96,97,98,99,100,101,102,103,104,105,106,107,108,109,110,111] F t h0 = some (.exit 4,[.slice va n vc,Z,Z,Z,Z,Z,.slice ca n cc,Z,Z,Z,ov,.slice fa N fc,.int .i64 (q : Nat),.pointer (some ⟨mb,0,none⟩),.int .i64 (n : Nat),Z,Z,Z,Z,Z,Z,Z,Z,Z,Z,Z,Z,Z,Z,Z,Z,Z,Z,Z,Z,Z,Z,Z,Z,Z,Z,Z,Z,Z,Z,Z,Z,Z,Z,Z,Z,Z,x52,x53,x54,x55,Z,Z,Z,Z,Z,Z,Z,Z,Z,Z,Z,Z,Z,Z,Z,Z,Z,Z,Z,Z,Z,Z,Z,Z,Z,Z,Z,Z,Z,Z,Z,Z,Z,Z,Z,Z,Z,Z,Z,Z,Z,Z,Z,Z,Z,Z,Z,Z,Z,Z,Z,Z,Z,Z,Z,Z],h') ∧ ((h').get mb = some (rowO f (cntG l f (n)) (sumG ws l f (n))) ∧ Keep (fun m => m = mb) h0 h') := by
  subst hFF
  suffices hs : ∃ e t' h',loopω [1,2,3,4,5,7,8,9,15,16,17,18,19,20,21,22,23,24,25,26,27,28,29,30,31,32,33,34,35,36,37,38,39,40,41,42,43,44,45,46,47,48,49,50,51,52,53,54,55,56,57,58,59,60,61,62,63,64,65,66,67,68,69,70,71,72,73,74,75,76,77,78,79,80,81,82,83,84,85,86,87,88,89,90,91,92,93,94,95,96,97,98,99,100,101,102,103,104,105,106,107,108,109,110,111] (aexecP Try.prog (sO 26) (run Try.prog sO) loopω pt26 (lt26 2)) t h0 = some (e,t',h') ∧ (e = .exit 4 ∧ ∃ x52 x53 x54 x55,t' = [.slice va n vc,Z,Z,Z,Z,Z,.slice ca n cc,Z,Z,Z,ov,.slice fa N fc,.int .i64 (q : Nat),.pointer (some ⟨mb,0,none⟩),.int .i64 (n : Nat),Z,Z,Z,Z,Z,Z,Z,Z,Z,Z,Z,Z,Z,Z,Z,Z,Z,Z,Z,Z,Z,Z,Z,Z,Z,Z,Z,Z,Z,Z,Z,Z,Z,Z,Z,Z,Z,x52,x53,x54,x55,Z,Z,Z,Z,Z,Z,Z,Z,Z,Z,Z,Z,Z,Z,Z,Z,Z,Z,Z,Z,Z,Z,Z,Z,Z,Z,Z,Z,Z,Z,Z,Z,Z,Z,Z,Z,Z,Z,Z,Z,Z,Z,Z,Z,Z,Z,Z,Z,Z,Z,Z,Z,Z,Z,Z,Z] ∧ ((h').get mb = some (rowO f (cntG l f (n)) (sumG ws l f (n))) ∧ Keep (fun m => m = mb) h0 h')) by
    obtain ⟨e,t',h',q1,rfl,x52,x53,x54,x55,rfl,q2⟩ := hs
    exact ⟨h',x52,x53,x54,x55,q1,q2⟩
  simp only [lt26,Try.f26,loopsOf,Option.getD_some,List.nil_append,List.append_nil,List.cons_append,List.getD_cons_zero,List.getD_cons_succ]
  refine loop_by (fun k t h' => ∃ (i : Nat),i + k = n ∧ forget [1,2,3,4,5,7,8,9,15,16,17,18,19,20,21,22,23,24,25,26,27,28,29,30,31,32,33,34,35,36,37,38,39,40,41,42,43,44,45,46,47,48,49,50,51,52,53,54,55,56,57,58,59,60,61,62,63,64,65,66,67,68,69,70,71,72,73,74,75,76,77,78,79,80,81,82,83,84,85,86,87,88,89,90,91,92,93,94,95,96,97,98,99,100,101,102,103,104,105,106,107,108,109,110,111] t = [.slice va n vc,Z,Z,Z,Z,Z,.slice ca n cc,Z,Z,Z,ov,.slice fa N fc,.int .i64 (q : Nat),.pointer (some ⟨mb,0,none⟩),.int .i64 (i : Nat),Z,Z,Z,Z,Z,Z,Z,Z,Z,Z,Z,Z,Z,Z,Z,Z,Z,Z,Z,Z,Z,Z,Z,Z,Z,Z,Z,Z,Z,Z,Z,Z,Z,Z,Z,Z,Z,Z,Z,Z,Z,Z,Z,Z,Z,Z,Z,Z,Z,Z,Z,Z,Z,Z,Z,Z,Z,Z,Z,Z,Z,Z,Z,Z,Z,Z,Z,Z,Z,Z,Z,Z,Z,Z,Z,Z,Z,Z,Z,Z,Z,Z,Z,Z,Z,Z,Z,Z,Z,Z,Z,Z,Z,Z,Z,Z,Z] ∧ ((h').get mb = some (rowO f (cntG l f (i)) (sumG ws l f (i))) ∧ Keep (fun m => m = mb) h0 h'))
    (fun e t' h' => e = .exit 4 ∧ ∃ x52 x53 x54 x55,t' = [.slice va n vc,Z,Z,Z,Z,Z,.slice ca n cc,Z,Z,Z,ov,.slice fa N fc,.int .i64 (q : Nat),.pointer (some ⟨mb,0,none⟩),.int .i64 (n : Nat),Z,Z,Z,Z,Z,Z,Z,Z,Z,Z,Z,Z,Z,Z,Z,Z,Z,Z,Z,Z,Z,Z,Z,Z,Z,Z,Z,Z,Z,Z,Z,Z,Z,Z,Z,Z,Z,x52,x53,x54,x55,Z,Z,Z,Z,Z,Z,Z,Z,Z,Z,Z,Z,Z,Z,Z,Z,Z,Z,Z,Z,Z,Z,Z,Z,Z,Z,Z,Z,Z,Z,Z,Z,Z,Z,Z,Z,Z,Z,Z,Z,Z,Z,Z,Z,Z,Z,Z,Z,Z,Z,Z,Z,Z,Z,Z,Z] ∧ ((h').get mb = some (rowO f (cntG l f (n)) (sumG ws l f (n))) ∧ Keep (fun m => m = mb) h0 h')) ?_ (n) _ _ ⟨0,by omega,ht,hI0⟩
  rintro k t h' ⟨i,hi,ht,hI⟩
  rw [ht]
  rcases Nat.lt_or_ge i (n) with h1 | h1
  · obtain ⟨gb,kp⟩ := hI
    have hinc := @inc64 i (by omega)
    have hcs := cast_succ i
    have hvk := hnv _ kp
    obtain ⟨hst,hsf⟩ := cs_succ ws l f i
    obtain ⟨wa,wc,C2,ce2,cs2,gr2,ro2,x1,y1,z1,x2,y2,z2,x3,y3,z3,eb,hg2,hf2,hd2,_,hnest⟩ := os_at hvk (show f < l.length by omega)
    rw [hn] at eb
    simp only [Value.slice.injEq,true_and] at eb
    obtain ⟨rfl,rfl⟩ := eb
    obtain ⟨wb,wd,C3,ce3,cs3,gr3,ro3,p1,q1,r1,p2,q2,r2,p3,q3,r3,eb,hg3,hf3,hd3,_,hnest3⟩ := os_at hvk (show i < l.length by omega)
    simp only [Value.slice.injEq,Option.some.injEq] at eb
    obtain ⟨rfl,_,_⟩ := eb
    rw [hg2] at hg3
    cases hg3
    obtain ⟨fa,fc,C4,ce4,cs4,gr4,ro4,eb,hg4,hc4⟩ := sl_idx (hF.keep kp fun m e s => hnf (s ▸ e)) hq
    simp only [Value.slice.injEq,true_and] at eb
    obtain ⟨rfl,rfl⟩ := eb
    rw [hfq] at hc4
    have hs1 := hsm.get (i := f) (by omega)
    have hs2 := hsm.get (i := i) (by omega)
    have hok2 := hok i (by omega)
    have hchg := chs_get (ws := ws) (l := l) (i := i) (by omega)
    have hclt := chO_pos hw hok2
    have hslt : Pos (sumG ws l f i) := totP_pos (cs := grpC ws l f i) (fun x hx => by
      obtain ⟨j,hj,rfl⟩ := List.mem_map.1 hx
      exact chO_pos hw (hok j (by have := grp_lt l f i j hj; omega))) _
    have hcntl : cntG l f i ≤ i := grp_len l f i
    generalize hO1 : l.getD f oc0 = o1 at *
    generalize hO2 : l.getD i oc0 = o2 at *
    obtain ⟨h4,e4,k4⟩ := same53_run (h := h') ⟨_,_,_,_,_,_,_,_,_,rfl,hnest⟩ ⟨_,_,_,_,_,_,_,_,_,rfl,hnest3⟩ hs1 hs2
    have l4 := k4.1
    have gb4 := k4.get gb fun x => x
    have kp4 := kp.trans (k4.mono fun _ _ x => x.elim)
    generalize hS : sumG ws l f (i + 1) = S' at *
    generalize sumG ws l f i = S at *
    generalize hC : cntG l f (i + 1) = c' at *
    generalize cntG l f i = c at *
    generalize sameO o1 o2 = r at *
    cases r
    · obtain ⟨rfl,rfl⟩ := hsf rfl
      simp (maxSteps := 2000000) -implicitDefEqProofs [ble_d,beq_d,List.range_succ,List.replicate,cond_true,cond_false,h1,hq,hf,hg2,hf2,hd2,hf3,hd3,hg4,hc4,pt26_18,pl26_18,an26_18,aindexAddr,sz3,sz87,Try.underlying90,Try.underlying55,Try.underlying87,en53,e4,l4,hinc,undef]
      exact ⟨k - 1,by omega,i + 1,by omega,by simp (maxSteps := 2000000) only [forget,List.set_cons_succ,List.set_cons_zero,hcs],by rw [hC,hS]; exact gb4,kp4⟩
    · obtain ⟨e1,e2⟩ := hst rfl
      obtain ⟨ca,cc,C5,ce5,cs5,gr5,ro5,eb,hg5,hc5⟩ := sl_u64 (hc.keep kp4 fun m e s => hnc (s ▸ e)) h1
      simp only [Value.slice.injEq,true_and] at eb
      obtain ⟨rfl,rfl⟩ := eb
      rw [hchg] at hc5
      generalize chO ws o2 = T at *
      have hlt4 := Heap.get_lt gb4
      obtain ⟨h5,h5e⟩ : ∃ x,x = h4.put mb (some (rowO f c' S)) := ⟨_,rfl⟩
      have k5 : Keep (fun m => m = mb) h4 h5 := h5e ▸ Keep.put (S := fun m => m = mb) hlt4 rfl _
      have g5 : h5.get mb = some (rowO f c' S) := by rw [h5e,Heap.get_put hlt4,if_pos rfl]
      obtain ⟨h6,e6,k6⟩ := @addr_run h5 S T hslt hclt
      rw [← e2] at e6
      have g6 := k6.get g5 fun x => x
      have hlt6 := Heap.get_lt g6
      obtain ⟨h7,h7e⟩ : ∃ x,x = h6.put mb (some (rowO f c' S')) := ⟨_,rfl⟩
      have k7 : Keep (fun m => m = mb) h6 h7 := h7e ▸ Keep.put (S := fun m => m = mb) hlt6 rfl _
      have g7 : h7.get mb = some (rowO f c' S') := by rw [h7e,Heap.get_put hlt6,if_pos rfl]
      have kAll := ((kp4.trans k5).trans (k6.mono fun _ _ x => x.elim)).trans k7
      have hne : ca.block ≠ mb := fun e => hnc (by rw [← e]; exact nm_pos (by omega))
      have hg5' : h5.get ca.block = some (.cells C5 ce5 cs5 gr5 ro5) := k5.get hg5 hne
      have l6 := k6.1
      have l7 : h6.next ≤ h7.next := by rw [h7e]; exact Nat.le_refl _
      have hg6' := k6.get hg5' fun x => x
      have hcinc : IntKind.i64.wrap ((c : Int) + 1) = (c' : Int) := by rw [e1]; exact @inc64 c (by omega)
      simp (maxSteps := 2000000) -implicitDefEqProofs [ble_d,beq_d,List.range_succ,List.replicate,cond_true,cond_false,h1,hq,hf,hg2,hf2,hd2,hf3,hd3,hg4,hc4,pt26_18,pl26_18,an26_18,pt26_20,pl26_20,an26_20,aindexAddr,sz3,sz37,sz87,Try.underlying90,Try.underlying55,Try.underlying87,Try.underlying22,en53,e4,l4,fa97_1,fa97_2,gb4,hcinc,oku3,astore,← h5e,g5,hg5',hc5,en35,e6,g6,hg6',l6,l7,← h7e,hinc,undef]
      exact ⟨k - 1,by omega,i + 1,by omega,by simp (maxSteps := 2000000) only [forget,List.set_cons_succ,List.set_cons_zero,hcs],by rw [hC,hS]; exact g7,kAll⟩
  · obtain rfl : i = n := by omega
    simp (maxSteps := 2000000) -implicitDefEqProofs [ble_d,beq_d,List.range_succ,List.replicate,cond_true,cond_false,undef]
    exact hI
end Go.Proofs.Ytmnkmdfladbgdaa.Od

set_option linter.unusedVariables false
set_option linter.unusedSimpArgs false
namespace Go.Proofs.Ytmnkmdfladbgdaa.Od
open Go Go.Proofs Go.RowKit Go.Proofs.YtmnkmdfladbgdaaAI Go.Proofs.YtmnkmdfladbgdaaFl Go.Proofs.YtmnkmdfladbgdaaSrt

def rns (d : List Ln) : List Value := d.flatMap fun x => [.int .i64 x.1,.int .i64 x.2.1,.int .u64 (x.2.2 : Nat)]
theorem rns_len (d : List Ln) : (rns d).length = d.length * 3 := by
  induction d with
  | nil => rfl
  | cons x d ih => simp only [rns,List.flatMap_cons,List.length_append,List.length_cons,List.length_nil] at *; omega
theorem rns_one (d : List Ln) : (rns d).all one = true := by simp [rns,one]
theorem rns_app (x y : List Ln) : rns (x ++ y) = rns x ++ rns y := by simp [rns]
theorem rns_drop (d : List Ln) (i : Nat) : (rns d).drop (i * 3) = rns (d.drop i) := by
  induction d generalizing i with
  | nil => simp [rns]
  | cons x d ih =>
    cases i with
    | zero => simp
    | succ i =>
      rw [show (i + 1) * 3 = i * 3 + 3 by omega,Nat.add_comm,← List.drop_drop]
      have : (rns (x :: d)).drop 3 = rns d := by simp [rns]
      rw [this,ih i,List.drop_succ_cons]
theorem rns_take (d : List Ln) (i : Nat) : (rns d).take (i * 3) = rns (d.take i) := by
  induction d generalizing i with
  | nil => simp [rns]
  | cons x d ih =>
    cases i with
    | zero => simp [rns]
    | succ i =>
      have h1 : rns (x :: d) = [.int .i64 x.1,.int .i64 x.2.1,.int .u64 (x.2.2 : Nat)] ++ rns d := by simp [rns]
      have h2 : rns (x :: d.take i) = [.int .i64 x.1,.int .i64 x.2.1,.int .u64 (x.2.2 : Nat)] ++ rns (d.take i) := by simp [rns]
      rw [List.take_succ_cons,h1,h2,show (i + 1) * 3 = i * 3 + 1 + 1 + 1 by omega,← ih i]
      simp only [List.cons_append,List.nil_append,List.take_succ_cons]
theorem rns_get {d : List Ln} {i : Nat} (hi : i < d.length) : (rns d)[i * 3]? = some (.int .i64 (d.getD i (0,0,0)).1) ∧ (rns d)[i * 3 + 1]? = some (.int .i64 (d.getD i (0,0,0)).2.1) ∧ (rns d)[i * 3 + 2]? = some (.int .u64 ((d.getD i (0,0,0)).2.2 : Nat)) := by
  have h0 : d.getD i (0,0,0) = d[i] := by rw [List.getD_eq_getElem?_getD,List.getElem?_eq_getElem hi]; rfl
  have h1 : rns (d[i] :: d.drop (i + 1)) = [.int .i64 d[i].1,.int .i64 d[i].2.1,.int .u64 (d[i].2.2 : Nat)] ++ rns (d.drop (i + 1)) := by simp only [rns,List.flatMap_cons]
  have h2 := rns_drop d i
  rw [List.drop_eq_getElem_cons hi,h1] at h2
  rw [h0]
  refine ⟨?_,?_,?_⟩
  · have := congrArg (fun z : List Value => z[0]?) h2
    simp only [List.getElem?_drop,Nat.add_zero] at this
    exact this
  · have := congrArg (fun z : List Value => z[1]?) h2
    simp only [List.getElem?_drop] at this
    exact this
  · have := congrArg (fun z : List Value => z[2]?) h2
    simp only [List.getElem?_drop] at this
    exact this
theorem sl_rns {h : Heap} {v : Value} {k : Nat} {d : List Ln} (hs : Sl h v 3 k (rns d)) {i : Nat} (hi : i < k) :
    ∃ a n C ce cs gr ro,v = .slice (some a) k n ∧ h.get a.block = some (.cells C ce cs gr ro) ∧ C[a.off + i * 3]? = some (.int .i64 (d.getD i (0,0,0)).1) ∧ C[a.off + i * 3 + 1]? = some (.int .i64 (d.getD i (0,0,0)).2.1) ∧ C[a.off + i * 3 + 2]? = some (.int .u64 ((d.getD i (0,0,0)).2.2 : Nat)) := by
  have hs0 := hs
  obtain ⟨hl,⟨rfl,rfl⟩ | ⟨a,n,rfl,_⟩⟩ := hs0
  · omega
  · obtain ⟨c,e,s,gr,ro,hg,_,_,hget⟩ := hs.fit (by omega) (by omega)
    have hd : i < d.length := by rw [rns_len] at hl; omega
    obtain ⟨g1,g2,g3⟩ := rns_get hd
    refine ⟨a,n,c,e,s,gr,ro,rfl,hg,?_,?_,?_⟩
    · rw [hget (i * 3) (by omega)]; exact g1
    · rw [Nat.add_assoc,hget (i * 3 + 1) (by omega)]; exact g2
    · rw [Nat.add_assoc,hget (i * 3 + 2) (by omega)]; exact g3
/-- A row's place. -/
def insAt (s : Nat) : List Ln → Nat
  | [] => 0
  | y :: l => if 0 ≤ cmpK y.2.2 s then insAt s l + 1 else 0
theorem insAt_le (s : Nat) (l : List Ln) : insAt s l ≤ l.length := by
  induction l with
  | nil => exact Nat.le_refl _
  | cons y l ih => unfold insAt; split <;> simp <;> omega
theorem insAt_in (s : Nat) (l : List Ln) : ∀ i,i < insAt s l → 0 ≤ cmpK (l.getD i (0,0,0)).2.2 s := by
  induction l with
  | nil => intro i hi; simp [insAt] at hi
  | cons y l ih =>
    intro i hi
    unfold insAt at hi
    split at hi
    · cases i with
      | zero => simpa
      | succ i => simpa using ih i (by omega)
    · omega
theorem insAt_out (s : Nat) (l : List Ln) (h : insAt s l < l.length) : ¬ 0 ≤ cmpK (l.getD (insAt s l) (0,0,0)).2.2 s := by
  induction l with
  | nil => simp at h
  | cons y l ih =>
    unfold insAt at h ⊢
    split
    · rename_i hc
      rw [if_pos hc] at h
      simpa using ih (by simpa using h)
    · rename_i hc
      simpa using hc
theorem insL_at (x : Ln) (l : List Ln) : insL x l = l.take (insAt x.2.2 l) ++ x :: l.drop (insAt x.2.2 l) := by
  induction l with
  | nil => rfl
  | cons y l ih =>
    unfold insL insAt
    split
    · rw [ih]; rfl
    · rfl
set_option maxRecDepth 20000 in
set_option maxHeartbeats 6400000 in
theorem rtbD {h0 : Heap} {oa : Option Addr} {oc K q mb f c s : Nat} {x0 x6 x11 : Value} {d : List Ln} (hK : d.length = K) (kK : K ≤ 2 ^ 47) (hd : ∀ x ∈ d,x.2.2 < 18446744073709551616) (hs : s < 18446744073709551616) (ho : Sl h0 (.slice oa K oc) 3 K (rns d)) (hb : h0.get mb = some (rowO f c s)) (F : Step) (hFF : F = aexecP Try.prog (sO 26) (run Try.prog sO) loopω pt26 (lt26 3)) (t : Tm)
    (ht : forget [1,2,3,4,5,7,8,9,14,16,17,18,19,20,21,22,23,24,25,26,27,28,29,30,31,32,33,34,35,36,37,38,39,40,41,42,43,44,45,46,47,48,49,50,51,52,53,54,55,56,57,58,59,60,61,62,63,64,65,66,67,68,69,70,71,72,73,74,75,76,77,78,79,80,81,82,83,84,85,86,87,88,89,90,91,92,93,94,95,96,97,98,99,100,101,102,103,104,105,106,107,108,109,110,111] t = [x0,Z,Z,Z,Z,Z,x6,Z,Z,Z,.slice oa K oc,x11,.int .i64 (q : Nat),.pointer (some ⟨mb,0,none⟩),Z,.int .i64 (0 : Nat),Z,Z,Z,Z,Z,Z,Z,Z,Z,Z,Z,Z,Z,Z,Z,Z,Z,Z,Z,Z,Z,Z,Z,Z,Z,Z,Z,Z,Z,Z,Z,Z,Z,Z,Z,Z,Z,Z,Z,Z,Z,Z,Z,Z,Z,Z,Z,Z,Z,Z,Z,Z,Z,Z,Z,Z,Z,Z,Z,Z,Z,Z,Z,Z,Z,Z,Z,Z,Z,Z,Z,Z,Z,Z,Z,Z,Z,Z,Z,Z,Z,Z,Z,Z,Z,Z,Z,Z,Z,Z,Z,Z,Z,Z,Z,Z]) (hI0 : h0 = h0) :
    ∃ h' x82 x83 x84 x85 x86 x87 x88 x89 x90 x91 x92 x93 x94 x95 x96,loopω [1,2,3,4,5,7,8,9,14,16,17,18,19,20,21,22,23,24,25,26,27,28,29,30,31,32,33,34,35,36,37,38,39,40,41,42,43,44,45,46,47,48,49,50,51,52,53,54,55,56,57,58,59,60,61,62,63,64,65,66,67,68,69,70,71,72,73,74,75,76,77,78,79,80,81,82,83,84,85,86,87,88,89,90,91,92,93,94,95,96,97,98,99,100,101,102,103,104,105,106,107,108,109,110,111] F t h0 = some (.exit 6,[x0,Z,Z,Z,Z,Z,x6,Z,Z,Z,.slice oa K oc,x11,.int .i64 (q : Nat),.pointer (some ⟨mb,0,none⟩),Z,.int .i64 (insAt s d : Nat),Z,Z,Z,Z,Z,Z,Z,Z,Z,Z,Z,Z,Z,Z,Z,Z,Z,Z,Z,Z,Z,Z,Z,Z,Z,Z,Z,Z,Z,Z,Z,Z,Z,Z,Z,Z,Z,Z,Z,Z,Z,Z,Z,Z,Z,Z,Z,Z,Z,Z,Z,Z,Z,Z,Z,Z,Z,Z,Z,Z,Z,Z,Z,Z,Z,Z,x82,x83,x84,x85,x86,x87,x88,x89,x90,x91,x92,x93,x94,x95,x96,Z,Z,Z,Z,Z,Z,Z,Z,Z,Z,Z,Z,Z,Z,Z],h') ∧ h' = h0 := by
  subst hFF
  suffices hs : ∃ e t' h',loopω [1,2,3,4,5,7,8,9,14,16,17,18,19,20,21,22,23,24,25,26,27,28,29,30,31,32,33,34,35,36,37,38,39,40,41,42,43,44,45,46,47,48,49,50,51,52,53,54,55,56,57,58,59,60,61,62,63,64,65,66,67,68,69,70,71,72,73,74,75,76,77,78,79,80,81,82,83,84,85,86,87,88,89,90,91,92,93,94,95,96,97,98,99,100,101,102,103,104,105,106,107,108,109,110,111] (aexecP Try.prog (sO 26) (run Try.prog sO) loopω pt26 (lt26 3)) t h0 = some (e,t',h') ∧ (e = .exit 6 ∧ ∃ x82 x83 x84 x85 x86 x87 x88 x89 x90 x91 x92 x93 x94 x95 x96,t' = [x0,Z,Z,Z,Z,Z,x6,Z,Z,Z,.slice oa K oc,x11,.int .i64 (q : Nat),.pointer (some ⟨mb,0,none⟩),Z,.int .i64 (insAt s d : Nat),Z,Z,Z,Z,Z,Z,Z,Z,Z,Z,Z,Z,Z,Z,Z,Z,Z,Z,Z,Z,Z,Z,Z,Z,Z,Z,Z,Z,Z,Z,Z,Z,Z,Z,Z,Z,Z,Z,Z,Z,Z,Z,Z,Z,Z,Z,Z,Z,Z,Z,Z,Z,Z,Z,Z,Z,Z,Z,Z,Z,Z,Z,Z,Z,Z,Z,x82,x83,x84,x85,x86,x87,x88,x89,x90,x91,x92,x93,x94,x95,x96,Z,Z,Z,Z,Z,Z,Z,Z,Z,Z,Z,Z,Z,Z,Z] ∧ h' = h0) by
    obtain ⟨e,t',h',q1,rfl,x82,x83,x84,x85,x86,x87,x88,x89,x90,x91,x92,x93,x94,x95,x96,rfl,q2⟩ := hs
    exact ⟨h',x82,x83,x84,x85,x86,x87,x88,x89,x90,x91,x92,x93,x94,x95,x96,q1,q2⟩
  simp only [lt26,Try.f26,loopsOf,Option.getD_some,List.nil_append,List.append_nil,List.cons_append,List.getD_cons_zero,List.getD_cons_succ]
  refine loop_by (fun k t h' => ∃ (i : Nat),i + k = insAt s d ∧ forget [1,2,3,4,5,7,8,9,14,16,17,18,19,20,21,22,23,24,25,26,27,28,29,30,31,32,33,34,35,36,37,38,39,40,41,42,43,44,45,46,47,48,49,50,51,52,53,54,55,56,57,58,59,60,61,62,63,64,65,66,67,68,69,70,71,72,73,74,75,76,77,78,79,80,81,82,83,84,85,86,87,88,89,90,91,92,93,94,95,96,97,98,99,100,101,102,103,104,105,106,107,108,109,110,111] t = [x0,Z,Z,Z,Z,Z,x6,Z,Z,Z,.slice oa K oc,x11,.int .i64 (q : Nat),.pointer (some ⟨mb,0,none⟩),Z,.int .i64 (i : Nat),Z,Z,Z,Z,Z,Z,Z,Z,Z,Z,Z,Z,Z,Z,Z,Z,Z,Z,Z,Z,Z,Z,Z,Z,Z,Z,Z,Z,Z,Z,Z,Z,Z,Z,Z,Z,Z,Z,Z,Z,Z,Z,Z,Z,Z,Z,Z,Z,Z,Z,Z,Z,Z,Z,Z,Z,Z,Z,Z,Z,Z,Z,Z,Z,Z,Z,Z,Z,Z,Z,Z,Z,Z,Z,Z,Z,Z,Z,Z,Z,Z,Z,Z,Z,Z,Z,Z,Z,Z,Z,Z,Z,Z,Z,Z,Z] ∧ h' = h0)
    (fun e t' h' => e = .exit 6 ∧ ∃ x82 x83 x84 x85 x86 x87 x88 x89 x90 x91 x92 x93 x94 x95 x96,t' = [x0,Z,Z,Z,Z,Z,x6,Z,Z,Z,.slice oa K oc,x11,.int .i64 (q : Nat),.pointer (some ⟨mb,0,none⟩),Z,.int .i64 (insAt s d : Nat),Z,Z,Z,Z,Z,Z,Z,Z,Z,Z,Z,Z,Z,Z,Z,Z,Z,Z,Z,Z,Z,Z,Z,Z,Z,Z,Z,Z,Z,Z,Z,Z,Z,Z,Z,Z,Z,Z,Z,Z,Z,Z,Z,Z,Z,Z,Z,Z,Z,Z,Z,Z,Z,Z,Z,Z,Z,Z,Z,Z,Z,Z,Z,Z,Z,Z,x82,x83,x84,x85,x86,x87,x88,x89,x90,x91,x92,x93,x94,x95,x96,Z,Z,Z,Z,Z,Z,Z,Z,Z,Z,Z,Z,Z,Z,Z] ∧ h' = h0) ?_ (insAt s d) _ _ ⟨0,by omega,ht,hI0⟩
  rintro k t h' ⟨i,hi,ht,hI⟩
  rw [ht]
  rcases Nat.lt_or_ge i (insAt s d) with h1 | h1
  · have hiK : i < K := by have := insAt_le s d; omega
    have hz := insAt_in s d i h1
    
    have hinc := @inc64 i (by omega)
    have hcs := cast_succ i
    subst hI
    obtain ⟨oa,oc,C,ce,cs,gr,ro,eb,hg,_,_,hc2⟩ := sl_rns ho hiK
    simp only [Value.slice.injEq,true_and] at eb
    obtain ⟨rfl,rfl⟩ := eb
    have hlt : (d.getD i (0,0,0)).2.2 < 18446744073709551616 := by
      rw [List.getD_eq_getElem?_getD,List.getElem?_eq_getElem (by omega)]; exact hd _ (List.getElem_mem _)
    have ec := rcmp_run sO (d.getD i (0,0,0)).2.2 s hlt hs h'
    generalize (d.getD i (0,0,0)).2.2 = y at *
    generalize cmpK y s = z at *
    simp (maxSteps := 2000000) -implicitDefEqProofs [ble_d,beq_d,List.range_succ,List.replicate,cond_true,cond_false,hiK,hg,hc2,hb,fa97_2,en54,ec,hz,pt26_22,pl26_22,an26_22,aindexAddr,sz97,sz37,Try.underlying60,Try.underlying97,hinc,undef]
    exact ⟨k - 1,by omega,i + 1,by omega,by simp (maxSteps := 2000000) only [forget,List.set_cons_succ,List.set_cons_zero,hcs]⟩
  · obtain rfl : i = insAt s d := by omega
    rcases Nat.lt_or_ge (insAt s d) K with hiK | hiK
    · have hz := insAt_out s d (by omega)
      generalize insAt s d = i at *
      have hinc := @inc64 i (by omega)
      have hcs := cast_succ i
      subst hI
      obtain ⟨oa,oc,C,ce,cs,gr,ro,eb,hg,_,_,hc2⟩ := sl_rns ho hiK
      simp only [Value.slice.injEq,true_and] at eb
      obtain ⟨rfl,rfl⟩ := eb
      have hlt : (d.getD i (0,0,0)).2.2 < 18446744073709551616 := by
        rw [List.getD_eq_getElem?_getD,List.getElem?_eq_getElem (by omega)]; exact hd _ (List.getElem_mem _)
      have ec := rcmp_run sO (d.getD i (0,0,0)).2.2 s hlt hs h'
      generalize (d.getD i (0,0,0)).2.2 = y at *
      generalize cmpK y s = z at *
      simp (maxSteps := 2000000) -implicitDefEqProofs [ble_d,beq_d,List.range_succ,List.replicate,cond_true,cond_false,hiK,hg,hc2,hb,fa97_2,en54,ec,hz,pt26_22,pl26_22,an26_22,aindexAddr,sz97,sz37,Try.underlying60,Try.underlying97,hinc,undef]
    · have hiK' : ¬ insAt s d < K := by omega
      subst hI
      generalize insAt s d = i at *
      simp (maxSteps := 2000000) -implicitDefEqProofs [ble_d,beq_d,List.range_succ,List.replicate,cond_true,cond_false,hiK',pt26_22,pl26_22,an26_22,undef]
end Go.Proofs.Ytmnkmdfladbgdaa.Od
