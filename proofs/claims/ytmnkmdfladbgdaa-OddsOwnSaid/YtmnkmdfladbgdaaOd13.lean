/- Odds: the loops of the document's Shares. -/
import Derived.Test.YtmnkmdfladbgdaaOd12
import Derived.Test.YtmnkmdfladbgdaaOd8
set_option linter.unusedVariables false
set_option linter.unusedSimpArgs false
namespace Go.Proofs.Ytmnkmdfladbgdaa.Od
open Go Go.Proofs Go.RowKit Go.Proofs.YtmnkmdfladbgdaaAI Go.Proofs.YtmnkmdfladbgdaaFl Go.Proofs.YtmnkmdfladbgdaaRnd

theorem us_snoc (l : List Nat) (x : Nat) : us (l ++ [x]) = us l ++ [.int .u64 (x : Nat)] := by simp [us]
/-- One word more. -/
theorem app_us {h : Heap} {v : Value} {l : List Nat} (hl : Lg h v 37 1 l.length (us l)) (hk : l.length + 1 ≤ 100000) (x : Nat) :
    ∃ v' h',aappend Try.prog 22 22 v (.slice (some ⟨h.next,0,none⟩) 1 1) (h.new (.cells [.int .u64 (x : Nat)] 37 1 false false)) = some (v',h') ∧ Lg h' v' 37 1 (l ++ [x]).length (us (l ++ [x])) ∧ Keep (fun m => nm v = some m) h h' ∧ ∀ m,nm v' = some m → nm v = some m ∨ h.next ≤ m := by
  have k0 := Keep.new No h (.cells [.int .u64 (x : Nat)] 37 1 false false)
  have hx : Sl (h.new (.cells [.int .u64 (x : Nat)] 37 1 false false)) (.slice (some ⟨h.next,0,none⟩) 1 1) 1 1 [.int .u64 (x : Nat)] :=
    ⟨rfl,.inr ⟨_,_,rfl,fun _ => ⟨_,_,_,_,_,by rw [Heap.get_new,if_pos rfl],rfl⟩⟩⟩
  obtain ⟨v8,h8,e8,lg8,kp8,nv8,_,nf8⟩ := append_lg (t := 22) (xt := 22) Try.underlying22 Try.underlying22 rfl el37 (hl.keep k0 (fun _ _ x => x)) hx (by omega) (by omega) rfl
  refine ⟨v8,h8,e8,by rw [us_snoc,List.length_append]; exact lg8,(k0.mono fun m _ x => x.elim).also kp8 fun m _ x => x,fun m e => ?_⟩
  rcases Nat.lt_or_ge m (h.next + 1) with y | y
  · exact .inl (nv8 m e (by rw [Heap.next_new]; exact y))
  · exact .inr (by omega)
theorem wl_snoc (ws : List Nat) (turn : Int) (i : Nat) : wl ws turn (i + 1) = wl ws turn i ++ [wt ws turn i] := by simp [wl,List.range_succ]
theorem wl_len (ws : List Nat) (turn : Int) (i : Nat) : (wl ws turn i).length = i := by simp [wl]
theorem wl_get {ws : List Nat} {turn : Int} {n i : Nat} (hi : i < n) : (wl ws turn n).getD i 0 = wt ws turn i := by
  simp [wl,List.getD_eq_getElem?_getD,List.getElem?_map,List.getElem?_range hi]
def shl' (ws : List Nat) (turn : Int) (n i : Nat) : List Nat := (List.range i).map (shB ws turn n)
theorem shl_snoc (ws : List Nat) (turn : Int) (n i : Nat) : shl' ws turn n (i + 1) = shl' ws turn n i ++ [shB ws turn n i] := by simp [shl',List.range_succ]
theorem shl_len (ws : List Nat) (turn : Int) (n i : Nat) : (shl' ws turn n i).length = i := by simp [shl']
set_option maxRecDepth 20000 in
set_option maxHeartbeats 6400000 in
theorem rsh1 {h0 : Heap} {va : Option Addr} {vc n : Nat} {ws : List Nat} (turn : Int) (hn : n ≤ 4096) (hw : W64 ws) (hk : ws.length ≤ 2 ^ 47) (hv : Sl h0 (.slice va ws.length vc) 1 ws.length (us ws)) (v0 : Value) (F : Step) (hFF : F = aexecP Try.prog (sO 12) (run Try.prog sO) loopω pt12 (lb12 0)) (t : Tm)
    (ht : forget [3,4,5,6,7,13,14,15,16,17,18,19,20,21,22,23,24,25,26,27,28,29,30,31,32,33,34,35,36,37,38,39,40,41,42,43,44,45,46,47,48,49,50,51,52,53,54,55,56,57,58,59,60,61,62,63,64,65,66,67,68,69,70,71,72,73,74,75,76,77,78,79,80,81,82,83,84,85,86,87,88,89,90,91,92,93] t = [.slice va ws.length vc,.int .i64 turn,.int .i64 n,Z,Z,Z,Z,Z,v0,.slice none 0 0,U (sumB ws turn (0)),.int .i64 (infB ws turn (0) : Nat),.int .i64 (0 : Nat),Z,Z,Z,Z,Z,Z,Z,Z,Z,Z,Z,Z,Z,Z,Z,Z,Z,Z,Z,Z,Z,Z,Z,Z,Z,Z,Z,Z,Z,Z,Z,Z,Z,Z,Z,Z,Z,Z,Z,Z,Z,Z,Z,Z,Z,Z,Z,Z,Z,Z,Z,Z,Z,Z,Z,Z,Z,Z,Z,Z,Z,Z,Z,Z,Z,Z,Z,Z,Z,Z,Z,Z,Z,Z,Z,Z,Z,Z,Z,Z,Z]) (hI0 : (Lg h0 v0 37 1 (0) (us (wl ws turn (0))) ∧ Keep No h0 h0 ∧ ∀ m,nm v0 = some m → h0.next ≤ m)) :
    ∃ h' v x25 x26 x27,loopω [3,4,5,6,7,13,14,15,16,17,18,19,20,21,22,23,24,25,26,27,28,29,30,31,32,33,34,35,36,37,38,39,40,41,42,43,44,45,46,47,48,49,50,51,52,53,54,55,56,57,58,59,60,61,62,63,64,65,66,67,68,69,70,71,72,73,74,75,76,77,78,79,80,81,82,83,84,85,86,87,88,89,90,91,92,93] F t h0 = some (.exit 0,[.slice va ws.length vc,.int .i64 turn,.int .i64 n,Z,Z,Z,Z,Z,v,.slice none 0 0,U (sumB ws turn (n)),.int .i64 (infB ws turn (n) : Nat),.int .i64 (n : Nat),Z,Z,Z,Z,Z,Z,Z,Z,Z,Z,Z,Z,x25,x26,x27,Z,Z,Z,Z,Z,Z,Z,Z,Z,Z,Z,Z,Z,Z,Z,Z,Z,Z,Z,Z,Z,Z,Z,Z,Z,Z,Z,Z,Z,Z,Z,Z,Z,Z,Z,Z,Z,Z,Z,Z,Z,Z,Z,Z,Z,Z,Z,Z,Z,Z,Z,Z,Z,Z,Z,Z,Z,Z,Z,Z,Z,Z,Z,Z,Z,Z],h') ∧ (Lg h' v 37 1 (n) (us (wl ws turn (n))) ∧ Keep No h0 h' ∧ ∀ m,nm v = some m → h0.next ≤ m) := by
  subst hFF
  suffices hs : ∃ e t' h',loopω [3,4,5,6,7,13,14,15,16,17,18,19,20,21,22,23,24,25,26,27,28,29,30,31,32,33,34,35,36,37,38,39,40,41,42,43,44,45,46,47,48,49,50,51,52,53,54,55,56,57,58,59,60,61,62,63,64,65,66,67,68,69,70,71,72,73,74,75,76,77,78,79,80,81,82,83,84,85,86,87,88,89,90,91,92,93] (aexecP Try.prog (sO 12) (run Try.prog sO) loopω pt12 (lb12 0)) t h0 = some (e,t',h') ∧ (e = .exit 0 ∧ ∃ v x25 x26 x27,t' = [.slice va ws.length vc,.int .i64 turn,.int .i64 n,Z,Z,Z,Z,Z,v,.slice none 0 0,U (sumB ws turn (n)),.int .i64 (infB ws turn (n) : Nat),.int .i64 (n : Nat),Z,Z,Z,Z,Z,Z,Z,Z,Z,Z,Z,Z,x25,x26,x27,Z,Z,Z,Z,Z,Z,Z,Z,Z,Z,Z,Z,Z,Z,Z,Z,Z,Z,Z,Z,Z,Z,Z,Z,Z,Z,Z,Z,Z,Z,Z,Z,Z,Z,Z,Z,Z,Z,Z,Z,Z,Z,Z,Z,Z,Z,Z,Z,Z,Z,Z,Z,Z,Z,Z,Z,Z,Z,Z,Z,Z,Z,Z,Z,Z,Z] ∧ (Lg h' v 37 1 (n) (us (wl ws turn (n))) ∧ Keep No h0 h' ∧ ∀ m,nm v = some m → h0.next ≤ m)) by
    obtain ⟨e,t',h',q1,rfl,v,x25,x26,x27,rfl,q2⟩ := hs
    exact ⟨h',v,x25,x26,x27,q1,q2⟩
  simp only [lb12,Try.f12,loopsOf,Option.getD_some,List.nil_append,List.append_nil,List.cons_append,List.getD_cons_zero,List.getD_cons_succ]
  refine loop_by (fun k t h' => ∃ (i : Nat) (v : Value),i + k = n ∧ forget [3,4,5,6,7,13,14,15,16,17,18,19,20,21,22,23,24,25,26,27,28,29,30,31,32,33,34,35,36,37,38,39,40,41,42,43,44,45,46,47,48,49,50,51,52,53,54,55,56,57,58,59,60,61,62,63,64,65,66,67,68,69,70,71,72,73,74,75,76,77,78,79,80,81,82,83,84,85,86,87,88,89,90,91,92,93] t = [.slice va ws.length vc,.int .i64 turn,.int .i64 n,Z,Z,Z,Z,Z,v,.slice none 0 0,U (sumB ws turn (i)),.int .i64 (infB ws turn (i) : Nat),.int .i64 (i : Nat),Z,Z,Z,Z,Z,Z,Z,Z,Z,Z,Z,Z,Z,Z,Z,Z,Z,Z,Z,Z,Z,Z,Z,Z,Z,Z,Z,Z,Z,Z,Z,Z,Z,Z,Z,Z,Z,Z,Z,Z,Z,Z,Z,Z,Z,Z,Z,Z,Z,Z,Z,Z,Z,Z,Z,Z,Z,Z,Z,Z,Z,Z,Z,Z,Z,Z,Z,Z,Z,Z,Z,Z,Z,Z,Z,Z,Z,Z,Z,Z,Z] ∧ (Lg h' v 37 1 (i) (us (wl ws turn (i))) ∧ Keep No h0 h' ∧ ∀ m,nm v = some m → h0.next ≤ m))
    (fun e t' h' => e = .exit 0 ∧ ∃ v x25 x26 x27,t' = [.slice va ws.length vc,.int .i64 turn,.int .i64 n,Z,Z,Z,Z,Z,v,.slice none 0 0,U (sumB ws turn (n)),.int .i64 (infB ws turn (n) : Nat),.int .i64 (n : Nat),Z,Z,Z,Z,Z,Z,Z,Z,Z,Z,Z,Z,x25,x26,x27,Z,Z,Z,Z,Z,Z,Z,Z,Z,Z,Z,Z,Z,Z,Z,Z,Z,Z,Z,Z,Z,Z,Z,Z,Z,Z,Z,Z,Z,Z,Z,Z,Z,Z,Z,Z,Z,Z,Z,Z,Z,Z,Z,Z,Z,Z,Z,Z,Z,Z,Z,Z,Z,Z,Z,Z,Z,Z,Z,Z,Z,Z,Z,Z,Z,Z] ∧ (Lg h' v 37 1 (n) (us (wl ws turn (n))) ∧ Keep No h0 h' ∧ ∀ m,nm v = some m → h0.next ≤ m)) ?_ (n) _ _ ⟨0,_,by omega,ht,hI0⟩
  rintro k t h' ⟨i,v,hi,ht,hI⟩
  rw [ht]
  rcases Nat.lt_or_ge i (n) with h1 | h1
  · obtain ⟨lg,kp,nw⟩ := hI
    have hinc := @inc64 i (by omega)
    have hcs := cast_succ i
    have hvk := hv.keep kp fun _ _ x => x
    have e1 := rat_run turn (i : Nat) hvk hw hk
    have e2 := rworth_run sO (atB ws turn (i : Nat)) (atB_lt hw turn _) h'
    have hwe : worthB (atB ws turn (i : Nat)) = wt ws turn i := rfl
    rw [hwe] at e2
    generalize atB ws turn (i : Nat) = A at e1 e2
    have wp := wt_pos hw turn i
    have sp := (sum_ok hw turn i).1
    have hll := wl_len ws turn i
    have lg' : Lg h' v 37 1 (wl ws turn i).length (us (wl ws turn i)) := by rw [hll]; exact lg
    obtain ⟨v8,h8,e8,lg8,kp8,nv8⟩ := app_us lg' (by omega) (wt ws turn i)
    rw [← wl_snoc,wl_len] at lg8
    have kk := kp.also kp8 fun m hm x => by have := nw m x; omega
    have nn : ∀ m,nm v8 = some m → h0.next ≤ m := fun m e => by
      rcases nv8 m e with y | y
      · exact nw m y
      · have := kp.1; omega
    obtain ⟨h9,e9,k9⟩ := @addr_run h8 (sumB ws turn i) (wt ws turn i) sp wp
    have hsn : addB (sumB ws turn i) (wt ws turn i) = sumB ws turn (i + 1) := rfl
    rw [hsn] at e9
    have lg9 := lg8.keep k9 fun _ _ x => x
    have kk9 := kk.trans k9
    have hin : infB ws turn (i + 1) = if wt ws turn i = 9218868437227405312 then infB ws turn i + 1 else infB ws turn i := rfl
    have hil := infB_le ws turn i
    generalize hS1 : sumB ws turn (i + 1) = S' at *
    generalize sumB ws turn i = S at *
    generalize hww : wt ws turn i = w at *
    generalize hKe : infB ws turn (i + 1) = K' at *
    generalize infB ws turn i = K at *
    have w3 : IntKind.i64.wrap ((K : Int) + 1) = ((K + 1 : Nat) : Int) := @inc64 K (by omega)
    have hK2 := cast_succ K
    by_cases c1 : w = 9218868437227405312
    · rw [if_pos c1] at hin
      have d1 := eq_true c1
      have d1' : ((w : Int) = 9218868437227405312) = True := eq_true (by omega)
      simp (maxSteps := 2000000) -implicitDefEqProofs [ble_d,beq_d,List.range_succ,List.replicate,cond_true,cond_false,h1,en34,en33,en35,e1,e2,e8,e9,ibeq,d1,d1',w3,hinc,(fun ρ z hz => bs22_1 ρ z (w : Int) hz),Try.underlying22,undef]
      exact ⟨k - 1,by omega,i + 1,by omega,v8,by simp (maxSteps := 2000000) only [forget,List.set_cons_succ,List.set_cons_zero,hcs,hS1,hKe,hin,hK2],lg9,kk9,nn⟩
    · rw [if_neg c1] at hin
      have c1' : ¬ (w : Int) = 9218868437227405312 := by omega
      simp (maxSteps := 2000000) -implicitDefEqProofs [ble_d,beq_d,List.range_succ,List.replicate,cond_true,cond_false,h1,en34,en33,en35,e1,e2,e8,e9,ibeq,c1,c1',w3,hinc,(fun ρ z hz => bs22_1 ρ z (w : Int) hz),Try.underlying22,undef]
      exact ⟨k - 1,by omega,i + 1,by omega,v8,by simp (maxSteps := 2000000) only [forget,List.set_cons_succ,List.set_cons_zero,hcs,hS1,hKe,hin],lg9,kk9,nn⟩
  · obtain rfl : i = n := by omega
    simp (maxSteps := 2000000) -implicitDefEqProofs [ble_d,beq_d,List.range_succ,List.replicate,cond_true,cond_false]
    exact hI
theorem bs22_c (t : Tm) (d ty pos af gu) : aalloc Try.prog (aeval t) ⟨d,.buildSlice 22 1 #[(0,.const (.int .u64 0))],ty,pos,af,gu⟩ = some (.cells [.int .u64 0] 37 1 false false,fun n => .slice (some ⟨n,0,none⟩) 1 1) := by kernel_rfl
set_option maxRecDepth 20000 in
set_option maxHeartbeats 6400000 in
theorem rsh2 {h0 : Heap} {wa : Option Addr} {wc n : Nat} {ws : List Nat} (turn : Int) (hn0 : 0 < n) (hn : n ≤ 4096) (hw : W64 ws) (hv : Sl h0 (.slice wa n wc) 1 n (us (wl ws turn n))) (v0 : Value) (F : Step) (hFF : F = aexecP Try.prog (sO 12) (run Try.prog sO) loopω pt12 (lb12 1)) (t : Tm)
    (ht : forget [0,1,3,4,5,6,7,12,13,15,16,17,18,19,20,21,22,23,24,25,26,27,28,29,30,31,32,33,34,35,36,37,38,39,40,41,42,43,44,45,46,47,48,49,50,51,52,53,54,55,56,57,58,59,60,61,62,63,64,65,66,67,68,69,70,71,72,73,74,75,76,77,78,79,80,81,82,83,84,85,86,87,88,89,90,91,92,93] t = [Z,Z,.int .i64 n,Z,Z,Z,Z,Z,.slice wa n wc,v0,U (sumB ws turn n),.int .i64 (infB ws turn n : Nat),Z,Z,.int .i64 (0 : Nat),Z,Z,Z,Z,Z,Z,Z,Z,Z,Z,Z,Z,Z,Z,Z,Z,Z,Z,Z,Z,Z,Z,Z,Z,Z,Z,Z,Z,Z,Z,Z,Z,Z,Z,Z,Z,Z,Z,Z,Z,Z,Z,Z,Z,Z,Z,Z,Z,Z,Z,Z,Z,Z,Z,Z,Z,Z,Z,Z,Z,Z,Z,Z,Z,Z,Z,Z,Z,Z,Z,Z,Z,Z,Z,Z,Z,Z,Z,Z]) (hI0 : (Lg h0 v0 37 1 (0) (us (shl' ws turn n (0))) ∧ Keep No h0 h0 ∧ ∀ m,nm v0 = some m → h0.next ≤ m)) :
    ∃ h' v x46 x47 x48,loopω [0,1,3,4,5,6,7,12,13,15,16,17,18,19,20,21,22,23,24,25,26,27,28,29,30,31,32,33,34,35,36,37,38,39,40,41,42,43,44,45,46,47,48,49,50,51,52,53,54,55,56,57,58,59,60,61,62,63,64,65,66,67,68,69,70,71,72,73,74,75,76,77,78,79,80,81,82,83,84,85,86,87,88,89,90,91,92,93] F t h0 = some (.exit 2,[Z,Z,.int .i64 n,Z,Z,Z,Z,Z,.slice wa n wc,v,U (sumB ws turn n),.int .i64 (infB ws turn n : Nat),Z,Z,.int .i64 (n : Nat),Z,Z,Z,Z,Z,Z,Z,Z,Z,Z,Z,Z,Z,Z,Z,Z,Z,Z,Z,Z,Z,Z,Z,Z,Z,Z,Z,Z,Z,Z,Z,x46,x47,x48,Z,Z,Z,Z,Z,Z,Z,Z,Z,Z,Z,Z,Z,Z,Z,Z,Z,Z,Z,Z,Z,Z,Z,Z,Z,Z,Z,Z,Z,Z,Z,Z,Z,Z,Z,Z,Z,Z,Z,Z,Z,Z,Z,Z,Z],h') ∧ (Lg h' v 37 1 (n) (us (shl' ws turn n (n))) ∧ Keep No h0 h' ∧ ∀ m,nm v = some m → h0.next ≤ m) := by
  subst hFF
  suffices hs : ∃ e t' h',loopω [0,1,3,4,5,6,7,12,13,15,16,17,18,19,20,21,22,23,24,25,26,27,28,29,30,31,32,33,34,35,36,37,38,39,40,41,42,43,44,45,46,47,48,49,50,51,52,53,54,55,56,57,58,59,60,61,62,63,64,65,66,67,68,69,70,71,72,73,74,75,76,77,78,79,80,81,82,83,84,85,86,87,88,89,90,91,92,93] (aexecP Try.prog (sO 12) (run Try.prog sO) loopω pt12 (lb12 1)) t h0 = some (e,t',h') ∧ (e = .exit 2 ∧ ∃ v x46 x47 x48,t' = [Z,Z,.int .i64 n,Z,Z,Z,Z,Z,.slice wa n wc,v,U (sumB ws turn n),.int .i64 (infB ws turn n : Nat),Z,Z,.int .i64 (n : Nat),Z,Z,Z,Z,Z,Z,Z,Z,Z,Z,Z,Z,Z,Z,Z,Z,Z,Z,Z,Z,Z,Z,Z,Z,Z,Z,Z,Z,Z,Z,Z,x46,x47,x48,Z,Z,Z,Z,Z,Z,Z,Z,Z,Z,Z,Z,Z,Z,Z,Z,Z,Z,Z,Z,Z,Z,Z,Z,Z,Z,Z,Z,Z,Z,Z,Z,Z,Z,Z,Z,Z,Z,Z,Z,Z,Z,Z,Z,Z] ∧ (Lg h' v 37 1 (n) (us (shl' ws turn n (n))) ∧ Keep No h0 h' ∧ ∀ m,nm v = some m → h0.next ≤ m)) by
    obtain ⟨e,t',h',q1,rfl,v,x46,x47,x48,rfl,q2⟩ := hs
    exact ⟨h',v,x46,x47,x48,q1,q2⟩
  simp only [lb12,Try.f12,loopsOf,Option.getD_some,List.nil_append,List.append_nil,List.cons_append,List.getD_cons_zero,List.getD_cons_succ]
  refine loop_by (fun k t h' => ∃ (i : Nat) (v : Value),i + k = n ∧ forget [0,1,3,4,5,6,7,12,13,15,16,17,18,19,20,21,22,23,24,25,26,27,28,29,30,31,32,33,34,35,36,37,38,39,40,41,42,43,44,45,46,47,48,49,50,51,52,53,54,55,56,57,58,59,60,61,62,63,64,65,66,67,68,69,70,71,72,73,74,75,76,77,78,79,80,81,82,83,84,85,86,87,88,89,90,91,92,93] t = [Z,Z,.int .i64 n,Z,Z,Z,Z,Z,.slice wa n wc,v,U (sumB ws turn n),.int .i64 (infB ws turn n : Nat),Z,Z,.int .i64 (i : Nat),Z,Z,Z,Z,Z,Z,Z,Z,Z,Z,Z,Z,Z,Z,Z,Z,Z,Z,Z,Z,Z,Z,Z,Z,Z,Z,Z,Z,Z,Z,Z,Z,Z,Z,Z,Z,Z,Z,Z,Z,Z,Z,Z,Z,Z,Z,Z,Z,Z,Z,Z,Z,Z,Z,Z,Z,Z,Z,Z,Z,Z,Z,Z,Z,Z,Z,Z,Z,Z,Z,Z,Z,Z,Z,Z,Z,Z,Z,Z] ∧ (Lg h' v 37 1 (i) (us (shl' ws turn n (i))) ∧ Keep No h0 h' ∧ ∀ m,nm v = some m → h0.next ≤ m))
    (fun e t' h' => e = .exit 2 ∧ ∃ v x46 x47 x48,t' = [Z,Z,.int .i64 n,Z,Z,Z,Z,Z,.slice wa n wc,v,U (sumB ws turn n),.int .i64 (infB ws turn n : Nat),Z,Z,.int .i64 (n : Nat),Z,Z,Z,Z,Z,Z,Z,Z,Z,Z,Z,Z,Z,Z,Z,Z,Z,Z,Z,Z,Z,Z,Z,Z,Z,Z,Z,Z,Z,Z,Z,x46,x47,x48,Z,Z,Z,Z,Z,Z,Z,Z,Z,Z,Z,Z,Z,Z,Z,Z,Z,Z,Z,Z,Z,Z,Z,Z,Z,Z,Z,Z,Z,Z,Z,Z,Z,Z,Z,Z,Z,Z,Z,Z,Z,Z,Z,Z,Z] ∧ (Lg h' v 37 1 (n) (us (shl' ws turn n (n))) ∧ Keep No h0 h' ∧ ∀ m,nm v = some m → h0.next ≤ m)) ?_ (n) _ _ ⟨0,_,by omega,ht,hI0⟩
  rintro k t h' ⟨i,v,hi,ht,hI⟩
  rw [ht]
  rcases Nat.lt_or_ge i (n) with h1 | h1
  · obtain ⟨lg,kp,nw⟩ := hI
    have hinc := @inc64 i (by omega)
    have hcs := cast_succ i
    have hvk := hv.keep kp fun _ _ x => x
    obtain ⟨wa,wc,C,ce,cs,gr,ro,eb,hg,hc⟩ := sl_u64 hvk h1
    simp only [Value.slice.injEq,true_and] at eb
    obtain ⟨rfl,rfl⟩ := eb
    rw [wl_get h1] at hc
    have wp := wt_pos hw turn i
    have sp := (sum_ok hw turn n).1
    have sm := (sum_ok hw turn n).2 i h1
    have hil := infB_le ws turn n
    have hip : wt ws turn i = 9218868437227405312 → 0 < infB ws turn n := infB_pos h1
    have hll := shl_len ws turn n i
    have hsh : shB ws turn n i = if 0 < infB ws turn n then (if wt ws turn i = 9218868437227405312 then divB (Fi 1) (Fi (infB ws turn n)) else 0) else if sumB ws turn n = 0 then divB (Fi 1) (Fi n) else divB (wt ws turn i) (sumB ws turn n) := rfl
    have f1 := Fi_spec (k := 1) (by omega)
    have f1' : Fi 1 < 9218868437227405312 := by rw [one_lit]; omega
    have fn := Fi_spec (k := n) (by omega)
    have fk := Fi_spec (k := infB ws turn n) (by omega)
    have pn := Fi_pos (k := n) (by omega)
    have pk := Fi_pos (k := infB ws turn n) (by omega)
    have fin_ : ∀ (hh : Heap) (w : Nat),Keep No h' hh → ∃ v8 h8,aappend Try.prog 22 22 v (.slice (some ⟨hh.next,0,none⟩) 1 1) (hh.new (.cells [.int .u64 (w : Nat)] 37 1 false false)) = some (v8,h8) ∧ (w = shB ws turn n i → Lg h8 v8 37 1 (i + 1) (us (shl' ws turn n (i + 1)))) ∧ Keep No h0 h8 ∧ ∀ m,nm v8 = some m → h0.next ≤ m := fun hh w kh => by
      have lg' : Lg hh v 37 1 (shl' ws turn n i).length (us (shl' ws turn n i)) := by rw [hll]; exact lg.keep kh fun _ _ x => x
      obtain ⟨v8,h8,e8,lg8,kp8,nv8⟩ := app_us lg' (by omega) w
      refine ⟨v8,h8,e8,fun hw8 => ?_,(kp.trans kh).also kp8 fun m hm x => (by have := nw m x; omega),fun m e => ?_⟩
      · rw [hw8,← shl_snoc,shl_len] at lg8; exact lg8
      · rcases nv8 m e with y | y
        · exact nw m y
        · have := kp.1; have := kh.1; omega
    have e1 := @int_run h' 1 (by omega) (by omega)
    have e1n := @int_run h' n hn0 hn
    rw [show ((1 : Nat) : Int) = 1 from rfl] at e1
    generalize hww : wt ws turn i = w at *
    generalize hrr : shB ws turn n i = r at *
    generalize hSS : sumB ws turn n = S at *
    generalize hKK : infB ws turn n = K at *
    by_cases c1 : 0 < K
    · rw [if_pos c1] at hsh
      have e1k := @int_run h' K c1 (by omega)
      by_cases c2 : w = 9218868437227405312
      · rw [if_pos c2] at hsh
        have c2' : (w : Int) = 9218868437227405312 := by omega
        obtain ⟨h9,e9,k9⟩ := @div_run h' (Fi 1) (Fi K) f1' pk (fk.2.2 c1)
        rw [← hsh] at e9
        obtain ⟨v8,h8,e8,lg8,kk,nn⟩ := fin_ h9 r k9
        generalize Fi 1 = F1 at *
        generalize Fi K = FK at *
        simp (maxSteps := 2000000) -implicitDefEqProofs [ble_d,beq_d,List.range_succ,List.replicate,cond_true,cond_false,h1,c1,c2,c2',hg,hc,ibeq,aindexAddr,sz37,Try.underlying22,en37,en36,e1,e1k,e9,e8,(fun ρ z hz => bs22_1 ρ z (r : Int) hz),hinc,undef]
        exact ⟨k - 1,by omega,i + 1,by omega,v8,by simp (maxSteps := 2000000) only [forget,List.set_cons_succ,List.set_cons_zero,hcs,hSS,hKK],lg8 rfl,kk,nn⟩
      · rw [if_neg c2] at hsh
        have c2' : ¬ (w : Int) = 9218868437227405312 := by omega
        obtain ⟨v8,h8,e8,lg8,kk,nn⟩ := fin_ h' 0 (Keep.refl _ _)
        rw [show ((0 : Nat) : Int) = 0 from rfl] at e8
        simp (maxSteps := 2000000) -implicitDefEqProofs [ble_d,beq_d,List.range_succ,List.replicate,cond_true,cond_false,h1,c1,c2,c2',hg,hc,ibeq,aindexAddr,sz37,Try.underlying22,e8,bs22_c,hinc,undef]
        exact ⟨k - 1,by omega,i + 1,by omega,v8,by simp (maxSteps := 2000000) only [forget,List.set_cons_succ,List.set_cons_zero,hcs,hSS,hKK],lg8 hsh.symm,kk,nn⟩
    · rw [if_neg c1] at hsh
      by_cases c2 : S = 0
      · rw [if_pos c2] at hsh
        have c2' : (S : Int) = 0 := by omega
        obtain ⟨h9,e9,k9⟩ := @div_run h' (Fi 1) (Fi n) f1' pn (fn.2.2 hn0)
        rw [← hsh] at e9
        obtain ⟨v8,h8,e8,lg8,kk,nn⟩ := fin_ h9 r k9
        generalize Fi 1 = F1 at *
        generalize Fi n = FN at *
        simp (maxSteps := 2000000) -implicitDefEqProofs [ble_d,beq_d,List.range_succ,List.replicate,cond_true,cond_false,h1,c1,c2,c2',hg,hc,ibeq,aindexAddr,sz37,Try.underlying22,en37,en36,e1,e1n,e9,e8,(fun ρ z hz => bs22_1 ρ z (r : Int) hz),hinc,undef]
        exact ⟨k - 1,by omega,i + 1,by omega,v8,by simp (maxSteps := 2000000) only [forget,List.set_cons_succ,List.set_cons_zero,hcs,hSS,hKK,c2],lg8 rfl,kk,nn⟩
      · rw [if_neg c2] at hsh
        have c2' : ¬ (S : Int) = 0 := by omega
        have wlt : w < 9218868437227405312 := by
          unfold Pos at wp
          rcases Nat.lt_or_eq_of_le wp with x | x
          · exact x
          · exact absurd (hip x) c1
        obtain ⟨h9,e9,k9⟩ := @div_run h' w S wlt sp (by omega)
        rw [← hsh] at e9
        obtain ⟨v8,h8,e8,lg8,kk,nn⟩ := fin_ h9 r k9
        simp (maxSteps := 2000000) -implicitDefEqProofs [ble_d,beq_d,List.range_succ,List.replicate,cond_true,cond_false,h1,c1,c2,c2',hg,hc,ibeq,aindexAddr,sz37,Try.underlying22,en36,e9,e8,(fun ρ z hz => bs22_1 ρ z (r : Int) hz),hinc,undef]
        exact ⟨k - 1,by omega,i + 1,by omega,v8,by simp (maxSteps := 2000000) only [forget,List.set_cons_succ,List.set_cons_zero,hcs,hSS,hKK],lg8 rfl,kk,nn⟩
  · obtain rfl : i = n := by omega
    simp (maxSteps := 2000000) -implicitDefEqProofs [ble_d,beq_d,List.range_succ,List.replicate,cond_true,cond_false]
    exact hI
end Go.Proofs.Ytmnkmdfladbgdaa.Od
