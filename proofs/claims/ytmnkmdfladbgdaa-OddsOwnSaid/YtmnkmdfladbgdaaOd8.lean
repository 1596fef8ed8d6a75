/- Odds: Shares. -/
import Derived.Test.YtmnkmdfladbgdaaOd6
set_option linter.unusedVariables false
set_option linter.unusedSimpArgs false
namespace Go.Proofs.Ytmnkmdfladbgdaa.Od
open Go Go.Proofs Go.RowKit Go.Proofs.YtmnkmdfladbgdaaAI Go.Proofs.YtmnkmdfladbgdaaFl Go.Proofs.YtmnkmdfladbgdaaRnd

/-- A row whose first i numbers are told by f, the others by g. -/
def Row (n i : Nat) (f g : Nat → Nat) (L : List Nat) : Prop := L.length = n ∧ ∀ j,j < n → L.getD j 0 = if j < i then f j else g j
theorem Row.step {n i : Nat} {f g : Nat → Nat} {L : List Nat} (h : Row n i f g L) (hi : i < n) : Row n (i + 1) f g (L.set i (f i)) := by
  refine ⟨by rw [List.length_set]; exact h.1,fun j hj => ?_⟩
  have h2 := h.2 j hj
  have hl := h.1
  rw [List.getD_eq_getElem?_getD,List.getElem?_eq_getElem (by omega)] at h2
  rw [List.getD_eq_getElem?_getD,List.getElem?_eq_getElem (by rw [List.length_set]; omega),List.getElem_set]
  simp only [Option.getD_some] at h2 ⊢
  by_cases h3 : i = j
  · subst h3; rw [if_pos rfl,if_pos (by omega)]
  · rw [if_neg h3,h2]
    by_cases h4 : j < i
    · rw [if_pos h4,if_pos (by omega)]
    · rw [if_neg h4,if_neg (by omega)]
theorem Row.next {n : Nat} {f g f' : Nat → Nat} {L : List Nat} (h : Row n n f g L) : Row n 0 f' f L :=
  ⟨h.1,fun j hj => by rw [h.2 j hj,if_pos hj,if_neg (by omega)]⟩
theorem Row.done {n : Nat} {f g : Nat → Nat} {L : List Nat} (h : Row n n f g L) : L = (List.range n).map f := by
  refine List.ext_getElem (by simp [h.1]) fun j h1 h2 => ?_
  have hl := h.1
  have := h.2 j (by omega)
  rw [List.getD_eq_getElem?_getD,List.getElem?_eq_getElem h1,if_pos (by omega)] at this
  simpa using this
theorem Row.start (n : Nat) (f : Nat → Nat) : Row n 0 f (fun _ => 0) (List.replicate n 0) :=
  ⟨List.length_replicate,fun j hj => by simp [List.getD_eq_getElem?_getD,List.getElem?_replicate,hj]⟩
theorem okf (k : FloatKind) (n : Nat) : okCells (.float k n) = some [.float k n] := rfl
theorem fl_len (L : List Nat) : (fl L).length = L.length := by simp [fl]
theorem fl_set {L : List Nat} {i : Nat} (hi : i < L.length) (v : Nat) : List.take i (fl L) ++ Value.float .f64 v :: List.drop (i + 1) (fl L) = fl (L.set i v) := by
  unfold fl
  rw [List.map_set,List.set_eq_take_append_cons_drop,if_pos (by simpa using hi)]
theorem fl_g {L : List Nat} {i : Nat} (hi : i < L.length) : (fl L)[i]? = some (.float .f64 (L.getD i 0)) := by
  simp [fl,List.getElem?_eq_getElem hi]
/-- The row that is written: its block, and all else as it was. -/
def SH (n i m : Nat) (f g : Nat → Nat) (h0 h : Heap) : Prop := ∃ L,Row n i f g L ∧ h.get m = some (.cells (fl L) 34 1 false false) ∧ Keep (fun x => x = m) h0 h
theorem SH.step {n i m : Nat} {f g : Nat → Nat} {h0 h : Heap} (hI : SH n i m f g h0 h) (hi : i < n) :
    ∃ L q,Row n i f g L ∧ h.get m = some (.cells (fl L) 34 1 false false) ∧ L.length = n ∧ q = h.put m (some (.cells (fl (L.set i (f i))) 34 1 false false)) ∧ q.get m = some (.cells (fl (L.set i (f i))) 34 1 false false) ∧ (fl (L.set i (f i)))[i]? = some (.float .f64 (f i)) ∧
      List.take i (fl L) ++ Value.float .f64 (f i) :: List.drop (i + 1) (fl L) = fl (L.set i (f i)) ∧ i + 1 ≤ (fl L).length ∧ SH n (i + 1) m f g h0 q := by
  obtain ⟨L,hR,hg,hk⟩ := hI
  have hlt := Heap.get_lt hg
  have hl := hR.1
  refine ⟨L,_,hR,hg,hl,rfl,by rw [Heap.get_put hlt,if_pos rfl],?_,fl_set (by omega) _,by rw [fl_len]; omega,_,hR.step hi,by rw [Heap.get_put hlt,if_pos rfl],hk.trans (Keep.put (S := fun x => x = m) hlt rfl _)⟩
  rw [fl_g (by rw [List.length_set]; omega),(hR.step hi).2 i hi,if_pos (by omega)]
theorem pMax : plain (Fl 9218868437227405311) = true := by kernel_rfl
theorem pOne : plain (Fl 4607182418800017408) = true := by kernel_rfl
theorem pZero : plain (Fl 0) = true := rfl

set_option maxRecDepth 20000 in
set_option maxHeartbeats 6400000 in
theorem sh1 {h0 : Heap} {va : Option Addr} {vc m n : Nat} {ws : List Nat} (turn : Int) (hn : n ≤ 4096) (hw : W64 ws) (hk : ws.length ≤ 2 ^ 47) (hv : Sl h0 (.slice va ws.length vc) 1 ws.length (fl ws)) (hm : nm (.slice va ws.length vc) ≠ some m) (F : Step) (hFF : F = aexecP Try.prog (sO 10) (run Try.prog sO) loopω pt10 (lb10 0)) (t : Tm)
    (ht : forget [3,4,5,6,7,11,12,13,14,15,16,17,18,19,20,21,22,23,24,25,26,29,30,31,32,33,34,35,36,37,38,39,40,41,42,43,44,45,46,47,48,49,50,51,52,53,54,55,56,57,58,59,60,61,62,63,64,65,66,67,68,69,70,71,72,73,74,75,76,77,78,79,80,81,82,83,84,85,86,87,88,89,90,91,92,93,94] t = [.slice va ws.length vc,.int .i64 turn,.int .i64 n,Z,Z,Z,Z,Z,.slice (some ⟨m,0,none⟩) n n,Fl (sumB ws turn 0),Fl (Fi (infB ws turn 0)),Z,Z,Z,Z,Z,Z,Z,Z,Z,Z,Z,Z,Z,Z,Z,Z,.int .i64 n,.int .i64 (0 : Nat),Z,Z,Z,Z,Z,Z,Z,Z,Z,Z,Z,Z,Z,Z,Z,Z,Z,Z,Z,Z,Z,Z,Z,Z,Z,Z,Z,Z,Z,Z,Z,Z,Z,Z,Z,Z,Z,Z,Z,Z,Z,Z,Z,Z,Z,Z,Z,Z,Z,Z,Z,Z,Z,Z,Z,Z,Z,Z,Z,Z,Z,Z,Z,Z,Z,Z]) (hI0 : SH n 0 m (wt ws turn) (fun _ => 0) h0 h0) :
    ∃ h' x29,loopω [3,4,5,6,7,11,12,13,14,15,16,17,18,19,20,21,22,23,24,25,26,29,30,31,32,33,34,35,36,37,38,39,40,41,42,43,44,45,46,47,48,49,50,51,52,53,54,55,56,57,58,59,60,61,62,63,64,65,66,67,68,69,70,71,72,73,74,75,76,77,78,79,80,81,82,83,84,85,86,87,88,89,90,91,92,93,94] F t h0 = some (.exit 0,[.slice va ws.length vc,.int .i64 turn,.int .i64 n,Z,Z,Z,Z,Z,.slice (some ⟨m,0,none⟩) n n,Fl (sumB ws turn n),Fl (Fi (infB ws turn n)),Z,Z,Z,Z,Z,Z,Z,Z,Z,Z,Z,Z,Z,Z,Z,Z,.int .i64 n,.int .i64 (n : Nat),x29,Z,Z,Z,Z,Z,Z,Z,Z,Z,Z,Z,Z,Z,Z,Z,Z,Z,Z,Z,Z,Z,Z,Z,Z,Z,Z,Z,Z,Z,Z,Z,Z,Z,Z,Z,Z,Z,Z,Z,Z,Z,Z,Z,Z,Z,Z,Z,Z,Z,Z,Z,Z,Z,Z,Z,Z,Z,Z,Z,Z,Z,Z,Z,Z,Z],h') ∧ SH n n m (wt ws turn) (fun _ => 0) h0 h' := by
  subst hFF
  suffices hs : ∃ e t' h',loopω [3,4,5,6,7,11,12,13,14,15,16,17,18,19,20,21,22,23,24,25,26,29,30,31,32,33,34,35,36,37,38,39,40,41,42,43,44,45,46,47,48,49,50,51,52,53,54,55,56,57,58,59,60,61,62,63,64,65,66,67,68,69,70,71,72,73,74,75,76,77,78,79,80,81,82,83,84,85,86,87,88,89,90,91,92,93,94] (aexecP Try.prog (sO 10) (run Try.prog sO) loopω pt10 (lb10 0)) t h0 = some (e,t',h') ∧ (e = .exit 0 ∧ ∃ x29,t' = [.slice va ws.length vc,.int .i64 turn,.int .i64 n,Z,Z,Z,Z,Z,.slice (some ⟨m,0,none⟩) n n,Fl (sumB ws turn n),Fl (Fi (infB ws turn n)),Z,Z,Z,Z,Z,Z,Z,Z,Z,Z,Z,Z,Z,Z,Z,Z,.int .i64 n,.int .i64 (n : Nat),x29,Z,Z,Z,Z,Z,Z,Z,Z,Z,Z,Z,Z,Z,Z,Z,Z,Z,Z,Z,Z,Z,Z,Z,Z,Z,Z,Z,Z,Z,Z,Z,Z,Z,Z,Z,Z,Z,Z,Z,Z,Z,Z,Z,Z,Z,Z,Z,Z,Z,Z,Z,Z,Z,Z,Z,Z,Z,Z,Z,Z,Z,Z,Z,Z,Z] ∧ SH n n m (wt ws turn) (fun _ => 0) h0 h') by
    obtain ⟨e,t',h',q1,rfl,x29,rfl,q2⟩ := hs
    exact ⟨h',x29,q1,q2⟩
  simp only [lb10,Try.f10,loopsOf,Option.getD_some,List.nil_append,List.append_nil,List.cons_append,List.getD_cons_zero,List.getD_cons_succ]
  refine loop_by (fun k t h' => ∃ (i : Nat),i + k = n ∧ forget [3,4,5,6,7,11,12,13,14,15,16,17,18,19,20,21,22,23,24,25,26,29,30,31,32,33,34,35,36,37,38,39,40,41,42,43,44,45,46,47,48,49,50,51,52,53,54,55,56,57,58,59,60,61,62,63,64,65,66,67,68,69,70,71,72,73,74,75,76,77,78,79,80,81,82,83,84,85,86,87,88,89,90,91,92,93,94] t = [.slice va ws.length vc,.int .i64 turn,.int .i64 n,Z,Z,Z,Z,Z,.slice (some ⟨m,0,none⟩) n n,Fl (sumB ws turn i),Fl (Fi (infB ws turn i)),Z,Z,Z,Z,Z,Z,Z,Z,Z,Z,Z,Z,Z,Z,Z,Z,.int .i64 n,.int .i64 (i : Nat),Z,Z,Z,Z,Z,Z,Z,Z,Z,Z,Z,Z,Z,Z,Z,Z,Z,Z,Z,Z,Z,Z,Z,Z,Z,Z,Z,Z,Z,Z,Z,Z,Z,Z,Z,Z,Z,Z,Z,Z,Z,Z,Z,Z,Z,Z,Z,Z,Z,Z,Z,Z,Z,Z,Z,Z,Z,Z,Z,Z,Z,Z,Z,Z,Z,Z] ∧ SH n i m (wt ws turn) (fun _ => 0) h0 h')
    (fun e t' h' => e = .exit 0 ∧ ∃ x29,t' = [.slice va ws.length vc,.int .i64 turn,.int .i64 n,Z,Z,Z,Z,Z,.slice (some ⟨m,0,none⟩) n n,Fl (sumB ws turn n),Fl (Fi (infB ws turn n)),Z,Z,Z,Z,Z,Z,Z,Z,Z,Z,Z,Z,Z,Z,Z,Z,.int .i64 n,.int .i64 (n : Nat),x29,Z,Z,Z,Z,Z,Z,Z,Z,Z,Z,Z,Z,Z,Z,Z,Z,Z,Z,Z,Z,Z,Z,Z,Z,Z,Z,Z,Z,Z,Z,Z,Z,Z,Z,Z,Z,Z,Z,Z,Z,Z,Z,Z,Z,Z,Z,Z,Z,Z,Z,Z,Z,Z,Z,Z,Z,Z,Z,Z,Z,Z,Z,Z,Z,Z] ∧ SH n n m (wt ws turn) (fun _ => 0) h0 h') ?_ (n) _ _ ⟨0,by omega,ht,hI0⟩
  rintro k t h' ⟨i,hi,ht,hI⟩
  rw [ht]
  rcases Nat.lt_or_ge i (n) with h1 | h1
  · have hinc := @inc64 i (by omega)
    have hcs := cast_succ i
    obtain ⟨L,q,hR,hg,hL,hq,g1,e1,sa,ca,hS⟩ := SH.step hI h1
    have kp : Keep (fun x => x = m) h0 h' := by obtain ⟨_,_,_,x⟩ := hI; exact x
    have hat := at_run turn (i : Nat) (hv.keep kp fun m' e x => hm (x ▸ e)) hw hk
    have hwo := worth_run sO (atB ws turn (i : Nat)) (atB_lt hw turn _) h'
    have hwe : worthB (atB ws turn (i : Nat)) = wt ws turn i := rfl
    rw [hwe] at hwo
    generalize atB ws turn (i : Nat) = A at hat hwo
    have wp := wt_pos hw turn i
    have sp := (sum_ok hw turn i).1
    have hadd : Ieee.double.add (sumB ws turn i) (wt ws turn i) = some (sumB ws turn (i + 1)) := (addB_ok sp wp).1
    have sp' := (sum_ok hw turn (i + 1)).1
    have hgt := @pos_gt (wt ws turn i) 9218868437227405311 wp (by unfold Pos; omega)
    have hil := infB_le ws turn i
    have hfa : Ieee.double.add (Fi (infB ws turn i)) 4607182418800017408 = some (Fi (infB ws turn i + 1)) := by rw [← one_lit]; exact Fi_add (by omega)
    have fp1 := Fi_pos (k := infB ws turn i) (by omega)
    have fp2 := Fi_pos (k := infB ws turn i + 1) (by omega)
    have hin : infB ws turn (i + 1) = if wt ws turn i = 9218868437227405312 then infB ws turn i + 1 else infB ws turn i := rfl
    have hle : i + 1 ≤ n := h1
    have wle : wt ws turn i ≤ 9218868437227405312 := wp
    generalize hS1 : sumB ws turn (i + 1) = S' at *
    generalize sumB ws turn i = S at *
    generalize hww : wt ws turn i = w at *
    generalize hKe : infB ws turn (i + 1) = K' at *
    generalize infB ws turn i = K at *
    generalize hLL : L.set i w = LL at *
    have ha1 := afloat_some sp.lt wp.lt sp'.lt hadd
    have ha2 := afloat_some fp1.lt (by omega) fp2.lt hfa
    have hg1 := fun t x y hx hy => fgtr t x y w 9218868437227405311 hx hy wp.lt (by omega)
    generalize hF1 : Fi K = FK at *
    generalize hF2 : Fi (K + 1) = FK1 at *
    by_cases hi : w = 9218868437227405312
    · rw [if_pos hi] at hin
      have hgt' : (Ieee.double.order w 9218868437227405311 == some .gt) = true := by rw [hgt]; exact decide_eq_true (by omega)
      simp (maxSteps := 2000000) -implicitDefEqProofs [ble_d,beq_d,List.range_succ,List.replicate,cond_true,cond_false,h1,hle,en32,en31,hat,hwo,aindexAddr,sz34,Try.underlying24,hg,ca,sa,astore,okf,← hq,g1,e1,ha1,ha2,nc0 wp.lt (show 9218868437227405311 < 18446744073709551616 by omega),hg1,hgt',hL,pMax,pOne,hinc]
      exact ⟨k - 1,by omega,i + 1,by omega,by simp (maxSteps := 2000000) only [forget,List.set_cons_succ,List.set_cons_zero,hcs,hS1,hKe,hin,hF2],hS⟩
    · rw [if_neg hi] at hin
      have hgt' : (Ieee.double.order w 9218868437227405311 == some .gt) = false := by rw [hgt]; exact decide_eq_false (by omega)
      simp (maxSteps := 2000000) -implicitDefEqProofs [ble_d,beq_d,List.range_succ,List.replicate,cond_true,cond_false,h1,hle,en32,en31,hat,hwo,aindexAddr,sz34,Try.underlying24,hg,ca,sa,astore,okf,← hq,g1,e1,ha1,ha2,nc0 wp.lt (show 9218868437227405311 < 18446744073709551616 by omega),hg1,hgt',hL,pMax,pOne,hinc]
      exact ⟨k - 1,by omega,i + 1,by omega,by simp (maxSteps := 2000000) only [forget,List.set_cons_succ,List.set_cons_zero,hcs,hS1,hKe,hin,hF1],hS⟩
  · obtain rfl : i = n := by omega
    simp (maxSteps := 2000000) -implicitDefEqProofs [ble_d,beq_d,List.range_succ,List.replicate,cond_true,cond_false]
    exact hI
set_option maxRecDepth 20000 in
set_option maxHeartbeats 6400000 in
theorem sh2 {h0 : Heap} {m n : Nat} {ws : List Nat} (turn : Int) (hn : n ≤ 4096) (hw : W64 ws) (F : Step) (hFF : F = aexecP Try.prog (sO 10) (run Try.prog sO) loopω pt10 (lb10 1)) (t : Tm)
    (ht : forget [0,1,3,4,5,6,7,11,12,13,14,15,16,17,18,19,20,21,22,23,24,25,26,27,28,29,30,31,32,33,34,35,36,37,38,39,40,41,42,43,44,45,46,47,48,49,50,51,52,56,57,58,59,60,61,62,63,64,65,66,67,68,69,70,71,72,73,74,75,76,77,78,79,80,81,82,83,84,85,86,87,88,89,90,91,92,93,94] t = [Z,Z,.int .i64 n,Z,Z,Z,Z,Z,.slice (some ⟨m,0,none⟩) n n,Fl (sumB ws turn n),Fl (Fi (infB ws turn n)),Z,Z,Z,Z,Z,Z,Z,Z,Z,Z,Z,Z,Z,Z,Z,Z,Z,Z,Z,Z,Z,Z,Z,Z,Z,Z,Z,Z,Z,Z,Z,Z,Z,Z,Z,Z,Z,Z,Z,Z,Z,Z,.slice (some ⟨m,0,none⟩) n n,.int .i64 n,.int .i64 (0 : Nat),Z,Z,Z,Z,Z,Z,Z,Z,Z,Z,Z,Z,Z,Z,Z,Z,Z,Z,Z,Z,Z,Z,Z,Z,Z,Z,Z,Z,Z,Z,Z,Z,Z,Z,Z,Z,Z,Z,Z]) (hI0 : SH n 0 m (fun j => shareB ws turn n (wt ws turn j)) (wt ws turn) h0 h0) :
    ∃ h' x56,loopω [0,1,3,4,5,6,7,11,12,13,14,15,16,17,18,19,20,21,22,23,24,25,26,27,28,29,30,31,32,33,34,35,36,37,38,39,40,41,42,43,44,45,46,47,48,49,50,51,52,56,57,58,59,60,61,62,63,64,65,66,67,68,69,70,71,72,73,74,75,76,77,78,79,80,81,82,83,84,85,86,87,88,89,90,91,92,93,94] F t h0 = some (.exit 2,[Z,Z,.int .i64 n,Z,Z,Z,Z,Z,.slice (some ⟨m,0,none⟩) n n,Fl (sumB ws turn n),Fl (Fi (infB ws turn n)),Z,Z,Z,Z,Z,Z,Z,Z,Z,Z,Z,Z,Z,Z,Z,Z,Z,Z,Z,Z,Z,Z,Z,Z,Z,Z,Z,Z,Z,Z,Z,Z,Z,Z,Z,Z,Z,Z,Z,Z,Z,Z,.slice (some ⟨m,0,none⟩) n n,.int .i64 n,.int .i64 (n : Nat),x56,Z,Z,Z,Z,Z,Z,Z,Z,Z,Z,Z,Z,Z,Z,Z,Z,Z,Z,Z,Z,Z,Z,Z,Z,Z,Z,Z,Z,Z,Z,Z,Z,Z,Z,Z,Z,Z,Z],h') ∧ SH n n m (fun j => shareB ws turn n (wt ws turn j)) (wt ws turn) h0 h' := by
  subst hFF
  suffices hs : ∃ e t' h',loopω [0,1,3,4,5,6,7,11,12,13,14,15,16,17,18,19,20,21,22,23,24,25,26,27,28,29,30,31,32,33,34,35,36,37,38,39,40,41,42,43,44,45,46,47,48,49,50,51,52,56,57,58,59,60,61,62,63,64,65,66,67,68,69,70,71,72,73,74,75,76,77,78,79,80,81,82,83,84,85,86,87,88,89,90,91,92,93,94] (aexecP Try.prog (sO 10) (run Try.prog sO) loopω pt10 (lb10 1)) t h0 = some (e,t',h') ∧ (e = .exit 2 ∧ ∃ x56,t' = [Z,Z,.int .i64 n,Z,Z,Z,Z,Z,.slice (some ⟨m,0,none⟩) n n,Fl (sumB ws turn n),Fl (Fi (infB ws turn n)),Z,Z,Z,Z,Z,Z,Z,Z,Z,Z,Z,Z,Z,Z,Z,Z,Z,Z,Z,Z,Z,Z,Z,Z,Z,Z,Z,Z,Z,Z,Z,Z,Z,Z,Z,Z,Z,Z,Z,Z,Z,Z,.slice (some ⟨m,0,none⟩) n n,.int .i64 n,.int .i64 (n : Nat),x56,Z,Z,Z,Z,Z,Z,Z,Z,Z,Z,Z,Z,Z,Z,Z,Z,Z,Z,Z,Z,Z,Z,Z,Z,Z,Z,Z,Z,Z,Z,Z,Z,Z,Z,Z,Z,Z,Z] ∧ SH n n m (fun j => shareB ws turn n (wt ws turn j)) (wt ws turn) h0 h') by
    obtain ⟨e,t',h',q1,rfl,x56,rfl,q2⟩ := hs
    exact ⟨h',x56,q1,q2⟩
  simp only [lb10,Try.f10,loopsOf,Option.getD_some,List.nil_append,List.append_nil,List.cons_append,List.getD_cons_zero,List.getD_cons_succ]
  refine loop_by (fun k t h' => ∃ (i : Nat),i + k = n ∧ forget [0,1,3,4,5,6,7,11,12,13,14,15,16,17,18,19,20,21,22,23,24,25,26,27,28,29,30,31,32,33,34,35,36,37,38,39,40,41,42,43,44,45,46,47,48,49,50,51,52,56,57,58,59,60,61,62,63,64,65,66,67,68,69,70,71,72,73,74,75,76,77,78,79,80,81,82,83,84,85,86,87,88,89,90,91,92,93,94] t = [Z,Z,.int .i64 n,Z,Z,Z,Z,Z,.slice (some ⟨m,0,none⟩) n n,Fl (sumB ws turn n),Fl (Fi (infB ws turn n)),Z,Z,Z,Z,Z,Z,Z,Z,Z,Z,Z,Z,Z,Z,Z,Z,Z,Z,Z,Z,Z,Z,Z,Z,Z,Z,Z,Z,Z,Z,Z,Z,Z,Z,Z,Z,Z,Z,Z,Z,Z,Z,.slice (some ⟨m,0,none⟩) n n,.int .i64 n,.int .i64 (i : Nat),Z,Z,Z,Z,Z,Z,Z,Z,Z,Z,Z,Z,Z,Z,Z,Z,Z,Z,Z,Z,Z,Z,Z,Z,Z,Z,Z,Z,Z,Z,Z,Z,Z,Z,Z,Z,Z,Z,Z] ∧ SH n i m (fun j => shareB ws turn n (wt ws turn j)) (wt ws turn) h0 h')
    (fun e t' h' => e = .exit 2 ∧ ∃ x56,t' = [Z,Z,.int .i64 n,Z,Z,Z,Z,Z,.slice (some ⟨m,0,none⟩) n n,Fl (sumB ws turn n),Fl (Fi (infB ws turn n)),Z,Z,Z,Z,Z,Z,Z,Z,Z,Z,Z,Z,Z,Z,Z,Z,Z,Z,Z,Z,Z,Z,Z,Z,Z,Z,Z,Z,Z,Z,Z,Z,Z,Z,Z,Z,Z,Z,Z,Z,Z,Z,.slice (some ⟨m,0,none⟩) n n,.int .i64 n,.int .i64 (n : Nat),x56,Z,Z,Z,Z,Z,Z,Z,Z,Z,Z,Z,Z,Z,Z,Z,Z,Z,Z,Z,Z,Z,Z,Z,Z,Z,Z,Z,Z,Z,Z,Z,Z,Z,Z,Z,Z,Z,Z] ∧ SH n n m (fun j => shareB ws turn n (wt ws turn j)) (wt ws turn) h0 h') ?_ (n) _ _ ⟨0,by omega,ht,hI0⟩
  rintro k t h' ⟨i,hi,ht,hI⟩
  rw [ht]
  rcases Nat.lt_or_ge i (n) with h1 | h1
  · have hinc := @inc64 i (by omega)
    have hcs := cast_succ i
    obtain ⟨L,q,hR,hg,hL,hq,g1,e1,sa,ca,hS⟩ := SH.step hI h1
    have hLi := fl_g (L := L) (i := i) (by omega)
    have hgi : L.getD i 0 = wt ws turn i := by rw [hR.2 i h1,if_neg (by omega)]
    rw [hgi] at hLi
    have wp := wt_pos hw turn i
    have sp := (sum_ok hw turn n).1
    have sm := (sum_ok hw turn n).2 i h1
    have hil := infB_le ws turn n
    have fp1 := Fi_pos (k := infB ws turn n) (by omega)
    have fp2 := Fi_pos (k := n) (by omega)
    have hgt := @pos_gt (wt ws turn i) 9218868437227405311 wp (by unfold Pos; omega)
    have hg0 := @pos_gt (Fi (infB ws turn n)) 0 fp1 (by unfold Pos; omega)
    have hFg := @Fi_gt (infB ws turn n) (by omega)
    have hFn := @Fi_gt n (by omega)
    have he0 := @pos_eq (sumB ws turn n) 0 sp (by unfold Pos; omega)
    have hle : i + 1 ≤ n := h1
    have wle : wt ws turn i ≤ 9218868437227405312 := wp
    have shl := share_le hw turn h1 hn
    have hnf := nearest_fi n
    have hip : wt ws turn i = 9218868437227405312 → 0 < infB ws turn n := infB_pos h1
    have d1 : 0 < infB ws turn n → Ieee.double.div 4607182418800017408 (Fi (infB ws turn n)) = some (divB 4607182418800017408 (Fi (infB ws turn n))) := fun h => by
      rw [← one_lit]
      exact (divB_ok (Fi_mono (by omega) (by omega)) fp1 (by rw [one_lit]; omega) (hFg.2 h)).1
    have d2 : Ieee.double.div 4607182418800017408 (Fi n) = some (divB 4607182418800017408 (Fi n)) := by
      rw [← one_lit]
      exact (divB_ok (Fi_mono (by omega) (by omega)) fp2 (by rw [one_lit]; omega) (hFn.2 (by omega))).1
    have d3 : wt ws turn i < 9218868437227405312 → 0 < sumB ws turn n → Ieee.double.div (wt ws turn i) (sumB ws turn n) = some (divB (wt ws turn i) (sumB ws turn n)) := fun h h0 => (divB_ok sm sp h h0).1
    have hsh : shareB ws turn n (wt ws turn i) = if 0 < infB ws turn n then (if wt ws turn i = 9218868437227405312 then divB 4607182418800017408 (Fi (infB ws turn n)) else 0) else if sumB ws turn n = 0 then divB 4607182418800017408 (Fi n) else divB (wt ws turn i) (sumB ws turn n) := by unfold shareB; rw [one_lit]
    generalize hr : shareB ws turn n (wt ws turn i) = r at *
    have rl : r < 18446744073709551616 := by omega
    generalize hww : wt ws turn i = w at *
    generalize hLL : L.set i r = LL at *
    have hg1 := fun t x y hx hy => fgtr t x y w 9218868437227405311 hx hy wp.lt (by omega)
    have hg2 := fun t x y hx hy => fgtr t x y (Fi (infB ws turn n)) 0 hx hy fp1.lt (by omega)
    have hq1 := fun t x y hx hy => feql t x y (sumB ws turn n) 0 hx hy sp.lt (by omega)
    have hcv := fun t x hx => cv3f t x n hx (Fi n) hnf fp2.lt
    have a1 := fun t x y hx hy h => fquo t x y 4607182418800017408 (Fi (infB ws turn n)) r hx hy (by omega) fp1.lt rl h
    have a2 := fun t x y hx hy h => fquo t x y 4607182418800017408 (Fi n) r hx hy (by omega) fp2.lt rl h
    have a3 := fun t x y hx hy h => fquo t x y w (sumB ws turn n) r hx hy wp.lt sp.lt rl h
    generalize hF1 : Fi (infB ws turn n) = FK at *
    generalize hF2 : Fi n = FN at *
    generalize hSS : sumB ws turn n = S at *
    generalize hKK : infB ws turn n = K at *
    by_cases c1 : 0 < K
    · rw [if_pos c1] at hsh
      have b1 : (Ieee.double.order FK 0 == some .gt) = true := by rw [hg0]; exact decide_eq_true (hFg.2 c1)
      by_cases c2 : w = 9218868437227405312
      · rw [if_pos c2] at hsh
        have b2 : (Ieee.double.order w 9218868437227405311 == some .gt) = true := by rw [hgt]; exact decide_eq_true (by omega)
        have dd := d1 c1
        rw [← hsh] at dd
        have a1' := fun t x y hx hy => a1 t x y hx hy dd
        simp (maxSteps := 2000000) -implicitDefEqProofs [ble_d,beq_d,List.range_succ,List.replicate,cond_true,cond_false,h1,hle,hLi,aindexAddr,sz34,Try.underlying24,hg,ca,sa,astore,okf,← hq,g1,e1,nc0 wp.lt (show 9218868437227405311 < 18446744073709551616 by omega),nc0 fp1.lt (show 0 < 18446744073709551616 by omega),hg1,hg2,b1,b2,a1',hL,pMax,pOne,pZero,undef,hinc]
        exact ⟨k - 1,by omega,i + 1,by omega,by simp (maxSteps := 2000000) only [forget,List.set_cons_succ,List.set_cons_zero,hcs,hSS,hKK,hF1],hS⟩
      · rw [if_neg c2] at hsh
        have b2 : (Ieee.double.order w 9218868437227405311 == some .gt) = false := by rw [hgt]; exact decide_eq_false (by omega)
        subst hsh
        simp (maxSteps := 2000000) -implicitDefEqProofs [ble_d,beq_d,List.range_succ,List.replicate,cond_true,cond_false,h1,hle,hLi,aindexAddr,sz34,Try.underlying24,hg,ca,sa,astore,okf,← hq,g1,e1,nc0 wp.lt (show 9218868437227405311 < 18446744073709551616 by omega),nc0 fp1.lt (show 0 < 18446744073709551616 by omega),hg1,hg2,b1,b2,hL,pMax,pOne,pZero,undef,hinc]
        exact ⟨k - 1,by omega,i + 1,by omega,by simp (maxSteps := 2000000) only [forget,List.set_cons_succ,List.set_cons_zero,hcs,hSS,hKK,hF1],hS⟩
    · rw [if_neg c1] at hsh
      have b1 : (Ieee.double.order FK 0 == some .gt) = false := by rw [hg0]; exact decide_eq_false (fun h => c1 (hFg.1 h))
      by_cases c2 : S = 0
      · rw [if_pos c2] at hsh
        have b2 : (Ieee.double.order S 0 == some .eq) = true := by rw [he0]; exact decide_eq_true c2
        have dd := d2
        rw [← hsh] at dd
        have a2' := fun t x y hx hy => a2 t x y hx hy dd
        simp (maxSteps := 2000000) -implicitDefEqProofs [ble_d,beq_d,List.range_succ,List.replicate,cond_true,cond_false,h1,hle,hLi,aindexAddr,sz34,Try.underlying24,hg,ca,sa,astore,okf,← hq,g1,e1,nc0 fp1.lt (show 0 < 18446744073709551616 by omega),nc0 sp.lt (show 0 < 18446744073709551616 by omega),hg2,hq1,hcv,b1,b2,a2',hL,pMax,pOne,pZero,undef,hinc]
        exact ⟨k - 1,by omega,i + 1,by omega,by simp (maxSteps := 2000000) only [forget,List.set_cons_succ,List.set_cons_zero,hcs,hSS,hKK,hF1],hS⟩
      · rw [if_neg c2] at hsh
        have b2 : (Ieee.double.order S 0 == some .eq) = false := by rw [he0]; exact decide_eq_false c2
        have dd := d3 (by omega) (by omega)
        rw [← hsh] at dd
        have a3' := fun t x y hx hy => a3 t x y hx hy dd
        simp (maxSteps := 2000000) -implicitDefEqProofs [ble_d,beq_d,List.range_succ,List.replicate,cond_true,cond_false,h1,hle,hLi,aindexAddr,sz34,Try.underlying24,hg,ca,sa,astore,okf,← hq,g1,e1,nc0 fp1.lt (show 0 < 18446744073709551616 by omega),nc0 sp.lt (show 0 < 18446744073709551616 by omega),hg2,hq1,b1,b2,a3',hL,pMax,pOne,pZero,undef,hinc]
        exact ⟨k - 1,by omega,i + 1,by omega,by simp (maxSteps := 2000000) only [forget,List.set_cons_succ,List.set_cons_zero,hcs,hSS,hKK,hF1],hS⟩
  · obtain rfl : i = n := by omega
    simp (maxSteps := 2000000) -implicitDefEqProofs [ble_d,beq_d,List.range_succ,List.replicate,cond_true,cond_false]
    exact hI
end Go.Proofs.Ytmnkmdfladbgdaa.Od

set_option linter.unusedVariables false
set_option linter.unusedSimpArgs false
namespace Go.Proofs.Ytmnkmdfladbgdaa.Od
open Go Go.Proofs Go.RowKit Go.Proofs.YtmnkmdfladbgdaaAI Go.Proofs.YtmnkmdfladbgdaaFl Go.Proofs.YtmnkmdfladbgdaaRnd

theorem useH {α β : Type} {ks : List Nat} {F : Step} {t : Tm} {h : Heap} {rr : Option (AEx × Tm × Heap)} {f : α → β → Option (AEx × Tm × Heap)} {p : α → β → Prop} (hl : loopω ks F t h = rr) (H : ∃ a b,loopω ks F t h = f a b ∧ p a b) : ∃ a b,rr = f a b ∧ p a b := hl ▸ H
theorem zr34 : (Try.prog.info? 34).bind (fun i => i.zero) = some (.float .f64 0) := by kernel_rfl
theorem ms24 (ρ : Operand → Value) (a b : Operand) (k : Nat) (ha : ρ a = .int .i64 k) (hb : ρ b = .int .i64 k) (hk : k * 8 ≤ 2 ^ 47) (d ty pos af gu) :
    aalloc Try.prog ρ ⟨d,.makeSlice 24 a b,ty,pos,af,gu⟩ = some (.cells (fl (List.replicate k 0)) 34 1 false false,fun n => .slice (some ⟨n,0,none⟩) k k) := by
  obtain ⟨i,z,hi,hz,hp,hzc,hz1,hsz,hby,h0⟩ := elTy el34
  have hzz := zr34
  rw [hi] at hzz
  simp only [Option.bind_some,hz,Option.some.injEq] at hzz
  subst hzz
  unfold aalloc
  simp only [ha,hb,Try.underlying24,hi,hz,hsz,hby]
  have : (bif plain (Value.float .f64 0) && Nat.beq (Value.float .f64 0).cells.size 1 && (Value.float .f64 0).cells.toList.all one && Nat.blt 0 1 then (1 : Nat) else 0) = 1 := by kernel_rfl
  have hr : fl (List.replicate k 0) = List.replicate k (Value.float .f64 0) := by simp [fl]
  rw [hr]
  simp [plain,plainN,one,Value.cells,beq_d,Nat.blt,ble_d]
  omega
def shB (ws : List Nat) (turn : Int) (n j : Nat) : Nat := shareB ws turn n (wt ws turn j)
def sharesL (ws : List Nat) (turn : Int) (n : Nat) : List Nat := (List.range n).map (shB ws turn n)
abbrev V (m n : Nat) : Value := .slice (some ⟨m,0,none⟩) n n
theorem shares_bad {h : Heap} {a : Option Addr} {c k : Nat} (turn of : Int) (hb : of < 1 ∨ 4096 < of ∨ turn < 0) :
    run Try.prog sO 10 [.slice a k c,.int .i64 turn,.int .i64 of] h = some (.tuple #[.slice none 0 0,.int .i64 2],h) := by
  refine run_finP pt10 Try.func10 rfl planned10 ?_
  by_cases h1 : of < 1
  · simp (maxSteps := 2000000) -implicitDefEqProofs [Try.f10,ble_d,beq_d,List.range_succ,List.replicate,cond_true,cond_false,h1,undef]
  by_cases h2 : 4096 < of
  · simp (maxSteps := 2000000) -implicitDefEqProofs [Try.f10,ble_d,beq_d,List.range_succ,List.replicate,cond_true,cond_false,h1,h2,undef]
  by_cases h3 : turn < 0
  · simp (maxSteps := 2000000) -implicitDefEqProofs [Try.f10,ble_d,beq_d,List.range_succ,List.replicate,cond_true,cond_false,h1,h2,h3,undef]
  omega
set_option maxRecDepth 20000 in
theorem shares_run {h : Heap} {v : Value} {ws : List Nat} (turn : Int) {n : Nat} (h1 : 1 ≤ n) (h2 : n ≤ 4096) (h3 : 0 ≤ turn) (hv : Sl h v 1 ws.length (fl ws)) (hw : W64 ws) (hk : ws.length ≤ 2 ^ 47) :
    ∃ h',run Try.prog sO 10 [v,.int .i64 turn,.int .i64 n] h = some (.tuple #[V h.next n,.int .i64 0],h') ∧ h'.get h.next = some (.cells (fl (sharesL ws turn n)) 34 1 false false) ∧ Keep No h h' := by
  have hlt := fun m e => hv.lt (m := m) e
  obtain ⟨a,c,rfl⟩ := sl_form hv
  suffices hx : ∃ y,fin Try.prog Try.f10 (aexecP Try.prog (sO 10) (run Try.prog sO) loopω pt10 (Try.f10.body.getD .skip) ([.slice a ws.length c,.int .i64 turn,.int .i64 n] ++ List.replicate (Try.f10.ntmps - 3) undef) h) = some y ∧ y.1 = .tuple #[V h.next n,.int .i64 0] ∧ y.2.get h.next = some (.cells (fl (sharesL ws turn n)) 34 1 false false) ∧ Keep No h y.2 by
    obtain ⟨⟨y1,y2⟩,hy,rfl,q1,q2⟩ := hx
    exact ⟨y2,run_finP pt10 Try.func10 rfl planned10 hy,q1,q2⟩
  have c1 : ¬ ((n : Int) < 1) := by omega
  have c2 : ¬ (4096 < (n : Int)) := by omega
  have c3 : ¬ (turn < 0) := by omega
  have hms := fun ρ x y hx hy => ms24 ρ x y n hx hy (by omega)
  have k0 := Keep.new No h (.cells (fl (List.replicate n 0)) 34 1 false false)
  have g0 : (h.new (.cells (fl (List.replicate n 0)) 34 1 false false)).get h.next = some (.cells (fl (List.replicate n 0)) 34 1 false false) := by rw [Heap.get_new,if_pos rfl]
  obtain ⟨hA,hhA⟩ : ∃ x,x = h.new (.cells (fl (List.replicate n 0)) 34 1 false false) := ⟨_,rfl⟩
  rw [← hhA] at k0 g0
  have pz : plain (Fl 0) = true := rfl
  simp (maxSteps := 2000000) -implicitDefEqProofs [Try.f10,ble_d,beq_d,List.range_succ,List.replicate,cond_true,cond_false,c1,c2,c3,undef,hms,← hhA,sO10_6,pz]
  generalize hl : loopω _ _ _ _ = r
  obtain ⟨hB,x29,hx,hI⟩ := useH hl (sh1 (h0 := hA) (va := a) (vc := c) (m := h.next) (n := n) (ws := ws) turn h2 hw hk (hv.keep k0 fun _ _ x => x) (fun e => by have := hlt _ e; omega) _ (by kernel_rfl) _ (by kernel_rfl) ⟨_,Row.start n _,g0,Keep.refl _ _⟩)
  subst hx
  clear hl
  have hI2 : SH n 0 h.next (fun j => shareB ws turn n (wt ws turn j)) (wt ws turn) hB hB := by
    obtain ⟨L,q1,q2,q3⟩ := hI
    exact ⟨L,q1.next,q2,Keep.refl _ _⟩
  simp (maxSteps := 2000000) -implicitDefEqProofs [ble_d,beq_d,List.range_succ,List.replicate,cond_true,cond_false,sO10_14]
  generalize hl : loopω _ _ _ _ = r
  obtain ⟨hC,x56,hx,L,q1,q2,q3⟩ := useH hl (sh2 (h0 := hB) (m := h.next) (n := n) (ws := ws) turn h2 hw _ (by kernel_rfl) _ (by kernel_rfl) hI2)
  subst hx
  simp (maxSteps := 2000000) -implicitDefEqProofs [ble_d,beq_d,List.range_succ,List.replicate,cond_true,cond_false]
  refine ⟨_,_,⟨rfl,rfl⟩,rfl,?_,?_⟩
  · rw [q2,q1.done]; rfl
  · obtain ⟨_,_,_,k1⟩ := hI
    exact (k0.also k1 fun m hm x => by omega).also q3 fun m hm x => by omega
theorem shB_le {ws : List Nat} (hw : W64 ws) (turn : Int) {n i : Nat} (hi : i < n) (hn : n ≤ 4096) : shB ws turn n i ≤ 4607182418800017408 := share_le hw turn hi hn
theorem sharesL_get {ws : List Nat} {turn : Int} {n i : Nat} (hi : i < n) : (sharesL ws turn n).getD i 0 = shB ws turn n i := by
  simp [sharesL,List.getD_eq_getElem?_getD,List.getElem?_map,List.getElem?_range hi]
theorem sharesL_len (ws : List Nat) (turn : Int) (n : Nat) : (sharesL ws turn n).length = n := by simp [sharesL]
end Go.Proofs.Ytmnkmdfladbgdaa.Od
