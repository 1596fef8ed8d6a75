/- Odds: Table. -/
import Derived.Test.YtmnkmdfladbgdaaOt13
set_option linter.unusedVariables false
set_option linter.unusedSimpArgs false
namespace Go.Proofs.Ytmnkmdfladbgdaa.Od
open Go Go.Proofs Go.RowKit Go.Proofs.YtmnkmdfladbgdaaAI Go.Proofs.YtmnkmdfladbgdaaFl Go.Proofs.YtmnkmdfladbgdaaSrt
noncomputable def lt24 (i : Nat) : Code := (loopsOf (Try.f24.body.getD .skip)).getD i .skip

theorem fl_snoc (l : List Nat) (x : Nat) : fl (l ++ [x]) = fl l ++ [.float .f64 x] := by simp [fl]
/-- One float more. -/
theorem app_fl {h : Heap} {v : Value} {l : List Nat} (hl : Lg h v 34 1 l.length (fl l)) (hk : (l.length + 1) * 8 ≤ 2 ^ 47) (x : Nat) :
    ∃ v' h',aappend Try.prog 24 24 v (.slice (some ⟨h.next,0,none⟩) 1 1) (h.new (.cells [.float .f64 x] 34 1 false false)) = some (v',h') ∧ Lg h' v' 34 1 (l ++ [x]).length (fl (l ++ [x])) ∧ Keep (fun m => nm v = some m) h h' ∧ ∀ m,nm v' = some m → nm v = some m ∨ h.next ≤ m := by
  have k0 := Keep.new No h (.cells [.float .f64 x] 34 1 false false)
  have hx : Sl (h.new (.cells [.float .f64 x] 34 1 false false)) (.slice (some ⟨h.next,0,none⟩) 1 1) 1 1 [.float .f64 x] :=
    ⟨rfl,.inr ⟨_,_,rfl,fun _ => ⟨_,_,_,_,_,by rw [Heap.get_new,if_pos rfl],rfl⟩⟩⟩
  obtain ⟨v8,h8,e8,lg8,kp8,nv8,_,nf8⟩ := append_lg (t := 24) (xt := 24) Try.underlying24 Try.underlying24 rfl el34 (hl.keep k0 (fun _ _ x => x)) hx (by omega) (by omega) rfl
  refine ⟨v8,h8,e8,by rw [fl_snoc,List.length_append]; exact lg8,(k0.mono fun m _ x => x.elim).also kp8 fun m _ x => x,fun m e => ?_⟩
  rcases Nat.lt_or_ge m (h.next + 1) with y | y
  · exact .inl (nv8 m e (by rw [Heap.next_new]; exact y))
  · exact .inr (by omega)
def okPk (o : Oc) : Bool := smallB o.pk && goodB o.pk
theorem ok_split (l : List Oc) : (l.all okPk = true ∧ ∀ i,i < l.length → okPk (l.getD i oc0) = true) ∨ (l.all okPk = false ∧ ∃ p,p < l.length ∧ okPk (l.getD p oc0) = false ∧ ∀ i,i < p → okPk (l.getD i oc0) = true) := by
  rcases any_split oc0 (fun o => !okPk o) l with ⟨h1,h2⟩ | ⟨h1,p,h2,h3,h4⟩
  · refine .inl ⟨?_,fun i hi => by simpa using h2 i hi⟩
    rw [List.all_eq_not_any_not,h1]; rfl
  · refine .inr ⟨?_,p,h2,by simpa using h3,fun i hi => by simpa using h4 i hi⟩
    rw [List.all_eq_not_any_not,h1]; rfl
def chs (ws : List Nat) (l : List Oc) : List Nat := l.map (chO ws)
theorem chs_take {ws : List Nat} {l : List Oc} {i : Nat} (hi : i < l.length) : chs ws (l.take (i + 1)) = chs ws (l.take i) ++ [chO ws (l.getD i oc0)] := by
  have h1 : l.take (i + 1) = l.take i ++ [l.getD i oc0] := by
    rw [List.take_add_one,List.getElem?_eq_getElem (by omega),List.getD_eq_getElem?_getD,List.getElem?_eq_getElem (by omega)]; rfl
  rw [h1,chs,chs,List.map_append]; rfl
theorem chs_len (ws : List Nat) (l : List Oc) : (chs ws l).length = l.length := by simp [chs]
theorem chs_get {ws : List Nat} {l : List Oc} {i : Nat} (hi : i < l.length) : (chs ws l).getD i 0 = chO ws (l.getD i oc0) := by
  simp [chs,List.getD_eq_getElem?_getD,List.getElem?_eq_getElem hi]
theorem chO_lt {ws : List Nat} (hw : W64 ws) {o : Oc} (h : okPk o = true) : chO ws o < 18446744073709551616 := by
  have := chB_le hw (okP_of h) o.pk.length (Nat.le_refl _)
  unfold chO; omega
theorem chO_pos {ws : List Nat} (hw : W64 ws) {o : Oc} (h : okPk o = true) : Pos (chO ws o) := by
  have := chB_le hw (okP_of h) o.pk.length (Nat.le_refl _)
  unfold chO Pos; omega
set_option maxRecDepth 20000 in
set_option maxHeartbeats 6400000 in
theorem tblE {h0 : Heap} {va wa : Option Addr} {vc wc n : Nat} {ws : List Nat} {l : List Oc} (hn : l.length = n) (hk : n * 8 ≤ 2 ^ 47) (hw : W64 ws) (kw : ws.length ≤ 2 ^ 47) (hsm : Small l) (hv : Outs h0 (.slice va n vc) l) (hws : Sl h0 (.slice wa ws.length wc) 1 ws.length (fl ws)) (hall : ∀ i,i < n → okPk (l.getD i oc0) = true) (v0 : Value) (F : Step) (hFF : F = aexecP Try.prog (sO 24) (run Try.prog sO) loopω pt24 (lt24 0)) (t : Tm)
    (ht : forget [2,3,4,5,7,8,9,10,11,12,13,14,15,16,20,21,22,23,24,25,26,27,28,29,30,31,32,33,34,35,36,37,38,39,40,41,42,43,44,45,46,47,48,49,50,51,52,53,54,55,56,57,58,59,60,61,62,63,64,65,66,67,68,69,70,71,72,73,74,75] t = [.slice va n vc,.slice wa ws.length wc,Z,Z,Z,Z,v0,Z,Z,Z,Z,Z,Z,Z,Z,Z,Z,.slice va n vc,.int .i64 n,.int .i64 (0 : Nat),Z,Z,Z,Z,Z,Z,Z,Z,Z,Z,Z,Z,Z,Z,Z,Z,Z,Z,Z,Z,Z,Z,Z,Z,Z,Z,Z,Z,Z,Z,Z,Z,Z,Z,Z,Z,Z,Z,Z,Z,Z,Z,Z,Z,Z,Z,Z,Z,Z,Z,Z,Z,Z,Z,Z,Z]) (hI0 : (Lg h0 v0 34 1 (0) (fl (chs ws (l.take (0)))) ∧ Keep No h0 h0 ∧ ∀ m,nm v0 = some m → h0.next ≤ m)) :
    ∃ h' v x20,loopω [2,3,4,5,7,8,9,10,11,12,13,14,15,16,20,21,22,23,24,25,26,27,28,29,30,31,32,33,34,35,36,37,38,39,40,41,42,43,44,45,46,47,48,49,50,51,52,53,54,55,56,57,58,59,60,61,62,63,64,65,66,67,68,69,70,71,72,73,74,75] F t h0 = some (.exit 0,[.slice va n vc,.slice wa ws.length wc,Z,Z,Z,Z,v,Z,Z,Z,Z,Z,Z,Z,Z,Z,Z,.slice va n vc,.int .i64 n,.int .i64 (n : Nat),x20,Z,Z,Z,Z,Z,Z,Z,Z,Z,Z,Z,Z,Z,Z,Z,Z,Z,Z,Z,Z,Z,Z,Z,Z,Z,Z,Z,Z,Z,Z,Z,Z,Z,Z,Z,Z,Z,Z,Z,Z,Z,Z,Z,Z,Z,Z,Z,Z,Z,Z,Z,Z,Z,Z,Z],h') ∧ (Lg h' v 34 1 (n) (fl (chs ws (l.take (n)))) ∧ Keep No h0 h' ∧ ∀ m,nm v = some m → h0.next ≤ m) := by
  subst hFF
  suffices hs : ∃ e t' h',loopω [2,3,4,5,7,8,9,10,11,12,13,14,15,16,20,21,22,23,24,25,26,27,28,29,30,31,32,33,34,35,36,37,38,39,40,41,42,43,44,45,46,47,48,49,50,51,52,53,54,55,56,57,58,59,60,61,62,63,64,65,66,67,68,69,70,71,72,73,74,75] (aexecP Try.prog (sO 24) (run Try.prog sO) loopω pt24 (lt24 0)) t h0 = some (e,t',h') ∧ (e = .exit 0 ∧ ∃ v x20,t' = [.slice va n vc,.slice wa ws.length wc,Z,Z,Z,Z,v,Z,Z,Z,Z,Z,Z,Z,Z,Z,Z,.slice va n vc,.int .i64 n,.int .i64 (n : Nat),x20,Z,Z,Z,Z,Z,Z,Z,Z,Z,Z,Z,Z,Z,Z,Z,Z,Z,Z,Z,Z,Z,Z,Z,Z,Z,Z,Z,Z,Z,Z,Z,Z,Z,Z,Z,Z,Z,Z,Z,Z,Z,Z,Z,Z,Z,Z,Z,Z,Z,Z,Z,Z,Z,Z,Z] ∧ (Lg h' v 34 1 (n) (fl (chs ws (l.take (n)))) ∧ Keep No h0 h' ∧ ∀ m,nm v = some m → h0.next ≤ m)) by
    obtain ⟨e,t',h',q1,rfl,v,x20,rfl,q2⟩ := hs
    exact ⟨h',v,x20,q1,q2⟩
  simp only [lt24,Try.f24,loopsOf,Option.getD_some,List.nil_append,List.append_nil,List.cons_append,List.getD_cons_zero,List.getD_cons_succ]
  refine loop_by (fun k t h' => ∃ (i : Nat) (v : Value),i + k = n ∧ forget [2,3,4,5,7,8,9,10,11,12,13,14,15,16,20,21,22,23,24,25,26,27,28,29,30,31,32,33,34,35,36,37,38,39,40,41,42,43,44,45,46,47,48,49,50,51,52,53,54,55,56,57,58,59,60,61,62,63,64,65,66,67,68,69,70,71,72,73,74,75] t = [.slice va n vc,.slice wa ws.length wc,Z,Z,Z,Z,v,Z,Z,Z,Z,Z,Z,Z,Z,Z,Z,.slice va n vc,.int .i64 n,.int .i64 (i : Nat),Z,Z,Z,Z,Z,Z,Z,Z,Z,Z,Z,Z,Z,Z,Z,Z,Z,Z,Z,Z,Z,Z,Z,Z,Z,Z,Z,Z,Z,Z,Z,Z,Z,Z,Z,Z,Z,Z,Z,Z,Z,Z,Z,Z,Z,Z,Z,Z,Z,Z,Z,Z,Z,Z,Z,Z] ∧ (Lg h' v 34 1 (i) (fl (chs ws (l.take (i)))) ∧ Keep No h0 h' ∧ ∀ m,nm v = some m → h0.next ≤ m))
    (fun e t' h' => e = .exit 0 ∧ ∃ v x20,t' = [.slice va n vc,.slice wa ws.length wc,Z,Z,Z,Z,v,Z,Z,Z,Z,Z,Z,Z,Z,Z,Z,.slice va n vc,.int .i64 n,.int .i64 (n : Nat),x20,Z,Z,Z,Z,Z,Z,Z,Z,Z,Z,Z,Z,Z,Z,Z,Z,Z,Z,Z,Z,Z,Z,Z,Z,Z,Z,Z,Z,Z,Z,Z,Z,Z,Z,Z,Z,Z,Z,Z,Z,Z,Z,Z,Z,Z,Z,Z,Z,Z,Z,Z,Z,Z,Z,Z] ∧ (Lg h' v 34 1 (n) (fl (chs ws (l.take (n)))) ∧ Keep No h0 h' ∧ ∀ m,nm v = some m → h0.next ≤ m)) ?_ (n) _ _ ⟨0,_,by omega,ht,hI0⟩
  rintro k t h' ⟨i,v,hi,ht,hI⟩
  rw [ht]
  rcases Nat.lt_or_ge i (n) with h1 | h1
  · obtain ⟨lg,kp,nw⟩ := hI
    have hinc := @inc64 i (by omega)
    have hcs := cast_succ i
    obtain ⟨ga,gc,C2,ce2,cs2,gr2,ro2,x1,y1,z1,x2,y2,z2,x3,y3,z3,eb,hg2,hf2,hd2,_,hnest⟩ := os_at (hv.keep kp) (show i < l.length by omega)
    rw [hn] at eb
    simp only [Value.slice.injEq,true_and] at eb
    obtain ⟨rfl,rfl⟩ := eb
    have hs2 := hsm.get (i := i) (by omega)
    have hst := chs_take (ws := ws) (l := l) (i := i) (by omega)
    have hok := hall i (by omega)
    generalize l.getD i oc0 = o at *
    have b3 := hs2.2.2
    have gz : (h'.new (.cells [.int .i64 0,.int .i64 0,.slice none 0 0,.int .i64 0,.slice none 0 0,.slice none 0 0] 87 6 false false)).get h'.next = some (.cells [.int .i64 0,.int .i64 0,.slice none 0 0,.int .i64 0,.slice none 0 0,.slice none 0 0] 87 6 false false) := by rw [Heap.get_new,if_pos rfl]
    obtain ⟨h3,h3e⟩ : ∃ x,x = (h'.new (.cells [.int .i64 0,.int .i64 0,.slice none 0 0,.int .i64 0,.slice none 0 0,.slice none 0 0] 87 6 false false)).put h'.next (some (.cells [.int .i64 o.e,.int .i64 o.en,.slice x1 y1 z1,.int .i64 o.st,.slice x2 y2 z2,.slice x3 y3 z3] 87 6 false false)) := ⟨_,rfl⟩
    have k3 : Keep No h' h3 := h3e ▸ (Keep.new No h' _).also (Keep.put (S := fun m => m = h'.next) (Heap.get_lt gz) rfl _) fun m hm e => by omega
    have g3 : h3.get h'.next = some (.cells [.int .i64 o.e,.int .i64 o.en,.slice x1 y1 z1,.int .i64 o.st,.slice x2 y2 z2,.slice x3 y3 z3] 87 6 false false) := by rw [h3e,Heap.get_put (Heap.get_lt gz),if_pos rfl]
    have s3 : Sl h3 (.slice x3 y3 z3) 2 o.pk.length (picks o.pk) := hnest.2.2.keep k3 fun _ _ x => x
    obtain ⟨h4,e4,k4⟩ := chance_run (l := o.pk) hw (by omega) kw ((hws.keep kp fun _ _ x => x).keep k3 fun _ _ x => x) s3
    have hok' : (smallB o.pk && goodB o.pk) = true := hok
    rw [hok'] at e4
    
    have h1N : i < n := by omega
    have hT := chO_lt hw hok
    have hch : chB ws o.pk o.pk.length = chO ws o := rfl
    rw [hch] at e4
    simp only [if_true] at e4
    have k34 := k3.trans k4
    have hcl : (chs ws (l.take i)).length = i := by rw [chs_len,List.length_take]; omega
    have lg' : Lg h4 v 34 1 (chs ws (l.take i)).length (fl (chs ws (l.take i))) := by rw [hcl]; exact lg.keep k34 fun _ _ x => x
    obtain ⟨v8,h8,e8,lg8,kp8,nv8⟩ := app_fl lg' (by omega) (chO ws o)
    rw [← hst] at lg8
    have hcl2 : (chs ws (l.take (i + 1))).length = i + 1 := by rw [chs_len,List.length_take]; omega
    rw [hcl2] at lg8
    have kk := (kp.trans k34).also kp8 fun m hm x => by have := nw m x; omega
    have nn : ∀ m,nm v8 = some m → h0.next ≤ m := fun m e => by
      rcases nv8 m e with y | y
      · exact nw m y
      · have := (kp.trans k34).1; omega
    generalize chO ws o = T at *
    simp (maxSteps := 2000000) -implicitDefEqProofs [ble_d,beq_d,List.range_succ,List.replicate,cond_true,cond_false,h1N,Try.underlying55,Try.underlying87,aindexAddr,sz87,sz33,hg2,hf2,hd2,al87,gz,ok87,astore,← h3e,g3,fa87_5,en14,e4,ibne,(fun ρ y hy => bs24_1 ρ y T hy),e8,hinc,undef]
    exact ⟨k - 1,by omega,i + 1,by omega,v8,by simp (maxSteps := 2000000) only [forget,List.set_cons_succ,List.set_cons_zero,hcs],lg8,kk,nn⟩
  · obtain rfl : i = n := by omega
    simp (maxSteps := 2000000) -implicitDefEqProofs [ble_d,beq_d,List.range_succ,List.replicate,cond_true,cond_false,undef]
    exact hI
set_option maxRecDepth 20000 in
set_option maxHeartbeats 6400000 in
theorem tblN {h0 : Heap} {va wa : Option Addr} {vc wc n : Nat} {ws : List Nat} {l : List Oc} (hn : l.length = n) (hk : n * 8 ≤ 2 ^ 47) (hw : W64 ws) (kw : ws.length ≤ 2 ^ 47) (hsm : Small l) (hv : Outs h0 (.slice va n vc) l) (hws : Sl h0 (.slice wa ws.length wc) 1 ws.length (fl ws)) (p : Nat) (hp : p < n) (hbad : okPk (l.getD p oc0) = false) (hall : ∀ i,i < p → okPk (l.getD i oc0) = true) (v0 : Value) (F : Step) (hFF : F = aexecP Try.prog (sO 24) (run Try.prog sO) loopω pt24 (lt24 0)) (t : Tm)
    (ht : forget [2,3,4,5,7,8,9,10,11,12,13,14,15,16,20,21,22,23,24,25,26,27,28,29,30,31,32,33,34,35,36,37,38,39,40,41,42,43,44,45,46,47,48,49,50,51,52,53,54,55,56,57,58,59,60,61,62,63,64,65,66,67,68,69,70,71,72,73,74,75] t = [.slice va n vc,.slice wa ws.length wc,Z,Z,Z,Z,v0,Z,Z,Z,Z,Z,Z,Z,Z,Z,Z,.slice va n vc,.int .i64 n,.int .i64 (0 : Nat),Z,Z,Z,Z,Z,Z,Z,Z,Z,Z,Z,Z,Z,Z,Z,Z,Z,Z,Z,Z,Z,Z,Z,Z,Z,Z,Z,Z,Z,Z,Z,Z,Z,Z,Z,Z,Z,Z,Z,Z,Z,Z,Z,Z,Z,Z,Z,Z,Z,Z,Z,Z,Z,Z,Z,Z]) (hI0 : (Lg h0 v0 34 1 (0) (fl (chs ws (l.take (0)))) ∧ Keep No h0 h0 ∧ ∀ m,nm v0 = some m → h0.next ≤ m)) :
    ∃ h' v x8 x9 x10 x20 x21 x22 x23 x24 x25 x26 x27 x28 x29 x30 x31 x32,loopω [2,3,4,5,7,8,9,10,11,12,13,14,15,16,20,21,22,23,24,25,26,27,28,29,30,31,32,33,34,35,36,37,38,39,40,41,42,43,44,45,46,47,48,49,50,51,52,53,54,55,56,57,58,59,60,61,62,63,64,65,66,67,68,69,70,71,72,73,74,75] F t h0 = some (.ret,[.slice va n vc,.slice wa ws.length wc,Z,Z,.slice none 0 0,.int .i64 2,v,Z,x8,x9,x10,Z,Z,Z,Z,Z,Z,.slice va n vc,.int .i64 n,.int .i64 (p : Nat),x20,x21,x22,x23,x24,x25,x26,x27,x28,x29,x30,x31,x32,Z,Z,Z,Z,Z,Z,Z,Z,Z,Z,Z,Z,Z,Z,Z,Z,Z,Z,Z,Z,Z,Z,Z,Z,Z,Z,Z,Z,Z,Z,Z,Z,Z,Z,Z,Z,Z,Z,Z,Z,Z,Z,Z],h') ∧ Keep No h0 h' := by
  subst hFF
  suffices hs : ∃ e t' h',loopω [2,3,4,5,7,8,9,10,11,12,13,14,15,16,20,21,22,23,24,25,26,27,28,29,30,31,32,33,34,35,36,37,38,39,40,41,42,43,44,45,46,47,48,49,50,51,52,53,54,55,56,57,58,59,60,61,62,63,64,65,66,67,68,69,70,71,72,73,74,75] (aexecP Try.prog (sO 24) (run Try.prog sO) loopω pt24 (lt24 0)) t h0 = some (e,t',h') ∧ (e = .ret ∧ ∃ v x8 x9 x10 x20 x21 x22 x23 x24 x25 x26 x27 x28 x29 x30 x31 x32,t' = [.slice va n vc,.slice wa ws.length wc,Z,Z,.slice none 0 0,.int .i64 2,v,Z,x8,x9,x10,Z,Z,Z,Z,Z,Z,.slice va n vc,.int .i64 n,.int .i64 (p : Nat),x20,x21,x22,x23,x24,x25,x26,x27,x28,x29,x30,x31,x32,Z,Z,Z,Z,Z,Z,Z,Z,Z,Z,Z,Z,Z,Z,Z,Z,Z,Z,Z,Z,Z,Z,Z,Z,Z,Z,Z,Z,Z,Z,Z,Z,Z,Z,Z,Z,Z,Z,Z,Z,Z,Z,Z] ∧ Keep No h0 h') by
    obtain ⟨e,t',h',q1,rfl,v,x8,x9,x10,x20,x21,x22,x23,x24,x25,x26,x27,x28,x29,x30,x31,x32,rfl,q2⟩ := hs
    exact ⟨h',v,x8,x9,x10,x20,x21,x22,x23,x24,x25,x26,x27,x28,x29,x30,x31,x32,q1,q2⟩
  simp only [lt24,Try.f24,loopsOf,Option.getD_some,List.nil_append,List.append_nil,List.cons_append,List.getD_cons_zero,List.getD_cons_succ]
  refine loop_by (fun k t h' => ∃ (i : Nat) (v : Value),i + k = p ∧ forget [2,3,4,5,7,8,9,10,11,12,13,14,15,16,20,21,22,23,24,25,26,27,28,29,30,31,32,33,34,35,36,37,38,39,40,41,42,43,44,45,46,47,48,49,50,51,52,53,54,55,56,57,58,59,60,61,62,63,64,65,66,67,68,69,70,71,72,73,74,75] t = [.slice va n vc,.slice wa ws.length wc,Z,Z,Z,Z,v,Z,Z,Z,Z,Z,Z,Z,Z,Z,Z,.slice va n vc,.int .i64 n,.int .i64 (i : Nat),Z,Z,Z,Z,Z,Z,Z,Z,Z,Z,Z,Z,Z,Z,Z,Z,Z,Z,Z,Z,Z,Z,Z,Z,Z,Z,Z,Z,Z,Z,Z,Z,Z,Z,Z,Z,Z,Z,Z,Z,Z,Z,Z,Z,Z,Z,Z,Z,Z,Z,Z,Z,Z,Z,Z,Z] ∧ (Lg h' v 34 1 (i) (fl (chs ws (l.take (i)))) ∧ Keep No h0 h' ∧ ∀ m,nm v = some m → h0.next ≤ m))
    (fun e t' h' => e = .ret ∧ ∃ v x8 x9 x10 x20 x21 x22 x23 x24 x25 x26 x27 x28 x29 x30 x31 x32,t' = [.slice va n vc,.slice wa ws.length wc,Z,Z,.slice none 0 0,.int .i64 2,v,Z,x8,x9,x10,Z,Z,Z,Z,Z,Z,.slice va n vc,.int .i64 n,.int .i64 (p : Nat),x20,x21,x22,x23,x24,x25,x26,x27,x28,x29,x30,x31,x32,Z,Z,Z,Z,Z,Z,Z,Z,Z,Z,Z,Z,Z,Z,Z,Z,Z,Z,Z,Z,Z,Z,Z,Z,Z,Z,Z,Z,Z,Z,Z,Z,Z,Z,Z,Z,Z,Z,Z,Z,Z,Z,Z] ∧ Keep No h0 h') ?_ (p) _ _ ⟨0,_,by omega,ht,hI0⟩
  rintro k t h' ⟨i,v,hi,ht,hI⟩
  rw [ht]
  rcases Nat.lt_or_ge i (p) with h1 | h1
  · obtain ⟨lg,kp,nw⟩ := hI
    have hinc := @inc64 i (by omega)
    have hcs := cast_succ i
    obtain ⟨ga,gc,C2,ce2,cs2,gr2,ro2,x1,y1,z1,x2,y2,z2,x3,y3,z3,eb,hg2,hf2,hd2,_,hnest⟩ := os_at (hv.keep kp) (show i < l.length by omega)
    rw [hn] at eb
    simp only [Value.slice.injEq,true_and] at eb
    obtain ⟨rfl,rfl⟩ := eb
    have hs2 := hsm.get (i := i) (by omega)
    have hst := chs_take (ws := ws) (l := l) (i := i) (by omega)
    have hok := hall i (by omega)
    generalize l.getD i oc0 = o at *
    have b3 := hs2.2.2
    have gz : (h'.new (.cells [.int .i64 0,.int .i64 0,.slice none 0 0,.int .i64 0,.slice none 0 0,.slice none 0 0] 87 6 false false)).get h'.next = some (.cells [.int .i64 0,.int .i64 0,.slice none 0 0,.int .i64 0,.slice none 0 0,.slice none 0 0] 87 6 false false) := by rw [Heap.get_new,if_pos rfl]
    obtain ⟨h3,h3e⟩ : ∃ x,x = (h'.new (.cells [.int .i64 0,.int .i64 0,.slice none 0 0,.int .i64 0,.slice none 0 0,.slice none 0 0] 87 6 false false)).put h'.next (some (.cells [.int .i64 o.e,.int .i64 o.en,.slice x1 y1 z1,.int .i64 o.st,.slice x2 y2 z2,.slice x3 y3 z3] 87 6 false false)) := ⟨_,rfl⟩
    have k3 : Keep No h' h3 := h3e ▸ (Keep.new No h' _).also (Keep.put (S := fun m => m = h'.next) (Heap.get_lt gz) rfl _) fun m hm e => by omega
    have g3 : h3.get h'.next = some (.cells [.int .i64 o.e,.int .i64 o.en,.slice x1 y1 z1,.int .i64 o.st,.slice x2 y2 z2,.slice x3 y3 z3] 87 6 false false) := by rw [h3e,Heap.get_put (Heap.get_lt gz),if_pos rfl]
    have s3 : Sl h3 (.slice x3 y3 z3) 2 o.pk.length (picks o.pk) := hnest.2.2.keep k3 fun _ _ x => x
    obtain ⟨h4,e4,k4⟩ := chance_run (l := o.pk) hw (by omega) kw ((hws.keep kp fun _ _ x => x).keep k3 fun _ _ x => x) s3
    have hok' : (smallB o.pk && goodB o.pk) = true := hok
    rw [hok'] at e4
    
    have h1N : i < n := by omega
    have hT := chO_lt hw hok
    have hch : chB ws o.pk o.pk.length = chO ws o := rfl
    rw [hch] at e4
    simp only [if_true] at e4
    have k34 := k3.trans k4
    have hcl : (chs ws (l.take i)).length = i := by rw [chs_len,List.length_take]; omega
    have lg' : Lg h4 v 34 1 (chs ws (l.take i)).length (fl (chs ws (l.take i))) := by rw [hcl]; exact lg.keep k34 fun _ _ x => x
    obtain ⟨v8,h8,e8,lg8,kp8,nv8⟩ := app_fl lg' (by omega) (chO ws o)
    rw [← hst] at lg8
    have hcl2 : (chs ws (l.take (i + 1))).length = i + 1 := by rw [chs_len,List.length_take]; omega
    rw [hcl2] at lg8
    have kk := (kp.trans k34).also kp8 fun m hm x => by have := nw m x; omega
    have nn : ∀ m,nm v8 = some m → h0.next ≤ m := fun m e => by
      rcases nv8 m e with y | y
      · exact nw m y
      · have := (kp.trans k34).1; omega
    generalize chO ws o = T at *
    simp (maxSteps := 2000000) -implicitDefEqProofs [ble_d,beq_d,List.range_succ,List.replicate,cond_true,cond_false,h1N,Try.underlying55,Try.underlying87,aindexAddr,sz87,sz33,hg2,hf2,hd2,al87,gz,ok87,astore,← h3e,g3,fa87_5,en14,e4,ibne,(fun ρ y hy => bs24_1 ρ y T hy),e8,hinc,undef]
    exact ⟨k - 1,by omega,i + 1,by omega,v8,by simp (maxSteps := 2000000) only [forget,List.set_cons_succ,List.set_cons_zero,hcs],lg8,kk,nn⟩
  · obtain rfl : i = p := by omega
    have h1N : i < n := hp
    
    obtain ⟨lg,kp,nw⟩ := hI
    have hinc := @inc64 i (by omega)
    have hcs := cast_succ i
    obtain ⟨ga,gc,C2,ce2,cs2,gr2,ro2,x1,y1,z1,x2,y2,z2,x3,y3,z3,eb,hg2,hf2,hd2,_,hnest⟩ := os_at (hv.keep kp) (show i < l.length by omega)
    rw [hn] at eb
    simp only [Value.slice.injEq,true_and] at eb
    obtain ⟨rfl,rfl⟩ := eb
    have hs2 := hsm.get (i := i) (by omega)
    have hst := chs_take (ws := ws) (l := l) (i := i) (by omega)
    have hok := hbad
    generalize l.getD i oc0 = o at *
    have b3 := hs2.2.2
    have gz : (h'.new (.cells [.int .i64 0,.int .i64 0,.slice none 0 0,.int .i64 0,.slice none 0 0,.slice none 0 0] 87 6 false false)).get h'.next = some (.cells [.int .i64 0,.int .i64 0,.slice none 0 0,.int .i64 0,.slice none 0 0,.slice none 0 0] 87 6 false false) := by rw [Heap.get_new,if_pos rfl]
    obtain ⟨h3,h3e⟩ : ∃ x,x = (h'.new (.cells [.int .i64 0,.int .i64 0,.slice none 0 0,.int .i64 0,.slice none 0 0,.slice none 0 0] 87 6 false false)).put h'.next (some (.cells [.int .i64 o.e,.int .i64 o.en,.slice x1 y1 z1,.int .i64 o.st,.slice x2 y2 z2,.slice x3 y3 z3] 87 6 false false)) := ⟨_,rfl⟩
    have k3 : Keep No h' h3 := h3e ▸ (Keep.new No h' _).also (Keep.put (S := fun m => m = h'.next) (Heap.get_lt gz) rfl _) fun m hm e => by omega
    have g3 : h3.get h'.next = some (.cells [.int .i64 o.e,.int .i64 o.en,.slice x1 y1 z1,.int .i64 o.st,.slice x2 y2 z2,.slice x3 y3 z3] 87 6 false false) := by rw [h3e,Heap.get_put (Heap.get_lt gz),if_pos rfl]
    have s3 : Sl h3 (.slice x3 y3 z3) 2 o.pk.length (picks o.pk) := hnest.2.2.keep k3 fun _ _ x => x
    obtain ⟨h4,e4,k4⟩ := chance_run (l := o.pk) hw (by omega) kw ((hws.keep kp fun _ _ x => x).keep k3 fun _ _ x => x) s3
    have hok' : (smallB o.pk && goodB o.pk) = false := hok
    rw [hok'] at e4
    
    simp only [Bool.false_eq_true,if_false] at e4
    simp (maxSteps := 2000000) -implicitDefEqProofs [ble_d,beq_d,List.range_succ,List.replicate,cond_true,cond_false,h1N,Try.underlying55,Try.underlying87,aindexAddr,sz87,sz33,hg2,hf2,hd2,al87,gz,ok87,astore,← h3e,g3,fa87_5,en14,e4,ibne,undef]
    exact (kp.trans k3).trans k4

def pkF (ch gl : List Nat) (i : Nat) : List Nat := (gl.take i).map fun j => ch.getD j 0
def lnT (ws : List Nat) (l : List Oc) (cn : Nat) (fs : List Nat) (i : Nat) : List Ln := (fs.take i).map (lnO ws l cn)
set_option maxRecDepth 20000 in
set_option maxHeartbeats 6400000 in
theorem tbl3 {h0 : Heap} {ca Ga ga : Option Addr} {cn cc N q Gc gn gc : Nat} {ov : Value} {ch gl : List Nat} (hgn : gl.length = gn) (hcn : ch.length = cn) (hlt : ∀ i ∈ gl,i < cn) (kg : gn * 8 ≤ 2 ^ 47) (hc : Sl h0 (.slice ca cn cc) 1 cn (fl ch)) (hg : Sl h0 (.slice ga gn gc) 1 gn (idx gl)) (v0 : Value) (F : Step) (hFF : F = aexecP Try.prog (sO 24) (run Try.prog sO) loopω pt24 (lt24 2)) (t : Tm)
    (ht : forget [0,1,2,3,4,5,7,8,9,10,12,15,16,17,18,19,20,21,22,23,24,25,26,27,28,29,30,31,32,33,34,35,36,37,38,39,40,44,45,46,50,51,52,53,54,55,56,57,58,59,60,61,62,63,64,65,66,67,68,69,70,71,72,73,74,75] t = [Z,Z,Z,Z,Z,Z,.slice ca cn cc,Z,Z,Z,Z,ov,Z,.slice ga gn gc,v0,Z,Z,Z,Z,Z,Z,Z,Z,Z,Z,Z,Z,Z,Z,Z,Z,Z,Z,Z,Z,Z,Z,Z,Z,Z,Z,.slice Ga N Gc,.int .i64 N,.int .i64 (q : Nat),Z,Z,Z,.slice ga gn gc,.int .i64 gn,.int .i64 (0 : Nat),Z,Z,Z,Z,Z,Z,Z,Z,Z,Z,Z,Z,Z,Z,Z,Z,Z,Z,Z,Z,Z,Z,Z,Z,Z,Z]) (hI0 : (Lg h0 v0 34 1 (0) (fl (pkF ch gl (0))) ∧ Keep No h0 h0 ∧ ∀ m,nm v0 = some m → h0.next ≤ m)) :
    ∃ h' v x50,loopω [0,1,2,3,4,5,7,8,9,10,12,15,16,17,18,19,20,21,22,23,24,25,26,27,28,29,30,31,32,33,34,35,36,37,38,39,40,44,45,46,50,51,52,53,54,55,56,57,58,59,60,61,62,63,64,65,66,67,68,69,70,71,72,73,74,75] F t h0 = some (.exit 4,[Z,Z,Z,Z,Z,Z,.slice ca cn cc,Z,Z,Z,Z,ov,Z,.slice ga gn gc,v,Z,Z,Z,Z,Z,Z,Z,Z,Z,Z,Z,Z,Z,Z,Z,Z,Z,Z,Z,Z,Z,Z,Z,Z,Z,Z,.slice Ga N Gc,.int .i64 N,.int .i64 (q : Nat),Z,Z,Z,.slice ga gn gc,.int .i64 gn,.int .i64 (gn : Nat),x50,Z,Z,Z,Z,Z,Z,Z,Z,Z,Z,Z,Z,Z,Z,Z,Z,Z,Z,Z,Z,Z,Z,Z,Z,Z],h') ∧ (Lg h' v 34 1 (gn) (fl (pkF ch gl (gn))) ∧ Keep No h0 h' ∧ ∀ m,nm v = some m → h0.next ≤ m) := by
  subst hFF
  suffices hs : ∃ e t' h',loopω [0,1,2,3,4,5,7,8,9,10,12,15,16,17,18,19,20,21,22,23,24,25,26,27,28,29,30,31,32,33,34,35,36,37,38,39,40,44,45,46,50,51,52,53,54,55,56,57,58,59,60,61,62,63,64,65,66,67,68,69,70,71,72,73,74,75] (aexecP Try.prog (sO 24) (run Try.prog sO) loopω pt24 (lt24 2)) t h0 = some (e,t',h') ∧ (e = .exit 4 ∧ ∃ v x50,t' = [Z,Z,Z,Z,Z,Z,.slice ca cn cc,Z,Z,Z,Z,ov,Z,.slice ga gn gc,v,Z,Z,Z,Z,Z,Z,Z,Z,Z,Z,Z,Z,Z,Z,Z,Z,Z,Z,Z,Z,Z,Z,Z,Z,Z,Z,.slice Ga N Gc,.int .i64 N,.int .i64 (q : Nat),Z,Z,Z,.slice ga gn gc,.int .i64 gn,.int .i64 (gn : Nat),x50,Z,Z,Z,Z,Z,Z,Z,Z,Z,Z,Z,Z,Z,Z,Z,Z,Z,Z,Z,Z,Z,Z,Z,Z,Z] ∧ (Lg h' v 34 1 (gn) (fl (pkF ch gl (gn))) ∧ Keep No h0 h' ∧ ∀ m,nm v = some m → h0.next ≤ m)) by
    obtain ⟨e,t',h',q1,rfl,v,x50,rfl,q2⟩ := hs
    exact ⟨h',v,x50,q1,q2⟩
  simp only [lt24,Try.f24,loopsOf,Option.getD_some,List.nil_append,List.append_nil,List.cons_append,List.getD_cons_zero,List.getD_cons_succ]
  refine loop_by (fun k t h' => ∃ (i : Nat) (v : Value),i + k = gn ∧ forget [0,1,2,3,4,5,7,8,9,10,12,15,16,17,18,19,20,21,22,23,24,25,26,27,28,29,30,31,32,33,34,35,36,37,38,39,40,44,45,46,50,51,52,53,54,55,56,57,58,59,60,61,62,63,64,65,66,67,68,69,70,71,72,73,74,75] t = [Z,Z,Z,Z,Z,Z,.slice ca cn cc,Z,Z,Z,Z,ov,Z,.slice ga gn gc,v,Z,Z,Z,Z,Z,Z,Z,Z,Z,Z,Z,Z,Z,Z,Z,Z,Z,Z,Z,Z,Z,Z,Z,Z,Z,Z,.slice Ga N Gc,.int .i64 N,.int .i64 (q : Nat),Z,Z,Z,.slice ga gn gc,.int .i64 gn,.int .i64 (i : Nat),Z,Z,Z,Z,Z,Z,Z,Z,Z,Z,Z,Z,Z,Z,Z,Z,Z,Z,Z,Z,Z,Z,Z,Z,Z,Z] ∧ (Lg h' v 34 1 (i) (fl (pkF ch gl (i))) ∧ Keep No h0 h' ∧ ∀ m,nm v = some m → h0.next ≤ m))
    (fun e t' h' => e = .exit 4 ∧ ∃ v x50,t' = [Z,Z,Z,Z,Z,Z,.slice ca cn cc,Z,Z,Z,Z,ov,Z,.slice ga gn gc,v,Z,Z,Z,Z,Z,Z,Z,Z,Z,Z,Z,Z,Z,Z,Z,Z,Z,Z,Z,Z,Z,Z,Z,Z,Z,Z,.slice Ga N Gc,.int .i64 N,.int .i64 (q : Nat),Z,Z,Z,.slice ga gn gc,.int .i64 gn,.int .i64 (gn : Nat),x50,Z,Z,Z,Z,Z,Z,Z,Z,Z,Z,Z,Z,Z,Z,Z,Z,Z,Z,Z,Z,Z,Z,Z,Z,Z] ∧ (Lg h' v 34 1 (gn) (fl (pkF ch gl (gn))) ∧ Keep No h0 h' ∧ ∀ m,nm v = some m → h0.next ≤ m)) ?_ (gn) _ _ ⟨0,_,by omega,ht,hI0⟩
  rintro k t h' ⟨i,v,hi,ht,hI⟩
  rw [ht]
  rcases Nat.lt_or_ge i (gn) with h1 | h1
  · obtain ⟨lg,kp,nw⟩ := hI
    have hinc := @inc64 i (by omega)
    have hcs := cast_succ i
    have hf := hlt _ (getD_mem (l := gl) (i := i) (by omega))
    obtain ⟨ga,gc,C,ce,cs,gr,ro,eb,hg1,hc1⟩ := sl_idx (hg.keep kp fun _ _ x => x) h1
    simp only [Value.slice.injEq,true_and] at eb
    obtain ⟨rfl,rfl⟩ := eb
    have hst : pkF ch gl (i + 1) = pkF ch gl i ++ [ch.getD (gl.getD i 0) 0] := by
      unfold pkF
      rw [List.take_add_one,List.getElem?_eq_getElem (by omega),List.map_append,List.getD_eq_getElem?_getD (l := gl),List.getElem?_eq_getElem (by omega)]; rfl
    generalize gl.getD i 0 = f at *
    obtain ⟨ca,cc,C2,ce2,cs2,gr2,ro2,eb,hg2,hc2⟩ := sl_fl (hc.keep kp fun _ _ x => x) hf
    simp only [Value.slice.injEq,true_and] at eb
    obtain ⟨rfl,rfl⟩ := eb
    have hll : (pkF ch gl i).length = i := by rw [pkF,List.length_map,List.length_take]; omega
    have hll2 : (pkF ch gl (i + 1)).length = i + 1 := by rw [pkF,List.length_map,List.length_take]; omega
    have lg' : Lg h' v 34 1 (pkF ch gl i).length (fl (pkF ch gl i)) := by rw [hll]; exact lg
    obtain ⟨v8,h8,e8,lg8,kp8,nv8⟩ := app_fl lg' (by omega) (ch.getD f 0)
    rw [← hst,hll2] at lg8
    have kk := kp.also kp8 fun m hm x => by have := nw m x; omega
    have nn : ∀ m,nm v8 = some m → h0.next ≤ m := fun m e => by
      rcases nv8 m e with y | y
      · exact nw m y
      · have := kp.1; omega
    clear hst lg lg'
    generalize ch.getD f 0 = T at *
    simp (maxSteps := 2000000) -implicitDefEqProofs [ble_d,beq_d,List.range_succ,List.replicate,cond_true,cond_false,h1,hf,hg1,hc1,hg2,hc2,aindexAddr,sz3,sz34,Try.underlying90,Try.underlying24,(fun ρ y hy => bs24_1 ρ y T hy),e8,hinc,undef]
    exact ⟨k - 1,by omega,i + 1,by omega,v8,by simp (maxSteps := 2000000) only [forget,List.set_cons_succ,List.set_cons_zero,hcs],lg8,kk,nn⟩
  · obtain rfl : i = gn := by omega
    simp (maxSteps := 2000000) -implicitDefEqProofs [ble_d,beq_d,List.range_succ,List.replicate,cond_true,cond_false,undef]
    exact hI

theorem el67 : elTyB Try.prog 67 3 24 = true := by kernel_rfl
theorem build67 (a b : Int) (c : Nat) : abuild Try.prog 67 [(0,.int .i64 a),(1,.int .i64 b),(2,.float .f64 c)] = some (.agg #[.int .i64 a,.int .i64 b,.float .f64 c]) := by kernel_rfl
theorem bs56_1' (a b : Int) (c : Nat) (d ty pos af gu) : aalloc Try.prog (fun _ => .agg #[.int .i64 a,.int .i64 b,.float .f64 c]) ⟨d,.buildSlice 56 1 #[(0,.tmp 0)],ty,pos,af,gu⟩ = some (.cells [.int .i64 a,.int .i64 b,.float .f64 c] 67 3 false false,fun n => .slice (some ⟨n,0,none⟩) 1 1) := by kernel_rfl
theorem bs56_1 (ρ : Operand → Value) (x) (a b : Int) (c : Nat) (hx : ρ x = .agg #[.int .i64 a,.int .i64 b,.float .f64 c]) (d ty pos af gu) : aalloc Try.prog ρ ⟨d,.buildSlice 56 1 #[(0,x)],ty,pos,af,gu⟩ = some (.cells [.int .i64 a,.int .i64 b,.float .f64 c] 67 3 false false,fun n => .slice (some ⟨n,0,none⟩) 1 1) := by
  have h1 : aalloc Try.prog ρ ⟨d,.buildSlice 56 1 #[(0,x)],ty,pos,af,gu⟩ = aalloc Try.prog (fun _ => ρ x) ⟨d,.buildSlice 56 1 #[(0,.tmp 0)],ty,pos,af,gu⟩ := by simp [aalloc]
  rw [h1,hx]; exact bs56_1' _ _ _ _ _ _ _ _
theorem PosL_grpC {ws : List Nat} (hw : W64 ws) {l : List Oc} (hok : ∀ i,i < l.length → okPk (l.getD i oc0) = true) (f : Nat) : PosL (grpC ws l f l.length) := fun x hx => by
  obtain ⟨i,hi,rfl⟩ := List.mem_map.1 hx
  exact chO_pos hw (hok i (grp_lt l f l.length i hi))

theorem sl_val {h : Heap} {v : Value} {k : Nat} {gs : List Value} (hs : Sl h v 1 k gs) {i : Nat} (hi : i < k) {w : Value} (hw : gs[i]? = some w) :
    ∃ a n c e s gr ro,v = .slice (some a) k n ∧ h.get a.block = some (.cells c e s gr ro) ∧ c[a.off + i]? = some w := by
  have hs0 := hs
  obtain ⟨hl,⟨rfl,rfl⟩ | ⟨a,n,rfl,_⟩⟩ := hs0
  · omega
  · obtain ⟨c,e,s,gr,ro,hg,_,_,hget⟩ := hs.fit (by omega) (by omega)
    exact ⟨a,n,c,e,s,gr,ro,rfl,hg,by rw [hget i (by omega)]; exact hw⟩
set_option maxRecDepth 20000 in
set_option maxHeartbeats 6400000 in
theorem tbl2 {h0 : Heap} {ca Ga : Option Addr} {cn cc N Gc : Nat} {ws : List Nat} {l : List Oc} {fs : List Nat} {gs : List Value} (hn : l.length = cn) (hN : fs.length = N) (kn : cn * 8 ≤ 2 ^ 47) (kN : N * 24 ≤ 2 ^ 47) (hw : W64 ws) (hok : ∀ i,i < l.length → okPk (l.getD i oc0) = true) (hh : ∀ f ∈ fs,∃ t,grp l f cn = f :: t) (hc : Sl h0 (.slice ca cn cc) 1 cn (fl (chs ws l))) (hG : Sl h0 (.slice Ga N Gc) 1 N gs) (hgn : GN h0 l cn fs gs) (v0 : Value) (F : Step) (hFF : F = aexecP Try.prog (sO 24) (run Try.prog sO) loopω pt24 (lt24 1)) (t : Tm)
    (ht : forget [0,1,2,3,4,5,7,8,9,10,12,13,14,15,16,17,18,19,20,21,22,23,24,25,26,27,28,29,30,31,32,33,34,35,36,37,38,39,40,44,45,46,47,48,49,50,51,52,53,54,55,56,57,58,59,60,61,62,63,64,65,66,67,68,69,70,71,72,73,74,75] t = [Z,Z,Z,Z,Z,Z,.slice ca cn cc,Z,Z,Z,Z,v0,Z,Z,Z,Z,Z,Z,Z,Z,Z,Z,Z,Z,Z,Z,Z,Z,Z,Z,Z,Z,Z,Z,Z,Z,Z,Z,Z,Z,Z,.slice Ga N Gc,.int .i64 N,.int .i64 (0 : Nat),Z,Z,Z,Z,Z,Z,Z,Z,Z,Z,Z,Z,Z,Z,Z,Z,Z,Z,Z,Z,Z,Z,Z,Z,Z,Z,Z,Z,Z,Z,Z,Z]) (hI0 : (Lg h0 v0 67 3 (0) (lns (lnT ws l cn fs (0))) ∧ Keep No h0 h0 ∧ ∀ m,nm v0 = some m → h0.next ≤ m)) :
    ∃ h' v x44,loopω [0,1,2,3,4,5,7,8,9,10,12,13,14,15,16,17,18,19,20,21,22,23,24,25,26,27,28,29,30,31,32,33,34,35,36,37,38,39,40,44,45,46,47,48,49,50,51,52,53,54,55,56,57,58,59,60,61,62,63,64,65,66,67,68,69,70,71,72,73,74,75] F t h0 = some (.exit 2,[Z,Z,Z,Z,Z,Z,.slice ca cn cc,Z,Z,Z,Z,v,Z,Z,Z,Z,Z,Z,Z,Z,Z,Z,Z,Z,Z,Z,Z,Z,Z,Z,Z,Z,Z,Z,Z,Z,Z,Z,Z,Z,Z,.slice Ga N Gc,.int .i64 N,.int .i64 (N : Nat),x44,Z,Z,Z,Z,Z,Z,Z,Z,Z,Z,Z,Z,Z,Z,Z,Z,Z,Z,Z,Z,Z,Z,Z,Z,Z,Z,Z,Z,Z,Z,Z],h') ∧ (Lg h' v 67 3 (N) (lns (lnT ws l cn fs (N))) ∧ Keep No h0 h' ∧ ∀ m,nm v = some m → h0.next ≤ m) := by
  subst hFF
  suffices hs : ∃ e t' h',loopω [0,1,2,3,4,5,7,8,9,10,12,13,14,15,16,17,18,19,20,21,22,23,24,25,26,27,28,29,30,31,32,33,34,35,36,37,38,39,40,44,45,46,47,48,49,50,51,52,53,54,55,56,57,58,59,60,61,62,63,64,65,66,67,68,69,70,71,72,73,74,75] (aexecP Try.prog (sO 24) (run Try.prog sO) loopω pt24 (lt24 1)) t h0 = some (e,t',h') ∧ (e = .exit 2 ∧ ∃ v x44,t' = [Z,Z,Z,Z,Z,Z,.slice ca cn cc,Z,Z,Z,Z,v,Z,Z,Z,Z,Z,Z,Z,Z,Z,Z,Z,Z,Z,Z,Z,Z,Z,Z,Z,Z,Z,Z,Z,Z,Z,Z,Z,Z,Z,.slice Ga N Gc,.int .i64 N,.int .i64 (N : Nat),x44,Z,Z,Z,Z,Z,Z,Z,Z,Z,Z,Z,Z,Z,Z,Z,Z,Z,Z,Z,Z,Z,Z,Z,Z,Z,Z,Z,Z,Z,Z,Z] ∧ (Lg h' v 67 3 (N) (lns (lnT ws l cn fs (N))) ∧ Keep No h0 h' ∧ ∀ m,nm v = some m → h0.next ≤ m)) by
    obtain ⟨e,t',h',q1,rfl,v,x44,rfl,q2⟩ := hs
    exact ⟨h',v,x44,q1,q2⟩
  simp only [lt24,Try.f24,loopsOf,Option.getD_some,List.nil_append,List.append_nil,List.cons_append,List.getD_cons_zero,List.getD_cons_succ]
  refine loop_by (fun k t h' => ∃ (i : Nat) (v : Value),i + k = N ∧ forget [0,1,2,3,4,5,7,8,9,10,12,13,14,15,16,17,18,19,20,21,22,23,24,25,26,27,28,29,30,31,32,33,34,35,36,37,38,39,40,44,45,46,47,48,49,50,51,52,53,54,55,56,57,58,59,60,61,62,63,64,65,66,67,68,69,70,71,72,73,74,75] t = [Z,Z,Z,Z,Z,Z,.slice ca cn cc,Z,Z,Z,Z,v,Z,Z,Z,Z,Z,Z,Z,Z,Z,Z,Z,Z,Z,Z,Z,Z,Z,Z,Z,Z,Z,Z,Z,Z,Z,Z,Z,Z,Z,.slice Ga N Gc,.int .i64 N,.int .i64 (i : Nat),Z,Z,Z,Z,Z,Z,Z,Z,Z,Z,Z,Z,Z,Z,Z,Z,Z,Z,Z,Z,Z,Z,Z,Z,Z,Z,Z,Z,Z,Z,Z,Z] ∧ (Lg h' v 67 3 (i) (lns (lnT ws l cn fs (i))) ∧ Keep No h0 h' ∧ ∀ m,nm v = some m → h0.next ≤ m))
    (fun e t' h' => e = .exit 2 ∧ ∃ v x44,t' = [Z,Z,Z,Z,Z,Z,.slice ca cn cc,Z,Z,Z,Z,v,Z,Z,Z,Z,Z,Z,Z,Z,Z,Z,Z,Z,Z,Z,Z,Z,Z,Z,Z,Z,Z,Z,Z,Z,Z,Z,Z,Z,Z,.slice Ga N Gc,.int .i64 N,.int .i64 (N : Nat),x44,Z,Z,Z,Z,Z,Z,Z,Z,Z,Z,Z,Z,Z,Z,Z,Z,Z,Z,Z,Z,Z,Z,Z,Z,Z,Z,Z,Z,Z,Z,Z] ∧ (Lg h' v 67 3 (N) (lns (lnT ws l cn fs (N))) ∧ Keep No h0 h' ∧ ∀ m,nm v = some m → h0.next ≤ m)) ?_ (N) _ _ ⟨0,_,by omega,ht,hI0⟩
  rintro k t h' ⟨i,v,hi,ht,hI⟩
  rw [ht]
  rcases Nat.lt_or_ge i (N) with h1 | h1
  · obtain ⟨lg,kp,nw⟩ := hI
    have hinc := @inc64 i (by omega)
    have hcs := cast_succ i
    have hgk := hgn.keep kp fun m hm => hm.elim
    obtain ⟨ga,gc,hgi,hgs⟩ := hgk.2 i (by omega)
    have hh' := hh _ (getD_mem (l := fs) (i := i) (by omega))
    have hGk := hG.keep kp fun _ _ x => x
    obtain ⟨Ga,Gc,C,ce,cs,gr,ro,eb,hg1,hc1⟩ := sl_val hGk h1 hgi
    simp only [Value.slice.injEq,true_and] at eb
    obtain ⟨rfl,rfl⟩ := eb
    have hst : lnT ws l cn fs (i + 1) = lnT ws l cn fs i ++ [lnO ws l cn (fs.getD i 0)] := by
      unfold lnT
      rw [List.take_add_one,List.getElem?_eq_getElem (by omega),List.map_append,List.getD_eq_getElem?_getD,List.getElem?_eq_getElem (by omega)]; rfl
    generalize fs.getD i 0 = f at *
    have hln : lnO ws l cn f = ((f : Int),((grp l f cn).length : Int),totP (grpC ws l f cn) (grp l f cn).length) := rfl
    have hglen := grp_len l f cn
    have hglt := grp_lt l f cn
    have hgC : grpC ws l f cn = (grp l f cn).map fun j => (chs ws l).getD j 0 := List.map_congr_left fun j hj => (chs_get (by have := hglt j hj; omega)).symm
    have hWC := PosL_grpC hw hok f
    rw [hn] at hWC
    have hgClen : (grpC ws l f cn).length = (grp l f cn).length := by simp [grpC]
    obtain ⟨t,ht⟩ := hh'
    have hpos : 0 < (grp l f cn).length := by rw [ht]; simp
    have h0f : (grp l f cn).getD 0 0 = f := by rw [ht]; rfl
    obtain ⟨gn,hgn'⟩ : ∃ k,(grp l f cn).length = k := ⟨_,rfl⟩
    rw [hgn'] at hgs hc1 hln hglen hpos hgClen
    simp (maxSteps := 2000000) -implicitDefEqProofs [ble_d,beq_d,List.range_succ,List.replicate,cond_true,cond_false,h1,hg1,hc1,aindexAddr,sz90,Try.underlying88,sO24_16,undef]
    generalize hlp : loopω _ _ _ _ = r
    obtain ⟨h4,v4,x50,hx,lg4,k4,nw4⟩ := useX2 hlp (tbl3 (h0 := h') (q := i) (N := N) (Ga := some Ga) (Gc := Gc) (ov := v) (gl := grp l f cn) (gn := gn) (ch := chs ws l) (cn := cn) hgn' (by rw [chs_len]; exact hn) hglt (by omega) (hc.keep kp fun _ _ x => x) hgs _ _ (by kernel_rfl) _ (by kernel_rfl) ⟨Lg.nil _ _ _,Keep.refl _ _,fun m e => by cases e⟩)
    subst hx
    clear hlp
    have htk : (grp l f cn).take gn = grp l f cn := List.take_of_length_le (by omega)
    rw [pkF,htk,← hgC] at lg4
    have hs4 := lg4.sl
    rw [← hgClen] at hs4
    have et := totalP_run hs4 hWC (by omega)
    have hTlt := (totP_pos hWC gn).lt
    rw [hgClen] at hs4 et
    obtain ⟨sa,sc,rfl⟩ := sl_form hs4
    have hgs4 := hgs.keep k4 fun _ _ x => x
    obtain ⟨gb,gd,C3,ce3,cs3,gr3,ro3,eb,hg3,hc3⟩ := sl_idx hgs4 hpos
    rw [h0f,Nat.add_zero] at hc3
    simp only [Value.slice.injEq,true_and] at eb
    obtain ⟨rfl,rfl⟩ := eb
    generalize totP (grpC ws l f cn) gn = T at *
    have k5 := Keep.new No h4 (.cells [.int .i64 (f : Nat),.int .i64 (gn : Nat),.float .f64 T] 67 3 false false)
    have hx1 : Sl (h4.new (.cells [.int .i64 (f : Nat),.int .i64 (gn : Nat),.float .f64 T] 67 3 false false)) (.slice (some ⟨h4.next,0,none⟩) 1 1) 3 1 (lns [((f : Int),(gn : Int),T)]) :=
      ⟨rfl,.inr ⟨_,_,rfl,fun _ => ⟨_,_,_,_,_,by rw [Heap.get_new,if_pos rfl],rfl⟩⟩⟩
    have lgk := (lg.keep k4 fun _ _ x => x).keep k5 fun _ _ x => x
    obtain ⟨v8,h8,e8,lg8,kp8,nv8,_,nf8⟩ := append_lg (t := 56) (xt := 56) Try.underlying56 Try.underlying56 rfl el67 lgk hx1 (by omega) (by omega) rfl
    rw [← lns_app,← hln,← hst] at lg8
    have k45 := k4.trans k5
    have l8 := kp8.1
    have kk := (kp.trans k45).also kp8 fun m hm x => by have := nw m x; omega
    have nn : ∀ m,nm v8 = some m → h0.next ≤ m := fun m e => by
      rcases Nat.lt_or_ge m (h4.new (.cells [.int .i64 (f : Nat),.int .i64 (gn : Nat),.float .f64 T] 67 3 false false)).next with y | y
      · exact nw m (nv8 m e y)
      · have := (kp.trans k45).1; omega
    simp (maxSteps := 2000000) -implicitDefEqProofs [ble_d,beq_d,List.range_succ,List.replicate,cond_true,cond_false,pt24_20,pl24_20,an24_20,hpos,hg3,hc3,aindexAddr,sz3,Try.underlying90,en20,et,build67,(fun ρ y hy => bs56_1 ρ y (f : Int) (gn : Int) T hy),e8,l8,hinc,undef]
    exact ⟨_,_,_,⟨rfl,rfl,rfl⟩,k - 1,by omega,i + 1,by omega,v8,by simp (maxSteps := 2000000) only [forget,List.set_cons_succ,List.set_cons_zero,hcs],lg8,kk,nn⟩
  · obtain rfl : i = N := by omega
    simp (maxSteps := 2000000) -implicitDefEqProofs [ble_d,beq_d,List.range_succ,List.replicate,cond_true,cond_false,undef]
    exact hI
end Go.Proofs.Ytmnkmdfladbgdaa.Od

set_option linter.unusedVariables false
set_option linter.unusedSimpArgs false
namespace Go.Proofs.Ytmnkmdfladbgdaa.Od
open Go Go.Proofs Go.RowKit Go.Proofs.YtmnkmdfladbgdaaAI Go.Proofs.YtmnkmdfladbgdaaFl Go.Proofs.YtmnkmdfladbgdaaSrt
theorem useX17T {ks : List Nat} {F : Step} {t : Tm} {h : Heap} {rr : Option (AEx × Tm × Heap)} {f : Heap → Value → Value → Value → Value → Value → Value → Value → Value → Value → Value → Value → Value → Value → Value → Value → Value → Value → Option (AEx × Tm × Heap)} {p : Heap → Value → Value → Value → Value → Value → Value → Value → Value → Value → Value → Value → Value → Value → Value → Value → Value → Value → Prop} (hl : loopω ks F t h = rr) (H : ∃ h' x0 x1 x2 x3 x4 x5 x6 x7 x8 x9 x10 x11 x12 x13 x14 x15 x16,loopω ks F t h = f h' x0 x1 x2 x3 x4 x5 x6 x7 x8 x9 x10 x11 x12 x13 x14 x15 x16 ∧ p h' x0 x1 x2 x3 x4 x5 x6 x7 x8 x9 x10 x11 x12 x13 x14 x15 x16) : ∃ h' x0 x1 x2 x3 x4 x5 x6 x7 x8 x9 x10 x11 x12 x13 x14 x15 x16,rr = f h' x0 x1 x2 x3 x4 x5 x6 x7 x8 x9 x10 x11 x12 x13 x14 x15 x16 ∧ p h' x0 x1 x2 x3 x4 x5 x6 x7 x8 x9 x10 x11 x12 x13 x14 x15 x16 := hl ▸ H
noncomputable def lt96 (i : Nat) : Code := (loopsOf (Try.f96.body.getD .skip)).getD i .skip
noncomputable def lt80 (i : Nat) : Code := (loopsOf (Try.f80.body.getD .skip)).getD i .skip
set_option maxRecDepth 20000 in
set_option maxHeartbeats 6400000 in
theorem ins0 {h0 : Heap} {a : Option Addr} {c : Nat} (F : Step) (hFF : F = aexecP Try.prog (sO 96) (run Try.prog sO) loopω pt96 (lt96 0)) (t : Tm)
    (ht : forget [4,5,6,7,9,10,11,12,13,14,15,16,17,18,19,20,21,22,23,24,25,26,27,28,29,30,31,32,33,34,35,36,37,38,39,40,41,42,43,44,45,46,47,48,49,50,51,52] t = [.slice a 0 c,.int .i64 0,.int .i64 0,clo50,Z,Z,Z,Z,.int .i64 1,Z,Z,Z,Z,Z,Z,Z,Z,Z,Z,Z,Z,Z,Z,Z,Z,Z,Z,Z,Z,Z,Z,Z,Z,Z,Z,Z,Z,Z,Z,Z,Z,Z,Z,Z,Z,Z,Z,Z,Z,Z,Z,Z,Z]) (hI0 : h0 = h0) :
    ∃ h' x12 x13 x14,loopω [4,5,6,7,9,10,11,12,13,14,15,16,17,18,19,20,21,22,23,24,25,26,27,28,29,30,31,32,33,34,35,36,37,38,39,40,41,42,43,44,45,46,47,48,49,50,51,52] F t h0 = some (.exit 0,[.slice a 0 c,.int .i64 0,.int .i64 0,clo50,Z,Z,Z,Z,.int .i64 1,Z,Z,Z,x12,x13,x14,Z,Z,Z,Z,Z,Z,Z,Z,Z,Z,Z,Z,Z,Z,Z,Z,Z,Z,Z,Z,Z,Z,Z,Z,Z,Z,Z,Z,Z,Z,Z,Z,Z,Z,Z,Z,Z,Z],h') ∧ h' = h0 := by
  subst hFF
  suffices hs : ∃ e t' h',loopω [4,5,6,7,9,10,11,12,13,14,15,16,17,18,19,20,21,22,23,24,25,26,27,28,29,30,31,32,33,34,35,36,37,38,39,40,41,42,43,44,45,46,47,48,49,50,51,52] (aexecP Try.prog (sO 96) (run Try.prog sO) loopω pt96 (lt96 0)) t h0 = some (e,t',h') ∧ (e = .exit 0 ∧ ∃ x12 x13 x14,t' = [.slice a 0 c,.int .i64 0,.int .i64 0,clo50,Z,Z,Z,Z,.int .i64 1,Z,Z,Z,x12,x13,x14,Z,Z,Z,Z,Z,Z,Z,Z,Z,Z,Z,Z,Z,Z,Z,Z,Z,Z,Z,Z,Z,Z,Z,Z,Z,Z,Z,Z,Z,Z,Z,Z,Z,Z,Z,Z,Z,Z] ∧ h' = h0) by
    obtain ⟨e,t',h',q1,rfl,x12,x13,x14,rfl,q2⟩ := hs
    exact ⟨h',x12,x13,x14,q1,q2⟩
  simp only [lt96,Try.f96,loopsOf,Option.getD_some,List.nil_append,List.append_nil,List.cons_append,List.getD_cons_zero,List.getD_cons_succ]
  refine loop_by (fun k t h' => ∃ (i : Nat),i + k = 0 ∧ forget [4,5,6,7,9,10,11,12,13,14,15,16,17,18,19,20,21,22,23,24,25,26,27,28,29,30,31,32,33,34,35,36,37,38,39,40,41,42,43,44,45,46,47,48,49,50,51,52] t = [.slice a 0 c,.int .i64 0,.int .i64 0,clo50,Z,Z,Z,Z,.int .i64 1,Z,Z,Z,Z,Z,Z,Z,Z,Z,Z,Z,Z,Z,Z,Z,Z,Z,Z,Z,Z,Z,Z,Z,Z,Z,Z,Z,Z,Z,Z,Z,Z,Z,Z,Z,Z,Z,Z,Z,Z,Z,Z,Z,Z] ∧ h' = h0)
    (fun e t' h' => e = .exit 0 ∧ ∃ x12 x13 x14,t' = [.slice a 0 c,.int .i64 0,.int .i64 0,clo50,Z,Z,Z,Z,.int .i64 1,Z,Z,Z,x12,x13,x14,Z,Z,Z,Z,Z,Z,Z,Z,Z,Z,Z,Z,Z,Z,Z,Z,Z,Z,Z,Z,Z,Z,Z,Z,Z,Z,Z,Z,Z,Z,Z,Z,Z,Z,Z,Z,Z,Z] ∧ h' = h0) ?_ (0) _ _ ⟨0,by omega,ht,hI0⟩
  rintro k t h' ⟨i,hi,ht,hI⟩
  rw [ht]
  rcases Nat.lt_or_ge i (0) with h1 | h1
  · exact absurd h1 (by omega)
  · obtain rfl : i = 0 := by omega
    simp (maxSteps := 2000000) -implicitDefEqProofs [ble_d,beq_d,List.range_succ,List.replicate,cond_true,cond_false,undef]
    exact hI
set_option maxRecDepth 20000 in
set_option maxHeartbeats 6400000 in
theorem stb0 {h0 : Heap} {a : Option Addr} {c : Nat} (F : Step) (hFF : F = aexecP Try.prog (sO 80) (run Try.prog sO) loopω pt80 (lt80 0)) (t : Tm)
    (ht : forget [3,4,5,9,10,11,12,13,14,15,16,17,18,19,20,21,22,23,24,25,26,27,28,29,30,31,32,33,34,35,36,37,38,39,40,41,42,43,44,45,46,47,48,49,50,51,52,53,54,55,56,57,58,59,60,61,62] t = [.slice a 0 c,.int .i64 0,clo50,Z,Z,Z,.int .i64 20,.int .i64 0,.int .i64 20,Z,Z,Z,Z,Z,Z,Z,Z,Z,Z,Z,Z,Z,Z,Z,Z,Z,Z,Z,Z,Z,Z,Z,Z,Z,Z,Z,Z,Z,Z,Z,Z,Z,Z,Z,Z,Z,Z,Z,Z,Z,Z,Z,Z,Z,Z,Z,Z,Z,Z,Z,Z,Z,Z]) (hI0 : h0 = h0) :
    ∃ h' x11 x12 x13,loopω [3,4,5,9,10,11,12,13,14,15,16,17,18,19,20,21,22,23,24,25,26,27,28,29,30,31,32,33,34,35,36,37,38,39,40,41,42,43,44,45,46,47,48,49,50,51,52,53,54,55,56,57,58,59,60,61,62] F t h0 = some (.exit 0,[.slice a 0 c,.int .i64 0,clo50,Z,Z,Z,.int .i64 20,.int .i64 0,.int .i64 20,Z,Z,x11,x12,x13,Z,Z,Z,Z,Z,Z,Z,Z,Z,Z,Z,Z,Z,Z,Z,Z,Z,Z,Z,Z,Z,Z,Z,Z,Z,Z,Z,Z,Z,Z,Z,Z,Z,Z,Z,Z,Z,Z,Z,Z,Z,Z,Z,Z,Z,Z,Z,Z,Z],h') ∧ h' = h0 := by
  subst hFF
  suffices hs : ∃ e t' h',loopω [3,4,5,9,10,11,12,13,14,15,16,17,18,19,20,21,22,23,24,25,26,27,28,29,30,31,32,33,34,35,36,37,38,39,40,41,42,43,44,45,46,47,48,49,50,51,52,53,54,55,56,57,58,59,60,61,62] (aexecP Try.prog (sO 80) (run Try.prog sO) loopω pt80 (lt80 0)) t h0 = some (e,t',h') ∧ (e = .exit 0 ∧ ∃ x11 x12 x13,t' = [.slice a 0 c,.int .i64 0,clo50,Z,Z,Z,.int .i64 20,.int .i64 0,.int .i64 20,Z,Z,x11,x12,x13,Z,Z,Z,Z,Z,Z,Z,Z,Z,Z,Z,Z,Z,Z,Z,Z,Z,Z,Z,Z,Z,Z,Z,Z,Z,Z,Z,Z,Z,Z,Z,Z,Z,Z,Z,Z,Z,Z,Z,Z,Z,Z,Z,Z,Z,Z,Z,Z,Z] ∧ h' = h0) by
    obtain ⟨e,t',h',q1,rfl,x11,x12,x13,rfl,q2⟩ := hs
    exact ⟨h',x11,x12,x13,q1,q2⟩
  simp only [lt80,Try.f80,loopsOf,Option.getD_some,List.nil_append,List.append_nil,List.cons_append,List.getD_cons_zero,List.getD_cons_succ]
  refine loop_by (fun k t h' => ∃ (i : Nat),i + k = 0 ∧ forget [3,4,5,9,10,11,12,13,14,15,16,17,18,19,20,21,22,23,24,25,26,27,28,29,30,31,32,33,34,35,36,37,38,39,40,41,42,43,44,45,46,47,48,49,50,51,52,53,54,55,56,57,58,59,60,61,62] t = [.slice a 0 c,.int .i64 0,clo50,Z,Z,Z,.int .i64 20,.int .i64 0,.int .i64 20,Z,Z,Z,Z,Z,Z,Z,Z,Z,Z,Z,Z,Z,Z,Z,Z,Z,Z,Z,Z,Z,Z,Z,Z,Z,Z,Z,Z,Z,Z,Z,Z,Z,Z,Z,Z,Z,Z,Z,Z,Z,Z,Z,Z,Z,Z,Z,Z,Z,Z,Z,Z,Z,Z] ∧ h' = h0)
    (fun e t' h' => e = .exit 0 ∧ ∃ x11 x12 x13,t' = [.slice a 0 c,.int .i64 0,clo50,Z,Z,Z,.int .i64 20,.int .i64 0,.int .i64 20,Z,Z,x11,x12,x13,Z,Z,Z,Z,Z,Z,Z,Z,Z,Z,Z,Z,Z,Z,Z,Z,Z,Z,Z,Z,Z,Z,Z,Z,Z,Z,Z,Z,Z,Z,Z,Z,Z,Z,Z,Z,Z,Z,Z,Z,Z,Z,Z,Z,Z,Z,Z,Z,Z] ∧ h' = h0) ?_ (0) _ _ ⟨0,by omega,ht,hI0⟩
  rintro k t h' ⟨i,hi,ht,hI⟩
  rw [ht]
  rcases Nat.lt_or_ge i (0) with h1 | h1
  · exact absurd h1 (by omega)
  · obtain rfl : i = 0 := by omega
    simp (maxSteps := 2000000) -implicitDefEqProofs [ble_d,beq_d,List.range_succ,List.replicate,cond_true,cond_false,undef]
    exact hI
set_option maxRecDepth 20000 in
set_option maxHeartbeats 6400000 in
theorem stb1 {h0 : Heap} {a : Option Addr} {c : Nat} (F : Step) (hFF : F = aexecP Try.prog (sO 80) (run Try.prog sO) loopω pt80 (lt80 1)) (t : Tm)
    (ht : forget [3,4,5,7,8,9,10,11,12,13,14,15,16,17,18,19,20,21,22,23,24,25,26,27,28,29,30,31,32,33,34,35,36,37,38,39,40,41,42,43,44,45,46,47,48,49,50,51,52,53,54,55,56,57,58,59,60,61,62] t = [.slice a 0 c,.int .i64 0,clo50,Z,Z,Z,.int .i64 20,Z,Z,Z,Z,Z,Z,Z,Z,Z,Z,Z,Z,Z,Z,Z,Z,Z,Z,Z,Z,Z,Z,Z,Z,Z,Z,Z,Z,Z,Z,Z,Z,Z,Z,Z,Z,Z,Z,Z,Z,Z,Z,Z,Z,Z,Z,Z,Z,Z,Z,Z,Z,Z,Z,Z,Z]) (hI0 : h0 = h0) :
    ∃ h' x28 x29 x30,loopω [3,4,5,7,8,9,10,11,12,13,14,15,16,17,18,19,20,21,22,23,24,25,26,27,28,29,30,31,32,33,34,35,36,37,38,39,40,41,42,43,44,45,46,47,48,49,50,51,52,53,54,55,56,57,58,59,60,61,62] F t h0 = some (.exit 2,[.slice a 0 c,.int .i64 0,clo50,Z,Z,Z,.int .i64 20,Z,Z,Z,Z,Z,Z,Z,Z,Z,Z,Z,Z,Z,Z,Z,Z,Z,Z,Z,Z,Z,x28,x29,x30,Z,Z,Z,Z,Z,Z,Z,Z,Z,Z,Z,Z,Z,Z,Z,Z,Z,Z,Z,Z,Z,Z,Z,Z,Z,Z,Z,Z,Z,Z,Z,Z],h') ∧ h' = h0 := by
  subst hFF
  suffices hs : ∃ e t' h',loopω [3,4,5,7,8,9,10,11,12,13,14,15,16,17,18,19,20,21,22,23,24,25,26,27,28,29,30,31,32,33,34,35,36,37,38,39,40,41,42,43,44,45,46,47,48,49,50,51,52,53,54,55,56,57,58,59,60,61,62] (aexecP Try.prog (sO 80) (run Try.prog sO) loopω pt80 (lt80 1)) t h0 = some (e,t',h') ∧ (e = .exit 2 ∧ ∃ x28 x29 x30,t' = [.slice a 0 c,.int .i64 0,clo50,Z,Z,Z,.int .i64 20,Z,Z,Z,Z,Z,Z,Z,Z,Z,Z,Z,Z,Z,Z,Z,Z,Z,Z,Z,Z,Z,x28,x29,x30,Z,Z,Z,Z,Z,Z,Z,Z,Z,Z,Z,Z,Z,Z,Z,Z,Z,Z,Z,Z,Z,Z,Z,Z,Z,Z,Z,Z,Z,Z,Z,Z] ∧ h' = h0) by
    obtain ⟨e,t',h',q1,rfl,x28,x29,x30,rfl,q2⟩ := hs
    exact ⟨h',x28,x29,x30,q1,q2⟩
  simp only [lt80,Try.f80,loopsOf,Option.getD_some,List.nil_append,List.append_nil,List.cons_append,List.getD_cons_zero,List.getD_cons_succ]
  refine loop_by (fun k t h' => ∃ (i : Nat),i + k = 0 ∧ forget [3,4,5,7,8,9,10,11,12,13,14,15,16,17,18,19,20,21,22,23,24,25,26,27,28,29,30,31,32,33,34,35,36,37,38,39,40,41,42,43,44,45,46,47,48,49,50,51,52,53,54,55,56,57,58,59,60,61,62] t = [.slice a 0 c,.int .i64 0,clo50,Z,Z,Z,.int .i64 20,Z,Z,Z,Z,Z,Z,Z,Z,Z,Z,Z,Z,Z,Z,Z,Z,Z,Z,Z,Z,Z,Z,Z,Z,Z,Z,Z,Z,Z,Z,Z,Z,Z,Z,Z,Z,Z,Z,Z,Z,Z,Z,Z,Z,Z,Z,Z,Z,Z,Z,Z,Z,Z,Z,Z,Z] ∧ h' = h0)
    (fun e t' h' => e = .exit 2 ∧ ∃ x28 x29 x30,t' = [.slice a 0 c,.int .i64 0,clo50,Z,Z,Z,.int .i64 20,Z,Z,Z,Z,Z,Z,Z,Z,Z,Z,Z,Z,Z,Z,Z,Z,Z,Z,Z,Z,Z,x28,x29,x30,Z,Z,Z,Z,Z,Z,Z,Z,Z,Z,Z,Z,Z,Z,Z,Z,Z,Z,Z,Z,Z,Z,Z,Z,Z,Z,Z,Z,Z,Z,Z,Z] ∧ h' = h0) ?_ (0) _ _ ⟨0,by omega,ht,hI0⟩
  rintro k t h' ⟨i,hi,ht,hI⟩
  rw [ht]
  rcases Nat.lt_or_ge i (0) with h1 | h1
  · exact absurd h1 (by omega)
  · obtain rfl : i = 0 := by omega
    simp (maxSteps := 2000000) -implicitDefEqProofs [ble_d,beq_d,List.range_succ,List.replicate,cond_true,cond_false,undef]
    exact hI

/-- Nothing, sorted. -/
theorem sort0 (h : Heap) (a : Option Addr) (c : Nat) : run Try.prog sO 49 [.slice a 0 c,clo50] h = some (.tuple #[],h) := by
  have e96 : run Try.prog sO 96 [.slice a 0 c,.int .i64 0,.int .i64 0,clo50] h = some (.tuple #[],h) := by
    suffices hx : ∃ y,fin Try.prog Try.f96 (aexecP Try.prog (sO 96) (run Try.prog sO) loopω pt96 (Try.f96.body.getD .skip) ([.slice a 0 c,.int .i64 0,.int .i64 0,clo50] ++ List.replicate (Try.f96.ntmps - 4) undef) h) = some y ∧ y = (.tuple #[],h) by
      obtain ⟨y,hy,rfl⟩ := hx
      exact run_finP pt96 Try.func96 rfl planned96 hy
    have w1 : IntKind.i64.wrap 1 = 1 := rfl
    simp (maxSteps := 2000000) -implicitDefEqProofs [Try.f96,ble_d,beq_d,List.range_succ,List.replicate,cond_true,cond_false,w1,sO96_1]
    generalize hl : loopω _ _ _ _ = r
    obtain ⟨h3,x12,x13,x14,hx,hh⟩ := useX3 hl (ins0 (h0 := h) (a := a) (c := c) _ (by kernel_rfl) _ (by kernel_rfl) rfl)
    subst hx
    subst hh
    simp (maxSteps := 2000000) -implicitDefEqProofs [ble_d,beq_d,List.range_succ,List.replicate,cond_true,cond_false]
  have e80 : run Try.prog sO 80 [.slice a 0 c,.int .i64 0,clo50] h = some (.tuple #[],h) := by
    suffices hx : ∃ y,fin Try.prog Try.f80 (aexecP Try.prog (sO 80) (run Try.prog sO) loopω pt80 (Try.f80.body.getD .skip) ([.slice a 0 c,.int .i64 0,clo50] ++ List.replicate (Try.f80.ntmps - 3) undef) h) = some y ∧ y = (.tuple #[],h) by
      obtain ⟨y,hy,rfl⟩ := hx
      exact run_finP pt80 Try.func80 rfl planned80 hy
    simp (maxSteps := 2000000) -implicitDefEqProofs [Try.f80,ble_d,beq_d,List.range_succ,List.replicate,cond_true,cond_false,sO80_2]
    generalize hl : loopω _ _ _ _ = r
    obtain ⟨h3,x11,x12,x13,hx,hh⟩ := useX3 hl (stb0 (h0 := h) (a := a) (c := c) _ (by kernel_rfl) _ (by kernel_rfl) rfl)
    subst hx
    subst hh
    clear hl
    simp (maxSteps := 2000000) -implicitDefEqProofs [ble_d,beq_d,List.range_succ,List.replicate,cond_true,cond_false,en96,e96,sO80_7]
    generalize hl : loopω _ _ _ _ = r
    obtain ⟨h4,x28,x29,x30,hx,hh⟩ := useX3 hl (stb1 (h0 := h3) (a := a) (c := c) _ (by kernel_rfl) _ (by kernel_rfl) rfl)
    subst hx
    subst hh
    simp (maxSteps := 2000000) -implicitDefEqProofs [ble_d,beq_d,List.range_succ,List.replicate,cond_true,cond_false]
  refine run_finP (fun _ => ([],[])) Try.func49 rfl (by kernel_rfl) ?_
  simp (maxSteps := 2000000) -implicitDefEqProofs [Try.f49,ble_d,beq_d,List.range_succ,List.replicate,cond_true,cond_false,Try.underlying56,en80,e80]
/-- Lines in a row of one's own, sorted. -/
theorem sort_any {h : Heap} {v : Value} {ls : List Ln} (lg : Lg h v 67 3 ls.length (lns ls)) (hN : ls.length ≤ 2 ^ 47) (hd : Dom NL ls) (hp : ls.Pairwise fun x y => x.1 < y.1) :
    ∃ h',run Try.prog sO 49 [v,clo50] h = some (.tuple #[],h') ∧ Lg h' v 67 3 ls.length (lns (tabTo ls ls.length)) ∧ Keep (fun m => nm v = some m) h h' := by
  obtain ⟨hl,⟨h0,hv⟩ | ⟨m,h0,rfl,hg⟩⟩ := lg
  · have e : ∃ a c,v = .slice a 0 c := by
      rcases hv with rfl | ⟨m,off,rfl⟩ <;> exact ⟨_,_,rfl⟩
    have hls : ls = [] := List.length_eq_zero_iff.1 h0
    subst hls
    refine ⟨h,?_,⟨rfl,.inl ⟨rfl,hv⟩⟩,Keep.refl _ _⟩
    obtain ⟨a,c,rfl⟩ := e; exact sort0 h a c
  · have hD : DH h m h ls := ⟨Keep.refl _ _,hg⟩
    have hA : Asc tagL 0 ls.length ls := fun k l _ h2 h3 => by
      rw [g_eq ls (by omega),g_eq ls h3]
      exact List.pairwise_iff_getElem.1 hp k l (by omega) h3 h2
    obtain ⟨h',d',e,hD',hI,hS⟩ := sort_run loL_LO (cmpLn h m) (fun a c b h1 h2 => sym_all loL_LO (cmpLn h m) (b - a) a c b h1 h2 (Nat.le_refl _)) hD hd hN hA
    have hlen := hI.len
    rw [← hlen] at hS
    have hu := tab_uniq hp hI.perm hS
    have hnm : nm (VL m ls.length) = some m := nm_pos h0
    refine ⟨h',e,⟨by rw [lns_len,tab_len _ _ (Nat.le_refl _)],.inr ⟨m,h0,rfl,?_⟩⟩,hD'.1.mono fun x _ e => by rw [hnm,e]⟩
    rw [← hu]; exact hD'.2
theorem GN.nil (h : Heap) (l : List Oc) (n : Nat) : GN h l n [] [] := ⟨rfl,fun j hj => by simp at hj⟩
set_option maxRecDepth 20000 in
set_option maxHeartbeats 3200000 in
theorem table_run {h : Heap} {v w : Value} {ws : List Nat} {l : List Oc} (hv : Outs h v l) (hk : l.length * 96 ≤ 2 ^ 47) (hsm : Small l) (hws : Sl h w 1 ws.length (fl ws)) (hw : W64 ws) (kw : ws.length ≤ 2 ^ 47) :
    ∃ v' h',run Try.prog sO 24 [v,w] h = some (.tuple #[v',.int .i64 (if l.all okPk = true then 0 else 2)],h') ∧ Keep No h h' ∧ (l.all okPk = true → Lg h' v' 67 3 (lnsO ws l).length (lns (tabTo (lnsO ws l) (lnsO ws l).length)) ∧ (∀ m,nm v' = some m → h.next ≤ m)) ∧ (l.all okPk = false → v' = .slice none 0 0) := by
  obtain ⟨va,vc,rfl⟩ : ∃ a c,v = .slice a l.length c := by obtain ⟨_,_,hs,_⟩ := hv; exact sl_form hs
  obtain ⟨wa,wc,rfl⟩ := sl_form hws
  have hsp := ok_split l
  generalize l.all okPk = bk at hsp ⊢
  suffices hz : ∃ r,fin Try.prog Try.f24 (aexecP Try.prog (sO 24) (run Try.prog sO) loopω pt24 (Try.f24.body.getD .skip) ([.slice va l.length vc,.slice wa ws.length wc] ++ List.replicate (Try.f24.ntmps - 2) undef) h) = some r ∧ ∃ v',r.1 = .tuple #[v',.int .i64 (if bk = true then 0 else 2)] ∧ Keep No h r.2 ∧ (bk = true → Lg r.2 v' 67 3 (lnsO ws l).length (lns (tabTo (lnsO ws l) (lnsO ws l).length)) ∧ (∀ m,nm v' = some m → h.next ≤ m)) ∧ (bk = false → v' = .slice none 0 0) by
    obtain ⟨⟨y1,y2⟩,hy,v',rfl,q⟩ := hz
    exact ⟨v',y2,run_finP pt24 Try.func24 rfl planned24 hy,q⟩
  have hhead : ∀ f ∈ unlL l l.length,∃ t,grp l f l.length = f :: t := fun f hf => grp_head (unl_new l l.length f hf) _ (unlL_lt l l.length f hf)
  have hful := unlL_lt l l.length
  have hulen := unlL_len l l.length
  have hpw := lnsO_pw ws l
  obtain ⟨n,hn⟩ : ∃ n,l.length = n := ⟨_,rfl⟩
  rw [hn] at hhead hful hulen hv hk ⊢
  simp (maxSteps := 2000000) -implicitDefEqProofs [Try.f24,ble_d,beq_d,List.range_succ,List.replicate,cond_true,cond_false,sO24_3]
  generalize hl : loopω _ _ _ _ = r
  rcases hsp with ⟨rfl,hall⟩ | ⟨rfl,p,hp,hbad,hall⟩
  · obtain ⟨h3,v3,x20,hx,lg,kp,nw⟩ := useX2 hl (tblE (h0 := h) hn (by omega) hw kw hsm hv hws (fun i hi => hall i (by omega)) _ _ (by kernel_rfl) _ (by kernel_rfl) ⟨Lg.nil _ _ _,Keep.refl _ _,fun m e => by cases e⟩)
    subst hx
    clear hl
    have htk : l.take n = l := List.take_of_length_le (by omega)
    rw [htk] at lg
    obtain ⟨v4,h4,e4,lg4,k4,nw4⟩ := unlike_run (l := l) (hv.keep kp) (by omega) hsm
    rw [hn] at lg4
    obtain ⟨v5,h5,gs,e5,lg5,gn5,k5,nw5⟩ := group_run (l := l) (fs := unlL l n) ((hv.keep kp).keep k4) lg4.sl (by omega) (by omega) hsm (fun f hf => by have := hful f hf; omega)
    rw [hn] at gn5
    obtain ⟨ca,cc,rfl⟩ := sl_form lg.sl
    obtain ⟨fa,fc,rfl⟩ := sl_form lg4.sl
    obtain ⟨Ga,Gc,rfl⟩ := sl_form lg5.sl
    have k45 := k4.trans k5
    simp (maxSteps := 2000000) -implicitDefEqProofs [ble_d,beq_d,List.range_succ,List.replicate,cond_true,cond_false,en46,en47,e4,e5,sO24_12]
    generalize hl : loopω _ _ _ _ = r
    obtain ⟨h6,v6,x44,hx,lg6,k6,nw6⟩ := useX2 hl (tbl2 (h0 := h5) (ws := ws) (l := l) (cn := n) (fs := unlL l n) (N := (unlL l n).length) hn rfl (by omega) (by omega) hw hall hhead (lg.sl.keep k45 fun _ _ x => x) lg5.sl gn5 _ _ (by kernel_rfl) _ (by kernel_rfl) ⟨Lg.nil _ _ _,Keep.refl _ _,fun m e => by cases e⟩)
    subst hx
    clear hl
    have hlines : lnT ws l n (unlL l n) (unlL l n).length = lnsO ws l := by unfold lnT lnsO; rw [List.take_length,hn]
    have hll : (lnsO ws l).length = (unlL l n).length := by unfold lnsO; rw [List.length_map,hn]
    rw [hlines] at lg6
    rw [← hll] at lg6
    have hdom : Dom NL (lnsO ws l) := fun x hx => by
      obtain ⟨f,hf,rfl⟩ := List.mem_map.1 hx
      exact (totP_pos (PosL_grpC hw hall f) _).lt
    obtain ⟨h7,e7,s7,k7⟩ := sort_any lg6 (by omega) hdom hpw
    have kAll : Keep No h h6 := (kp.trans k45).trans k6
    have hb : h.next ≤ h5.next := by have := kp.1; have := k45.1; omega
    simp (maxSteps := 2000000) -implicitDefEqProofs [ble_d,beq_d,List.range_succ,List.replicate,cond_true,cond_false,en49,e7]
    exact ⟨_,_,⟨rfl,rfl⟩,_,rfl,kAll.also k7 fun m hm x => by have := nw6 m x; omega,s7,fun m e => by have := nw6 m e; omega⟩
  · obtain ⟨h3,v3,x8,x9,x10,x20,x21,x22,x23,x24,x25,x26,x27,x28,x29,x30,x31,x32,hx,kp⟩ := useX17T hl (tblN (h0 := h) hn (by omega) hw kw hsm hv hws p (by omega) hbad hall _ _ (by kernel_rfl) _ (by kernel_rfl) ⟨Lg.nil _ _ _,Keep.refl _ _,fun m e => by cases e⟩)
    subst hx
    simp (maxSteps := 2000000) -implicitDefEqProofs [ble_d,beq_d,List.range_succ,List.replicate,cond_true,cond_false]
    exact ⟨_,_,⟨rfl,rfl⟩,rfl,kp⟩
end Go.Proofs.Ytmnkmdfladbgdaa.Od
