/- Odds: the law OddsTables. -/
import Derived.Test.YtmnkmdfladbgdaaOt20
set_option linter.unusedVariables false
set_option linter.unusedSimpArgs false
namespace Go.Proofs.Ytmnkmdfladbgdaa.Od
open Go Go.Proofs Go.RowKit Go.Proofs.YtmnkmdfladbgdaaAI Go.Proofs.YtmnkmdfladbgdaaFl Go.Proofs.YtmnkmdfladbgdaaSrt
noncomputable def lt27 (i : Nat) : Code := (loopsOf (Try.f27.body.getD .skip)).getD i .skip

theorem lns_get {d : List Ln} {i : Nat} (hi : i < d.length) : (lns d)[i * 3]? = some (.int .i64 (d.getD i (0,0,0)).1) ∧ (lns d)[i * 3 + 1]? = some (.int .i64 (d.getD i (0,0,0)).2.1) ∧ (lns d)[i * 3 + 2]? = some (.float .f64 (d.getD i (0,0,0)).2.2) := by
  have h0 : d.getD i (0,0,0) = d[i] := by rw [List.getD_eq_getElem?_getD,List.getElem?_eq_getElem hi]; rfl
  have h1 : lns (d[i] :: d.drop (i + 1)) = [.int .i64 d[i].1,.int .i64 d[i].2.1,.float .f64 d[i].2.2] ++ lns (d.drop (i + 1)) := by simp only [lns,List.flatMap_cons]
  have h2 := lns_drop d i
  rw [List.drop_eq_getElem_cons hi,h1] at h2
  rw [h0]
  refine ⟨?_,?_,?_⟩
  · have := congrArg (fun z : List Value => z[0]?) h2
    simp only [List.getElem?_drop,Nat.add_zero] at this
    exact this
  · have := congrArg (fun z : List Value => z[1]?) h2
    simp only [List.getElem?_drop] at this
    exact this
  · have := congrArg (fun z : List Value => z[2]?) h2
    simp only [List.getElem?_drop] at this
    exact this
theorem sl_lns {h : Heap} {v : Value} {k : Nat} {d : List Ln} (hs : Sl h v 3 k (lns d)) {i : Nat} (hi : i < k) :
    ∃ a n C ce cs gr ro,v = .slice (some a) k n ∧ h.get a.block = some (.cells C ce cs gr ro) ∧ C[a.off + i * 3]? = some (.int .i64 (d.getD i (0,0,0)).1) ∧ C[a.off + i * 3 + 1]? = some (.int .i64 (d.getD i (0,0,0)).2.1) ∧ C[a.off + i * 3 + 2]? = some (.float .f64 (d.getD i (0,0,0)).2.2) := by
  have hs0 := hs
  obtain ⟨hl,⟨rfl,rfl⟩ | ⟨a,n,rfl,_⟩⟩ := hs0
  · omega
  · obtain ⟨c,e,s,gr,ro,hg,_,_,hget⟩ := hs.fit (by omega) (by omega)
    have hd : i < d.length := by rw [lns_len] at hl; omega
    obtain ⟨g1,g2,g3⟩ := lns_get hd
    refine ⟨a,n,c,e,s,gr,ro,rfl,hg,?_,?_,?_⟩
    · rw [hget (i * 3) (by omega)]; exact g1
    · rw [Nat.add_assoc,hget (i * 3 + 1) (by omega)]; exact g2
    · rw [Nat.add_assoc,hget (i * 3 + 2) (by omega)]; exact g3
set_option maxRecDepth 20000 in
set_option maxHeartbeats 6400000 in
theorem smE {h0 : Heap} {va wa : Option Addr} {vc wc n : Nat} {d : List Ln} (hn : d.length = n) (hk : n ≤ 2 ^ 47) (hd : ∀ x ∈ d,x.2.2 < 18446744073709551616) (hv : Sl h0 (.slice va n vc) 3 n (lns d)) (hw : Sl h0 (.slice wa n wc) 3 n (rns d)) (F : Step) (hFF : F = aexecP Try.prog (sO 27) (run Try.prog sO) loopω pt27 (lt27 0)) (t : Tm)
    (ht : forget [2,3,4,5,6,7,8,9,10,11,14,15,16,17,18,19,20,21,22,23,24,25,26,27,28,29,30,31,32,33,34,35,36,37,38,39,40,41,42,43,44,45,46,47,48,49,50,51,52,53,54] t = [.slice va n vc,.slice wa n wc,unk,unk,unk,unk,unk,unk,unk,unk,unk,unk,.int .i64 n,.int .i64 (0 : Nat),unk,unk,unk,unk,unk,unk,unk,unk,unk,unk,unk,unk,unk,unk,unk,unk,unk,unk,unk,unk,unk,unk,unk,unk,unk,unk,unk,unk,unk,unk,unk,unk,unk,unk,unk,unk,unk,unk,unk,unk,unk]) (hI0 : h0 = h0) :
    ∃ h' x14,loopω [2,3,4,5,6,7,8,9,10,11,14,15,16,17,18,19,20,21,22,23,24,25,26,27,28,29,30,31,32,33,34,35,36,37,38,39,40,41,42,43,44,45,46,47,48,49,50,51,52,53,54] F t h0 = some (.exit 0,[.slice va n vc,.slice wa n wc,unk,unk,unk,unk,unk,unk,unk,unk,unk,unk,.int .i64 n,.int .i64 (n : Nat),x14,unk,unk,unk,unk,unk,unk,unk,unk,unk,unk,unk,unk,unk,unk,unk,unk,unk,unk,unk,unk,unk,unk,unk,unk,unk,unk,unk,unk,unk,unk,unk,unk,unk,unk,unk,unk,unk,unk,unk,unk],h') ∧ h' = h0 := by
  subst hFF
  suffices hs : ∃ e t' h',loopω [2,3,4,5,6,7,8,9,10,11,14,15,16,17,18,19,20,21,22,23,24,25,26,27,28,29,30,31,32,33,34,35,36,37,38,39,40,41,42,43,44,45,46,47,48,49,50,51,52,53,54] (aexecP Try.prog (sO 27) (run Try.prog sO) loopω pt27 (lt27 0)) t h0 = some (e,t',h') ∧ (e = .exit 0 ∧ ∃ x14,t' = [.slice va n vc,.slice wa n wc,unk,unk,unk,unk,unk,unk,unk,unk,unk,unk,.int .i64 n,.int .i64 (n : Nat),x14,unk,unk,unk,unk,unk,unk,unk,unk,unk,unk,unk,unk,unk,unk,unk,unk,unk,unk,unk,unk,unk,unk,unk,unk,unk,unk,unk,unk,unk,unk,unk,unk,unk,unk,unk,unk,unk,unk,unk,unk] ∧ h' = h0) by
    obtain ⟨e,t',h',q1,rfl,x14,rfl,q2⟩ := hs
    exact ⟨h',x14,q1,q2⟩
  simp only [lt27,Try.f27,loopsOf,Option.getD_some,List.nil_append,List.append_nil,List.cons_append,List.getD_cons_zero,List.getD_cons_succ]
  refine loop_by (fun k t h' => ∃ (i : Nat),i + k = n ∧ forget [2,3,4,5,6,7,8,9,10,11,14,15,16,17,18,19,20,21,22,23,24,25,26,27,28,29,30,31,32,33,34,35,36,37,38,39,40,41,42,43,44,45,46,47,48,49,50,51,52,53,54] t = [.slice va n vc,.slice wa n wc,unk,unk,unk,unk,unk,unk,unk,unk,unk,unk,.int .i64 n,.int .i64 (i : Nat),unk,unk,unk,unk,unk,unk,unk,unk,unk,unk,unk,unk,unk,unk,unk,unk,unk,unk,unk,unk,unk,unk,unk,unk,unk,unk,unk,unk,unk,unk,unk,unk,unk,unk,unk,unk,unk,unk,unk,unk,unk] ∧ h' = h0)
    (fun e t' h' => e = .exit 0 ∧ ∃ x14,t' = [.slice va n vc,.slice wa n wc,unk,unk,unk,unk,unk,unk,unk,unk,unk,unk,.int .i64 n,.int .i64 (n : Nat),x14,unk,unk,unk,unk,unk,unk,unk,unk,unk,unk,unk,unk,unk,unk,unk,unk,unk,unk,unk,unk,unk,unk,unk,unk,unk,unk,unk,unk,unk,unk,unk,unk,unk,unk,unk,unk,unk,unk,unk,unk] ∧ h' = h0) ?_ (n) _ _ ⟨0,by omega,ht,hI0⟩
  rintro k t h' ⟨i,hi,ht,hI⟩
  rw [ht]
  rcases Nat.lt_or_ge i (n) with h1 | h1
  · have hinc := @inc64 i (by omega)
    have hcs := cast_succ i
    subst hI
    obtain ⟨va,vc,C,ce,cs,gr,ro,eb,hg,c1,c2,c3⟩ := sl_lns hv h1
    simp only [Value.slice.injEq,true_and] at eb
    obtain ⟨rfl,rfl⟩ := eb
    obtain ⟨wa,wc,C2,ce2,cs2,gr2,ro2,eb,hg2,d1,d2,d3⟩ := sl_rns hw h1
    simp only [Value.slice.injEq,true_and] at eb
    obtain ⟨rfl,rfl⟩ := eb
    have hlt : (d.getD i (0,0,0)).2.2 < 18446744073709551616 := by
      rw [List.getD_eq_getElem?_getD,List.getElem?_eq_getElem (by omega)]; exact hd _ (List.getElem_mem _)
    generalize d.getD i (0,0,0) = q at *
    obtain ⟨q1,q2,q3⟩ := q
    simp only at c1 c2 c3 d1 d2 d3 hlt
    have hf := fun t x hx => fb18 t x q3 hx hlt
    simp (maxSteps := 2000000) -implicitDefEqProofs [ble_d,beq_d,List.range_succ,List.replicate,cond_true,cond_false,h1,hg,c1,c2,c3,hg2,d1,d2,d3,fa67_0,fa67_1,fa67_2,fa97_0,fa97_1,fa97_2,pt27_6,pl27_6,an27_6,aindexAddr,sz67,sz97,sz34,sz37,sz3,Try.underlying56,Try.underlying60,en18,hf,ibne,hinc,undef]
    exact ⟨k - 1,by omega,i + 1,by omega,by simp (maxSteps := 2000000) only [forget,List.set_cons_succ,List.set_cons_zero,hcs]⟩
  · obtain rfl : i = n := by omega
    simp (maxSteps := 2000000) -implicitDefEqProofs [ble_d,beq_d,List.range_succ,List.replicate,cond_true,cond_false,undef]
    exact hI

theorem same27_run {h : Heap} {v w : Value} {d : List Ln} (hk : d.length ≤ 2 ^ 47) (hd : ∀ x ∈ d,x.2.2 < 18446744073709551616) (hv : Sl h v 3 d.length (lns d)) (hw : Sl h w 3 d.length (rns d)) : run Try.prog sO 27 [v,w] h = some (.bool true,h) := by
  obtain ⟨va,vc,rfl⟩ := sl_form hv
  obtain ⟨wa,wc,rfl⟩ := sl_form hw
  suffices hz : ∃ r,fin Try.prog Try.f27 (aexecP Try.prog (sO 27) (run Try.prog sO) loopω pt27 (Try.f27.body.getD .skip) ([.slice va d.length vc,.slice wa d.length wc] ++ List.replicate (Try.f27.ntmps - 2) undef) h) = some r ∧ r = (.bool true,h) by
    obtain ⟨r,hy,rfl⟩ := hz
    exact run_finP pt27 Try.func27 rfl planned27 hy
  simp (maxSteps := 2000000) -implicitDefEqProofs [Try.f27,ble_d,beq_d,List.range_succ,List.replicate,cond_true,cond_false,ibne,sO27]
  generalize hl : loopω _ _ _ _ = r
  obtain ⟨h3,x14,hx,hh⟩ := useX1 hl (smE rfl hk hd hv hw _ (by kernel_rfl) _ (by kernel_rfl) rfl)
  subst hx
  subst hh
  simp (maxSteps := 2000000) -implicitDefEqProofs [ble_d,beq_d,List.range_succ,List.replicate,cond_true,cond_false]
theorem tab_lt {ws : List Nat} (hw : W64 ws) {l : List Oc} (hok : ∀ i,i < l.length → okPk (l.getD i oc0) = true) : ∀ x ∈ tabTo (lnsO ws l) (lnsO ws l).length,x.2.2 < 18446744073709551616 := fun x hx => by
  have h1 := (tabTo_perm (lnsO ws l) _ (Nat.le_refl _)).mem_iff.1 hx
  rw [List.take_length] at h1
  obtain ⟨f,hf,rfl⟩ := List.mem_map.1 h1
  exact (totP_pos (PosL_grpC hw hok f) _).lt
set_option maxRecDepth 20000 in
set_option maxHeartbeats 3200000 in
theorem tables_law {h : Heap} {v w : Value} {ws : List Nat} {l : List Oc} (hv : Outs h v l) (hk : l.length * 96 ≤ 2 ^ 47) (hsm : Small l) (hws : Sl h w 1 ws.length (us ws)) (hw : W64 ws) (kw : ws.length * 8 ≤ 2 ^ 47) : ∃ h',run Try.prog sO 7 [v,w] h = some (.bool true,h') := by
  obtain ⟨hw',w9⟩ := wakesO
  obtain ⟨v1,hA,e1,o1,k1⟩ := copied_run hv hk hsm
  obtain ⟨v2,hB,e2,l2,k2,n2⟩ := floats_run (hws.keep k1 fun _ _ x => x) hw kw
  obtain ⟨v3,hC,e3,k3,s3,z3⟩ := table_run (o1.keep k2) hk hsm l2.sl hw (by omega)
  have kC := (k1.trans k2).trans k3
  obtain ⟨v4,hD,e4,k4,s4,z4⟩ := rtable_run (hv.keep kC) hk hsm (hws.keep kC fun _ _ x => x) hw (by omega)
  have e5 : run Try.prog sO 27 [v3,v4] hD = some (.bool true,hD) := by
    rcases ok_split l with ⟨hg,hall⟩ | ⟨hg,_⟩
    · have hl1 : (tabTo (lnsO ws l) (lnsO ws l).length).length = (lnsO ws l).length := tab_len _ _ (Nat.le_refl _)
      have t3 := (s3 hg).1.keep k4 fun _ _ x => x
      have t4 := s4 hg
      rw [← hl1] at t3 t4
      have hln : (lnsO ws l).length ≤ l.length := by unfold lnsO; rw [List.length_map]; exact unlL_len l l.length
      exact same27_run (by rw [hl1]; omega) (tab_lt hw hall) (by rw [hl1] at t3 ⊢; exact t3) (by rw [hl1] at t4 ⊢; exact t4)
    · rw [z3 hg,z4 hg]
      exact same27_run (d := []) (by simp) (fun x hx => by cases hx) ⟨rfl,.inl ⟨rfl,rfl⟩⟩ ⟨rfl,.inl ⟨rfl,rfl⟩⟩
  obtain ⟨va,vc,rfl⟩ : ∃ a c,v = .slice a l.length c := by obtain ⟨_,_,hs,_⟩ := hv; exact sl_form hs
  obtain ⟨wa,wc,rfl⟩ := sl_form hws
  obtain ⟨xa,xc,rfl⟩ : ∃ a c,v1 = .slice a l.length c := by obtain ⟨_,_,hs,_⟩ := o1; exact sl_form hs
  obtain ⟨ya,yc,rfl⟩ := sl_form l2.sl
  generalize (if l.all okPk = true then (0 : Int) else 2) = E at *
  refine ⟨hD,run_finP pt7 Try.func7 rfl planned7 ?_⟩
  clear s3 z3 s4 z4
  simp (maxSteps := 2000000) -implicitDefEqProofs [Try.f7,ble_d,beq_d,List.range_succ,List.replicate,cond_true,cond_false,ibeq,w9,en9,en25,e1,en11,e2,en24,e3,en26,e4,en27,e5,undef]
theorem tables_calls (W : World) {a0 : Option Addr} {len0 cap0 : Nat} {l0 : List Oc} (w0 : OcsAt W a0 len0 cap0 l0) (y0 : len0 * 96 ≤ 140737488351232) {a1 : Option Addr} {len1 cap1 : Nat} {l1 : List Nat} (w1 : U64sAt W a1 len1 cap1 l1) (y1 : len1 * 8 ≤ 140737488351232) :
    Calls Try.prog 7 #[.slice a0 len0 cap0,.slice a1 len1 cap1] W fun e W' => e = .returned (.bool true) ∧ Below W.heap.size W W' := by
  obtain ⟨h,σ,v,hr,hro,_,_,hv,hs⟩ := arg_ocs (h := .empty) (σ := fun _ => ⟨0,0,0⟩) (Rep.none _ W (Nat.le_refl _) _) allRo_empty 87 9 71 w0
  obtain ⟨h',σ',v',hr',hro',hk,hσ,hv',hs',hu',_⟩ := arg_u64s hr hro 37 w1
  have := u64s_len w1
  have := w0.1
  obtain ⟨h2,e⟩ := tables_law (hs.keep hk) (by omega) w0.small hs' w1.1 (by omega)
  exact law_calls mix hro' e rfl hr' (.cons (hv.mono (fun n hn => Nat.lt_of_lt_of_le hn hk.1) (fun n hn => hσ n hn)) (.cons hv' .nil))
end Go.Proofs.Ytmnkmdfladbgdaa.Od
