/- Odds: the law OddsOwn. -/
import Derived.Test.YtmnkmdfladbgdaaOt20
import Derived.Test.YtmnkmdfladbgdaaOd14
import Derived.Test.YtmnkmdfladbgdaaOd21
set_option linter.unusedVariables false
set_option linter.unusedSimpArgs false
namespace Go.Proofs.Ytmnkmdfladbgdaa.Od
open Go Go.Proofs Go.RowKit Go.Proofs.YtmnkmdfladbgdaaAI Go.Proofs.YtmnkmdfladbgdaaFl Go.Proofs.YtmnkmdfladbgdaaSrt
noncomputable def lt27 (i : Nat) : Code := (loopsOf (Try.f27.body.getD .skip)).getD i .skip

theorem lns_get {d : List Ln} {i : Nat} (hi : i < d.length) : (lns d)[i * 3]? = some (.int .i64 (d.getD i (0,0,0)).1) ∧ (lns d)[i * 3 + 1]? = some (.int .i64 (d.getD i (0,0,0)).2.1) ∧ (lns d)[i * 3 + 2]? = some (.float .f64 (d.getD i (0,0,0)).2.2) := by
  have h0 : d.getD i (0,0,0) = d[i] := by rw [List.getD_eq_getElem?_getD,List.getElem?_eq_getElem hi]; rfl
  have h1 : lns (d[i] :: d.drop (i + 1)) = [.int .i64 d[i].1,.int .i64 d[i].2.1,.float .f64 d[i].2.2] ++ lns (d.drop (i + 1)) := by simp only [lns,List.flatMap_cons]
  have h2 := lns_drop d i
  rw [List.drop_eq_getElem_cons hi,h1] at h2
  rw [h0]
  refine ⟨?_,?_,?_⟩
  · have := congrArg (fun z : List Value => z[0]?) h2
    simp only [List.getElem?_drop,Nat.add_zero] at this
    exact this
  · have := congrArg (fun z : List Value => z[1]?) h2
    simp only [List.getElem?_drop] at this
    exact this
  · have := congrArg (fun z : List Value => z[2]?) h2
    simp only [List.getElem?_drop] at this
    exact this
theorem sl_lns {h : Heap} {v : Value} {k : Nat} {d : List Ln} (hs : Sl h v 3 k (lns d)) {i : Nat} (hi : i < k) :
    ∃ a n C ce cs gr ro,v = .slice (some a) k n ∧ h.get a.block = some (.cells C ce cs gr ro) ∧ C[a.off + i * 3]? = some (.int .i64 (d.getD i (0,0,0)).1) ∧ C[a.off + i * 3 + 1]? = some (.int .i64 (d.getD i (0,0,0)).2.1) ∧ C[a.off + i * 3 + 2]? = some (.float .f64 (d.getD i (0,0,0)).2.2) := by
  have hs0 := hs
  obtain ⟨hl,⟨rfl,rfl⟩ | ⟨a,n,rfl,_⟩⟩ := hs0
  · omega
  · obtain ⟨c,e,s,gr,ro,hg,_,_,hget⟩ := hs.fit (by omega) (by omega)
    have hd : i < d.length := by rw [lns_len] at hl; omega
    obtain ⟨g1,g2,g3⟩ := lns_get hd
    refine ⟨a,n,c,e,s,gr,ro,rfl,hg,?_,?_,?_⟩
    · rw [hget (i * 3) (by omega)]; exact g1
    · rw [Nat.add_assoc,hget (i * 3 + 1) (by omega)]; exact g2
    · rw [Nat.add_assoc,hget (i * 3 + 2) (by omega)]; exact g3
set_option maxRecDepth 20000 in
set_option maxHeartbeats 6400000 in
theorem smE {h0 : Heap} {va wa : Option Addr} {vc wc n : Nat} {d : List Ln} (hn : d.length = n) (hk : n ≤ 2 ^ 47) (hd : ∀ x ∈ d,x.2.2 < 18446744073709551616) (hv : Sl h0 (.slice va n vc) 3 n (lns d)) (hw : Sl h0 (.slice wa n wc) 3 n (rns d)) (F : Step) (hFF : F = aexecP Try.prog (sO 27) (run Try.prog sO) loopω pt27 (lt27 0)) (t : Tm)
    (ht : forget [2,3,4,5,6,7,8,9,10,11,14,15,16,17,18,19,20,21,22,23,24,25,26,27,28,29,30,31,32,33,34,35,36,37,38,39,40,41,42,43,44,45,46,47,48,49,50,51,52,53,54] t = [.slice va n vc,.slice wa n wc,Z,Z,Z,Z,Z,Z,Z,Z,Z,Z,.int .i64 n,.int .i64 (0 : Nat),Z,Z,Z,Z,Z,Z,Z,Z,Z,Z,Z,Z,Z,Z,Z,Z,Z,Z,Z,Z,Z,Z,Z,Z,Z,Z,Z,Z,Z,Z,Z,Z,Z,Z,Z,Z,Z,Z,Z,Z,Z]) (hI0 : h0 = h0) :
    ∃ h' x14,loopω [2,3,4,5,6,7,8,9,10,11,14,15,16,17,18,19,20,21,22,23,24,25,26,27,28,29,30,31,32,33,34,35,36,37,38,39,40,41,42,43,44,45,46,47,48,49,50,51,52,53,54] F t h0 = some (.exit 0,[.slice va n vc,.slice wa n wc,Z,Z,Z,Z,Z,Z,Z,Z,Z,Z,.int .i64 n,.int .i64 (n : Nat),x14,Z,Z,Z,Z,Z,Z,Z,Z,Z,Z,Z,Z,Z,Z,Z,Z,Z,Z,Z,Z,Z,Z,Z,Z,Z,Z,Z,Z,Z,Z,Z,Z,Z,Z,Z,Z,Z,Z,Z,Z],h') ∧ h' = h0 := by
  subst hFF
  suffices hs : ∃ e t' h',loopω [2,3,4,5,6,7,8,9,10,11,14,15,16,17,18,19,20,21,22,23,24,25,26,27,28,29,30,31,32,33,34,35,36,37,38,39,40,41,42,43,44,45,46,47,48,49,50,51,52,53,54] (aexecP Try.prog (sO 27) (run Try.prog sO) loopω pt27 (lt27 0)) t h0 = some (e,t',h') ∧ (e = .exit 0 ∧ ∃ x14,t' = [.slice va n vc,.slice wa n wc,Z,Z,Z,Z,Z,Z,Z,Z,Z,Z,.int .i64 n,.int .i64 (n : Nat),x14,Z,Z,Z,Z,Z,Z,Z,Z,Z,Z,Z,Z,Z,Z,Z,Z,Z,Z,Z,Z,Z,Z,Z,Z,Z,Z,Z,Z,Z,Z,Z,Z,Z,Z,Z,Z,Z,Z,Z,Z] ∧ h' = h0) by
    obtain ⟨e,t',h',q1,rfl,x14,rfl,q2⟩ := hs
    exact ⟨h',x14,q1,q2⟩
  simp only [lt27,Try.f27,loopsOf,Option.getD_some,List.nil_append,List.append_nil,List.cons_append,List.getD_cons_zero,List.getD_cons_succ]
  refine loop_by (fun k t h' => ∃ (i : Nat),i + k = n ∧ forget [2,3,4,5,6,7,8,9,10,11,14,15,16,17,18,19,20,21,22,23,24,25,26,27,28,29,30,31,32,33,34,35,36,37,38,39,40,41,42,43,44,45,46,47,48,49,50,51,52,53,54] t = [.slice va n vc,.slice wa n wc,Z,Z,Z,Z,Z,Z,Z,Z,Z,Z,.int .i64 n,.int .i64 (i : Nat),Z,Z,Z,Z,Z,Z,Z,Z,Z,Z,Z,Z,Z,Z,Z,Z,Z,Z,Z,Z,Z,Z,Z,Z,Z,Z,Z,Z,Z,Z,Z,Z,Z,Z,Z,Z,Z,Z,Z,Z,Z] ∧ h' = h0)
    (fun e t' h' => e = .exit 0 ∧ ∃ x14,t' = [.slice va n vc,.slice wa n wc,Z,Z,Z,Z,Z,Z,Z,Z,Z,Z,.int .i64 n,.int .i64 (n : Nat),x14,Z,Z,Z,Z,Z,Z,Z,Z,Z,Z,Z,Z,Z,Z,Z,Z,Z,Z,Z,Z,Z,Z,Z,Z,Z,Z,Z,Z,Z,Z,Z,Z,Z,Z,Z,Z,Z,Z,Z,Z] ∧ h' = h0) ?_ (n) _ _ ⟨0,by omega,ht,hI0⟩
  rintro k t h' ⟨i,hi,ht,hI⟩
  rw [ht]
  rcases Nat.lt_or_ge i (n) with h1 | h1
  · have hinc := @inc64 i (by omega)
    have hcs := cast_succ i
    subst hI
    obtain ⟨va,vc,C,ce,cs,gr,ro,eb,hg,c1,c2,c3⟩ := sl_lns hv h1
    simp only [Value.slice.injEq,true_and] at eb
    obtain ⟨rfl,rfl⟩ := eb
    obtain ⟨wa,wc,C2,ce2,cs2,gr2,ro2,eb,hg2,d1,d2,d3⟩ := sl_rns hw h1
    simp only [Value.slice.injEq,true_and] at eb
    obtain ⟨rfl,rfl⟩ := eb
    have hlt : (d.getD i (0,0,0)).2.2 < 18446744073709551616 := by
      rw [List.getD_eq_getElem?_getD,List.getElem?_eq_getElem (by omega)]; exact hd _ (List.getElem_mem _)
    generalize d.getD i (0,0,0) = q at *
    obtain ⟨q1,q2,q3⟩ := q
    simp only at c1 c2 c3 d1 d2 d3 hlt
    have hf := fun t x hx => fb18 t x q3 hx hlt
    simp (maxSteps := 2000000) -implicitDefEqProofs [ble_d,beq_d,List.range_succ,List.replicate,cond_true,cond_false,h1,hg,c1,c2,c3,hg2,d1,d2,d3,fa67_0,fa67_1,fa67_2,fa97_0,fa97_1,fa97_2,pt27_6,pl27_6,an27_6,aindexAddr,sz67,sz97,sz34,sz37,sz3,Try.underlying56,Try.underlying60,en18,hf,ibne,hinc,undef]
    exact ⟨k - 1,by omega,i + 1,by omega,by simp (maxSteps := 2000000) only [forget,List.set_cons_succ,List.set_cons_zero,hcs]⟩
  · obtain rfl : i = n := by omega
    simp (maxSteps := 2000000) -implicitDefEqProofs [ble_d,beq_d,List.range_succ,List.replicate,cond_true,cond_false,undef]
    exact hI

theorem same27_run {h : Heap} {v w : Value} {d : List Ln} (hk : d.length ≤ 2 ^ 47) (hd : ∀ x ∈ d,x.2.2 < 18446744073709551616) (hv : Sl h v 3 d.length (lns d)) (hw : Sl h w 3 d.length (rns d)) : run Try.prog sO 27 [v,w] h = some (.bool true,h) := by
  obtain ⟨va,vc,rfl⟩ := sl_form hv
  obtain ⟨wa,wc,rfl⟩ := sl_form hw
  suffices hz : ∃ r,fin Try.prog Try.f27 (aexecP Try.prog (sO 27) (run Try.prog sO) loopω pt27 (Try.f27.body.getD .skip) ([.slice va d.length vc,.slice wa d.length wc] ++ List.replicate (Try.f27.ntmps - 2) undef) h) = some r ∧ r = (.bool true,h) by
    obtain ⟨r,hy,rfl⟩ := hz
    exact run_finP pt27 Try.func27 rfl planned27 hy
  simp (maxSteps := 2000000) -implicitDefEqProofs [Try.f27,ble_d,beq_d,List.range_succ,List.replicate,cond_true,cond_false,ibne,sO27]
  generalize hl : loopω _ _ _ _ = r
  obtain ⟨h3,x14,hx,hh⟩ := useX1 hl (smE rfl hk hd hv hw _ (by kernel_rfl) _ (by kernel_rfl) rfl)
  subst hx
  subst hh
  simp (maxSteps := 2000000) -implicitDefEqProofs [ble_d,beq_d,List.range_succ,List.replicate,cond_true,cond_false]
theorem tab_lt {ws : List Nat} (hw : W64 ws) {l : List Oc} (hok : ∀ i,i < l.length → okPk (l.getD i oc0) = true) : ∀ x ∈ tabTo (lnsO ws l) (lnsO ws l).length,x.2.2 < 18446744073709551616 := fun x hx => by
  have h1 := (tabTo_perm (lnsO ws l) _ (Nat.le_refl _)).mem_iff.1 hx
  rw [List.take_length] at h1
  obtain ⟨f,hf,rfl⟩ := List.mem_map.1 h1
  exact (totP_pos (PosL_grpC hw hok f) _).lt
end Go.Proofs.Ytmnkmdfladbgdaa.Od

set_option linter.unusedVariables false
set_option linter.unusedSimpArgs false
namespace Go.Proofs.Ytmnkmdfladbgdaa.Od
open Go Go.Proofs Go.RowKit Go.Proofs.YtmnkmdfladbgdaaAI Go.Proofs.YtmnkmdfladbgdaaFl Go.Proofs.YtmnkmdfladbgdaaSrt
noncomputable def lt8 (i : Nat) : Code := (loopsOf (Try.f8.body.getD .skip)).getD i .skip

/-- A row of one's own that can be written and appended to. -/
def Ap (h : Heap) (v : Value) (e sz k : Nat) : Prop := (∃ cs,Lg h v e sz k cs) ∨ ∃ m cs,0 < k ∧ v = V m k ∧ h.get m = some (.cells cs e sz false false) ∧ cs.length = k * sz
theorem Ap.keep {S : Nat → Prop} {h h' : Heap} {v : Value} {e sz k : Nat} (ha : Ap h v e sz k) (hk : Keep S h h') (hn : ∀ m,nm v = some m → ¬ S m) : Ap h' v e sz k := by
  rcases ha with ⟨cs,l⟩ | ⟨m,cs,h0,rfl,hg,hl⟩
  · exact .inl ⟨cs,l.keep hk hn⟩
  · exact .inr ⟨m,cs,h0,rfl,hk.get hg (hn m (nm_pos h0)),hl⟩
theorem Ap.form {h : Heap} {v : Value} {e sz k : Nat} (ha : Ap h v e sz k) : ∃ a c,v = .slice a k c := by
  rcases ha with ⟨cs,l⟩ | ⟨m,cs,h0,rfl,hg,hl⟩
  · exact sl_form l.sl
  · exact ⟨_,_,rfl⟩
theorem Ap.wr {h : Heap} {v : Value} {e sz k i : Nat} (ha : Ap h v e sz k) (hi : i < k) :
    ∃ m sp c cs gr,v = .slice (some ⟨m,0,sp⟩) k c ∧ h.get m = some (.cells cs e sz gr false) ∧ cs.length = k * sz ∧ ∀ (new : List Value) (q : Heap),cs.length = (cs.take (i * sz) ++ new ++ cs.drop (i * sz + sz)).length → q = h.put m (some (.cells (cs.take (i * sz) ++ new ++ cs.drop (i * sz + sz)) e sz gr false)) → Ap q v e sz k ∧ Keep (fun x => nm v = some x) h q := by
  rcases ha with ⟨cs,hl,⟨h0,_⟩ | ⟨m,h0,rfl,hg⟩⟩ | ⟨m,cs,h0,rfl,hg,hl⟩
  · omega
  · refine ⟨m,_,_,cs,_,rfl,hg,hl,fun new q h1 h2 => ?_⟩
    subst h2
    exact ⟨.inl ⟨_,by rw [← h1,hl],.inr ⟨m,h0,rfl,by rw [Heap.get_put (Heap.get_lt hg),if_pos rfl]⟩⟩,Keep.put (S := fun x => nm (.slice (some ⟨m,0,some 0⟩) k sz) = some x) (Heap.get_lt hg) (nm_pos h0) _⟩
  · refine ⟨m,_,_,cs,_,rfl,hg,hl,fun new q h1 h2 => ?_⟩
    subst h2
    exact ⟨.inr ⟨m,_,h0,rfl,by rw [Heap.get_put (Heap.get_lt hg),if_pos rfl],by rw [← h1,hl]⟩,Keep.put (S := fun x => nm (V m k) = some x) (Heap.get_lt hg) (nm_pos h0) _⟩
theorem Ap.lt {h : Heap} {v : Value} {e sz k m : Nat} (ha : Ap h v e sz k) (hm : nm v = some m) : m < h.next := by
  rcases ha with ⟨cs,l⟩ | ⟨m',cs,h0,rfl,hg,hl⟩
  · exact l.sl.lt hm
  · have := (nm_eq hm).2
    simp only at this
    subst this
    exact Heap.get_lt hg
theorem app_ap {t xt e : TypeId} {d : TypeDesc} {sz bts : Nat} (ht : Try.prog.underlying t = some (.slice e)) (hxt : Try.prog.underlying xt = some d) (hd : appends d = true) (hE : elTyB Try.prog e sz bts = true)
    {h : Heap} {v : Value} {k : Nat} (ha : Ap h v e sz k) (ds : List Value) (hl : ds.length = sz) (h1 : ds.all one = true) (hb : (k + 1) * bts ≤ 2 ^ 47) (hb2 : k + 1 ≤ 2 ^ 47) :
    ∃ v' h',aappend Try.prog t xt v (.slice (some ⟨h.next,0,none⟩) 1 1) (h.new (.cells ds e sz false false)) = some (v',h') ∧ Ap h' v' e sz (k + 1) ∧ Keep (fun m => nm v = some m) h h' ∧ ∀ m,nm v' = some m → h.next ≤ m := by
  have k0 := Keep.new No h (.cells ds e sz false false)
  have hx : Sl (h.new (.cells ds e sz false false)) (.slice (some ⟨h.next,0,none⟩) 1 1) sz 1 ds :=
    ⟨by rw [hl,Nat.one_mul],.inr ⟨_,_,rfl,fun _ => ⟨_,_,_,_,_,by rw [Heap.get_new,if_pos rfl],by rw [List.drop_zero,List.take_of_length_le (by omega)]⟩⟩⟩
  rcases ha with ⟨cs,l⟩ | ⟨m,cs,h0,rfl,hg,hcl⟩
  · obtain ⟨v8,h8,e8,lg8,kp8,nv8,_,nf8⟩ := append_lg ht hxt hd hE (l.keep k0 (fun _ _ x => x)) hx hb hb2 h1
    obtain ⟨m',e',f'⟩ := nf8 (by omega)
    refine ⟨v8,h8,e8,.inl ⟨_,lg8⟩,(k0.mono fun m _ x => x.elim).also kp8 fun m _ x => x,fun m e => ?_⟩
    rw [e'] at e
    cases e
    have := k0.1
    omega
  · have hs : Sl h (V m k) sz k cs := ⟨hcl,.inr ⟨_,_,rfl,fun _ => ⟨_,_,_,_,_,hg,by rw [List.drop_zero,← hcl,List.take_length]⟩⟩⟩
    obtain ⟨v8,h8,e8,lg8,kp8,nv8⟩ := append_full ht hxt hd hE (hs.keep k0 fun _ _ x => x) hx hb hb2 (by omega)
    exact ⟨v8,h8,e8,.inl ⟨_,lg8⟩,(k0.trans kp8).mono fun m _ x => x.elim,fun m e => by have := nv8 m e; have := k0.1; omega⟩
/-- Both rows, appended to. -/
def AB (h0 h : Heap) (va vt p q : Value) (K N i : Nat) : Prop := Ap h p 34 1 (K + i) ∧ Ap h q 67 3 (N + i) ∧ Keep (fun x => nm va = some x ∨ nm vt = some x) h0 h ∧ (∀ m,nm p = some m → nm va = some m ∨ h0.next ≤ m) ∧ (∀ m,nm q = some m → nm vt = some m ∨ h0.next ≤ m) ∧ ∀ m,nm p = some m → nm q ≠ some m
theorem AB.step {h0 h : Heap} {va vt p q : Value} {K N i : Nat} (ha : AB h0 h va vt p q K N i) (hK : K + i + 1 ≤ 2 ^ 40) (hN : N + i + 1 ≤ 2 ^ 42) :
    ∃ p' h1 q' h2,aappend Try.prog 24 24 p (.slice (some ⟨h.next,0,none⟩) 1 1) (h.new (.cells [.float .f64 13841813454723219456] 34 1 false false)) = some (p',h1) ∧ aappend Try.prog 56 56 q (.slice (some ⟨h1.next,0,none⟩) 1 1) (h1.new (.cells [.int .i64 (-2),.int .i64 0,.float .f64 0] 67 3 false false)) = some (q',h2) ∧ AB h0 h2 va vt p' q' K N (i + 1) := by
  obtain ⟨ap,aq,kp,np,nq,dj⟩ := ha
  obtain ⟨p',h1,e1,a1,k1,f1⟩ := app_ap (t := 24) (xt := 24) Try.underlying24 Try.underlying24 rfl el34 ap [.float .f64 13841813454723219456] rfl rfl (by omega) (by omega)
  have aq1 := aq.keep k1 fun m e x => dj m x e
  obtain ⟨q',h2,e2,a2,k2,f2⟩ := app_ap (t := 56) (xt := 56) Try.underlying56 Try.underlying56 rfl el67 aq1 [.int .i64 (-2),.int .i64 0,.float .f64 0] rfl rfl (by omega) (by omega)
  have n0 := kp.1
  have n1 := k1.1
  refine ⟨p',h1,q',h2,e1,e2,a1.keep k2 (fun m e x => ?_),a2,(kp.also k1 fun m hm x => ?_).also k2 fun m hm x => ?_,fun m e => .inr ?_,fun m e => .inr ?_,fun m e x => ?_⟩
  · have := f1 m e
    have := aq.lt x
    omega
  · rcases np m x with y | y
    · exact .inl y
    · omega
  · rcases nq m x with y | y
    · exact .inr y
    · omega
  · have := f1 m e; omega
  · have := f2 m e; omega
  · have := f2 m x
    have := a1.lt e
    omega
theorem own_k {K i : Nat} (h : K ≤ 2 ^ 39) (h1 : i < 20) : K + i + 1 ≤ 2 ^ 40 := by omega
theorem own_n {N i : Nat} (h : N ≤ 2 ^ 41) (h1 : i < 20) : N + i + 1 ≤ 2 ^ 42 := by omega
theorem build67c (a : Int) : abuild Try.prog 67 [(0,.int .i64 a)] = some (.agg #[.int .i64 a,.int .i64 0,.float .f64 0]) := by kernel_rfl
theorem pm5 : plain (Value.float .f64 13840687554816376832) = true := by kernel_rfl
theorem bs24_6 (t : Tm) (d ty pos af gu) : aalloc Try.prog (aeval t) ⟨d,.buildSlice 24 1 #[(0,.const (.float .f64 13841813454723219456))],ty,pos,af,gu⟩ = some (.cells [.float .f64 13841813454723219456] 34 1 false false,fun n => .slice (some ⟨n,0,none⟩) 1 1) := by kernel_rfl
set_option maxRecDepth 20000 in
set_option maxHeartbeats 6400000 in
theorem ow1 {h0 : Heap} {wa : Option Addr} {wc mF n N : Nat} {ov va vb vt vu : Value} {ws : List Nat} (of : Int) (hn : ws.length = n) (hN : N = n + 1) (hw : W64 ws) (hk : n ≤ 2 ^ 47) (hv : Sl h0 (.slice wa n wc) 1 n (us ws)) (hg0 : h0.get mF = some (.cells (fl ws ++ [.float .f64 4619567317775286272]) 34 1 true false)) (F : Step) (hFF : F = aexecP Try.prog (sO 8) (run Try.prog sO) loopω pt8 (lt8 0)) (t : Tm)
    (ht : forget [3,4,5,6,8,10,12,14,16,17,18,19,20,21,22,23,24,25,26,27,28,29,30,31,32,33,34,35,36,37,38,39,40,41,42,43,44,45,46,47,48,49,50,51,52,53,54,55,56,57,58,59,60,61,62,63,64,65,66,67,68,69,70,71,72,73,74,75,76,77,78,79,80,83,84,85,86,87,88,89,90,91,92,93,94,95,96,97,98,99,100,101,102,103,104,105,106,107,108,109,110,111,112,113,114,115,116,117,118,119,120,121,122,123,124,125,126,127,128,129,130,131,132,133,134,135,136,137,138,139,140,141,142,143,144,145,146,147,148,149,150,151,152,153] t = [.slice wa n wc,ov,.int .i64 of,Z,Z,Z,Z,.slice (some ⟨mF,0,some 0⟩) N 1,Z,va,Z,vb,Z,vt,Z,vu,Z,Z,Z,Z,Z,Z,Z,Z,Z,Z,Z,Z,Z,Z,Z,Z,Z,Z,Z,Z,Z,Z,Z,Z,Z,Z,Z,Z,Z,Z,Z,Z,Z,Z,Z,Z,Z,Z,Z,Z,Z,Z,Z,Z,Z,Z,Z,Z,Z,Z,Z,Z,Z,Z,Z,Z,Z,Z,Z,Z,Z,Z,Z,Z,Z,.int .i64 n,.int .i64 (0 : Nat),Z,Z,Z,Z,Z,Z,Z,Z,Z,Z,Z,Z,Z,Z,Z,Z,Z,Z,Z,Z,Z,Z,Z,Z,Z,Z,Z,Z,Z,Z,Z,Z,Z,Z,Z,Z,Z,Z,Z,Z,Z,Z,Z,Z,Z,Z,Z,Z,Z,Z,Z,Z,Z,Z,Z,Z,Z,Z,Z,Z,Z,Z,Z,Z,Z,Z,Z,Z,Z,Z,Z]) (hI0 : h0 = h0) :
    ∃ h' x83,loopω [3,4,5,6,8,10,12,14,16,17,18,19,20,21,22,23,24,25,26,27,28,29,30,31,32,33,34,35,36,37,38,39,40,41,42,43,44,45,46,47,48,49,50,51,52,53,54,55,56,57,58,59,60,61,62,63,64,65,66,67,68,69,70,71,72,73,74,75,76,77,78,79,80,83,84,85,86,87,88,89,90,91,92,93,94,95,96,97,98,99,100,101,102,103,104,105,106,107,108,109,110,111,112,113,114,115,116,117,118,119,120,121,122,123,124,125,126,127,128,129,130,131,132,133,134,135,136,137,138,139,140,141,142,143,144,145,146,147,148,149,150,151,152,153] F t h0 = some (.exit 0,[.slice wa n wc,ov,.int .i64 of,Z,Z,Z,Z,.slice (some ⟨mF,0,some 0⟩) N 1,Z,va,Z,vb,Z,vt,Z,vu,Z,Z,Z,Z,Z,Z,Z,Z,Z,Z,Z,Z,Z,Z,Z,Z,Z,Z,Z,Z,Z,Z,Z,Z,Z,Z,Z,Z,Z,Z,Z,Z,Z,Z,Z,Z,Z,Z,Z,Z,Z,Z,Z,Z,Z,Z,Z,Z,Z,Z,Z,Z,Z,Z,Z,Z,Z,Z,Z,Z,Z,Z,Z,Z,Z,.int .i64 n,.int .i64 (n : Nat),x83,Z,Z,Z,Z,Z,Z,Z,Z,Z,Z,Z,Z,Z,Z,Z,Z,Z,Z,Z,Z,Z,Z,Z,Z,Z,Z,Z,Z,Z,Z,Z,Z,Z,Z,Z,Z,Z,Z,Z,Z,Z,Z,Z,Z,Z,Z,Z,Z,Z,Z,Z,Z,Z,Z,Z,Z,Z,Z,Z,Z,Z,Z,Z,Z,Z,Z,Z,Z,Z,Z],h') ∧ h' = h0 := by
  subst hFF
  suffices hs : ∃ e t' h',loopω [3,4,5,6,8,10,12,14,16,17,18,19,20,21,22,23,24,25,26,27,28,29,30,31,32,33,34,35,36,37,38,39,40,41,42,43,44,45,46,47,48,49,50,51,52,53,54,55,56,57,58,59,60,61,62,63,64,65,66,67,68,69,70,71,72,73,74,75,76,77,78,79,80,83,84,85,86,87,88,89,90,91,92,93,94,95,96,97,98,99,100,101,102,103,104,105,106,107,108,109,110,111,112,113,114,115,116,117,118,119,120,121,122,123,124,125,126,127,128,129,130,131,132,133,134,135,136,137,138,139,140,141,142,143,144,145,146,147,148,149,150,151,152,153] (aexecP Try.prog (sO 8) (run Try.prog sO) loopω pt8 (lt8 0)) t h0 = some (e,t',h') ∧ (e = .exit 0 ∧ ∃ x83,t' = [.slice wa n wc,ov,.int .i64 of,Z,Z,Z,Z,.slice (some ⟨mF,0,some 0⟩) N 1,Z,va,Z,vb,Z,vt,Z,vu,Z,Z,Z,Z,Z,Z,Z,Z,Z,Z,Z,Z,Z,Z,Z,Z,Z,Z,Z,Z,Z,Z,Z,Z,Z,Z,Z,Z,Z,Z,Z,Z,Z,Z,Z,Z,Z,Z,Z,Z,Z,Z,Z,Z,Z,Z,Z,Z,Z,Z,Z,Z,Z,Z,Z,Z,Z,Z,Z,Z,Z,Z,Z,Z,Z,.int .i64 n,.int .i64 (n : Nat),x83,Z,Z,Z,Z,Z,Z,Z,Z,Z,Z,Z,Z,Z,Z,Z,Z,Z,Z,Z,Z,Z,Z,Z,Z,Z,Z,Z,Z,Z,Z,Z,Z,Z,Z,Z,Z,Z,Z,Z,Z,Z,Z,Z,Z,Z,Z,Z,Z,Z,Z,Z,Z,Z,Z,Z,Z,Z,Z,Z,Z,Z,Z,Z,Z,Z,Z,Z,Z,Z,Z] ∧ h' = h0) by
    obtain ⟨e,t',h',q1,rfl,x83,rfl,q2⟩ := hs
    exact ⟨h',x83,q1,q2⟩
  simp only [lt8,Try.f8,loopsOf,Option.getD_some,List.nil_append,List.append_nil,List.cons_append,List.getD_cons_zero,List.getD_cons_succ]
  refine loop_by (fun k t h' => ∃ (i : Nat),i + k = n ∧ forget [3,4,5,6,8,10,12,14,16,17,18,19,20,21,22,23,24,25,26,27,28,29,30,31,32,33,34,35,36,37,38,39,40,41,42,43,44,45,46,47,48,49,50,51,52,53,54,55,56,57,58,59,60,61,62,63,64,65,66,67,68,69,70,71,72,73,74,75,76,77,78,79,80,83,84,85,86,87,88,89,90,91,92,93,94,95,96,97,98,99,100,101,102,103,104,105,106,107,108,109,110,111,112,113,114,115,116,117,118,119,120,121,122,123,124,125,126,127,128,129,130,131,132,133,134,135,136,137,138,139,140,141,142,143,144,145,146,147,148,149,150,151,152,153] t = [.slice wa n wc,ov,.int .i64 of,Z,Z,Z,Z,.slice (some ⟨mF,0,some 0⟩) N 1,Z,va,Z,vb,Z,vt,Z,vu,Z,Z,Z,Z,Z,Z,Z,Z,Z,Z,Z,Z,Z,Z,Z,Z,Z,Z,Z,Z,Z,Z,Z,Z,Z,Z,Z,Z,Z,Z,Z,Z,Z,Z,Z,Z,Z,Z,Z,Z,Z,Z,Z,Z,Z,Z,Z,Z,Z,Z,Z,Z,Z,Z,Z,Z,Z,Z,Z,Z,Z,Z,Z,Z,Z,.int .i64 n,.int .i64 (i : Nat),Z,Z,Z,Z,Z,Z,Z,Z,Z,Z,Z,Z,Z,Z,Z,Z,Z,Z,Z,Z,Z,Z,Z,Z,Z,Z,Z,Z,Z,Z,Z,Z,Z,Z,Z,Z,Z,Z,Z,Z,Z,Z,Z,Z,Z,Z,Z,Z,Z,Z,Z,Z,Z,Z,Z,Z,Z,Z,Z,Z,Z,Z,Z,Z,Z,Z,Z,Z,Z,Z,Z] ∧ h' = h0)
    (fun e t' h' => e = .exit 0 ∧ ∃ x83,t' = [.slice wa n wc,ov,.int .i64 of,Z,Z,Z,Z,.slice (some ⟨mF,0,some 0⟩) N 1,Z,va,Z,vb,Z,vt,Z,vu,Z,Z,Z,Z,Z,Z,Z,Z,Z,Z,Z,Z,Z,Z,Z,Z,Z,Z,Z,Z,Z,Z,Z,Z,Z,Z,Z,Z,Z,Z,Z,Z,Z,Z,Z,Z,Z,Z,Z,Z,Z,Z,Z,Z,Z,Z,Z,Z,Z,Z,Z,Z,Z,Z,Z,Z,Z,Z,Z,Z,Z,Z,Z,Z,Z,.int .i64 n,.int .i64 (n : Nat),x83,Z,Z,Z,Z,Z,Z,Z,Z,Z,Z,Z,Z,Z,Z,Z,Z,Z,Z,Z,Z,Z,Z,Z,Z,Z,Z,Z,Z,Z,Z,Z,Z,Z,Z,Z,Z,Z,Z,Z,Z,Z,Z,Z,Z,Z,Z,Z,Z,Z,Z,Z,Z,Z,Z,Z,Z,Z,Z,Z,Z,Z,Z,Z,Z,Z,Z,Z,Z,Z,Z] ∧ h' = h0) ?_ (n) _ _ ⟨0,by omega,ht,hI0⟩
  rintro k t h' ⟨i,hi,ht,hI⟩
  rw [ht]
  rcases Nat.lt_or_ge i (n) with h1 | h1
  · have hinc := @inc64 i (by omega)
    have hcs := cast_succ i
    subst hI
    obtain ⟨wa,wc,C,ce,cs,gr,ro,eb,hg,hci⟩ := sl_u64 hv h1
    simp only [Value.slice.injEq,true_and] at eb
    obtain ⟨rfl,rfl⟩ := eb
    have hf : (fl ws ++ [Value.float .f64 4619567317775286272])[i]? = some (.float .f64 (ws.getD i 0)) := by
      rw [List.getElem?_append_left (by simp [fl]; omega)]
      simp [fl,List.getElem?_eq_getElem (show i < ws.length by omega)]
    have hwi := hw.get i
    have h2 : i < N := by omega
    clear ht hN
    generalize ws.getD i 0 = w at *
    have hfb := fun t x hx => fb18 t x w hx hwi
    simp (maxSteps := 2000000) -implicitDefEqProofs [ble_d,beq_d,List.range_succ,List.replicate,cond_true,cond_false,ibne,h1,h2,pt8_14,pl8_14,an8_14,aindexAddr,sz34,sz37,Try.underlying24,Try.underlying22,hg,hg0,hci,hf,en18,hfb,undef,hinc]
    exact ⟨k - 1,by omega,i + 1,by omega,by simp (maxSteps := 2000000) only [forget,List.set_cons_succ,List.set_cons_zero,hcs]⟩
  · obtain rfl : i = n := by omega
    simp (maxSteps := 2000000) -implicitDefEqProofs [ble_d,beq_d,List.range_succ,List.replicate,cond_true,cond_false,undef]
    exact hI
set_option maxRecDepth 20000 in
set_option maxHeartbeats 6400000 in
theorem ow2 {h0 : Heap} {wa : Option Addr} {wc n K : Nat} {ov va vb vt vu : Value} (of : Int) (hk : K ≤ 2 ^ 47) (F : Step) (hFF : F = aexecP Try.prog (sO 8) (run Try.prog sO) loopω pt8 (lt8 1)) (t : Tm)
    (ht : forget [3,4,5,6,7,8,10,12,14,16,17,18,19,20,21,22,23,24,25,26,27,28,29,30,31,32,33,34,35,36,37,38,39,40,41,42,43,44,45,46,47,48,49,50,51,52,53,54,55,56,57,58,59,60,61,62,63,64,65,66,67,68,69,70,71,72,73,74,75,76,77,78,79,80,81,82,83,84,85,86,87,88,89,90,91,92,93,94,95,96,97,98,99,100,101,102,103,104,107,108,109,110,111,112,113,114,115,116,117,118,119,120,121,122,123,124,125,126,127,128,129,130,131,132,133,134,135,136,137,138,139,140,141,142,143,144,145,146,147,148,149,150,151,152,153] t = [.slice wa n wc,ov,.int .i64 of,Z,Z,Z,Z,Z,Z,va,Z,vb,Z,vt,Z,vu,Z,Z,Z,Z,Z,Z,Z,Z,Z,Z,Z,Z,Z,Z,Z,Z,Z,Z,Z,Z,Z,Z,Z,Z,Z,Z,Z,Z,Z,Z,Z,Z,Z,Z,Z,Z,Z,Z,Z,Z,Z,Z,Z,Z,Z,Z,Z,Z,Z,Z,Z,Z,Z,Z,Z,Z,Z,Z,Z,Z,Z,Z,Z,Z,Z,Z,Z,Z,Z,Z,Z,Z,Z,Z,Z,Z,Z,Z,Z,Z,Z,Z,Z,Z,Z,Z,Z,Z,Z,.int .i64 K,.int .i64 (0 : Nat),Z,Z,Z,Z,Z,Z,Z,Z,Z,Z,Z,Z,Z,Z,Z,Z,Z,Z,Z,Z,Z,Z,Z,Z,Z,Z,Z,Z,Z,Z,Z,Z,Z,Z,Z,Z,Z,Z,Z,Z,Z,Z,Z,Z,Z,Z,Z]) (hI0 : (Ap h0 va 34 1 K ∧ Keep (fun x => nm va = some x) h0 h0)) :
    ∃ h' x107,loopω [3,4,5,6,7,8,10,12,14,16,17,18,19,20,21,22,23,24,25,26,27,28,29,30,31,32,33,34,35,36,37,38,39,40,41,42,43,44,45,46,47,48,49,50,51,52,53,54,55,56,57,58,59,60,61,62,63,64,65,66,67,68,69,70,71,72,73,74,75,76,77,78,79,80,81,82,83,84,85,86,87,88,89,90,91,92,93,94,95,96,97,98,99,100,101,102,103,104,107,108,109,110,111,112,113,114,115,116,117,118,119,120,121,122,123,124,125,126,127,128,129,130,131,132,133,134,135,136,137,138,139,140,141,142,143,144,145,146,147,148,149,150,151,152,153] F t h0 = some (.exit 2,[.slice wa n wc,ov,.int .i64 of,Z,Z,Z,Z,Z,Z,va,Z,vb,Z,vt,Z,vu,Z,Z,Z,Z,Z,Z,Z,Z,Z,Z,Z,Z,Z,Z,Z,Z,Z,Z,Z,Z,Z,Z,Z,Z,Z,Z,Z,Z,Z,Z,Z,Z,Z,Z,Z,Z,Z,Z,Z,Z,Z,Z,Z,Z,Z,Z,Z,Z,Z,Z,Z,Z,Z,Z,Z,Z,Z,Z,Z,Z,Z,Z,Z,Z,Z,Z,Z,Z,Z,Z,Z,Z,Z,Z,Z,Z,Z,Z,Z,Z,Z,Z,Z,Z,Z,Z,Z,Z,Z,.int .i64 K,.int .i64 (K : Nat),x107,Z,Z,Z,Z,Z,Z,Z,Z,Z,Z,Z,Z,Z,Z,Z,Z,Z,Z,Z,Z,Z,Z,Z,Z,Z,Z,Z,Z,Z,Z,Z,Z,Z,Z,Z,Z,Z,Z,Z,Z,Z,Z,Z,Z,Z,Z],h') ∧ (Ap h' va 34 1 K ∧ Keep (fun x => nm va = some x) h0 h') := by
  subst hFF
  suffices hs : ∃ e t' h',loopω [3,4,5,6,7,8,10,12,14,16,17,18,19,20,21,22,23,24,25,26,27,28,29,30,31,32,33,34,35,36,37,38,39,40,41,42,43,44,45,46,47,48,49,50,51,52,53,54,55,56,57,58,59,60,61,62,63,64,65,66,67,68,69,70,71,72,73,74,75,76,77,78,79,80,81,82,83,84,85,86,87,88,89,90,91,92,93,94,95,96,97,98,99,100,101,102,103,104,107,108,109,110,111,112,113,114,115,116,117,118,119,120,121,122,123,124,125,126,127,128,129,130,131,132,133,134,135,136,137,138,139,140,141,142,143,144,145,146,147,148,149,150,151,152,153] (aexecP Try.prog (sO 8) (run Try.prog sO) loopω pt8 (lt8 1)) t h0 = some (e,t',h') ∧ (e = .exit 2 ∧ ∃ x107,t' = [.slice wa n wc,ov,.int .i64 of,Z,Z,Z,Z,Z,Z,va,Z,vb,Z,vt,Z,vu,Z,Z,Z,Z,Z,Z,Z,Z,Z,Z,Z,Z,Z,Z,Z,Z,Z,Z,Z,Z,Z,Z,Z,Z,Z,Z,Z,Z,Z,Z,Z,Z,Z,Z,Z,Z,Z,Z,Z,Z,Z,Z,Z,Z,Z,Z,Z,Z,Z,Z,Z,Z,Z,Z,Z,Z,Z,Z,Z,Z,Z,Z,Z,Z,Z,Z,Z,Z,Z,Z,Z,Z,Z,Z,Z,Z,Z,Z,Z,Z,Z,Z,Z,Z,Z,Z,Z,Z,Z,.int .i64 K,.int .i64 (K : Nat),x107,Z,Z,Z,Z,Z,Z,Z,Z,Z,Z,Z,Z,Z,Z,Z,Z,Z,Z,Z,Z,Z,Z,Z,Z,Z,Z,Z,Z,Z,Z,Z,Z,Z,Z,Z,Z,Z,Z,Z,Z,Z,Z,Z,Z,Z,Z] ∧ (Ap h' va 34 1 K ∧ Keep (fun x => nm va = some x) h0 h')) by
    obtain ⟨e,t',h',q1,rfl,x107,rfl,q2⟩ := hs
    exact ⟨h',x107,q1,q2⟩
  simp only [lt8,Try.f8,loopsOf,Option.getD_some,List.nil_append,List.append_nil,List.cons_append,List.getD_cons_zero,List.getD_cons_succ]
  refine loop_by (fun k t h' => ∃ (i : Nat),i + k = K ∧ forget [3,4,5,6,7,8,10,12,14,16,17,18,19,20,21,22,23,24,25,26,27,28,29,30,31,32,33,34,35,36,37,38,39,40,41,42,43,44,45,46,47,48,49,50,51,52,53,54,55,56,57,58,59,60,61,62,63,64,65,66,67,68,69,70,71,72,73,74,75,76,77,78,79,80,81,82,83,84,85,86,87,88,89,90,91,92,93,94,95,96,97,98,99,100,101,102,103,104,107,108,109,110,111,112,113,114,115,116,117,118,119,120,121,122,123,124,125,126,127,128,129,130,131,132,133,134,135,136,137,138,139,140,141,142,143,144,145,146,147,148,149,150,151,152,153] t = [.slice wa n wc,ov,.int .i64 of,Z,Z,Z,Z,Z,Z,va,Z,vb,Z,vt,Z,vu,Z,Z,Z,Z,Z,Z,Z,Z,Z,Z,Z,Z,Z,Z,Z,Z,Z,Z,Z,Z,Z,Z,Z,Z,Z,Z,Z,Z,Z,Z,Z,Z,Z,Z,Z,Z,Z,Z,Z,Z,Z,Z,Z,Z,Z,Z,Z,Z,Z,Z,Z,Z,Z,Z,Z,Z,Z,Z,Z,Z,Z,Z,Z,Z,Z,Z,Z,Z,Z,Z,Z,Z,Z,Z,Z,Z,Z,Z,Z,Z,Z,Z,Z,Z,Z,Z,Z,Z,Z,.int .i64 K,.int .i64 (i : Nat),Z,Z,Z,Z,Z,Z,Z,Z,Z,Z,Z,Z,Z,Z,Z,Z,Z,Z,Z,Z,Z,Z,Z,Z,Z,Z,Z,Z,Z,Z,Z,Z,Z,Z,Z,Z,Z,Z,Z,Z,Z,Z,Z,Z,Z,Z,Z] ∧ (Ap h' va 34 1 K ∧ Keep (fun x => nm va = some x) h0 h'))
    (fun e t' h' => e = .exit 2 ∧ ∃ x107,t' = [.slice wa n wc,ov,.int .i64 of,Z,Z,Z,Z,Z,Z,va,Z,vb,Z,vt,Z,vu,Z,Z,Z,Z,Z,Z,Z,Z,Z,Z,Z,Z,Z,Z,Z,Z,Z,Z,Z,Z,Z,Z,Z,Z,Z,Z,Z,Z,Z,Z,Z,Z,Z,Z,Z,Z,Z,Z,Z,Z,Z,Z,Z,Z,Z,Z,Z,Z,Z,Z,Z,Z,Z,Z,Z,Z,Z,Z,Z,Z,Z,Z,Z,Z,Z,Z,Z,Z,Z,Z,Z,Z,Z,Z,Z,Z,Z,Z,Z,Z,Z,Z,Z,Z,Z,Z,Z,Z,Z,.int .i64 K,.int .i64 (K : Nat),x107,Z,Z,Z,Z,Z,Z,Z,Z,Z,Z,Z,Z,Z,Z,Z,Z,Z,Z,Z,Z,Z,Z,Z,Z,Z,Z,Z,Z,Z,Z,Z,Z,Z,Z,Z,Z,Z,Z,Z,Z,Z,Z,Z,Z,Z,Z] ∧ (Ap h' va 34 1 K ∧ Keep (fun x => nm va = some x) h0 h')) ?_ (K) _ _ ⟨0,by omega,ht,hI0⟩
  rintro k t h' ⟨i,hi,ht,hI⟩
  rw [ht]
  rcases Nat.lt_or_ge i (K) with h1 | h1
  · have hinc := @inc64 i (by omega)
    have hcs := cast_succ i
    obtain ⟨ap,kp⟩ := hI
    obtain ⟨m,sp,c,cs,gr,rfl,hg,hl,hq⟩ := ap.wr h1
    obtain ⟨q,hq'⟩ : ∃ q,q = h'.put m (some (.cells (List.take (i * 1) cs ++ Value.float .f64 13840687554816376832 :: List.drop (i * 1 + 1) cs) 34 1 gr false)) := ⟨_,rfl⟩
    have ca : i * 1 + 1 ≤ cs.length := by omega
    obtain ⟨aq,kq⟩ := hq [Value.float .f64 13840687554816376832] q (by simp only [List.length_append,List.length_cons,List.length_take,List.length_drop,List.length_nil]; omega) (by rw [hq',List.append_assoc]; rfl)
    rw [Nat.mul_one] at hq' ca
    have ca' : i < cs.length := by omega
    simp (maxSteps := 2000000) -implicitDefEqProofs [ble_d,beq_d,List.range_succ,List.replicate,cond_true,cond_false,h1,ca,ca',aindexAddr,hg,astore,← hq',sz34,okf,pm5,Try.underlying24,hinc,undef]
    exact ⟨k - 1,by omega,i + 1,by omega,by simp (maxSteps := 2000000) only [forget,List.set_cons_succ,List.set_cons_zero,hcs],aq,kp.trans kq⟩
  · obtain rfl : i = K := by omega
    simp (maxSteps := 2000000) -implicitDefEqProofs [ble_d,beq_d,List.range_succ,List.replicate,cond_true,cond_false,undef]
    exact hI
set_option maxRecDepth 20000 in
set_option maxHeartbeats 6400000 in
theorem ow3 {h0 : Heap} {wa : Option Addr} {wc n K : Nat} {ov va vb vt vu : Value} (of : Int) (hk : K ≤ 2 ^ 47) (F : Step) (hFF : F = aexecP Try.prog (sO 8) (run Try.prog sO) loopω pt8 (lt8 2)) (t : Tm)
    (ht : forget [3,4,5,6,7,8,10,12,14,16,17,18,19,20,21,22,23,24,25,26,27,28,29,30,31,32,33,34,35,36,37,38,39,40,41,42,43,44,45,46,47,48,49,50,51,52,53,54,55,56,57,58,59,60,61,62,63,64,65,66,67,68,69,70,71,72,73,74,75,76,77,78,79,80,81,82,83,84,85,86,87,88,89,90,91,92,93,94,95,96,97,98,99,100,101,102,103,104,105,106,107,108,109,110,111,112,113,116,117,118,119,120,121,122,123,124,125,126,127,128,129,130,131,132,133,134,135,136,137,138,139,140,141,142,143,144,145,146,147,148,149,150,151,152,153] t = [.slice wa n wc,ov,.int .i64 of,Z,Z,Z,Z,Z,Z,va,Z,vb,Z,vt,Z,vu,Z,Z,Z,Z,Z,Z,Z,Z,Z,Z,Z,Z,Z,Z,Z,Z,Z,Z,Z,Z,Z,Z,Z,Z,Z,Z,Z,Z,Z,Z,Z,Z,Z,Z,Z,Z,Z,Z,Z,Z,Z,Z,Z,Z,Z,Z,Z,Z,Z,Z,Z,Z,Z,Z,Z,Z,Z,Z,Z,Z,Z,Z,Z,Z,Z,Z,Z,Z,Z,Z,Z,Z,Z,Z,Z,Z,Z,Z,Z,Z,Z,Z,Z,Z,Z,Z,Z,Z,Z,Z,Z,Z,Z,Z,Z,Z,Z,Z,.int .i64 K,.int .i64 (0 : Nat),Z,Z,Z,Z,Z,Z,Z,Z,Z,Z,Z,Z,Z,Z,Z,Z,Z,Z,Z,Z,Z,Z,Z,Z,Z,Z,Z,Z,Z,Z,Z,Z,Z,Z,Z,Z,Z,Z]) (hI0 : (Ap h0 vt 67 3 K ∧ Keep (fun x => nm vt = some x) h0 h0)) :
    ∃ h' x116,loopω [3,4,5,6,7,8,10,12,14,16,17,18,19,20,21,22,23,24,25,26,27,28,29,30,31,32,33,34,35,36,37,38,39,40,41,42,43,44,45,46,47,48,49,50,51,52,53,54,55,56,57,58,59,60,61,62,63,64,65,66,67,68,69,70,71,72,73,74,75,76,77,78,79,80,81,82,83,84,85,86,87,88,89,90,91,92,93,94,95,96,97,98,99,100,101,102,103,104,105,106,107,108,109,110,111,112,113,116,117,118,119,120,121,122,123,124,125,126,127,128,129,130,131,132,133,134,135,136,137,138,139,140,141,142,143,144,145,146,147,148,149,150,151,152,153] F t h0 = some (.exit 4,[.slice wa n wc,ov,.int .i64 of,Z,Z,Z,Z,Z,Z,va,Z,vb,Z,vt,Z,vu,Z,Z,Z,Z,Z,Z,Z,Z,Z,Z,Z,Z,Z,Z,Z,Z,Z,Z,Z,Z,Z,Z,Z,Z,Z,Z,Z,Z,Z,Z,Z,Z,Z,Z,Z,Z,Z,Z,Z,Z,Z,Z,Z,Z,Z,Z,Z,Z,Z,Z,Z,Z,Z,Z,Z,Z,Z,Z,Z,Z,Z,Z,Z,Z,Z,Z,Z,Z,Z,Z,Z,Z,Z,Z,Z,Z,Z,Z,Z,Z,Z,Z,Z,Z,Z,Z,Z,Z,Z,Z,Z,Z,Z,Z,Z,Z,Z,Z,.int .i64 K,.int .i64 (K : Nat),x116,Z,Z,Z,Z,Z,Z,Z,Z,Z,Z,Z,Z,Z,Z,Z,Z,Z,Z,Z,Z,Z,Z,Z,Z,Z,Z,Z,Z,Z,Z,Z,Z,Z,Z,Z,Z,Z],h') ∧ (Ap h' vt 67 3 K ∧ Keep (fun x => nm vt = some x) h0 h') := by
  subst hFF
  suffices hs : ∃ e t' h',loopω [3,4,5,6,7,8,10,12,14,16,17,18,19,20,21,22,23,24,25,26,27,28,29,30,31,32,33,34,35,36,37,38,39,40,41,42,43,44,45,46,47,48,49,50,51,52,53,54,55,56,57,58,59,60,61,62,63,64,65,66,67,68,69,70,71,72,73,74,75,76,77,78,79,80,81,82,83,84,85,86,87,88,89,90,91,92,93,94,95,96,97,98,99,100,101,102,103,104,105,106,107,108,109,110,111,112,113,116,117,118,119,120,121,122,123,124,125,126,127,128,129,130,131,132,133,134,135,136,137,138,139,140,141,142,143,144,145,146,147,148,149,150,151,152,153] (aexecP Try.prog (sO 8) (run Try.prog sO) loopω pt8 (lt8 2)) t h0 = some (e,t',h') ∧ (e = .exit 4 ∧ ∃ x116,t' = [.slice wa n wc,ov,.int .i64 of,Z,Z,Z,Z,Z,Z,va,Z,vb,Z,vt,Z,vu,Z,Z,Z,Z,Z,Z,Z,Z,Z,Z,Z,Z,Z,Z,Z,Z,Z,Z,Z,Z,Z,Z,Z,Z,Z,Z,Z,Z,Z,Z,Z,Z,Z,Z,Z,Z,Z,Z,Z,Z,Z,Z,Z,Z,Z,Z,Z,Z,Z,Z,Z,Z,Z,Z,Z,Z,Z,Z,Z,Z,Z,Z,Z,Z,Z,Z,Z,Z,Z,Z,Z,Z,Z,Z,Z,Z,Z,Z,Z,Z,Z,Z,Z,Z,Z,Z,Z,Z,Z,Z,Z,Z,Z,Z,Z,Z,Z,Z,.int .i64 K,.int .i64 (K : Nat),x116,Z,Z,Z,Z,Z,Z,Z,Z,Z,Z,Z,Z,Z,Z,Z,Z,Z,Z,Z,Z,Z,Z,Z,Z,Z,Z,Z,Z,Z,Z,Z,Z,Z,Z,Z,Z,Z] ∧ (Ap h' vt 67 3 K ∧ Keep (fun x => nm vt = some x) h0 h')) by
    obtain ⟨e,t',h',q1,rfl,x116,rfl,q2⟩ := hs
    exact ⟨h',x116,q1,q2⟩
  simp only [lt8,Try.f8,loopsOf,Option.getD_some,List.nil_append,List.append_nil,List.cons_append,List.getD_cons_zero,List.getD_cons_succ]
  refine loop_by (fun k t h' => ∃ (i : Nat),i + k = K ∧ forget [3,4,5,6,7,8,10,12,14,16,17,18,19,20,21,22,23,24,25,26,27,28,29,30,31,32,33,34,35,36,37,38,39,40,41,42,43,44,45,46,47,48,49,50,51,52,53,54,55,56,57,58,59,60,61,62,63,64,65,66,67,68,69,70,71,72,73,74,75,76,77,78,79,80,81,82,83,84,85,86,87,88,89,90,91,92,93,94,95,96,97,98,99,100,101,102,103,104,105,106,107,108,109,110,111,112,113,116,117,118,119,120,121,122,123,124,125,126,127,128,129,130,131,132,133,134,135,136,137,138,139,140,141,142,143,144,145,146,147,148,149,150,151,152,153] t = [.slice wa n wc,ov,.int .i64 of,Z,Z,Z,Z,Z,Z,va,Z,vb,Z,vt,Z,vu,Z,Z,Z,Z,Z,Z,Z,Z,Z,Z,Z,Z,Z,Z,Z,Z,Z,Z,Z,Z,Z,Z,Z,Z,Z,Z,Z,Z,Z,Z,Z,Z,Z,Z,Z,Z,Z,Z,Z,Z,Z,Z,Z,Z,Z,Z,Z,Z,Z,Z,Z,Z,Z,Z,Z,Z,Z,Z,Z,Z,Z,Z,Z,Z,Z,Z,Z,Z,Z,Z,Z,Z,Z,Z,Z,Z,Z,Z,Z,Z,Z,Z,Z,Z,Z,Z,Z,Z,Z,Z,Z,Z,Z,Z,Z,Z,Z,Z,.int .i64 K,.int .i64 (i : Nat),Z,Z,Z,Z,Z,Z,Z,Z,Z,Z,Z,Z,Z,Z,Z,Z,Z,Z,Z,Z,Z,Z,Z,Z,Z,Z,Z,Z,Z,Z,Z,Z,Z,Z,Z,Z,Z,Z] ∧ (Ap h' vt 67 3 K ∧ Keep (fun x => nm vt = some x) h0 h'))
    (fun e t' h' => e = .exit 4 ∧ ∃ x116,t' = [.slice wa n wc,ov,.int .i64 of,Z,Z,Z,Z,Z,Z,va,Z,vb,Z,vt,Z,vu,Z,Z,Z,Z,Z,Z,Z,Z,Z,Z,Z,Z,Z,Z,Z,Z,Z,Z,Z,Z,Z,Z,Z,Z,Z,Z,Z,Z,Z,Z,Z,Z,Z,Z,Z,Z,Z,Z,Z,Z,Z,Z,Z,Z,Z,Z,Z,Z,Z,Z,Z,Z,Z,Z,Z,Z,Z,Z,Z,Z,Z,Z,Z,Z,Z,Z,Z,Z,Z,Z,Z,Z,Z,Z,Z,Z,Z,Z,Z,Z,Z,Z,Z,Z,Z,Z,Z,Z,Z,Z,Z,Z,Z,Z,Z,Z,Z,Z,.int .i64 K,.int .i64 (K : Nat),x116,Z,Z,Z,Z,Z,Z,Z,Z,Z,Z,Z,Z,Z,Z,Z,Z,Z,Z,Z,Z,Z,Z,Z,Z,Z,Z,Z,Z,Z,Z,Z,Z,Z,Z,Z,Z,Z] ∧ (Ap h' vt 67 3 K ∧ Keep (fun x => nm vt = some x) h0 h')) ?_ (K) _ _ ⟨0,by omega,ht,hI0⟩
  rintro k t h' ⟨i,hi,ht,hI⟩
  rw [ht]
  rcases Nat.lt_or_ge i (K) with h1 | h1
  · have hinc := @inc64 i (by omega)
    have hcs := cast_succ i
    obtain ⟨ap,kp⟩ := hI
    obtain ⟨m,sp,c,cs,gr,rfl,hg,hl,hq⟩ := ap.wr h1
    obtain ⟨q,hq'⟩ : ∃ q,q = h'.put m (some (.cells (List.take (i * 3) cs ++ Value.int .i64 (-1) :: Value.int .i64 0 :: Value.float .f64 0 :: List.drop (i * 3 + 3) cs) 67 3 gr false)) := ⟨_,rfl⟩
    have ca : i * 3 + 3 ≤ cs.length := by omega
    obtain ⟨aq,kq⟩ := hq [Value.int .i64 (-1),Value.int .i64 0,Value.float .f64 0] q (by simp only [List.length_append,List.length_cons,List.length_take,List.length_drop,List.length_nil]; omega) (by rw [hq',List.append_assoc]; rfl)
    have ca' : i < cs.length := by omega
    simp (maxSteps := 2000000) -implicitDefEqProofs [ble_d,beq_d,List.range_succ,List.replicate,cond_true,cond_false,h1,ca,ca',aindexAddr,hg,astore,← hq',sz67,build67c,ok67,Try.underlying56,Try.underlying67,hinc,undef]
    exact ⟨k - 1,by omega,i + 1,by omega,by simp (maxSteps := 2000000) only [forget,List.set_cons_succ,List.set_cons_zero,hcs],aq,kp.trans kq⟩
  · obtain rfl : i = K := by omega
    simp (maxSteps := 2000000) -implicitDefEqProofs [ble_d,beq_d,List.range_succ,List.replicate,cond_true,cond_false,undef]
    exact hI
set_option maxRecDepth 20000 in
set_option maxHeartbeats 6400000 in
theorem ow4 {h0 : Heap} {wa : Option Addr} {wc n K N : Nat} {ov va vb vt vu : Value} (of : Int) (hK : K ≤ 2 ^ 39) (hN : N ≤ 2 ^ 41) (p0 : Value) (q0 : Value) (F : Step) (hFF : F = aexecP Try.prog (sO 8) (run Try.prog sO) loopω pt8 (lt8 3)) (t : Tm)
    (ht : forget [3,4,5,6,7,8,10,12,14,16,17,18,19,21,22,23,24,25,26,27,28,29,30,31,32,33,34,35,36,37,38,39,40,41,42,43,44,45,46,47,48,49,50,51,52,53,54,55,56,57,58,59,60,61,62,63,64,65,66,67,68,69,70,71,72,73,74,75,76,77,78,79,80,81,82,83,84,85,86,87,88,89,90,91,92,93,94,95,96,97,98,99,100,101,102,103,104,105,106,107,108,109,110,111,112,113,114,115,116,117,118,119,120,121,122,123,124,125,126,127,128,129,130,131,132,133,134,135,136,137,138,139,140,141,142,143,144,145,146,147,148,149,150,151,152,153] t = [.slice wa n wc,ov,.int .i64 of,Z,Z,Z,Z,Z,Z,p0,Z,vb,Z,q0,Z,vu,Z,Z,Z,Z,.int .i64 (0 : Nat),Z,Z,Z,Z,Z,Z,Z,Z,Z,Z,Z,Z,Z,Z,Z,Z,Z,Z,Z,Z,Z,Z,Z,Z,Z,Z,Z,Z,Z,Z,Z,Z,Z,Z,Z,Z,Z,Z,Z,Z,Z,Z,Z,Z,Z,Z,Z,Z,Z,Z,Z,Z,Z,Z,Z,Z,Z,Z,Z,Z,Z,Z,Z,Z,Z,Z,Z,Z,Z,Z,Z,Z,Z,Z,Z,Z,Z,Z,Z,Z,Z,Z,Z,Z,Z,Z,Z,Z,Z,Z,Z,Z,Z,Z,Z,Z,Z,Z,Z,Z,Z,Z,Z,Z,Z,Z,Z,Z,Z,Z,Z,Z,Z,Z,Z,Z,Z,Z,Z,Z,Z,Z,Z,Z,Z,Z,Z,Z,Z,Z,Z,Z,Z]) (hI0 : AB h0 h0 va vt p0 q0 K N (0)) :
    ∃ h' p q x123 x124,loopω [3,4,5,6,7,8,10,12,14,16,17,18,19,21,22,23,24,25,26,27,28,29,30,31,32,33,34,35,36,37,38,39,40,41,42,43,44,45,46,47,48,49,50,51,52,53,54,55,56,57,58,59,60,61,62,63,64,65,66,67,68,69,70,71,72,73,74,75,76,77,78,79,80,81,82,83,84,85,86,87,88,89,90,91,92,93,94,95,96,97,98,99,100,101,102,103,104,105,106,107,108,109,110,111,112,113,114,115,116,117,118,119,120,121,122,123,124,125,126,127,128,129,130,131,132,133,134,135,136,137,138,139,140,141,142,143,144,145,146,147,148,149,150,151,152,153] F t h0 = some (.exit 6,[.slice wa n wc,ov,.int .i64 of,Z,Z,Z,Z,Z,Z,p,Z,vb,Z,q,Z,vu,Z,Z,Z,Z,.int .i64 (20 : Nat),Z,Z,Z,Z,Z,Z,Z,Z,Z,Z,Z,Z,Z,Z,Z,Z,Z,Z,Z,Z,Z,Z,Z,Z,Z,Z,Z,Z,Z,Z,Z,Z,Z,Z,Z,Z,Z,Z,Z,Z,Z,Z,Z,Z,Z,Z,Z,Z,Z,Z,Z,Z,Z,Z,Z,Z,Z,Z,Z,Z,Z,Z,Z,Z,Z,Z,Z,Z,Z,Z,Z,Z,Z,Z,Z,Z,Z,Z,Z,Z,Z,Z,Z,Z,Z,Z,Z,Z,Z,Z,Z,Z,Z,Z,Z,Z,Z,Z,Z,Z,Z,Z,x123,x124,Z,Z,Z,Z,Z,Z,Z,Z,Z,Z,Z,Z,Z,Z,Z,Z,Z,Z,Z,Z,Z,Z,Z,Z,Z,Z,Z,Z,Z],h') ∧ AB h0 h' va vt p q K N (20) := by
  subst hFF
  suffices hs : ∃ e t' h',loopω [3,4,5,6,7,8,10,12,14,16,17,18,19,21,22,23,24,25,26,27,28,29,30,31,32,33,34,35,36,37,38,39,40,41,42,43,44,45,46,47,48,49,50,51,52,53,54,55,56,57,58,59,60,61,62,63,64,65,66,67,68,69,70,71,72,73,74,75,76,77,78,79,80,81,82,83,84,85,86,87,88,89,90,91,92,93,94,95,96,97,98,99,100,101,102,103,104,105,106,107,108,109,110,111,112,113,114,115,116,117,118,119,120,121,122,123,124,125,126,127,128,129,130,131,132,133,134,135,136,137,138,139,140,141,142,143,144,145,146,147,148,149,150,151,152,153] (aexecP Try.prog (sO 8) (run Try.prog sO) loopω pt8 (lt8 3)) t h0 = some (e,t',h') ∧ (e = .exit 6 ∧ ∃ p q x123 x124,t' = [.slice wa n wc,ov,.int .i64 of,Z,Z,Z,Z,Z,Z,p,Z,vb,Z,q,Z,vu,Z,Z,Z,Z,.int .i64 (20 : Nat),Z,Z,Z,Z,Z,Z,Z,Z,Z,Z,Z,Z,Z,Z,Z,Z,Z,Z,Z,Z,Z,Z,Z,Z,Z,Z,Z,Z,Z,Z,Z,Z,Z,Z,Z,Z,Z,Z,Z,Z,Z,Z,Z,Z,Z,Z,Z,Z,Z,Z,Z,Z,Z,Z,Z,Z,Z,Z,Z,Z,Z,Z,Z,Z,Z,Z,Z,Z,Z,Z,Z,Z,Z,Z,Z,Z,Z,Z,Z,Z,Z,Z,Z,Z,Z,Z,Z,Z,Z,Z,Z,Z,Z,Z,Z,Z,Z,Z,Z,Z,Z,Z,x123,x124,Z,Z,Z,Z,Z,Z,Z,Z,Z,Z,Z,Z,Z,Z,Z,Z,Z,Z,Z,Z,Z,Z,Z,Z,Z,Z,Z,Z,Z] ∧ AB h0 h' va vt p q K N (20)) by
    obtain ⟨e,t',h',q1,rfl,p,q,x123,x124,rfl,q2⟩ := hs
    exact ⟨h',p,q,x123,x124,q1,q2⟩
  simp only [lt8,Try.f8,loopsOf,Option.getD_some,List.nil_append,List.append_nil,List.cons_append,List.getD_cons_zero,List.getD_cons_succ]
  refine loop_by (fun k t h' => ∃ (i : Nat) (p : Value) (q : Value),i + k = 20 ∧ forget [3,4,5,6,7,8,10,12,14,16,17,18,19,21,22,23,24,25,26,27,28,29,30,31,32,33,34,35,36,37,38,39,40,41,42,43,44,45,46,47,48,49,50,51,52,53,54,55,56,57,58,59,60,61,62,63,64,65,66,67,68,69,70,71,72,73,74,75,76,77,78,79,80,81,82,83,84,85,86,87,88,89,90,91,92,93,94,95,96,97,98,99,100,101,102,103,104,105,106,107,108,109,110,111,112,113,114,115,116,117,118,119,120,121,122,123,124,125,126,127,128,129,130,131,132,133,134,135,136,137,138,139,140,141,142,143,144,145,146,147,148,149,150,151,152,153] t = [.slice wa n wc,ov,.int .i64 of,Z,Z,Z,Z,Z,Z,p,Z,vb,Z,q,Z,vu,Z,Z,Z,Z,.int .i64 (i : Nat),Z,Z,Z,Z,Z,Z,Z,Z,Z,Z,Z,Z,Z,Z,Z,Z,Z,Z,Z,Z,Z,Z,Z,Z,Z,Z,Z,Z,Z,Z,Z,Z,Z,Z,Z,Z,Z,Z,Z,Z,Z,Z,Z,Z,Z,Z,Z,Z,Z,Z,Z,Z,Z,Z,Z,Z,Z,Z,Z,Z,Z,Z,Z,Z,Z,Z,Z,Z,Z,Z,Z,Z,Z,Z,Z,Z,Z,Z,Z,Z,Z,Z,Z,Z,Z,Z,Z,Z,Z,Z,Z,Z,Z,Z,Z,Z,Z,Z,Z,Z,Z,Z,Z,Z,Z,Z,Z,Z,Z,Z,Z,Z,Z,Z,Z,Z,Z,Z,Z,Z,Z,Z,Z,Z,Z,Z,Z,Z,Z,Z,Z,Z,Z] ∧ AB h0 h' va vt p q K N (i))
    (fun e t' h' => e = .exit 6 ∧ ∃ p q x123 x124,t' = [.slice wa n wc,ov,.int .i64 of,Z,Z,Z,Z,Z,Z,p,Z,vb,Z,q,Z,vu,Z,Z,Z,Z,.int .i64 (20 : Nat),Z,Z,Z,Z,Z,Z,Z,Z,Z,Z,Z,Z,Z,Z,Z,Z,Z,Z,Z,Z,Z,Z,Z,Z,Z,Z,Z,Z,Z,Z,Z,Z,Z,Z,Z,Z,Z,Z,Z,Z,Z,Z,Z,Z,Z,Z,Z,Z,Z,Z,Z,Z,Z,Z,Z,Z,Z,Z,Z,Z,Z,Z,Z,Z,Z,Z,Z,Z,Z,Z,Z,Z,Z,Z,Z,Z,Z,Z,Z,Z,Z,Z,Z,Z,Z,Z,Z,Z,Z,Z,Z,Z,Z,Z,Z,Z,Z,Z,Z,Z,Z,Z,x123,x124,Z,Z,Z,Z,Z,Z,Z,Z,Z,Z,Z,Z,Z,Z,Z,Z,Z,Z,Z,Z,Z,Z,Z,Z,Z,Z,Z,Z,Z] ∧ AB h0 h' va vt p q K N (20)) ?_ (20) _ _ ⟨0,_,_,by omega,ht,hI0⟩
  rintro k t h' ⟨i,p,q,hi,ht,hI⟩
  rw [ht]
  rcases Nat.lt_or_ge i (20) with h1 | h1
  · have hinc := @inc64 i (by omega)
    have hcs := cast_succ i
    have h1' : (i : Int) < 20 := by omega
    obtain ⟨p',q1,q',q2,e1,e2,hS⟩ := AB.step hI (own_k hK h1) (own_n hN h1)
    simp (maxSteps := 2000000) -implicitDefEqProofs [ble_d,beq_d,List.range_succ,List.replicate,cond_true,cond_false,h1,h1',e1,e2,bs24_6,build67c,(fun ρ y hy => bs56_1 ρ y (-2) 0 0 hy),hinc,undef]
    exact ⟨k - 1,by omega,i + 1,by omega,p',q',by simp (maxSteps := 2000000) only [forget,List.set_cons_succ,List.set_cons_zero,hcs],hS⟩
  · obtain rfl : i = 20 := by omega
    simp (maxSteps := 2000000) -implicitDefEqProofs [ble_d,beq_d,List.range_succ,List.replicate,cond_true,cond_false,undef]
    exact ⟨p,q,⟨rfl,rfl⟩,hI⟩
end Go.Proofs.Ytmnkmdfladbgdaa.Od

set_option linter.unusedVariables false
set_option linter.unusedSimpArgs false
namespace Go.Proofs.Ytmnkmdfladbgdaa.Od
open Go Go.Proofs Go.RowKit Go.Proofs.YtmnkmdfladbgdaaAI Go.Proofs.YtmnkmdfladbgdaaFl Go.Proofs.YtmnkmdfladbgdaaSrt

theorem bs24_7 (t : Tm) (d ty pos af gu) : aalloc Try.prog (aeval t) ⟨d,.buildSlice 24 1 #[(0,.const (.float .f64 4619567317775286272))],ty,pos,af,gu⟩ = some (.cells [.float .f64 4619567317775286272] 34 1 false false,fun n => .slice (some ⟨n,0,none⟩) 1 1) := by kernel_rfl
theorem pm7 : plain (Value.float .f64 4619567317775286272) = true := by kernel_rfl
theorem c7 : (Ieee.double.order 4619567317775286272 4619567317775286272 != some .eq) = false := by
  have := fneq_self 4619567317775286272 (by omega)
  have h2 : isN 4619567317775286272 = false := by decide
  rw [h2] at this
  exact this
/-- Weights, with one number more behind them. -/
theorem ownF {h : Heap} {v : Value} {ws : List Nat} (hv : Sl h v 1 ws.length (us ws)) (hw : W64 ws) (hk : (ws.length + 1) * 8 ≤ 2 ^ 47) :
    ∃ v1 hA mF hB,run Try.prog sO 11 [v] h = some (v1,hA) ∧ aappend Try.prog 24 24 v1 (.slice (some ⟨hA.next,0,none⟩) 1 1) (hA.new (.cells [.float .f64 4619567317775286272] 34 1 false false)) = some (.slice (some ⟨mF,0,some 0⟩) (ws.length + 1) 1,hB) ∧
      hB.get mF = some (.cells (fl ws ++ [.float .f64 4619567317775286272]) 34 1 true false) ∧ Keep No h hB := by
  obtain ⟨v1,hA,e,l1,k1,n1⟩ := floats_run hv hw (by omega)
  have hx : Sl (hA.new (.cells [.float .f64 4619567317775286272] 34 1 false false)) (.slice (some ⟨hA.next,0,none⟩) 1 1) 1 1 [.float .f64 4619567317775286272] :=
    ⟨rfl,.inr ⟨_,_,rfl,fun _ => ⟨_,_,_,_,_,by rw [Heap.get_new,if_pos rfl],rfl⟩⟩⟩
  obtain ⟨v2,hB,e2,l2,k2,n2,_,f2⟩ := append_lg (t := 24) (xt := 24) Try.underlying24 Try.underlying24 rfl el34 (l1.keep (Keep.new No hA _) (fun _ _ x => x)) hx (by omega) (by omega) rfl
  obtain ⟨_,⟨h0,_⟩ | ⟨m,h0,rfl,hg⟩⟩ := l2
  · omega
  exact ⟨v1,hA,m,hB,e,e2,hg,(k1.trans (Keep.new No hA _)).also k2 fun m hm x => (by have := n1 m x; omega)⟩
theorem shares_any {ws : List Nat} (of : Int) (hw : W64 ws) (kw : ws.length ≤ 2 ^ 47) : ∃ (K : Nat) (L : List Nat),L.length = K ∧ K ≤ 4096 ∧ W64 L ∧
    (∀ {h : Heap} {v : Value},Sl h v 1 ws.length (fl ws) → ∃ va ea h',run Try.prog sO 10 [v,.int .i64 0,.int .i64 of] h = some (.tuple #[va,.int .i64 ea],h') ∧ Ap h' va 34 1 K ∧ Sl h' va 1 K (fl L) ∧ Keep No h h' ∧ ∀ m,nm va = some m → h.next ≤ m) ∧
    (∀ {h : Heap} {v : Value},Sl h v 1 ws.length (us ws) → ∃ va ea h',run Try.prog sO 12 [v,.int .i64 0,.int .i64 of] h = some (.tuple #[va,.int .i64 ea],h') ∧ Sl h' va 1 K (us L) ∧ Keep No h h') := by
  by_cases hb : of < 1 ∨ 4096 < of
  · have hb' : of < 1 ∨ 4096 < of ∨ (0 : Int) < 0 := by omega
    refine ⟨0,[],rfl,by omega,(fun x hx => by cases hx),fun {h v} hv => ?_,fun {h v} hv => ?_⟩
    · obtain ⟨a,c,rfl⟩ := sl_form hv
      exact ⟨_,_,_,shares_bad 0 of hb',.inl ⟨[],Lg.nil _ _ _⟩,(Lg.nil h 34 1).sl,Keep.refl _ _,fun m e => by cases e⟩
    · obtain ⟨a,c,rfl⟩ := sl_form hv
      exact ⟨_,_,_,rshares_bad 0 of hb',(Lg.nil h 37 1).sl,Keep.refl _ _⟩
  · obtain ⟨n,rfl⟩ : ∃ n : Nat,of = (n : Int) := ⟨of.toNat,by omega⟩
    have hll := sharesL_len ws 0 n
    refine ⟨n,sharesL ws 0 n,hll,by omega,sharesL_w hw 0 (by omega),fun {h v} hv => ?_,fun {h v} hv => ?_⟩
    · obtain ⟨hB,e2,g2,k2⟩ := shares_run 0 (n := n) (by omega) (by omega) (by omega) hv hw kw
      have hl : (fl (sharesL ws 0 n)).length = n * 1 := by rw [fl_len,hll]; omega
      exact ⟨_,_,_,e2,.inr ⟨_,_,by omega,rfl,g2,hl⟩,⟨hl,.inr ⟨_,_,rfl,fun _ => ⟨_,_,_,_,_,g2,by rw [List.drop_zero,← hl,List.take_length]⟩⟩⟩,k2,fun m e => by have := (nm_eq e).2; simp only at this; omega⟩
    · obtain ⟨v3,hC,e3,l3,k3,n3⟩ := rshares_run 0 (n := n) (by omega) (by omega) (by omega) hv hw kw
      exact ⟨_,_,_,e3,l3.sl,k3⟩
theorem tables_any {ws : List Nat} {l : List Oc} (hw : W64 ws) (kw : ws.length ≤ 2 ^ 47) (hk : l.length * 96 ≤ 2 ^ 47) (hsm : Small l) : ∃ d : List Ln,d.length ≤ l.length ∧ (∀ x ∈ d,x.2.2 < 18446744073709551616) ∧
    (∀ {h : Heap} {v w : Value},Outs h v l → Sl h w 1 ws.length (fl ws) → ∃ vt et h',run Try.prog sO 24 [v,w] h = some (.tuple #[vt,.int .i64 et],h') ∧ Lg h' vt 67 3 d.length (lns d) ∧ Keep No h h' ∧ ∀ m,nm vt = some m → h.next ≤ m) ∧
    (∀ {h : Heap} {v w : Value},Outs h v l → Sl h w 1 ws.length (us ws) → ∃ vt et h',run Try.prog sO 26 [v,w] h = some (.tuple #[vt,.int .i64 et],h') ∧ Sl h' vt 3 d.length (rns d) ∧ Keep No h h') := by
  rcases ok_split l with ⟨hg,hall⟩ | ⟨hg,_⟩
  · have hl1 : (tabTo (lnsO ws l) (lnsO ws l).length).length = (lnsO ws l).length := tab_len _ _ (Nat.le_refl _)
    have hln : (lnsO ws l).length ≤ l.length := by unfold lnsO; rw [List.length_map]; exact unlL_len l l.length
    refine ⟨tabTo (lnsO ws l) (lnsO ws l).length,by rw [hl1]; exact hln,tab_lt hw hall,fun {h v w} hv hs => ?_,fun {h v w} hv hs => ?_⟩
    · obtain ⟨v3,hC,e3,k3,s3,z3⟩ := table_run hv hk hsm hs hw kw
      exact ⟨_,_,_,e3,by rw [hl1]; exact (s3 hg).1,k3,(s3 hg).2⟩
    · obtain ⟨v4,hD,e4,k4,s4,z4⟩ := rtable_run hv hk hsm hs hw kw
      exact ⟨_,_,_,e4,by rw [hl1]; exact s4 hg,k4⟩
  · refine ⟨[],by simp,(fun x hx => by cases hx),fun {h v w} hv hs => ?_,fun {h v w} hv hs => ?_⟩
    · obtain ⟨v3,hC,e3,k3,s3,z3⟩ := table_run hv hk hsm hs hw kw
      rw [z3 hg] at e3
      exact ⟨_,_,_,e3,Lg.nil _ _ _,k3,fun m e => by cases e⟩
    · obtain ⟨v4,hD,e4,k4,s4,z4⟩ := rtable_run hv hk hsm hs hw kw
      rw [z4 hg] at e4
      exact ⟨_,_,_,e4,(Lg.nil _ 97 3).sl,k4⟩
set_option maxRecDepth 20000 in
set_option maxHeartbeats 12800000 in
theorem own_law {h : Heap} {v w : Value} {ws : List Nat} {l : List Oc} (of : Int) (hv : Outs h v l) (hk : l.length * 96 ≤ 2 ^ 47) (hsm : Small l) (hws : Sl h w 1 ws.length (us ws)) (hw : W64 ws) (kw : (ws.length + 1) * 8 ≤ 2 ^ 47) : ∃ h',run Try.prog sO 8 [w,v,.int .i64 of] h = some (.bool true,h') := by
  obtain ⟨hw',w9⟩ := wakesO
  obtain ⟨v1,hA,mF,hB,e1,eap,gF,kB⟩ := ownF hws hw kw
  obtain ⟨N,hN⟩ : ∃ N,N = ws.length + 1 := ⟨_,rfl⟩
  rw [← hN] at eap
  obtain ⟨v2,hC,e2,o2,k2⟩ := copied_run (hv.keep kB) hk hsm
  have kC := kB.trans k2
  have gC := k2.get gF (fun x => x)
  have sF : Sl hC (.slice (some ⟨mF,0,some 0⟩) ws.length 1) 1 ws.length (fl ws) := ⟨by simp [fl],.inr ⟨_,_,rfl,fun _ => ⟨_,_,_,_,_,gC,by rw [List.drop_zero,List.take_append_of_le_length (by simp [fl])]; rw [List.take_of_length_le (by simp [fl])]⟩⟩⟩
  obtain ⟨K,L,hL,hK,hLw,S1,S2⟩ := shares_any of hw (by omega)
  obtain ⟨d,hd,hdl,T1,T2⟩ := tables_any hw (by omega) hk hsm
  obtain ⟨va,ea,hD,e3,a3,s3,k3,n3⟩ := S1 sF
  have sF3 := sF.keep k3 fun _ _ x => x
  obtain ⟨vb,eb,hE,e4,a4,s4,k4,n4⟩ := S1 sF3
  have sF4 := sF3.keep k4 fun _ _ x => x
  obtain ⟨vt,et,hF,e5,l5,k5,n5⟩ := T1 ((o2.keep k3).keep k4) sF4
  have sF5 := sF4.keep k5 fun _ _ x => x
  obtain ⟨vu,eu,hG,e6,l6,k6,n6⟩ := T1 (((o2.keep k3).keep k4).keep k5) sF5
  have sF6 := sF5.keep k6 fun _ _ x => x
  have kCG : Keep No hC hG := ((k3.trans k4).trans k5).trans k6
  have e7 := total_run sF6 hw (by omega)
  have gG := kCG.get gC (fun x => x)
  have hwsG := hws.keep (kC.trans kCG) fun _ _ x => x
  have g7 : (fl ws ++ [Value.float .f64 4619567317775286272])[ws.length]? = some (.float .f64 4619567317775286272) := by
    rw [List.getElem?_append_right (by simp [fl])]; simp [fl]
  have q7 := fun t X hx => fneq t X (.const (.float .f64 4619567317775286272)) 4619567317775286272 4619567317775286272 hx rfl (by omega) (by omega)
  have n7 := fun op => @nc0 4619567317775286272 4619567317775286272 (by omega) (by omega) op
  have nN : ws.length ≤ N := by omega
  have nN2 : ws.length < N := by omega
  have n0C := kC.1
  have nCD := k3.1
  have nDE := k4.1
  have nEF := k5.1
  have nFG := k6.1
  have ltA := fun m e => a3.lt (m := m) e
  have ltB := fun m e => a4.lt (m := m) e
  have ltT := fun m e => l5.sl.lt (m := m) e
  have ltU := fun m e => l6.sl.lt (m := m) e
  obtain ⟨a,c,rfl⟩ := sl_form hws
  obtain ⟨b,bc,rfl⟩ : ∃ a c,v = .slice a l.length c := by obtain ⟨_,_,hs,_⟩ := hv; exact sl_form hs
  obtain ⟨x2,c2,rfl⟩ : ∃ a c,v2 = .slice a l.length c := by obtain ⟨_,_,hs,_⟩ := o2; exact sl_form hs
  obtain ⟨xa,ca,rfl⟩ := sl_form s3
  obtain ⟨xb,cb,rfl⟩ := sl_form s4
  obtain ⟨xt,ct,rfl⟩ := sl_form l5.sl
  obtain ⟨xu,cu,rfl⟩ := sl_form l6.sl
  generalize totD ws ws.length = T at *
  suffices hz : ∃ y,fin Try.prog Try.f8 (aexecP Try.prog (sO 8) (run Try.prog sO) loopω pt8 (Try.f8.body.getD .skip) ([.slice a ws.length c,.slice b l.length bc,.int .i64 of] ++ List.replicate (Try.f8.ntmps - 3) undef) h) = some y ∧ y.1 = .bool true by
    obtain ⟨⟨y1,y2⟩,hy,rfl⟩ := hz
    exact ⟨y2,run_finP pt8 Try.func8 rfl planned8 hy⟩
  simp (maxSteps := 2000000) -implicitDefEqProofs [Try.f8,ble_d,beq_d,List.range_succ,List.replicate,cond_true,cond_false,ibne,ibeq,w9,en9,en10,en11,en20,en24,en25,bs24_7,e1,eap,e2,e3,e4,e5,e6,e7,aslice,abound,aindexAddr,sz34,gG,g7,q7,c7,pm7,n7,nN,nN2,undef,Try.underlying24,Try.underlying22,Try.underlying26,Try.underlying57,sO8_12]
  generalize hl : loopω _ _ _ _ = rr
  obtain ⟨h3,x83,hx,hh⟩ := useX1 hl (ow1 (h0 := hG) (wa := a) (wc := c) (mF := mF) (n := ws.length) (N := N) (ov := .slice b l.length bc) (va := .slice xa K ca) (vb := .slice xb K cb) (vt := .slice xt d.length ct) (vu := .slice xu d.length cu) (ws := ws) of rfl hN hw (by omega) hwsG gG _ (by kernel_rfl) _ (by kernel_rfl) rfl)
  subst hx
  have hh' := hh.symm
  subst hh'
  clear hl
  simp (maxSteps := 2000000) -implicitDefEqProofs [ble_d,beq_d,List.range_succ,List.replicate,cond_true,cond_false,Try.underlying24,sO8_18,undef]
  generalize hl : loopω _ _ _ _ = rr
  obtain ⟨h4,x107,hx,ap4,kp4⟩ := useX1 hl (ow2 (h0 := hG) (wa := a) (wc := c) (n := ws.length) (K := K) (ov := .slice b l.length bc) (va := .slice xa K ca) (vb := .slice xb K cb) (vt := .slice xt d.length ct) (vu := .slice xu d.length cu) of (by omega) _ (by kernel_rfl) _ (by kernel_rfl) ⟨a3.keep ((k4.trans k5).trans k6) fun _ _ x => x,Keep.refl _ _⟩)
  subst hx
  clear hl
  simp (maxSteps := 2000000) -implicitDefEqProofs [ble_d,beq_d,List.range_succ,List.replicate,cond_true,cond_false,Try.underlying56,sO8_23,undef]
  generalize hl : loopω _ _ _ _ = rr
  have lt4 : Lg h4 (.slice xt d.length ct) 67 3 d.length (lns d) := (l5.keep k6 fun _ _ x => x).keep kp4 fun m e x => by have := n5 m e; have := ltA m x; omega
  obtain ⟨h5,x116,hx,ap5,kp5⟩ := useX1 hl (ow3 (h0 := h4) (wa := a) (wc := c) (n := ws.length) (K := d.length) (ov := .slice b l.length bc) (va := .slice xa K ca) (vb := .slice xb K cb) (vt := .slice xt d.length ct) (vu := .slice xu d.length cu) of (by omega) _ (by kernel_rfl) _ (by kernel_rfl) ⟨.inl ⟨_,lt4⟩,Keep.refl _ _⟩)
  subst hx
  clear hl
  have aa5 := ap4.keep kp5 fun m e x => by have := n5 m x; have := ltA m e; omega
  simp (maxSteps := 2000000) -implicitDefEqProofs [ble_d,beq_d,List.range_succ,List.replicate,cond_true,cond_false,sO8_28,undef]
  generalize hl : loopω _ _ _ _ = rr
  obtain ⟨h6,p,q,x123,x124,hx,hab⟩ := useX4 hl (ow4 (h0 := h5) (wa := a) (wc := c) (n := ws.length) (K := K) (N := d.length) (ov := .slice b l.length bc) (va := .slice xa K ca) (vb := .slice xb K cb) (vt := .slice xt d.length ct) (vu := .slice xu d.length cu) of (by omega) (by omega) (.slice xa K ca) (.slice xt d.length ct) _ (by kernel_rfl) _ (by kernel_rfl) ⟨aa5,ap5,Keep.refl _ _,fun m e => .inl e,fun m e => .inl e,fun m e x => by have := n5 m x; have := ltA m e; omega⟩)
  subst hx
  clear hl
  obtain ⟨_,_,kab,_⟩ := hab
  have kall : Keep (fun m => nm (.slice xa K ca) = some m ∨ nm (.slice xt d.length ct) = some m) hG h6 := ((kp4.mono fun m _ x => .inl x).trans (kp5.mono fun m _ x => .inr x)).trans kab
  have kh : Keep No h h6 := (kC.trans kCG).also kall fun m hm x => by
    rcases x with x | x
    · have := n3 m x; omega
    · have := n5 m x; omega
  have sb6 := (s4.keep (k5.trans k6) fun _ _ x => x).keep kall fun m e x => by
    have := n4 m e
    have := ltB m e
    rcases x with x | x
    · have := ltA m x; omega
    · have := n5 m x; omega
  have su6 := l6.sl.keep kall fun m e x => by
    have := n6 m e
    rcases x with x | x
    · have := ltA m x; omega
    · have := ltT m x; omega
  obtain ⟨vr,er,h7,e8,s8,k8⟩ := S2 (hws.keep kh fun _ _ x => x)
  obtain ⟨vq,eq,h8,e9,s9,k9⟩ := T2 ((hv.keep kh).keep k8) ((hws.keep kh fun _ _ x => x).keep k8 fun _ _ x => x)
  have e10 := samebits_run hL (by omega) hLw ((sb6.keep k8 fun _ _ x => x).keep k9 fun _ _ x => x) (s8.keep k9 fun _ _ x => x)
  have e11 := same27_run (by omega) hdl ((su6.keep k8 fun _ _ x => x).keep k9 fun _ _ x => x) s9
  obtain ⟨xr,cr,rfl⟩ := sl_form s8
  obtain ⟨xq,cq,rfl⟩ := sl_form s9
  simp (maxSteps := 2000000) -implicitDefEqProofs [ble_d,beq_d,List.range_succ,List.replicate,cond_true,cond_false,en12,en13,en26,en27,e8,e9,e10,e11,Try.underlying29,Try.underlying61,undef]
theorem own_calls (W : World) {a0 : Option Addr} {len0 cap0 : Nat} {l0 : List Nat} (w0 : U64sAt W a0 len0 cap0 l0) (y0 : len0 * 8 ≤ 140737488351232) {a1 : Option Addr} {len1 cap1 : Nat} {l1 : List Oc} (w1 : OcsAt W a1 len1 cap1 l1) (y1 : len1 * 96 ≤ 140737488351232) {a2 : Int} (w2 : (Lit.int .i64 a2).wf = true) :
    Calls Try.prog 8 #[.slice a0 len0 cap0,.slice a1 len1 cap1,.int .i64 a2] W fun e W' => e = .returned (.bool true) ∧ Below W.heap.size W W' := by
  obtain ⟨h,σ,v,hr,hro,_,_,hv,hs,hu,_⟩ := arg_u64s (h := .empty) (σ := fun _ => ⟨0,0,0⟩) (Rep.none _ W (Nat.le_refl _) _) allRo_empty 37 w0
  obtain ⟨h',σ',v',hr',hro',hk,hσ,hv',hs'⟩ := arg_ocs hr hro 87 9 71 w1
  have := u64s_len w0
  have := w1.1
  obtain ⟨h2,e⟩ := own_law a2 hs' (by omega) w1.small (hs.keep hk fun _ _ x => x) w0.1 (by omega)
  exact law_calls mix hro' e rfl hr' (.cons (hv.mono (fun n hn => Nat.lt_of_lt_of_le hn hk.1) (fun n hn => hσ n hn)) (.cons hv' (.cons (VRep.plain_refl 8 rfl) .nil)))
end Go.Proofs.Ytmnkmdfladbgdaa.Od
