/- Odds: the document's Table. -/
import Derived.Test.YtmnkmdfladbgdaaOt18
set_option linter.unusedVariables false
set_option linter.unusedSimpArgs false
namespace Go.Proofs.Ytmnkmdfladbgdaa.Od
open Go Go.Proofs Go.RowKit Go.Proofs.YtmnkmdfladbgdaaAI Go.Proofs.YtmnkmdfladbgdaaFl Go.Proofs.YtmnkmdfladbgdaaSrt

theorem el97 : elTyB Try.prog 97 3 24 = true := by kernel_rfl
theorem al97 (ρ : Operand → Value) (d ty pos af gu) : aalloc Try.prog ρ ⟨d,.alloc 97,ty,pos,af,gu⟩ = some (.cells [.int .i64 0,.int .i64 0,.int .u64 0] 97 3 false false,fun n => .pointer (some ⟨n,0,none⟩)) := by kernel_rfl
theorem build97 (a : Int) : abuild Try.prog 97 [(0,.int .i64 a)] = some (.agg #[.int .i64 a,.int .i64 0,.int .u64 0]) := by kernel_rfl
theorem ok97 (a b c : Int) : okCells (.agg #[.int .i64 a,.int .i64 b,.int .u64 c]) = some [.int .i64 a,.int .i64 b,.int .u64 c] := rfl
theorem bs60 (ρ : Operand → Value) (d ty pos af gu) : aalloc Try.prog ρ ⟨d,.buildSlice 60 0 #[],ty,pos,af,gu⟩ = some (.cells [] 97 3 false false,fun n => .slice (some ⟨n,0,none⟩) 0 0) := by kernel_rfl
theorem bs60_1' (a b c : Int) (d ty pos af gu) : aalloc Try.prog (fun _ => .agg #[.int .i64 a,.int .i64 b,.int .u64 c]) ⟨d,.buildSlice 60 1 #[(0,.tmp 0)],ty,pos,af,gu⟩ = some (.cells [.int .i64 a,.int .i64 b,.int .u64 c] 97 3 false false,fun n => .slice (some ⟨n,0,none⟩) 1 1) := by kernel_rfl
theorem bs60_1 (ρ : Operand → Value) (x) (a b c : Int) (hx : ρ x = .agg #[.int .i64 a,.int .i64 b,.int .u64 c]) (d ty pos af gu) : aalloc Try.prog ρ ⟨d,.buildSlice 60 1 #[(0,x)],ty,pos,af,gu⟩ = some (.cells [.int .i64 a,.int .i64 b,.int .u64 c] 97 3 false false,fun n => .slice (some ⟨n,0,none⟩) 1 1) := by
  have h1 : aalloc Try.prog ρ ⟨d,.buildSlice 60 1 #[(0,x)],ty,pos,af,gu⟩ = aalloc Try.prog (fun _ => ρ x) ⟨d,.buildSlice 60 1 #[(0,.tmp 0)],ty,pos,af,gu⟩ := by simp [aalloc]
  rw [h1,hx]; exact bs60_1' _ _ _ _ _ _ _ _
/-- The front and the back of rows of one's own. -/
theorem cut60 {h : Heap} {oa : Option Addr} {oc K n : Nat} {cs : List Value} (lg : Lg h (.slice oa K oc) 97 3 K cs) (hn : n ≤ K) :
    (∃ a c,aslice Try.prog 60 (.slice oa K oc) none (some (.int .i64 (n : Nat))) none = some (.slice a n c) ∧ Sl h (.slice a n c) 3 n (cs.take (n * 3)) ∧ ∀ m,nm (.slice a n c) = some m → nm (.slice oa K oc) = some m) ∧
    (∃ a c,aslice Try.prog 60 (.slice oa K oc) (some (.int .i64 (n : Nat))) none none = some (.slice a (K - n) c) ∧ Sl h (.slice a (K - n) c) 3 (K - n) (cs.drop (n * 3)) ∧ ∀ m,nm (.slice a (K - n) c) = some m → nm (.slice oa K oc) = some m) := by
  obtain ⟨hl,⟨h0,hv⟩ | ⟨m,h0,hv,hg⟩⟩ := lg
  · subst h0
    obtain rfl : n = 0 := by omega
    have hcs : cs = [] := List.length_eq_zero_iff.1 (by omega)
    subst hcs
    rcases hv with e | ⟨m,off,e⟩
    · cases e
      exact ⟨⟨none,0,by kernel_rfl,⟨rfl,.inl ⟨rfl,rfl⟩⟩,fun m e => by cases e⟩,⟨none,0,by kernel_rfl,⟨rfl,.inl ⟨rfl,rfl⟩⟩,fun m e => by cases e⟩⟩
    · cases e
      refine ⟨⟨some ⟨m,off,none⟩,0,?_,⟨rfl,.inr ⟨_,_,rfl,fun hh => absurd hh (Nat.lt_irrefl 0)⟩⟩,fun m e => absurd (nm_eq e).1 (Nat.lt_irrefl 0)⟩,⟨some ⟨m,off,none⟩,0,?_,⟨rfl,.inr ⟨_,_,rfl,fun hh => absurd hh (Nat.lt_irrefl 0)⟩⟩,fun m e => absurd (nm_eq e).1 (Nat.lt_irrefl 0)⟩⟩
      · unfold aslice
        simp only [Try.underlying60,sz97,abound,Option.isSome_some,Option.isNone_none]
        rfl
      · unfold aslice
        simp only [Try.underlying60,sz97,abound,Option.isSome_none,Option.isNone_none]
        rfl
  · cases hv
    have h1 : Nat.ble 0 n = true := ble_t (by omega)
    have h2 : Nat.ble n K = true := ble_t (by omega)
    have h3 : Nat.ble K K = true := ble_t (by omega)
    have hnm : nm (.slice (some ⟨m,0,some 0⟩) K 3) = some m := nm_pos h0
    refine ⟨⟨some ⟨m,0,some 0⟩,3,?_,⟨by rw [List.length_take]; omega,.inr ⟨_,_,rfl,fun _ => ⟨_,_,_,_,_,hg,by rw [List.drop_zero]⟩⟩⟩,fun m' e => ?_⟩,⟨some ⟨m,n * 3,some 0⟩,3,?_,⟨by rw [List.length_drop]; omega,.inr ⟨_,_,rfl,fun _ => ⟨_,_,_,_,_,hg,?_⟩⟩⟩,fun m' e => ?_⟩⟩
    · unfold aslice
      simp only [Try.underlying60,sz97,abound]
      rw [if_pos (by omega)]
      simp only [Int.toNat_natCast,h1,h2,Bool.and_self,cond_true,Nat.zero_mul,Nat.add_zero,Nat.sub_zero]
      rfl
    · obtain ⟨_,e2⟩ := nm_eq e
      rw [hnm]
      exact congrArg some e2
    · unfold aslice
      simp only [Try.underlying60,sz97,abound]
      rw [if_pos (by omega)]
      simp only [Int.toNat_natCast,h3,h2,Bool.and_self,cond_true,Nat.zero_add]
      rfl
    · show ((cs.drop (n * 3)).take ((K - n) * 3)) = _
      exact List.take_of_length_le (by rw [List.length_drop]; omega)
    · obtain ⟨_,e2⟩ := nm_eq e
      rw [hnm]
      exact congrArg some e2
/-- A copy of a row behind a new row of nothing, one's own. -/
theorem copy_lg {h : Heap} {w : Value} {t e sz b k : Nat} {cs : List Value} (hu : Try.prog.underlying t = some (.slice e)) (he : elTyB Try.prog e sz b = true) (hl : Sl h w sz k cs) (kl : k * b ≤ 2 ^ 47) (k2 : k ≤ 2 ^ 47) (h1 : cs.all one = true) :
    ∃ v' h',aappend Try.prog t t (.slice (some ⟨h.next,0,none⟩) 0 0) w (h.new (.cells [] e sz false false)) = some (v',h') ∧ Lg h' v' e sz k cs ∧ Keep No h h' ∧ (h.new (.cells [] e sz false false)).next ≤ h'.next ∧ ∀ m,nm v' = some m → h.next ≤ m := by
  have k0 := Keep.new No h (.cells [] e sz false false)
  obtain ⟨v8,h8,e8,lg8,kp8,nv8,_,nf8⟩ := append_lg (t := t) (xt := t) (h := h.new (.cells [] e sz false false)) (v := .slice (some ⟨h.next,0,none⟩) 0 0) (k := 0) (cs := []) hu hu rfl he ⟨by simp,.inl ⟨rfl,.inr ⟨_,_,rfl⟩⟩⟩ (hl.keep k0 fun _ _ x => x) (by rw [Nat.zero_add]; exact kl) (by omega) h1
  rw [List.nil_append,Nat.zero_add] at lg8
  refine ⟨v8,h8,e8,lg8,k0.trans (kp8.mono fun m _ x => absurd (nm_eq x).1 (Nat.lt_irrefl 0)),kp8.1,fun m hm => ?_⟩
  rcases Nat.lt_or_ge m (h.new (.cells [] e sz false false)).next with y | y
  · exact absurd (nm_eq (nv8 m hm y)).1 (Nat.lt_irrefl 0)
  · rw [Heap.next_new] at y; omega
theorem lnO_eq (ws : List Nat) (l : List Oc) (n f : Nat) : lnO ws l n f = ((f : Int),((cntG l f n : Nat) : Int),sumG ws l f n) := rfl
theorem useD15 {ks : List Nat} {F : Step} {t : Tm} {h : Heap} {rr : Option (AEx × Tm × Heap)} {f : Heap → Value → Value → Value → Value → Value → Value → Value → Value → Value → Value → Value → Value → Value → Value → Value → Option (AEx × Tm × Heap)} {p : Heap → Value → Value → Value → Value → Value → Value → Value → Value → Value → Value → Value → Value → Value → Value → Value → Prop} (hl : loopω ks F t h = rr) (H : ∃ h' x0 x1 x2 x3 x4 x5 x6 x7 x8 x9 x10 x11 x12 x13 x14,loopω ks F t h = f h' x0 x1 x2 x3 x4 x5 x6 x7 x8 x9 x10 x11 x12 x13 x14 ∧ p h' x0 x1 x2 x3 x4 x5 x6 x7 x8 x9 x10 x11 x12 x13 x14) : ∃ h' x0 x1 x2 x3 x4 x5 x6 x7 x8 x9 x10 x11 x12 x13 x14,rr = f h' x0 x1 x2 x3 x4 x5 x6 x7 x8 x9 x10 x11 x12 x13 x14 ∧ p h' x0 x1 x2 x3 x4 x5 x6 x7 x8 x9 x10 x11 x12 x13 x14 := hl ▸ H
set_option maxRecDepth 20000 in
set_option maxHeartbeats 6400000 in
theorem rtbB {h0 : Heap} {va ca fa : Option Addr} {vc n cc fc N : Nat} {ws : List Nat} {l : List Oc} {fs : List Nat} {ls : List Ln} (hn : l.length = n) (hk : n * 96 ≤ 2 ^ 47) (hw : W64 ws) (hok : ∀ i,i < l.length → okPk (l.getD i oc0) = true) (hsm : Small l) (hN : fs.length = N) (hNn : N ≤ n) (hfs : ∀ f ∈ fs,f < n) (hls : ls = fs.map (lnO ws l n)) (hv : Outs h0 (.slice va n vc) l) (hc : Sl h0 (.slice ca n cc) 1 n (us (chs ws l))) (hF : Sl h0 (.slice fa N fc) 1 N (idx fs)) (hsep : ∀ h m,h0.next ≤ m → Keep (fun x => x = m) h0 h → Outs h (.slice va n vc) l) (v0 : Value) (F : Step) (hFF : F = aexecP Try.prog (sO 26) (run Try.prog sO) loopω pt26 (lt26 1)) (t : Tm)
    (ht : forget [1,2,3,4,5,7,8,9,13,14,15,16,17,18,19,20,21,22,23,24,25,26,27,28,29,30,31,32,33,34,35,36,37,38,39,40,41,42,43,44,45,46,47,48,49,50,51,52,53,54,55,56,57,58,59,60,61,62,63,64,65,66,67,68,69,70,71,72,73,74,75,76,77,78,79,80,81,82,83,84,85,86,87,88,89,90,91,92,93,94,95,96,97,98,99,100,101,102,103,104,105,106,107,108,109,110,111] t = [.slice va n vc,Z,Z,Z,Z,Z,.slice ca n cc,Z,Z,Z,v0,.slice fa N fc,.int .i64 (0 : Nat),Z,Z,Z,Z,Z,Z,Z,Z,Z,Z,Z,Z,Z,Z,Z,Z,Z,Z,Z,Z,Z,Z,Z,Z,Z,Z,Z,Z,Z,Z,Z,Z,Z,Z,Z,Z,Z,Z,Z,Z,Z,Z,Z,Z,Z,Z,Z,Z,Z,Z,Z,Z,Z,Z,Z,Z,Z,Z,Z,Z,Z,Z,Z,Z,Z,Z,Z,Z,Z,Z,Z,Z,Z,Z,Z,Z,Z,Z,Z,Z,Z,Z,Z,Z,Z,Z,Z,Z,Z,Z,Z,Z,Z,Z,Z,Z,Z,Z,Z]) (hI0 : (Lg h0 v0 97 3 (0) (rns (tabTo ls (0))) ∧ Keep No h0 h0 ∧ ∀ m,nm v0 = some m → h0.next ≤ m)) :
    ∃ h' v x41 x42 x43 x44,loopω [1,2,3,4,5,7,8,9,13,14,15,16,17,18,19,20,21,22,23,24,25,26,27,28,29,30,31,32,33,34,35,36,37,38,39,40,41,42,43,44,45,46,47,48,49,50,51,52,53,54,55,56,57,58,59,60,61,62,63,64,65,66,67,68,69,70,71,72,73,74,75,76,77,78,79,80,81,82,83,84,85,86,87,88,89,90,91,92,93,94,95,96,97,98,99,100,101,102,103,104,105,106,107,108,109,110,111] F t h0 = some (.exit 2,[.slice va n vc,Z,Z,Z,Z,Z,.slice ca n cc,Z,Z,Z,v,.slice fa N fc,.int .i64 (N : Nat),Z,Z,Z,Z,Z,Z,Z,Z,Z,Z,Z,Z,Z,Z,Z,Z,Z,Z,Z,Z,Z,Z,Z,Z,Z,Z,Z,Z,x41,x42,x43,x44,Z,Z,Z,Z,Z,Z,Z,Z,Z,Z,Z,Z,Z,Z,Z,Z,Z,Z,Z,Z,Z,Z,Z,Z,Z,Z,Z,Z,Z,Z,Z,Z,Z,Z,Z,Z,Z,Z,Z,Z,Z,Z,Z,Z,Z,Z,Z,Z,Z,Z,Z,Z,Z,Z,Z,Z,Z,Z,Z,Z,Z,Z,Z,Z,Z,Z,Z],h') ∧ (Lg h' v 97 3 (N) (rns (tabTo ls (N))) ∧ Keep No h0 h' ∧ ∀ m,nm v = some m → h0.next ≤ m) := by
  subst hFF
  suffices hs : ∃ e t' h',loopω [1,2,3,4,5,7,8,9,13,14,15,16,17,18,19,20,21,22,23,24,25,26,27,28,29,30,31,32,33,34,35,36,37,38,39,40,41,42,43,44,45,46,47,48,49,50,51,52,53,54,55,56,57,58,59,60,61,62,63,64,65,66,67,68,69,70,71,72,73,74,75,76,77,78,79,80,81,82,83,84,85,86,87,88,89,90,91,92,93,94,95,96,97,98,99,100,101,102,103,104,105,106,107,108,109,110,111] (aexecP Try.prog (sO 26) (run Try.prog sO) loopω pt26 (lt26 1)) t h0 = some (e,t',h') ∧ (e = .exit 2 ∧ ∃ v x41 x42 x43 x44,t' = [.slice va n vc,Z,Z,Z,Z,Z,.slice ca n cc,Z,Z,Z,v,.slice fa N fc,.int .i64 (N : Nat),Z,Z,Z,Z,Z,Z,Z,Z,Z,Z,Z,Z,Z,Z,Z,Z,Z,Z,Z,Z,Z,Z,Z,Z,Z,Z,Z,Z,x41,x42,x43,x44,Z,Z,Z,Z,Z,Z,Z,Z,Z,Z,Z,Z,Z,Z,Z,Z,Z,Z,Z,Z,Z,Z,Z,Z,Z,Z,Z,Z,Z,Z,Z,Z,Z,Z,Z,Z,Z,Z,Z,Z,Z,Z,Z,Z,Z,Z,Z,Z,Z,Z,Z,Z,Z,Z,Z,Z,Z,Z,Z,Z,Z,Z,Z,Z,Z,Z,Z] ∧ (Lg h' v 97 3 (N) (rns (tabTo ls (N))) ∧ Keep No h0 h' ∧ ∀ m,nm v = some m → h0.next ≤ m)) by
    obtain ⟨e,t',h',q1,rfl,v,x41,x42,x43,x44,rfl,q2⟩ := hs
    exact ⟨h',v,x41,x42,x43,x44,q1,q2⟩
  simp only [lt26,Try.f26,loopsOf,Option.getD_some,List.nil_append,List.append_nil,List.cons_append,List.getD_cons_zero,List.getD_cons_succ]
  refine loop_by (fun k t h' => ∃ (i : Nat) (v : Value),i + k = N ∧ forget [1,2,3,4,5,7,8,9,13,14,15,16,17,18,19,20,21,22,23,24,25,26,27,28,29,30,31,32,33,34,35,36,37,38,39,40,41,42,43,44,45,46,47,48,49,50,51,52,53,54,55,56,57,58,59,60,61,62,63,64,65,66,67,68,69,70,71,72,73,74,75,76,77,78,79,80,81,82,83,84,85,86,87,88,89,90,91,92,93,94,95,96,97,98,99,100,101,102,103,104,105,106,107,108,109,110,111] t = [.slice va n vc,Z,Z,Z,Z,Z,.slice ca n cc,Z,Z,Z,v,.slice fa N fc,.int .i64 (i : Nat),Z,Z,Z,Z,Z,Z,Z,Z,Z,Z,Z,Z,Z,Z,Z,Z,Z,Z,Z,Z,Z,Z,Z,Z,Z,Z,Z,Z,Z,Z,Z,Z,Z,Z,Z,Z,Z,Z,Z,Z,Z,Z,Z,Z,Z,Z,Z,Z,Z,Z,Z,Z,Z,Z,Z,Z,Z,Z,Z,Z,Z,Z,Z,Z,Z,Z,Z,Z,Z,Z,Z,Z,Z,Z,Z,Z,Z,Z,Z,Z,Z,Z,Z,Z,Z,Z,Z,Z,Z,Z,Z,Z,Z,Z,Z,Z,Z,Z,Z] ∧ (Lg h' v 97 3 (i) (rns (tabTo ls (i))) ∧ Keep No h0 h' ∧ ∀ m,nm v = some m → h0.next ≤ m))
    (fun e t' h' => e = .exit 2 ∧ ∃ v x41 x42 x43 x44,t' = [.slice va n vc,Z,Z,Z,Z,Z,.slice ca n cc,Z,Z,Z,v,.slice fa N fc,.int .i64 (N : Nat),Z,Z,Z,Z,Z,Z,Z,Z,Z,Z,Z,Z,Z,Z,Z,Z,Z,Z,Z,Z,Z,Z,Z,Z,Z,Z,Z,Z,x41,x42,x43,x44,Z,Z,Z,Z,Z,Z,Z,Z,Z,Z,Z,Z,Z,Z,Z,Z,Z,Z,Z,Z,Z,Z,Z,Z,Z,Z,Z,Z,Z,Z,Z,Z,Z,Z,Z,Z,Z,Z,Z,Z,Z,Z,Z,Z,Z,Z,Z,Z,Z,Z,Z,Z,Z,Z,Z,Z,Z,Z,Z,Z,Z,Z,Z,Z,Z,Z,Z] ∧ (Lg h' v 97 3 (N) (rns (tabTo ls (N))) ∧ Keep No h0 h' ∧ ∀ m,nm v = some m → h0.next ≤ m)) ?_ (N) _ _ ⟨0,_,by omega,ht,hI0⟩
  rintro k t h' ⟨i,v,hi,ht,hI⟩
  rw [ht]
  rcases Nat.lt_or_ge i (N) with h1 | h1
  · obtain ⟨lg,kp,nw⟩ := hI
    have hinc := @inc64 i (by omega)
    have hcs := cast_succ i
    have hfi := hfs _ (getD_mem (l := fs) (i := i) (by omega))
    have hlsl : ls.length = N := by rw [hls,List.length_map,hN]
    have htl := tab_len ls i (by omega)
    have hst : tabTo ls (i + 1) = insL (ls.getD i (0,0,0)) (tabTo ls i) := rfl
    have hli : ls.getD i (0,0,0) = lnO ws l n (fs.getD i 0) := by
      rw [hls,List.getD_eq_getElem?_getD,List.getElem?_map,List.getElem?_eq_getElem (by omega),List.getD_eq_getElem?_getD,List.getElem?_eq_getElem (by omega)]; rfl
    have htd : ∀ x ∈ tabTo ls i,x.2.2 < 18446744073709551616 := fun x hx => by
      have := (tabTo_perm ls i (by omega)).mem_iff.1 hx
      have h2 := List.mem_of_mem_take this
      rw [hls] at h2
      obtain ⟨f,hf,rfl⟩ := List.mem_map.1 h2
      exact (totP_pos (PosL_grpC hw hok f |> fun z => by rw [hn] at z; exact z) _).lt
    rw [hli] at hst
    obtain ⟨fa,fc,C,ce,cs,gr,ro,eb,hg,hcf⟩ := sl_idx (hF.keep kp fun _ _ x => x) h1
    simp only [Value.slice.injEq,true_and] at eb
    obtain ⟨rfl,rfl⟩ := eb
    obtain ⟨f,hff⟩ : ∃ f,fs.getD i 0 = f := ⟨_,rfl⟩
    rw [hff] at hcf hfi hst
    rw [lnO_eq] at hst
    have hslt : sumG ws l f n < 18446744073709551616 := (totP_pos (PosL_grpC hw hok f |> fun z => by rw [hn] at z; exact z) _).lt
    have hins := insL_at ((f : Int),((cntG l f n : Nat) : Int),sumG ws l f n) (tabTo ls i)
    rw [hins] at hst
    simp only at hst
    generalize htab : tabTo ls i = d at *
    have hat := insAt_le (sumG ws l f n) d
    have hlg0 := lg
    obtain ⟨oa,oc,rfl⟩ := sl_form lg.sl
    have hnv : ∀ m,nm (.slice oa i oc) = some m → m < h'.next := fun m e => lg.sl.lt e
    have gz : (h'.new (.cells [.int .i64 0,.int .i64 0,.int .u64 0] 97 3 false false)).get h'.next = some (.cells [.int .i64 0,.int .i64 0,.int .u64 0] 97 3 false false) := by rw [Heap.get_new,if_pos rfl]
    obtain ⟨h3,h3e⟩ : ∃ x,x = (h'.new (.cells [.int .i64 0,.int .i64 0,.int .u64 0] 97 3 false false)).put h'.next (some (.cells [.int .i64 (f : Nat),.int .i64 0,.int .u64 0] 97 3 false false)) := ⟨_,rfl⟩
    have k3 : Keep No h' h3 := h3e ▸ (Keep.new No h' _).also (Keep.put (S := fun m => m = h'.next) (Heap.get_lt gz) rfl _) fun m hm e => by omega
    have g3 : h3.get h'.next = some (rowO f 0 0) := by rw [h3e,Heap.get_put (Heap.get_lt gz),if_pos rfl]; rfl
    have kp3 := kp.trans k3
    have hlt0 := kp.1
    simp (maxSteps := 2000000) -implicitDefEqProofs [ble_d,beq_d,List.range_succ,List.replicate,cond_true,cond_false,h1,hg,hcf,aindexAddr,sz3,sz97,Try.underlying90,al97,gz,build97,ok97,astore,← h3e,sO26_16,undef]
    generalize hlp : loopω _ _ _ _ = r
    have c0 : cntG l f 0 = 0 := rfl
    have s0 : sumG ws l f 0 = 0 := rfl
    have hcN : nm (.slice ca n cc) ≠ some h'.next := fun e => by have := (hc.keep kp fun _ _ x => x).lt e; omega
    have hfN : nm (.slice (some fa) N fc) ≠ some h'.next := fun e => by have := (hF.keep kp fun _ _ x => x).lt e; omega
    obtain ⟨h4,x52,x53,x54,x55,hx,g4,k4⟩ := useX4 hlp (rtbC (h0 := h3) (f := f) (q := i) (N := N) (mb := h'.next) (ov := .slice oa i oc) hn (by omega) hw hok hsm hfi hN h1 hff (hv.keep kp3) (hc.keep kp3 fun _ _ x => x) (hF.keep kp3 fun _ _ x => x) (fun h hh => hsep h h'.next hlt0 ((kp3.mono fun _ _ x => x.elim).trans hh)) hcN hfN _ (by kernel_rfl) _ (by kernel_rfl) ⟨by rw [c0,s0]; exact g3,Keep.refl _ _⟩)
    subst hx
    clear hlp
    generalize cntG l f n = c at *
    generalize sumG ws l f n = s at *
    have k34 : Keep No h' h4 := k3.also k4 fun m hm e => by omega
    have lg4 : Lg h4 (.slice oa i oc) 97 3 i (rns d) := lg.keep k34 fun _ _ x => x
    simp (maxSteps := 2000000) -implicitDefEqProofs [ble_d,beq_d,List.range_succ,List.replicate,cond_true,cond_false,sO26_22,undef]
    generalize hlp : loopω _ _ _ _ = r
    obtain ⟨h5,x82,x83,x84,x85,x86,x87,x88,x89,x90,x91,x92,x93,x94,x95,x96,hx,hh⟩ := useD15 hlp (rtbD (h0 := h4) (K := i) (q := i) (mb := h'.next) (f := f) (c := c) (s := s) (d := d) (x0 := .slice va n vc) (x6 := .slice ca n cc) (x11 := .slice (some fa) N fc) htl (by omega) htd hslt lg4.sl g4 _ (by kernel_rfl) _ (by kernel_rfl) rfl)
    subst hx
    subst hh
    clear hlp
    generalize insAt s d = at' at *
    obtain ⟨⟨Fa,Fc,eF,sF,nF⟩,⟨Ba,Bc,eB,sB,nB⟩⟩ := cut60 lg4 (n := at') (by omega)
    rw [rns_take] at sF
    rw [rns_drop] at sB
    have kb1 : (i + 1) * 24 ≤ 2 ^ 47 := by omega
    obtain ⟨v6,h6,e6,lg6,k6,l6',n6⟩ := copy_lg (t := 60) Try.underlying60 el97 sF (by omega) (by omega) (rns_one _)
    have g6 := k6.get g4 fun x => x
    have g5n := (Keep.new No h5 (.cells [] 97 3 false false)).get g4 fun x => x
    have k7 := Keep.new No h6 (rowO f c s)
    have hx1 : Sl (h6.new (rowO f c s)) (.slice (some ⟨h6.next,0,none⟩) 1 1) 3 1 (rns [((f : Int),(c : Int),s)]) :=
      ⟨rfl,.inr ⟨_,_,rfl,fun _ => ⟨_,_,_,_,_,by rw [Heap.get_new,if_pos rfl],rfl⟩⟩⟩
    obtain ⟨v8,h8,e8,lg8,kp8,nv8,_,nf8⟩ := append_lg (t := 60) (xt := 60) Try.underlying60 Try.underlying60 rfl el97 (lg6.keep k7 fun _ _ x => x) hx1 (by omega) (by omega) (rns_one _)
    have f8 : ∀ m,nm v8 = some m → h5.next ≤ m := fun m e => by
      rcases Nat.lt_or_ge m (h6.new (rowO f c s)).next with y | y
      · exact n6 m (nv8 m e y)
      · have := k6.1; have := k7.1; omega
    have lt5 := k34.1
    have sB8 : Sl h8 (.slice Ba (i - at') Bc) 3 (i - at') (rns (d.drop at')) := ((sB.keep k6 fun _ _ x => x).keep k7 fun _ _ x => x).keep kp8 fun m e e2 => by
      have h9 := n6 m e2
      have h10 := hnv m (nB m e)
      omega
    obtain ⟨v9,h9,e9,lg9,kp9,nv9,_,nf9⟩ := append_lg (t := 60) (xt := 60) Try.underlying60 Try.underlying60 rfl el97 lg8 sB8 (by omega) (by omega) (rns_one _)
    have f9 : ∀ m,nm v9 = some m → h5.next ≤ m := fun m e => by
      rcases Nat.lt_or_ge m h8.next with y | y
      · exact f8 m (nv9 m e y)
      · have := k6.1; have := k7.1; have := kp8.1; omega
    have hsz : at' + 1 + (i - at') = i + 1 := by omega
    rw [← rns_app,← rns_app,List.append_assoc,List.singleton_append,← hst,hsz] at lg9
    have k58 : Keep No h5 h8 := (k6.trans k7).also kp8 fun m hm e => by have := n6 m e; omega
    have k59 : Keep No h5 h9 := k58.also kp9 fun m hm e => by have := f8 m e; omega
    have kk : Keep No h0 h9 := (kp.trans k34).trans k59
    have nn : ∀ m,nm v9 = some m → h0.next ≤ m := fun m e => by have := f9 m e; omega
    have l8 := kp8.1
    have l9 := kp9.1
    have l6 := k6.1
    have g6n := k7.get g6 fun x => x
    have g8 := k58.get g4 fun x => x
    have g9 := k59.get g4 fun x => x
    clear hst hins
    simp (maxSteps := 2000000) -implicitDefEqProofs [ble_d,beq_d,List.range_succ,List.replicate,cond_true,cond_false,pt26_24,pl26_24,an26_24,eF,eB,bs60,g4,g5n,g6,g6n,g8,g9,Try.underlying97,sz97,e6,(fun ρ y hy => bs60_1 ρ y (f : Int) (c : Int) (s : Int) hy),e8,e9,l6,l6',l8,l9,hinc,undef]
    exact ⟨_,_,_,⟨rfl,rfl,rfl⟩,k - 1,by omega,i + 1,by omega,v9,by simp (maxSteps := 2000000) only [forget,List.set_cons_succ,List.set_cons_zero,hcs],lg9,kk,nn⟩
  · obtain rfl : i = N := by omega
    simp (maxSteps := 2000000) -implicitDefEqProofs [ble_d,beq_d,List.range_succ,List.replicate,cond_true,cond_false,undef]
    exact hI
end Go.Proofs.Ytmnkmdfladbgdaa.Od

set_option linter.unusedVariables false
set_option linter.unusedSimpArgs false
namespace Go.Proofs.Ytmnkmdfladbgdaa.Od
open Go Go.Proofs Go.RowKit Go.Proofs.YtmnkmdfladbgdaaAI Go.Proofs.YtmnkmdfladbgdaaFl Go.Proofs.YtmnkmdfladbgdaaSrt
theorem useX20T {ks : List Nat} {F : Step} {t : Tm} {h : Heap} {rr : Option (AEx × Tm × Heap)} {f : Heap → Value → Value → Value → Value → Value → Value → Value → Value → Value → Value → Value → Value → Value → Value → Value → Value → Value → Value → Value → Value → Option (AEx × Tm × Heap)} {p : Heap → Value → Value → Value → Value → Value → Value → Value → Value → Value → Value → Value → Value → Value → Value → Value → Value → Value → Value → Value → Value → Prop} (hl : loopω ks F t h = rr) (H : ∃ h' x0 x1 x2 x3 x4 x5 x6 x7 x8 x9 x10 x11 x12 x13 x14 x15 x16 x17 x18 x19,loopω ks F t h = f h' x0 x1 x2 x3 x4 x5 x6 x7 x8 x9 x10 x11 x12 x13 x14 x15 x16 x17 x18 x19 ∧ p h' x0 x1 x2 x3 x4 x5 x6 x7 x8 x9 x10 x11 x12 x13 x14 x15 x16 x17 x18 x19) : ∃ h' x0 x1 x2 x3 x4 x5 x6 x7 x8 x9 x10 x11 x12 x13 x14 x15 x16 x17 x18 x19,rr = f h' x0 x1 x2 x3 x4 x5 x6 x7 x8 x9 x10 x11 x12 x13 x14 x15 x16 x17 x18 x19 ∧ p h' x0 x1 x2 x3 x4 x5 x6 x7 x8 x9 x10 x11 x12 x13 x14 x15 x16 x17 x18 x19 := hl ▸ H

theorem outs_new {h0 h : Heap} {v : Value} {l : List Oc} {m : Nat} (ho : Outs h0 v l) (hm : h0.next ≤ m) (hk : Keep (fun x => x = m) h0 h) : Outs h v l := by
  obtain ⟨vs,h1,h2,h3⟩ := ho
  refine ⟨vs,h1,h2.keep hk fun n e s => by have := h2.lt e; omega,fun i o w e1 e2 => ?_⟩
  obtain ⟨s1,s2,s3⟩ := h3 i o w e1 e2
  exact ⟨s1.keep hk fun n e s => by have := s1.lt e; omega,s2.keep hk fun n e s => by have := s2.lt e; omega,s3.keep hk fun n e s => by have := s3.lt e; omega⟩
set_option maxRecDepth 20000 in
set_option maxHeartbeats 3200000 in
theorem rtable_run {h : Heap} {v w : Value} {ws : List Nat} {l : List Oc} (hv : Outs h v l) (hk : l.length * 96 ≤ 2 ^ 47) (hsm : Small l) (hws : Sl h w 1 ws.length (us ws)) (hw : W64 ws) (kw : ws.length ≤ 2 ^ 47) :
    ∃ v' h',run Try.prog sO 26 [v,w] h = some (.tuple #[v',.int .i64 (if l.all okPk = true then 0 else 2)],h') ∧ Keep No h h' ∧ (l.all okPk = true → Sl h' v' 3 (lnsO ws l).length (rns (tabTo (lnsO ws l) (lnsO ws l).length))) ∧ (l.all okPk = false → v' = .slice none 0 0) := by
  obtain ⟨va,vc,rfl⟩ : ∃ a c,v = .slice a l.length c := by obtain ⟨_,_,hs,_⟩ := hv; exact sl_form hs
  obtain ⟨wa,wc,rfl⟩ := sl_form hws
  have hsp := ok_split l
  generalize l.all okPk = bk at hsp ⊢
  suffices hz : ∃ r,fin Try.prog Try.f26 (aexecP Try.prog (sO 26) (run Try.prog sO) loopω pt26 (Try.f26.body.getD .skip) ([.slice va l.length vc,.slice wa ws.length wc] ++ List.replicate (Try.f26.ntmps - 2) undef) h) = some r ∧ ∃ v',r.1 = .tuple #[v',.int .i64 (if bk = true then 0 else 2)] ∧ Keep No h r.2 ∧ (bk = true → Sl r.2 v' 3 (lnsO ws l).length (rns (tabTo (lnsO ws l) (lnsO ws l).length))) ∧ (bk = false → v' = .slice none 0 0) by
    obtain ⟨⟨y1,y2⟩,hy,v',rfl,q⟩ := hz
    exact ⟨v',y2,run_finP pt26 Try.func26 rfl planned26 hy,q⟩
  have hful := unlL_lt l l.length
  have hulen := unlL_len l l.length
  obtain ⟨n,hn⟩ : ∃ n,l.length = n := ⟨_,rfl⟩
  rw [hn] at hful hulen hv hk ⊢
  simp (maxSteps := 2000000) -implicitDefEqProofs [Try.f26,ble_d,beq_d,List.range_succ,List.replicate,cond_true,cond_false,sO26_3]
  generalize hl : loopω _ _ _ _ = r
  rcases hsp with ⟨rfl,hall⟩ | ⟨rfl,p,hp,hbad,hall⟩
  · obtain ⟨h3,v3,x16,x17,x18,x19,hx,lg,kp,nw⟩ := useX5 hl (rtbE (h0 := h) hn (by omega) hw kw hsm hv hws (fun i hi => hall i (by omega)) _ _ (by kernel_rfl) _ (by kernel_rfl) ⟨Lg.nil _ _ _,Keep.refl _ _,fun m e => by cases e⟩)
    subst hx
    clear hl
    have htk : l.take n = l := List.take_of_length_le (by omega)
    rw [htk] at lg
    obtain ⟨v4,h4,e4,lg4,k4,nw4⟩ := runlike_run (l := l) (hv.keep kp) (by omega) hsm
    rw [hn] at lg4
    obtain ⟨ca,cc,rfl⟩ := sl_form lg.sl
    obtain ⟨fa,fc,rfl⟩ := sl_form lg4.sl
    have hv4 := (hv.keep kp).keep k4
    simp (maxSteps := 2000000) -implicitDefEqProofs [ble_d,beq_d,List.range_succ,List.replicate,cond_true,cond_false,en52,e4,sO26_12]
    generalize hl : loopω _ _ _ _ = r
    have hlsO : lnsO ws l = (unlL l n).map (lnO ws l n) := by unfold lnsO; rw [hn]
    have hll : (lnsO ws l).length = (unlL l n).length := by rw [hlsO,List.length_map]
    obtain ⟨h6,v6,x41,x42,x43,x44,hx,lg6,k6,nw6⟩ := useX5 hl (rtbB (h0 := h4) (ws := ws) (l := l) (n := n) (fs := unlL l n) (N := (unlL l n).length) (ls := lnsO ws l) hn hk hw hall hsm rfl hulen hful hlsO hv4 (lg.sl.keep k4 fun _ _ x => x) lg4.sl (fun h m hm hh => outs_new hv4 hm hh) _ _ (by kernel_rfl) _ (by kernel_rfl) ⟨Lg.nil _ _ _,Keep.refl _ _,fun m e => by cases e⟩)
    subst hx
    clear hl
    rw [← hll] at lg6
    simp (maxSteps := 2000000) -implicitDefEqProofs [ble_d,beq_d,List.range_succ,List.replicate,cond_true,cond_false]
    exact ⟨_,_,⟨rfl,rfl⟩,_,rfl,(kp.trans k4).trans k6,lg6.sl⟩
  · obtain ⟨h3,v3,x8,x9,x16,x17,x18,x19,x22,x23,x24,x25,x26,x27,x28,x29,x30,x31,x32,x33,x34,hx,kp⟩ := useX20T hl (rtbN (h0 := h) hn (by omega) hw kw hsm hv hws p (by omega) hbad hall _ _ (by kernel_rfl) _ (by kernel_rfl) ⟨Lg.nil _ _ _,Keep.refl _ _,fun m e => by cases e⟩)
    subst hx
    simp (maxSteps := 2000000) -implicitDefEqProofs [ble_d,beq_d,List.range_succ,List.replicate,cond_true,cond_false]
    exact ⟨_,_,⟨rfl,rfl⟩,rfl,kp⟩
end Go.Proofs.Ytmnkmdfladbgdaa.Od
