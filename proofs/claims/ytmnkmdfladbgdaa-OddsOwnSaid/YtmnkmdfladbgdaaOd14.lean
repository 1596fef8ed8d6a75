/- Odds: the law OddsShares. -/
import Derived.Test.YtmnkmdfladbgdaaOd13
set_option linter.unusedVariables false
set_option linter.unusedSimpArgs false
namespace Go.Proofs.Ytmnkmdfladbgdaa.Od
open Go Go.Proofs Go.RowKit Go.Proofs.YtmnkmdfladbgdaaAI Go.Proofs.YtmnkmdfladbgdaaFl Go.Proofs.YtmnkmdfladbgdaaRnd

noncomputable def lb13 (i : Nat) : Code := (loopsOf (Try.f13.body.getD .skip)).getD i .skip
theorem rshares_bad {h : Heap} {a : Option Addr} {c k : Nat} (turn of : Int) (hb : of < 1 ∨ 4096 < of ∨ turn < 0) :
    run Try.prog sO 12 [.slice a k c,.int .i64 turn,.int .i64 of] h = some (.tuple #[.slice none 0 0,.int .i64 2],h) := by
  refine run_finP pt12 Try.func12 rfl planned12 ?_
  by_cases h1 : of < 1
  · simp (maxSteps := 2000000) -implicitDefEqProofs [Try.f12,ble_d,beq_d,List.range_succ,List.replicate,cond_true,cond_false,h1,undef]
  by_cases h2 : 4096 < of
  · simp (maxSteps := 2000000) -implicitDefEqProofs [Try.f12,ble_d,beq_d,List.range_succ,List.replicate,cond_true,cond_false,h1,h2,undef]
  by_cases h3 : turn < 0
  · simp (maxSteps := 2000000) -implicitDefEqProofs [Try.f12,ble_d,beq_d,List.range_succ,List.replicate,cond_true,cond_false,h1,h2,h3,undef]
  omega
set_option maxRecDepth 20000 in
theorem rshares_run {h : Heap} {v : Value} {ws : List Nat} (turn : Int) {n : Nat} (h1 : 1 ≤ n) (h2 : n ≤ 4096) (h3 : 0 ≤ turn) (hv : Sl h v 1 ws.length (us ws)) (hw : W64 ws) (hk : ws.length ≤ 2 ^ 47) :
    ∃ v' h',run Try.prog sO 12 [v,.int .i64 turn,.int .i64 n] h = some (.tuple #[v',.int .i64 0],h') ∧ Lg h' v' 37 1 n (us (sharesL ws turn n)) ∧ Keep No h h' ∧ ∀ m,nm v' = some m → h.next ≤ m := by
  obtain ⟨a,c,rfl⟩ := sl_form hv
  suffices hx : ∃ y,fin Try.prog Try.f12 (aexecP Try.prog (sO 12) (run Try.prog sO) loopω pt12 (Try.f12.body.getD .skip) ([.slice a ws.length c,.int .i64 turn,.int .i64 n] ++ List.replicate (Try.f12.ntmps - 3) undef) h) = some y ∧ ∃ v',y.1 = .tuple #[v',.int .i64 0] ∧ Lg y.2 v' 37 1 n (us (sharesL ws turn n)) ∧ Keep No h y.2 ∧ ∀ m,nm v' = some m → h.next ≤ m by
    obtain ⟨⟨y1,y2⟩,hy,v',rfl,q⟩ := hx
    exact ⟨v',y2,run_finP pt12 Try.func12 rfl planned12 hy,q⟩
  have c1 : ¬ ((n : Int) < 1) := by omega
  have c2 : ¬ (4096 < (n : Int)) := by omega
  have c3 : ¬ (turn < 0) := by omega
  simp (maxSteps := 2000000) -implicitDefEqProofs [Try.f12,ble_d,beq_d,List.range_succ,List.replicate,cond_true,cond_false,c1,c2,c3,undef,sO12_6]
  generalize hl : loopω _ _ _ _ = r
  obtain ⟨hB,v8,x25,x26,x27,hx,lg,kp,nw⟩ := useX4 hl (rsh1 (h0 := h) (va := a) (vc := c) (n := n) (ws := ws) turn h2 hw hk hv _ _ (by kernel_rfl) _ (by kernel_rfl) ⟨Lg.nil _ _ _,Keep.refl _ _,fun m e => by cases e⟩)
  subst hx
  clear hl
  have s8 := lg.sl
  obtain ⟨wa,wc,rfl⟩ := sl_form s8
  simp (maxSteps := 2000000) -implicitDefEqProofs [ble_d,beq_d,List.range_succ,List.replicate,cond_true,cond_false,sO12_14]
  generalize hl : loopω _ _ _ _ = r
  obtain ⟨hC,v9,x46,x47,x48,hx,lg9,kp9,nw9⟩ := useX4 hl (rsh2 (h0 := hB) (wa := wa) (wc := wc) (n := n) (ws := ws) turn (by omega) h2 hw s8 _ _ (by kernel_rfl) _ (by kernel_rfl) ⟨Lg.nil _ _ _,Keep.refl _ _,fun m e => by cases e⟩)
  subst hx
  simp (maxSteps := 2000000) -implicitDefEqProofs [ble_d,beq_d,List.range_succ,List.replicate,cond_true,cond_false]
  exact ⟨_,_,⟨rfl,rfl⟩,_,rfl,lg9,kp.trans kp9,fun m e => by have := nw9 m e; have := kp.1; omega⟩
set_option maxRecDepth 20000 in
set_option maxHeartbeats 6400000 in
theorem sbits1 {h0 : Heap} {va wa : Option Addr} {vc wc n : Nat} {l : List Nat} (hl0 : l.length = n) (hn : n ≤ 100000) (hw : W64 l) (hv : Sl h0 (.slice va n vc) 1 n (fl l)) (hv2 : Sl h0 (.slice wa n wc) 1 n (us l)) (F : Step) (hFF : F = aexecP Try.prog (sO 13) (run Try.prog sO) loopω pt13 (lb13 0)) (t : Tm)
    (ht : forget [2,3,4,5,6,7,8,9,10,11,14,15,16,17,18,19,20,21,22,23,24,25,26] t = [.slice va n vc,.slice wa n wc,Z,Z,Z,Z,Z,Z,Z,Z,Z,Z,.int .i64 n,.int .i64 (0 : Nat),Z,Z,Z,Z,Z,Z,Z,Z,Z,Z,Z,Z,Z]) (hI0 : h0 = h0) :
    ∃ h' x14,loopω [2,3,4,5,6,7,8,9,10,11,14,15,16,17,18,19,20,21,22,23,24,25,26] F t h0 = some (.exit 0,[.slice va n vc,.slice wa n wc,Z,Z,Z,Z,Z,Z,Z,Z,Z,Z,.int .i64 n,.int .i64 (n : Nat),x14,Z,Z,Z,Z,Z,Z,Z,Z,Z,Z,Z,Z],h') ∧ h' = h0 := by
  subst hFF
  suffices hs : ∃ e t' h',loopω [2,3,4,5,6,7,8,9,10,11,14,15,16,17,18,19,20,21,22,23,24,25,26] (aexecP Try.prog (sO 13) (run Try.prog sO) loopω pt13 (lb13 0)) t h0 = some (e,t',h') ∧ (e = .exit 0 ∧ ∃ x14,t' = [.slice va n vc,.slice wa n wc,Z,Z,Z,Z,Z,Z,Z,Z,Z,Z,.int .i64 n,.int .i64 (n : Nat),x14,Z,Z,Z,Z,Z,Z,Z,Z,Z,Z,Z,Z] ∧ h' = h0) by
    obtain ⟨e,t',h',q1,rfl,x14,rfl,q2⟩ := hs
    exact ⟨h',x14,q1,q2⟩
  simp only [lb13,Try.f13,loopsOf,Option.getD_some,List.nil_append,List.append_nil,List.cons_append,List.getD_cons_zero,List.getD_cons_succ]
  refine loop_by (fun k t h' => ∃ (i : Nat),i + k = n ∧ forget [2,3,4,5,6,7,8,9,10,11,14,15,16,17,18,19,20,21,22,23,24,25,26] t = [.slice va n vc,.slice wa n wc,Z,Z,Z,Z,Z,Z,Z,Z,Z,Z,.int .i64 n,.int .i64 (i : Nat),Z,Z,Z,Z,Z,Z,Z,Z,Z,Z,Z,Z,Z] ∧ h' = h0)
    (fun e t' h' => e = .exit 0 ∧ ∃ x14,t' = [.slice va n vc,.slice wa n wc,Z,Z,Z,Z,Z,Z,Z,Z,Z,Z,.int .i64 n,.int .i64 (n : Nat),x14,Z,Z,Z,Z,Z,Z,Z,Z,Z,Z,Z,Z] ∧ h' = h0) ?_ (n) _ _ ⟨0,by omega,ht,hI0⟩
  rintro k t h' ⟨i,hi,ht,hI⟩
  rw [ht]
  rcases Nat.lt_or_ge i (n) with h1 | h1
  · have hinc := @inc64 i (by omega)
    have hcs := cast_succ i
    subst hI
    obtain ⟨va,vc,C,ce,cs,gr,ro,eb,hg,hc⟩ := sl_fl hv h1
    simp only [Value.slice.injEq,true_and] at eb
    obtain ⟨rfl,rfl⟩ := eb
    obtain ⟨wa,wc,C2,ce2,cs2,gr2,ro2,eb,hg2,hc2⟩ := sl_u64 hv2 h1
    simp only [Value.slice.injEq,true_and] at eb
    obtain ⟨rfl,rfl⟩ := eb
    have hwi := hw.get i
    generalize l.getD i 0 = x at *
    have hf := fun t y hy => fb18 t y x hy hwi
    simp (maxSteps := 2000000) -implicitDefEqProofs [ble_d,beq_d,List.range_succ,List.replicate,cond_true,cond_false,h1,pt13_6,pl13_6,an13_6,aindexAddr,sz34,sz37,Try.underlying24,Try.underlying22,hg,hc,hg2,hc2,en18,hf,ibne,hinc,undef]
    exact ⟨k - 1,by omega,i + 1,by omega,by simp (maxSteps := 2000000) only [forget,List.set_cons_succ,List.set_cons_zero,hcs]⟩
  · obtain rfl : i = n := by omega
    simp (maxSteps := 2000000) -implicitDefEqProofs [ble_d,beq_d,List.range_succ,List.replicate,cond_true,cond_false]
    exact hI

theorem samebits_run {h : Heap} {v w : Value} {n : Nat} {l : List Nat} (hl0 : l.length = n) (hn : n ≤ 100000) (hw : W64 l) (hv : Sl h v 1 n (fl l)) (hv2 : Sl h w 1 n (us l)) : run Try.prog sO 13 [v,w] h = some (.bool true,h) := by
  obtain ⟨va,vc,rfl⟩ := sl_form hv
  obtain ⟨wa,wc,rfl⟩ := sl_form hv2
  suffices hx : ∃ y,fin Try.prog Try.f13 (aexecP Try.prog (sO 13) (run Try.prog sO) loopω pt13 (Try.f13.body.getD .skip) ([.slice va n vc,.slice wa n wc] ++ List.replicate (Try.f13.ntmps - 2) undef) h) = some y ∧ y.1 = .bool true ∧ y.2 = h by
    obtain ⟨⟨y1,y2⟩,hy,rfl,rfl⟩ := hx
    exact run_finP pt13 Try.func13 rfl planned13 hy
  simp (maxSteps := 2000000) -implicitDefEqProofs [Try.f13,ble_d,beq_d,List.range_succ,List.replicate,cond_true,cond_false,ibne,sO13]
  generalize hl : loopω _ _ _ _ = r
  obtain ⟨h3,x14,hx,hh⟩ := useX1 hl (sbits1 (h0 := h) (va := va) (vc := vc) (wa := wa) (wc := wc) (n := n) (l := l) hl0 hn hw hv hv2 _ (by kernel_rfl) _ (by kernel_rfl) rfl)
  subst hx
  subst hh
  simp (maxSteps := 2000000) -implicitDefEqProofs [ble_d,beq_d,List.range_succ,List.replicate,cond_true,cond_false]
theorem sharesL_w {ws : List Nat} (hw : W64 ws) (turn : Int) {n : Nat} (hn : n ≤ 4096) : W64 (sharesL ws turn n) := fun x hx => by
  obtain ⟨j,hj,rfl⟩ := List.mem_map.1 hx
  have := shB_le hw turn (List.mem_range.1 hj) hn
  omega
end Go.Proofs.Ytmnkmdfladbgdaa.Od
