/- Odds: the law OddsShares. -/
import Derived.Test.YtmnkmdfladbgdaaOd13
set_option linter.unusedVariables false
set_option linter.unusedSimpArgs false
namespace Go.Proofs.Ytmnkmdfladbgdaa.Od
open Go Go.Proofs Go.RowKit Go.Proofs.YtmnkmdfladbgdaaAI Go.Proofs.YtmnkmdfladbgdaaFl Go.Proofs.YtmnkmdfladbgdaaRnd

noncomputable def lb13 (i : Nat) : Code := (loopsOf (Try.f13.body.getD .skip)).getD i .skip
set_option maxRecDepth 20000 in
theorem rshares_run {h : Heap} {v : Value} {ws : List Nat} (turn : Int) {n : Nat} (h1 : 1 ≤ n) (h2 : n ≤ 4096) (h3 : 0 ≤ turn) (hv : Sl h v 1 ws.length (us ws)) (hw : W64 ws) (hk : ws.length ≤ 2 ^ 47) :
    ∃ v' h',run Try.prog sO 12 [v,.int .i64 turn,.int .i64 n] h = some (.tuple #[v',.int .i64 0],h') ∧ Lg h' v' 37 1 n (us (sharesL ws turn n)) ∧ Keep No h h' ∧ ∀ m,nm v' = some m → h.next ≤ m := by
  obtain ⟨a,c,rfl⟩ := sl_form hv
  suffices hx : ∃ y,fin Try.prog Try.f12 (aexecP Try.prog (sO 12) (run Try.prog sO) loopω pt12 (Try.f12.body.getD .skip) ([.slice a ws.length c,.int .i64 turn,.int .i64 n] ++ List.replicate (Try.f12.ntmps - 3) undef) h) = some y ∧ ∃ v',y.1 = .tuple #[v',.int .i64 0] ∧ Lg y.2 v' 37 1 n (us (sharesL ws turn n)) ∧ Keep No h y.2 ∧ ∀ m,nm v' = some m → h.next ≤ m by
    obtain ⟨⟨y1,y2⟩,hy,v',rfl,q⟩ := hx
    exact ⟨v',y2,run_finP pt12 Try.func12 rfl planned12 hy,q⟩
  have c1 : ¬ ((n : Int) < 1) := by omega
  have c2 : ¬ (4096 < (n : Int)) := by omega
  have c3 : ¬ (turn < 0) := by omega
  simp (maxSteps := 2000000) -implicitDefEqProofs [Try.f12,ble_d,beq_d,List.range_succ,List.replicate,cond_true,cond_false,c1,c2,c3,undef,sO12_6]
  generalize hl : loopω _ _ _ _ = r
  obtain ⟨hB,v8,x25,x26,x27,hx,lg,kp,nw⟩ := useX4 hl (rsh1 (h0 := h) (va := a) (vc := c) (n := n) (ws := ws) turn h2 hw hk hv _ _ (by kernel_rfl) _ (by kernel_rfl) ⟨Lg.nil _ _ _,Keep.refl _ _,fun m e => by cases e⟩)
  subst hx
  clear hl
  have s8 := lg.sl
  obtain ⟨wa,wc,rfl⟩ := sl_form s8
  simp (maxSteps := 2000000) -implicitDefEqProofs [ble_d,beq_d,List.range_succ,List.replicate,cond_true,cond_false,sO12_14]
  generalize hl : loopω _ _ _ _ = r
  obtain ⟨hC,v9,x46,x47,x48,hx,lg9,kp9,nw9⟩ := useX4 hl (rsh2 (h0 := hB) (wa := wa) (wc := wc) (n := n) (ws := ws) turn (by omega) h2 hw s8 _ _ (by kernel_rfl) _ (by kernel_rfl) ⟨Lg.nil _ _ _,Keep.refl _ _,fun m e => by cases e⟩)
  subst hx
  simp (maxSteps := 2000000) -implicitDefEqProofs [ble_d,beq_d,List.range_succ,List.replicate,cond_true,cond_false]
  exact ⟨_,_,⟨rfl,rfl⟩,_,rfl,lg9,kp.trans kp9,fun m e => by have := nw9 m e; have := kp.1; omega⟩
end Go.Proofs.Ytmnkmdfladbgdaa.Od
