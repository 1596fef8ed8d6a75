/- Odds: lines plainly, and how they are compared. -/
import Derived.Test.YtmnkmdfladbgdaaOt9
import Derived.Test.YtmnkmdfladbgdaaOt10
import Derived.Test.YtmnkmdfladbgdaaOt8
import Derived.Test.YtmnkmdfladbgdaaOd29
set_option linter.unusedVariables false
set_option linter.unusedSimpArgs false
namespace Go.Proofs.Ytmnkmdfladbgdaa.Od
open Go Go.Proofs Go.RowKit Go.Proofs.YtmnkmdfladbgdaaAI Go.Proofs.YtmnkmdfladbgdaaFl Go.Proofs.YtmnkmdfladbgdaaSrt

variable {lo : Ln → Ln → Prop} {tag : Ln → Int} {r : Ln → Ln → Int} {h0 : Heap} {m : Nat} {cap : Value} {N : Ln → Prop}
/-- The merge. -/
theorem sym_all (hL : LO lo tag (clo r)) (hC : CmpH h0 m cap N r) : ∀ n a c b,a < c → c < b → b - a ≤ n → SymAt lo tag h0 m cap N a c b := by
  intro n
  induction n with
  | zero => intro a c b h1 h2 h3; omega
  | succ n ih =>
    intro a c b h1 h2 h3
    by_cases e1 : c = a + 1
    · exact fun h d hd hdom q1 q2 s1 s2 ht => sym1 hL hC hd hdom e1 h2 q1 q2 s2 ht
    · by_cases e2 : b = c + 1
      · subst e2
        exact fun h d hd hdom q1 q2 s1 s2 ht => sym2 hL hC hd hdom (by omega) q1 q2 s1 ht
      · by_cases hm : (a + b) / 2 < c
        · exact symA hL hC (by omega) (by omega) hm fun a' c' b' z1 z2 z3 => ih a' c' b' z1 z2 (by omega)
        · exact symB hL hC (by omega) (by omega) hm fun a' c' b' z1 z2 z3 => ih a' c' b' z1 z2 (by omega)
end Go.Proofs.Ytmnkmdfladbgdaa.Od

set_option linter.unusedVariables false
set_option linter.unusedSimpArgs false
namespace Go.Proofs.Ytmnkmdfladbgdaa.Od
open Go Go.Proofs Go.RowKit Go.Proofs.YtmnkmdfladbgdaaAI Go.Proofs.YtmnkmdfladbgdaaFl Go.Proofs.YtmnkmdfladbgdaaSrt

variable {lo : Ln → Ln → Prop} {tag : Ln → Int} {r : Ln → Ln → Int} {h0 : Heap} {m : Nat} {cap : Value} {N : Ln → Prop}
/-- Equal (so that simp leaves it). -/
def EqN (a b : Nat) : Prop := a = b
set_option maxRecDepth 20000 in
set_option maxHeartbeats 3200000 in
theorem stable_run (hL : LO lo tag (clo r)) (hC : CmpH h0 m cap N r) (hS : ∀ a c b,a < c → c < b → SymAt lo tag h0 m cap N a c b) {h : Heap} {d : List Ln} (hd : DH h0 m h d) (hdom : Dom N d) (hN : d.length ≤ 2 ^ 47) (ha : Asc tag 0 d.length d) :
    ∃ h' d',run Try.prog sO 80 [VL m d.length,.int .i64 (d.length : Nat),CV cap] h = some (.tuple #[],h') ∧ DH h0 m h' d' ∧ Im 0 d.length d d' ∧ Srt lo 0 d.length d' := by
  suffices hx : ∃ y,fin Try.prog Try.f80 (aexecP Try.prog (sO 80) (run Try.prog sO) loopω pt80 (Try.f80.body.getD .skip) ([VL m d.length,.int .i64 (d.length : Nat),CV cap] ++ List.replicate (Try.f80.ntmps - 3) undef) h) = some y ∧ y.1 = .tuple #[] ∧ ∃ d',DH h0 m y.2 d' ∧ Im 0 d.length d d' ∧ Srt lo 0 d.length d' by
    obtain ⟨⟨y1,y2⟩,hy,rfl,d',q1,q2⟩ := hx
    exact ⟨y2,d',run_finP pt80 Try.func80 rfl planned80 hy,q1,q2⟩
  generalize hn : d.length = n at *
  simp (maxSteps := 2000000) -implicitDefEqProofs [Try.f80,ble_d,beq_d,List.range_succ,List.replicate,cond_true,cond_false,sO80_2]
  generalize hl : loopω _ _ _ _ = rr
  obtain ⟨e,t',h',hx,he,p,B,hB,x11,x12,x13,ht,hpn,d1,hd1,hF⟩ : ∃ e t' h',rr = some (e,t',h') ∧ e = .exit 0 ∧ ∃ (p B : Nat),EqN B (p + 20) ∧ ∃ x11 x12 x13,t' = [VL m n,.int .i64 (n : Nat),CV cap,Z,Z,Z,.int .i64 20,.int .i64 (p : Nat),.int .i64 (B : Nat),Z,Z,x11,x12,x13,Z,Z,Z,Z,Z,Z,Z,Z,Z,Z,Z,Z,Z,Z,Z,Z,Z,Z,Z,Z,Z,Z,Z,Z,Z,Z,Z,Z,Z,Z,Z,Z,Z,Z,Z,Z,Z,Z,Z,Z,Z,Z,Z,Z,Z,Z,Z,Z,Z] ∧ n < p + 20 ∧ ∃ d',DH h0 m h' d' ∧ Fi lo tag n p d d' := by
    rw [← hl]
    refine loop_by (fun k t h' => ∃ p B : Nat,EqN B (p + 20) ∧ n - p = k ∧ forget [3,4,5,9,10,11,12,13,14,15,16,17,18,19,20,21,22,23,24,25,26,27,28,29,30,31,32,33,34,35,36,37,38,39,40,41,42,43,44,45,46,47,48,49,50,51,52,53,54,55,56,57,58,59,60,61,62] t = [VL m n,.int .i64 (n : Nat),CV cap,Z,Z,Z,.int .i64 20,.int .i64 (p : Nat),.int .i64 (B : Nat),Z,Z,Z,Z,Z,Z,Z,Z,Z,Z,Z,Z,Z,Z,Z,Z,Z,Z,Z,Z,Z,Z,Z,Z,Z,Z,Z,Z,Z,Z,Z,Z,Z,Z,Z,Z,Z,Z,Z,Z,Z,Z,Z,Z,Z,Z,Z,Z,Z,Z,Z,Z,Z,Z] ∧ ∃ d',DH h0 m h' d' ∧ Fi lo tag n p d d')
      (fun e t' h' => e = .exit 0 ∧ ∃ (p B : Nat),EqN B (p + 20) ∧ ∃ x11 x12 x13,t' = [VL m n,.int .i64 (n : Nat),CV cap,Z,Z,Z,.int .i64 20,.int .i64 (p : Nat),.int .i64 (B : Nat),Z,Z,x11,x12,x13,Z,Z,Z,Z,Z,Z,Z,Z,Z,Z,Z,Z,Z,Z,Z,Z,Z,Z,Z,Z,Z,Z,Z,Z,Z,Z,Z,Z,Z,Z,Z,Z,Z,Z,Z,Z,Z,Z,Z,Z,Z,Z,Z,Z,Z,Z,Z,Z,Z] ∧ n < p + 20 ∧ ∃ d',DH h0 m h' d' ∧ Fi lo tag n p d d') ?_ n _ _ ⟨0,20,rfl,by omega,by kernel_rfl,d,hd,fi_start ha⟩
    rintro k t h' ⟨p,B,hB,rfl,ht,d1,hd1,hF⟩
    have hB' : B = p + 20 := hB
    replace hB := hB'
    clear hB'
    rw [ht]
    have hlen := hF.im.len
    by_cases h1 : B ≤ n
    · obtain ⟨h2,d2,e49,hd2,him,hs⟩ := ins_run hL hC hd1 (hdom.perm hF.im.perm) (a := p) (b := B) (by omega) (by omega) (by omega) (fi_asc hF ha (by omega))
      rw [hlen,hn] at e49
      have hF2 := fi_step hF (by omega) (by rw [← hB]; exact him) (by rw [← hB]; exact hs)
      rw [← hB] at hF2
      have w1 : IntKind.i64.wrap ((B : Int) + 20) = ((B + 20 : Nat) : Int) := by rw [IntWalk.i64_in _ (by omega)]; omega
      have c1 : ((B + 20 : Nat) : Int) = (B : Int) + 20 := by omega
      simp (maxSteps := 2000000) -implicitDefEqProofs [ble_d,beq_d,List.range_succ,List.replicate,cond_true,cond_false,h1,en96,e49,w1]
      exact ⟨n - B,by omega,B,B + 20,rfl,rfl,by simp (maxSteps := 2000000) only [forget,List.set_cons_succ,List.set_cons_zero,c1],d2,hd2,hF2⟩
    · simp (maxSteps := 2000000) -implicitDefEqProofs [ble_d,beq_d,List.range_succ,List.replicate,cond_true,cond_false,h1]
      exact ⟨p,B,hB,⟨rfl,rfl⟩,by omega,d1,hd1,hF⟩
  subst hx he ht
  clear hl
  have hB' : B = p + 20 := hB
  have hlen := hF.im.len
  have hpn2 := hF.pn
  obtain ⟨h2,d2,e49,hd2,him,hs⟩ := ins_run hL hC hd1 (hdom.perm hF.im.perm) (a := p) (b := n) hpn2 (by omega) (by omega) (fi_asc hF ha (by omega))
  rw [hlen,hn] at e49
  have hK := fi_done hF hpn him hs
  have e49' := e49
  simp (maxSteps := 2000000) -implicitDefEqProofs [ble_d,beq_d,List.range_succ,List.replicate,cond_true,cond_false,en96,e49',sO80_7]
  clear hF him hs hd1 e49 e49'
  generalize hl : loopω _ _ _ _ = rr
  obtain ⟨e,t',h',hx,he,bs,x28,x29,x30,ht,hbn,d1,hd1,hK⟩ : ∃ e t' h',rr = some (e,t',h') ∧ e = .exit 2 ∧ ∃ (bs : Nat),∃ x28 x29 x30,t' = [VL m n,.int .i64 (n : Nat),CV cap,Z,Z,Z,.int .i64 (bs : Nat),Z,Z,Z,Z,Z,Z,Z,Z,Z,Z,Z,Z,Z,Z,Z,Z,Z,Z,Z,Z,Z,x28,x29,x30,Z,Z,Z,Z,Z,Z,Z,Z,Z,Z,Z,Z,Z,Z,Z,Z,Z,Z,Z,Z,Z,Z,Z,Z,Z,Z,Z,Z,Z,Z,Z,Z] ∧ n ≤ bs ∧ ∃ d',DH h0 m h' d' ∧ Bk lo tag n bs 0 d d' := by
    rw [← hl]
    refine loop_by (fun k t h' => ∃ bs : Nat,0 < bs ∧ bs ≤ 2 * n + 20 ∧ 2 * n + 20 - bs = k ∧ forget [3,4,5,7,8,9,10,11,12,13,14,15,16,17,18,19,20,21,22,23,24,25,26,27,28,29,30,31,32,33,34,35,36,37,38,39,40,41,42,43,44,45,46,47,48,49,50,51,52,53,54,55,56,57,58,59,60,61,62] t = [VL m n,.int .i64 (n : Nat),CV cap,Z,Z,Z,.int .i64 (bs : Nat),Z,Z,Z,Z,Z,Z,Z,Z,Z,Z,Z,Z,Z,Z,Z,Z,Z,Z,Z,Z,Z,Z,Z,Z,Z,Z,Z,Z,Z,Z,Z,Z,Z,Z,Z,Z,Z,Z,Z,Z,Z,Z,Z,Z,Z,Z,Z,Z,Z,Z,Z,Z,Z,Z,Z,Z] ∧ ∃ d',DH h0 m h' d' ∧ Bk lo tag n bs 0 d d')
      (fun e t' h' => e = .exit 2 ∧ ∃ (bs : Nat),∃ x28 x29 x30,t' = [VL m n,.int .i64 (n : Nat),CV cap,Z,Z,Z,.int .i64 (bs : Nat),Z,Z,Z,Z,Z,Z,Z,Z,Z,Z,Z,Z,Z,Z,Z,Z,Z,Z,Z,Z,Z,x28,x29,x30,Z,Z,Z,Z,Z,Z,Z,Z,Z,Z,Z,Z,Z,Z,Z,Z,Z,Z,Z,Z,Z,Z,Z,Z,Z,Z,Z,Z,Z,Z,Z,Z] ∧ n ≤ bs ∧ ∃ d',DH h0 m h' d' ∧ Bk lo tag n bs 0 d d') ?_ (2 * n + 20 - 20) _ _ ⟨20,by omega,by omega,rfl,by kernel_rfl,d2,hd2,hK⟩
    clear hl
    rintro k t h' ⟨bs,hb0,hb2,rfl,ht,d1,hd1,hK⟩
    rw [ht]
    by_cases h1 : bs < n
    · obtain ⟨b2,hbb⟩ : ∃ x,x = 2 * bs := ⟨_,rfl⟩
      have w1 : IntKind.i64.wrap (2 * (bs : Int)) = (b2 : Int) := by rw [IntWalk.i64_in _ (by omega)]; omega
      have w2 : IntKind.i64.wrap ((bs : Int) * 2) = (b2 : Int) := by rw [IntWalk.i64_in _ (by omega)]; omega
      simp (maxSteps := 2000000) -implicitDefEqProofs [ble_d,beq_d,List.range_succ,List.replicate,cond_true,cond_false,h1,w1,sO80_9]
      generalize hl2 : loopω _ _ _ _ = r2
      obtain ⟨e,t2,h2',hx2,he2,p,B,hB,x33,x34,x35,ht2,hpn,d3,hd3,hK3⟩ : ∃ e t' h',r2 = some (e,t',h') ∧ e = .exit 4 ∧ ∃ (p B : Nat),EqN B (p + b2) ∧ ∃ x33 x34 x35,t' = [VL m n,.int .i64 (n : Nat),CV cap,Z,Z,Z,.int .i64 (bs : Nat),.int .i64 (p : Nat),.int .i64 (B : Nat),Z,Z,Z,Z,Z,Z,Z,Z,Z,Z,Z,Z,Z,Z,Z,Z,Z,Z,Z,Z,Z,Z,Z,Z,x33,x34,x35,Z,Z,Z,Z,Z,Z,Z,Z,Z,Z,Z,Z,Z,Z,Z,Z,Z,Z,Z,Z,Z,Z,Z,Z,Z,Z,Z] ∧ n < p + b2 ∧ ∃ d',DH h0 m h' d' ∧ Bk lo tag n bs p d d' := by
        rw [← hl2]
        refine loop_by (fun k t h' => ∃ p B : Nat,EqN B (p + b2) ∧ n - p = k ∧ forget [3,4,5,9,10,11,12,13,14,15,16,17,18,19,20,21,22,23,24,25,26,27,28,29,30,31,32,33,34,35,36,37,38,39,40,41,42,43,44,45,46,47,48,49,50,51,52,53,54,55,56,57,58,59,60,61,62] t = [VL m n,.int .i64 (n : Nat),CV cap,Z,Z,Z,.int .i64 (bs : Nat),.int .i64 (p : Nat),.int .i64 (B : Nat),Z,Z,Z,Z,Z,Z,Z,Z,Z,Z,Z,Z,Z,Z,Z,Z,Z,Z,Z,Z,Z,Z,Z,Z,Z,Z,Z,Z,Z,Z,Z,Z,Z,Z,Z,Z,Z,Z,Z,Z,Z,Z,Z,Z,Z,Z,Z,Z,Z,Z,Z,Z,Z,Z] ∧ ∃ d',DH h0 m h' d' ∧ Bk lo tag n bs p d d')
          (fun e t' h' => e = .exit 4 ∧ ∃ (p B : Nat),EqN B (p + b2) ∧ ∃ x33 x34 x35,t' = [VL m n,.int .i64 (n : Nat),CV cap,Z,Z,Z,.int .i64 (bs : Nat),.int .i64 (p : Nat),.int .i64 (B : Nat),Z,Z,Z,Z,Z,Z,Z,Z,Z,Z,Z,Z,Z,Z,Z,Z,Z,Z,Z,Z,Z,Z,Z,Z,x33,x34,x35,Z,Z,Z,Z,Z,Z,Z,Z,Z,Z,Z,Z,Z,Z,Z,Z,Z,Z,Z,Z,Z,Z,Z,Z,Z,Z,Z] ∧ n < p + b2 ∧ ∃ d',DH h0 m h' d' ∧ Bk lo tag n bs p d d') ?_ n _ _ ⟨0,b2,by unfold EqN; omega,by omega,by kernel_rfl,d1,hd1,hK⟩
        clear hl2
        rintro k t h2' ⟨p,B,hB,rfl,ht,d3,hd3,hK3⟩
        have hB' : B = p + b2 := hB
        replace hB := hB'
        clear hB'
        rw [ht]
        have hlen := hK3.im.len
        by_cases h3 : B ≤ n
        · obtain ⟨c,hc⟩ : ∃ x,x = p + bs := ⟨_,rfl⟩
          obtain ⟨z1,z2,z3⟩ := bk_pre hK3 (b := B) (by omega) (by omega) (by omega)
          rw [← hc] at z1 z2 z3
          obtain ⟨h4,d4,e50,hd4,him,hs⟩ := hS p c B (by omega) (by omega) h2' d3 hd3 (hdom.perm hK3.im.perm) (by omega) (by omega) z1 z2 z3
          rw [hlen,hn] at e50
          have eB : B = p + 2 * bs := by omega
          have hK4 := bk_step hK3 hb0 (by omega) (by rw [← eB]; exact him) (by rw [← eB]; exact hs)
          rw [← eB] at hK4
          obtain ⟨B',hB'⟩ : ∃ x,x = B + b2 := ⟨_,rfl⟩
          have w3 : IntKind.i64.wrap ((p : Int) + (bs : Int)) = (c : Int) := by rw [IntWalk.i64_in _ (by omega)]; omega
          have w4 : IntKind.i64.wrap ((B : Int) + (b2 : Int)) = (B' : Int) := by rw [IntWalk.i64_in _ (by omega)]; omega
          simp (maxSteps := 2000000) -implicitDefEqProofs [ble_d,beq_d,List.range_succ,List.replicate,cond_true,cond_false,h3,w1,w3,w4,en97,e50]
          exact ⟨n - B,by omega,B,B',hB',rfl,by simp (maxSteps := 2000000) only [forget,List.set_cons_succ,List.set_cons_zero],d4,hd4,hK4⟩
        · simp (maxSteps := 2000000) -implicitDefEqProofs [ble_d,beq_d,List.range_succ,List.replicate,cond_true,cond_false,h3]
          exact ⟨p,B,hB,⟨rfl,rfl⟩,by omega,d3,hd3,hK3⟩
      subst hx2 he2 ht2
      clear hl2
      have hlen := hK3.im.len
      have hpn3 := hK3.pn
      obtain ⟨c,hc⟩ : ∃ x,x = p + bs := ⟨_,rfl⟩
      have w3 : IntKind.i64.wrap ((p : Int) + (bs : Int)) = (c : Int) := by rw [IntWalk.i64_in _ (by omega)]; omega
      by_cases h5 : c < n
      · obtain ⟨z1,z2,z3⟩ := bk_pre hK3 (b := n) (by omega) (by omega) (by omega)
        rw [← hc] at z1 z2 z3
        obtain ⟨h4,d4,e50,hd4,him,hs⟩ := hS p c n (by omega) (by omega) h2' d3 hd3 (hdom.perm hK3.im.perm) (by omega) (by omega) z1 z2 z3
        rw [hlen,hn] at e50
        have hK4 := bk_done hK3 hb0 (by omega) him hs
        rw [← hbb] at hK4
        simp (maxSteps := 2000000) -implicitDefEqProofs [ble_d,beq_d,List.range_succ,List.replicate,cond_true,cond_false,w2,w3,h5,en97,e50]
        exact ⟨_,_,_,⟨rfl,rfl,rfl⟩,2 * n + 20 - b2,by omega,b2,by omega,by omega,rfl,by simp (maxSteps := 2000000) only [forget,List.set_cons_succ,List.set_cons_zero],d4,hd4,hK4⟩
      · have hs := bk_rest hK3 (by omega)
        have hK4 := bk_done hK3 hb0 (by omega) (Im.refl _ _ _) hs
        rw [← hbb] at hK4
        simp (maxSteps := 2000000) -implicitDefEqProofs [ble_d,beq_d,List.range_succ,List.replicate,cond_true,cond_false,w2,w3,h5]
        exact ⟨_,_,_,⟨rfl,rfl,rfl⟩,2 * n + 20 - b2,by omega,b2,by omega,by omega,rfl,by simp (maxSteps := 2000000) only [forget,List.set_cons_succ,List.set_cons_zero],d3,hd3,hK4⟩
    · simp (maxSteps := 2000000) -implicitDefEqProofs [ble_d,beq_d,List.range_succ,List.replicate,cond_true,cond_false,h1]
      exact ⟨bs,rfl,by omega,d1,hd1,hK⟩
  subst hx he ht
  have hE := bk_end hK hbn
  simp (maxSteps := 2000000) -implicitDefEqProofs [ble_d,beq_d,List.range_succ,List.replicate,cond_true,cond_false]
  exact ⟨_,_,⟨rfl,rfl⟩,rfl,d1,hd1,hE⟩
theorem sort_run (hL : LO lo tag (clo r)) (hC : CmpH h0 m cap N r) (hS : ∀ a c b,a < c → c < b → SymAt lo tag h0 m cap N a c b) {h : Heap} {d : List Ln} (hd : DH h0 m h d) (hdom : Dom N d) (hN : d.length ≤ 2 ^ 47) (ha : Asc tag 0 d.length d) :
    ∃ h' d',run Try.prog sO 49 [VL m d.length,CV cap] h = some (.tuple #[],h') ∧ DH h0 m h' d' ∧ Im 0 d.length d d' ∧ Srt lo 0 d.length d' := by
  obtain ⟨h',d',e,q1,q2,q3⟩ := stable_run hL hC hS hd hdom hN ha
  refine ⟨h',d',run_finP (fun _ => ([],[])) Try.func49 rfl (by kernel_rfl) ?_,q1,q2,q3⟩
  simp (maxSteps := 2000000) -implicitDefEqProofs [Try.f49,ble_d,beq_d,List.range_succ,List.replicate,cond_true,cond_false,Try.underlying56,Try.underlying67,en80,e]
end Go.Proofs.Ytmnkmdfladbgdaa.Od

set_option linter.unusedVariables false
set_option linter.unusedSimpArgs false
namespace Go.Proofs.Ytmnkmdfladbgdaa.Od
open Go Go.Proofs Go.RowKit Go.Proofs.YtmnkmdfladbgdaaAI Go.Proofs.YtmnkmdfladbgdaaFl Go.Proofs.YtmnkmdfladbgdaaSrt

/-- The sum of floats from nought on. -/
def totP (cs : List Nat) : Nat → Nat
  | 0 => 0
  | i + 1 => addB (totP cs i) (cs.getD i 0)
def PosL (cs : List Nat) : Prop := ∀ x ∈ cs,Pos x
theorem PosL.get {cs : List Nat} (h : PosL cs) (i : Nat) : Pos (cs.getD i 0) := by
  rw [List.getD_eq_getElem?_getD]
  cases hx : cs[i]? with
  | none => unfold Pos; simp
  | some x => exact h x (List.mem_of_getElem? hx)
theorem totP_pos {cs : List Nat} (h : PosL cs) (i : Nat) : Pos (totP cs i) := by
  induction i with
  | zero => show (0 : Nat) ≤ _; omega
  | succ i ih => exact (addB_ok ih (h.get i)).2.1
set_option maxRecDepth 20000 in
set_option maxHeartbeats 6400000 in
theorem tot1P {h0 : Heap} {va : Option Addr} {vc n : Nat} {cs : List Nat} (hn : cs.length = n) (hk : n ≤ 2 ^ 47) (hw : PosL cs) (hv : Sl h0 (.slice va n vc) 1 n (fl cs)) (F : Step) (hFF : F = aexecP Try.prog (sO 20) (run Try.prog sO) loopω pt20 (lb20 0)) (t : Tm)
    (ht : forget [0,1,2,4,5,9,10,11,12,13,14,15,16,17,18,19,20] t = [Z,Z,Z,.float .f64 (totP cs (0)),Z,Z,.slice va n vc,.int .i64 n,.int .i64 (0 : Nat),Z,Z,Z,Z,Z,Z,Z,Z,Z,Z,Z,Z]) (hI0 : h0 = h0) :
    ∃ h' x9,loopω [0,1,2,4,5,9,10,11,12,13,14,15,16,17,18,19,20] F t h0 = some (.exit 0,[Z,Z,Z,.float .f64 (totP cs (n)),Z,Z,.slice va n vc,.int .i64 n,.int .i64 (n : Nat),x9,Z,Z,Z,Z,Z,Z,Z,Z,Z,Z,Z],h') ∧ h' = h0 := by
  subst hFF
  suffices hs : ∃ e t' h',loopω [0,1,2,4,5,9,10,11,12,13,14,15,16,17,18,19,20] (aexecP Try.prog (sO 20) (run Try.prog sO) loopω pt20 (lb20 0)) t h0 = some (e,t',h') ∧ (e = .exit 0 ∧ ∃ x9,t' = [Z,Z,Z,.float .f64 (totP cs (n)),Z,Z,.slice va n vc,.int .i64 n,.int .i64 (n : Nat),x9,Z,Z,Z,Z,Z,Z,Z,Z,Z,Z,Z] ∧ h' = h0) by
    obtain ⟨e,t',h',q1,rfl,x9,rfl,q2⟩ := hs
    exact ⟨h',x9,q1,q2⟩
  simp only [lb20,Try.f20,loopsOf,Option.getD_some,List.nil_append,List.append_nil,List.cons_append,List.getD_cons_zero,List.getD_cons_succ]
  refine loop_by (fun k t h' => ∃ (i : Nat),i + k = n ∧ forget [0,1,2,4,5,9,10,11,12,13,14,15,16,17,18,19,20] t = [Z,Z,Z,.float .f64 (totP cs (i)),Z,Z,.slice va n vc,.int .i64 n,.int .i64 (i : Nat),Z,Z,Z,Z,Z,Z,Z,Z,Z,Z,Z,Z] ∧ h' = h0)
    (fun e t' h' => e = .exit 0 ∧ ∃ x9,t' = [Z,Z,Z,.float .f64 (totP cs (n)),Z,Z,.slice va n vc,.int .i64 n,.int .i64 (n : Nat),x9,Z,Z,Z,Z,Z,Z,Z,Z,Z,Z,Z] ∧ h' = h0) ?_ (n) _ _ ⟨0,by omega,ht,hI0⟩
  rintro k t h' ⟨i,hi,ht,hI⟩
  rw [ht]
  rcases Nat.lt_or_ge i (n) with h1 | h1
  · have hinc := @inc64 i (by omega)
    have hcs := cast_succ i
    subst hI
    have p1 := totP_pos hw i
    have p2 := hw.get i
    obtain ⟨q1,q2,_,_⟩ := addB_ok p1 p2
    have hst := afloat_some p1.lt p2.lt q2.lt q1
    have hA : addB (totP cs i) (cs.getD i 0) = totP cs (i + 1) := rfl
    rw [hA] at hst
    obtain ⟨va,vc,C,ce,css,gr,ro,eb,hg,hc⟩ := sl_fl hv h1
    simp only [Value.slice.injEq,true_and] at eb
    obtain ⟨rfl,rfl⟩ := eb
    generalize cs.getD i 0 = x at *
    generalize hA2 : totP cs (i + 1) = A' at *
    generalize totP cs i = A at *
    simp (maxSteps := 2000000) -implicitDefEqProofs [ble_d,beq_d,List.range_succ,List.replicate,cond_true,cond_false,h1,aindexAddr,sz34,Try.underlying24,hg,hc,hst,hinc,undef]
    exact ⟨k - 1,by omega,i + 1,by omega,by simp (maxSteps := 2000000) only [forget,List.set_cons_succ,List.set_cons_zero,hcs,hA2]⟩
  · obtain rfl : i = n := by omega
    simp (maxSteps := 2000000) -implicitDefEqProofs [ble_d,beq_d,List.range_succ,List.replicate,cond_true,cond_false]
    exact hI

theorem totalP_run {h : Heap} {v : Value} {cs : List Nat} (hv : Sl h v 1 cs.length (fl cs)) (hw : PosL cs) (hk : cs.length ≤ 2 ^ 47) : run Try.prog sO 20 [v] h = some (Fl (totP cs cs.length),h) := by
  obtain ⟨a,c,rfl⟩ := sl_form hv
  suffices hx : ∃ y,fin Try.prog Try.f20 (aexecP Try.prog (sO 20) (run Try.prog sO) loopω pt20 (Try.f20.body.getD .skip) ([.slice a cs.length c] ++ List.replicate (Try.f20.ntmps - 1) undef) h) = some y ∧ y.1 = Fl (totP cs cs.length) ∧ y.2 = h by
    obtain ⟨⟨y1,y2⟩,hy,rfl,rfl⟩ := hx
    exact run_finP pt20 Try.func20 rfl planned20 hy
  have p0 : plain (Fl 0) = true := rfl
  simp (maxSteps := 2000000) -implicitDefEqProofs [Try.f20,ble_d,beq_d,List.range_succ,List.replicate,cond_true,cond_false,sO20,p0]
  generalize hl : loopω _ _ _ _ = r
  have h0 : totP cs 0 = 0 := rfl
  obtain ⟨h3,x9,hx,hh⟩ := useX1 hl (tot1P (h0 := h) (va := a) (vc := c) (n := cs.length) (cs := cs) rfl hk hw hv _ (by kernel_rfl) _ (by rw [h0]; kernel_rfl) rfl)
  subst hx
  subst hh
  clear hl
  have hp := totP_pos hw cs.length
  generalize totP cs cs.length = r at *
  have nn := fneq_self r hp.lt
  rw [hp.nan] at nn
  have hq := fun t x y hx hy => fneq t x y r r hx hy hp.lt hp.lt
  simp (maxSteps := 2000000) -implicitDefEqProofs [ble_d,beq_d,List.range_succ,List.replicate,cond_true,cond_false,nc0 hp.lt hp.lt,hq,nn]

/-- What makes outcomes the same. -/
def sig (o : Oc) : Int × Int × Int × List (List UInt8) × List (List UInt8) := (o.e,o.en,o.st,bts o.tx,bts o.tr)
theorem sameO_iff (a b : Oc) : sameO a b = true ↔ sig a = sig b := by
  unfold sameO eqS sig
  simp only [Bool.and_eq_true,decide_eq_true_eq,Prod.mk.injEq]
def sg (l : List Oc) (i : Nat) := sig (l.getD i oc0)
theorem unl_cover (l : List Oc) (k : Nat) : ∀ i,i < k → ∃ f ∈ unlL l k,sg l f = sg l i := by
  induction k with
  | zero => intro i hi; omega
  | succ k ih =>
    intro i hi
    unfold unlL
    split
    · rename_i ha
      rcases Nat.lt_or_ge i k with h | h
      · exact ih i h
      · obtain rfl : i = k := by omega
        obtain ⟨f,hf,hs⟩ := List.any_eq_true.1 ha
        exact ⟨f,hf,(sameO_iff _ _).1 hs⟩
    · rcases Nat.lt_or_ge i k with h | h
      · obtain ⟨f,hf,hs⟩ := ih i h
        exact ⟨f,List.mem_append_left _ hf,hs⟩
      · obtain rfl : i = k := by omega
        exact ⟨i,List.mem_append_right _ (List.mem_singleton.2 rfl),rfl⟩
theorem unl_new (l : List Oc) (k : Nat) : ∀ f ∈ unlL l k,∀ i,i < f → sg l i ≠ sg l f := by
  induction k with
  | zero => intro f hf; cases hf
  | succ k ih =>
    intro f hf
    unfold unlL at hf
    split at hf
    · exact ih f hf
    · rename_i ha
      rcases List.mem_append.1 hf with h | h
      · exact ih f h
      · obtain rfl := List.mem_singleton.1 h
        intro i hi e
        obtain ⟨q,hq,hs⟩ := unl_cover l f i hi
        refine ha (List.any_eq_true.2 ⟨q,hq,(sameO_iff _ _).2 (hs.trans e)⟩)
theorem unl_pw (l : List Oc) (k : Nat) : (unlL l k).Pairwise (· < ·) := by
  induction k with
  | zero => exact List.Pairwise.nil
  | succ k ih =>
    unfold unlL
    split
    · exact ih
    · rw [List.pairwise_append]
      refine ⟨ih,List.pairwise_singleton _ _,fun a ha b hb => ?_⟩
      rw [List.mem_singleton.1 hb]
      exact unlL_lt l k a ha
theorem grp_before {l : List Oc} {f : Nat} (h : ∀ i,i < f → sg l i ≠ sg l f) : ∀ j,j ≤ f → grp l f j = [] := by
  intro j
  induction j with
  | zero => intro _; rfl
  | succ j ih =>
    intro hj
    rw [grp_succ,ih (by omega),if_neg fun e => h j (by omega) ((sameO_iff _ _).1 e).symm]
theorem grp_head {l : List Oc} {f : Nat} (h : ∀ i,i < f → sg l i ≠ sg l f) : ∀ j,f < j → ∃ t,grp l f j = f :: t := by
  intro j
  induction j with
  | zero => intro hj; omega
  | succ j ih =>
    intro hj
    rw [grp_succ]
    rcases Nat.lt_or_ge f j with h2 | h2
    · obtain ⟨t,ht⟩ := ih h2
      rw [ht]
      split
      · exact ⟨t ++ [j],rfl⟩
      · exact ⟨t,rfl⟩
    · obtain rfl : f = j := by omega
      rw [grp_before h f (Nat.le_refl _),if_pos ((sameO_iff _ _).2 rfl)]
      exact ⟨[],rfl⟩
def chO (ws : List Nat) (o : Oc) : Nat := chB ws o.pk o.pk.length
/-- The chances of a group. -/
def grpC (ws : List Nat) (l : List Oc) (f n : Nat) : List Nat := (grp l f n).map fun i => chO ws (l.getD i oc0)
/-- A line. -/
def lnO (ws : List Nat) (l : List Oc) (n f : Nat) : Ln := ((f : Int),((grp l f n).length : Int),totP (grpC ws l f n) (grp l f n).length)
def lnsO (ws : List Nat) (l : List Oc) : List Ln := (unlL l l.length).map (lnO ws l l.length)
def rL (x y : Ln) : Int := cmpK y.2.2 x.2.2
def loL (x y : Ln) : Prop := key y.2.2 < key x.2.2 ∨ (key y.2.2 = key x.2.2 ∧ x.1 < y.1)
def tagL (x : Ln) : Int := x.1
def NL (x : Ln) : Prop := x.2.2 < 18446744073709551616
theorem loL_LO : LO loL tagL (clo rL) := by
  refine ⟨fun x y z h1 h2 => ?_,fun x y h => ?_,fun x y h1 h2 => ?_,fun x y h => ?_⟩
  · unfold loL at *; omega
  · unfold loL; unfold tagL at h; omega
  · unfold loL at *; omega
  · unfold loL clo rL cmpK
    unfold tagL at h
    rw [decide_eq_true_eq]
    split
    · omega
    · split <;> omega
/-- A line, put where it belongs: behind all that aren't less. -/
def insL (x : Ln) : List Ln → List Ln
  | [] => [x]
  | y :: l => if 0 ≤ cmpK y.2.2 x.2.2 then y :: insL x l else x :: y :: l
def tabTo (ls : List Ln) : Nat → List Ln
  | 0 => []
  | i + 1 => insL (ls.getD i (0,0,0)) (tabTo ls i)
theorem insL_perm (x : Ln) (l : List Ln) : (insL x l).Perm (x :: l) := by
  induction l with
  | nil => exact .refl _
  | cons y l ih =>
    unfold insL
    split
    · exact (List.Perm.cons y ih).trans (List.Perm.swap x y l)
    · exact .refl _
theorem insL_pw {x : Ln} {l : List Ln} (hl : l.Pairwise loL) (ht : ∀ y ∈ l,y.1 < x.1) : (insL x l).Pairwise loL := by
  induction l with
  | nil => exact List.pairwise_singleton _ _
  | cons y l ih =>
    obtain ⟨h1,h2⟩ := List.pairwise_cons.1 hl
    unfold insL
    split
    · rename_i h
      refine List.pairwise_cons.2 ⟨fun z hz => ?_,ih h2 fun z hz => ht z (List.mem_cons_of_mem _ hz)⟩
      rcases List.mem_cons.1 ((insL_perm x l).mem_iff.1 hz) with rfl | hz
      · have := ht y (List.mem_cons_self ..)
        unfold loL
        unfold cmpK at h
        split at h
        · omega
        · omega
      · exact h1 z hz
    · rename_i h
      have hxy : loL x y := by
        unfold loL
        unfold cmpK at h
        split at h
        · omega
        · split at h <;> omega
      refine List.pairwise_cons.2 ⟨fun z hz => ?_,hl⟩
      rcases List.mem_cons.1 hz with rfl | hz
      · exact hxy
      · exact loL_LO.trans x y z hxy (h1 z hz)
theorem tabTo_perm (ls : List Ln) : ∀ i,i ≤ ls.length → (tabTo ls i).Perm (ls.take i) := by
  intro i
  induction i with
  | zero => intro _; exact .refl _
  | succ i ih =>
    intro hi
    have h1 : ls.take (i + 1) = ls.take i ++ [ls.getD i (0,0,0)] := by
      rw [List.take_add_one,List.getElem?_eq_getElem (by omega),List.getD_eq_getElem?_getD,List.getElem?_eq_getElem (by omega)]; rfl
    rw [h1]
    exact (insL_perm _ _).trans ((List.Perm.cons _ (ih (by omega))).trans (List.perm_append_singleton _ _).symm)
theorem tabTo_pw {ls : List Ln} (hp : ls.Pairwise fun x y => x.1 < y.1) : ∀ i,i ≤ ls.length → (tabTo ls i).Pairwise loL := by
  intro i
  induction i with
  | zero => intro _; exact List.Pairwise.nil
  | succ i ih =>
    intro hi
    refine insL_pw (ih (by omega)) fun y hy => ?_
    have hy2 := (tabTo_perm ls i (by omega)).mem_iff.1 hy
    obtain ⟨j,hj,rfl⟩ := List.mem_iff_getElem.1 hy2
    rw [List.length_take] at hj
    rw [List.getElem_take,List.getD_eq_getElem?_getD,List.getElem?_eq_getElem (by omega),Option.getD_some]
    exact List.pairwise_iff_getElem.1 hp j i (by omega) (by omega) (by omega)
theorem tab_len (ls : List Ln) (i : Nat) (hi : i ≤ ls.length) : (tabTo ls i).length = i := by
  rw [(tabTo_perm ls i hi).length_eq,List.length_take]; omega
theorem srt_pw {lo : Ln → Ln → Prop} {d : List Ln} (h : Srt lo 0 d.length d) : d.Pairwise lo := by
  rw [List.pairwise_iff_getElem]
  intro i j hi hj hij
  have := h i j (by omega) hij hj
  rwa [g_eq d hi,g_eq d hj] at this
/-- What the library's sort makes of lines is what putting one after the other makes of them. -/
theorem tab_uniq {ls d : List Ln} (hp : ls.Pairwise fun x y => x.1 < y.1) (hd : d.Perm ls) (hs : Srt loL 0 d.length d) : d = tabTo ls ls.length := by
  have h1 := tabTo_perm ls ls.length (Nat.le_refl _)
  rw [List.take_length] at h1
  exact List.Perm.eq_of_pairwise (fun a b _ _ h1 h2 => absurd h2 (loL_LO.asym a b h1)) (srt_pw hs) (tabTo_pw hp _ (Nat.le_refl _)) (hd.trans h1.symm)
theorem lnsO_pw (ws : List Nat) (l : List Oc) : (lnsO ws l).Pairwise fun x y => x.1 < y.1 := by
  unfold lnsO
  rw [List.pairwise_map]
  exact (unl_pw l l.length).imp fun {a b} h => by show (a : Int) < (b : Int); omega
theorem fa67_0 (n o : Nat) : afieldAddr Try.prog 67 (.pointer (some ⟨n,o,none⟩)) 0 = some (.pointer (some ⟨n,o + 0,none⟩)) := by kernel_rfl
theorem fa67_1 (n o : Nat) : afieldAddr Try.prog 67 (.pointer (some ⟨n,o,none⟩)) 1 = some (.pointer (some ⟨n,o + 1,none⟩)) := by kernel_rfl
theorem fa67_2 (n o : Nat) : afieldAddr Try.prog 67 (.pointer (some ⟨n,o,none⟩)) 2 = some (.pointer (some ⟨n,o + 2,none⟩)) := by kernel_rfl
theorem bx67 (ρ : Operand → Value) (x : Operand) (a b : Int) (c : Nat) (hx : ρ x = .agg #[.int .i64 a,.int .i64 b,.float .f64 c]) (d ty pos af gu) :
    aalloc Try.prog ρ ⟨d,.box 67 x,ty,pos,af,gu⟩ = some (.cells [.int .i64 a,.int .i64 b,.float .f64 c] 67 3 false false,fun n => .pointer (some ⟨n,0,none⟩)) :=
  bx 67 3 sz67 ρ x _ (by rw [hx]; rfl) d ty pos af gu
theorem cmpLn (h0 : Heap) (m : Nat) : CmpH h0 m undef NL rL := by
  intro h _ x y hx hy
  obtain ⟨x1,x2,x3⟩ := x
  obtain ⟨y1,y2,y3⟩ := y
  unfold NL at hx hy
  simp only at hx hy
  obtain ⟨hA,hhA⟩ : ∃ z,z = h.new (.cells [.int .i64 x1,.int .i64 x2,.float .f64 x3] 67 3 false false) := ⟨_,rfl⟩
  obtain ⟨hB,hhB⟩ : ∃ z,z = hA.new (.cells [.int .i64 y1,.int .i64 y2,.float .f64 y3] 67 3 false false) := ⟨_,rfl⟩
  have kA : Keep No h hA := hhA ▸ Keep.new No h _
  have kB : Keep No hA hB := hhB ▸ Keep.new No hA _
  have gA : hA.get h.next = some (.cells [.int .i64 x1,.int .i64 x2,.float .f64 x3] 67 3 false false) := by rw [hhA,Heap.get_new,if_pos rfl]
  have gB : hB.get hA.next = some (.cells [.int .i64 y1,.int .i64 y2,.float .f64 y3] 67 3 false false) := by rw [hhB,Heap.get_new,if_pos rfl]
  have gA2 := kB.get gA fun x => x
  have ec := cmp_run sO y3 x3 hy hx hB
  have hb1 := fun ρ x hx => bx67 ρ x x1 x2 x3 hx
  have hb2 := fun ρ x hx => bx67 ρ x y1 y2 y3 hx
  refine ⟨hB,run_finP pt50 Try.func50 rfl planned50 ?_,kA.trans kB⟩
  have hr : rL (x1,x2,x3) (y1,y2,y3) = cmpK y3 x3 := rfl
  rw [hr]
  simp (maxSteps := 2000000) -implicitDefEqProofs [Try.f50,ble_d,beq_d,List.range_succ,List.replicate,cond_true,cond_false,hb1,hb2,← hhA,← hhB,gA2,gB,fa67_2,en51,ec,undef]
end Go.Proofs.Ytmnkmdfladbgdaa.Od
