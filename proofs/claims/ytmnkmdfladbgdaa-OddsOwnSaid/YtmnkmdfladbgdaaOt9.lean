/- The library's sort: the merge of two rows. -/
import Derived.Test.YtmnkmdfladbgdaaOt8
set_option linter.unusedVariables false
set_option linter.unusedSimpArgs false
namespace Go.Proofs.Ytmnkmdfladbgdaa.Od
open Go Go.Proofs Go.RowKit Go.Proofs.YtmnkmdfladbgdaaAI Go.Proofs.YtmnkmdfladbgdaaFl Go.Proofs.YtmnkmdfladbgdaaSrt

variable {lo : Ln → Ln → Prop} {tag : Ln → Int} {r : Ln → Ln → Int} {h0 : Heap} {m : Nat} {cap : Value} {N : Ln → Prop}
set_option maxRecDepth 20000 in
set_option maxHeartbeats 12800000 in
theorem symA (hL : LO lo tag (clo r)) (hC : CmpH h0 m cap N r) {a c b : Nat} (h1 : a + 1 < c) (h2 : c + 1 < b) (hm : (a + b) / 2 < c) (ih : ∀ a' c' b',a' < c' → c' < b' → b' - a' < b - a → SymAt lo tag h0 m cap N a' c' b') : SymAt lo tag h0 m cap N a c b := by
  intro h d hd hdom h3 hN s1 s2 ht
  suffices hx : ∃ y,fin Try.prog Try.f97 (aexecP Try.prog (sO 97) (run Try.prog sO) loopω pt97 (Try.f97.body.getD .skip) ([VL m d.length,.int .i64 (a : Nat),.int .i64 (c : Nat),.int .i64 (b : Nat),CV cap] ++ List.replicate (Try.f97.ntmps - 5) undef) h) = some y ∧ y.1 = .tuple #[] ∧ ∃ d',DH h0 m y.2 d' ∧ Im a b d d' ∧ Srt lo a b d' by
    obtain ⟨⟨y1,y2⟩,hy,rfl,d',q1,q2⟩ := hx
    exact ⟨y2,d',run_finP pt97 Try.func97 rfl planned97 hy,q1,q2⟩
  obtain ⟨L,hLL⟩ : ∃ L,L = c - a := ⟨_,rfl⟩
  obtain ⟨L2,hLL2⟩ : ∃ L,L = b - c := ⟨_,rfl⟩
  have w1 : IntKind.i64.wrap ((c : Int) - (a : Int)) = (L : Int) := by rw [IntWalk.i64_in _ (by omega)]; omega
  have w2 : IntKind.i64.wrap ((b : Int) - (c : Int)) = (L2 : Int) := by rw [IntWalk.i64_in _ (by omega)]; omega
  have n1 : ¬ L = 1 := by omega
  have n2 : ¬ L2 = 1 := by omega
  have n1' : ¬ (L : Int) = 1 := by omega
  have n2' : ¬ (L2 : Int) = 1 := by omega
  obtain ⟨s,hs⟩ : ∃ s,s = a + b := ⟨_,rfl⟩
  obtain ⟨mid,hmid⟩ : ∃ x,s / 2 = x := ⟨_,rfl⟩
  obtain ⟨nn,hnn⟩ : ∃ x,x = mid + c := ⟨_,rfl⟩
  obtain ⟨pp,hpp⟩ : ∃ x,x = nn - 1 := ⟨_,rfl⟩
  have ws : IntKind.i64.wrap ((a : Int) + (b : Int)) = (s : Int) := by rw [IntWalk.i64_in _ (by omega)]; omega
  have k1 := fun t x hx => cvu t x s hx (by omega)
  have k2 := fun t x y hx hy => shu t x y s mid hx hy hmid
  have k3 := fun t x hx => cvi t x mid hx (by omega)
  have w3 : IntKind.i64.wrap ((mid : Int) + (c : Int)) = (nn : Int) := by rw [IntWalk.i64_in _ (by omega)]; omega
  have w4 : IntKind.i64.wrap ((nn : Int) - 1) = (pp : Int) := by rw [IntWalk.i64_in _ (by omega)]; omega
  have hmd : (a + b) / 2 = mid := by rw [← hs]; exact hmid
  rw [hmd] at hm
  have hS : spS a c b = mid + c - b := by unfold spS; rw [hmd,if_pos hm]
  have hR : spR a c b = mid := by unfold spR; rw [hmd,if_pos hm]
  have wS : IntKind.i64.wrap ((nn : Int) - (b : Int)) = ((spS a c b : Nat) : Int) := by rw [hS,IntWalk.i64_in _ (by omega)]; omega
  simp (maxSteps := 2000000) -implicitDefEqProofs [Try.f97,ble_d,beq_d,List.range_succ,List.replicate,cond_true,cond_false,ibeq,w1,w2,n1,n2,n1',n2',ws,k1,k2,k3,w3,w4,wS,hm,sO97_33]
  generalize hl : loopω _ _ _ _ = rr
  obtain ⟨e,t',h',hx,he,q,x149,x150,x151,htt,hdB,hB⟩ : ∃ e t' h',rr = some (e,t',h') ∧ e = .exit 8 ∧ ∃ (q : Nat),∃ x149 x150 x151,t' = [VL m d.length,.int .i64 (a : Nat),.int .i64 (c : Nat),.int .i64 (b : Nat),CV cap,Z,Z,Z,Z,Z,Z,Z,Z,Z,Z,Z,Z,Z,.int .i64 (mid : Nat),.int .i64 (nn : Nat),.int .i64 (q : Nat),.int .i64 (q : Nat),.int .i64 (pp : Nat),Z,Z,Z,Z,Z,Z,Z,Z,Z,Z,Z,Z,Z,Z,Z,Z,Z,Z,Z,Z,Z,Z,Z,Z,Z,Z,Z,Z,Z,Z,Z,Z,Z,Z,Z,Z,Z,Z,Z,Z,Z,Z,Z,Z,Z,Z,Z,Z,Z,Z,Z,Z,Z,Z,Z,Z,Z,Z,Z,Z,Z,Z,Z,Z,Z,Z,Z,Z,Z,Z,Z,Z,Z,Z,Z,Z,Z,Z,Z,Z,Z,Z,Z,Z,Z,Z,Z,Z,Z,Z,Z,Z,Z,Z,Z,Z,Z,Z,Z,Z,Z,Z,Z,Z,Z,Z,Z,Z,Z,Z,Z,Z,Z,Z,Z,Z,Z,Z,Z,Z,Z,Z,Z,Z,Z,Z,x149,x150,x151,Z,Z,Z,Z,Z,Z,Z,Z,Z,Z,Z,Z,Z,Z,Z,Z,Z,Z,Z,Z,Z,Z,Z,Z,Z,Z,Z,Z,Z,Z,Z,Z,Z,Z,Z,Z,Z,Z,Z,Z,Z,Z,Z,Z,Z,Z,Z,Z,Z,Z,Z,Z,Z,Z,Z,Z,Z,Z,Z,Z,Z,Z,Z,Z,Z,Z,Z,Z] ∧ DH h0 m h' d ∧ Bs lo a c b q q d := by
    rw [← hl]
    refine loop_by (fun k t h' => ∃ i j : Nat,j - i = k ∧ forget [5,6,7,8,9,10,11,12,13,14,15,16,17,23,24,25,26,27,28,29,30,31,32,33,34,35,36,37,38,39,40,41,42,43,44,45,46,47,48,49,50,51,52,53,54,55,56,57,58,59,60,61,62,63,64,65,66,67,68,69,70,71,72,73,74,75,76,77,78,79,80,81,82,83,84,85,86,87,88,89,90,91,92,93,94,95,96,97,98,99,100,101,102,103,104,105,106,107,108,109,110,111,112,113,114,115,116,117,118,119,120,121,122,123,124,125,126,127,128,129,130,131,132,133,134,135,136,137,138,139,140,141,142,143,144,145,146,147,148,149,150,151,152,153,154,155,156,157,158,159,160,161,162,163,164,165,166,167,168,169,170,171,172,173,174,175,176,177,178,179,180,181,182,183,184,185,186,187,188,189,190,191,192,193,194,195,196,197,198,199,200,201,202,203,204,205,206,207,208,209,210,211,212,213,214,215,216,217,218,219] t = [VL m d.length,.int .i64 (a : Nat),.int .i64 (c : Nat),.int .i64 (b : Nat),CV cap,Z,Z,Z,Z,Z,Z,Z,Z,Z,Z,Z,Z,Z,.int .i64 (mid : Nat),.int .i64 (nn : Nat),.int .i64 (i : Nat),.int .i64 (j : Nat),.int .i64 (pp : Nat),Z,Z,Z,Z,Z,Z,Z,Z,Z,Z,Z,Z,Z,Z,Z,Z,Z,Z,Z,Z,Z,Z,Z,Z,Z,Z,Z,Z,Z,Z,Z,Z,Z,Z,Z,Z,Z,Z,Z,Z,Z,Z,Z,Z,Z,Z,Z,Z,Z,Z,Z,Z,Z,Z,Z,Z,Z,Z,Z,Z,Z,Z,Z,Z,Z,Z,Z,Z,Z,Z,Z,Z,Z,Z,Z,Z,Z,Z,Z,Z,Z,Z,Z,Z,Z,Z,Z,Z,Z,Z,Z,Z,Z,Z,Z,Z,Z,Z,Z,Z,Z,Z,Z,Z,Z,Z,Z,Z,Z,Z,Z,Z,Z,Z,Z,Z,Z,Z,Z,Z,Z,Z,Z,Z,Z,Z,Z,Z,Z,Z,Z,Z,Z,Z,Z,Z,Z,Z,Z,Z,Z,Z,Z,Z,Z,Z,Z,Z,Z,Z,Z,Z,Z,Z,Z,Z,Z,Z,Z,Z,Z,Z,Z,Z,Z,Z,Z,Z,Z,Z,Z,Z,Z,Z,Z,Z,Z,Z,Z,Z,Z,Z,Z,Z,Z,Z,Z,Z,Z,Z,Z,Z,Z,Z,Z,Z,Z] ∧ DH h0 m h' d ∧ Bs lo a c b i j d)
      (fun e t' h' => e = .exit 8 ∧ ∃ (q : Nat),∃ x149 x150 x151,t' = [VL m d.length,.int .i64 (a : Nat),.int .i64 (c : Nat),.int .i64 (b : Nat),CV cap,Z,Z,Z,Z,Z,Z,Z,Z,Z,Z,Z,Z,Z,.int .i64 (mid : Nat),.int .i64 (nn : Nat),.int .i64 (q : Nat),.int .i64 (q : Nat),.int .i64 (pp : Nat),Z,Z,Z,Z,Z,Z,Z,Z,Z,Z,Z,Z,Z,Z,Z,Z,Z,Z,Z,Z,Z,Z,Z,Z,Z,Z,Z,Z,Z,Z,Z,Z,Z,Z,Z,Z,Z,Z,Z,Z,Z,Z,Z,Z,Z,Z,Z,Z,Z,Z,Z,Z,Z,Z,Z,Z,Z,Z,Z,Z,Z,Z,Z,Z,Z,Z,Z,Z,Z,Z,Z,Z,Z,Z,Z,Z,Z,Z,Z,Z,Z,Z,Z,Z,Z,Z,Z,Z,Z,Z,Z,Z,Z,Z,Z,Z,Z,Z,Z,Z,Z,Z,Z,Z,Z,Z,Z,Z,Z,Z,Z,Z,Z,Z,Z,Z,Z,Z,Z,Z,Z,Z,Z,Z,Z,Z,x149,x150,x151,Z,Z,Z,Z,Z,Z,Z,Z,Z,Z,Z,Z,Z,Z,Z,Z,Z,Z,Z,Z,Z,Z,Z,Z,Z,Z,Z,Z,Z,Z,Z,Z,Z,Z,Z,Z,Z,Z,Z,Z,Z,Z,Z,Z,Z,Z,Z,Z,Z,Z,Z,Z,Z,Z,Z,Z,Z,Z,Z,Z,Z,Z,Z,Z,Z,Z,Z,Z] ∧ DH h0 m h' d ∧ Bs lo a c b q q d) ?_ (spR a c b - spS a c b) _ _ ⟨spS a c b,spR a c b,rfl,by rw [hR]; kernel_rfl,hd,bs_start (by omega) (by omega)⟩
    clear hl
    rintro k t h' ⟨i,j,rfl,htt,hdB,hB⟩
    rw [htt]
    have q1 := hB.s0
    have q2 := hB.sr
    have q3 := hB.r0
    rcases Nat.lt_or_ge i j with h5 | h5
    · obtain ⟨u,hu⟩ : ∃ s,s = i + j := ⟨_,rfl⟩
      obtain ⟨hh,hhm⟩ : ∃ hm,u / 2 = hm := ⟨_,rfl⟩
      obtain ⟨z1,z2,z3,z4⟩ := @bs_rng a c b hh (by omega) (by omega) (by omega) (by omega)
      obtain ⟨x,hxx⟩ : ∃ x,x = pp - hh := ⟨_,rfl⟩
      have exx : (a + b) / 2 + c - 1 - hh = x := by rw [hmd]; omega
      rw [exx] at z3 z4
      have wu : IntKind.i64.wrap ((i : Int) + (j : Int)) = (u : Int) := by rw [IntWalk.i64_in _ (by omega)]; omega
      have wx : IntKind.i64.wrap ((pp : Int) - (hh : Int)) = (x : Int) := by rw [IntWalk.i64_in _ (by omega)]; omega
      have k4 := fun t x hx => cvu t x u hx (by omega)
      have k5 := fun t x y hx hy => shu t x y u hh hx hy hhm
      have k6 := fun t x hx => cvi t x hh hx (by omega)
      have gx := lns_g (d := d) (i := x) (by omega)
      have gy := lns_g (d := d) (i := hh) (by omega)
      have dx := hdom.g (i := x) (by omega)
      have dy := hdom.g (i := hh) (by omega)
      obtain ⟨hc2,ec,kc⟩ := hC h' hdB.1 (g d x) (g d hh) dx dy
      have lc := kc.1
      have hdC := hdB.keep kc
      have l1 : x < d.length := by omega
      have l2 : hh < d.length := by omega
      have hg := hdB.2
      have hinc := @inc64 hh (by omega)
      have hcs := cast_succ hh
      cases hcl : clo r (g d x) (g d hh) with
      | true =>
        have hr : r (g d x) (g d hh) < 0 := by simpa [clo] using hcl
        have hB2 := bs_down hL (by omega) (by omega) hB (c := hh) (by omega) (by omega) ht (by rw [exx]; exact hcl)
        generalize g d x = X at *
        generalize g d hh = Y at *
        simp (maxSteps := 2000000) -implicitDefEqProofs [ble_d,beq_d,List.range_succ,List.replicate,cond_true,cond_false,h5,pt97_35,pl97_35,an97_35,wu,wx,k4,k5,k6,aindexAddr,sz67,Try.underlying56,Try.underlying67,hg,gx,gy,l1,l2,en50,ec,lc,hr,hinc]
        exact ⟨hh - i,by omega,i,hh,rfl,by simp (maxSteps := 2000000) only [forget,List.set_cons_succ,List.set_cons_zero],hdC,hB2⟩
      | false =>
        have hr : ¬ r (g d x) (g d hh) < 0 := by simpa [clo] using hcl
        have hB2 := bs_up hL (by omega) (by omega) hB (c := hh) (by omega) (by omega) ht (by rw [exx]; exact hcl)
        generalize g d x = X at *
        generalize g d hh = Y at *
        simp (maxSteps := 2000000) -implicitDefEqProofs [ble_d,beq_d,List.range_succ,List.replicate,cond_true,cond_false,h5,pt97_35,pl97_35,an97_35,wu,wx,k4,k5,k6,aindexAddr,sz67,Try.underlying56,Try.underlying67,hg,gx,gy,l1,l2,en50,ec,lc,hr,hinc]
        exact ⟨j - (hh + 1),by omega,hh + 1,j,rfl,by simp (maxSteps := 2000000) only [forget,List.set_cons_succ,List.set_cons_zero,hcs],hdC,hB2⟩
    · obtain rfl : i = j := by omega
      simp (maxSteps := 2000000) -implicitDefEqProofs [ble_d,beq_d,List.range_succ,List.replicate,cond_true,cond_false]
      exact ⟨i,rfl,hdB,hB⟩
  subst hx he htt
  clear hl
  have q1 : a ≤ q ∧ q ≤ mid ∧ q ≤ c ∧ mid + c - q ≤ b := by
    have z1 := hB.s0
    have z2 := hB.r0
    unfold spS at z1; unfold spR at z2; rw [hmd] at z1 z2; split at z1 <;> split at z2 <;> omega
  obtain ⟨q1,q2,q3,q4⟩ := q1
  obtain ⟨e,hee⟩ : ∃ e,e = mid + c - q := ⟨_,rfl⟩
  have we : IntKind.i64.wrap ((nn : Int) - (q : Int)) = (e : Int) := by rw [IntWalk.i64_in _ (by omega)]; omega
  -- the rotation
  obtain ⟨hA,d1,hd1,hl1,hp1,hg1,e51,e51'⟩ : ∃ hA d1,DH h0 m hA d1 ∧ d1.length = d.length ∧ d1.Perm d ∧ (∀ k,g d1 k = rotT q c e d k) ∧ (q < c → c < e → run Try.prog sO 105 [VL m d.length,.int .i64 (q : Nat),.int .i64 (c : Nat),.int .i64 (e : Nat),CV cap] h' = some (.tuple #[],hA)) ∧ (¬ (q < c ∧ c < e) → h' = hA) := by
    by_cases hq : q < c ∧ c < e
    · obtain ⟨hA,d1,e1,e2,e3,e4,e5⟩ := rot_run (CV cap) hdB hq.1 hq.2 (by omega) hN
      exact ⟨hA,d1,e2,e3,e4,e5,fun _ _ => e1,fun hn => absurd hq hn⟩
    · exact ⟨h',d,hdB,rfl,.refl _,fun k => (rotT_id d (by omega) (by omega) (by omega) k).symm,fun z1 z2 => absurd ⟨z1,z2⟩ hq,fun _ => rfl⟩
  have hH := half hL (by omega) (by omega) hB s1 s2 ht (d1 := d1) (by rw [hmd,← hee]; exact hg1)
  have im1 : Im a b d d1 := (rot_im (by omega) (by omega) hl1 hp1 hg1).mono q1 (by omega)
  obtain ⟨as_,smid,mide,eb,p1,p2,pt1,p3,p4,pt2,px⟩ := hH
  rw [hmd] at smid mide eb p2 pt1 p3 p4 pt2 px
  rw [← hee] at mide eb p3 p4 pt2
  -- the first half
  obtain ⟨hB',d2,hd2,im2,st2,e50,e50'⟩ : ∃ hB' d2,DH h0 m hB' d2 ∧ Im a mid d1 d2 ∧ Srt lo a mid d2 ∧ (a < q → q < mid → run Try.prog sO 97 [VL m d.length,.int .i64 (a : Nat),.int .i64 (q : Nat),.int .i64 (mid : Nat),CV cap] hA = some (.tuple #[],hB')) ∧ (¬ (a < q ∧ q < mid) → hA = hB') := by
    by_cases hq : a < q ∧ q < mid
    · obtain ⟨hB',d2,e1,e2,e3,e4⟩ := ih a q mid hq.1 hq.2 (by omega) hA d1 hd1 (hdom.perm hp1) (by omega) (by omega) p1 p2 pt1
      rw [hl1] at e1
      exact ⟨hB',d2,e2,e3,e4,fun _ _ => e1,fun hn => absurd hq hn⟩
    · refine ⟨hA,d1,hd1,Im.refl _ _ _,?_,fun z1 z2 => absurd ⟨z1,z2⟩ hq,fun _ => rfl⟩
      by_cases ha : a < q
      · obtain rfl : q = mid := by omega
        exact p1
      · obtain rfl : a = q := by omega
        exact p2
  have hl2 := im2.len
  -- the second
  obtain ⟨hC',d3,hd3,im3,st3,f50,f50'⟩ : ∃ hC' d3,DH h0 m hC' d3 ∧ Im mid b d2 d3 ∧ Srt lo mid b d3 ∧ (mid < e → e < b → run Try.prog sO 97 [VL m d.length,.int .i64 (mid : Nat),.int .i64 (e : Nat),.int .i64 (b : Nat),CV cap] hB' = some (.tuple #[],hC')) ∧ (¬ (mid < e ∧ e < b) → hB' = hC') := by
    by_cases hq : mid < e ∧ e < b
    · obtain ⟨hC',d3,e1,e2,e3,e4⟩ := ih mid e b hq.1 hq.2 (by omega) hB' d2 hd2 ((hdom.perm hp1).perm im2.perm) (by omega) (by omega) (p3.im im2 (by omega)) (p4.im im2 (by omega)) (fun k l z1 z2 z3 z4 => by rw [im2.out k (by omega),im2.out l (by omega)]; exact pt2 k l z1 z2 z3 z4)
      rw [hl2,hl1] at e1
      exact ⟨hC',d3,e2,e3,e4,fun _ _ => e1,fun hn => absurd hq hn⟩
    · refine ⟨hB',d2,hd2,Im.refl _ _ _,?_,fun z1 z2 => absurd ⟨z1,z2⟩ hq,fun _ => rfl⟩
      by_cases ha : mid < e
      · obtain rfl : e = b := by omega
        exact p3.im im2 (by omega)
      · obtain rfl : mid = e := by omega
        exact p4.im im2 (by omega)
  obtain ⟨imF,stF⟩ := join (by omega) (by omega) px im2 st2 im3 st3
  have fin1 : ∃ d',DH h0 m hC' d' ∧ Im a b d d' ∧ Srt lo a b d' := ⟨d3,hd3,im1.trans imF,stF⟩
  clear hg1 px p1 p2 p3 p4 pt1 pt2 im2 im3 imF stF st2 st3 hd1 hd2 hd3 im1 hB hdB hd hC hL ih k1 k2 k3 s1 s2 ht
  by_cases f1 : q < c <;> by_cases f2 : c < e <;> by_cases f3 : a < q <;> by_cases f4 : q < mid <;> by_cases f5 : mid < e <;> by_cases f6 : e < b <;>
    first
    | (exfalso; omega)
    | (try replace e51 := e51 f1 f2
       try replace e50 := e50 f3 f4
       try replace f50 := f50 f5 f6
       try (replace e51' := e51' (by omega); subst e51')
       try (replace e50' := e50' (by omega); subst e50')
       try (replace f50' := f50' (by omega); subst f50')
       simp (maxSteps := 2000000) -implicitDefEqProofs [ble_d,beq_d,List.range_succ,List.replicate,cond_true,cond_false,we,f1,f2,f3,f4,f5,f6,en97,en105,e51,e50,f50]
       exact ⟨_,_,⟨rfl,rfl⟩,rfl,fin1⟩)

end Go.Proofs.Ytmnkmdfladbgdaa.Od
