/- Odds: Join, no sign, part 3. -/
import Derived.Test.YtmnkmdfladbgdaaOl13
set_option linter.unusedVariables false
set_option linter.unusedSimpArgs false
namespace Go.Proofs.Ytmnkmdfladbgdaa.Od
open Go Go.Proofs Go.RowKit Go.Proofs.YtmnkmdfladbgdaaAI Go.Proofs.YtmnkmdfladbgdaaFl Go.Proofs.YtmnkmdfladbgdaaRnd

set_option maxRecDepth 20000 in
set_option maxHeartbeats 6400000 in
theorem join_f_mid0gt {h : Heap} {man : Nat} {exp : Int} (hm : man < 18446744073709551616) (he : -100000 ≤ exp) (he2 : exp ≤ 100000) (h0 : 0 < man) (hc1 : -3000 ≤ exp) (hc2 : exp ≤ 3000) (hcl : ¬ exp + (bl man : Nat) - 53 < -1074) (hmode : exp < lastP man exp) (hs : (lastP man exp - exp).toNat < 64) (hr : 2 ^ ((lastP man exp - exp).toNat - 1) < man % 2 ^ (lastP man exp - exp).toNat) : run Try.prog sO 68 [.bool false,U man,.int .i64 exp] h = some (U (rung man exp),h) := by
  suffices hx : ∃ y,fin Try.prog Try.f68 (aexecP Try.prog (sO 68) (run Try.prog sO) loopω pt68 (Try.f68.body.getD .skip) ([.bool false,U man,.int .i64 exp] ++ List.replicate (Try.f68.ntmps - 3) undef) h) = some y ∧ y.1 = U (rung man exp) ∧ y.2 = h by
    obtain ⟨⟨y1,y2⟩,hy,rfl,rfl⟩ := hx
    exact run_finP pt68 Try.func68 rfl planned68 hy
  have hlg := log2_lt64 hm
  have hbl : bl man = man.log2 + 1 := by unfold bl; rw [if_neg (by omega)]
  have elen := length_run (h := h) hm
  have h1 : ¬ man = 0 := by omega
  have h2 : ¬ exp < -3000 := by omega
  have h3 : ¬ 3000 < exp := by omega
  obtain ⟨q,hq⟩ : ∃ q,lastP man exp = q := ⟨_,rfl⟩
  have hqv : q = exp + (bl man : Nat) - 53 := by rw [← hq]; unfold lastP; rw [hbl] at hcl; omega
  have hql : q = exp + man.log2 - 52 := by rw [hbl] at hcl; (try rw [hbl] at hqv); omega
  have hqr : -1074 ≤ q ∧ q ≤ 4000 := by rw [← hq]; unfold lastP; omega
  rw [hq] at hmode hs hr
  have w1 : IntKind.i64.wrap (exp + (bl man : Nat)) = exp + (bl man : Nat) := IntWalk.i64_in _ (by omega)
  have w2 : IntKind.i64.wrap (exp + (bl man : Nat) - 53) = exp + (bl man : Nat) - 53 := IntWalk.i64_in _ (by omega)
  obtain ⟨d,hd⟩ : ∃ d,d = (exp - q).toNat := ⟨_,rfl⟩
  have he0 : ej exp 0 = exp := by unfold ej; omega
  have hm0 : mu man 0 = man := by unfold mu; simp
  have hdm : 0 < d → man * 2 ^ d < 9007199254740992 := fun _ => (up_val h0 (by omega)).1
  simp (maxSteps := 2000000) -implicitDefEqProofs [Try.f68,ble_d,beq_d,List.range_succ,List.replicate,cond_true,cond_false,ibeq,h1,h2,h3,en89,elen,w1,w2,hcl,sO68,undef]
  generalize hl : loopω _ _ _ _ = r
  obtain ⟨h4,x33,x34,x35,hx,hh,_⟩ := useX3 hl (join1 (h0 := h) (v7 := .int .u64 0) (man := man) (d := d) (exp := exp) (q := q) hdm hc1 hc2 hd (by omega) _ (by kernel_rfl) _ (by rw [he0,hm0,hqv]; kernel_rfl) ⟨rfl,trivial⟩)
  subst hx
  subst hh
  clear hl
  have hej : ej exp d = exp := by unfold ej; omega
  rw [hej]
  have hd0 : d = 0 := by omega
  subst hd0
  rw [hm0]
  have hk : kept man exp = half man (q - exp).toNat := by unfold kept; rw [hq,if_neg (by omega)]
  obtain ⟨s,hss⟩ : ∃ s : Nat,(q - exp).toNat = s := ⟨_,rfl⟩
  rw [hss] at hk hr hs
  have hsp : 0 < s := by omega
  have hsl : ((q - exp : Int)) = (s : Int) := by omega
  have w3 : IntKind.i64.wrap (q - exp) = (s : Int) := by rw [IntWalk.i64_in _ (by omega)]; exact hsl
  have n1 : ¬ 64 < s := by omega
  have n1' : ¬ (64 : Int) < (s : Int) := by omega
  have hdv := (down_val (man := man) (s := s) h0).1 (show man.log2 = s + 52 by omega)
  have n2 : s < 64 := by omega
  have n2' : (s : Int) < (64 : Int) := by omega
  obtain ⟨s1,hf,m0,rest,t,od,j1,j2,j3,j4,j5,j6,w4,w5,w6,w7,w8,w9,w10,w11,w12,hhu⟩ := jmid hm hsp n2
  rw [j1,Nat.add_sub_cancel,← j1,j2,j4] at hr
  rw [j3] at hdv
  have r1 : hf < rest := hr
  have r1' : (hf : Int) < (rest : Int) := by omega
  rw [if_pos (.inl r1)] at hhu
  obtain ⟨m,hmm⟩ : ∃ m,m0 + 1 = m := ⟨_,rfl⟩
  have hkm : kept man exp = m := (hk.trans hhu).trans hmm
  have w13 : IntKind.u64.wrap ((m0 : Int) + 1) = (m : Int) := @au64 m0 1 m hmm (by omega)
  have hlo : 4503599627370496 ≤ m := by omega
  have hle : m ≤ 9007199254740992 := by omega
  have hend := join_end h0 hq hkm
  generalize rung man exp = rr at *
  by_cases tF : m = 9007199254740992
  · by_cases tI : 2046 < q + 1076
    · obtain ⟨hR,z1,z4,z5⟩ := jeI1 hend tF tI hqr.2
      have z3 : IntKind.u64.wrap 9218868437227405312 = 9218868437227405312 := rfl
      rw [hR]
      simp (maxSteps := 2000000) -implicitDefEqProofs [ble_d,beq_d,List.range_succ,List.replicate,cond_true,cond_false,ibeq,undef,hmode,n1,n1',n2,n2',w3,w4,w5,w6,w7,w8,w9,w10,w11,w12,cv3_117,shl37,shr37,r1,r1',w13,z1,z3,z4,z5,tI,tF]
    · obtain ⟨e,t',u,v,z2,z4,z5,z6,z7,z8,z9,z10,z11,z12⟩ := jeN1_f hend hqr.1 tF tI
      simp (maxSteps := 2000000) -implicitDefEqProofs [ble_d,beq_d,List.range_succ,List.replicate,cond_true,cond_false,ibeq,undef,hmode,n1,n1',n2,n2',w3,w4,w5,w6,w7,w8,w9,w10,w11,w12,cv3_117,shl37,shr37,r1,r1',w13,z2,tF,z4,z5,z6,z7,z8,z9,z10,z11,z12,shl37,cv3_37]
  · have hhi : m < 9007199254740992 := Nat.lt_of_le_of_ne hle tF
    by_cases tI : 2046 < q + 1075
    · obtain ⟨hR,z1,z2,z4,z5,z6⟩ := jeI0 hend hlo hhi tI hqr.2
      have z3 : IntKind.u64.wrap 9218868437227405312 = 9218868437227405312 := rfl
      rw [hR]
      simp (maxSteps := 2000000) -implicitDefEqProofs [ble_d,beq_d,List.range_succ,List.replicate,cond_true,cond_false,ibeq,undef,hmode,n1,n1',n2,n2',w3,w4,w5,w6,w7,w8,w9,w10,w11,w12,cv3_117,shl37,shr37,r1,r1',w13,z1,z2,z3,z4,z5,z6,tI]
    · obtain ⟨e,t',u,v,⟨z1,z2,z3,z4⟩,z5,z6,z7,z8,z9,z10,z11,z12⟩ := jeN0_f hend hqr.1 hlo hhi tI
      simp (maxSteps := 2000000) -implicitDefEqProofs [ble_d,beq_d,List.range_succ,List.replicate,cond_true,cond_false,ibeq,undef,hmode,n1,n1',n2,n2',w3,w4,w5,w6,w7,w8,w9,w10,w11,w12,cv3_117,shl37,shr37,r1,r1',w13,z1,z2,z3,z4,z5,z6,z7,z8,z9,z10,z11,z12,shl37,cv3_37]
end Go.Proofs.Ytmnkmdfladbgdaa.Od

set_option linter.unusedVariables false
set_option linter.unusedSimpArgs false
namespace Go.Proofs.Ytmnkmdfladbgdaa.Od
open Go Go.Proofs Go.RowKit Go.Proofs.YtmnkmdfladbgdaaAI Go.Proofs.YtmnkmdfladbgdaaFl Go.Proofs.YtmnkmdfladbgdaaRnd

set_option maxRecDepth 20000 in
set_option maxHeartbeats 6400000 in
theorem join_f_mid0to {h : Heap} {man : Nat} {exp : Int} (hm : man < 18446744073709551616) (he : -100000 ≤ exp) (he2 : exp ≤ 100000) (h0 : 0 < man) (hc1 : -3000 ≤ exp) (hc2 : exp ≤ 3000) (hcl : ¬ exp + (bl man : Nat) - 53 < -1074) (hmode : exp < lastP man exp) (hs : (lastP man exp - exp).toNat < 64) (hr : man % 2 ^ (lastP man exp - exp).toNat = 2 ^ ((lastP man exp - exp).toNat - 1)) (hr2 : man / 2 ^ (lastP man exp - exp).toNat % 2 = 1) : run Try.prog sO 68 [.bool false,U man,.int .i64 exp] h = some (U (rung man exp),h) := by
  suffices hx : ∃ y,fin Try.prog Try.f68 (aexecP Try.prog (sO 68) (run Try.prog sO) loopω pt68 (Try.f68.body.getD .skip) ([.bool false,U man,.int .i64 exp] ++ List.replicate (Try.f68.ntmps - 3) undef) h) = some y ∧ y.1 = U (rung man exp) ∧ y.2 = h by
    obtain ⟨⟨y1,y2⟩,hy,rfl,rfl⟩ := hx
    exact run_finP pt68 Try.func68 rfl planned68 hy
  have hlg := log2_lt64 hm
  have hbl : bl man = man.log2 + 1 := by unfold bl; rw [if_neg (by omega)]
  have elen := length_run (h := h) hm
  have h1 : ¬ man = 0 := by omega
  have h2 : ¬ exp < -3000 := by omega
  have h3 : ¬ 3000 < exp := by omega
  obtain ⟨q,hq⟩ : ∃ q,lastP man exp = q := ⟨_,rfl⟩
  have hqv : q = exp + (bl man : Nat) - 53 := by rw [← hq]; unfold lastP; rw [hbl] at hcl; omega
  have hql : q = exp + man.log2 - 52 := by rw [hbl] at hcl; (try rw [hbl] at hqv); omega
  have hqr : -1074 ≤ q ∧ q ≤ 4000 := by rw [← hq]; unfold lastP; omega
  rw [hq] at hmode hs hr hr2
  have w1 : IntKind.i64.wrap (exp + (bl man : Nat)) = exp + (bl man : Nat) := IntWalk.i64_in _ (by omega)
  have w2 : IntKind.i64.wrap (exp + (bl man : Nat) - 53) = exp + (bl man : Nat) - 53 := IntWalk.i64_in _ (by omega)
  obtain ⟨d,hd⟩ : ∃ d,d = (exp - q).toNat := ⟨_,rfl⟩
  have he0 : ej exp 0 = exp := by unfold ej; omega
  have hm0 : mu man 0 = man := by unfold mu; simp
  have hdm : 0 < d → man * 2 ^ d < 9007199254740992 := fun _ => (up_val h0 (by omega)).1
  simp (maxSteps := 2000000) -implicitDefEqProofs [Try.f68,ble_d,beq_d,List.range_succ,List.replicate,cond_true,cond_false,ibeq,h1,h2,h3,en89,elen,w1,w2,hcl,sO68,undef]
  generalize hl : loopω _ _ _ _ = r
  obtain ⟨h4,x33,x34,x35,hx,hh,_⟩ := useX3 hl (join1 (h0 := h) (v7 := .int .u64 0) (man := man) (d := d) (exp := exp) (q := q) hdm hc1 hc2 hd (by omega) _ (by kernel_rfl) _ (by rw [he0,hm0,hqv]; kernel_rfl) ⟨rfl,trivial⟩)
  subst hx
  subst hh
  clear hl
  have hej : ej exp d = exp := by unfold ej; omega
  rw [hej]
  have hd0 : d = 0 := by omega
  subst hd0
  rw [hm0]
  have hk : kept man exp = half man (q - exp).toNat := by unfold kept; rw [hq,if_neg (by omega)]
  obtain ⟨s,hss⟩ : ∃ s : Nat,(q - exp).toNat = s := ⟨_,rfl⟩
  rw [hss] at hk hr hs hr2
  have hsp : 0 < s := by omega
  have hsl : ((q - exp : Int)) = (s : Int) := by omega
  have w3 : IntKind.i64.wrap (q - exp) = (s : Int) := by rw [IntWalk.i64_in _ (by omega)]; exact hsl
  have n1 : ¬ 64 < s := by omega
  have n1' : ¬ (64 : Int) < (s : Int) := by omega
  have hdv := (down_val (man := man) (s := s) h0).1 (show man.log2 = s + 52 by omega)
  have n2 : s < 64 := by omega
  have n2' : (s : Int) < (64 : Int) := by omega
  obtain ⟨s1,hf,m0,rest,t,od,j1,j2,j3,j4,j5,j6,w4,w5,w6,w7,w8,w9,w10,w11,w12,hhu⟩ := jmid hm hsp n2
  rw [j1,Nat.add_sub_cancel,← j1,j2,j4] at hr
  rw [j3] at hdv
  rw [j3,j5] at hr2
  have r1 : ¬ hf < rest := by omega
  have r1' : ¬ (hf : Int) < (rest : Int) := by omega
  have r2 : rest = hf := hr
  have r2' : (rest : Int) = (hf : Int) := by omega
  rw [if_pos (.inr ⟨r2,hr2⟩)] at hhu
  have r3 : (od : Int) = 1 := by omega
  obtain ⟨m,hmm⟩ : ∃ m,m0 + 1 = m := ⟨_,rfl⟩
  have hkm : kept man exp = m := (hk.trans hhu).trans hmm
  have w13 : IntKind.u64.wrap ((m0 : Int) + 1) = (m : Int) := @au64 m0 1 m hmm (by omega)
  have hlo : 4503599627370496 ≤ m := by omega
  have hle : m ≤ 9007199254740992 := by omega
  have hend := join_end h0 hq hkm
  generalize rung man exp = rr at *
  by_cases tF : m = 9007199254740992
  · by_cases tI : 2046 < q + 1076
    · obtain ⟨hR,z1,z4,z5⟩ := jeI1 hend tF tI hqr.2
      have z3 : IntKind.u64.wrap 9218868437227405312 = 9218868437227405312 := rfl
      rw [hR]
      simp (maxSteps := 2000000) -implicitDefEqProofs [ble_d,beq_d,List.range_succ,List.replicate,cond_true,cond_false,ibeq,undef,hmode,n1,n1',n2,n2',w3,w4,w5,w6,w7,w8,w9,w10,w11,w12,cv3_117,shl37,shr37,r1,r1',r2,r3,hr2,w13,z1,z3,z4,z5,tI,tF]
    · obtain ⟨e,t',u,v,z2,z4,z5,z6,z7,z8,z9,z10,z11,z12⟩ := jeN1_f hend hqr.1 tF tI
      simp (maxSteps := 2000000) -implicitDefEqProofs [ble_d,beq_d,List.range_succ,List.replicate,cond_true,cond_false,ibeq,undef,hmode,n1,n1',n2,n2',w3,w4,w5,w6,w7,w8,w9,w10,w11,w12,cv3_117,shl37,shr37,r1,r1',r2,r3,hr2,w13,z2,tF,z4,z5,z6,z7,z8,z9,z10,z11,z12,shl37,cv3_37]
  · have hhi : m < 9007199254740992 := Nat.lt_of_le_of_ne hle tF
    by_cases tI : 2046 < q + 1075
    · obtain ⟨hR,z1,z2,z4,z5,z6⟩ := jeI0 hend hlo hhi tI hqr.2
      have z3 : IntKind.u64.wrap 9218868437227405312 = 9218868437227405312 := rfl
      rw [hR]
      simp (maxSteps := 2000000) -implicitDefEqProofs [ble_d,beq_d,List.range_succ,List.replicate,cond_true,cond_false,ibeq,undef,hmode,n1,n1',n2,n2',w3,w4,w5,w6,w7,w8,w9,w10,w11,w12,cv3_117,shl37,shr37,r1,r1',r2,r3,hr2,w13,z1,z2,z3,z4,z5,z6,tI]
    · obtain ⟨e,t',u,v,⟨z1,z2,z3,z4⟩,z5,z6,z7,z8,z9,z10,z11,z12⟩ := jeN0_f hend hqr.1 hlo hhi tI
      simp (maxSteps := 2000000) -implicitDefEqProofs [ble_d,beq_d,List.range_succ,List.replicate,cond_true,cond_false,ibeq,undef,hmode,n1,n1',n2,n2',w3,w4,w5,w6,w7,w8,w9,w10,w11,w12,cv3_117,shl37,shr37,r1,r1',r2,r3,hr2,w13,z1,z2,z3,z4,z5,z6,z7,z8,z9,z10,z11,z12,shl37,cv3_37]
set_option maxRecDepth 20000 in
set_option maxHeartbeats 6400000 in
theorem join_f_mid0te {h : Heap} {man : Nat} {exp : Int} (hm : man < 18446744073709551616) (he : -100000 ≤ exp) (he2 : exp ≤ 100000) (h0 : 0 < man) (hc1 : -3000 ≤ exp) (hc2 : exp ≤ 3000) (hcl : ¬ exp + (bl man : Nat) - 53 < -1074) (hmode : exp < lastP man exp) (hs : (lastP man exp - exp).toNat < 64) (hr : man % 2 ^ (lastP man exp - exp).toNat = 2 ^ ((lastP man exp - exp).toNat - 1)) (hr2 : ¬ man / 2 ^ (lastP man exp - exp).toNat % 2 = 1) : run Try.prog sO 68 [.bool false,U man,.int .i64 exp] h = some (U (rung man exp),h) := by
  suffices hx : ∃ y,fin Try.prog Try.f68 (aexecP Try.prog (sO 68) (run Try.prog sO) loopω pt68 (Try.f68.body.getD .skip) ([.bool false,U man,.int .i64 exp] ++ List.replicate (Try.f68.ntmps - 3) undef) h) = some y ∧ y.1 = U (rung man exp) ∧ y.2 = h by
    obtain ⟨⟨y1,y2⟩,hy,rfl,rfl⟩ := hx
    exact run_finP pt68 Try.func68 rfl planned68 hy
  have hlg := log2_lt64 hm
  have hbl : bl man = man.log2 + 1 := by unfold bl; rw [if_neg (by omega)]
  have elen := length_run (h := h) hm
  have h1 : ¬ man = 0 := by omega
  have h2 : ¬ exp < -3000 := by omega
  have h3 : ¬ 3000 < exp := by omega
  obtain ⟨q,hq⟩ : ∃ q,lastP man exp = q := ⟨_,rfl⟩
  have hqv : q = exp + (bl man : Nat) - 53 := by rw [← hq]; unfold lastP; rw [hbl] at hcl; omega
  have hql : q = exp + man.log2 - 52 := by rw [hbl] at hcl; (try rw [hbl] at hqv); omega
  have hqr : -1074 ≤ q ∧ q ≤ 4000 := by rw [← hq]; unfold lastP; omega
  rw [hq] at hmode hs hr hr2
  have w1 : IntKind.i64.wrap (exp + (bl man : Nat)) = exp + (bl man : Nat) := IntWalk.i64_in _ (by omega)
  have w2 : IntKind.i64.wrap (exp + (bl man : Nat) - 53) = exp + (bl man : Nat) - 53 := IntWalk.i64_in _ (by omega)
  obtain ⟨d,hd⟩ : ∃ d,d = (exp - q).toNat := ⟨_,rfl⟩
  have he0 : ej exp 0 = exp := by unfold ej; omega
  have hm0 : mu man 0 = man := by unfold mu; simp
  have hdm : 0 < d → man * 2 ^ d < 9007199254740992 := fun _ => (up_val h0 (by omega)).1
  simp (maxSteps := 2000000) -implicitDefEqProofs [Try.f68,ble_d,beq_d,List.range_succ,List.replicate,cond_true,cond_false,ibeq,h1,h2,h3,en89,elen,w1,w2,hcl,sO68,undef]
  generalize hl : loopω _ _ _ _ = r
  obtain ⟨h4,x33,x34,x35,hx,hh,_⟩ := useX3 hl (join1 (h0 := h) (v7 := .int .u64 0) (man := man) (d := d) (exp := exp) (q := q) hdm hc1 hc2 hd (by omega) _ (by kernel_rfl) _ (by rw [he0,hm0,hqv]; kernel_rfl) ⟨rfl,trivial⟩)
  subst hx
  subst hh
  clear hl
  have hej : ej exp d = exp := by unfold ej; omega
  rw [hej]
  have hd0 : d = 0 := by omega
  subst hd0
  rw [hm0]
  have hk : kept man exp = half man (q - exp).toNat := by unfold kept; rw [hq,if_neg (by omega)]
  obtain ⟨s,hss⟩ : ∃ s : Nat,(q - exp).toNat = s := ⟨_,rfl⟩
  rw [hss] at hk hr hs hr2
  have hsp : 0 < s := by omega
  have hsl : ((q - exp : Int)) = (s : Int) := by omega
  have w3 : IntKind.i64.wrap (q - exp) = (s : Int) := by rw [IntWalk.i64_in _ (by omega)]; exact hsl
  have n1 : ¬ 64 < s := by omega
  have n1' : ¬ (64 : Int) < (s : Int) := by omega
  have hdv := (down_val (man := man) (s := s) h0).1 (show man.log2 = s + 52 by omega)
  have n2 : s < 64 := by omega
  have n2' : (s : Int) < (64 : Int) := by omega
  obtain ⟨s1,hf,m0,rest,t,od,j1,j2,j3,j4,j5,j6,w4,w5,w6,w7,w8,w9,w10,w11,w12,hhu⟩ := jmid hm hsp n2
  rw [j1,Nat.add_sub_cancel,← j1,j2,j4] at hr
  rw [j3] at hdv
  rw [j3,j5] at hr2
  have r1 : ¬ hf < rest := by omega
  have r1' : ¬ (hf : Int) < (rest : Int) := by omega
  have r2 : rest = hf := hr
  have r2' : (rest : Int) = (hf : Int) := by omega
  have r3' : ¬ (od : Int) = 1 := by omega
  rw [if_neg (fun x => x.elim r1 fun y => hr2 y.2)] at hhu
  obtain ⟨m,hmm⟩ : ∃ m,m = m0 := ⟨_,rfl⟩
  rw [← hmm] at hhu hdv w8 w9 w11 w12
  have hkm : kept man exp = m := hk.trans hhu
  have hend := join_end h0 hq hkm
  generalize rung man exp = rr at *
  by_cases tI : 2046 < q + 1075
  · obtain ⟨hR,z1,z2,z4,z5,z6⟩ := jeI0 hend hdv.1 hdv.2 tI hqr.2
    have z3 : IntKind.u64.wrap 9218868437227405312 = 9218868437227405312 := rfl
    rw [hR]
    simp (maxSteps := 2000000) -implicitDefEqProofs [ble_d,beq_d,List.range_succ,List.replicate,cond_true,cond_false,ibeq,undef,hmode,n1,n1',n2,n2',w3,w4,w5,w6,w7,w8,w9,w10,w11,w12,cv3_117,shl37,shr37,r1,r1',r2,hr2,r3',z1,z2,z3,z4,z5,z6,tI]
  · obtain ⟨e,t',u,v,⟨z1,z2,z3,z4⟩,z5,z6,z7,z8,z9,z10,z11,z12⟩ := jeN0_f hend hqr.1 hdv.1 hdv.2 tI
    simp (maxSteps := 2000000) -implicitDefEqProofs [ble_d,beq_d,List.range_succ,List.replicate,cond_true,cond_false,ibeq,undef,hmode,n1,n1',n2,n2',w3,w4,w5,w6,w7,w8,w9,w10,w11,w12,cv3_117,shl37,shr37,r1,r1',r2,hr2,r3',z1,z2,z3,z4,z5,z6,z7,z8,z9,z10,z11,z12,shl37,cv3_37]
set_option maxRecDepth 20000 in
set_option maxHeartbeats 6400000 in
theorem join_f_mid0lt {h : Heap} {man : Nat} {exp : Int} (hm : man < 18446744073709551616) (he : -100000 ≤ exp) (he2 : exp ≤ 100000) (h0 : 0 < man) (hc1 : -3000 ≤ exp) (hc2 : exp ≤ 3000) (hcl : ¬ exp + (bl man : Nat) - 53 < -1074) (hmode : exp < lastP man exp) (hs : (lastP man exp - exp).toNat < 64) (hr : man % 2 ^ (lastP man exp - exp).toNat < 2 ^ ((lastP man exp - exp).toNat - 1)) : run Try.prog sO 68 [.bool false,U man,.int .i64 exp] h = some (U (rung man exp),h) := by
  suffices hx : ∃ y,fin Try.prog Try.f68 (aexecP Try.prog (sO 68) (run Try.prog sO) loopω pt68 (Try.f68.body.getD .skip) ([.bool false,U man,.int .i64 exp] ++ List.replicate (Try.f68.ntmps - 3) undef) h) = some y ∧ y.1 = U (rung man exp) ∧ y.2 = h by
    obtain ⟨⟨y1,y2⟩,hy,rfl,rfl⟩ := hx
    exact run_finP pt68 Try.func68 rfl planned68 hy
  have hlg := log2_lt64 hm
  have hbl : bl man = man.log2 + 1 := by unfold bl; rw [if_neg (by omega)]
  have elen := length_run (h := h) hm
  have h1 : ¬ man = 0 := by omega
  have h2 : ¬ exp < -3000 := by omega
  have h3 : ¬ 3000 < exp := by omega
  obtain ⟨q,hq⟩ : ∃ q,lastP man exp = q := ⟨_,rfl⟩
  have hqv : q = exp + (bl man : Nat) - 53 := by rw [← hq]; unfold lastP; rw [hbl] at hcl; omega
  have hql : q = exp + man.log2 - 52 := by rw [hbl] at hcl; (try rw [hbl] at hqv); omega
  have hqr : -1074 ≤ q ∧ q ≤ 4000 := by rw [← hq]; unfold lastP; omega
  rw [hq] at hmode hs hr
  have w1 : IntKind.i64.wrap (exp + (bl man : Nat)) = exp + (bl man : Nat) := IntWalk.i64_in _ (by omega)
  have w2 : IntKind.i64.wrap (exp + (bl man : Nat) - 53) = exp + (bl man : Nat) - 53 := IntWalk.i64_in _ (by omega)
  obtain ⟨d,hd⟩ : ∃ d,d = (exp - q).toNat := ⟨_,rfl⟩
  have he0 : ej exp 0 = exp := by unfold ej; omega
  have hm0 : mu man 0 = man := by unfold mu; simp
  have hdm : 0 < d → man * 2 ^ d < 9007199254740992 := fun _ => (up_val h0 (by omega)).1
  simp (maxSteps := 2000000) -implicitDefEqProofs [Try.f68,ble_d,beq_d,List.range_succ,List.replicate,cond_true,cond_false,ibeq,h1,h2,h3,en89,elen,w1,w2,hcl,sO68,undef]
  generalize hl : loopω _ _ _ _ = r
  obtain ⟨h4,x33,x34,x35,hx,hh,_⟩ := useX3 hl (join1 (h0 := h) (v7 := .int .u64 0) (man := man) (d := d) (exp := exp) (q := q) hdm hc1 hc2 hd (by omega) _ (by kernel_rfl) _ (by rw [he0,hm0,hqv]; kernel_rfl) ⟨rfl,trivial⟩)
  subst hx
  subst hh
  clear hl
  have hej : ej exp d = exp := by unfold ej; omega
  rw [hej]
  have hd0 : d = 0 := by omega
  subst hd0
  rw [hm0]
  have hk : kept man exp = half man (q - exp).toNat := by unfold kept; rw [hq,if_neg (by omega)]
  obtain ⟨s,hss⟩ : ∃ s : Nat,(q - exp).toNat = s := ⟨_,rfl⟩
  rw [hss] at hk hr hs
  have hsp : 0 < s := by omega
  have hsl : ((q - exp : Int)) = (s : Int) := by omega
  have w3 : IntKind.i64.wrap (q - exp) = (s : Int) := by rw [IntWalk.i64_in _ (by omega)]; exact hsl
  have n1 : ¬ 64 < s := by omega
  have n1' : ¬ (64 : Int) < (s : Int) := by omega
  have hdv := (down_val (man := man) (s := s) h0).1 (show man.log2 = s + 52 by omega)
  have n2 : s < 64 := by omega
  have n2' : (s : Int) < (64 : Int) := by omega
  obtain ⟨s1,hf,m0,rest,t,od,j1,j2,j3,j4,j5,j6,w4,w5,w6,w7,w8,w9,w10,w11,w12,hhu⟩ := jmid hm hsp n2
  rw [j1,Nat.add_sub_cancel,← j1,j2,j4] at hr
  rw [j3] at hdv
  have r1 : ¬ hf < rest := by omega
  have r1' : ¬ (hf : Int) < (rest : Int) := by omega
  have r2 : ¬ rest = hf := by omega
  have r2' : ¬ (rest : Int) = (hf : Int) := by omega
  rw [if_neg (fun x => x.elim r1 fun y => r2 y.1)] at hhu
  obtain ⟨m,hmm⟩ : ∃ m,m = m0 := ⟨_,rfl⟩
  rw [← hmm] at hhu hdv w8 w9 w11 w12
  have hkm : kept man exp = m := hk.trans hhu
  have hend := join_end h0 hq hkm
  generalize rung man exp = rr at *
  by_cases tI : 2046 < q + 1075
  · obtain ⟨hR,z1,z2,z4,z5,z6⟩ := jeI0 hend hdv.1 hdv.2 tI hqr.2
    have z3 : IntKind.u64.wrap 9218868437227405312 = 9218868437227405312 := rfl
    rw [hR]
    simp (maxSteps := 2000000) -implicitDefEqProofs [ble_d,beq_d,List.range_succ,List.replicate,cond_true,cond_false,ibeq,undef,hmode,n1,n1',n2,n2',w3,w4,w5,w6,w7,w8,w9,w10,w11,w12,cv3_117,shl37,shr37,r1,r1',r2,r2',z1,z2,z3,z4,z5,z6,tI]
  · obtain ⟨e,t',u,v,⟨z1,z2,z3,z4⟩,z5,z6,z7,z8,z9,z10,z11,z12⟩ := jeN0_f hend hqr.1 hdv.1 hdv.2 tI
    simp (maxSteps := 2000000) -implicitDefEqProofs [ble_d,beq_d,List.range_succ,List.replicate,cond_true,cond_false,ibeq,undef,hmode,n1,n1',n2,n2',w3,w4,w5,w6,w7,w8,w9,w10,w11,w12,cv3_117,shl37,shr37,r1,r1',r2,r2',z1,z2,z3,z4,z5,z6,z7,z8,z9,z10,z11,z12,shl37,cv3_37]
end Go.Proofs.Ytmnkmdfladbgdaa.Od
