/- Odds: products of floats from nought on. -/
import Derived.Test.YtmnkmdfladbgdaaOd12
import Derived.Test.YtmnkmdfladbgdaaOl30
set_option linter.unusedVariables false
set_option linter.unusedSimpArgs false
namespace Go.Proofs.Ytmnkmdfladbgdaa.Od
open Go Go.Proofs Go.RowKit Go.Proofs.YtmnkmdfladbgdaaAI Go.Proofs.YtmnkmdfladbgdaaFl Go.Proofs.YtmnkmdfladbgdaaRnd

def mulB (a b : Nat) : Nat := (Ieee.double.mul a b).getD 0
theorem mul_ok {a b : Nat} (ha : a < 9218868437227405312) (hb : b < 9218868437227405312) : Ieee.double.mul a b = some (mulB a b) ∧ Pos (mulB a b) := by
  obtain ⟨r,e,hr⟩ := mul_near (a := a) (b := b) ha hb
  have hB : mulB a b = r := by unfold mulB; rw [e]; rfl
  rw [hB]
  exact ⟨e,hr.1⟩
theorem mul_val {a b : Nat} (ha : a < 9218868437227405312) (hb : b < 9218868437227405312) : rung (pmB a * pmB b) (peB a + peB b) = mulB a b := by
  obtain ⟨va,_,_,ea,_,_⟩ := parts_val ha
  obtain ⟨vb,_,_,eb,_,_⟩ := parts_val hb
  obtain ⟨r,e,hr⟩ := mul_near (a := a) (b := b) ha hb
  have hB : mulB a b = r := by unfold mulB; rw [e]; rfl
  rw [hB]
  obtain ⟨K,hK⟩ : ∃ K : Nat,K = 1073 := ⟨_,rfl⟩
  rw [← hK] at hr
  refine (near_rung' _ _).uniq (Nat.two_pow_pos _) (Nat.two_pow_pos _) hr ?_
  rw [va,vb]
  generalize pmB a = m
  generalize pmB b = n
  rw [show m * 2 ^ (peB a + 1074).toNat * (n * 2 ^ (peB b + 1074).toNat) * 2 ^ (-(peB a + peB b + 1075)).toNat = m * n * (2 ^ (peB a + 1074).toNat * 2 ^ (peB b + 1074).toNat * 2 ^ (-(peB a + peB b + 1075)).toNat) by simp only [Nat.mul_assoc,Nat.mul_left_comm,Nat.mul_comm],Nat.mul_assoc (m * n)]
  rw [← Nat.pow_add,← Nat.pow_add,← Nat.pow_add]
  congr 2
  omega
theorem mulB_zero {a : Nat} (ha : a < 9218868437227405312) : mulB a 0 = 0 ∧ mulB 0 a = 0 := by
  have h0 : pmB 0 = 0 := rfl
  constructor
  · rw [← mul_val ha (by omega),h0,Nat.mul_zero]; rfl
  · rw [← mul_val (by omega) ha,h0,Nat.zero_mul]; rfl
set_option maxRecDepth 20000 in
set_option maxHeartbeats 6400000 in
theorem mul_run {h : Heap} {a b : Nat} (ha : a < 9218868437227405312) (hb : b < 9218868437227405312) : ∃ h',run Try.prog sO 40 [U a,U b] h = some (U (mulB a b),h') ∧ Keep No h h' := by
  by_cases c1 : a = 0
  · refine ⟨h,run_finP pt40 Try.func40 rfl planned40 ?_,Keep.refl _ _⟩
    subst c1
    rw [(mulB_zero hb).2]
    simp (maxSteps := 2000000) -implicitDefEqProofs [Try.f40,ble_d,beq_d,List.range_succ,List.replicate,cond_true,cond_false,ibeq,undef]
  by_cases c2 : b = 0
  · refine ⟨h,run_finP pt40 Try.func40 rfl planned40 ?_,Keep.refl _ _⟩
    subst c2
    rw [(mulB_zero ha).1]
    simp (maxSteps := 2000000) -implicitDefEqProofs [Try.f40,ble_d,beq_d,List.range_succ,List.replicate,cond_true,cond_false,ibeq,c1,undef]
  have ra := @parts_run h a (by omega) (by omega)
  have rb' := @parts_run h b (by omega) (by omega)
  rw [Nat.mod_eq_of_lt (by omega)] at ra rb'
  rw [decide_eq_false (by omega)] at ra rb'
  obtain ⟨va,va2,va3,va4,va5,va6⟩ := parts_val ha
  obtain ⟨vb,vb2,vb3,vb4,vb5,vb6⟩ := parts_val hb
  have m0 := va6 (by omega)
  have n0 := vb6 (by omega)
  obtain ⟨v1,h1,e1,n1,kk1⟩ := @nat_run h (pmB a) (by omega)
  obtain ⟨v3,h3,e3,n3,kk3⟩ := @nat_run h1 (pmB b) (by omega)
  obtain ⟨v4,h4,e4,n4,b4⟩ := times_run (n1.keep kk3) n3 (by simp) (by simp)
  rw [nv_two,nv_two] at n4 b4
  simp only [List.length_cons,List.length_nil] at b4
  have na4 := n4.na (by omega)
  have kA : Keep No h h4 := (kk1.trans kk3).trans n4.2.1
  have hpos : 0 < pmB a * pmB b := Nat.mul_pos m0 n0
  obtain ⟨ex,hex⟩ : ∃ ex : Int,peB a + peB b = ex := ⟨_,rfl⟩
  obtain ⟨h5,e5,k5⟩ := round_f (exp := ex) false na4 (by omega) (by rw [nv_lm]; exact hpos) (by omega) (by omega)
  rw [nv_lm,Bool.false_or,rung_rq hpos,← hex,mul_val ha hb,hex] at e5
  have w1 : IntKind.i64.wrap (peB a + peB b) = ex := by rw [IntWalk.i64_in _ (by omega)]; exact hex
  refine ⟨h5,run_finP pt40 Try.func40 rfl planned40 ?_,kA.trans k5⟩
  simp (maxSteps := 2000000) -implicitDefEqProofs [Try.f40,ble_d,beq_d,List.range_succ,List.replicate,cond_true,cond_false,en60,en62,en73,en64,ra,rb',e1,e3,e4,e5,w1,ibeq,c1,c2,undef]
end Go.Proofs.Ytmnkmdfladbgdaa.Od
