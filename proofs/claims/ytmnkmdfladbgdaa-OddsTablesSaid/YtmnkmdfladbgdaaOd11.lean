/- Odds: the document's sums and quotients are the floats'. -/
import Derived.Test.YtmnkmdfladbgdaaOl13
set_option linter.unusedVariables false
set_option linter.unusedSimpArgs false
namespace Go.Proofs.Ytmnkmdfladbgdaa.Od
open Go Go.Proofs Go.RowKit Go.Proofs.YtmnkmdfladbgdaaAI Go.Proofs.YtmnkmdfladbgdaaFl Go.Proofs.YtmnkmdfladbgdaaRnd

theorem rung_shift (N k : Nat) (exp : Int) : rung (N * 2 ^ k) (exp - k) = rung N exp := by
  refine (near_rung' (N * 2 ^ k) (exp - k)).uniq (Nat.two_pow_pos _) (Nat.two_pow_pos _) (near_rung' N exp) ?_
  rw [Nat.mul_assoc N,← Nat.pow_add,Nat.mul_assoc,Nat.mul_assoc,← Nat.pow_add,← Nat.pow_add]
  congr 2
  omega
theorem add_val {a b : Nat} (ha : a < 9218868437227405312) (hb : b < 9218868437227405312) {low : Int} (h1 : -1074 ≤ low) (h2 : low ≤ peB a) (h3 : low ≤ peB b) :
    rung (pmB a * 2 ^ (peB a - low).toNat + pmB b * 2 ^ (peB b - low).toNat) low = addB a b := by
  obtain ⟨va,_,_,ea,_,_⟩ := parts_val ha
  obtain ⟨vb,_,_,eb,_,_⟩ := parts_val hb
  obtain ⟨r,e,hr⟩ := add_near (a := a) (b := b) ha hb
  have hB : addB a b = r := by unfold addB; rw [e]; rfl
  rw [hB]
  refine (near_rung' _ _).uniq (Nat.two_pow_pos _) Nat.one_pos hr ?_
  have q1 : (-(low + 1075)).toNat = 0 := by omega
  have q2 : (low + 1075).toNat = (low + 1074).toNat + 1 := by omega
  have q3 : (peB a + 1074).toNat = (peB a - low).toNat + (low + 1074).toNat := by omega
  have q4 : (peB b + 1074).toNat = (peB b - low).toNat + (low + 1074).toNat := by omega
  rw [va,vb,q1,q2,q3,q4,Nat.pow_zero,Nat.mul_one,Nat.mul_one,Nat.pow_succ,Nat.pow_add,Nat.pow_add]
  generalize 2 ^ (low + 1074).toNat = L
  generalize 2 ^ (peB a - low).toNat = x
  generalize 2 ^ (peB b - low).toNat = y
  rw [Nat.add_mul,Nat.mul_add,← Nat.mul_assoc (pmB a),← Nat.mul_assoc (pmB b),← Nat.mul_assoc,← Nat.mul_assoc,Nat.mul_comm 2,Nat.mul_comm 2]
theorem div_val {a b s : Nat} (ha : a < 9218868437227405312) (hb : b < 9218868437227405312) (ha0 : 0 < a) (hb0 : 0 < b) (hbig : 2 ^ 53 ≤ pmB a * 2 ^ 128 / (pmB b * 2 ^ s)) :
    rung (2 * (pmB a * 2 ^ 128 / pmB b / 2 ^ s) + (pmB a * 2 ^ 128 % pmB b != 0 || pmB a * 2 ^ 128 / pmB b % 2 ^ s != 0).toNat) (peB a - peB b - 128 + s - 1) = divB a b := by
  obtain ⟨va,_,_,ea,_,_⟩ := parts_val ha
  obtain ⟨vb,_,_,eb,_,nb⟩ := parts_val hb
  have hn := nb hb0
  obtain ⟨r,e,hr⟩ := div_near (a := a) (b := b) ha hb hb0
  have hB : divB a b = r := by unfold divB; rw [e]; rfl
  rw [hB]
  obtain ⟨K,hK⟩ : ∃ K : Nat,K = 1075 := ⟨_,rfl⟩
  rw [← hK] at hr
  obtain ⟨c1,c2⟩ := div_cut (Q := pmB a * 2 ^ 128) (s := s) hn
  have hst : (pmB a * 2 ^ 128 % pmB b != 0 || pmB a * 2 ^ 128 / pmB b % 2 ^ s != 0) = (pmB a * 2 ^ 128 % (pmB b * 2 ^ s) != 0) := by
    rw [Bool.eq_iff_iff]
    simp only [Bool.or_eq_true,bne_iff_ne,ne_eq,c2]
    exact ⟨fun h x => h.elim (fun y => y x.1) (fun y => y x.2),fun h => if y : pmB a * 2 ^ 128 % pmB b = 0 then .inr fun z => h ⟨y,z⟩ else .inl y⟩
  rw [hst,← c1]
  have hd : 0 < pmB b * 2 ^ s := Nat.mul_pos hn (Nat.two_pow_pos _)
  have hvb : 0 < Vr b := by rw [vb]; exact Nat.mul_pos hn (Nat.two_pow_pos _)
  refine (sticky_near hd hbig _).uniq (Nat.mul_pos hd (Nat.two_pow_pos _)) hvb hr ?_
  rw [va,vb]
  generalize pmB a = m
  generalize pmB b = n
  rw [show m * 2 ^ (peB a + 1074).toNat * 2 ^ K * (n * 2 ^ s * 2 ^ (-(peB a - peB b - 128 + s - 1 + 1 + 1075)).toNat) = m * n * (2 ^ (peB a + 1074).toNat * 2 ^ K * 2 ^ s * 2 ^ (-(peB a - peB b - 128 + s - 1 + 1 + 1075)).toNat) by simp only [Nat.mul_assoc,Nat.mul_left_comm,Nat.mul_comm],
    show m * 2 ^ 128 * 2 ^ (peB a - peB b - 128 + s - 1 + 1 + 1075).toNat * (n * 2 ^ (peB b + 1074).toNat) = m * n * (2 ^ 128 * 2 ^ (peB a - peB b - 128 + s - 1 + 1 + 1075).toNat * 2 ^ (peB b + 1074).toNat) by simp only [Nat.mul_assoc,Nat.mul_left_comm,Nat.mul_comm]]
  rw [← Nat.pow_add,← Nat.pow_add,← Nat.pow_add,← Nat.pow_add,← Nat.pow_add]
  congr 2
  omega
theorem divB_zero {b : Nat} (hb : Pos b) (h0 : 0 < b) : divB 0 b = 0 := by
  rcases Nat.lt_or_eq_of_le hb with h | h
  · obtain ⟨r,e,hr⟩ := div_near (a := 0) (b := b) (by unfold iR; omega) h h0
    have hB : divB 0 b = r := by unfold divB; rw [e]; rfl
    rw [hB]
    obtain ⟨K,hK⟩ : ∃ K : Nat,K = 1075 := ⟨_,rfl⟩
    rw [← hK] at hr
    have hv0 : Vr 0 = 0 := by unfold Vr; rw [if_pos (by omega)]
    have hvb : 0 < Vr b := Nat.lt_of_le_of_lt (Nat.zero_le _) (Vr_mono h0)
    refine hr.uniq hvb hvb (near_zero _ hvb) ?_
    rw [hv0,Nat.zero_mul,Nat.zero_mul]
  · have : b = iR := h
    unfold divB; rw [this,div_inf (by unfold iR; omega)]; rfl
theorem divB_inf {a : Nat} (ha : a < 9218868437227405312) : divB a 9218868437227405312 = 0 := by
  have := div_inf (a := a) ha
  unfold divB
  rw [show (9218868437227405312 : Nat) = iR from rfl,this]; rfl
theorem addB_inf {a : Nat} (ha : Pos a) : addB a 9218868437227405312 = 9218868437227405312 ∧ addB 9218868437227405312 a = 9218868437227405312 := by
  obtain ⟨h1,h2⟩ := add_inf (a := a) ha
  unfold addB
  rw [show (9218868437227405312 : Nat) = iR from rfl,h1,h2]; exact ⟨rfl,rfl⟩
end Go.Proofs.Ytmnkmdfladbgdaa.Od
