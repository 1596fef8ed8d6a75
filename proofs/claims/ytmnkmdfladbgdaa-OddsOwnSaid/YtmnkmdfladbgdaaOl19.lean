/- Odds: round. -/
import Derived.Test.YtmnkmdfladbgdaaOl14
import Derived.Test.YtmnkmdfladbgdaaOl16
import Derived.Test.YtmnkmdfladbgdaaOl13
set_option linter.unusedVariables false
set_option linter.unusedSimpArgs false
namespace Go.Proofs.Ytmnkmdfladbgdaa.Od
open Go Go.Proofs Go.RowKit Go.Proofs.YtmnkmdfladbgdaaAI Go.Proofs.YtmnkmdfladbgdaaFl Go.Proofs.YtmnkmdfladbgdaaRnd

theorem join_f {h : Heap} {man : Nat} {exp : Int} (hm : man < 18446744073709551616) (he : -100000 ≤ exp) (he2 : exp ≤ 100000) : run Try.prog sO 68 [.bool false,U man,.int .i64 exp] h = some (U (rung man exp),h) := by
  rcases Nat.eq_zero_or_pos man with h0 | h0
  · exact join_f_low hm he he2 (.inl h0)
  by_cases c1 : exp < -3000
  · exact join_f_low hm he he2 (.inr c1)
  by_cases c2 : 3000 < exp
  · exact join_f_high hm he he2 h0 c2
  have c1' : -3000 ≤ exp := by omega
  have c2' : exp ≤ 3000 := by omega
  have hbl : bl man = man.log2 + 1 := by unfold bl; rw [if_neg (by omega)]
  by_cases cl : exp + (bl man : Nat) - 53 < -1074
  · by_cases cm : lastP man exp ≤ exp
    · exact join_f_up1 hm he he2 h0 c1' c2' cl cm
    · by_cases cf : 64 < (lastP man exp - exp).toNat
      · exact join_f_far hm he he2 h0 c1' c2' cl (by omega) cf
      · by_cases c64 : (lastP man exp - exp).toNat = 64
        · rcases Nat.lt_trichotomy (2 ^ ((lastP man exp - exp).toNat - 1)) (man % 2 ^ (lastP man exp - exp).toNat) with x | x | x
          · exact join_f_s641gt hm he he2 h0 c1' c2' cl (by omega) c64 x
          · exact join_f_s641eq hm he he2 h0 c1' c2' cl (by omega) c64 x.symm
          · exact join_f_s641lt hm he he2 h0 c1' c2' cl (by omega) c64 x
        · rcases Nat.lt_trichotomy (2 ^ ((lastP man exp - exp).toNat - 1)) (man % 2 ^ (lastP man exp - exp).toNat) with x | x | x
          · exact join_f_mid1gt hm he he2 h0 c1' c2' cl (by omega) (by omega) x
          · by_cases y : man / 2 ^ (lastP man exp - exp).toNat % 2 = 1
            · exact join_f_mid1to hm he he2 h0 c1' c2' cl (by omega) (by omega) x.symm y
            · exact join_f_mid1te hm he he2 h0 c1' c2' cl (by omega) (by omega) x.symm y
          · exact join_f_mid1lt hm he he2 h0 c1' c2' cl (by omega) (by omega) x
  · have hlg := log2_lt64 hm
    have hlp : lastP man exp ≤ exp + man.log2 - 52 := by unfold lastP; omega
    by_cases cm : lastP man exp ≤ exp
    · exact join_f_up0 hm he he2 h0 c1' c2' cl cm
    · rcases Nat.lt_trichotomy (2 ^ ((lastP man exp - exp).toNat - 1)) (man % 2 ^ (lastP man exp - exp).toNat) with x | x | x
      · exact join_f_mid0gt hm he he2 h0 c1' c2' cl (by omega) (by omega) x
      · by_cases y : man / 2 ^ (lastP man exp - exp).toNat % 2 = 1
        · exact join_f_mid0to hm he he2 h0 c1' c2' cl (by omega) (by omega) x.symm y
        · exact join_f_mid0te hm he he2 h0 c1' c2' cl (by omega) (by omega) x.symm y
      · exact join_f_mid0lt hm he he2 h0 c1' c2' cl (by omega) (by omega) x
end Go.Proofs.Ytmnkmdfladbgdaa.Od

set_option linter.unusedVariables false
set_option linter.unusedSimpArgs false
namespace Go.Proofs.Ytmnkmdfladbgdaa.Od
open Go Go.Proofs Go.RowKit Go.Proofs.YtmnkmdfladbgdaaAI Go.Proofs.YtmnkmdfladbgdaaFl Go.Proofs.YtmnkmdfladbgdaaRnd

def mq (Q L i : Nat) : Nat := Q / 4294967296 ^ (L - i)
set_option maxRecDepth 20000 in
set_option maxHeartbeats 6400000 in
theorem round1 {h0 : Heap} {v0 v2 v3 v9 : Value} {qa : Option Addr} {qc L : Nat} {a : List Nat} (hL : a.length = L) (wa : W32 a) (ka : L ≤ 1000) (hQ : nv a < 9223372036854775808) (hq : Sl h0 (.slice qa L qc) 1 L (u3 a)) (F : Step) (hFF : F = aexecP Try.prog (sO 64) (run Try.prog sO) loopω pt64 (lb64 0)) (t : Tm)
    (ht : forget [1,4,5,6,7,8,13,14,15,16,17,18,19,20,21,22,23,24,25,26,27,28,29,30,31,32,33,34,35,36,37,38,39,40,41,42,43,44,45,46,47,48,49,50,51,52,53,54,55,56,57,58,59,60] t = [v0,Z,v2,v3,Z,Z,Z,Z,Z,v9,.slice qa L qc,.int .u64 (mq (nv a) L (0) : Nat),.int .i64 (lz L (0)),Z,Z,Z,Z,Z,Z,Z,Z,Z,Z,Z,Z,Z,Z,Z,Z,Z,Z,Z,Z,Z,Z,Z,Z,Z,Z,Z,Z,Z,Z,Z,Z,Z,Z,Z,Z,Z,Z,Z,Z,Z,Z,Z,Z,Z,Z,Z,Z]) (hI0 : h0 = h0) :
    ∃ h' x37 x38,loopω [1,4,5,6,7,8,13,14,15,16,17,18,19,20,21,22,23,24,25,26,27,28,29,30,31,32,33,34,35,36,37,38,39,40,41,42,43,44,45,46,47,48,49,50,51,52,53,54,55,56,57,58,59,60] F t h0 = some (.exit 0,[v0,Z,v2,v3,Z,Z,Z,Z,Z,v9,.slice qa L qc,.int .u64 (mq (nv a) L (L) : Nat),.int .i64 (lz L (L)),Z,Z,Z,Z,Z,Z,Z,Z,Z,Z,Z,Z,Z,Z,Z,Z,Z,Z,Z,Z,Z,Z,Z,Z,x37,x38,Z,Z,Z,Z,Z,Z,Z,Z,Z,Z,Z,Z,Z,Z,Z,Z,Z,Z,Z,Z,Z,Z],h') ∧ h' = h0 := by
  subst hFF
  suffices hs : ∃ e t' h',loopω [1,4,5,6,7,8,13,14,15,16,17,18,19,20,21,22,23,24,25,26,27,28,29,30,31,32,33,34,35,36,37,38,39,40,41,42,43,44,45,46,47,48,49,50,51,52,53,54,55,56,57,58,59,60] (aexecP Try.prog (sO 64) (run Try.prog sO) loopω pt64 (lb64 0)) t h0 = some (e,t',h') ∧ (e = .exit 0 ∧ ∃ x37 x38,t' = [v0,Z,v2,v3,Z,Z,Z,Z,Z,v9,.slice qa L qc,.int .u64 (mq (nv a) L (L) : Nat),.int .i64 (lz L (L)),Z,Z,Z,Z,Z,Z,Z,Z,Z,Z,Z,Z,Z,Z,Z,Z,Z,Z,Z,Z,Z,Z,Z,Z,x37,x38,Z,Z,Z,Z,Z,Z,Z,Z,Z,Z,Z,Z,Z,Z,Z,Z,Z,Z,Z,Z,Z,Z] ∧ h' = h0) by
    obtain ⟨e,t',h',q1,rfl,x37,x38,rfl,q2⟩ := hs
    exact ⟨h',x37,x38,q1,q2⟩
  simp only [lb64,Try.f64,loopsOf,Option.getD_some,List.nil_append,List.append_nil,List.cons_append,List.getD_cons_zero,List.getD_cons_succ]
  refine loop_by (fun k t h' => ∃ (i : Nat),i + k = L ∧ forget [1,4,5,6,7,8,13,14,15,16,17,18,19,20,21,22,23,24,25,26,27,28,29,30,31,32,33,34,35,36,37,38,39,40,41,42,43,44,45,46,47,48,49,50,51,52,53,54,55,56,57,58,59,60] t = [v0,Z,v2,v3,Z,Z,Z,Z,Z,v9,.slice qa L qc,.int .u64 (mq (nv a) L (i) : Nat),.int .i64 (lz L (i)),Z,Z,Z,Z,Z,Z,Z,Z,Z,Z,Z,Z,Z,Z,Z,Z,Z,Z,Z,Z,Z,Z,Z,Z,Z,Z,Z,Z,Z,Z,Z,Z,Z,Z,Z,Z,Z,Z,Z,Z,Z,Z,Z,Z,Z,Z,Z,Z] ∧ h' = h0)
    (fun e t' h' => e = .exit 0 ∧ ∃ x37 x38,t' = [v0,Z,v2,v3,Z,Z,Z,Z,Z,v9,.slice qa L qc,.int .u64 (mq (nv a) L (L) : Nat),.int .i64 (lz L (L)),Z,Z,Z,Z,Z,Z,Z,Z,Z,Z,Z,Z,Z,Z,Z,Z,Z,Z,Z,Z,Z,Z,Z,Z,x37,x38,Z,Z,Z,Z,Z,Z,Z,Z,Z,Z,Z,Z,Z,Z,Z,Z,Z,Z,Z,Z,Z,Z] ∧ h' = h0) ?_ (L) _ _ ⟨0,by omega,ht,hI0⟩
  rintro k t h' ⟨i,hi,ht,hI⟩
  rw [ht]
  rcases Nat.lt_or_ge i (L) with h1 | h1
  · obtain ⟨p,hp⟩ : ∃ p : Nat,L - 1 - i = p := ⟨_,rfl⟩
    have hz1 : lz L i = (p : Int) := by unfold lz; omega
    have hz2 : IntKind.i64.wrap ((p : Int) - 1) = lz L (i + 1) := by rw [IntWalk.i64_in _ (by omega)]; unfold lz; omega
    have hm1 : mq (nv a) L i = nv a / 4294967296 ^ (p + 1) := by unfold mq; rw [show L - i = p + 1 by omega]
    have hm2 : mq (nv a) L (i + 1) = nv a / 4294967296 ^ p := by unfold mq; rw [show L - (i + 1) = p by omega]
    have hdv := nv_div wa p
    have hx4 := wa.get p
    have hle : nv a / 4294967296 ^ p ≤ nv a := Nat.div_le_self _ _
    rw [← hm1,← hm2] at hdv
    rw [← hm2] at hle
    subst hI
    have hpL : p < L := by omega
    obtain ⟨qa,qc,C,ce,cs,gr,ro,eb,hg,hc⟩ := sl_u3 hq hpL
    simp only [Value.slice.injEq,true_and] at eb
    obtain ⟨rfl,rfl⟩ := eb
    rw [hz1]
    generalize a.getD p 0 = x at *
    generalize mq (nv a) L i = y at *
    obtain ⟨z,hzz⟩ : ∃ z,mq (nv a) L (i + 1) = z := ⟨_,rfl⟩
    rw [hzz] at hdv hle
    obtain ⟨y2,hy2⟩ : ∃ y2,y * 4294967296 = y2 := ⟨_,rfl⟩
    have w1 : IntKind.u64.wrap ((y : Int) * 4294967296) = (y2 : Int) := by
      have : (y : Int) * 4294967296 = ((y * 4294967296 : Nat) : Int) := by omega
      rw [this]; exact wu64 hy2 (by omega)
    have w2 := wu64 (a := x) rfl (by omega)
    have w3 := au64 (show y2 + x = z by omega) (by omega)
    simp (maxSteps := 2000000) -implicitDefEqProofs [ble_d,beq_d,List.range_succ,List.replicate,cond_true,cond_false,hpL,aindexAddr,sz101,Try.underlying40,hg,hc,hz2,w1,w2,w3,shl37,cv101_37,undef]
    exact ⟨k - 1,by omega,i + 1,by omega,by simp (maxSteps := 2000000) only [forget,List.set_cons_succ,List.set_cons_zero,hzz]⟩
  · obtain rfl : i = L := by omega
    have hz : lz i i = -1 := by unfold lz; omega
    rw [hz]
    simp (maxSteps := 2000000) -implicitDefEqProofs [ble_d,beq_d,List.range_succ,List.replicate,cond_true,cond_false,undef]
    exact hI
end Go.Proofs.Ytmnkmdfladbgdaa.Od

set_option linter.unusedVariables false
set_option linter.unusedSimpArgs false
namespace Go.Proofs.Ytmnkmdfladbgdaa.Od
open Go Go.Proofs Go.RowKit Go.Proofs.YtmnkmdfladbgdaaAI Go.Proofs.YtmnkmdfladbgdaaFl Go.Proofs.YtmnkmdfladbgdaaRnd

/-- What is left when cut to 63 bits. -/
def rq (N : Nat) : Nat := N * 2 ^ (63 - bl N) / 2 ^ (bl N - 63)
def rb (N : Nat) : Bool := N * 2 ^ (63 - bl N) % 2 ^ (bl N - 63) != 0
def rx (N : Nat) (exp : Int) : Int := exp - (63 - bl N : Nat) + (bl N - 63 : Nat) - 1
theorem bl_ge {N : Nat} (h : 0 < N) : 2 ^ (bl N - 1) ≤ N ∧ 0 < bl N := by
  unfold bl
  rw [if_neg (by omega),Nat.add_sub_cancel]
  exact ⟨Nat.log2_self_le (by omega),by omega⟩
theorem rq_lt {N : Nat} (h : 0 < N) : rq N < 9223372036854775808 ∧ 4611686018427387904 ≤ rq N := by
  obtain ⟨h1,h2⟩ := bl_ge h
  have h3 := lt_bl N
  unfold rq
  rcases Nat.le_total (bl N) 63 with h4 | h4
  · rw [show bl N - 63 = 0 by omega,Nat.pow_zero,Nat.div_one]
    have h5 : N * 2 ^ (63 - bl N) < 2 ^ bl N * 2 ^ (63 - bl N) := Nat.mul_lt_mul_of_pos_right h3 (Nat.two_pow_pos _)
    have h6 : 2 ^ (bl N - 1) * 2 ^ (63 - bl N) ≤ N * 2 ^ (63 - bl N) := Nat.mul_le_mul_right _ h1
    rw [← Nat.pow_add] at h5 h6
    rw [show bl N + (63 - bl N) = 63 by omega] at h5
    rw [show bl N - 1 + (63 - bl N) = 62 by omega] at h6
    exact ⟨h5,h6⟩
  · rw [show 63 - bl N = 0 by omega,Nat.pow_zero,Nat.mul_one]
    refine ⟨Nat.div_lt_of_lt_mul ?_,?_⟩
    · rw [show (9223372036854775808 : Nat) = 2 ^ 63 from rfl,← Nat.pow_add,show bl N - 63 + 63 = bl N by omega]; exact h3
    · rw [Nat.le_div_iff_mul_le (Nat.two_pow_pos _),show (4611686018427387904 : Nat) = 2 ^ 62 from rfl,← Nat.pow_add,show 62 + (bl N - 63) = bl N - 1 by omega]; exact h1
theorem cmpN_eq (a b : Nat) : cmpN a b = 0 ↔ a = b := by unfold cmpN; repeat' split
                                                         all_goals omega
set_option maxRecDepth 20000 in
set_option maxHeartbeats 6400000 in
theorem round_f {h : Heap} {v : Value} {a : List Nat} {exp : Int} (rest : Bool) (ha : Na h v a) (ka : a.length ≤ 300) (h0 : 0 < nv a) (he : -50000 ≤ exp) (he2 : exp ≤ 50000) :
    ∃ h',run Try.prog sO 64 [.bool false,v,.int .i64 exp,.bool rest] h = some (U (rung (2 * rq (nv a) + (rest || rb (nv a)).toNat) (rx (nv a) exp)),h') ∧ Keep No h h' := by
  obtain ⟨h1,e1,k1⟩ := bits_run ha
  have ha1 := ha.keep k1
  have hbl := bl_len ha.2.1
  obtain ⟨hb1,hb2⟩ := bl_ge h0
  have hlt := lt_bl (nv a)
  obtain ⟨hq1,hq2⟩ := rq_lt h0
  have sv := ha.1
  obtain ⟨va,vca,rfl⟩ := sl_form sv
  suffices hx : ∃ y,fin Try.prog Try.f64 (aexecP Try.prog (sO 64) (run Try.prog sO) loopω pt64 (Try.f64.body.getD .skip) ([.bool false,.slice va a.length vca,.int .i64 exp,.bool rest] ++ List.replicate (Try.f64.ntmps - 4) undef) h) = some y ∧ y.1 = U (rung (2 * rq (nv a) + (rest || rb (nv a)).toNat) (rx (nv a) exp)) ∧ Keep No h y.2 by
    obtain ⟨⟨y1,y2⟩,hy,rfl,q⟩ := hx
    exact ⟨y2,run_finP pt64 Try.func64 rfl planned64 hy,q⟩
  have hrx : rx (nv a) exp = exp - (63 - bl (nv a) : Nat) + (bl (nv a) - 63 : Nat) - 1 := rfl
  have hrq : rq (nv a) = nv a * 2 ^ (63 - bl (nv a)) / 2 ^ (bl (nv a) - 63) := rfl
  have hrb : rb (nv a) = (nv a * 2 ^ (63 - bl (nv a)) % 2 ^ (bl (nv a) - 63) != 0) := rfl
  generalize bl (nv a) = b at *
  generalize rq (nv a) = Q at *
  generalize rx (nv a) exp = ex at *
  obtain ⟨zz,hzz⟩ : ∃ zz : Int,(b : Int) - 63 = zz := ⟨_,rfl⟩
  have w1 : IntKind.i64.wrap ((b : Int) - 63) = zz := by rw [IntWalk.i64_in _ (by omega)]; exact hzz
  have lQ : (lm Q).length ≤ 2 := lm_len (by omega)
  have wQ := lm_w Q
  have nQ : nv (lm Q) = Q := nv_lm Q
  obtain ⟨L,hL⟩ : ∃ L,(lm Q).length = L := ⟨_,rfl⟩
  have wd : IntKind.i64.wrap ((L : Int) - 1) = lz L 0 := by rw [IntWalk.i64_in _ (by omega)]; unfold lz; omega
  have hm0 : mq (nv (lm Q)) L 0 = 0 := by unfold mq; rw [Nat.sub_zero,← hL]; exact nv_div_len wQ (Nat.le_refl _)
  have hmL : mq (nv (lm Q)) L L = Q := by unfold mq; rw [Nat.sub_self,Nat.pow_zero,Nat.div_one,nQ]
  obtain ⟨Q2,hQ2⟩ : ∃ Q2,2 * Q = Q2 := ⟨_,rfl⟩
  have w2 : IntKind.u64.wrap (2 * (Q : Int)) = (Q2 : Int) := by
    have : 2 * (Q : Int) = ((2 * Q : Nat) : Int) := by omega
    rw [this]; exact wu64 hQ2 (by omega)
  have w3 : IntKind.u64.wrap ((Q2 : Int) + 1) = ((Q2 + 1 : Nat) : Int) := @au64 Q2 1 _ rfl (by omega)
  obtain ⟨Q3,hQ3⟩ : ∃ Q3,Q2 + 1 = Q3 := ⟨_,rfl⟩
  rw [hQ3] at w3
  by_cases cb : b < 63
  · cases rest
    · have hz0 : zz < 0 := by omega
      obtain ⟨k,hk⟩ : ∃ k : Nat,63 - b = k := ⟨_,rfl⟩
      have hb63 : b - 63 = 0 := by omega
      rw [hk,hb63,Nat.pow_zero,Nat.div_one] at hrq
      rw [hk,hb63] at hrx
      have hrb' : rb (nv a) = false := by rw [hrb,hb63,Nat.pow_zero,Nat.mod_one]; rfl
      have w4 : IntKind.i64.wrap (0 - zz) = (k : Int) := by rw [IntWalk.i64_in _ (by omega)]; omega
      have w4' : IntKind.i64.wrap (-zz) = (k : Int) := by rw [IntWalk.i64_in _ (by omega)]; omega
      obtain ⟨exp2,hexp2⟩ : ∃ e,exp + zz = e := ⟨_,rfl⟩
      have w5 : IntKind.i64.wrap (exp + zz) = exp2 := by rw [IntWalk.i64_in _ (by omega)]; exact hexp2
      obtain ⟨v2,h2,e2,n2,b2⟩ := shl_run k ha1 (by omega) (by omega)
      rw [← hrq] at n2 b2
      have na2 := n2.na (by omega)
      obtain ⟨v3,h3,e3,n3,b3⟩ := shr_run 0 na2 (by omega)
      rw [nQ,Nat.pow_zero,Nat.div_one] at n3 b3
      have na3 := n3.na (by omega)
      obtain ⟨v4,h4,e4,n4,b4⟩ := shl_run 0 na3 (by omega) (by omega)
      rw [nQ,Nat.pow_zero,Nat.mul_one] at n4 b4
      have na4 := n4.na (by omega)
      have k24 := n3.2.1.trans n4.2.1
      obtain ⟨h5,e5,k5⟩ := cmp3_run na4 (na2.keep k24)
      rw [(cmpN_eq _ _).2 rfl] at e5
      rw [show ((0 : Nat) : Int) = 0 from rfl] at e3 e4
      have kA : Keep No h h5 := (k1.trans n2.2.1).trans (k24.trans k5)
      have kq : Keep No h3 h5 := n4.2.1.trans k5
      have hneg := fun t x d y ty pos af gu hx => neg3 t x zz hx d y ty pos af gu
      have w7 : IntKind.i64.wrap (exp2 + 0) = exp2 := by rw [IntWalk.i64_in _ (by omega)]; omega
      have w7' : IntKind.i64.wrap exp2 = exp2 := IntWalk.i64_in _ (by omega)
      have w8 : IntKind.i64.wrap (exp2 - 1) = ex := by rw [IntWalk.i64_in _ (by omega)]; omega
      have s3 := (na3.keep kq).1
      obtain ⟨qa,qc,rfl⟩ := sl_form s3
      have hv3 : (lm Q).length = L := hL
      rw [hv3] at s3 e3 e4
      have hres : 2 * Q + (false || rb (nv a)).toNat = Q2 := by rw [hrb',hQ2]; rfl
      rw [hres]
      simp (maxSteps := 2000000) -implicitDefEqProofs [Try.f64,ble_d,beq_d,List.range_succ,List.replicate,cond_true,cond_false,ibeq,ibne,en86,en61,en87,en63,e1,e2,e3,e4,e5,w1,hz0,w4,w4',w5,hneg,wd,Try.underlying40,sO64,undef]
      generalize hl : loopω _ _ _ _ = r
      obtain ⟨h6,x37,x38,hx,hh⟩ := useX2 hl (round1 (h0 := h5) (v0 := .bool false) (v2 := .int .i64 exp2) (v3 := .bool false) (v9 := .int .i64 0) (qa := qa) (qc := qc) (L := L) (a := lm Q) hL wQ (by omega) (by rw [nQ]; exact hq1) s3 _ (by kernel_rfl) _ (by rw [hm0]; kernel_rfl) rfl)
      subst hx
      subst hh
      clear hl
      rw [hmL]
      have e6 := @join_f h6 Q2 ex (by omega) (by omega) (by omega)
      simp (maxSteps := 2000000) -implicitDefEqProofs [ble_d,beq_d,List.range_succ,List.replicate,cond_true,cond_false,w2,w3,w7,w7',w8,en68,e6]
      exact ⟨_,_,⟨rfl,rfl⟩,rfl,kA⟩
    · have hz0 : zz < 0 := by omega
      obtain ⟨k,hk⟩ : ∃ k : Nat,63 - b = k := ⟨_,rfl⟩
      have hb63 : b - 63 = 0 := by omega
      rw [hk,hb63,Nat.pow_zero,Nat.div_one] at hrq
      rw [hk,hb63] at hrx
      have hrb' : rb (nv a) = false := by rw [hrb,hb63,Nat.pow_zero,Nat.mod_one]; rfl
      have w4 : IntKind.i64.wrap (0 - zz) = (k : Int) := by rw [IntWalk.i64_in _ (by omega)]; omega
      have w4' : IntKind.i64.wrap (-zz) = (k : Int) := by rw [IntWalk.i64_in _ (by omega)]; omega
      obtain ⟨exp2,hexp2⟩ : ∃ e,exp + zz = e := ⟨_,rfl⟩
      have w5 : IntKind.i64.wrap (exp + zz) = exp2 := by rw [IntWalk.i64_in _ (by omega)]; exact hexp2
      obtain ⟨v2,h2,e2,n2,b2⟩ := shl_run k ha1 (by omega) (by omega)
      rw [← hrq] at n2 b2
      have na2 := n2.na (by omega)
      obtain ⟨v3,h3,e3,n3,b3⟩ := shr_run 0 na2 (by omega)
      rw [nQ,Nat.pow_zero,Nat.div_one] at n3 b3
      have na3 := n3.na (by omega)
      obtain ⟨v4,h4,e4,n4,b4⟩ := shl_run 0 na3 (by omega) (by omega)
      rw [nQ,Nat.pow_zero,Nat.mul_one] at n4 b4
      have na4 := n4.na (by omega)
      have k24 := n3.2.1.trans n4.2.1
      obtain ⟨h5,e5,k5⟩ := cmp3_run na4 (na2.keep k24)
      rw [(cmpN_eq _ _).2 rfl] at e5
      rw [show ((0 : Nat) : Int) = 0 from rfl] at e3 e4
      have kA : Keep No h h5 := (k1.trans n2.2.1).trans (k24.trans k5)
      have kq : Keep No h3 h5 := n4.2.1.trans k5
      have hneg := fun t x d y ty pos af gu hx => neg3 t x zz hx d y ty pos af gu
      have w7 : IntKind.i64.wrap (exp2 + 0) = exp2 := by rw [IntWalk.i64_in _ (by omega)]; omega
      have w7' : IntKind.i64.wrap exp2 = exp2 := IntWalk.i64_in _ (by omega)
      have w8 : IntKind.i64.wrap (exp2 - 1) = ex := by rw [IntWalk.i64_in _ (by omega)]; omega
      have s3 := (na3.keep kq).1
      obtain ⟨qa,qc,rfl⟩ := sl_form s3
      have hv3 : (lm Q).length = L := hL
      rw [hv3] at s3 e3 e4
      have hres : 2 * Q + (true || rb (nv a)).toNat = Q3 := by rw [hrb',hQ2]; simp; omega
      rw [hres]
      simp (maxSteps := 2000000) -implicitDefEqProofs [Try.f64,ble_d,beq_d,List.range_succ,List.replicate,cond_true,cond_false,ibeq,ibne,en86,en61,en87,en63,e1,e2,e3,e4,e5,w1,hz0,w4,w4',w5,hneg,wd,Try.underlying40,sO64,undef]
      generalize hl : loopω _ _ _ _ = r
      obtain ⟨h6,x37,x38,hx,hh⟩ := useX2 hl (round1 (h0 := h5) (v0 := .bool false) (v2 := .int .i64 exp2) (v3 := .bool true) (v9 := .int .i64 0) (qa := qa) (qc := qc) (L := L) (a := lm Q) hL wQ (by omega) (by rw [nQ]; exact hq1) s3 _ (by kernel_rfl) _ (by rw [hm0]; kernel_rfl) rfl)
      subst hx
      subst hh
      clear hl
      rw [hmL]
      have e6 := @join_f h6 Q3 ex (by omega) (by omega) (by omega)
      simp (maxSteps := 2000000) -implicitDefEqProofs [ble_d,beq_d,List.range_succ,List.replicate,cond_true,cond_false,w2,w3,w7,w7',w8,en68,e6]
      exact ⟨_,_,⟨rfl,rfl⟩,rfl,kA⟩
  · by_cases cn : nv a % 2 ^ (b - 63) = 0
    · cases rest
      · have hz0 : ¬ zz < 0 := by omega
        obtain ⟨s,hs⟩ : ∃ s : Nat,b - 63 = s := ⟨_,rfl⟩
        have hb63 : 63 - b = 0 := by omega
        obtain rfl : zz = (s : Int) := by omega
        rw [hs] at cn
        rw [hs,hb63,Nat.pow_zero,Nat.mul_one] at hrq
        rw [hs,hb63] at hrx
        rw [hs,hb63,Nat.pow_zero,Nat.mul_one] at hrb
        obtain ⟨v3,h3,e3,n3,b3⟩ := shr_run s ha1 (by omega)
        rw [← hrq] at n3 b3
        have na3 := n3.na (by omega)
        obtain ⟨v4,h4,e4,n4,b4⟩ := shl_run s na3 (by omega) (by omega)
        rw [nQ] at n4 b4
        have na4 := n4.na (by omega)
        have k24 := n3.2.1.trans n4.2.1
        obtain ⟨h5,e5,k5⟩ := cmp3_run na4 (ha1.keep k24)
        have hnn : nv (lm (Q * 2 ^ s)) = Q * 2 ^ s := nv_lm _
        rw [hnn] at e5
        have hdm := Nat.div_add_mod (nv a) (2 ^ s)
        rw [← hrq,Nat.mul_comm] at hdm
        have kA : Keep No h h5 := k1.trans (k24.trans k5)
        have kq : Keep No h3 h5 := n4.2.1.trans k5
        obtain ⟨ex2,hex2⟩ : ∃ e,exp + (s : Int) = e := ⟨_,rfl⟩
        have w7 : IntKind.i64.wrap (exp + (s : Int)) = ex2 := by rw [IntWalk.i64_in _ (by omega)]; exact hex2
        have w8 : IntKind.i64.wrap (ex2 - 1) = ex := by rw [IntWalk.i64_in _ (by omega)]; omega
        have hc0 : cmpN (Q * 2 ^ s) (nv a) = 0 := (cmpN_eq _ _).2 (by omega)
        have hrb' : rb (nv a) = false := by rw [hrb,cn]; rfl
        rw [hc0] at e5
        have s3 := (na3.keep kq).1
        obtain ⟨qa,qc,rfl⟩ := sl_form s3
        have hv3 : (lm Q).length = L := hL
        rw [hv3] at s3 e3 e4
        have hres : 2 * Q + (false || rb (nv a)).toNat = Q2 := by rw [hrb',hQ2]; rfl
        rw [hres]
        simp (maxSteps := 2000000) -implicitDefEqProofs [Try.f64,ble_d,beq_d,List.range_succ,List.replicate,cond_true,cond_false,ibeq,ibne,en86,en61,en87,en63,e1,e3,e4,e5,w1,hz0,wd,Try.underlying40,sO64,undef]
        generalize hl : loopω _ _ _ _ = r
        obtain ⟨h6,x37,x38,hx,hh⟩ := useX2 hl (round1 (h0 := h5) (v0 := .bool false) (v2 := .int .i64 exp) (v3 := .bool false) (v9 := .int .i64 (s : Nat)) (qa := qa) (qc := qc) (L := L) (a := lm Q) hL wQ (by omega) (by rw [nQ]; exact hq1) s3 _ (by kernel_rfl) _ (by rw [hm0]; kernel_rfl) rfl)
        subst hx
        subst hh
        clear hl
        rw [hmL]
        have e6 := @join_f h6 Q2 ex (by omega) (by omega) (by omega)
        simp (maxSteps := 2000000) -implicitDefEqProofs [ble_d,beq_d,List.range_succ,List.replicate,cond_true,cond_false,w2,w3,w7,w8,en68,e6]
        exact ⟨_,_,⟨rfl,rfl⟩,rfl,kA⟩
      · have hz0 : ¬ zz < 0 := by omega
        obtain ⟨s,hs⟩ : ∃ s : Nat,b - 63 = s := ⟨_,rfl⟩
        have hb63 : 63 - b = 0 := by omega
        obtain rfl : zz = (s : Int) := by omega
        rw [hs] at cn
        rw [hs,hb63,Nat.pow_zero,Nat.mul_one] at hrq
        rw [hs,hb63] at hrx
        rw [hs,hb63,Nat.pow_zero,Nat.mul_one] at hrb
        obtain ⟨v3,h3,e3,n3,b3⟩ := shr_run s ha1 (by omega)
        rw [← hrq] at n3 b3
        have na3 := n3.na (by omega)
        obtain ⟨v4,h4,e4,n4,b4⟩ := shl_run s na3 (by omega) (by omega)
        rw [nQ] at n4 b4
        have na4 := n4.na (by omega)
        have k24 := n3.2.1.trans n4.2.1
        obtain ⟨h5,e5,k5⟩ := cmp3_run na4 (ha1.keep k24)
        have hnn : nv (lm (Q * 2 ^ s)) = Q * 2 ^ s := nv_lm _
        rw [hnn] at e5
        have hdm := Nat.div_add_mod (nv a) (2 ^ s)
        rw [← hrq,Nat.mul_comm] at hdm
        have kA : Keep No h h5 := k1.trans (k24.trans k5)
        have kq : Keep No h3 h5 := n4.2.1.trans k5
        obtain ⟨ex2,hex2⟩ : ∃ e,exp + (s : Int) = e := ⟨_,rfl⟩
        have w7 : IntKind.i64.wrap (exp + (s : Int)) = ex2 := by rw [IntWalk.i64_in _ (by omega)]; exact hex2
        have w8 : IntKind.i64.wrap (ex2 - 1) = ex := by rw [IntWalk.i64_in _ (by omega)]; omega
        have hc0 : cmpN (Q * 2 ^ s) (nv a) = 0 := (cmpN_eq _ _).2 (by omega)
        have hrb' : rb (nv a) = false := by rw [hrb,cn]; rfl
        rw [hc0] at e5
        have s3 := (na3.keep kq).1
        obtain ⟨qa,qc,rfl⟩ := sl_form s3
        have hv3 : (lm Q).length = L := hL
        rw [hv3] at s3 e3 e4
        have hres : 2 * Q + (true || rb (nv a)).toNat = Q3 := by rw [hrb',hQ2]; simp; omega
        rw [hres]
        simp (maxSteps := 2000000) -implicitDefEqProofs [Try.f64,ble_d,beq_d,List.range_succ,List.replicate,cond_true,cond_false,ibeq,ibne,en86,en61,en87,en63,e1,e3,e4,e5,w1,hz0,wd,Try.underlying40,sO64,undef]
        generalize hl : loopω _ _ _ _ = r
        obtain ⟨h6,x37,x38,hx,hh⟩ := useX2 hl (round1 (h0 := h5) (v0 := .bool false) (v2 := .int .i64 exp) (v3 := .bool true) (v9 := .int .i64 (s : Nat)) (qa := qa) (qc := qc) (L := L) (a := lm Q) hL wQ (by omega) (by rw [nQ]; exact hq1) s3 _ (by kernel_rfl) _ (by rw [hm0]; kernel_rfl) rfl)
        subst hx
        subst hh
        clear hl
        rw [hmL]
        have e6 := @join_f h6 Q3 ex (by omega) (by omega) (by omega)
        simp (maxSteps := 2000000) -implicitDefEqProofs [ble_d,beq_d,List.range_succ,List.replicate,cond_true,cond_false,w2,w3,w7,w8,en68,e6]
        exact ⟨_,_,⟨rfl,rfl⟩,rfl,kA⟩
    · have hz0 : ¬ zz < 0 := by omega
      obtain ⟨s,hs⟩ : ∃ s : Nat,b - 63 = s := ⟨_,rfl⟩
      have hb63 : 63 - b = 0 := by omega
      obtain rfl : zz = (s : Int) := by omega
      rw [hs] at cn
      rw [hs,hb63,Nat.pow_zero,Nat.mul_one] at hrq
      rw [hs,hb63] at hrx
      rw [hs,hb63,Nat.pow_zero,Nat.mul_one] at hrb
      obtain ⟨v3,h3,e3,n3,b3⟩ := shr_run s ha1 (by omega)
      rw [← hrq] at n3 b3
      have na3 := n3.na (by omega)
      obtain ⟨v4,h4,e4,n4,b4⟩ := shl_run s na3 (by omega) (by omega)
      rw [nQ] at n4 b4
      have na4 := n4.na (by omega)
      have k24 := n3.2.1.trans n4.2.1
      obtain ⟨h5,e5,k5⟩ := cmp3_run na4 (ha1.keep k24)
      have hnn : nv (lm (Q * 2 ^ s)) = Q * 2 ^ s := nv_lm _
      rw [hnn] at e5
      have hdm := Nat.div_add_mod (nv a) (2 ^ s)
      rw [← hrq,Nat.mul_comm] at hdm
      have kA : Keep No h h5 := k1.trans (k24.trans k5)
      have kq : Keep No h3 h5 := n4.2.1.trans k5
      obtain ⟨ex2,hex2⟩ : ∃ e,exp + (s : Int) = e := ⟨_,rfl⟩
      have w7 : IntKind.i64.wrap (exp + (s : Int)) = ex2 := by rw [IntWalk.i64_in _ (by omega)]; exact hex2
      have w8 : IntKind.i64.wrap (ex2 - 1) = ex := by rw [IntWalk.i64_in _ (by omega)]; omega
      have hc0 : ¬ cmpN (Q * 2 ^ s) (nv a) = 0 := fun x => cn (by have := (cmpN_eq _ _).1 x; omega)
      have hrb' : rb (nv a) = true := by rw [hrb]; simpa using cn
      generalize cmpN (Q * 2 ^ s) (nv a) = cc at *
      have s3 := (na3.keep kq).1
      obtain ⟨qa,qc,rfl⟩ := sl_form s3
      have hv3 : (lm Q).length = L := hL
      rw [hv3] at s3 e3 e4
      have hres : 2 * Q + (rest || rb (nv a)).toNat = Q3 := by rw [hrb',hQ2]; simp; omega
      rw [hres]
      simp (maxSteps := 2000000) -implicitDefEqProofs [Try.f64,ble_d,beq_d,List.range_succ,List.replicate,cond_true,cond_false,ibeq,ibne,en86,en61,en87,en63,e1,e3,e4,e5,w1,hz0,hc0,wd,Try.underlying40,sO64,undef]
      generalize hl : loopω _ _ _ _ = r
      obtain ⟨h6,x37,x38,hx,hh⟩ := useX2 hl (round1 (h0 := h5) (v0 := .bool false) (v2 := .int .i64 exp) (v3 := .bool true) (v9 := .int .i64 (s : Nat)) (qa := qa) (qc := qc) (L := L) (a := lm Q) hL wQ (by omega) (by rw [nQ]; exact hq1) s3 _ (by kernel_rfl) _ (by rw [hm0]; kernel_rfl) rfl)
      subst hx
      subst hh
      clear hl
      rw [hmL]
      have e6 := @join_f h6 Q3 ex (by omega) (by omega) (by omega)
      simp (maxSteps := 2000000) -implicitDefEqProofs [ble_d,beq_d,List.range_succ,List.replicate,cond_true,cond_false,w2,w3,w7,w8,en68,e6]
      exact ⟨_,_,⟨rfl,rfl⟩,rfl,kA⟩
end Go.Proofs.Ytmnkmdfladbgdaa.Od
