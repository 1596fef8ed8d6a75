/- Odds: the document's sums, quotients and whole numbers, run. -/
import Derived.Test.YtmnkmdfladbgdaaOl13
import Derived.Test.YtmnkmdfladbgdaaOl19
set_option linter.unusedVariables false
set_option linter.unusedSimpArgs false
namespace Go.Proofs.Ytmnkmdfladbgdaa.Od
open Go Go.Proofs Go.RowKit Go.Proofs.YtmnkmdfladbgdaaAI Go.Proofs.YtmnkmdfladbgdaaFl Go.Proofs.YtmnkmdfladbgdaaRnd

theorem rung_shift (N k : Nat) (exp : Int) : rung (N * 2 ^ k) (exp - k) = rung N exp := by
  refine (near_rung' (N * 2 ^ k) (exp - k)).uniq (Nat.two_pow_pos _) (Nat.two_pow_pos _) (near_rung' N exp) ?_
  rw [Nat.mul_assoc N,← Nat.pow_add,Nat.mul_assoc,Nat.mul_assoc,← Nat.pow_add,← Nat.pow_add]
  congr 2
  omega
theorem add_val {a b : Nat} (ha : a < 9218868437227405312) (hb : b < 9218868437227405312) {low : Int} (h1 : -1074 ≤ low) (h2 : low ≤ peB a) (h3 : low ≤ peB b) :
    rung (pmB a * 2 ^ (peB a - low).toNat + pmB b * 2 ^ (peB b - low).toNat) low = addB a b := by
  obtain ⟨va,_,_,ea,_,_⟩ := parts_val ha
  obtain ⟨vb,_,_,eb,_,_⟩ := parts_val hb
  obtain ⟨r,e,hr⟩ := add_near (a := a) (b := b) ha hb
  have hB : addB a b = r := by unfold addB; rw [e]; rfl
  rw [hB]
  refine (near_rung' _ _).uniq (Nat.two_pow_pos _) Nat.one_pos hr ?_
  have q1 : (-(low + 1075)).toNat = 0 := by omega
  have q2 : (low + 1075).toNat = (low + 1074).toNat + 1 := by omega
  have q3 : (peB a + 1074).toNat = (peB a - low).toNat + (low + 1074).toNat := by omega
  have q4 : (peB b + 1074).toNat = (peB b - low).toNat + (low + 1074).toNat := by omega
  rw [va,vb,q1,q2,q3,q4,Nat.pow_zero,Nat.mul_one,Nat.mul_one,Nat.pow_succ,Nat.pow_add,Nat.pow_add]
  generalize 2 ^ (low + 1074).toNat = L
  generalize 2 ^ (peB a - low).toNat = x
  generalize 2 ^ (peB b - low).toNat = y
  rw [Nat.add_mul,Nat.mul_add,← Nat.mul_assoc (pmB a),← Nat.mul_assoc (pmB b),← Nat.mul_assoc,← Nat.mul_assoc,Nat.mul_comm 2,Nat.mul_comm 2]
theorem div_val {a b s : Nat} (ha : a < 9218868437227405312) (hb : b < 9218868437227405312) (ha0 : 0 < a) (hb0 : 0 < b) (hbig : 2 ^ 53 ≤ pmB a * 2 ^ 128 / (pmB b * 2 ^ s)) :
    rung (2 * (pmB a * 2 ^ 128 / pmB b / 2 ^ s) + (pmB a * 2 ^ 128 % pmB b != 0 || pmB a * 2 ^ 128 / pmB b % 2 ^ s != 0).toNat) (peB a - peB b - 128 + s - 1) = divB a b := by
  obtain ⟨va,_,_,ea,_,_⟩ := parts_val ha
  obtain ⟨vb,_,_,eb,_,nb⟩ := parts_val hb
  have hn := nb hb0
  obtain ⟨r,e,hr⟩ := div_near (a := a) (b := b) ha hb hb0
  have hB : divB a b = r := by unfold divB; rw [e]; rfl
  rw [hB]
  obtain ⟨K,hK⟩ : ∃ K : Nat,K = 1075 := ⟨_,rfl⟩
  rw [← hK] at hr
  obtain ⟨c1,c2⟩ := div_cut (Q := pmB a * 2 ^ 128) (s := s) hn
  have hst : (pmB a * 2 ^ 128 % pmB b != 0 || pmB a * 2 ^ 128 / pmB b % 2 ^ s != 0) = (pmB a * 2 ^ 128 % (pmB b * 2 ^ s) != 0) := by
    rw [Bool.eq_iff_iff]
    simp only [Bool.or_eq_true,bne_iff_ne,ne_eq,c2]
    exact ⟨fun h x => h.elim (fun y => y x.1) (fun y => y x.2),fun h => if y : pmB a * 2 ^ 128 % pmB b = 0 then .inr fun z => h ⟨y,z⟩ else .inl y⟩
  rw [hst,← c1]
  have hd : 0 < pmB b * 2 ^ s := Nat.mul_pos hn (Nat.two_pow_pos _)
  have hvb : 0 < Vr b := by rw [vb]; exact Nat.mul_pos hn (Nat.two_pow_pos _)
  refine (sticky_near hd hbig _).uniq (Nat.mul_pos hd (Nat.two_pow_pos _)) hvb hr ?_
  rw [va,vb]
  generalize pmB a = m
  generalize pmB b = n
  rw [show m * 2 ^ (peB a + 1074).toNat * 2 ^ K * (n * 2 ^ s * 2 ^ (-(peB a - peB b - 128 + s - 1 + 1 + 1075)).toNat) = m * n * (2 ^ (peB a + 1074).toNat * 2 ^ K * 2 ^ s * 2 ^ (-(peB a - peB b - 128 + s - 1 + 1 + 1075)).toNat) by simp only [Nat.mul_assoc,Nat.mul_left_comm,Nat.mul_comm],
    show m * 2 ^ 128 * 2 ^ (peB a - peB b - 128 + s - 1 + 1 + 1075).toNat * (n * 2 ^ (peB b + 1074).toNat) = m * n * (2 ^ 128 * 2 ^ (peB a - peB b - 128 + s - 1 + 1 + 1075).toNat * 2 ^ (peB b + 1074).toNat) by simp only [Nat.mul_assoc,Nat.mul_left_comm,Nat.mul_comm]]
  rw [← Nat.pow_add,← Nat.pow_add,← Nat.pow_add,← Nat.pow_add,← Nat.pow_add]
  congr 2
  omega
theorem divB_zero {b : Nat} (hb : Pos b) (h0 : 0 < b) : divB 0 b = 0 := by
  rcases Nat.lt_or_eq_of_le hb with h | h
  · obtain ⟨r,e,hr⟩ := div_near (a := 0) (b := b) (by unfold iR; omega) h h0
    have hB : divB 0 b = r := by unfold divB; rw [e]; rfl
    rw [hB]
    obtain ⟨K,hK⟩ : ∃ K : Nat,K = 1075 := ⟨_,rfl⟩
    rw [← hK] at hr
    have hv0 : Vr 0 = 0 := by unfold Vr; rw [if_pos (by omega)]
    have hvb : 0 < Vr b := Nat.lt_of_le_of_lt (Nat.zero_le _) (Vr_mono h0)
    refine hr.uniq hvb hvb (near_zero _ hvb) ?_
    rw [hv0,Nat.zero_mul,Nat.zero_mul]
  · have : b = iR := h
    unfold divB; rw [this,div_inf (by unfold iR; omega)]; rfl
theorem divB_inf {a : Nat} (ha : a < 9218868437227405312) : divB a 9218868437227405312 = 0 := by
  have := div_inf (a := a) ha
  unfold divB
  rw [show (9218868437227405312 : Nat) = iR from rfl,this]; rfl
theorem addB_inf {a : Nat} (ha : Pos a) : addB a 9218868437227405312 = 9218868437227405312 ∧ addB 9218868437227405312 a = 9218868437227405312 := by
  obtain ⟨h1,h2⟩ := add_inf (a := a) ha
  unfold addB
  rw [show (9218868437227405312 : Nat) = iR from rfl,h1,h2]; exact ⟨rfl,rfl⟩
end Go.Proofs.Ytmnkmdfladbgdaa.Od

set_option linter.unusedVariables false
set_option linter.unusedSimpArgs false
namespace Go.Proofs.Ytmnkmdfladbgdaa.Od
open Go Go.Proofs Go.RowKit Go.Proofs.YtmnkmdfladbgdaaAI Go.Proofs.YtmnkmdfladbgdaaFl Go.Proofs.YtmnkmdfladbgdaaRnd

theorem rung_rq {N : Nat} (h : 0 < N) (exp : Int) : rung (2 * rq N + (rb N).toNat) (rx N exp) = rung N exp := by
  have h1 := (rq_lt h).2
  have h2 := rung_cut (n := N * 2 ^ (63 - bl N)) (s := bl N - 63) (Nat.le_trans (by decide) h1) (exp - (63 - bl N : Nat))
  have h3 := rung_shift N (63 - bl N) exp
  rw [h3] at h2
  exact h2
theorem int_run {h : Heap} {n : Nat} (h0 : 0 < n) (hn : n ≤ 4096) : run Try.prog sO 37 [.int .i64 (n : Nat)] h = some (U (Fi n),h) := by
  refine run_finP pt37 Try.func37 rfl planned37 ?_
  have e1 := @join_f h n 0 (by omega) (by omega) (by omega)
  have w1 := wu64 (a := n) rfl (by omega)
  have hf : rung n 0 = Fi n := rfl
  rw [hf] at e1
  simp (maxSteps := 2000000) -implicitDefEqProofs [Try.f37,ble_d,beq_d,List.range_succ,List.replicate,cond_true,cond_false,w1,cv3_37,en68,e1]
theorem lm_nil {n : Nat} : (lm n).length = 0 ↔ n = 0 := by
  constructor
  · intro h
    rcases Nat.eq_zero_or_pos n with h0 | h0
    · exact h0
    · have := (lm_last h0).1; omega
  · intro h; rw [h,lm_zero]; rfl
set_option maxRecDepth 20000 in
set_option maxHeartbeats 6400000 in
theorem add_inf_run {h : Heap} {a b : Nat} (ha : Pos a) (hb : Pos b) (hi : a = 9218868437227405312 ∨ b = 9218868437227405312) : run Try.prog sO 35 [U a,U b] h = some (U (addB a b),h) := by
  refine run_finP pt35 Try.func35 rfl planned35 ?_
  have ea := isnan_run sO a h
  have eb := isnan_run sO b h
  have sa := size_run sO a h
  have sb := size_run sO b h
  rw [ha.nan] at ea
  rw [hb.nan] at eb
  unfold Pos at ha hb
  rw [Nat.mod_eq_of_lt (by omega)] at sa sb
  by_cases c1 : a = 9218868437227405312
  · have hv : addB a b = 9218868437227405312 := by rw [c1]; exact (addB_inf hb).2
    rw [hv]
    subst c1
    by_cases c2 : b = 9218868437227405312
    · subst c2
      simp (maxSteps := 2000000) -implicitDefEqProofs [Try.f35,ble_d,beq_d,List.range_succ,List.replicate,cond_true,cond_false,en28,en55,ea,eb,sa,sb,ibeq,ibne,undef]
    · have c2' : ¬ (b : Int) = 9218868437227405312 := by omega
      simp (maxSteps := 2000000) -implicitDefEqProofs [Try.f35,ble_d,beq_d,List.range_succ,List.replicate,cond_true,cond_false,en28,en55,ea,eb,sa,sb,ibeq,ibne,c2,c2',undef]
  · have c2 : b = 9218868437227405312 := by omega
    have hv : addB a b = 9218868437227405312 := by rw [c2]; exact (addB_inf ha).1
    rw [hv]
    subst c2
    have c1' : ¬ (a : Int) = 9218868437227405312 := by omega
    simp (maxSteps := 2000000) -implicitDefEqProofs [Try.f35,ble_d,beq_d,List.range_succ,List.replicate,cond_true,cond_false,en28,en55,ea,eb,sa,sb,ibeq,ibne,c1,c1',undef]
set_option maxRecDepth 20000 in
set_option maxHeartbeats 6400000 in
theorem add_fin_run {h : Heap} {a b : Nat} (ha : a < 9218868437227405312) (hb : b < 9218868437227405312) : ∃ h',run Try.prog sO 35 [U a,U b] h = some (U (addB a b),h') ∧ Keep No h h' := by
  have pa : Pos a := Nat.le_of_lt ha
  have pb : Pos b := Nat.le_of_lt hb
  have ea := isnan_run sO a h
  have eb := isnan_run sO b h
  have sa := size_run sO a h
  have sb := size_run sO b h
  rw [pa.nan] at ea
  rw [pb.nan] at eb
  have ra := @parts_run h a (by omega) (by omega)
  have rb' := @parts_run h b (by omega) (by omega)
  rw [Nat.mod_eq_of_lt (by omega)] at sa sb ra rb'
  rw [decide_eq_false (by omega)] at ra rb'
  obtain ⟨va,va2,va3,va4,va5,va6⟩ := parts_val ha
  obtain ⟨vb,vb2,vb3,vb4,vb5,vb6⟩ := parts_val hb
  have c1 : ¬ a = 9218868437227405312 := by omega
  have c1' : ¬ (a : Int) = 9218868437227405312 := by omega
  have c2 : ¬ b = 9218868437227405312 := by omega
  have c2' : ¬ (b : Int) = 9218868437227405312 := by omega
  obtain ⟨low,hlow⟩ : ∃ low : Int,(if peB b < peB a then peB b else peB a) = low := ⟨_,rfl⟩
  have hl1 : -1074 ≤ low ∧ low ≤ peB a ∧ low ≤ peB b ∧ low ≤ 1100 := by rw [← hlow]; split <;> omega
  obtain ⟨k1,hk1⟩ : ∃ k : Nat,peB a - low = (k : Int) := ⟨(peB a - low).toNat,by omega⟩
  obtain ⟨k2,hk2⟩ : ∃ k : Nat,peB b - low = (k : Int) := ⟨(peB b - low).toNat,by omega⟩
  have hav := add_val ha hb hl1.1 hl1.2.1 hl1.2.2.1
  rw [show (peB a - low).toNat = k1 by omega,show (peB b - low).toNat = k2 by omega] at hav
  have w1 : IntKind.i64.wrap (peB a - low) = (k1 : Int) := by rw [IntWalk.i64_in _ (by omega)]; exact hk1
  have w2 : IntKind.i64.wrap (peB b - low) = (k2 : Int) := by rw [IntWalk.i64_in _ (by omega)]; exact hk2
  obtain ⟨v1,h1,e1,n1,kk1⟩ := @nat_run h (pmB a) (by omega)
  obtain ⟨v2,h2,e2,n2,b2⟩ := shl_run k1 n1 (by omega) (by simp only [List.length_cons,List.length_nil]; omega)
  rw [nv_two] at n2 b2
  simp only [List.length_cons,List.length_nil] at b2
  obtain ⟨v3,h3,e3,n3,kk3⟩ := @nat_run h2 (pmB b) (by omega)
  obtain ⟨v4,h4,e4,n4,b4⟩ := shl_run k2 n3 (by omega) (by simp only [List.length_cons,List.length_nil]; omega)
  rw [nv_two] at n4 b4
  simp only [List.length_cons,List.length_nil] at b4
  have na2 := (n2.na (by omega)).keep (kk3.trans n4.2.1)
  have na4 := n4.na (by omega)
  obtain ⟨v5,h5,e5,n5,b5⟩ := plus_run na2 na4 (by omega) (by omega)
  have q2 : nv (lm (pmB a * 2 ^ k1)) = pmB a * 2 ^ k1 := nv_lm _
  have q4 : nv (lm (pmB b * 2 ^ k2)) = pmB b * 2 ^ k2 := nv_lm _
  rw [q2,q4] at n5 b5
  have kA : Keep No h h5 := ((kk1.trans n2.2.1).trans (kk3.trans n4.2.1)).trans n5.2.1
  obtain ⟨S,hS⟩ : ∃ S,pmB a * 2 ^ k1 + pmB b * 2 ^ k2 = S := ⟨_,rfl⟩
  rw [hS] at n5 b5 hav
  have b5' : (lm S).length ≤ 200 := by omega
  have na5 := n5.na (by omega)
  have s5 := na5.1
  obtain ⟨va0,vc0,rfl⟩ := sl_form s5
  suffices hx : ∃ y,fin Try.prog Try.f35 (aexecP Try.prog (sO 35) (run Try.prog sO) loopω pt35 (Try.f35.body.getD .skip) ([U a,U b] ++ List.replicate (Try.f35.ntmps - 2) undef) h) = some y ∧ y.1 = U (addB a b) ∧ Keep No h y.2 by
    obtain ⟨⟨y1,y2⟩,hy,rfl,q⟩ := hx
    exact ⟨y2,run_finP pt35 Try.func35 rfl planned35 hy,q⟩
  rcases Nat.eq_zero_or_pos S with h0 | h0
  · have hz : (lm S).length = 0 := lm_nil.2 h0
    have ha0 : a = 0 := by
      rcases Nat.eq_zero_or_pos a with x | x
      · exact x
      · have y := va6 x
        have : 0 < pmB a * 2 ^ k1 := Nat.mul_pos y (Nat.two_pow_pos _)
        omega
    have hv : addB a b = a := by rw [← hav,h0,ha0]; rfl
    rw [hv]
    rw [hz] at e5
    by_cases cl : peB b < peB a
    · rw [if_pos cl] at hlow
      have hk0 : k2 = 0 := by omega
      have w0 : IntKind.i64.wrap 0 = 0 := rfl
      rw [hk0,show ((0 : Nat) : Int) = 0 from rfl] at e4
      rw [← hlow] at w1 w2
      simp (maxSteps := 2000000) -implicitDefEqProofs [Try.f35,ble_d,beq_d,List.range_succ,List.replicate,cond_true,cond_false,en28,en55,en60,en62,en61,en66,ea,eb,sa,sb,ra,rb',e1,e2,e3,e4,e5,w0,w1,w2,cl,neq4,ibeq,ibne,c1,c1',c2,c2',undef]
      exact kA
    · rw [if_neg cl] at hlow
      have hk0 : k1 = 0 := by omega
      have w0 : IntKind.i64.wrap 0 = 0 := rfl
      rw [hk0,show ((0 : Nat) : Int) = 0 from rfl] at e2
      rw [← hlow] at w1 w2
      simp (maxSteps := 2000000) -implicitDefEqProofs [Try.f35,ble_d,beq_d,List.range_succ,List.replicate,cond_true,cond_false,en28,en55,en60,en62,en61,en66,ea,eb,sa,sb,ra,rb',e1,e2,e3,e4,e5,w0,w1,w2,cl,neq4,ibeq,ibne,c1,c1',c2,c2',undef]
      exact kA
  · have hz : ¬ (lm S).length = 0 := fun x => by have := lm_nil.1 x; omega
    obtain ⟨h6,e6,k6⟩ := round_f (exp := low) false na5 (by omega) (by rw [nv_lm]; exact h0) (by omega) (by omega)
    rw [nv_lm,Bool.false_or,rung_rq h0,hav] at e6
    generalize (lm S).length = L at *
    by_cases cl : peB b < peB a
    · rw [if_pos cl] at hlow
      have hk0 : k2 = 0 := by omega
      have w0 : IntKind.i64.wrap 0 = 0 := rfl
      rw [hk0,show ((0 : Nat) : Int) = 0 from rfl] at e4
      rw [← hlow] at w1 w2 e6
      simp (maxSteps := 2000000) -implicitDefEqProofs [Try.f35,ble_d,beq_d,List.range_succ,List.replicate,cond_true,cond_false,en28,en55,en60,en62,en61,en66,en64,ea,eb,sa,sb,ra,rb',e1,e2,e3,e4,e5,e6,w0,w1,w2,cl,hz,neq4,ibeq,ibne,c1,c1',c2,c2',undef]
      exact kA.trans k6
    · rw [if_neg cl] at hlow
      have hk0 : k1 = 0 := by omega
      have w0 : IntKind.i64.wrap 0 = 0 := rfl
      rw [hk0,show ((0 : Nat) : Int) = 0 from rfl] at e2
      rw [← hlow] at w1 w2 e6
      simp (maxSteps := 2000000) -implicitDefEqProofs [Try.f35,ble_d,beq_d,List.range_succ,List.replicate,cond_true,cond_false,en28,en55,en60,en62,en61,en66,en64,ea,eb,sa,sb,ra,rb',e1,e2,e3,e4,e5,e6,w0,w1,w2,cl,hz,neq4,ibeq,ibne,c1,c1',c2,c2',undef]
      exact kA.trans k6
theorem addr_run {h : Heap} {a b : Nat} (ha : Pos a) (hb : Pos b) : ∃ h',run Try.prog sO 35 [U a,U b] h = some (U (addB a b),h') ∧ Keep No h h' := by
  by_cases hi : a = 9218868437227405312 ∨ b = 9218868437227405312
  · exact ⟨h,add_inf_run ha hb hi,Keep.refl _ _⟩
  · unfold Pos at ha hb
    exact add_fin_run (by omega) (by omega)
set_option maxRecDepth 20000 in
set_option maxHeartbeats 6400000 in
theorem div_run {h : Heap} {a b : Nat} (ha : a < 9218868437227405312) (hb : Pos b) (hb0 : 0 < b) : ∃ h',run Try.prog sO 36 [U a,U b] h = some (U (divB a b),h') ∧ Keep No h h' := by
  by_cases c1 : a = 0
  · refine ⟨h,run_finP pt36 Try.func36 rfl planned36 ?_,Keep.refl _ _⟩
    subst c1
    rw [divB_zero hb hb0]
    simp (maxSteps := 2000000) -implicitDefEqProofs [Try.f36,ble_d,beq_d,List.range_succ,List.replicate,cond_true,cond_false,ibeq,undef]
  by_cases c2 : b = 9218868437227405312
  · refine ⟨h,run_finP pt36 Try.func36 rfl planned36 ?_,Keep.refl _ _⟩
    subst c2
    rw [divB_inf ha]
    simp (maxSteps := 2000000) -implicitDefEqProofs [Try.f36,ble_d,beq_d,List.range_succ,List.replicate,cond_true,cond_false,ibeq,c1,undef]
  have hb' : b < 9218868437227405312 := by unfold Pos at hb; omega
  have c2' : ¬ (b : Int) = 9218868437227405312 := by omega
  have ra := @parts_run h a (by omega) (by omega)
  have rb' := @parts_run h b (by omega) (by omega)
  rw [Nat.mod_eq_of_lt (by omega)] at ra rb'
  rw [decide_eq_false (by omega)] at ra rb'
  obtain ⟨va,va2,va3,va4,va5,va6⟩ := parts_val ha
  obtain ⟨vb,vb2,vb3,vb4,vb5,vb6⟩ := parts_val hb'
  have m0 := va6 (by omega)
  have n0 := vb6 (by omega)
  obtain ⟨v1,h1,e1,n1,kk1⟩ := @nat_run h (pmB a) (by omega)
  obtain ⟨v2,h2,e2,n2,b2⟩ := shl_run 128 n1 (by omega) (by simp only [List.length_cons,List.length_nil]; omega)
  rw [nv_two] at n2 b2
  simp only [List.length_cons,List.length_nil] at b2
  obtain ⟨v3,h3,e3,n3,kk3⟩ := @nat_run h2 (pmB b) (by omega)
  have na2 := (n2.na (by omega)).keep kk3
  obtain ⟨v4,r4,h4,e4,q4,r4',kk4⟩ := divide_run na2 n3 (by omega) (by simp) (by rw [nv_two]; exact n0)
  have qn : nv (lm (pmB a * 2 ^ 128)) = pmB a * 2 ^ 128 := nv_lm _
  rw [qn,nv_two] at q4 r4'
  have kA : Keep No h h4 := ((kk1.trans n2.2.1).trans kk3).trans kk4
  have hQbig : 2 ^ 75 ≤ pmB a * 2 ^ 128 / pmB b := by
    rw [Nat.le_div_iff_mul_le n0]
    have h1 : 2 ^ 75 * pmB b ≤ 2 ^ 75 * 2 ^ 53 := Nat.mul_le_mul_left _ (by omega)
    have h2 : 1 * 2 ^ 128 ≤ pmB a * 2 ^ 128 := Nat.mul_le_mul_right _ m0
    exact Nat.le_trans h1 (Nat.le_trans (by decide) h2)
  have hQs : pmB a * 2 ^ 128 / pmB b < 4294967296 ^ 6 := by
    refine Nat.lt_of_le_of_lt (Nat.div_le_self _ _) ?_
    have : pmB a * 2 ^ 128 < 2 ^ 53 * 2 ^ 128 := Nat.mul_lt_mul_of_pos_right va3 (by decide)
    exact Nat.lt_trans this (by decide)
  have lq := lm_len hQs
  have hbl : 76 ≤ bl (pmB a * 2 ^ 128 / pmB b) := by
    rcases Nat.lt_or_ge (bl (pmB a * 2 ^ 128 / pmB b)) 76 with x | x
    · have h1 := lt_bl (pmB a * 2 ^ 128 / pmB b)
      have h2 : 2 ^ bl (pmB a * 2 ^ 128 / pmB b) ≤ 2 ^ 75 := Nat.pow_le_pow_right (by decide) (by omega)
      omega
    · exact x
  obtain ⟨ex,hex⟩ : ∃ ex : Int,peB a - peB b - 128 = ex := ⟨_,rfl⟩
  have hrest : (pmB a * 2 ^ 128 % pmB b != 0) = decide (0 < (lm (pmB a * 2 ^ 128 % pmB b)).length) := by
    rw [Bool.eq_iff_iff,bne_iff_ne,decide_eq_true_eq]
    have := @lm_nil (pmB a * 2 ^ 128 % pmB b)
    omega
  obtain ⟨h5,e5,k5⟩ := round_f (exp := ex) (pmB a * 2 ^ 128 % pmB b != 0) q4 (by omega) (by rw [nv_lm]; exact Nat.lt_of_lt_of_le (by decide) hQbig) (by omega) (by omega)
  rw [nv_lm] at e5
  have hval : rung (2 * rq (pmB a * 2 ^ 128 / pmB b) + (pmB a * 2 ^ 128 % pmB b != 0 || rb (pmB a * 2 ^ 128 / pmB b)).toNat) (rx (pmB a * 2 ^ 128 / pmB b) ex) = divB a b := by
    have hk : 63 - bl (pmB a * 2 ^ 128 / pmB b) = 0 := by omega
    have hr1 : rq (pmB a * 2 ^ 128 / pmB b) = pmB a * 2 ^ 128 / pmB b / 2 ^ (bl (pmB a * 2 ^ 128 / pmB b) - 63) := by unfold rq; rw [hk,Nat.pow_zero,Nat.mul_one]
    have hr2 : rb (pmB a * 2 ^ 128 / pmB b) = (pmB a * 2 ^ 128 / pmB b % 2 ^ (bl (pmB a * 2 ^ 128 / pmB b) - 63) != 0) := by unfold rb; rw [hk,Nat.pow_zero,Nat.mul_one]
    have hr3 : rx (pmB a * 2 ^ 128 / pmB b) ex = peB a - peB b - 128 + (bl (pmB a * 2 ^ 128 / pmB b) - 63 : Nat) - 1 := by unfold rx; rw [hk]; omega
    have hq62 := (rq_lt (N := pmB a * 2 ^ 128 / pmB b) (Nat.lt_of_lt_of_le (by decide) hQbig)).2
    rw [hr1] at hq62
    rw [hr1,hr2,hr3]
    exact div_val ha hb' (by omega) hb0 (by rw [(div_cut (Q := pmB a * 2 ^ 128) n0).1]; exact Nat.le_trans (by decide) hq62)
  rw [hval,hrest] at e5
  have w1 : IntKind.i64.wrap (peB a - peB b) = peB a - peB b := IntWalk.i64_in _ (by omega)
  have w2 : IntKind.i64.wrap (peB a - peB b - 128) = ex := by rw [IntWalk.i64_in _ (by omega)]; exact hex
  rw [show ((128 : Nat) : Int) = 128 from rfl] at e2
  have sr := r4'.1
  have sq := q4.1
  obtain ⟨ra1,rc1,rfl⟩ := sl_form sr
  obtain ⟨qa1,qc1,rfl⟩ := sl_form sq
  generalize (lm (pmB a * 2 ^ 128 % pmB b)).length = L at *
  refine ⟨h5,run_finP pt36 Try.func36 rfl planned36 ?_,kA.trans k5⟩
  simp (maxSteps := 2000000) -implicitDefEqProofs [Try.f36,ble_d,beq_d,List.range_succ,List.replicate,cond_true,cond_false,en60,en62,en61,en67,en64,ra,rb',e1,e2,e3,e4,e5,w1,w2,ibeq,c1,c2,c2',undef]
end Go.Proofs.Ytmnkmdfladbgdaa.Od
