/- Odds: Join: its loop. -/
import Derived.Test.YtmnkmdfladbgdaaOl10
set_option linter.unusedVariables false
set_option linter.unusedSimpArgs false
namespace Go.Proofs.Ytmnkmdfladbgdaa.Od
open Go Go.Proofs Go.RowKit Go.Proofs.YtmnkmdfladbgdaaAI Go.Proofs.YtmnkmdfladbgdaaFl

theorem nv_set {l : List Nat} {j : Nat} (hj : j < l.length) (y : Nat) : nv (l.set j y) + 4294967296 ^ j * l.getD j 0 = nv l + 4294967296 ^ j * y := by
  induction l generalizing j with
  | nil => simp at hj
  | cons x l ih =>
    cases j with
    | zero => simp only [List.set_cons_zero,nv,List.getD_cons_zero,Nat.pow_zero]; omega
    | succ j =>
      have := ih (j := j) (by simpa using hj)
      simp only [List.set_cons_succ,nv,List.getD_cons_succ,Nat.pow_succ]
      have e1 : 4294967296 ^ j * 4294967296 * l.getD j 0 = 4294967296 * (4294967296 ^ j * l.getD j 0) := by rw [Nat.mul_comm (4294967296 ^ j),Nat.mul_assoc]
      have e2 : 4294967296 ^ j * 4294967296 * y = 4294967296 * (4294967296 ^ j * y) := by rw [Nat.mul_comm (4294967296 ^ j),Nat.mul_assoc]
      rw [e1,e2]
      omega
/-- One bit of a quotient, set. -/
theorem set_bit {l : List Nat} (hw : W32 l) {p Q : Nat} (h : nv l = Q * 2 ^ (p + 1)) (hj : p / 32 < l.length) :
    l.getD (p / 32) 0 + 2 ^ (p % 32) < 4294967296 ∧ nv (l.set (p / 32) (l.getD (p / 32) 0 + 2 ^ (p % 32))) = (2 * Q + 1) * 2 ^ p := by
  have hs : p % 32 < 32 := Nat.mod_lt _ (by omega)
  have hx := hw.get (p / 32)
  have hd := nv_div hw (p / 32)
  obtain ⟨z,hz⟩ : ∃ z,p / 32 = z := ⟨_,rfl⟩
  obtain ⟨s,hs'⟩ : ∃ s,p % 32 = s := ⟨_,rfl⟩
  rw [hz] at hd hx hj ⊢
  rw [hs'] at hs ⊢
  have hp : p = 32 * z + s := by omega
  have h5 : (4294967296 : Nat) ^ z = 2 ^ (32 * z) := by rw [show (4294967296 : Nat) = 2 ^ 32 from rfl,← Nat.pow_mul]
  have h6 : nv l / 4294967296 ^ z = Q * 2 ^ (s + 1) := by
    rw [h,h5,hp,show 32 * z + s + 1 = (s + 1) + 32 * z by omega,Nat.pow_add,← Nat.mul_assoc,Nat.mul_div_cancel _ (Nat.two_pow_pos _)]
  obtain ⟨q,hq⟩ : ∃ q,4294967296 = 2 ^ (s + 1) * q := ⟨2 ^ (31 - s),by rw [← Nat.pow_add,show s + 1 + (31 - s) = 32 by omega]⟩
  have hm : l.getD z 0 % 2 ^ (s + 1) = 0 := by
    have h7 : (nv l / 4294967296 ^ z) % 2 ^ (s + 1) = 0 := by rw [h6,Nat.mul_mod_left]
    rw [hd] at h7
    have h8 : 4294967296 * (nv l / 4294967296 ^ (z + 1)) = 2 ^ (s + 1) * (q * (nv l / 4294967296 ^ (z + 1))) := by rw [← Nat.mul_assoc,← hq]
    rw [h8,Nat.add_mul_mod_self_left] at h7
    exact h7
  have hlt : l.getD z 0 + 2 ^ s < 4294967296 := by
    have h9 := Nat.div_add_mod (l.getD z 0) (2 ^ (s + 1))
    rw [hm,Nat.add_zero] at h9
    have h10 : 2 ^ (s + 1) = 2 * 2 ^ s := by rw [Nat.pow_succ,Nat.mul_comm]
    have hpos := Nat.two_pow_pos s
    generalize l.getD z 0 / 2 ^ (s + 1) = t at *
    have h11 : t < q := by
      rcases Nat.lt_or_ge t q with h | h
      · exact h
      · have := Nat.mul_le_mul_left (2 ^ (s + 1)) h; omega
    have h12 := Nat.mul_le_mul_left (2 ^ (s + 1)) (Nat.succ_le_of_lt h11)
    rw [Nat.mul_succ] at h12
    omega
  refine ⟨hlt,?_⟩
  have h13 := nv_set hj (l.getD z 0 + 2 ^ s)
  rw [Nat.mul_add,h5,← Nat.pow_add] at h13
  have h14 : nv l = 2 * Q * 2 ^ p := by rw [h,Nat.pow_succ,Nat.mul_comm 2 Q,Nat.mul_assoc,Nat.mul_comm 2 (2 ^ p)]
  rw [Nat.add_mul,Nat.one_mul,← h14]
  rw [← hp] at h13
  omega
/-- One bit more of a quotient. -/
theorem div_bit {A b R Q p : Nat} (hb : 0 < b) (hR : A / 2 ^ (p + 1) % b = R) (hQ : A / 2 ^ (p + 1) / b = Q) :
    (b ≤ R * 2 ^ 1 + A / 2 ^ p % 2 → A / 2 ^ p % b = R * 2 ^ 1 + A / 2 ^ p % 2 - b ∧ A / 2 ^ p / b = 2 * Q + 1) ∧
    (R * 2 ^ 1 + A / 2 ^ p % 2 < b → A / 2 ^ p % b = R * 2 ^ 1 + A / 2 ^ p % 2 ∧ A / 2 ^ p / b = 2 * Q) := by
  have h1 : A / 2 ^ p = 2 * (A / 2 ^ (p + 1)) + A / 2 ^ p % 2 := by
    have : A / 2 ^ (p + 1) = A / 2 ^ p / 2 := by rw [Nat.pow_succ,Nat.div_div_eq_div_mul]
    omega
  have h2 : A / 2 ^ (p + 1) = b * Q + R := by rw [← hQ,← hR]; exact (Nat.div_add_mod _ _).symm
  have hRb : R < b := hR ▸ Nat.mod_lt _ hb
  rw [h2] at h1
  have hbit : A / 2 ^ p % 2 < 2 := Nat.mod_lt _ (by omega)
  generalize A / 2 ^ p % 2 = t at *
  generalize A / 2 ^ p = X at *
  have hbq : b * (2 * Q) = 2 * (b * Q) := by rw [Nat.mul_left_comm]
  constructor <;> intro h3
  · have h4 : X = b * (2 * Q + 1) + (R * 2 ^ 1 + t - b) := by rw [Nat.mul_add]; omega
    exact ⟨by rw [h4,Nat.mul_add_mod,Nat.mod_eq_of_lt (by omega)],by rw [h4,Nat.mul_add_div hb,Nat.div_eq_of_lt (by omega),Nat.add_zero]⟩
  · have h4 : X = b * (2 * Q) + (R * 2 ^ 1 + t) := by omega
    exact ⟨by rw [h4,Nat.mul_add_mod,Nat.mod_eq_of_lt (by omega)],by rw [h4,Nat.mul_add_div hb,Nat.div_eq_of_lt (by omega),Nat.add_zero]⟩
theorem bs40_c1 (t : Tm) (d ty pos af gu) : aalloc Try.prog (aeval t) ⟨d,.buildSlice 40 1 #[(0,.const (.int .u32 1))],ty,pos,af,gu⟩ = some (.cells [.int .u32 1] 101 1 false false,fun n => .slice (some ⟨n,0,none⟩) 1 1) := by kernel_rfl
theorem au32 {a b s : Nat} (h : a + b = s) (hs : s < 4294967296) : IntKind.u32.wrap ((a : Int) + (b : Int)) = (s : Int) := by
  have : IntKind.u32.wrap ((a : Int) + (b : Int)) = ((a : Int) + (b : Int)) % 4294967296 := rfl
  rw [this]; omega
theorem cmpN_ge (a b : Nat) : 0 ≤ cmpN a b ↔ b ≤ a := by unfold cmpN; repeat' split
                                                         all_goals omega
theorem lm_mono {a b : Nat} (h : a ≤ b) : (lm a).length ≤ (lm b).length := by
  rcases Nat.lt_or_ge (lm b).length (lm a).length with h1 | h1
  · have := len_lt h1; omega
  · exact h1
theorem lm_nv_len {b : List Nat} (hb : W32 b) {r : Nat} (h : r ≤ nv b) : (lm r).length ≤ b.length := Nat.le_trans (lm_mono h) (trim_form hb).2
def sb (n i : Nat) : Nat := n - i
/-- The quotient's row, the bits from p on told. -/
def QR (h0 h : Heap) (m K A b p : Nat) : Prop := ∃ l,W32 l ∧ l.length = K ∧ nv l = A / 2 ^ p / b * 2 ^ p ∧ h.get m = some (.cells (u3 l) 101 1 false false) ∧ Keep (fun m' => m' = m) h0 h
set_option maxRecDepth 20000 in
set_option maxHeartbeats 6400000 in
theorem div1 {h0 : Heap} {va vb : Option Addr} {vca vcb La Lb n m K : Nat} {a b : List Nat} (hLa : a.length = La) (hLb : b.length = Lb) (wa : W32 a) (wb : W32 b) (ka : La ≤ 800) (kb : Lb ≤ 800) (hb0 : 0 < nv b) (hn : n ≤ 30000) (hK : K = n / 32 + 1) (hva : Sl h0 (.slice va La vca) 1 La (u3 a)) (hvb : Sl h0 (.slice vb Lb vcb) 1 Lb (u3 b)) (hma : nm (.slice va La vca) ≠ some m) (hmb : nm (.slice vb Lb vcb) ≠ some m) (v0 : Value) (F : Step) (hFF : F = aexecP Try.prog (sO 67) (run Try.prog sO) loopω pt67 (lb67 0)) (t : Tm)
    (ht : forget [2,3,4,5,6,10,11,12,13,14,15,16,17,18,19,20,21,22,23,24,25,26,27,28,29,30,31,32,33,34,35,36,37,38,39,40,41,42,43,44,45,46,47,48,49,50] t = [.slice va La vca,.slice vb Lb vcb,Z,Z,Z,Z,Z,.slice (some ⟨m,0,none⟩) K K,v0,.int .i64 (lz n (0)),Z,Z,Z,Z,Z,Z,Z,Z,Z,Z,Z,Z,Z,Z,Z,Z,Z,Z,Z,Z,Z,Z,Z,Z,Z,Z,Z,Z,Z,Z,Z,Z,Z,Z,Z,Z,Z,Z,Z,Z,Z]) (hI0 : (Na h0 v0 (lm (nv a / 2 ^ (sb n (0)) % nv b)) ∧ (∀ m',nm v0 = some m' → h0.next ≤ m') ∧ QR h0 h0 m K (nv a) (nv b) (sb n (0)))) :
    ∃ h' v x18 x19,loopω [2,3,4,5,6,10,11,12,13,14,15,16,17,18,19,20,21,22,23,24,25,26,27,28,29,30,31,32,33,34,35,36,37,38,39,40,41,42,43,44,45,46,47,48,49,50] F t h0 = some (.exit 0,[.slice va La vca,.slice vb Lb vcb,Z,Z,Z,Z,Z,.slice (some ⟨m,0,none⟩) K K,v,.int .i64 (lz n (n)),Z,Z,Z,Z,Z,Z,Z,Z,x18,x19,Z,Z,Z,Z,Z,Z,Z,Z,Z,Z,Z,Z,Z,Z,Z,Z,Z,Z,Z,Z,Z,Z,Z,Z,Z,Z,Z,Z,Z,Z,Z],h') ∧ (Na h' v (lm (nv a / 2 ^ (sb n (n)) % nv b)) ∧ (∀ m',nm v = some m' → h0.next ≤ m') ∧ QR h0 h' m K (nv a) (nv b) (sb n (n))) := by
  subst hFF
  suffices hs : ∃ e t' h',loopω [2,3,4,5,6,10,11,12,13,14,15,16,17,18,19,20,21,22,23,24,25,26,27,28,29,30,31,32,33,34,35,36,37,38,39,40,41,42,43,44,45,46,47,48,49,50] (aexecP Try.prog (sO 67) (run Try.prog sO) loopω pt67 (lb67 0)) t h0 = some (e,t',h') ∧ (e = .exit 0 ∧ ∃ v x18 x19,t' = [.slice va La vca,.slice vb Lb vcb,Z,Z,Z,Z,Z,.slice (some ⟨m,0,none⟩) K K,v,.int .i64 (lz n (n)),Z,Z,Z,Z,Z,Z,Z,Z,x18,x19,Z,Z,Z,Z,Z,Z,Z,Z,Z,Z,Z,Z,Z,Z,Z,Z,Z,Z,Z,Z,Z,Z,Z,Z,Z,Z,Z,Z,Z,Z,Z] ∧ (Na h' v (lm (nv a / 2 ^ (sb n (n)) % nv b)) ∧ (∀ m',nm v = some m' → h0.next ≤ m') ∧ QR h0 h' m K (nv a) (nv b) (sb n (n)))) by
    obtain ⟨e,t',h',q1,rfl,v,x18,x19,rfl,q2⟩ := hs
    exact ⟨h',v,x18,x19,q1,q2⟩
  simp only [lb67,Try.f67,loopsOf,Option.getD_some,List.nil_append,List.append_nil,List.cons_append,List.getD_cons_zero,List.getD_cons_succ]
  refine loop_by (fun k t h' => ∃ (i : Nat) (v : Value),i + k = n ∧ forget [2,3,4,5,6,10,11,12,13,14,15,16,17,18,19,20,21,22,23,24,25,26,27,28,29,30,31,32,33,34,35,36,37,38,39,40,41,42,43,44,45,46,47,48,49,50] t = [.slice va La vca,.slice vb Lb vcb,Z,Z,Z,Z,Z,.slice (some ⟨m,0,none⟩) K K,v,.int .i64 (lz n (i)),Z,Z,Z,Z,Z,Z,Z,Z,Z,Z,Z,Z,Z,Z,Z,Z,Z,Z,Z,Z,Z,Z,Z,Z,Z,Z,Z,Z,Z,Z,Z,Z,Z,Z,Z,Z,Z,Z,Z,Z,Z] ∧ (Na h' v (lm (nv a / 2 ^ (sb n (i)) % nv b)) ∧ (∀ m',nm v = some m' → h0.next ≤ m') ∧ QR h0 h' m K (nv a) (nv b) (sb n (i))))
    (fun e t' h' => e = .exit 0 ∧ ∃ v x18 x19,t' = [.slice va La vca,.slice vb Lb vcb,Z,Z,Z,Z,Z,.slice (some ⟨m,0,none⟩) K K,v,.int .i64 (lz n (n)),Z,Z,Z,Z,Z,Z,Z,Z,x18,x19,Z,Z,Z,Z,Z,Z,Z,Z,Z,Z,Z,Z,Z,Z,Z,Z,Z,Z,Z,Z,Z,Z,Z,Z,Z,Z,Z,Z,Z,Z,Z] ∧ (Na h' v (lm (nv a / 2 ^ (sb n (n)) % nv b)) ∧ (∀ m',nm v = some m' → h0.next ≤ m') ∧ QR h0 h' m K (nv a) (nv b) (sb n (n)))) ?_ (n) _ _ ⟨0,_,by omega,ht,hI0⟩
  rintro k t h' ⟨i,v,hi,ht,hI⟩
  rw [ht]
  rcases Nat.lt_or_ge i (n) with h1 | h1
  · obtain ⟨nr,hfr,l,wl,hlK,hlv,hg,kp⟩ := hI
    obtain ⟨p,hp⟩ : ∃ p : Nat,n - 1 - i = p := ⟨_,rfl⟩
    have hp1 : sb n i = p + 1 := by unfold sb; omega
    have hp2 : sb n (i + 1) = p := by unfold sb; omega
    rw [hp1] at nr hlv
    have hz1 : lz n i = (p : Int) := by unfold lz; omega
    have hz2 : IntKind.i64.wrap ((p : Int) - 1) = lz n (i + 1) := by rw [IntWalk.i64_in _ (by omega)]; unfold lz; omega
    rw [hz1]
    have hak := hva.keep kp fun m' e x => hma (x ▸ e)
    have hbk := hvb.keep kp fun m' e x => hmb (x ▸ e)
    obtain ⟨d1,d2⟩ := div_bit (A := nv a) (p := p) hb0 rfl rfl
    have hRb : nv a / 2 ^ (p + 1) % nv b < nv b := Nat.mod_lt _ hb0
    have hRl := lm_nv_len wb (Nat.le_of_lt hRb)
    generalize hR : nv a / 2 ^ (p + 1) % nv b = R at *
    obtain ⟨v1,h1',e1,n1,b1⟩ := shl_run 1 nr (by omega) (by omega)
    have hnvR : nv (lm R) = R := nv_lm R
    rw [show ((1 : Nat) : Int) = 1 from rfl] at e1
    rw [hnvR] at n1 b1
    have na1 := n1.na (by omega)
    have k1 := n1.2.1
    have haN : Na h1' (.slice va La vca) a := by rw [← hLa] at hak ⊢; exact ⟨hak.keep k1 fun _ _ x => x,wa,by omega⟩
    have e2 := bit_run p haN (by omega)
    have hg1 := k1.get hg (fun x => x)
    by_cases cb : nv a / 2 ^ p % 2 = 1
    · by_cases cg : nv b ≤ R * 2 ^ 1 + 1
      · have hbt : nv a / 2 ^ p % 2 = 1 := cb
        rw [hbt] at d1 d2
        rw [show decide (nv a / 2 ^ p % 2 = 1) = true from decide_eq_true cb] at e2
        have k2 := Keep.new No h1' (.cells [.int .u32 1] 101 1 false false)
        have na2 : Na (h1'.new (.cells [.int .u32 1] 101 1 false false)) (.slice (some ⟨h1'.next,0,none⟩) 1 1) [1] := ⟨⟨by simp [u3],.inr ⟨_,_,rfl,fun _ => ⟨_,_,_,_,_,by rw [Heap.get_new,if_pos rfl],by simp [u3]⟩⟩⟩,fun x hx => by rw [List.mem_singleton.1 hx]; omega,by simp⟩
        obtain ⟨v3,h3,e3,n3,b3⟩ := plus_run (na1.keep k2) na2 (by omega) (by simp)
        have hnv1 : nv (lm (R * 2 ^ 1)) = R * 2 ^ 1 := nv_lm _
        have hone : nv [1] = 1 := rfl
        rw [hnv1,hone] at n3 b3
        have hb3 : (lm (R * 2 ^ 1 + 1)).length ≤ 900 := Nat.le_trans b3 (by simp only [List.length_cons,List.length_nil]; omega)
        have na3 := n3.na (by omega)
        have k3 : Keep No h1' h3 := k2.trans n3.2.1
        have f3 : ∀ m',nm v3 = some m' → h1'.next ≤ m' := fun m' e => (by have := n3.2.2 m' e; rw [Heap.next_new] at this; omega)
        have hbN : Na h3 (.slice vb Lb vcb) b := by rw [← hLb] at hbk ⊢; exact ⟨(hbk.keep k1 fun _ _ x => x).keep k3 fun _ _ x => x,wb,by omega⟩
        obtain ⟨h4,e4,k4⟩ := cmp3_run na3 hbN
        have hnv3 : nv (lm (R * 2 ^ 1 + 1)) = R * 2 ^ 1 + 1 := nv_lm _
        rw [hnv3] at e4
        have k14 := (k1.trans k3).trans k4
        have hg4 := k14.get hg (fun x => x)
        have kpp := kp.also k14 fun _ _ x => x.elim
        have hlt4 := Heap.get_lt hg4
        have hn1 := k1.1
        have hn0 := kp.1
        have hlt := Heap.get_lt hg
        obtain ⟨d3,d4⟩ := d1 cg
        have hge : (0 : Int) ≤ cmpN (R * 2 ^ 1 + 1) (nv b) := (cmpN_ge _ _).2 cg
        generalize cmpN (R * 2 ^ 1 + 1) (nv b) = cm at *
        obtain ⟨v5,h5,e5,n5,b5⟩ := minus_run (na3.keep k4) (hbN.keep k4) (by rw [hnv3]; exact cg)
        rw [hnv3,← d3] at n5 b5
        have k5 := n5.2.1
        have hg5 := k5.get hg4 (fun x => x)
        have hlt5 := Heap.get_lt hg5
        obtain ⟨z,hz⟩ : ∃ z,p / 32 = z := ⟨_,rfl⟩
        obtain ⟨s,hs⟩ : ∃ s,p % 32 = s := ⟨_,rfl⟩
        have hzl : z < l.length := by omega
        obtain ⟨c1,c2⟩ := set_bit wl hlv (by rw [hz]; exact hzl)
        rw [hz,hs] at c1 c2
        have hxz := u3_get hzl
        have hst := u3_set hzl
        have cz : z + 1 ≤ (u3 l).length := by rw [u3_len]; omega
        generalize hx : l.getD z 0 = x at *
        obtain ⟨ps,hps⟩ : ∃ y,2 ^ s = y := ⟨_,rfl⟩
        rw [hps] at c1 c2
        obtain ⟨y,hy⟩ : ∃ y,x + ps = y := ⟨_,rfl⟩
        rw [hy] at c1 c2
        have hsty := hst y
        have w1 : IntKind.i64.wrap ((p : Int).tdiv 32) = (z : Int) := by
          have : (p : Int).tdiv 32 = ((p / 32 : Nat) : Int) := rfl
          rw [this]; exact wi64 hz (by omega)
        have w1' : IntKind.i64.wrap ((p : Int) / 32) = (z : Int) := by
          have : (p : Int) / 32 = ((p / 32 : Nat) : Int) := by omega
          rw [this]; exact wi64 hz (by omega)
        have w2 : (p : Int).tmod 32 = (s : Int) := by rw [← hs]; rfl
        have w2' : (p : Int) % 32 = (s : Int) := by omega
        have w3 := wu64 (a := s) rfl (by omega)
        have w4 : IntKind.u32.wrap (2 ^ min s 32) = (ps : Int) := by have := @shl32 1 s ps (by omega) (by omega) (by omega); simpa using this
        have w5 := au32 hy (by omega)
        have hzK : z < K := by omega
        obtain ⟨q,hq⟩ : ∃ q,q = h5.put m (some (.cells (u3 (l.set z y)) 101 1 false false)) := ⟨_,rfl⟩
        have kq : Keep (fun m' => m' = m) h5 q := by rw [hq]; exact Keep.put (S := fun m' => m' = m) hlt5 rfl _
        have gq : q.get m = some (.cells (u3 (l.set z y)) 101 1 false false) := by rw [hq,Heap.get_put hlt5,if_pos rfl]
        have hqr : QR h0 q m K (nv a) (nv b) p := ⟨l.set z y,fun u hu => by
          rcases List.mem_or_eq_of_mem_set hu with h | h
          · exact wl u h
          · omega,by rw [List.length_set]; exact hlK,by rw [c2,d4],gq,(kpp.also k5 fun _ _ x => x.elim).trans kq⟩
        have hrN : Na q v5 (lm (nv a / 2 ^ p % nv b)) := ⟨n5.1.sl.keep kq fun m' e x => (by have := n5.2.2 m' e; have := k14.1; omega),lm_w _,Nat.le_trans (lm_nv_len wb (Nat.le_of_lt (Nat.mod_lt _ hb0))) (by omega)⟩
        simp (maxSteps := 2000000) -implicitDefEqProofs [ble_d,beq_d,List.range_succ,List.replicate,cond_true,cond_false,e1,e2,e3,e4,en61,en88,en66,en63,en65,bs40_c1,hge,e5,hg5,hxz,hzK,cz,hsty,astore,oku3,← hq,aindexAddr,sz101,Try.underlying40,w1,w1',w2,w2',w3,w4,w5,cv3_117,shl101,hz2,undef]
        exact ⟨k - 1,by omega,i + 1,by omega,v5,by simp (maxSteps := 2000000) only [forget,List.set_cons_succ,List.set_cons_zero],(by rw [hp2]; exact hrN),fun m' e => (by have := n5.2.2 m' e; have := k14.1; omega),(by rw [hp2]; exact hqr)⟩
      · have hbt : nv a / 2 ^ p % 2 = 1 := cb
        rw [hbt] at d1 d2
        rw [show decide (nv a / 2 ^ p % 2 = 1) = true from decide_eq_true cb] at e2
        have k2 := Keep.new No h1' (.cells [.int .u32 1] 101 1 false false)
        have na2 : Na (h1'.new (.cells [.int .u32 1] 101 1 false false)) (.slice (some ⟨h1'.next,0,none⟩) 1 1) [1] := ⟨⟨by simp [u3],.inr ⟨_,_,rfl,fun _ => ⟨_,_,_,_,_,by rw [Heap.get_new,if_pos rfl],by simp [u3]⟩⟩⟩,fun x hx => by rw [List.mem_singleton.1 hx]; omega,by simp⟩
        obtain ⟨v3,h3,e3,n3,b3⟩ := plus_run (na1.keep k2) na2 (by omega) (by simp)
        have hnv1 : nv (lm (R * 2 ^ 1)) = R * 2 ^ 1 := nv_lm _
        have hone : nv [1] = 1 := rfl
        rw [hnv1,hone] at n3 b3
        have hb3 : (lm (R * 2 ^ 1 + 1)).length ≤ 900 := Nat.le_trans b3 (by simp only [List.length_cons,List.length_nil]; omega)
        have na3 := n3.na (by omega)
        have k3 : Keep No h1' h3 := k2.trans n3.2.1
        have f3 : ∀ m',nm v3 = some m' → h1'.next ≤ m' := fun m' e => (by have := n3.2.2 m' e; rw [Heap.next_new] at this; omega)
        have hbN : Na h3 (.slice vb Lb vcb) b := by rw [← hLb] at hbk ⊢; exact ⟨(hbk.keep k1 fun _ _ x => x).keep k3 fun _ _ x => x,wb,by omega⟩
        obtain ⟨h4,e4,k4⟩ := cmp3_run na3 hbN
        have hnv3 : nv (lm (R * 2 ^ 1 + 1)) = R * 2 ^ 1 + 1 := nv_lm _
        rw [hnv3] at e4
        have k14 := (k1.trans k3).trans k4
        have hg4 := k14.get hg (fun x => x)
        have kpp := kp.also k14 fun _ _ x => x.elim
        have hlt4 := Heap.get_lt hg4
        have hn1 := k1.1
        have hn0 := kp.1
        have hlt := Heap.get_lt hg
        obtain ⟨d3,d4⟩ := d2 (by omega)
        have hge : ¬ (0 : Int) ≤ cmpN (R * 2 ^ 1 + 1) (nv b) := fun x => cg ((cmpN_ge _ _).1 x)
        generalize cmpN (R * 2 ^ 1 + 1) (nv b) = cm at *
        have hqr : QR h0 h4 m K (nv a) (nv b) p := ⟨l,wl,hlK,by rw [hlv,d4,Nat.pow_succ,Nat.mul_comm 2,Nat.mul_assoc,Nat.mul_comm 2],hg4,kpp⟩
        have hrN : Na h4 v3 (lm (nv a / 2 ^ p % nv b)) := by rw [d3]; exact na3.keep k4
        simp (maxSteps := 2000000) -implicitDefEqProofs [ble_d,beq_d,List.range_succ,List.replicate,cond_true,cond_false,e1,e2,e3,e4,en61,en88,en66,en63,en65,bs40_c1,hge,hz2,undef]
        exact ⟨k - 1,by omega,i + 1,by omega,v3,by simp (maxSteps := 2000000) only [forget,List.set_cons_succ,List.set_cons_zero],(by rw [hp2]; exact hrN),fun m' e => (by have := f3 m' e; omega),(by rw [hp2]; exact hqr)⟩
    · by_cases cg : nv b ≤ R * 2 ^ 1
      · have hbt : nv a / 2 ^ p % 2 = 0 := by omega
        rw [hbt,Nat.add_zero] at d1 d2
        rw [show decide (nv a / 2 ^ p % 2 = 1) = false from decide_eq_false cb] at e2
        have na3 := na1
        obtain ⟨v3,hv3⟩ : ∃ v3,v3 = v1 := ⟨_,rfl⟩
        obtain ⟨h3,hh3⟩ : ∃ h3,h3 = h1' := ⟨_,rfl⟩
        rw [← hv3] at na3 e1
        have k3 : Keep No h1' h3 := by rw [hh3]; exact Keep.refl _ _
        rw [← hh3] at na3 e1 e2
        have e3 : True := trivial
        have f3 : ∀ m',nm v3 = some m' → h'.next ≤ m' := fun m' e => (by rw [hv3] at e; exact n1.2.2 m' e)
        have hbN : Na h3 (.slice vb Lb vcb) b := by rw [← hLb] at hbk ⊢; exact ⟨(hbk.keep k1 fun _ _ x => x).keep k3 fun _ _ x => x,wb,by omega⟩
        obtain ⟨h4,e4,k4⟩ := cmp3_run na3 hbN
        have hnv3 : nv (lm (R * 2 ^ 1)) = R * 2 ^ 1 := nv_lm _
        rw [hnv3] at e4
        have k14 := (k1.trans k3).trans k4
        have hg4 := k14.get hg (fun x => x)
        have kpp := kp.also k14 fun _ _ x => x.elim
        have hlt4 := Heap.get_lt hg4
        have hn1 := k1.1
        have hn0 := kp.1
        have hlt := Heap.get_lt hg
        obtain ⟨d3,d4⟩ := d1 cg
        have hge : (0 : Int) ≤ cmpN (R * 2 ^ 1) (nv b) := (cmpN_ge _ _).2 cg
        generalize cmpN (R * 2 ^ 1) (nv b) = cm at *
        obtain ⟨v5,h5,e5,n5,b5⟩ := minus_run (na3.keep k4) (hbN.keep k4) (by rw [hnv3]; exact cg)
        rw [hnv3,← d3] at n5 b5
        have k5 := n5.2.1
        have hg5 := k5.get hg4 (fun x => x)
        have hlt5 := Heap.get_lt hg5
        obtain ⟨z,hz⟩ : ∃ z,p / 32 = z := ⟨_,rfl⟩
        obtain ⟨s,hs⟩ : ∃ s,p % 32 = s := ⟨_,rfl⟩
        have hzl : z < l.length := by omega
        obtain ⟨c1,c2⟩ := set_bit wl hlv (by rw [hz]; exact hzl)
        rw [hz,hs] at c1 c2
        have hxz := u3_get hzl
        have hst := u3_set hzl
        have cz : z + 1 ≤ (u3 l).length := by rw [u3_len]; omega
        generalize hx : l.getD z 0 = x at *
        obtain ⟨ps,hps⟩ : ∃ y,2 ^ s = y := ⟨_,rfl⟩
        rw [hps] at c1 c2
        obtain ⟨y,hy⟩ : ∃ y,x + ps = y := ⟨_,rfl⟩
        rw [hy] at c1 c2
        have hsty := hst y
        have w1 : IntKind.i64.wrap ((p : Int).tdiv 32) = (z : Int) := by
          have : (p : Int).tdiv 32 = ((p / 32 : Nat) : Int) := rfl
          rw [this]; exact wi64 hz (by omega)
        have w1' : IntKind.i64.wrap ((p : Int) / 32) = (z : Int) := by
          have : (p : Int) / 32 = ((p / 32 : Nat) : Int) := by omega
          rw [this]; exact wi64 hz (by omega)
        have w2 : (p : Int).tmod 32 = (s : Int) := by rw [← hs]; rfl
        have w2' : (p : Int) % 32 = (s : Int) := by omega
        have w3 := wu64 (a := s) rfl (by omega)
        have w4 : IntKind.u32.wrap (2 ^ min s 32) = (ps : Int) := by have := @shl32 1 s ps (by omega) (by omega) (by omega); simpa using this
        have w5 := au32 hy (by omega)
        have hzK : z < K := by omega
        obtain ⟨q,hq⟩ : ∃ q,q = h5.put m (some (.cells (u3 (l.set z y)) 101 1 false false)) := ⟨_,rfl⟩
        have kq : Keep (fun m' => m' = m) h5 q := by rw [hq]; exact Keep.put (S := fun m' => m' = m) hlt5 rfl _
        have gq : q.get m = some (.cells (u3 (l.set z y)) 101 1 false false) := by rw [hq,Heap.get_put hlt5,if_pos rfl]
        have hqr : QR h0 q m K (nv a) (nv b) p := ⟨l.set z y,fun u hu => by
          rcases List.mem_or_eq_of_mem_set hu with h | h
          · exact wl u h
          · omega,by rw [List.length_set]; exact hlK,by rw [c2,d4],gq,(kpp.also k5 fun _ _ x => x.elim).trans kq⟩
        have hrN : Na q v5 (lm (nv a / 2 ^ p % nv b)) := ⟨n5.1.sl.keep kq fun m' e x => (by have := n5.2.2 m' e; have := k14.1; omega),lm_w _,Nat.le_trans (lm_nv_len wb (Nat.le_of_lt (Nat.mod_lt _ hb0))) (by omega)⟩
        simp (maxSteps := 2000000) -implicitDefEqProofs [ble_d,beq_d,List.range_succ,List.replicate,cond_true,cond_false,e1,e2,e3,e4,en61,en88,en66,en63,en65,bs40_c1,hge,e5,hg5,hxz,hzK,cz,hsty,astore,oku3,← hq,aindexAddr,sz101,Try.underlying40,w1,w1',w2,w2',w3,w4,w5,cv3_117,shl101,hz2,undef]
        exact ⟨k - 1,by omega,i + 1,by omega,v5,by simp (maxSteps := 2000000) only [forget,List.set_cons_succ,List.set_cons_zero],(by rw [hp2]; exact hrN),fun m' e => (by have := n5.2.2 m' e; have := k14.1; omega),(by rw [hp2]; exact hqr)⟩
      · have hbt : nv a / 2 ^ p % 2 = 0 := by omega
        rw [hbt,Nat.add_zero] at d1 d2
        rw [show decide (nv a / 2 ^ p % 2 = 1) = false from decide_eq_false cb] at e2
        have na3 := na1
        obtain ⟨v3,hv3⟩ : ∃ v3,v3 = v1 := ⟨_,rfl⟩
        obtain ⟨h3,hh3⟩ : ∃ h3,h3 = h1' := ⟨_,rfl⟩
        rw [← hv3] at na3 e1
        have k3 : Keep No h1' h3 := by rw [hh3]; exact Keep.refl _ _
        rw [← hh3] at na3 e1 e2
        have e3 : True := trivial
        have f3 : ∀ m',nm v3 = some m' → h'.next ≤ m' := fun m' e => (by rw [hv3] at e; exact n1.2.2 m' e)
        have hbN : Na h3 (.slice vb Lb vcb) b := by rw [← hLb] at hbk ⊢; exact ⟨(hbk.keep k1 fun _ _ x => x).keep k3 fun _ _ x => x,wb,by omega⟩
        obtain ⟨h4,e4,k4⟩ := cmp3_run na3 hbN
        have hnv3 : nv (lm (R * 2 ^ 1)) = R * 2 ^ 1 := nv_lm _
        rw [hnv3] at e4
        have k14 := (k1.trans k3).trans k4
        have hg4 := k14.get hg (fun x => x)
        have kpp := kp.also k14 fun _ _ x => x.elim
        have hlt4 := Heap.get_lt hg4
        have hn1 := k1.1
        have hn0 := kp.1
        have hlt := Heap.get_lt hg
        obtain ⟨d3,d4⟩ := d2 (by omega)
        have hge : ¬ (0 : Int) ≤ cmpN (R * 2 ^ 1) (nv b) := fun x => cg ((cmpN_ge _ _).1 x)
        generalize cmpN (R * 2 ^ 1) (nv b) = cm at *
        have hqr : QR h0 h4 m K (nv a) (nv b) p := ⟨l,wl,hlK,by rw [hlv,d4,Nat.pow_succ,Nat.mul_comm 2,Nat.mul_assoc,Nat.mul_comm 2],hg4,kpp⟩
        have hrN : Na h4 v3 (lm (nv a / 2 ^ p % nv b)) := by rw [d3]; exact na3.keep k4
        simp (maxSteps := 2000000) -implicitDefEqProofs [ble_d,beq_d,List.range_succ,List.replicate,cond_true,cond_false,e1,e2,e3,e4,en61,en88,en66,en63,en65,bs40_c1,hge,hz2,undef]
        exact ⟨k - 1,by omega,i + 1,by omega,v3,by simp (maxSteps := 2000000) only [forget,List.set_cons_succ,List.set_cons_zero],(by rw [hp2]; exact hrN),fun m' e => (by have := f3 m' e; omega),(by rw [hp2]; exact hqr)⟩
  · obtain rfl : i = n := by omega
    have hz : lz i i = -1 := by unfold lz; omega
    rw [hz]
    simp (maxSteps := 2000000) -implicitDefEqProofs [ble_d,beq_d,List.range_succ,List.replicate,cond_true,cond_false,undef]
    exact hI

theorem lt_bl (n : Nat) : n < 2 ^ bl n := by
  unfold bl
  split
  · rename_i h; rw [h]; decide
  · exact Nat.lt_log2_self
theorem bl_le {n k : Nat} (h : n < 2 ^ k) : bl n ≤ k := by
  unfold bl
  split
  · omega
  · rename_i h0; have := (Nat.log2_lt h0).2 h; omega
theorem bl_len {a : List Nat} (ha : W32 a) : bl (nv a) ≤ 32 * a.length := by
  refine bl_le ?_
  have := nv_lt ha
  rwa [show (4294967296 : Nat) = 2 ^ 32 from rfl,← Nat.pow_mul] at this
set_option maxRecDepth 20000 in
theorem divide_run {h : Heap} {v w : Value} {a b : List Nat} (ha : Na h v a) (hb : Na h w b) (ka : a.length ≤ 800) (kb : b.length ≤ 800) (hb0 : 0 < nv b) :
    ∃ v' r' h',run Try.prog sO 67 [v,w] h = some (.tuple #[v',r'],h') ∧ Na h' v' (lm (nv a / nv b)) ∧ Na h' r' (lm (nv a % nv b)) ∧ Keep No h h' := by
  obtain ⟨h1,e1,k1⟩ := bits_run ha
  obtain ⟨n,hn⟩ : ∃ n,bl (nv a) = n := ⟨_,rfl⟩
  have hnl := bl_len ha.2.1
  have hlt := lt_bl (nv a)
  rw [hn] at e1 hnl hlt
  have hda : nv a / 2 ^ n = 0 := Nat.div_eq_of_lt hlt
  have hav := ha.1
  have hbv := hb.1
  have wa := ha.2.1
  have wb := hb.2.1
  have hla := fun m e => hav.lt (m := m) e
  have hlb := fun m e => hbv.lt (m := m) e
  obtain ⟨va,vca,rfl⟩ := sl_form hav
  obtain ⟨vb,vcb,rfl⟩ := sl_form hbv
  obtain ⟨K,hK⟩ : ∃ K,n / 32 + 1 = K := ⟨_,rfl⟩
  obtain ⟨K0,hK0⟩ : ∃ K,n / 32 = K := ⟨_,rfl⟩
  suffices hx : ∃ y,fin Try.prog Try.f67 (aexecP Try.prog (sO 67) (run Try.prog sO) loopω pt67 (Try.f67.body.getD .skip) ([.slice va a.length vca,.slice vb b.length vcb] ++ List.replicate (Try.f67.ntmps - 2) undef) h) = some y ∧ ∃ v' r',y.1 = .tuple #[v',r'] ∧ Na y.2 v' (lm (nv a / nv b)) ∧ Na y.2 r' (lm (nv a % nv b)) ∧ Keep No h y.2 by
    obtain ⟨⟨y1,y2⟩,hy,v',r',rfl,q⟩ := hx
    exact ⟨v',r',y2,run_finP pt67 Try.func67 rfl planned67 hy,q⟩
  have d1 : IntKind.i64.wrap ((n : Int).tdiv 32) = (K0 : Int) := by
    have : (n : Int).tdiv 32 = ((n / 32 : Nat) : Int) := rfl
    rw [this]; exact wi64 hK0 (by omega)
  have d1' : IntKind.i64.wrap ((n : Int) / 32) = (K0 : Int) := by
    have : (n : Int) / 32 = ((n / 32 : Nat) : Int) := by omega
    rw [this]; exact wi64 hK0 (by omega)
  have d2 : IntKind.i64.wrap ((K0 : Int) + 1) = (K : Int) := by rw [IntWalk.i64_in _ (by omega)]; omega
  have d3 : IntKind.i64.wrap ((n : Int) - 1) = lz n 0 := by rw [IntWalk.i64_in _ (by omega)]; unfold lz; omega
  have hms := fun ρ x y hx hy => ms40 ρ x y K hx hy (by omega)
  have k0 := Keep.new No h1 (.cells (u3 (List.replicate K 0)) 101 1 false false)
  have g0 : (h1.new (.cells (u3 (List.replicate K 0)) 101 1 false false)).get h1.next = some (.cells (u3 (List.replicate K 0)) 101 1 false false) := by rw [Heap.get_new,if_pos rfl]
  obtain ⟨hA,hhA⟩ : ∃ x,x = h1.new (.cells (u3 (List.replicate K 0)) 101 1 false false) := ⟨_,rfl⟩
  rw [← hhA] at k0 g0
  have kA := k1.trans k0
  simp (maxSteps := 2000000) -implicitDefEqProofs [Try.f67,ble_d,beq_d,List.range_succ,List.replicate,cond_true,cond_false,Try.underlying40,en86,e1,d1,d1',d2,d3,hms,← hhA,sO67]
  generalize hl : loopω _ _ _ _ = r
  have hs0 : sb n 0 = n := rfl
  have hk1' := k1.1
  obtain ⟨hB,v8,x18,x19,hx,nr,fr,l,wl,hlK,hlv,hg,kp⟩ := useX3 hl (div1 (h0 := hA) (va := va) (vb := vb) (vca := vca) (vcb := vcb) (La := a.length) (Lb := b.length) (n := n) (m := h1.next) (K := K) (a := a) (b := b) rfl rfl wa wb ka kb hb0 (by omega) hK.symm (hav.keep kA fun _ _ x => x) (hbv.keep kA fun _ _ x => x) (fun e => by have := hla _ e; omega) (fun e => by have := hlb _ e; omega) _ _ (by kernel_rfl) _ (by kernel_rfl)
    ⟨by rw [hs0,hda,Nat.zero_mod,lm_zero]; exact ⟨(Lg.nil hA 101 1).sl,W32.nil,by simp⟩,fun m' e => (by cases e),List.replicate K 0,fun x hx => (by rw [(List.mem_replicate.1 hx).2]; omega),List.length_replicate,by rw [nv_zeros,hs0,hda,Nat.zero_div,Nat.zero_mul],g0,Keep.refl _ _⟩)
  subst hx
  clear hl
  have hsn : sb n n = 0 := Nat.sub_self n
  rw [hsn,Nat.pow_zero,Nat.div_one] at nr hlv
  rw [Nat.mul_one] at hlv
  have hna : Na hB (.slice (some ⟨h1.next,0,none⟩) K K) l := by
    refine ⟨?_,wl,by omega⟩
    rw [hlK]
    exact ⟨by rw [u3_len,hlK]; omega,.inr ⟨_,_,rfl,fun _ => ⟨_,_,_,_,_,hg,by simp [u3_len,hlK]; exact List.take_of_length_le (by rw [u3_len,hlK]; exact Nat.le_refl _)⟩⟩⟩
  have hna' := hna
  rw [← hlK] at hna'
  obtain ⟨v9,h9,e9,n9,k9⟩ := trim_run hna
  rw [hlv] at n9 k9
  simp (maxSteps := 2000000) -implicitDefEqProofs [ble_d,beq_d,List.range_succ,List.replicate,cond_true,cond_false,Try.underlying40,en85,e9]
  exact ⟨_,_,⟨rfl,rfl⟩,_,_,rfl,n9.na (by omega),nr.keep n9.2.1,(kA.also kp fun m' hm x => by omega).trans n9.2.1⟩
end Go.Proofs.Ytmnkmdfladbgdaa.Od

set_option linter.unusedVariables false
set_option linter.unusedSimpArgs false
namespace Go.Proofs.Ytmnkmdfladbgdaa.Od
open Go Go.Proofs Go.RowKit Go.Proofs.YtmnkmdfladbgdaaAI Go.Proofs.YtmnkmdfladbgdaaFl Go.Proofs.YtmnkmdfladbgdaaRnd

noncomputable def lb89 (i : Nat) : Code := (loopsOf (Try.f89.body.getD .skip)).getD i .skip
noncomputable def lb60 (i : Nat) : Code := (loopsOf (Try.f60.body.getD .skip)).getD i .skip
theorem dv_succ (x i : Nat) : dv x (i + 1) = dv x i / 2 := by unfold dv; rw [Nat.pow_succ,Nat.div_div_eq_div_mul]
theorem dv_le (x i : Nat) : dv x i ≤ x := Nat.div_le_self _ _
theorem dv_zero (x : Nat) : dv x 0 = x := by unfold dv; simp
theorem dv_pos {x i : Nat} (h : i < bl x) : 0 < dv x i := by
  unfold bl at h
  split at h
  · omega
  · rename_i h0
    have h3 : 2 ^ x.log2 ≤ x := Nat.log2_self_le h0
    have h4 : 2 ^ i ≤ 2 ^ x.log2 := Nat.pow_le_pow_right (by omega) (by omega)
    exact Nat.div_pos (by omega) (Nat.two_pow_pos i)
theorem q2u {q r : Nat} (h : q / 2 = r) (hq : q < 18446744073709551616) : IntKind.u64.wrap ((q : Int).tdiv 2) = (r : Int) ∧ IntKind.u64.wrap ((q : Int) / 2) = (r : Int) := by
  constructor
  · have : (q : Int).tdiv 2 = ((q / 2 : Nat) : Int) := rfl
    rw [this]; exact wu64 h (by omega)
  · have : (q : Int) / 2 = ((q / 2 : Nat) : Int) := by omega
    rw [this]; exact wu64 h (by omega)
set_option maxRecDepth 20000 in
set_option maxHeartbeats 6400000 in
theorem len1 {h0 : Heap} {x : Nat} (hx : x < 18446744073709551616) (F : Step) (hFF : F = aexecP Try.prog (sO 89) (run Try.prog sO) loopω pt89 (lb89 0)) (t : Tm)
    (ht : forget [1,2,4,5,6,7,8,9,10] t = [.int .u64 (dv x (0) : Nat),Z,Z,.int .i64 (0 : Nat),Z,Z,Z,Z,Z,Z,Z]) (hI0 : h0 = h0) :
    ∃ h' x4 x5,loopω [1,2,4,5,6,7,8,9,10] F t h0 = some (.exit 0,[.int .u64 (dv x (bl x) : Nat),Z,Z,.int .i64 (bl x : Nat),x4,x5,Z,Z,Z,Z,Z],h') ∧ h' = h0 := by
  subst hFF
  suffices hs : ∃ e t' h',loopω [1,2,4,5,6,7,8,9,10] (aexecP Try.prog (sO 89) (run Try.prog sO) loopω pt89 (lb89 0)) t h0 = some (e,t',h') ∧ (e = .exit 0 ∧ ∃ x4 x5,t' = [.int .u64 (dv x (bl x) : Nat),Z,Z,.int .i64 (bl x : Nat),x4,x5,Z,Z,Z,Z,Z] ∧ h' = h0) by
    obtain ⟨e,t',h',q1,rfl,x4,x5,rfl,q2⟩ := hs
    exact ⟨h',x4,x5,q1,q2⟩
  simp only [lb89,Try.f89,loopsOf,Option.getD_some,List.nil_append,List.append_nil,List.cons_append,List.getD_cons_zero,List.getD_cons_succ]
  refine loop_by (fun k t h' => ∃ (i : Nat),i + k = bl x ∧ forget [1,2,4,5,6,7,8,9,10] t = [.int .u64 (dv x (i) : Nat),Z,Z,.int .i64 (i : Nat),Z,Z,Z,Z,Z,Z,Z] ∧ h' = h0)
    (fun e t' h' => e = .exit 0 ∧ ∃ x4 x5,t' = [.int .u64 (dv x (bl x) : Nat),Z,Z,.int .i64 (bl x : Nat),x4,x5,Z,Z,Z,Z,Z] ∧ h' = h0) ?_ (bl x) _ _ ⟨0,by omega,ht,hI0⟩
  rintro k t h' ⟨i,hi,ht,hI⟩
  rw [ht]
  rcases Nat.lt_or_ge i (bl x) with h1 | h1
  · have hq0 := dv_pos h1
    have hle := dv_le x i
    have hsc := dv_succ x i
    obtain ⟨q,hq⟩ : ∃ q,dv x i = q := ⟨_,rfl⟩
    obtain ⟨r,hr⟩ : ∃ r,dv x (i + 1) = r := ⟨_,rfl⟩
    rw [hq] at hq0 hle hsc
    obtain ⟨w1,w2⟩ := q2u (q := q) (r := r) (by rw [← hr]; exact hsc.symm) (by omega)
    have hbl : bl x ≤ 64 := bl_le (by omega)
    have hinc := @inc64 i (by omega)
    have hcs := cast_succ i
    subst hI
    rw [hq]
    simp (maxSteps := 2000000) -implicitDefEqProofs [ble_d,beq_d,List.range_succ,List.replicate,cond_true,cond_false,hq0,w1,w2,hinc,undef]
    exact ⟨k - 1,by omega,i + 1,by omega,by simp (maxSteps := 2000000) only [forget,List.set_cons_succ,List.set_cons_zero,hr,hcs]⟩
  · obtain rfl : i = bl x := by omega
    have hq : dv x (bl x) = 0 := Nat.div_eq_of_lt (lt_bl x)
    rw [hq]
    simp (maxSteps := 2000000) -implicitDefEqProofs [ble_d,beq_d,List.range_succ,List.replicate,cond_true,cond_false,undef]
    exact hI

theorem length_run {h : Heap} {x : Nat} (hx : x < 18446744073709551616) : run Try.prog sO 89 [U x] h = some (.int .i64 (bl x : Nat),h) := by
  suffices hs : ∃ y,fin Try.prog Try.f89 (aexecP Try.prog (sO 89) (run Try.prog sO) loopω pt89 (Try.f89.body.getD .skip) ([U x] ++ List.replicate (Try.f89.ntmps - 1) undef) h) = some y ∧ y.1 = .int .i64 (bl x : Nat) ∧ y.2 = h by
    obtain ⟨⟨y1,y2⟩,hy,rfl,rfl⟩ := hs
    exact run_finP pt89 Try.func89 rfl planned89 hy
  simp (maxSteps := 2000000) -implicitDefEqProofs [Try.f89,ble_d,beq_d,List.range_succ,List.replicate,cond_true,cond_false,sO89]
  generalize hl : loopω _ _ _ _ = r
  have hd0 := dv_zero x
  obtain ⟨h3,x4,x5,hx,hh⟩ := useX2 hl (len1 (h0 := h) (x := x) hx _ (by kernel_rfl) _ (by rw [hd0]; kernel_rfl) rfl)
  subst hx
  subst hh
  simp (maxSteps := 2000000) -implicitDefEqProofs [ble_d,beq_d,List.range_succ,List.replicate,cond_true,cond_false]
/-- How many twos. -/
def tz (m : Nat) : Nat := if h : m = 0 then 0 else if m % 2 = 0 then tz (m / 2) + 1 else 0
termination_by m
decreasing_by omega
theorem tz_spec (m : Nat) (h : 0 < m) : (∀ i,i < tz m → dv m i % 2 = 0) ∧ dv m (tz m) % 2 = 1 ∧ m = dv m (tz m) * 2 ^ tz m := by
  induction m using Nat.strongRecOn with
  | _ m ih =>
    by_cases h2 : m % 2 = 0
    · have hz : tz m = tz (m / 2) + 1 := by rw [tz,dif_neg (by omega),if_pos h2]
      obtain ⟨i1,i2,i3⟩ := ih (m / 2) (by omega) (by omega)
      have hs : ∀ i,dv m (i + 1) = dv (m / 2) i := fun i => by unfold dv; rw [Nat.pow_succ',Nat.div_div_eq_div_mul]
      rw [hz]
      refine ⟨fun i hi => ?_,by rw [hs]; exact i2,?_⟩
      · cases i with
        | zero => rw [dv_zero]; exact h2
        | succ i => rw [hs]; exact i1 i (by omega)
      · rw [hs,Nat.pow_succ,← Nat.mul_assoc,← i3]; omega
    · have hz : tz m = 0 := by rw [tz,dif_neg (by omega),if_neg h2]
      rw [hz]
      refine ⟨fun i hi => by omega,by rw [dv_zero]; omega,by rw [dv_zero]; simp⟩
theorem tz_le {m : Nat} (h : 0 < m) (hm : m < 2 ^ 53) : tz m ≤ 53 := by
  obtain ⟨_,h2,h3⟩ := tz_spec m h
  rcases Nat.lt_or_ge 53 (tz m) with h4 | h4
  · have h5 : 2 ^ 53 ≤ 2 ^ tz m := Nat.pow_le_pow_right (by omega) (by omega)
    have h6 : 1 * 2 ^ tz m ≤ dv m (tz m) * 2 ^ tz m := Nat.mul_le_mul_right _ (by omega)
    omega
  · exact h4
def ez (e : Int) (i : Nat) : Int := e + i
set_option maxRecDepth 20000 in
set_option maxHeartbeats 6400000 in
theorem parts1 {h0 : Heap} {b m : Nat} {e0 : Int} (hm0 : 0 < m) (hm : m < 9007199254740992) (he : -100000 ≤ e0) (he2 : e0 ≤ 100000) (F : Step) (hFF : F = aexecP Try.prog (sO 60) (run Try.prog sO) loopω pt60 (lb60 0)) (t : Tm)
    (ht : forget [1,2,3,4,5,6,9,10,11,12,13,14,15,16,17,18,19,20,21,22,23,24,25,26,27,28,29,30,31,32,33,34,35,36,37,38] t = [U b,Z,Z,Z,Z,Z,Z,.int .u64 (dv m (0) : Nat),.int .i64 (ez e0 (0)),Z,Z,Z,Z,Z,Z,Z,Z,Z,Z,Z,Z,Z,Z,Z,Z,Z,Z,Z,Z,Z,Z,Z,Z,Z,Z,Z,Z,Z,Z]) (hI0 : h0 = h0) :
    ∃ h' x28 x29 x30,loopω [1,2,3,4,5,6,9,10,11,12,13,14,15,16,17,18,19,20,21,22,23,24,25,26,27,28,29,30,31,32,33,34,35,36,37,38] F t h0 = some (.exit 0,[U b,Z,Z,Z,Z,Z,Z,.int .u64 (dv m (tz m) : Nat),.int .i64 (ez e0 (tz m)),Z,Z,Z,Z,Z,Z,Z,Z,Z,Z,Z,Z,Z,Z,Z,Z,Z,Z,Z,x28,x29,x30,Z,Z,Z,Z,Z,Z,Z,Z],h') ∧ h' = h0 := by
  subst hFF
  suffices hs : ∃ e t' h',loopω [1,2,3,4,5,6,9,10,11,12,13,14,15,16,17,18,19,20,21,22,23,24,25,26,27,28,29,30,31,32,33,34,35,36,37,38] (aexecP Try.prog (sO 60) (run Try.prog sO) loopω pt60 (lb60 0)) t h0 = some (e,t',h') ∧ (e = .exit 0 ∧ ∃ x28 x29 x30,t' = [U b,Z,Z,Z,Z,Z,Z,.int .u64 (dv m (tz m) : Nat),.int .i64 (ez e0 (tz m)),Z,Z,Z,Z,Z,Z,Z,Z,Z,Z,Z,Z,Z,Z,Z,Z,Z,Z,Z,x28,x29,x30,Z,Z,Z,Z,Z,Z,Z,Z] ∧ h' = h0) by
    obtain ⟨e,t',h',q1,rfl,x28,x29,x30,rfl,q2⟩ := hs
    exact ⟨h',x28,x29,x30,q1,q2⟩
  simp only [lb60,Try.f60,loopsOf,Option.getD_some,List.nil_append,List.append_nil,List.cons_append,List.getD_cons_zero,List.getD_cons_succ]
  refine loop_by (fun k t h' => ∃ (i : Nat),i + k = tz m ∧ forget [1,2,3,4,5,6,9,10,11,12,13,14,15,16,17,18,19,20,21,22,23,24,25,26,27,28,29,30,31,32,33,34,35,36,37,38] t = [U b,Z,Z,Z,Z,Z,Z,.int .u64 (dv m (i) : Nat),.int .i64 (ez e0 (i)),Z,Z,Z,Z,Z,Z,Z,Z,Z,Z,Z,Z,Z,Z,Z,Z,Z,Z,Z,Z,Z,Z,Z,Z,Z,Z,Z,Z,Z,Z] ∧ h' = h0)
    (fun e t' h' => e = .exit 0 ∧ ∃ x28 x29 x30,t' = [U b,Z,Z,Z,Z,Z,Z,.int .u64 (dv m (tz m) : Nat),.int .i64 (ez e0 (tz m)),Z,Z,Z,Z,Z,Z,Z,Z,Z,Z,Z,Z,Z,Z,Z,Z,Z,Z,Z,x28,x29,x30,Z,Z,Z,Z,Z,Z,Z,Z] ∧ h' = h0) ?_ (tz m) _ _ ⟨0,by omega,ht,hI0⟩
  rintro k t h' ⟨i,hi,ht,hI⟩
  rw [ht]
  rcases Nat.lt_or_ge i (tz m) with h1 | h1
  · have htz := tz_le hm0 hm
    have hev := (tz_spec m hm0).1 i h1
    have hle := dv_le m i
    have hsc := dv_succ m i
    obtain ⟨q,hq⟩ : ∃ q,dv m i = q := ⟨_,rfl⟩
    obtain ⟨r,hr⟩ : ∃ r,dv m (i + 1) = r := ⟨_,rfl⟩
    rw [hq] at hev hle hsc
    obtain ⟨w1,w2⟩ := q2u (q := q) (r := r) (by rw [← hr]; exact hsc.symm) (by omega)
    have w3 : (q : Int).tmod 2 = 0 := by
      have : (q : Int).tmod 2 = ((q % 2 : Nat) : Int) := rfl
      rw [this,hev]; rfl
    have w3' : (q : Int) % 2 = 0 := by omega
    have w4 : IntKind.i64.wrap (ez e0 i + 1) = ez e0 (i + 1) := by rw [IntWalk.i64_in _ (by unfold ez; omega)]; unfold ez; omega
    generalize hez : ez e0 i = f at *
    subst hI
    rw [hq]
    simp (maxSteps := 2000000) -implicitDefEqProofs [ble_d,beq_d,List.range_succ,List.replicate,cond_true,cond_false,ibeq,w1,w2,w3,w3',w4,undef]
    exact ⟨k - 1,by omega,i + 1,by omega,by simp (maxSteps := 2000000) only [forget,List.set_cons_succ,List.set_cons_zero,hr]⟩
  · obtain rfl : i = tz m := by omega
    have hod := (tz_spec m hm0).2.1
    obtain ⟨q,hq⟩ : ∃ q,dv m (tz m) = q := ⟨_,rfl⟩
    rw [hq] at hod
    have w3 : (q : Int).tmod 2 = 1 := by
      have : (q : Int).tmod 2 = ((q % 2 : Nat) : Int) := rfl
      rw [this,hod]; rfl
    have w3' : (q : Int) % 2 = 1 := by omega
    rw [hq]
    simp (maxSteps := 2000000) -implicitDefEqProofs [ble_d,beq_d,List.range_succ,List.replicate,cond_true,cond_false,ibeq,w3,w3',undef]
    exact hI

def pm0 (s : Nat) : Nat := if s / 4503599627370496 = 0 then s % 4503599627370496 else s % 4503599627370496 + 4503599627370496
def pe0 (s : Nat) : Int := (if s / 4503599627370496 = 0 then 1 else (s / 4503599627370496 : Nat)) - 1075
def pmB (s : Nat) : Nat := if s = 0 then 0 else dv (pm0 s) (tz (pm0 s))
def peB (s : Nat) : Int := if s = 0 then 0 else pe0 s + tz (pm0 s)
theorem pm0_pos {s : Nat} (h : 0 < s) (hs : s < 9218868437227405312) : 0 < pm0 s ∧ pm0 s < 9007199254740992 ∧ -1074 ≤ pe0 s ∧ pe0 s ≤ 971 := by
  unfold pm0 pe0; split <;> omega
/-- What Parts tells. -/
theorem parts_val {s : Nat} (hs : s < 9218868437227405312) : Vr s = pmB s * 2 ^ (peB s + 1074).toNat ∧ (0 < s → -1074 ≤ peB s) ∧ pmB s < 9007199254740992 ∧ -1074 ≤ peB s ∧ peB s ≤ 1100 ∧ (0 < s → 0 < pmB s) := by
  rcases Nat.eq_zero_or_pos s with h0 | h0
  · subst h0
    have h1 : pmB 0 = 0 := rfl
    have h2 : peB 0 = 0 := rfl
    have h3 : Vr 0 = 0 := by unfold Vr; rw [if_pos (by omega)]
    rw [h1,h2,h3]
    exact ⟨by rw [Nat.zero_mul],fun _ => by omega,by omega,by omega,by omega,fun h => by omega⟩
  · obtain ⟨a1,a2,a3,a4⟩ := pm0_pos h0 hs
    obtain ⟨_,t2,t3⟩ := tz_spec _ a1
    have t4 := tz_le a1 a2
    have e1 : pmB s = dv (pm0 s) (tz (pm0 s)) := by unfold pmB; rw [if_neg (by omega)]
    have e2 : peB s = pe0 s + tz (pm0 s) := by unfold peB; rw [if_neg (by omega)]
    have hv : Vr s = pm0 s * 2 ^ (pe0 s + 1074).toNat := by
      unfold Vr pm0 pe0
      rw [show (2 : Nat) ^ 52 = 4503599627370496 from rfl]
      by_cases h : s < 4503599627370496
      · rw [if_pos h,if_pos (by omega),if_pos (by omega)]
        rw [show (((1 : Nat) : Int) - 1075 + 1074).toNat = 0 by decide,Nat.pow_zero,Nat.mul_one,Nat.mod_eq_of_lt h]
      · rw [if_neg h,if_neg (by omega),if_neg (by omega),Nat.add_comm]
        congr 2
        omega
    have hle := dv_le (pm0 s) (tz (pm0 s))
    rw [e1,e2]
    refine ⟨?_,fun _ => by omega,by omega,by omega,by omega,fun _ => by omega⟩
    rw [hv]
    conv => lhs; rw [t3]
    rw [Nat.mul_assoc,← Nat.pow_add]
    congr 2
    omega
theorem parts_run {h : Heap} {b : Nat} (hb : b < 18446744073709551616) (hs : b % 9223372036854775808 < 9218868437227405312) :
    run Try.prog sO 60 [U b] h = some (.tuple #[.bool (decide (9223372036854775808 ≤ b)),U (pmB (b % 9223372036854775808)),.int .i64 (peB (b % 9223372036854775808)),.int .i64 0],h) := by
  suffices hx : ∃ y,fin Try.prog Try.f60 (aexecP Try.prog (sO 60) (run Try.prog sO) loopω pt60 (Try.f60.body.getD .skip) ([U b] ++ List.replicate (Try.f60.ntmps - 1) undef) h) = some y ∧ y.1 = .tuple #[.bool (decide (9223372036854775808 ≤ b)),U (pmB (b % 9223372036854775808)),.int .i64 (peB (b % 9223372036854775808)),.int .i64 0] ∧ y.2 = h by
    obtain ⟨⟨y1,y2⟩,hy,rfl,rfl⟩ := hx
    exact run_finP pt60 Try.func60 rfl planned60 hy
  have e1 := size_run sO b h
  generalize hss : b % 9223372036854775808 = s at *
  have c1 : ¬ 9218868437227405312 ≤ s := by omega
  have c1' : ¬ (9218868437227405312 : Int) ≤ (s : Int) := by omega
  have hbi : ((9223372036854775808 : Int) ≤ (b : Int)) = (9223372036854775808 ≤ b) := by rw [eq_iff_iff]; omega
  rcases Nat.eq_zero_or_pos s with h0 | h0
  · have p1 : pmB s = 0 := by rw [h0]; rfl
    have p2 : peB s = 0 := by rw [h0]; rfl
    rw [p1,p2]
    subst h0
    simp (maxSteps := 2000000) -implicitDefEqProofs [Try.f60,ble_d,beq_d,List.range_succ,List.replicate,cond_true,cond_false,en55,e1,ibeq,hbi]
  · obtain ⟨a1,a2,a3,a4⟩ := pm0_pos h0 hs
    have q1 : pmB s = dv (pm0 s) (tz (pm0 s)) := by unfold pmB; rw [if_neg (by omega)]
    have q2 : peB s = ez (pe0 s) (tz (pm0 s)) := by unfold peB ez; rw [if_neg (by omega)]
    have c2 : ¬ s = 0 := by omega
    obtain ⟨x,hx⟩ : ∃ x,s % 4503599627370496 = x := ⟨_,rfl⟩
    obtain ⟨y,hy⟩ : ∃ x,s / 4503599627370496 = x := ⟨_,rfl⟩
    have w1 : (s : Int).tmod 4503599627370496 = (x : Int) := by rw [← hx]; rfl
    have w1' : (s : Int) % 4503599627370496 = (x : Int) := by omega
    have w2 : (s : Int).fdiv 4503599627370496 = (y : Int) := by rw [← hy]; exact fdivn s 52
    have w2' : (s : Int).fdiv (2 ^ 52) = (y : Int) := by rw [← hy]; exact fdivn s 52
    have w3 := wi64 (a := y) rfl (by omega)
    have hd0 := dv_zero (pm0 s)
    have hz0 : ez (pe0 s) 0 = pe0 s := by unfold ez; omega
    rw [q1,q2]
    by_cases c3 : y = 0
    · have r1 : pm0 s = x := by unfold pm0; rw [hy,hx,if_pos c3]
      have r2 : pe0 s = -1074 := by unfold pe0; rw [hy,if_pos c3]; omega
      have w4 : IntKind.i64.wrap (1 - 1075) = -1074 := rfl
      have w5 : IntKind.i64.wrap (-1074) = -1074 := rfl
      have w6 : IntKind.i64.wrap 0 = 0 := rfl
      subst c3
      simp (maxSteps := 2000000) -implicitDefEqProofs [Try.f60,ble_d,beq_d,List.range_succ,List.replicate,cond_true,cond_false,en55,e1,ibeq,hbi,c1,c1',c2,w1,w1',w2,w2',w3,w4,w5,w6,shr37,cv37_3,sO60]
      generalize hl : loopω _ _ _ _ = r
      obtain ⟨h3,x28,x29,x30,hx',hh⟩ := useX3 hl (parts1 (h0 := h) (b := b) (m := pm0 s) (e0 := pe0 s) a1 a2 (by omega) (by omega) _ (by kernel_rfl) _ (by rw [hd0,hz0,r1,r2]; kernel_rfl) rfl)
      subst hx'
      subst hh
      clear hl
      generalize dv (pm0 s) (tz (pm0 s)) = u at *
      generalize ez (pe0 s) (tz (pm0 s)) = f at *
      simp (maxSteps := 2000000) -implicitDefEqProofs [ble_d,beq_d,List.range_succ,List.replicate,cond_true,cond_false,hbi]
    · have r1 : pm0 s = x + 4503599627370496 := by unfold pm0; rw [hy,hx,if_neg c3]
      have r2 : pe0 s = (y : Int) - 1075 := by unfold pe0; rw [hy,if_neg c3]
      have w4 : IntKind.i64.wrap ((y : Int) - 1075) = pe0 s := by rw [IntWalk.i64_in _ (by omega)]; omega
      have w5 : IntKind.u64.wrap ((x : Int) + 4503599627370496) = ((pm0 s : Nat) : Int) := by
        have := @au64 x 4503599627370496 (pm0 s) r1.symm (by omega)
        exact this
      simp (maxSteps := 2000000) -implicitDefEqProofs [Try.f60,ble_d,beq_d,List.range_succ,List.replicate,cond_true,cond_false,en55,e1,ibeq,hbi,c1,c1',c2,c3,w1,w1',w2,w2',w3,w4,w5,shr37,cv37_3,sO60]
      generalize hl : loopω _ _ _ _ = r
      obtain ⟨h3,x28,x29,x30,hx',hh⟩ := useX3 hl (parts1 (h0 := h) (b := b) (m := pm0 s) (e0 := pe0 s) a1 a2 (by omega) (by omega) _ (by kernel_rfl) _ (by rw [hd0,hz0]; kernel_rfl) rfl)
      subst hx'
      subst hh
      clear hl
      generalize dv (pm0 s) (tz (pm0 s)) = u at *
      generalize ez (pe0 s) (tz (pm0 s)) = f at *
      simp (maxSteps := 2000000) -implicitDefEqProofs [ble_d,beq_d,List.range_succ,List.replicate,cond_true,cond_false,hbi]
end Go.Proofs.Ytmnkmdfladbgdaa.Od

set_option linter.unusedVariables false
set_option linter.unusedSimpArgs false
namespace Go.Proofs.Ytmnkmdfladbgdaa.Od
open Go Go.Proofs Go.RowKit Go.Proofs.YtmnkmdfladbgdaaAI Go.Proofs.YtmnkmdfladbgdaaFl Go.Proofs.YtmnkmdfladbgdaaRnd


theorem log2_lt64 {man : Nat} (h : man < 18446744073709551616) : man.log2 < 64 := by
  rcases Nat.eq_zero_or_pos man with h0 | h0
  · rw [h0]; decide
  · exact (Nat.log2_lt (by omega)).2 (by omega)
/-- Up to the last place. -/
theorem up_val {man d : Nat} (h0 : 0 < man) (hd : d + man.log2 ≤ 52) : man * 2 ^ d < 9007199254740992 ∧ (d + man.log2 = 52 → 4503599627370496 ≤ man * 2 ^ d) ∧ (d + man.log2 < 52 → man * 2 ^ d < 4503599627370496) := by
  have h1 : 2 ^ man.log2 ≤ man := Nat.log2_self_le (by omega)
  have h2 : man < 2 ^ (man.log2 + 1) := Nat.lt_log2_self
  have h3 : man * 2 ^ d < 2 ^ (man.log2 + 1) * 2 ^ d := Nat.mul_lt_mul_of_pos_right h2 (Nat.two_pow_pos d)
  have h4 : 2 ^ man.log2 * 2 ^ d ≤ man * 2 ^ d := Nat.mul_le_mul_right _ h1
  rw [← Nat.pow_add] at h3 h4
  refine ⟨Nat.lt_of_lt_of_le h3 (Nat.pow_le_pow_right (show 0 < 2 by omega) (show man.log2 + 1 + d ≤ 53 by omega)),fun h => ?_,fun h => ?_⟩
  · rw [show man.log2 + d = 52 by omega] at h4; exact h4
  · exact Nat.lt_of_lt_of_le h3 (Nat.pow_le_pow_right (show 0 < 2 by omega) (show man.log2 + 1 + d ≤ 52 by omega))
/-- Down to the last place. -/
theorem down_val {man s : Nat} (h0 : 0 < man) : (man.log2 = s + 52 → 4503599627370496 ≤ man / 2 ^ s ∧ man / 2 ^ s < 9007199254740992) ∧ (man.log2 < s + 52 → man / 2 ^ s < 4503599627370496) := by
  have h1 : 2 ^ man.log2 ≤ man := Nat.log2_self_le (by omega)
  have h2 : man < 2 ^ (man.log2 + 1) := Nat.lt_log2_self
  refine ⟨fun h => ⟨?_,?_⟩,fun h => ?_⟩
  · rw [Nat.le_div_iff_mul_le (Nat.two_pow_pos s),show (4503599627370496 : Nat) = 2 ^ 52 from rfl,← Nat.pow_add,show 52 + s = man.log2 by omega]; exact h1
  · refine Nat.div_lt_of_lt_mul (Nat.lt_of_lt_of_le h2 ?_)
    rw [show (9007199254740992 : Nat) = 2 ^ 53 from rfl,← Nat.pow_add]
    exact Nat.pow_le_pow_right (by omega) (by omega)
  · refine Nat.div_lt_of_lt_mul (Nat.lt_of_lt_of_le h2 ?_)
    rw [show (4503599627370496 : Nat) = 2 ^ 52 from rfl,← Nat.pow_add]
    exact Nat.pow_le_pow_right (by omega) (by omega)
theorem jeA_f {q : Int} {m rr : Nat} (hend : rr = min ((q + 1074).toNat * 4503599627370496 + m) 9218868437227405312) (hq : q = -1074) (hm : m < 4503599627370496) : ¬ m = 9007199254740992 ∧ ¬ (m : Int) = 9007199254740992 ∧ (m : Int) < 4503599627370496 ∧ IntKind.u64.wrap ((m : Int)) = ((rr : Nat) : Int) := by
  have hR : rr = m := by omega
  refine ⟨by omega,by omega,by omega,?_⟩
  exact wu64 hR.symm (by omega)
theorem jeN0_f {q : Int} {m rr : Nat} (hend : rr = min ((q + 1074).toNat * 4503599627370496 + m) 9218868437227405312) (hq : -1074 ≤ q) (h1 : 4503599627370496 ≤ m) (h2 : m < 9007199254740992) (h : ¬ 2046 < q + 1075) :
    ∃ e t u v : Nat,(¬ m = 9007199254740992 ∧ ¬ (m : Int) = 9007199254740992 ∧ ¬ m < 4503599627370496 ∧ ¬ (m : Int) < 4503599627370496) ∧ IntKind.i64.wrap (q + 1075) = (e : Int) ∧ ¬ 2046 < e ∧ ¬ (2046 : Int) < (e : Int) ∧ IntKind.u64.wrap (e : Int) = (e : Int) ∧ IntKind.u64.wrap ((e : Int) * 4503599627370496) = (t : Int) ∧ IntKind.u64.wrap ((t : Int)) = (u : Int) ∧ IntKind.u64.wrap ((u : Int) + (m : Int)) = (v : Int) ∧ IntKind.u64.wrap ((v : Int) - 4503599627370496) = ((rr : Nat) : Int) := by
  obtain ⟨e,he⟩ : ∃ e : Nat,q + 1075 = (e : Int) := ⟨(q + 1075).toNat,by omega⟩
  have hR : rr + 4503599627370496 = e * 4503599627370496 + m := by omega
  have hel : e ≤ 2046 := by omega
  clear hend
  obtain ⟨t,ht⟩ : ∃ t,e * 4503599627370496 = t := ⟨_,rfl⟩
  obtain ⟨u,hu⟩ : ∃ u,t = u := ⟨_,rfl⟩
  obtain ⟨v,hv⟩ : ∃ v,u + m = v := ⟨_,rfl⟩
  refine ⟨e,t,u,v,⟨by omega,by omega,by omega,by omega⟩,by rw [IntWalk.i64_in _ (by omega)]; exact he,by omega,by omega,wu64 rfl (by omega),?_,?_,au64 hv (by omega),?_⟩
  · have : (e : Int) * 4503599627370496 = ((e * 4503599627370496 : Nat) : Int) := by omega
    rw [this]; exact wu64 ht (by omega)
  · exact wu64 hu (by omega)
  · have : (v : Int) - 4503599627370496 = ((rr : Nat) : Int) := by omega
    rw [this]; exact wu64 rfl (by omega)
theorem jeN1_f {q : Int} {m rr : Nat} (hend : rr = min ((q + 1074).toNat * 4503599627370496 + m) 9218868437227405312) (hq : -1074 ≤ q) (h1 : m = 9007199254740992) (h : ¬ 2046 < q + 1076) :
    ∃ e t u v : Nat,(m : Int) = 9007199254740992 ∧ IntKind.i64.wrap (q + 1) = q + 1 ∧ IntKind.i64.wrap (q + 1 + 1075) = (e : Int) ∧ ¬ 2046 < e ∧ ¬ (2046 : Int) < (e : Int) ∧ IntKind.u64.wrap (e : Int) = (e : Int) ∧ IntKind.u64.wrap ((e : Int) * 4503599627370496) = (t : Int) ∧ IntKind.u64.wrap ((t : Int)) = (u : Int) ∧ IntKind.u64.wrap ((u : Int) + 4503599627370496) = (v : Int) ∧ IntKind.u64.wrap ((v : Int) - 4503599627370496) = ((rr : Nat) : Int) := by
  obtain ⟨e,he⟩ : ∃ e : Nat,q + 1076 = (e : Int) := ⟨(q + 1076).toNat,by omega⟩
  have hR : rr + 4503599627370496 = e * 4503599627370496 + 4503599627370496 := by omega
  have hel : e ≤ 2046 := by omega
  clear hend
  obtain ⟨t,ht⟩ : ∃ t,e * 4503599627370496 = t := ⟨_,rfl⟩
  obtain ⟨u,hu⟩ : ∃ u,t = u := ⟨_,rfl⟩
  obtain ⟨v,hv⟩ : ∃ v,u + 4503599627370496 = v := ⟨_,rfl⟩
  refine ⟨e,t,u,v,by omega,IntWalk.i64_in _ (by omega),by rw [IntWalk.i64_in _ (by omega)]; omega,by omega,by omega,wu64 rfl (by omega),?_,?_,@au64 u 4503599627370496 v hv (by omega),?_⟩
  · have : (e : Int) * 4503599627370496 = ((e * 4503599627370496 : Nat) : Int) := by omega
    rw [this]; exact wu64 ht (by omega)
  · exact wu64 hu (by omega)
  · have : (v : Int) - 4503599627370496 = ((rr : Nat) : Int) := by omega
    rw [this]; exact wu64 rfl (by omega)
theorem jeI0 {q : Int} {m rr : Nat} (hend : rr = min ((q + 1074).toNat * 4503599627370496 + m) 9218868437227405312) (h1 : 4503599627370496 ≤ m) (h2 : m < 9007199254740992) (h : 2046 < q + 1075) (hq2 : q ≤ 4000) : rr = 9218868437227405312 ∧ ¬ m = 9007199254740992 ∧ ¬ (m : Int) = 9007199254740992 ∧ ¬ m < 4503599627370496 ∧ ¬ (m : Int) < 4503599627370496 ∧ IntKind.i64.wrap (q + 1075) = q + 1075 :=
  ⟨by omega,by omega,by omega,by omega,by omega,IntWalk.i64_in _ (by omega)⟩
theorem jeI1 {q : Int} {m rr : Nat} (hend : rr = min ((q + 1074).toNat * 4503599627370496 + m) 9218868437227405312) (h1 : m = 9007199254740992) (h : 2046 < q + 1076) (hq2 : q ≤ 4000) : rr = 9218868437227405312 ∧ (m : Int) = 9007199254740992 ∧ IntKind.i64.wrap (q + 1) = q + 1 ∧ IntKind.i64.wrap (q + 1 + 1075) = q + 1076 :=
  ⟨by omega,by omega,IntWalk.i64_in _ (by omega),by rw [IntWalk.i64_in _ (by omega)]; omega⟩
theorem jmid {man s : Nat} (hm : man < 18446744073709551616) (h0 : 0 < s) (h64 : s < 64) :
    ∃ s1 hf m0 rest t od : Nat,s = s1 + 1 ∧ 2 ^ s1 = hf ∧ man / 2 ^ s = m0 ∧ man % 2 ^ s = rest ∧ m0 % 2 = od ∧ m0 < 9223372036854775808 ∧ IntKind.i64.wrap ((s : Int) - 1) = (s1 : Int) ∧ IntKind.u64.wrap (s1 : Int) = (s1 : Int) ∧ IntKind.u64.wrap (s : Int) = (s : Int) ∧ IntKind.u64.wrap (2 ^ min s1 64) = (hf : Int) ∧ (man : Int).fdiv (2 ^ (min s 64)) = (m0 : Int) ∧
      IntKind.u64.wrap ((m0 : Int) * 2 ^ (min s 64)) = (t : Int) ∧ IntKind.u64.wrap ((man : Int) - (t : Int)) = (rest : Int) ∧ (m0 : Int).tmod 2 = (od : Int) ∧ (m0 : Int) % 2 = (od : Int) ∧ half man s = if hf < rest ∨ (rest = hf ∧ od = 1) then m0 + 1 else m0 := by
  obtain ⟨s1,rfl⟩ : ∃ s1,s = s1 + 1 := ⟨s - 1,by omega⟩
  have hp1 : 2 ^ s1 ≤ 2 ^ 62 := Nat.pow_le_pow_right (by omega) (by omega)
  have hdm := Nat.div_add_mod man (2 ^ (s1 + 1))
  have hml := Nat.mod_lt man (Nat.two_pow_pos (s1 + 1))
  have hm2 : man / 2 ^ (s1 + 1) < 9223372036854775808 := by
    refine Nat.div_lt_of_lt_mul ?_
    have := Nat.two_pow_pos s1
    rw [Nat.pow_succ]; omega
  refine ⟨s1,2 ^ s1,man / 2 ^ (s1 + 1),man % 2 ^ (s1 + 1),man / 2 ^ (s1 + 1) * 2 ^ (s1 + 1),man / 2 ^ (s1 + 1) % 2,rfl,rfl,rfl,rfl,rfl,hm2,by rw [IntWalk.i64_in _ (by omega)]; omega,wu64 rfl (by omega),wu64 rfl (by omega),?_,shr64 rfl (by omega),shl64 rfl (by omega) ?_,?_,rfl,by omega,?_⟩
  · have := @shl64 1 s1 (2 ^ s1) (by omega) (by omega) (by omega); simpa using this
  · rw [Nat.mul_comm]; omega
  · have e : 2 ^ (s1 + 1) * (man / 2 ^ (s1 + 1)) = man / 2 ^ (s1 + 1) * 2 ^ (s1 + 1) := Nat.mul_comm _ _
    rw [e] at hdm
    have : (man : Int) - ((man / 2 ^ (s1 + 1) * 2 ^ (s1 + 1) : Nat) : Int) = ((man % 2 ^ (s1 + 1) : Nat) : Int) := by omega
    rw [this]; exact wu64 rfl (by omega)
  · unfold half; rw [Nat.add_sub_cancel]
def ej (e : Int) (i : Nat) : Int := e - i
def mu (m i : Nat) : Nat := m * 2 ^ i
/-- What stands at Join's end. -/
theorem join_end {man : Nat} (h0 : 0 < man) {exp q : Int} (hq : lastP man exp = q) {m : Nat} (hm : kept man exp = m) : rung man exp = min ((q + 1074).toNat * 4503599627370496 + m) 9218868437227405312 := by
  have := join_mid h0 exp
  rw [hq,hm] at this
  rw [this,show (q - (-1074)) = q + 1074 by omega]; rfl
set_option maxRecDepth 20000 in
set_option maxHeartbeats 6400000 in
theorem join1 {h0 : Heap} {v7 : Value} {man d : Nat} {exp q : Int} (hm : 0 < d → man * 2 ^ d < 9007199254740992) (he : -3000 ≤ exp) (he2 : exp ≤ 3000) (hd : d = (exp - q).toNat) (hq0 : -2000 ≤ q) (F : Step) (hFF : F = aexecP Try.prog (sO 68) (run Try.prog sO) loopω pt68 (lb68 0)) (t : Tm)
    (ht : forget [0,3,4,5,6,10,11,12,13,14,15,16,17,18,19,20,21,22,23,24,25,26,27,28,29,30,31,32,33,34,35,36,37,38,39,40,41,42,43,44,45,46,47,48,49,50,51,52,53,54,55,56,57,58,59,60,61,62,63,64,65,66,67,68,69,70,71,72,73,74,75,76,77,78,79,80,81,82,83,84,85,86,87,88,89,90,91,92,93,94,95,96,97,98,99,100,101,102,103] t = [Z,U man,.int .i64 (ej exp (0)),Z,Z,Z,Z,v7,.int .i64 q,.int .u64 (mu man (0) : Nat),Z,Z,Z,Z,Z,Z,Z,Z,Z,Z,Z,Z,Z,Z,Z,Z,Z,Z,Z,Z,Z,Z,Z,Z,Z,Z,Z,Z,Z,Z,Z,Z,Z,Z,Z,Z,Z,Z,Z,Z,Z,Z,Z,Z,Z,Z,Z,Z,Z,Z,Z,Z,Z,Z,Z,Z,Z,Z,Z,Z,Z,Z,Z,Z,Z,Z,Z,Z,Z,Z,Z,Z,Z,Z,Z,Z,Z,Z,Z,Z,Z,Z,Z,Z,Z,Z,Z,Z,Z,Z,Z,Z,Z,Z]) (hI0 : (h0 = h0 ∧ True)) :
    ∃ h' x33 x34 x35,loopω [0,3,4,5,6,10,11,12,13,14,15,16,17,18,19,20,21,22,23,24,25,26,27,28,29,30,31,32,33,34,35,36,37,38,39,40,41,42,43,44,45,46,47,48,49,50,51,52,53,54,55,56,57,58,59,60,61,62,63,64,65,66,67,68,69,70,71,72,73,74,75,76,77,78,79,80,81,82,83,84,85,86,87,88,89,90,91,92,93,94,95,96,97,98,99,100,101,102,103] F t h0 = some (.exit 0,[Z,U man,.int .i64 (ej exp (d)),Z,Z,Z,Z,v7,.int .i64 q,.int .u64 (mu man (d) : Nat),Z,Z,Z,Z,Z,Z,Z,Z,Z,Z,Z,Z,Z,Z,Z,Z,Z,Z,Z,Z,Z,Z,Z,x33,x34,x35,Z,Z,Z,Z,Z,Z,Z,Z,Z,Z,Z,Z,Z,Z,Z,Z,Z,Z,Z,Z,Z,Z,Z,Z,Z,Z,Z,Z,Z,Z,Z,Z,Z,Z,Z,Z,Z,Z,Z,Z,Z,Z,Z,Z,Z,Z,Z,Z,Z,Z,Z,Z,Z,Z,Z,Z,Z,Z,Z,Z,Z,Z,Z,Z,Z,Z,Z,Z],h') ∧ (h' = h0 ∧ True) := by
  subst hFF
  suffices hs : ∃ e t' h',loopω [0,3,4,5,6,10,11,12,13,14,15,16,17,18,19,20,21,22,23,24,25,26,27,28,29,30,31,32,33,34,35,36,37,38,39,40,41,42,43,44,45,46,47,48,49,50,51,52,53,54,55,56,57,58,59,60,61,62,63,64,65,66,67,68,69,70,71,72,73,74,75,76,77,78,79,80,81,82,83,84,85,86,87,88,89,90,91,92,93,94,95,96,97,98,99,100,101,102,103] (aexecP Try.prog (sO 68) (run Try.prog sO) loopω pt68 (lb68 0)) t h0 = some (e,t',h') ∧ (e = .exit 0 ∧ ∃ x33 x34 x35,t' = [Z,U man,.int .i64 (ej exp (d)),Z,Z,Z,Z,v7,.int .i64 q,.int .u64 (mu man (d) : Nat),Z,Z,Z,Z,Z,Z,Z,Z,Z,Z,Z,Z,Z,Z,Z,Z,Z,Z,Z,Z,Z,Z,Z,x33,x34,x35,Z,Z,Z,Z,Z,Z,Z,Z,Z,Z,Z,Z,Z,Z,Z,Z,Z,Z,Z,Z,Z,Z,Z,Z,Z,Z,Z,Z,Z,Z,Z,Z,Z,Z,Z,Z,Z,Z,Z,Z,Z,Z,Z,Z,Z,Z,Z,Z,Z,Z,Z,Z,Z,Z,Z,Z,Z,Z,Z,Z,Z,Z,Z,Z,Z,Z,Z,Z] ∧ (h' = h0 ∧ True)) by
    obtain ⟨e,t',h',q1,rfl,x33,x34,x35,rfl,q2⟩ := hs
    exact ⟨h',x33,x34,x35,q1,q2⟩
  simp only [lb68,Try.f68,loopsOf,Option.getD_some,List.nil_append,List.append_nil,List.cons_append,List.getD_cons_zero,List.getD_cons_succ]
  refine loop_by (fun k t h' => ∃ (i : Nat),i + k = d ∧ forget [0,3,4,5,6,10,11,12,13,14,15,16,17,18,19,20,21,22,23,24,25,26,27,28,29,30,31,32,33,34,35,36,37,38,39,40,41,42,43,44,45,46,47,48,49,50,51,52,53,54,55,56,57,58,59,60,61,62,63,64,65,66,67,68,69,70,71,72,73,74,75,76,77,78,79,80,81,82,83,84,85,86,87,88,89,90,91,92,93,94,95,96,97,98,99,100,101,102,103] t = [Z,U man,.int .i64 (ej exp (i)),Z,Z,Z,Z,v7,.int .i64 q,.int .u64 (mu man (i) : Nat),Z,Z,Z,Z,Z,Z,Z,Z,Z,Z,Z,Z,Z,Z,Z,Z,Z,Z,Z,Z,Z,Z,Z,Z,Z,Z,Z,Z,Z,Z,Z,Z,Z,Z,Z,Z,Z,Z,Z,Z,Z,Z,Z,Z,Z,Z,Z,Z,Z,Z,Z,Z,Z,Z,Z,Z,Z,Z,Z,Z,Z,Z,Z,Z,Z,Z,Z,Z,Z,Z,Z,Z,Z,Z,Z,Z,Z,Z,Z,Z,Z,Z,Z,Z,Z,Z,Z,Z,Z,Z,Z,Z,Z,Z] ∧ (h' = h0 ∧ True))
    (fun e t' h' => e = .exit 0 ∧ ∃ x33 x34 x35,t' = [Z,U man,.int .i64 (ej exp (d)),Z,Z,Z,Z,v7,.int .i64 q,.int .u64 (mu man (d) : Nat),Z,Z,Z,Z,Z,Z,Z,Z,Z,Z,Z,Z,Z,Z,Z,Z,Z,Z,Z,Z,Z,Z,Z,x33,x34,x35,Z,Z,Z,Z,Z,Z,Z,Z,Z,Z,Z,Z,Z,Z,Z,Z,Z,Z,Z,Z,Z,Z,Z,Z,Z,Z,Z,Z,Z,Z,Z,Z,Z,Z,Z,Z,Z,Z,Z,Z,Z,Z,Z,Z,Z,Z,Z,Z,Z,Z,Z,Z,Z,Z,Z,Z,Z,Z,Z,Z,Z,Z,Z,Z,Z,Z,Z,Z] ∧ (h' = h0 ∧ True)) ?_ (d) _ _ ⟨0,by omega,ht,hI0⟩
  rintro k t h' ⟨i,hi,ht,hI⟩
  rw [ht]
  rcases Nat.lt_or_ge i (d) with h1 | h1
  · obtain ⟨rfl,_⟩ := hI
    have hlt : (q : Int) < ej exp i := by unfold ej; omega
    have w1 : IntKind.i64.wrap (ej exp i - 1) = ej exp (i + 1) := by rw [IntWalk.i64_in _ (by unfold ej; omega)]; unfold ej; omega
    have hle : mu man (i + 1) < 9007199254740992 := by
      have := Nat.mul_le_mul_left man (Nat.pow_le_pow_right (show 0 < 2 by omega) (show i + 1 ≤ d from h1))
      have := hm (by omega)
      unfold mu; omega
    have hms : mu man i * 2 = mu man (i + 1) := by unfold mu; rw [Nat.pow_succ,Nat.mul_assoc]
    obtain ⟨x,hx⟩ : ∃ x,mu man i = x := ⟨_,rfl⟩
    obtain ⟨y,hy⟩ : ∃ y,mu man (i + 1) = y := ⟨_,rfl⟩
    rw [hx,hy] at hms
    rw [hy] at hle
    have w2 : IntKind.u64.wrap ((x : Int) * 2) = (y : Int) := by
      have : (x : Int) * 2 = ((x * 2 : Nat) : Int) := by omega
      rw [this]; exact wu64 hms (by omega)
    rw [hx]
    generalize ej exp i = f at *
    simp (maxSteps := 2000000) -implicitDefEqProofs [ble_d,beq_d,List.range_succ,List.replicate,cond_true,cond_false,hlt,w1,w2,undef]
    exact ⟨k - 1,by omega,i + 1,by omega,by simp (maxSteps := 2000000) only [forget,List.set_cons_succ,List.set_cons_zero,hy]⟩
  · obtain rfl : i = d := by omega
    obtain ⟨rfl,_⟩ := hI
    have hlt : ¬ ((q : Int) < ej exp i) := by unfold ej; omega
    simp (maxSteps := 2000000) -implicitDefEqProofs [ble_d,beq_d,List.range_succ,List.replicate,cond_true,cond_false,hlt,undef]
end Go.Proofs.Ytmnkmdfladbgdaa.Od
