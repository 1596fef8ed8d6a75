/- Odds: Divide. -/
import Derived.Test.YtmnkmdfladbgdaaOl8
import Derived.Test.YtmnkmdfladbgdaaOl9
import Derived.Test.YtmnkmdfladbgdaaOl10
set_option linter.unusedVariables false
set_option linter.unusedSimpArgs false
namespace Go.Proofs.Ytmnkmdfladbgdaa.Od
open Go Go.Proofs Go.RowKit Go.Proofs.YtmnkmdfladbgdaaAI Go.Proofs.YtmnkmdfladbgdaaFl

theorem nv_set {l : List Nat} {j : Nat} (hj : j < l.length) (y : Nat) : nv (l.set j y) + 4294967296 ^ j * l.getD j 0 = nv l + 4294967296 ^ j * y := by
  induction l generalizing j with
  | nil => simp at hj
  | cons x l ih =>
    cases j with
    | zero => simp only [List.set_cons_zero, nv, List.getD_cons_zero, Nat.pow_zero]; omega
    | succ j =>
      have := ih (j := j) (by simpa using hj)
      simp only [List.set_cons_succ, nv, List.getD_cons_succ, Nat.pow_succ]
      have e1 : 4294967296 ^ j * 4294967296 * l.getD j 0 = 4294967296 * (4294967296 ^ j * l.getD j 0) := by rw [Nat.mul_comm (4294967296 ^ j), Nat.mul_assoc]
      have e2 : 4294967296 ^ j * 4294967296 * y = 4294967296 * (4294967296 ^ j * y) := by rw [Nat.mul_comm (4294967296 ^ j), Nat.mul_assoc]
      rw [e1, e2]
      omega
/-- One bit of a quotient, set. -/
theorem set_bit {l : List Nat} (hw : W32 l) {p Q : Nat} (h : nv l = Q * 2 ^ (p + 1)) (hj : p / 32 < l.length) :
    l.getD (p / 32) 0 + 2 ^ (p % 32) < 4294967296 ∧ nv (l.set (p / 32) (l.getD (p / 32) 0 + 2 ^ (p % 32))) = (2 * Q + 1) * 2 ^ p := by
  have hs : p % 32 < 32 := Nat.mod_lt _ (by omega)
  have hx := hw.get (p / 32)
  have hd := nv_div hw (p / 32)
  obtain ⟨z, hz⟩ : ∃ z, p / 32 = z := ⟨_, rfl⟩
  obtain ⟨s, hs'⟩ : ∃ s, p % 32 = s := ⟨_, rfl⟩
  rw [hz] at hd hx hj ⊢
  rw [hs'] at hs ⊢
  have hp : p = 32 * z + s := by omega
  have h5 : (4294967296 : Nat) ^ z = 2 ^ (32 * z) := by rw [show (4294967296 : Nat) = 2 ^ 32 from rfl, ← Nat.pow_mul]
  have h6 : nv l / 4294967296 ^ z = Q * 2 ^ (s + 1) := by
    rw [h, h5, hp, show 32 * z + s + 1 = (s + 1) + 32 * z by omega, Nat.pow_add, ← Nat.mul_assoc, Nat.mul_div_cancel _ (Nat.two_pow_pos _)]
  obtain ⟨q, hq⟩ : ∃ q, 4294967296 = 2 ^ (s + 1) * q := ⟨2 ^ (31 - s), by rw [← Nat.pow_add, show s + 1 + (31 - s) = 32 by omega]⟩
  have hm : l.getD z 0 % 2 ^ (s + 1) = 0 := by
    have h7 : (nv l / 4294967296 ^ z) % 2 ^ (s + 1) = 0 := by rw [h6, Nat.mul_mod_left]
    rw [hd] at h7
    have h8 : 4294967296 * (nv l / 4294967296 ^ (z + 1)) = 2 ^ (s + 1) * (q * (nv l / 4294967296 ^ (z + 1))) := by rw [← Nat.mul_assoc, ← hq]
    rw [h8, Nat.add_mul_mod_self_left] at h7
    exact h7
  have hlt : l.getD z 0 + 2 ^ s < 4294967296 := by
    have h9 := Nat.div_add_mod (l.getD z 0) (2 ^ (s + 1))
    rw [hm, Nat.add_zero] at h9
    have h10 : 2 ^ (s + 1) = 2 * 2 ^ s := by rw [Nat.pow_succ, Nat.mul_comm]
    have hpos := Nat.two_pow_pos s
    generalize l.getD z 0 / 2 ^ (s + 1) = t at *
    have h11 : t < q := by
      rcases Nat.lt_or_ge t q with h | h
      · exact h
      · have := Nat.mul_le_mul_left (2 ^ (s + 1)) h; omega
    have h12 := Nat.mul_le_mul_left (2 ^ (s + 1)) (Nat.succ_le_of_lt h11)
    rw [Nat.mul_succ] at h12
    omega
  refine ⟨hlt, ?_⟩
  have h13 := nv_set hj (l.getD z 0 + 2 ^ s)
  rw [Nat.mul_add, h5, ← Nat.pow_add] at h13
  have h14 : nv l = 2 * Q * 2 ^ p := by rw [h, Nat.pow_succ, Nat.mul_comm 2 Q, Nat.mul_assoc, Nat.mul_comm 2 (2 ^ p)]
  rw [Nat.add_mul, Nat.one_mul, ← h14]
  rw [← hp] at h13
  omega
/-- One bit more of a quotient. -/
theorem div_bit {A b R Q p : Nat} (hb : 0 < b) (hR : A / 2 ^ (p + 1) % b = R) (hQ : A / 2 ^ (p + 1) / b = Q) :
    (b ≤ R * 2 ^ 1 + A / 2 ^ p % 2 → A / 2 ^ p % b = R * 2 ^ 1 + A / 2 ^ p % 2 - b ∧ A / 2 ^ p / b = 2 * Q + 1) ∧
    (R * 2 ^ 1 + A / 2 ^ p % 2 < b → A / 2 ^ p % b = R * 2 ^ 1 + A / 2 ^ p % 2 ∧ A / 2 ^ p / b = 2 * Q) := by
  have h1 : A / 2 ^ p = 2 * (A / 2 ^ (p + 1)) + A / 2 ^ p % 2 := by
    have : A / 2 ^ (p + 1) = A / 2 ^ p / 2 := by rw [Nat.pow_succ, Nat.div_div_eq_div_mul]
    omega
  have h2 : A / 2 ^ (p + 1) = b * Q + R := by rw [← hQ, ← hR]; exact (Nat.div_add_mod _ _).symm
  have hRb : R < b := hR ▸ Nat.mod_lt _ hb
  rw [h2] at h1
  have hbit : A / 2 ^ p % 2 < 2 := Nat.mod_lt _ (by omega)
  generalize A / 2 ^ p % 2 = t at *
  generalize A / 2 ^ p = X at *
  have hbq : b * (2 * Q) = 2 * (b * Q) := by rw [Nat.mul_left_comm]
  constructor <;> intro h3
  · have h4 : X = b * (2 * Q + 1) + (R * 2 ^ 1 + t - b) := by rw [Nat.mul_add]; omega
    exact ⟨by rw [h4, Nat.mul_add_mod, Nat.mod_eq_of_lt (by omega)], by rw [h4, Nat.mul_add_div hb, Nat.div_eq_of_lt (by omega), Nat.add_zero]⟩
  · have h4 : X = b * (2 * Q) + (R * 2 ^ 1 + t) := by omega
    exact ⟨by rw [h4, Nat.mul_add_mod, Nat.mod_eq_of_lt (by omega)], by rw [h4, Nat.mul_add_div hb, Nat.div_eq_of_lt (by omega), Nat.add_zero]⟩
theorem bs40_c1 (t : Tm) (d ty pos af gu) : aalloc Try.prog (aeval t) ⟨d, .buildSlice 40 1 #[(0, .const (.int .u32 1))], ty, pos, af, gu⟩ = some (.cells [.int .u32 1] 101 1 false false, fun n => .slice (some ⟨n, 0, none⟩) 1 1) := by kernel_rfl
theorem au32 {a b s : Nat} (h : a + b = s) (hs : s < 4294967296) : IntKind.u32.wrap ((a : Int) + (b : Int)) = (s : Int) := by
  have : IntKind.u32.wrap ((a : Int) + (b : Int)) = ((a : Int) + (b : Int)) % 4294967296 := rfl
  rw [this]; omega
theorem cmpN_ge (a b : Nat) : 0 ≤ cmpN a b ↔ b ≤ a := by unfold cmpN; repeat' split
                                                         all_goals omega
theorem lm_mono {a b : Nat} (h : a ≤ b) : (lm a).length ≤ (lm b).length := by
  rcases Nat.lt_or_ge (lm b).length (lm a).length with h1 | h1
  · have := len_lt h1; omega
  · exact h1
theorem lm_nv_len {b : List Nat} (hb : W32 b) {r : Nat} (h : r ≤ nv b) : (lm r).length ≤ b.length := Nat.le_trans (lm_mono h) (trim_form hb).2
def sb (n i : Nat) : Nat := n - i
/-- The quotient's row, the bits from p on told. -/
def QR (h0 h : Heap) (m K A b p : Nat) : Prop := ∃ l, W32 l ∧ l.length = K ∧ nv l = A / 2 ^ p / b * 2 ^ p ∧ h.get m = some (.cells (u3 l) 101 1 false false) ∧ Keep (fun m' => m' = m) h0 h
set_option maxRecDepth 20000 in
set_option maxHeartbeats 6400000 in
theorem div1 {h0 : Heap} {va vb : Option Addr} {vca vcb La Lb n m K : Nat} {a b : List Nat} (hLa : a.length = La) (hLb : b.length = Lb) (wa : W32 a) (wb : W32 b) (ka : La ≤ 800) (kb : Lb ≤ 800) (hb0 : 0 < nv b) (hn : n ≤ 30000) (hK : K = n / 32 + 1) (hva : Sl h0 (.slice va La vca) 1 La (u3 a)) (hvb : Sl h0 (.slice vb Lb vcb) 1 Lb (u3 b)) (hma : nm (.slice va La vca) ≠ some m) (hmb : nm (.slice vb Lb vcb) ≠ some m) (v0 : Value) (F : Step) (hFF : F = aexecP Try.prog (sO 67) (run Try.prog sO) loopω pt67 (lb67 0)) (t : Tm)
    (ht : forget [2, 3, 4, 5, 6, 10, 11, 12, 13, 14, 15, 16, 17, 18, 19, 20, 21, 22, 23, 24, 25, 26, 27, 28, 29, 30, 31, 32, 33, 34, 35, 36, 37, 38, 39, 40, 41, 42, 43, 44, 45, 46, 47, 48, 49, 50] t = [.slice va La vca, .slice vb Lb vcb, unk, unk, unk, unk, unk, .slice (some ⟨m, 0, none⟩) K K, v0, .int .i64 (lz n (0)), unk, unk, unk, unk, unk, unk, unk, unk, unk, unk, unk, unk, unk, unk, unk, unk, unk, unk, unk, unk, unk, unk, unk, unk, unk, unk, unk, unk, unk, unk, unk, unk, unk, unk, unk, unk, unk, unk, unk, unk, unk]) (hI0 : (Na h0 v0 (lm (nv a / 2 ^ (sb n (0)) % nv b)) ∧ (∀ m', nm v0 = some m' → h0.next ≤ m') ∧ QR h0 h0 m K (nv a) (nv b) (sb n (0)))) :
    ∃ h' v x18 x19, loopω [2, 3, 4, 5, 6, 10, 11, 12, 13, 14, 15, 16, 17, 18, 19, 20, 21, 22, 23, 24, 25, 26, 27, 28, 29, 30, 31, 32, 33, 34, 35, 36, 37, 38, 39, 40, 41, 42, 43, 44, 45, 46, 47, 48, 49, 50] F t h0 = some (.exit 0, [.slice va La vca, .slice vb Lb vcb, unk, unk, unk, unk, unk, .slice (some ⟨m, 0, none⟩) K K, v, .int .i64 (lz n (n)), unk, unk, unk, unk, unk, unk, unk, unk, x18, x19, unk, unk, unk, unk, unk, unk, unk, unk, unk, unk, unk, unk, unk, unk, unk, unk, unk, unk, unk, unk, unk, unk, unk, unk, unk, unk, unk, unk, unk, unk, unk], h') ∧ (Na h' v (lm (nv a / 2 ^ (sb n (n)) % nv b)) ∧ (∀ m', nm v = some m' → h0.next ≤ m') ∧ QR h0 h' m K (nv a) (nv b) (sb n (n))) := by
  subst hFF
  suffices hs : ∃ e t' h', loopω [2, 3, 4, 5, 6, 10, 11, 12, 13, 14, 15, 16, 17, 18, 19, 20, 21, 22, 23, 24, 25, 26, 27, 28, 29, 30, 31, 32, 33, 34, 35, 36, 37, 38, 39, 40, 41, 42, 43, 44, 45, 46, 47, 48, 49, 50] (aexecP Try.prog (sO 67) (run Try.prog sO) loopω pt67 (lb67 0)) t h0 = some (e, t', h') ∧ (e = .exit 0 ∧ ∃ v x18 x19, t' = [.slice va La vca, .slice vb Lb vcb, unk, unk, unk, unk, unk, .slice (some ⟨m, 0, none⟩) K K, v, .int .i64 (lz n (n)), unk, unk, unk, unk, unk, unk, unk, unk, x18, x19, unk, unk, unk, unk, unk, unk, unk, unk, unk, unk, unk, unk, unk, unk, unk, unk, unk, unk, unk, unk, unk, unk, unk, unk, unk, unk, unk, unk, unk, unk, unk] ∧ (Na h' v (lm (nv a / 2 ^ (sb n (n)) % nv b)) ∧ (∀ m', nm v = some m' → h0.next ≤ m') ∧ QR h0 h' m K (nv a) (nv b) (sb n (n)))) by
    obtain ⟨e, t', h', q1, rfl, v, x18, x19, rfl, q2⟩ := hs
    exact ⟨h', v, x18, x19, q1, q2⟩
  simp only [lb67, Try.f67, loopsOf, Option.getD_some, List.nil_append, List.append_nil, List.cons_append, List.getD_cons_zero, List.getD_cons_succ]
  refine loop_by (fun k t h' => ∃ (i : Nat) (v : Value), i + k = n ∧ forget [2, 3, 4, 5, 6, 10, 11, 12, 13, 14, 15, 16, 17, 18, 19, 20, 21, 22, 23, 24, 25, 26, 27, 28, 29, 30, 31, 32, 33, 34, 35, 36, 37, 38, 39, 40, 41, 42, 43, 44, 45, 46, 47, 48, 49, 50] t = [.slice va La vca, .slice vb Lb vcb, unk, unk, unk, unk, unk, .slice (some ⟨m, 0, none⟩) K K, v, .int .i64 (lz n (i)), unk, unk, unk, unk, unk, unk, unk, unk, unk, unk, unk, unk, unk, unk, unk, unk, unk, unk, unk, unk, unk, unk, unk, unk, unk, unk, unk, unk, unk, unk, unk, unk, unk, unk, unk, unk, unk, unk, unk, unk, unk] ∧ (Na h' v (lm (nv a / 2 ^ (sb n (i)) % nv b)) ∧ (∀ m', nm v = some m' → h0.next ≤ m') ∧ QR h0 h' m K (nv a) (nv b) (sb n (i))))
    (fun e t' h' => e = .exit 0 ∧ ∃ v x18 x19, t' = [.slice va La vca, .slice vb Lb vcb, unk, unk, unk, unk, unk, .slice (some ⟨m, 0, none⟩) K K, v, .int .i64 (lz n (n)), unk, unk, unk, unk, unk, unk, unk, unk, x18, x19, unk, unk, unk, unk, unk, unk, unk, unk, unk, unk, unk, unk, unk, unk, unk, unk, unk, unk, unk, unk, unk, unk, unk, unk, unk, unk, unk, unk, unk, unk, unk] ∧ (Na h' v (lm (nv a / 2 ^ (sb n (n)) % nv b)) ∧ (∀ m', nm v = some m' → h0.next ≤ m') ∧ QR h0 h' m K (nv a) (nv b) (sb n (n)))) ?_ (n) _ _ ⟨0, _, by omega, ht, hI0⟩
  rintro k t h' ⟨i, v, hi, ht, hI⟩
  rw [ht]
  rcases Nat.lt_or_ge i (n) with h1 | h1
  · obtain ⟨nr, hfr, l, wl, hlK, hlv, hg, kp⟩ := hI
    obtain ⟨p, hp⟩ : ∃ p : Nat, n - 1 - i = p := ⟨_, rfl⟩
    have hp1 : sb n i = p + 1 := by unfold sb; omega
    have hp2 : sb n (i + 1) = p := by unfold sb; omega
    rw [hp1] at nr hlv
    have hz1 : lz n i = (p : Int) := by unfold lz; omega
    have hz2 : IntKind.i64.wrap ((p : Int) - 1) = lz n (i + 1) := by rw [IntWalk.i64_in _ (by omega)]; unfold lz; omega
    rw [hz1]
    have hak := hva.keep kp fun m' e x => hma (x ▸ e)
    have hbk := hvb.keep kp fun m' e x => hmb (x ▸ e)
    obtain ⟨d1, d2⟩ := div_bit (A := nv a) (p := p) hb0 rfl rfl
    have hRb : nv a / 2 ^ (p + 1) % nv b < nv b := Nat.mod_lt _ hb0
    have hRl := lm_nv_len wb (Nat.le_of_lt hRb)
    generalize hR : nv a / 2 ^ (p + 1) % nv b = R at *
    obtain ⟨v1, h1', e1, n1, b1⟩ := shl_run 1 nr (by omega) (by omega)
    have hnvR : nv (lm R) = R := nv_lm R
    rw [show ((1 : Nat) : Int) = 1 from rfl] at e1
    rw [hnvR] at n1 b1
    have na1 := n1.na (by omega)
    have k1 := n1.2.1
    have haN : Na h1' (.slice va La vca) a := by rw [← hLa] at hak ⊢; exact ⟨hak.keep k1 fun _ _ x => x, wa, by omega⟩
    have e2 := bit_run p haN (by omega)
    have hg1 := k1.get hg (fun x => x)
    by_cases cb : nv a / 2 ^ p % 2 = 1
    · by_cases cg : nv b ≤ R * 2 ^ 1 + 1
      · have hbt : nv a / 2 ^ p % 2 = 1 := cb
        rw [hbt] at d1 d2
        rw [show decide (nv a / 2 ^ p % 2 = 1) = true from decide_eq_true cb] at e2
        have k2 := Keep.new No h1' (.cells [.int .u32 1] 101 1 false false)
        have na2 : Na (h1'.new (.cells [.int .u32 1] 101 1 false false)) (.slice (some ⟨h1'.next, 0, none⟩) 1 1) [1] := ⟨⟨by simp [u3], .inr ⟨_, _, rfl, fun _ => ⟨_, _, _, _, _, by rw [Heap.get_new, if_pos rfl], by simp [u3]⟩⟩⟩, fun x hx => by rw [List.mem_singleton.1 hx]; omega, by simp⟩
        obtain ⟨v3, h3, e3, n3, b3⟩ := plus_run (na1.keep k2) na2 (by omega) (by simp)
        have hnv1 : nv (lm (R * 2 ^ 1)) = R * 2 ^ 1 := nv_lm _
        have hone : nv [1] = 1 := rfl
        rw [hnv1, hone] at n3 b3
        have hb3 : (lm (R * 2 ^ 1 + 1)).length ≤ 900 := Nat.le_trans b3 (by simp only [List.length_cons, List.length_nil]; omega)
        have na3 := n3.na (by omega)
        have k3 : Keep No h1' h3 := k2.trans n3.2.1
        have f3 : ∀ m', nm v3 = some m' → h1'.next ≤ m' := fun m' e => (by have := n3.2.2 m' e; rw [Heap.next_new] at this; omega)
        have hbN : Na h3 (.slice vb Lb vcb) b := by rw [← hLb] at hbk ⊢; exact ⟨(hbk.keep k1 fun _ _ x => x).keep k3 fun _ _ x => x, wb, by omega⟩
        obtain ⟨h4, e4, k4⟩ := cmp3_run na3 hbN
        have hnv3 : nv (lm (R * 2 ^ 1 + 1)) = R * 2 ^ 1 + 1 := nv_lm _
        rw [hnv3] at e4
        have k14 := (k1.trans k3).trans k4
        have hg4 := k14.get hg (fun x => x)
        have kpp := kp.also k14 fun _ _ x => x.elim
        have hlt4 := Heap.get_lt hg4
        have hn1 := k1.1
        have hn0 := kp.1
        have hlt := Heap.get_lt hg
        obtain ⟨d3, d4⟩ := d1 cg
        have hge : (0 : Int) ≤ cmpN (R * 2 ^ 1 + 1) (nv b) := (cmpN_ge _ _).2 cg
        generalize cmpN (R * 2 ^ 1 + 1) (nv b) = cm at *
        obtain ⟨v5, h5, e5, n5, b5⟩ := minus_run (na3.keep k4) (hbN.keep k4) (by rw [hnv3]; exact cg)
        rw [hnv3, ← d3] at n5 b5
        have k5 := n5.2.1
        have hg5 := k5.get hg4 (fun x => x)
        have hlt5 := Heap.get_lt hg5
        obtain ⟨z, hz⟩ : ∃ z, p / 32 = z := ⟨_, rfl⟩
        obtain ⟨s, hs⟩ : ∃ s, p % 32 = s := ⟨_, rfl⟩
        have hzl : z < l.length := by omega
        obtain ⟨c1, c2⟩ := set_bit wl hlv (by rw [hz]; exact hzl)
        rw [hz, hs] at c1 c2
        have hxz := u3_get hzl
        have hst := u3_set hzl
        have cz : z + 1 ≤ (u3 l).length := by rw [u3_len]; omega
        generalize hx : l.getD z 0 = x at *
        obtain ⟨ps, hps⟩ : ∃ y, 2 ^ s = y := ⟨_, rfl⟩
        rw [hps] at c1 c2
        obtain ⟨y, hy⟩ : ∃ y, x + ps = y := ⟨_, rfl⟩
        rw [hy] at c1 c2
        have hsty := hst y
        have w1 : IntKind.i64.wrap ((p : Int).tdiv 32) = (z : Int) := by
          have : (p : Int).tdiv 32 = ((p / 32 : Nat) : Int) := rfl
          rw [this]; exact wi64 hz (by omega)
        have w1' : IntKind.i64.wrap ((p : Int) / 32) = (z : Int) := by
          have : (p : Int) / 32 = ((p / 32 : Nat) : Int) := by omega
          rw [this]; exact wi64 hz (by omega)
        have w2 : (p : Int).tmod 32 = (s : Int) := by rw [← hs]; rfl
        have w2' : (p : Int) % 32 = (s : Int) := by omega
        have w3 := wu64 (a := s) rfl (by omega)
        have w4 : IntKind.u32.wrap (2 ^ min s 32) = (ps : Int) := by have := @shl32 1 s ps (by omega) (by omega) (by omega); simpa using this
        have w5 := au32 hy (by omega)
        have hzK : z < K := by omega
        obtain ⟨q, hq⟩ : ∃ q, q = h5.put m (some (.cells (u3 (l.set z y)) 101 1 false false)) := ⟨_, rfl⟩
        have kq : Keep (fun m' => m' = m) h5 q := by rw [hq]; exact Keep.put (S := fun m' => m' = m) hlt5 rfl _
        have gq : q.get m = some (.cells (u3 (l.set z y)) 101 1 false false) := by rw [hq, Heap.get_put hlt5, if_pos rfl]
        have hqr : QR h0 q m K (nv a) (nv b) p := ⟨l.set z y, fun u hu => by
          rcases List.mem_or_eq_of_mem_set hu with h | h
          · exact wl u h
          · omega, by rw [List.length_set]; exact hlK, by rw [c2, d4], gq, (kpp.also k5 fun _ _ x => x.elim).trans kq⟩
        have hrN : Na q v5 (lm (nv a / 2 ^ p % nv b)) := ⟨n5.1.sl.keep kq fun m' e x => (by have := n5.2.2 m' e; have := k14.1; omega), lm_w _, Nat.le_trans (lm_nv_len wb (Nat.le_of_lt (Nat.mod_lt _ hb0))) (by omega)⟩
        simp (maxSteps := 2000000) -implicitDefEqProofs [px_skip, px_label, px_region, px_draw, qx_seq, qx_cond, px_block, px_loop, px_scope, px_exit, px_ret, seqK_normal, seqK_exit, seqK_ret, condK_true, condK_false, opsK_some, wK_true, wK_false, itK_some, aops_nil, aops_cons, lK_some, aK_some, hK_some, dwK_true, dwK_false, diK_some, dK_light, dK_alloc, dK_heavy, adraw_nil, adraw_cons, aop, cls, light, lightS, binE, aeq, intBin, goInt, pl_int, pl_bool, pl_ptr, pl_slice, aload, isAggT, aeval, tput, awanted, List.range_succ, fin, aresults, aresult, List.replicate, heavy, acallOp, aenter, ble_d, beq_d, firstRegion, readNames, Nxt, isAnc, readsOk, objEq_some, e1, e2, e3, e4, en61, en88, en66, en63, en65, bs40_c1, hge, e5, hg5, hxz, hzK, cz, hsty, astore, oku3, ← hq, aindexAddr, sz101, Try.underlying40, w1, w1', w2, w2', w3, w4, w5, cv3_117, shl101, hz2, undef]
        exact ⟨k - 1, by omega, i + 1, by omega, v5, by simp (maxSteps := 2000000) only [forget, List.set_cons_succ, List.set_cons_zero], (by rw [hp2]; exact hrN), fun m' e => (by have := n5.2.2 m' e; have := k14.1; omega), (by rw [hp2]; exact hqr)⟩
      · have hbt : nv a / 2 ^ p % 2 = 1 := cb
        rw [hbt] at d1 d2
        rw [show decide (nv a / 2 ^ p % 2 = 1) = true from decide_eq_true cb] at e2
        have k2 := Keep.new No h1' (.cells [.int .u32 1] 101 1 false false)
        have na2 : Na (h1'.new (.cells [.int .u32 1] 101 1 false false)) (.slice (some ⟨h1'.next, 0, none⟩) 1 1) [1] := ⟨⟨by simp [u3], .inr ⟨_, _, rfl, fun _ => ⟨_, _, _, _, _, by rw [Heap.get_new, if_pos rfl], by simp [u3]⟩⟩⟩, fun x hx => by rw [List.mem_singleton.1 hx]; omega, by simp⟩
        obtain ⟨v3, h3, e3, n3, b3⟩ := plus_run (na1.keep k2) na2 (by omega) (by simp)
        have hnv1 : nv (lm (R * 2 ^ 1)) = R * 2 ^ 1 := nv_lm _
        have hone : nv [1] = 1 := rfl
        rw [hnv1, hone] at n3 b3
        have hb3 : (lm (R * 2 ^ 1 + 1)).length ≤ 900 := Nat.le_trans b3 (by simp only [List.length_cons, List.length_nil]; omega)
        have na3 := n3.na (by omega)
        have k3 : Keep No h1' h3 := k2.trans n3.2.1
        have f3 : ∀ m', nm v3 = some m' → h1'.next ≤ m' := fun m' e => (by have := n3.2.2 m' e; rw [Heap.next_new] at this; omega)
        have hbN : Na h3 (.slice vb Lb vcb) b := by rw [← hLb] at hbk ⊢; exact ⟨(hbk.keep k1 fun _ _ x => x).keep k3 fun _ _ x => x, wb, by omega⟩
        obtain ⟨h4, e4, k4⟩ := cmp3_run na3 hbN
        have hnv3 : nv (lm (R * 2 ^ 1 + 1)) = R * 2 ^ 1 + 1 := nv_lm _
        rw [hnv3] at e4
        have k14 := (k1.trans k3).trans k4
        have hg4 := k14.get hg (fun x => x)
        have kpp := kp.also k14 fun _ _ x => x.elim
        have hlt4 := Heap.get_lt hg4
        have hn1 := k1.1
        have hn0 := kp.1
        have hlt := Heap.get_lt hg
        obtain ⟨d3, d4⟩ := d2 (by omega)
        have hge : ¬ (0 : Int) ≤ cmpN (R * 2 ^ 1 + 1) (nv b) := fun x => cg ((cmpN_ge _ _).1 x)
        generalize cmpN (R * 2 ^ 1 + 1) (nv b) = cm at *
        have hqr : QR h0 h4 m K (nv a) (nv b) p := ⟨l, wl, hlK, by rw [hlv, d4, Nat.pow_succ, Nat.mul_comm 2, Nat.mul_assoc, Nat.mul_comm 2], hg4, kpp⟩
        have hrN : Na h4 v3 (lm (nv a / 2 ^ p % nv b)) := by rw [d3]; exact na3.keep k4
        simp (maxSteps := 2000000) -implicitDefEqProofs [px_skip, px_label, px_region, px_draw, qx_seq, qx_cond, px_block, px_loop, px_scope, px_exit, px_ret, seqK_normal, seqK_exit, seqK_ret, condK_true, condK_false, opsK_some, wK_true, wK_false, itK_some, aops_nil, aops_cons, lK_some, aK_some, hK_some, dwK_true, dwK_false, diK_some, dK_light, dK_alloc, dK_heavy, adraw_nil, adraw_cons, aop, cls, light, lightS, binE, aeq, intBin, goInt, pl_int, pl_bool, pl_ptr, pl_slice, aload, isAggT, aeval, tput, awanted, List.range_succ, fin, aresults, aresult, List.replicate, heavy, acallOp, aenter, ble_d, beq_d, firstRegion, readNames, Nxt, isAnc, readsOk, objEq_some, e1, e2, e3, e4, en61, en88, en66, en63, en65, bs40_c1, hge, hz2, undef]
        exact ⟨k - 1, by omega, i + 1, by omega, v3, by simp (maxSteps := 2000000) only [forget, List.set_cons_succ, List.set_cons_zero], (by rw [hp2]; exact hrN), fun m' e => (by have := f3 m' e; omega), (by rw [hp2]; exact hqr)⟩
    · by_cases cg : nv b ≤ R * 2 ^ 1
      · have hbt : nv a / 2 ^ p % 2 = 0 := by omega
        rw [hbt, Nat.add_zero] at d1 d2
        rw [show decide (nv a / 2 ^ p % 2 = 1) = false from decide_eq_false cb] at e2
        have na3 := na1
        obtain ⟨v3, hv3⟩ : ∃ v3, v3 = v1 := ⟨_, rfl⟩
        obtain ⟨h3, hh3⟩ : ∃ h3, h3 = h1' := ⟨_, rfl⟩
        rw [← hv3] at na3 e1
        have k3 : Keep No h1' h3 := by rw [hh3]; exact Keep.refl _ _
        rw [← hh3] at na3 e1 e2
        have e3 : True := trivial
        have f3 : ∀ m', nm v3 = some m' → h'.next ≤ m' := fun m' e => (by rw [hv3] at e; exact n1.2.2 m' e)
        have hbN : Na h3 (.slice vb Lb vcb) b := by rw [← hLb] at hbk ⊢; exact ⟨(hbk.keep k1 fun _ _ x => x).keep k3 fun _ _ x => x, wb, by omega⟩
        obtain ⟨h4, e4, k4⟩ := cmp3_run na3 hbN
        have hnv3 : nv (lm (R * 2 ^ 1)) = R * 2 ^ 1 := nv_lm _
        rw [hnv3] at e4
        have k14 := (k1.trans k3).trans k4
        have hg4 := k14.get hg (fun x => x)
        have kpp := kp.also k14 fun _ _ x => x.elim
        have hlt4 := Heap.get_lt hg4
        have hn1 := k1.1
        have hn0 := kp.1
        have hlt := Heap.get_lt hg
        obtain ⟨d3, d4⟩ := d1 cg
        have hge : (0 : Int) ≤ cmpN (R * 2 ^ 1) (nv b) := (cmpN_ge _ _).2 cg
        generalize cmpN (R * 2 ^ 1) (nv b) = cm at *
        obtain ⟨v5, h5, e5, n5, b5⟩ := minus_run (na3.keep k4) (hbN.keep k4) (by rw [hnv3]; exact cg)
        rw [hnv3, ← d3] at n5 b5
        have k5 := n5.2.1
        have hg5 := k5.get hg4 (fun x => x)
        have hlt5 := Heap.get_lt hg5
        obtain ⟨z, hz⟩ : ∃ z, p / 32 = z := ⟨_, rfl⟩
        obtain ⟨s, hs⟩ : ∃ s, p % 32 = s := ⟨_, rfl⟩
        have hzl : z < l.length := by omega
        obtain ⟨c1, c2⟩ := set_bit wl hlv (by rw [hz]; exact hzl)
        rw [hz, hs] at c1 c2
        have hxz := u3_get hzl
        have hst := u3_set hzl
        have cz : z + 1 ≤ (u3 l).length := by rw [u3_len]; omega
        generalize hx : l.getD z 0 = x at *
        obtain ⟨ps, hps⟩ : ∃ y, 2 ^ s = y := ⟨_, rfl⟩
        rw [hps] at c1 c2
        obtain ⟨y, hy⟩ : ∃ y, x + ps = y := ⟨_, rfl⟩
        rw [hy] at c1 c2
        have hsty := hst y
        have w1 : IntKind.i64.wrap ((p : Int).tdiv 32) = (z : Int) := by
          have : (p : Int).tdiv 32 = ((p / 32 : Nat) : Int) := rfl
          rw [this]; exact wi64 hz (by omega)
        have w1' : IntKind.i64.wrap ((p : Int) / 32) = (z : Int) := by
          have : (p : Int) / 32 = ((p / 32 : Nat) : Int) := by omega
          rw [this]; exact wi64 hz (by omega)
        have w2 : (p : Int).tmod 32 = (s : Int) := by rw [← hs]; rfl
        have w2' : (p : Int) % 32 = (s : Int) := by omega
        have w3 := wu64 (a := s) rfl (by omega)
        have w4 : IntKind.u32.wrap (2 ^ min s 32) = (ps : Int) := by have := @shl32 1 s ps (by omega) (by omega) (by omega); simpa using this
        have w5 := au32 hy (by omega)
        have hzK : z < K := by omega
        obtain ⟨q, hq⟩ : ∃ q, q = h5.put m (some (.cells (u3 (l.set z y)) 101 1 false false)) := ⟨_, rfl⟩
        have kq : Keep (fun m' => m' = m) h5 q := by rw [hq]; exact Keep.put (S := fun m' => m' = m) hlt5 rfl _
        have gq : q.get m = some (.cells (u3 (l.set z y)) 101 1 false false) := by rw [hq, Heap.get_put hlt5, if_pos rfl]
        have hqr : QR h0 q m K (nv a) (nv b) p := ⟨l.set z y, fun u hu => by
          rcases List.mem_or_eq_of_mem_set hu with h | h
          · exact wl u h
          · omega, by rw [List.length_set]; exact hlK, by rw [c2, d4], gq, (kpp.also k5 fun _ _ x => x.elim).trans kq⟩
        have hrN : Na q v5 (lm (nv a / 2 ^ p % nv b)) := ⟨n5.1.sl.keep kq fun m' e x => (by have := n5.2.2 m' e; have := k14.1; omega), lm_w _, Nat.le_trans (lm_nv_len wb (Nat.le_of_lt (Nat.mod_lt _ hb0))) (by omega)⟩
        simp (maxSteps := 2000000) -implicitDefEqProofs [px_skip, px_label, px_region, px_draw, qx_seq, qx_cond, px_block, px_loop, px_scope, px_exit, px_ret, seqK_normal, seqK_exit, seqK_ret, condK_true, condK_false, opsK_some, wK_true, wK_false, itK_some, aops_nil, aops_cons, lK_some, aK_some, hK_some, dwK_true, dwK_false, diK_some, dK_light, dK_alloc, dK_heavy, adraw_nil, adraw_cons, aop, cls, light, lightS, binE, aeq, intBin, goInt, pl_int, pl_bool, pl_ptr, pl_slice, aload, isAggT, aeval, tput, awanted, List.range_succ, fin, aresults, aresult, List.replicate, heavy, acallOp, aenter, ble_d, beq_d, firstRegion, readNames, Nxt, isAnc, readsOk, objEq_some, e1, e2, e3, e4, en61, en88, en66, en63, en65, bs40_c1, hge, e5, hg5, hxz, hzK, cz, hsty, astore, oku3, ← hq, aindexAddr, sz101, Try.underlying40, w1, w1', w2, w2', w3, w4, w5, cv3_117, shl101, hz2, undef]
        exact ⟨k - 1, by omega, i + 1, by omega, v5, by simp (maxSteps := 2000000) only [forget, List.set_cons_succ, List.set_cons_zero], (by rw [hp2]; exact hrN), fun m' e => (by have := n5.2.2 m' e; have := k14.1; omega), (by rw [hp2]; exact hqr)⟩
      · have hbt : nv a / 2 ^ p % 2 = 0 := by omega
        rw [hbt, Nat.add_zero] at d1 d2
        rw [show decide (nv a / 2 ^ p % 2 = 1) = false from decide_eq_false cb] at e2
        have na3 := na1
        obtain ⟨v3, hv3⟩ : ∃ v3, v3 = v1 := ⟨_, rfl⟩
        obtain ⟨h3, hh3⟩ : ∃ h3, h3 = h1' := ⟨_, rfl⟩
        rw [← hv3] at na3 e1
        have k3 : Keep No h1' h3 := by rw [hh3]; exact Keep.refl _ _
        rw [← hh3] at na3 e1 e2
        have e3 : True := trivial
        have f3 : ∀ m', nm v3 = some m' → h'.next ≤ m' := fun m' e => (by rw [hv3] at e; exact n1.2.2 m' e)
        have hbN : Na h3 (.slice vb Lb vcb) b := by rw [← hLb] at hbk ⊢; exact ⟨(hbk.keep k1 fun _ _ x => x).keep k3 fun _ _ x => x, wb, by omega⟩
        obtain ⟨h4, e4, k4⟩ := cmp3_run na3 hbN
        have hnv3 : nv (lm (R * 2 ^ 1)) = R * 2 ^ 1 := nv_lm _
        rw [hnv3] at e4
        have k14 := (k1.trans k3).trans k4
        have hg4 := k14.get hg (fun x => x)
        have kpp := kp.also k14 fun _ _ x => x.elim
        have hlt4 := Heap.get_lt hg4
        have hn1 := k1.1
        have hn0 := kp.1
        have hlt := Heap.get_lt hg
        obtain ⟨d3, d4⟩ := d2 (by omega)
        have hge : ¬ (0 : Int) ≤ cmpN (R * 2 ^ 1) (nv b) := fun x => cg ((cmpN_ge _ _).1 x)
        generalize cmpN (R * 2 ^ 1) (nv b) = cm at *
        have hqr : QR h0 h4 m K (nv a) (nv b) p := ⟨l, wl, hlK, by rw [hlv, d4, Nat.pow_succ, Nat.mul_comm 2, Nat.mul_assoc, Nat.mul_comm 2], hg4, kpp⟩
        have hrN : Na h4 v3 (lm (nv a / 2 ^ p % nv b)) := by rw [d3]; exact na3.keep k4
        simp (maxSteps := 2000000) -implicitDefEqProofs [px_skip, px_label, px_region, px_draw, qx_seq, qx_cond, px_block, px_loop, px_scope, px_exit, px_ret, seqK_normal, seqK_exit, seqK_ret, condK_true, condK_false, opsK_some, wK_true, wK_false, itK_some, aops_nil, aops_cons, lK_some, aK_some, hK_some, dwK_true, dwK_false, diK_some, dK_light, dK_alloc, dK_heavy, adraw_nil, adraw_cons, aop, cls, light, lightS, binE, aeq, intBin, goInt, pl_int, pl_bool, pl_ptr, pl_slice, aload, isAggT, aeval, tput, awanted, List.range_succ, fin, aresults, aresult, List.replicate, heavy, acallOp, aenter, ble_d, beq_d, firstRegion, readNames, Nxt, isAnc, readsOk, objEq_some, e1, e2, e3, e4, en61, en88, en66, en63, en65, bs40_c1, hge, hz2, undef]
        exact ⟨k - 1, by omega, i + 1, by omega, v3, by simp (maxSteps := 2000000) only [forget, List.set_cons_succ, List.set_cons_zero], (by rw [hp2]; exact hrN), fun m' e => (by have := f3 m' e; omega), (by rw [hp2]; exact hqr)⟩
  · obtain rfl : i = n := by omega
    have hz : lz i i = -1 := by unfold lz; omega
    rw [hz]
    simp (maxSteps := 2000000) -implicitDefEqProofs [px_skip, px_label, px_region, px_draw, qx_seq, qx_cond, px_block, px_loop, px_scope, px_exit, px_ret, seqK_normal, seqK_exit, seqK_ret, condK_true, condK_false, opsK_some, wK_true, wK_false, itK_some, aops_nil, aops_cons, lK_some, aK_some, hK_some, dwK_true, dwK_false, diK_some, dK_light, dK_alloc, dK_heavy, adraw_nil, adraw_cons, aop, cls, light, lightS, binE, aeq, intBin, goInt, pl_int, pl_bool, pl_ptr, pl_slice, aload, isAggT, aeval, tput, awanted, List.range_succ, fin, aresults, aresult, List.replicate, heavy, acallOp, aenter, ble_d, beq_d, firstRegion, readNames, Nxt, isAnc, readsOk, objEq_some, undef]
    exact hI

theorem lt_bl (n : Nat) : n < 2 ^ bl n := by
  unfold bl
  split
  · rename_i h; rw [h]; decide
  · exact Nat.lt_log2_self
theorem bl_le {n k : Nat} (h : n < 2 ^ k) : bl n ≤ k := by
  unfold bl
  split
  · omega
  · rename_i h0; have := (Nat.log2_lt h0).2 h; omega
theorem bl_len {a : List Nat} (ha : W32 a) : bl (nv a) ≤ 32 * a.length := by
  refine bl_le ?_
  have := nv_lt ha
  rwa [show (4294967296 : Nat) = 2 ^ 32 from rfl, ← Nat.pow_mul] at this
set_option maxRecDepth 20000 in
theorem divide_run {h : Heap} {v w : Value} {a b : List Nat} (ha : Na h v a) (hb : Na h w b) (ka : a.length ≤ 800) (kb : b.length ≤ 800) (hb0 : 0 < nv b) :
    ∃ v' r' h', run Try.prog sO 67 [v, w] h = some (.tuple #[v', r'], h') ∧ Na h' v' (lm (nv a / nv b)) ∧ Na h' r' (lm (nv a % nv b)) ∧ Keep No h h' := by
  obtain ⟨h1, e1, k1⟩ := bits_run ha
  obtain ⟨n, hn⟩ : ∃ n, bl (nv a) = n := ⟨_, rfl⟩
  have hnl := bl_len ha.2.1
  have hlt := lt_bl (nv a)
  rw [hn] at e1 hnl hlt
  have hda : nv a / 2 ^ n = 0 := Nat.div_eq_of_lt hlt
  have hav := ha.1
  have hbv := hb.1
  have wa := ha.2.1
  have wb := hb.2.1
  have hla := fun m e => hav.lt (m := m) e
  have hlb := fun m e => hbv.lt (m := m) e
  obtain ⟨va, vca, rfl⟩ := sl_form hav
  obtain ⟨vb, vcb, rfl⟩ := sl_form hbv
  obtain ⟨K, hK⟩ : ∃ K, n / 32 + 1 = K := ⟨_, rfl⟩
  obtain ⟨K0, hK0⟩ : ∃ K, n / 32 = K := ⟨_, rfl⟩
  suffices hx : ∃ y, fin Try.prog Try.f67 (aexecP Try.prog (sO 67) (run Try.prog sO) loopω pt67 (Try.f67.body.getD .skip) ([.slice va a.length vca, .slice vb b.length vcb] ++ List.replicate (Try.f67.ntmps - 2) undef) h) = some y ∧ ∃ v' r', y.1 = .tuple #[v', r'] ∧ Na y.2 v' (lm (nv a / nv b)) ∧ Na y.2 r' (lm (nv a % nv b)) ∧ Keep No h y.2 by
    obtain ⟨⟨y1, y2⟩, hy, v', r', rfl, q⟩ := hx
    exact ⟨v', r', y2, run_finP pt67 Try.func67 rfl planned67 hy, q⟩
  have d1 : IntKind.i64.wrap ((n : Int).tdiv 32) = (K0 : Int) := by
    have : (n : Int).tdiv 32 = ((n / 32 : Nat) : Int) := rfl
    rw [this]; exact wi64 hK0 (by omega)
  have d1' : IntKind.i64.wrap ((n : Int) / 32) = (K0 : Int) := by
    have : (n : Int) / 32 = ((n / 32 : Nat) : Int) := by omega
    rw [this]; exact wi64 hK0 (by omega)
  have d2 : IntKind.i64.wrap ((K0 : Int) + 1) = (K : Int) := by rw [IntWalk.i64_in _ (by omega)]; omega
  have d3 : IntKind.i64.wrap ((n : Int) - 1) = lz n 0 := by rw [IntWalk.i64_in _ (by omega)]; unfold lz; omega
  have hms := fun ρ x y hx hy => ms40 ρ x y K hx hy (by omega)
  have k0 := Keep.new No h1 (.cells (u3 (List.replicate K 0)) 101 1 false false)
  have g0 : (h1.new (.cells (u3 (List.replicate K 0)) 101 1 false false)).get h1.next = some (.cells (u3 (List.replicate K 0)) 101 1 false false) := by rw [Heap.get_new, if_pos rfl]
  obtain ⟨hA, hhA⟩ : ∃ x, x = h1.new (.cells (u3 (List.replicate K 0)) 101 1 false false) := ⟨_, rfl⟩
  rw [← hhA] at k0 g0
  have kA := k1.trans k0
  simp (maxSteps := 2000000) -implicitDefEqProofs [Try.f67, px_skip, px_label, px_region, px_draw, qx_seq, qx_cond, px_block, px_loop, px_scope, px_exit, px_ret, seqK_normal, seqK_exit, seqK_ret, condK_true, condK_false, opsK_some, wK_true, wK_false, itK_some, aops_nil, aops_cons, lK_some, aK_some, hK_some, dwK_true, dwK_false, diK_some, dK_light, dK_alloc, dK_heavy, adraw_nil, adraw_cons, aop, cls, light, lightS, binE, aeq, intBin, goInt, pl_int, pl_bool, pl_ptr, pl_slice, aload, isAggT, aeval, tput, awanted, List.range_succ, fin, aresults, aresult, List.replicate, heavy, acallOp, aenter, ble_d, beq_d, firstRegion, readNames, Nxt, isAnc, readsOk, objEq_some, Try.underlying40, en86, e1, d1, d1', d2, d3, hms, ← hhA, sO67]
  generalize hl : loopω _ _ _ _ = r
  have hs0 : sb n 0 = n := rfl
  have hk1' := k1.1
  obtain ⟨hB, v8, x18, x19, hx, nr, fr, l, wl, hlK, hlv, hg, kp⟩ := useX3 hl (div1 (h0 := hA) (va := va) (vb := vb) (vca := vca) (vcb := vcb) (La := a.length) (Lb := b.length) (n := n) (m := h1.next) (K := K) (a := a) (b := b) rfl rfl wa wb ka kb hb0 (by omega) hK.symm (hav.keep kA fun _ _ x => x) (hbv.keep kA fun _ _ x => x) (fun e => by have := hla _ e; omega) (fun e => by have := hlb _ e; omega) _ _ (by kernel_rfl) _ (by kernel_rfl)
    ⟨by rw [hs0, hda, Nat.zero_mod, lm_zero]; exact ⟨(Lg.nil hA 101 1).sl, W32.nil, by simp⟩, fun m' e => (by cases e), List.replicate K 0, fun x hx => (by rw [(List.mem_replicate.1 hx).2]; omega), List.length_replicate, by rw [nv_zeros, hs0, hda, Nat.zero_div, Nat.zero_mul], g0, Keep.refl _ _⟩)
  subst hx
  clear hl
  have hsn : sb n n = 0 := Nat.sub_self n
  rw [hsn, Nat.pow_zero, Nat.div_one] at nr hlv
  rw [Nat.mul_one] at hlv
  have hna : Na hB (.slice (some ⟨h1.next, 0, none⟩) K K) l := by
    refine ⟨?_, wl, by omega⟩
    rw [hlK]
    exact ⟨by rw [u3_len, hlK]; omega, .inr ⟨_, _, rfl, fun _ => ⟨_, _, _, _, _, hg, by simp [u3_len, hlK]; exact List.take_of_length_le (by rw [u3_len, hlK]; exact Nat.le_refl _)⟩⟩⟩
  have hna' := hna
  rw [← hlK] at hna'
  obtain ⟨v9, h9, e9, n9, k9⟩ := trim_run hna
  rw [hlv] at n9 k9
  simp (maxSteps := 2000000) -implicitDefEqProofs [px_skip, px_label, px_region, px_draw, qx_seq, qx_cond, px_block, px_loop, px_scope, px_exit, px_ret, seqK_normal, seqK_exit, seqK_ret, condK_true, condK_false, opsK_some, wK_true, wK_false, itK_some, aops_nil, aops_cons, lK_some, aK_some, hK_some, dwK_true, dwK_false, diK_some, dK_light, dK_alloc, dK_heavy, adraw_nil, adraw_cons, aop, cls, light, lightS, binE, aeq, intBin, goInt, pl_int, pl_bool, pl_ptr, pl_slice, aload, isAggT, aeval, tput, awanted, List.range_succ, fin, aresults, aresult, List.replicate, heavy, acallOp, aenter, ble_d, beq_d, firstRegion, readNames, Nxt, isAnc, readsOk, objEq_some, Try.underlying40, en85, e9]
  exact ⟨_, _, ⟨rfl, rfl⟩, _, _, rfl, n9.na (by omega), nr.keep n9.2.1, (kA.also kp fun m' hm x => by omega).trans n9.2.1⟩
end Go.Proofs.Ytmnkmdfladbgdaa.Od
