/- Two oracles side by side. -/
import Derived.Test.YthkefkpmgleolaaOr9
set_option linter.unusedVariables false
set_option linter.unusedSimpArgs false
namespace Go.Proofs.Ythkefkpmgleolaa.Or
open Go Go.Proofs Go.RowKit Go.Proofs.YthkefkpmgleolaaAI

/-- Another oracle's round leaves this one alone. -/
theorem St.keep {S : Nat → Prop} {h h' : Heap} {n w : Nat} {F : Nat → Prop} {raw : List Int} {log : List (Int × Int)} {rv lv : Value} (hs : St h n w F raw log rv lv) (hk : Keep S h h')
    (h1 : ∀ m, F m → ¬ S m) (h2 : ∀ m, S m → ∀ c s gr ro, h.get m ≠ some (.cells c 3 s gr ro)) (h3 : ¬ S w) (h4 : ∀ m, nm rv = some m → ¬ S m) (h5 : ∀ m, nm lv = some m → ¬ S m) : St h' n w F raw log rv lv := by
  obtain ⟨ho, hw, hFw, hr, hu, hl, nr, nl⟩ := hs
  exact ⟨ho.keep hk h1 h2, hk.get hw h3, hFw, hr.keep hk h4, hu, hl.keep hk h5, nr, nl⟩

/-- What is the second's stands apart from what the first writes. -/
def Sep (F : Nat → Prop) (w : Nat) (F2 : Nat → Prop) (w2 : Nat) (rv2 lv2 : Value) : Prop :=
  (∀ m, F2 m → ¬ F m ∧ m ≠ w) ∧ ¬ F w2 ∧ w2 ≠ w ∧ (∀ m, nm rv2 = some m → ¬ F m ∧ m ≠ w) ∧ ∀ m, nm lv2 = some m → ¬ F m ∧ m ≠ w

theorem St.foot {h : Heap} {n w : Nat} {F : Nat → Prop} {raw : List Int} {log : List (Int × Int)} {rv lv : Value} (hs : St h n w F raw log rv lv) : ∀ m, (F m ∨ m = w) → ∀ c s gr ro, h.get m ≠ some (.cells c 3 s gr ro) := by
  rintro m (hm | rfl) c s gr ro
  · exact hs.1.foot m hm c s gr ro
  · rw [hs.2.1]; intro e; cases e
theorem St.lt {h : Heap} {n w : Nat} {F : Nat → Prop} {raw : List Int} {log : List (Int × Int)} {rv lv : Value} (hs : St h n w F raw log rv lv) : (∀ m, F m → m < h.next) ∧ w < h.next ∧ (∀ m, nm rv = some m → m < h.next) ∧ ∀ m, nm lv = some m → m < h.next := by
  obtain ⟨ho, hw, hFw, hr, hu, hl, nr, nl⟩ := hs
  obtain ⟨_, _, _, _, _, _, _, _, _, hF, _⟩ := ho
  exact ⟨hF, Heap.get_lt hw, fun m e => hr.lt e, fun m e => hl.lt e⟩

/-- A round of the first, beside the second. -/
theorem round_two (s : Scr) {h : Heap} {n w : Nat} {F : Nat → Prop} {raw : List Int} {log : List (Int × Int)} {rv lv : Value} {n' w' : Nat} {F' : Nat → Prop} {raw' : List Int} {log' : List (Int × Int)} {rv' lv' : Value} (of : Int)
    (hs : St h n w F raw log rv lv) (hs' : St h n' w' F' raw' log' rv' lv') (h1 : Sep F w F' w' rv' lv') (h2 : Sep F' w' F w rv lv) (hb : (log.length + 1) * 16 ≤ 2 ^ 47) :
    ∃ hh F1 h2 rv2 lv2, run Try.prog s 15 [.pointer (some ⟨n, 0, none⟩), .int .i64 of] h = some (.tuple #[.int .i64 (resK raw of), .int .i64 (resE of)], hh) ∧
      run Try.prog s 16 [.agg #[rv, lv], .int .i64 of] hh = some (.tuple #[.agg #[rv2, lv2], .int .i64 (resK raw of), .int .i64 (resE of)], h2) ∧
      hh.get w = some (.cells [rv, lv] 34 2 false false) ∧ h2.get w = some (.cells [rv, lv] 34 2 false false) ∧ Keep F h hh ∧ hh.next ≤ h2.next ∧ one rv2 = true ∧ one lv2 = true ∧ (∀ m, F1 m → m < h.next → F m) ∧
      St (h2.put w (some (.cells [rv2, lv2] 34 2 false false))) n w F1 (rawN raw of) (logN raw log of) rv2 lv2 ∧ St (h2.put w (some (.cells [rv2, lv2] 34 2 false false))) n' w' F' raw' log' rv' lv' ∧
      Sep F1 w F' w' rv' lv' ∧ Sep F' w' F1 w rv2 lv2 ∧ Keep (fun m => F m ∨ m = w) h (h2.put w (some (.cells [rv2, lv2] 34 2 false false))) := by
  obtain ⟨hh, F1, g2, rv2, lv2, e1, e2, gw, k1, k2, o1, o2, f1, x1, x2, fn⟩ := round_mem s of hs hb
  obtain ⟨gw2, st, kk⟩ := fn g2 (Keep.refl _ _)
  obtain ⟨lF, lw, lr, ll⟩ := hs'.lt
  obtain ⟨a1, a2, a3, a4, a5⟩ := h1
  obtain ⟨b1, b2, b3, b4, b5⟩ := h2
  have ft := hs.foot
  refine ⟨hh, F1, g2, rv2, lv2, e1, e2, gw, gw2, k1, k2.1, o1, o2, f1, st, hs'.keep kk (fun m x => ?_) ft ?_ ?_ ?_, ⟨?_, ?_, a3, ?_, ?_⟩, ⟨?_, b2, b3, ?_, ?_⟩, kk⟩
  · rintro (y | y); exact (a1 m x).1 y; exact (a1 m x).2 y
  · rintro (y | y); exact a2 y; exact a3 y
  · rintro m e (y | y); exact (a4 m e).1 y; exact (a4 m e).2 y
  · rintro m e (y | y); exact (a5 m e).1 y; exact (a5 m e).2 y
  · exact fun m x => ⟨fun y => (a1 m x).1 (f1 m y (lF m x)), (a1 m x).2⟩
  · exact fun y => a2 (f1 _ y lw)
  · exact fun m x => ⟨fun y => (a4 m x).1 (f1 m y (lr m x)), (a4 m x).2⟩
  · exact fun m x => ⟨fun y => (a5 m x).1 (f1 m y (ll m x)), (a5 m x).2⟩
  · refine fun m x => ⟨fun y => (b1 m (f1 m x (lF m y))).1 y, fun y => ?_⟩
    exact (b1 m (f1 m x (by rw [y]; exact lw))).2 y
  · exact fun m x => b4 m (x1 m x)
  · intro m x
    rcases x2 m x with y | y
    · exact b5 m y
    · exact ⟨fun z => by have := lF m z; omega, fun z => by omega⟩
theorem rawN_len (raw : List Int) (of : Int) : (rawN raw of).length ≤ raw.length := by
  unfold rawN; split
  · omega
  · rw [List.length_tail]; omega
theorem logN_len (raw : List Int) (log : List (Int × Int)) (of : Int) : (logN raw log of).length ≤ log.length + 1 := by
  unfold logN; split
  · omega
  · rw [List.length_append]; simp only [List.length_cons, List.length_nil]; omega
theorem sl_form {h : Heap} {v : Value} {sz k : Nat} {cs : List Value} (hs : Sl h v sz k cs) : ∃ a c, v = .slice a k c := by
  rcases sl_cut hs with ⟨rfl, h0⟩ | ⟨a, c, rfl⟩
  · exact ⟨none, 0, by rw [h0]⟩
  · exact ⟨_, _, rfl⟩
end Go.Proofs.Ythkefkpmgleolaa.Or
