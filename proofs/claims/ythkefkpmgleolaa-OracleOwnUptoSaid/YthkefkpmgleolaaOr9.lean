/- Every script of picks: the loop. -/
import Derived.Test.YthkefkpmgleolaaOr8
import Derived.Test.YthkefkpmgleolaaAI18
set_option linter.unusedVariables false
set_option linter.unusedSimpArgs false
namespace Go.Proofs.Ythkefkpmgleolaa.Or
open Go Go.Proofs Go.RowKit Go.Proofs.YthkefkpmgleolaaAI

def pl4_10 : List Nat := [0, 1, 2, 3, 4, 5, 6, 7, 8, 9, 10, 11, 12, 13]
def an4_10 : List (List Nat) := [[], [], [], [1, 2], [3, 1, 2], [0, 4, 3, 1, 2], [5, 0, 4, 3, 1, 2], [6, 5, 0, 4, 3, 1, 2], [6, 5, 0, 4, 3, 1, 2], [6, 5, 0, 4, 3, 1, 2], [], [10, 7, 6, 5, 0, 4, 3, 1, 2], [8, 6, 5, 0, 4, 3, 1, 2, 11, 10, 7], [9, 6, 5, 0, 4, 3, 1, 2, 12, 8, 11, 10, 7]]
def pl4_12 : List Nat := [0, 1, 2, 3, 4, 5, 6, 7, 8, 9, 11, 12, 13, 10, 14, 15, 16, 17, 19, 20, 18, 21, 22, 23]
def an4_12 : List (List Nat) := [[], [], [0, 1], [2, 0, 1], [3, 2, 0, 1], [3, 2, 0, 1], [4, 3, 2, 0, 1, 5], [3, 2, 0, 1, 6, 4, 5], [7, 3, 2, 0, 1, 6, 4, 5], [8, 7, 3, 2, 0, 1, 6, 4, 5], [9, 8, 7, 3, 2, 0, 1, 6, 4, 5], [8, 7, 3, 2, 0, 1, 6, 4, 5], [11, 8, 7, 3, 2, 0, 1, 6, 4, 5], [12, 11, 8, 7, 3, 2, 0, 1, 6, 4, 5], [10, 9, 8, 7, 3, 2, 0, 1, 6, 4, 5, 13, 12, 11], [8, 7, 3, 2, 0, 1, 6, 4, 5, 14, 10, 9, 13, 12, 11], [15, 8, 7, 3, 2, 0, 1, 6, 4, 5, 14, 10, 9, 13, 12, 11], [16, 15, 8, 7, 3, 2, 0, 1, 6, 4, 5, 14, 10, 9, 13, 12, 11], [17, 16, 15, 8, 7, 3, 2, 0, 1, 6, 4, 5, 14, 10, 9, 13, 12, 11], [16, 15, 8, 7, 3, 2, 0, 1, 6, 4, 5, 14, 10, 9, 13, 12, 11], [19, 16, 15, 8, 7, 3, 2, 0, 1, 6, 4, 5, 14, 10, 9, 13, 12, 11], [18, 17, 16, 15, 8, 7, 3, 2, 0, 1, 6, 4, 5, 14, 10, 9, 13, 12, 11, 20, 19], [21, 18, 17, 16, 15, 8, 7, 3, 2, 0, 1, 6, 4, 5, 14, 10, 9, 13, 12, 11, 20, 19], [16, 15, 8, 7, 3, 2, 0, 1, 6, 4, 5, 14, 10, 9, 13, 12, 11, 22, 21, 18, 17, 20, 19]]
def pl4_15 : List Nat := [0, 2, 3, 4, 1, 5, 6, 7, 9, 10, 8, 11, 12, 13]
def an4_15 : List (List Nat) := [[], [0], [], [2], [3, 2], [1, 0, 4, 3, 2], [5, 1, 0, 4, 3, 2], [6, 5, 1, 0, 4, 3, 2], [7, 6, 5, 1, 0, 4, 3, 2], [6, 5, 1, 0, 4, 3, 2], [9, 6, 5, 1, 0, 4, 3, 2], [8, 7, 6, 5, 1, 0, 4, 3, 2, 10, 9], [6, 5, 1, 0, 4, 3, 2, 11, 8, 7, 10, 9], [12, 6, 5, 1, 0, 4, 3, 2, 11, 8, 7, 10, 9]]
def pl6_10 : List Nat := [0, 1, 2, 3, 4, 5, 6, 7, 8, 9, 10]
def an6_10 : List (List Nat) := [[], [], [], [1, 2], [3, 1, 2], [0, 4, 3, 1, 2], [5, 0, 4, 3, 1, 2], [6, 5, 0, 4, 3, 1, 2], [6, 5, 0, 4, 3, 1, 2], [6, 5, 0, 4, 3, 1, 2], [7, 6, 5, 0, 4, 3, 1, 2]]
def pl6_13 : List Nat := [0, 1, 2, 3, 5, 6, 7, 4, 8, 9, 10, 11, 13, 14, 12, 15, 16, 17]
def an6_13 : List (List Nat) := [[], [0], [1, 0], [2, 1, 0], [3, 2, 1, 0], [2, 1, 0], [5, 2, 1, 0], [6, 5, 2, 1, 0], [4, 3, 2, 1, 0, 7, 6, 5], [2, 1, 0, 8, 4, 3, 7, 6, 5], [9, 2, 1, 0, 8, 4, 3, 7, 6, 5], [10, 9, 2, 1, 0, 8, 4, 3, 7, 6, 5], [11, 10, 9, 2, 1, 0, 8, 4, 3, 7, 6, 5], [10, 9, 2, 1, 0, 8, 4, 3, 7, 6, 5], [13, 10, 9, 2, 1, 0, 8, 4, 3, 7, 6, 5], [12, 11, 10, 9, 2, 1, 0, 8, 4, 3, 7, 6, 5, 14, 13], [15, 12, 11, 10, 9, 2, 1, 0, 8, 4, 3, 7, 6, 5, 14, 13], [10, 9, 2, 1, 0, 8, 4, 3, 7, 6, 5, 16, 15, 12, 11, 14, 13]]
def pl6_21 : List Nat := [0, 1, 2, 3, 4, 5, 6, 7, 8, 9, 10, 11, 12]
def an6_21 : List (List Nat) := [[], [], [], [1, 2], [3, 1, 2], [0, 4, 3, 1, 2], [5, 0, 4, 3, 1, 2], [6, 5, 0, 4, 3, 1, 2], [6, 5, 0, 4, 3, 1, 2], [6, 5, 0, 4, 3, 1, 2], [7, 6, 5, 0, 4, 3, 1, 2], [8, 6, 5, 0, 4, 3, 1, 2, 10, 7], [9, 6, 5, 0, 4, 3, 1, 2, 11, 8, 10, 7]]
def pl6_30 : List Nat := [0, 1, 2, 3, 4, 5, 6, 7, 8, 9, 10, 11, 12]
def an6_30 : List (List Nat) := [[], [], [], [1, 2], [3, 1, 2], [0, 4, 3, 1, 2], [5, 0, 4, 3, 1, 2], [6, 5, 0, 4, 3, 1, 2], [6, 5, 0, 4, 3, 1, 2], [6, 5, 0, 4, 3, 1, 2], [7, 6, 5, 0, 4, 3, 1, 2], [8, 6, 5, 0, 4, 3, 1, 2, 10, 7], [9, 6, 5, 0, 4, 3, 1, 2, 11, 8, 10, 7]]
def pl6_33 : List Nat := [0, 2, 3, 1, 4, 5, 6, 8, 9, 7, 10, 11, 12, 13, 15, 16, 17, 14, 18, 19, 20, 21, 23, 24, 25, 22, 26, 27, 28]
def an6_33 : List (List Nat) := [[], [0], [], [2], [1, 0, 3, 2], [4, 1, 0, 3, 2], [5, 4, 1, 0, 3, 2], [6, 5, 4, 1, 0, 3, 2], [5, 4, 1, 0, 3, 2], [8, 5, 4, 1, 0, 3, 2], [7, 6, 5, 4, 1, 0, 3, 2, 9, 8], [5, 4, 1, 0, 3, 2, 10, 7, 6, 9, 8], [11, 5, 4, 1, 0, 3, 2, 10, 7, 6, 9, 8], [12, 11, 5, 4, 1, 0, 3, 2, 10, 7, 6, 9, 8], [13, 12, 11, 5, 4, 1, 0, 3, 2, 10, 7, 6, 9, 8], [12, 11, 5, 4, 1, 0, 3, 2, 10, 7, 6, 9, 8], [15, 12, 11, 5, 4, 1, 0, 3, 2, 10, 7, 6, 9, 8], [16, 15, 12, 11, 5, 4, 1, 0, 3, 2, 10, 7, 6, 9, 8], [14, 13, 12, 11, 5, 4, 1, 0, 3, 2, 10, 7, 6, 9, 8, 17, 16, 15], [12, 11, 5, 4, 1, 0, 3, 2, 10, 7, 6, 9, 8, 18, 14, 13, 17, 16, 15], [19, 12, 11, 5, 4, 1, 0, 3, 2, 10, 7, 6, 9, 8, 18, 14, 13, 17, 16, 15], [20, 19, 12, 11, 5, 4, 1, 0, 3, 2, 10, 7, 6, 9, 8, 18, 14, 13, 17, 16, 15], [21, 20, 19, 12, 11, 5, 4, 1, 0, 3, 2, 10, 7, 6, 9, 8, 18, 14, 13, 17, 16, 15], [20, 19, 12, 11, 5, 4, 1, 0, 3, 2, 10, 7, 6, 9, 8, 18, 14, 13, 17, 16, 15], [23, 20, 19, 12, 11, 5, 4, 1, 0, 3, 2, 10, 7, 6, 9, 8, 18, 14, 13, 17, 16, 15], [24, 23, 20, 19, 12, 11, 5, 4, 1, 0, 3, 2, 10, 7, 6, 9, 8, 18, 14, 13, 17, 16, 15], [22, 21, 20, 19, 12, 11, 5, 4, 1, 0, 3, 2, 10, 7, 6, 9, 8, 18, 14, 13, 17, 16, 15, 25, 24, 23], [20, 19, 12, 11, 5, 4, 1, 0, 3, 2, 10, 7, 6, 9, 8, 18, 14, 13, 17, 16, 15, 26, 22, 21, 25, 24, 23], [27, 20, 19, 12, 11, 5, 4, 1, 0, 3, 2, 10, 7, 6, 9, 8, 18, 14, 13, 17, 16, 15, 26, 22, 21, 25, 24, 23]]
def pl8_18 : List Nat := [0, 1, 2, 3, 4, 5, 6, 7, 8, 9, 10, 11]
def an8_18 : List (List Nat) := [[], [], [], [1, 2], [3, 1, 2], [0, 4, 3, 1, 2], [5, 0, 4, 3, 1, 2], [6, 5, 0, 4, 3, 1, 2], [6, 5, 0, 4, 3, 1, 2], [6, 5, 0, 4, 3, 1, 2], [7, 6, 5, 0, 4, 3, 1, 2], [8, 6, 5, 0, 4, 3, 1, 2, 10, 7]]
def pl8_33 : List Nat := [0, 1, 2, 3, 4, 5, 6, 7, 8, 9, 11, 12, 10, 13, 14, 15, 16, 18, 19, 17, 20, 21, 22]
def an8_33 : List (List Nat) := [[], [0], [1, 0], [2, 1, 0], [2, 1, 0], [4, 2, 1, 0], [3, 2, 1, 0, 5, 4], [2, 1, 0, 6, 3, 5, 4], [7, 2, 1, 0, 6, 3, 5, 4], [8, 7, 2, 1, 0, 6, 3, 5, 4], [9, 8, 7, 2, 1, 0, 6, 3, 5, 4], [8, 7, 2, 1, 0, 6, 3, 5, 4], [11, 8, 7, 2, 1, 0, 6, 3, 5, 4], [10, 9, 8, 7, 2, 1, 0, 6, 3, 5, 4, 12, 11], [8, 7, 2, 1, 0, 6, 3, 5, 4, 13, 10, 9, 12, 11], [14, 8, 7, 2, 1, 0, 6, 3, 5, 4, 13, 10, 9, 12, 11], [15, 14, 8, 7, 2, 1, 0, 6, 3, 5, 4, 13, 10, 9, 12, 11], [16, 15, 14, 8, 7, 2, 1, 0, 6, 3, 5, 4, 13, 10, 9, 12, 11], [15, 14, 8, 7, 2, 1, 0, 6, 3, 5, 4, 13, 10, 9, 12, 11], [18, 15, 14, 8, 7, 2, 1, 0, 6, 3, 5, 4, 13, 10, 9, 12, 11], [17, 16, 15, 14, 8, 7, 2, 1, 0, 6, 3, 5, 4, 13, 10, 9, 12, 11, 19, 18], [15, 14, 8, 7, 2, 1, 0, 6, 3, 5, 4, 13, 10, 9, 12, 11, 20, 17, 16, 19, 18], [21, 15, 14, 8, 7, 2, 1, 0, 6, 3, 5, 4, 13, 10, 9, 12, 11, 20, 17, 16, 19, 18]]

/-- An oracle's object n beside the second writing's state in w. -/
def St (h : Heap) (n w : Nat) (F : Nat → Prop) (raw : List Int) (log : List (Int × Int)) (rv lv : Value) : Prop :=
  Orc h n F raw log ∧ h.get w = some (.cells [rv, lv] 34 2 false false) ∧ ¬ F w ∧ Sl h rv 1 raw.length (ints raw) ∧ Un rv 1 ∧ Sl h lv 2 log.length (picks log) ∧ (∀ m, nm rv = some m → ¬ F m ∧ m ≠ w) ∧ (∀ m, nm lv = some m → ¬ F m ∧ m ≠ w)
/-- A row that nobody writes. -/
def Arg (h : Heap) (v : Value) (l : List Int) (F : Nat → Prop) (w : Nat) : Prop := Sl h v 1 l.length (ints l) ∧ ∀ m, nm v = some m → ¬ F m ∧ m ≠ w

theorem Arg.keep {h h' : Heap} {v : Value} {l : List Int} {F F' : Nat → Prop} {w : Nat} (ha : Arg h v l F w) (hk : Keep (fun m => F m ∨ m = w) h h') (hF : ∀ m, F' m → m < h.next → F m) : Arg h' v l F' w :=
  ⟨ha.1.keep hk fun m e => by rintro (x | x); exact (ha.2 m e).1 x; exact (ha.2 m e).2 x, fun m e => ⟨fun x => (ha.2 m e).1 (hF m x (ha.1.lt e)), (ha.2 m e).2⟩⟩

theorem round_mem (s : Scr) {h : Heap} {n w : Nat} {F : Nat → Prop} {raw : List Int} {log : List (Int × Int)} {rv lv : Value} (of : Int) (hs : St h n w F raw log rv lv) (hb : (log.length + 1) * 16 ≤ 2 ^ 47) :
    ∃ h1 F1 h2 rv2 lv2, run Try.prog s 15 [.pointer (some ⟨n, 0, none⟩), .int .i64 of] h = some (.tuple #[.int .i64 (resK raw of), .int .i64 (resE of)], h1) ∧
      run Try.prog s 16 [.agg #[rv, lv], .int .i64 of] h1 = some (.tuple #[.agg #[rv2, lv2], .int .i64 (resK raw of), .int .i64 (resE of)], h2) ∧
      h1.get w = some (.cells [rv, lv] 34 2 false false) ∧ Keep F h h1 ∧ Keep No h1 h2 ∧ one rv2 = true ∧ one lv2 = true ∧ (∀ m, F1 m → m < h.next → F m) ∧ (∀ m, nm rv2 = some m → nm rv = some m) ∧ (∀ m, nm lv2 = some m → nm lv = some m ∨ h.next ≤ m) ∧
      ∀ h3, Keep No h2 h3 → h3.get w = some (.cells [rv, lv] 34 2 false false) ∧ St (h3.put w (some (.cells [rv2, lv2] 34 2 false false))) n w F1 (rawN raw of) (logN raw log of) rv2 lv2 ∧ Keep (fun m => F m ∨ m = w) h (h3.put w (some (.cells [rv2, lv2] 34 2 false false))) := by
  obtain ⟨ho, hw, hFw, hr, hu, hl, nr, nl⟩ := hs
  obtain ⟨h1, F1, e1, ho1, k1, f1⟩ := pick_run s of ho hb
  have hw1 := k1.get hw hFw
  obtain ⟨rv2, lv2, h2, e2, hr2, hu2, hl2, k2, n2, m2⟩ := rpick_run s of (hr.keep k1 fun m e => (nr m e).1) hu (hl.keep k1 fun m e => (nl m e).1) hb
  have hwlt := Heap.get_lt hw
  have hF1w : ¬ F1 w := fun x => hFw (f1 w x hwlt)
  refine ⟨h1, F1, h2, rv2, lv2, e1, e2, hw1, k1, k2, Sl_one hr2, Sl_one hl2, f1, n2, fun m e => (m2 m e).imp_right fun x => (by have := k1.1; omega), fun h3 k3 => ?_⟩
  have hw3 := (k2.trans k3).get hw1 (fun x => x)
  have kp : Keep (fun m => m = w) h3 (h3.put w (some (.cells [rv2, lv2] 34 2 false false))) := Keep.put (S := fun m => m = w) (Heap.get_lt hw3) rfl _
  have q1 : ∀ m, nm rv2 = some m → ¬ F1 m ∧ m ≠ w := fun m e => by
    have := n2 m e
    exact ⟨fun x => (nr m this).1 (f1 m x (hr.lt this)), (nr m this).2⟩
  have q2 : ∀ m, nm lv2 = some m → ¬ F1 m ∧ m ≠ w := fun m e => by
    rcases m2 m e with e' | e'
    · exact ⟨fun x => (nl m e').1 (f1 m x (hl.lt e')), (nl m e').2⟩
    · obtain ⟨_, _, _, _, _, _, _, _, _, hF1, _⟩ := ho1
      refine ⟨fun x => ?_, ?_⟩
      · have := hF1 m x; omega
      · have := k1.1; omega
  refine ⟨hw3, ⟨((ho1.keep (k2.trans k3) (fun _ _ x => x) (fun _ x => x.elim)).keep kp (fun m x e => hF1w (e ▸ x)) fun m e c s gr ro hc => ?_), by rw [Heap.get_put (Heap.get_lt hw3), if_pos rfl], hF1w, (hr2.keep k3 (fun _ _ x => x)).keep kp fun m e => (q1 m e).2, hu2, (hl2.keep k3 (fun _ _ x => x)).keep kp fun m e => (q2 m e).2, q1, q2⟩, ?_⟩
  · rw [show m = w from e, hw3] at hc; cases hc
  · exact ((k1.mono fun m _ x => .inl x).also (k2.trans k3) fun m _ x => x.elim).also kp fun m _ x => .inr x

theorem wakesT : ∃ h', run Try.prog sT 11 [] .empty = some (.bool true, h') := run_shut 1000 (by kernel_rfl)
theorem sT4 (r : Nat) : sT 4 r = [2, 3, 7, 8, 9, 10, 11, 12, 13, 14, 15, 16, 17, 18, 19, 20, 21, 22, 23, 26, 27, 28, 29, 30, 31, 32, 33, 34, 35, 36, 37, 38, 39, 40, 41, 42, 43, 44, 45, 46, 47, 48, 49, 50, 51, 52, 53, 54, 55, 56, 57, 58, 59, 60, 61, 62, 63, 64, 65, 66, 67, 68, 69, 70, 71, 72, 73, 74, 75, 76, 77, 78, 79, 80, 81, 82, 83, 84, 85] := by rfl

def pt4 : PlanTab := fun i => if i = 10 then (pl4_10, an4_10) else if i = 12 then (pl4_12, an4_12) else (pl4_15, an4_15)
theorem pt4_10 : pt4 10 = (pl4_10, an4_10) := rfl
theorem pt4_12 : pt4 12 = (pl4_12, an4_12) := rfl
theorem pt4_15 : pt4 15 = (pl4_15, an4_15) := rfl

set_option maxHeartbeats 800000 in
theorem picksLaw {h : Heap} {va vb : Value} {raw ofs : List Int} (hv : Sl h va 1 raw.length (ints raw)) (hu : Un va 1) (hvb : Sl h vb 1 ofs.length (ints ofs)) (hk : raw.length ≤ 2 ^ 20) (hk2 : ofs.length ≤ 2 ^ 20) : ∃ h', run Try.prog sT 4 [va, vb] h = some (.bool true, h') := by
  obtain ⟨hw, w⟩ := wakesT
  obtain ⟨v1, hA, e1, hl1, k1, f1⟩ := fresh_ints hv (ints_one _) (by omega)
  obtain ⟨n, F, hB, e2, ho, k2, f2⟩ := new_orc sT hl1.sl (by omega)
  obtain ⟨a, c, rfl⟩ : ∃ a c, va = .slice a raw.length c := by
    rcases sl_cut hv with ⟨rfl, h0⟩ | ⟨a, c, rfl⟩
    · exact ⟨none, 0, by rw [h0]⟩
    · exact ⟨_, _, rfl⟩
  obtain ⟨b, d, rfl⟩ : ∃ a c, vb = .slice a ofs.length c := by
    rcases sl_cut hvb with ⟨rfl, h0⟩ | ⟨a, c, rfl⟩
    · exact ⟨none, 0, by rw [h0]⟩
    · exact ⟨_, _, rfl⟩
  have k12 := k1.trans k2
  obtain ⟨hC, hCe⟩ : ∃ x, x = (hB.new (.cells [.slice none 0 0, .slice none 0 0] 34 2 false false)).put hB.next (some (.cells [.slice a raw.length c, .slice none 0 0] 34 2 false false)) := ⟨_, rfl⟩
  have gB : (hB.new (.cells [.slice none 0 0, .slice none 0 0] 34 2 false false)).get hB.next = some (.cells [.slice none 0 0, .slice none 0 0] 34 2 false false) := by rw [Heap.get_new, if_pos rfl]
  have kC : Keep No hB hC := hCe ▸ (Keep.new No hB _).also (Keep.put (S := fun m => m = hB.next) (Heap.get_lt gB) rfl _) fun m hm e => by omega
  have gC : hC.get hB.next = some (.cells [.slice a raw.length c, .slice none 0 0] 34 2 false false) := by rw [hCe, Heap.get_put (Heap.get_lt gB), if_pos rfl]
  have hFlt : ∀ m, F m → m < hB.next := by obtain ⟨_, _, _, _, _, _, _, _, _, hF, _⟩ := ho; exact hF
  have st0 : St hC n hB.next F raw [] (.slice a raw.length c) (.slice none 0 0) := by
    refine ⟨ho.keep kC (fun _ _ x => x) (fun _ x => x.elim), gC, fun x => by have := hFlt _ x; omega, (hv.keep k12 (fun _ _ x => x)).keep kC (fun _ _ x => x), hu, (Lg.nil hC 49 2).sl, fun m e => ⟨fun x => ?_, ?_⟩, fun m e => by cases e⟩
    · have := f2 m x; have := hv.lt e; have := k1.1; omega
    · have := hv.lt e; have := k12.1; omega
  have ar0 : Arg hC (.slice b ofs.length d) ofs F hB.next := by
    refine ⟨(hvb.keep k12 (fun _ _ x => x)).keep kC (fun _ _ x => x), fun m e => ⟨fun x => ?_, ?_⟩⟩
    · have := f2 m x; have := hvb.lt e; have := k1.1; omega
    · have := hvb.lt e; have := k12.1; omega
  have okX : okCells (.agg #[.slice a raw.length c, .slice none 0 0]) = some [.slice a raw.length c, .slice none 0 0] := rfl
  suffices hx : ∃ y, fin Try.prog Try.f4 (aexecP Try.prog (sT 4) (run Try.prog sT) loopω pt4 (Try.f4.body.getD .skip) ([.slice a raw.length c, .slice b ofs.length d] ++ List.replicate (Try.f4.ntmps - 2) undef) h) = some y ∧ y.1 = .bool true by
    obtain ⟨⟨y1, y2⟩, hy, rfl⟩ := hx
    exact ⟨y2, run_finP pt4 Try.func4 rfl (by kernel_rfl) hy⟩
  simp (maxSteps := 2000000) -implicitDefEqProofs [Try.f4, px_skip, px_label, px_region, px_draw, qx_seq, qx_cond, px_block, px_loop, px_scope, px_exit, px_ret, seqK_normal, seqK_exit, seqK_ret, condK_true, condK_false, opsK_some, wK_true, wK_false, itK_some, aops_nil, aops_cons, lK_some, aK_some, hK_some, dwK_true, dwK_false, diK_some, dK_light, dK_alloc, dK_heavy, adraw_nil, adraw_cons, aop, cls, light, lightS, binE, aeq, intBin, goInt, pl_int, pl_bool, pl_ptr, pl_slice, aload, isAggT, aeval, tput, awanted, List.range_succ, fin, aresults, aresult, List.replicate, heavy, acallOp, aenter, ble_d, beq_d, firstRegion, readNames, Nxt, isAnc, readsOk, objEq_some, w, en11, en14, en15, en16, bs29, e1, e2, build34, al34, Try.underlying30, Try.underlying29, gB, astore, okX, sz34, ← hCe, sT4]
  generalize hl : loopω _ _ _ _ = r
  obtain ⟨e, t', h', hx, he, ⟨raw', log', F', rv, lv, hlog, hst⟩, x26, ht⟩ : ∃ e t' h', r = some (e, t', h') ∧ e = .exit 0 ∧ (∃ raw' log' F' rv lv, log'.length ≤ ofs.length ∧ St h' n hB.next F' raw' log' rv lv) ∧ ∃ x26, t' = [.slice a raw.length c, .slice b ofs.length d, unk, unk, .bool false, .pointer (some ⟨n, 0, none⟩), .pointer (some ⟨hB.next, 0, none⟩), unk, unk, unk, unk, unk, unk, unk, unk, unk, unk, unk, unk, unk, unk, unk, unk, unk, .int .i64 ofs.length, .int .i64 ofs.length, x26, unk, unk, unk, unk, unk, unk, unk, unk, unk, unk, unk, unk, unk, unk, unk, unk, unk, unk, unk, unk, unk, unk, unk, unk, unk, unk, unk, unk, unk, unk, unk, unk, unk, unk, unk, unk, unk, unk, unk, unk, unk, unk, unk, unk, unk, unk, unk, unk, unk, unk, unk, unk, unk, unk, unk, unk, unk, unk, unk] := by
    rw [← hl]
    refine loop_by (fun k t h' => ∃ i, i + k = ofs.length ∧ forget [2, 3, 7, 8, 9, 10, 11, 12, 13, 14, 15, 16, 17, 18, 19, 20, 21, 22, 23, 26, 27, 28, 29, 30, 31, 32, 33, 34, 35, 36, 37, 38, 39, 40, 41, 42, 43, 44, 45, 46, 47, 48, 49, 50, 51, 52, 53, 54, 55, 56, 57, 58, 59, 60, 61, 62, 63, 64, 65, 66, 67, 68, 69, 70, 71, 72, 73, 74, 75, 76, 77, 78, 79, 80, 81, 82, 83, 84, 85] t = [.slice a raw.length c, .slice b ofs.length d, unk, unk, .bool false, .pointer (some ⟨n, 0, none⟩), .pointer (some ⟨hB.next, 0, none⟩), unk, unk, unk, unk, unk, unk, unk, unk, unk, unk, unk, unk, unk, unk, unk, unk, unk, .int .i64 ofs.length, .int .i64 i, unk, unk, unk, unk, unk, unk, unk, unk, unk, unk, unk, unk, unk, unk, unk, unk, unk, unk, unk, unk, unk, unk, unk, unk, unk, unk, unk, unk, unk, unk, unk, unk, unk, unk, unk, unk, unk, unk, unk, unk, unk, unk, unk, unk, unk, unk, unk, unk, unk, unk, unk, unk, unk, unk, unk, unk, unk, unk, unk, unk] ∧ ∃ raw' log' F' rv lv, log'.length ≤ i ∧ St h' n hB.next F' raw' log' rv lv ∧ Arg h' (.slice b ofs.length d) ofs F' hB.next)
      (fun e t' h' => e = .exit 0 ∧ (∃ raw' log' F' rv lv, log'.length ≤ ofs.length ∧ St h' n hB.next F' raw' log' rv lv) ∧ ∃ x26, t' = [.slice a raw.length c, .slice b ofs.length d, unk, unk, .bool false, .pointer (some ⟨n, 0, none⟩), .pointer (some ⟨hB.next, 0, none⟩), unk, unk, unk, unk, unk, unk, unk, unk, unk, unk, unk, unk, unk, unk, unk, unk, unk, .int .i64 ofs.length, .int .i64 ofs.length, x26, unk, unk, unk, unk, unk, unk, unk, unk, unk, unk, unk, unk, unk, unk, unk, unk, unk, unk, unk, unk, unk, unk, unk, unk, unk, unk, unk, unk, unk, unk, unk, unk, unk, unk, unk, unk, unk, unk, unk, unk, unk, unk, unk, unk, unk, unk, unk, unk, unk, unk, unk, unk, unk, unk, unk, unk, unk, unk, unk]) ?_ ofs.length _ _ ⟨0, by omega, by kernel_rfl, raw, [], F, _, _, by simp, st0, ar0⟩
    rintro k t h' ⟨i, hi, ht, raw', log', F', rv, lv, hlog, hst, har⟩
    rw [ht]
    rcases Nat.lt_or_ge i ofs.length with h1 | h1
    · obtain ⟨hh1, F1, hh2, rv2, lv2, e3, e4, g1, q1, q2, o1, o2, f3, _, _, fin3⟩ := round_mem sT (ofs.getD i 0) hst (by omega)
      obtain ⟨b, d, C, ce, cs, gr, ro, eb, hgb, hcb⟩ := sl_index har.1 h1
      simp only [Value.slice.injEq, true_and] at eb
      obtain ⟨rfl, rfl⟩ := eb
      have hgb1 := q1.get hgb (fun x => (har.2 b.block (nm_pos (by omega))).1 x)
      have gz : (hh2.new (.cells [.slice none 0 0, .slice none 0 0] 34 2 false false)).get hh2.next = some (.cells [.slice none 0 0, .slice none 0 0] 34 2 false false) := by rw [Heap.get_new, if_pos rfl]
      obtain ⟨h4, h4e⟩ : ∃ x, x = (hh2.new (.cells [.slice none 0 0, .slice none 0 0] 34 2 false false)).put hh2.next (some (.cells [rv2, lv2] 34 2 false false)) := ⟨_, rfl⟩
      have k4 : Keep No hh2 h4 := h4e ▸ (Keep.new No hh2 _).also (Keep.put (S := fun m => m = hh2.next) (Heap.get_lt gz) rfl _) fun m hm e => by omega
      have g4 : h4.get hh2.next = some (.cells [rv2, lv2] 34 2 false false) := by rw [h4e, Heap.get_put (Heap.get_lt gz), if_pos rfl]
      obtain ⟨g4w, st5, k5⟩ := fin3 h4 k4
      obtain ⟨h5, h5e⟩ : ∃ x, x = h4.put hB.next (some (.cells [rv2, lv2] 34 2 false false)) := ⟨_, rfl⟩
      rw [← h5e] at st5 k5
      have ar5 := har.keep k5 f3
      have hll : (logN raw' log' (ofs.getD i 0)).length ≤ i + 1 := by
        unfold logN; split
        · omega
        · rw [List.length_append]; simp only [List.length_cons, List.length_nil]; omega
      have st5' := st5
      obtain ⟨o5, g5, nF5, r5, u5, l5, nr5, nl5⟩ := st5'
      have el := left_run sT o5
      obtain ⟨v6, h6, e6, l6, k6, n6⟩ := log_run sT o5 (by omega)
      have g6 := k6.get g5 (fun x => x)
      have es := same_run l6.sl (l5.keep k6 (fun _ _ x => x)) (by omega)
      have st6 : St h6 n hB.next F1 (rawN raw' (ofs.getD i 0)) (logN raw' log' (ofs.getD i 0)) rv2 lv2 :=
        ⟨o5.keep k6 (fun _ _ x => x) (fun _ x => x.elim), g6, nF5, r5.keep k6 (fun _ _ x => x), u5, l5.keep k6 (fun _ _ x => x), nr5, nl5⟩
      have ar6 : Arg h6 (.slice (some b) ofs.length d) ofs F1 hB.next := ⟨ar5.1.keep k6 (fun _ _ x => x), ar5.2⟩
      have okR := okc_agg o1 o2
      have n24 : (hh2.new (.cells [.slice none 0 0, .slice none 0 0] 34 2 false false)).next ≤ h4.next := by rw [h4e]; exact Nat.le_refl _
      have n12 := q2.1
      have n56 := k6.1
      have hw : IntKind.i64.wrap ((i : Int) + 1) = ((i + 1 : Nat) : Int) := by rw [IntWalk.i64_in _ (by omega)]; omega
      have hii : ((i + 1 : Nat) : Int) = (i : Int) + 1 := by omega
      have hcb' : C[b.off + i]? = some (.int .i64 (ofs.getD i 0)) := hcb
      have hrl : ∃ a' c', rv2 = .slice a' (rawN raw' (ofs.getD i 0)).length c' := by
        rcases sl_cut r5 with ⟨rfl, h0⟩ | ⟨a, c, rfl⟩
        · exact ⟨none, 0, by rw [h0]⟩
        · exact ⟨_, _, rfl⟩
      obtain ⟨ra, rc, rfl⟩ := hrl
      generalize ofs.getD i 0 = of at *
      simp (maxSteps := 2000000) -implicitDefEqProofs [px_skip, px_label, px_region, px_draw, qx_seq, qx_cond, px_block, px_loop, px_scope, px_exit, px_ret, seqK_normal, seqK_exit, seqK_ret, condK_true, condK_false, opsK_some, wK_true, wK_false, itK_some, aops_nil, aops_cons, lK_some, aK_some, hK_some, dwK_true, dwK_false, diK_some, dK_light, dK_alloc, dK_heavy, adraw_nil, adraw_cons, aop, cls, light, lightS, binE, aeq, intBin, goInt, pl_int, pl_bool, pl_ptr, pl_slice, aload, isAggT, aeval, tput, awanted, List.range_succ, fin, aresults, aresult, List.replicate, heavy, acallOp, aenter, ble_d, beq_d, firstRegion, readNames, Nxt, isAnc, readsOk, objEq_some, pt4_10, pt4_12, pl4_10, pl4_12, an4_10, an4_12, ibne, h1, aindexAddr, sz3, sz34, Try.underlying34, Try.underlying29, Try.underlying32, hgb, hgb1, hcb', en15, en16, en17, en18, en19, e3, e4, g1, al34, gz, ← h4e, astore, okR, g4, g4w, ← h5e, g5, el, fa34_0, fa34_1, e6, g6, es, n12, n24, n56, hw]
      exact ⟨k - 1, by omega, i + 1, by omega, by simp (maxSteps := 2000000) only [forget, List.set_cons_succ, List.set_cons_zero, hii], rawN raw' of, logN raw' log' of, hll, F1, ⟨_, _, st6⟩, ar6⟩
    · have hi' : i = ofs.length := by omega
      subst hi'
      simp (maxSteps := 2000000) -implicitDefEqProofs [px_skip, px_label, px_region, px_draw, qx_seq, qx_cond, px_block, px_loop, px_scope, px_exit, px_ret, seqK_normal, seqK_exit, seqK_ret, condK_true, condK_false, opsK_some, wK_true, wK_false, itK_some, aops_nil, aops_cons, lK_some, aK_some, hK_some, dwK_true, dwK_false, diK_some, dK_light, dK_alloc, dK_heavy, adraw_nil, adraw_cons, aop, cls, light, lightS, binE, aeq, intBin, goInt, pl_int, pl_bool, pl_ptr, pl_slice, aload, isAggT, aeval, tput, awanted, List.range_succ, fin, aresults, aresult, List.replicate, heavy, acallOp, aenter, ble_d, beq_d, firstRegion, readNames, Nxt, isAnc, readsOk, objEq_some]
      exact ⟨raw', log', hlog, F', rv, lv, hst⟩
  subst hx he ht
  obtain ⟨o5, g5, nF5, r5, u5, l5, nr5, nl5⟩ := hst
  have el := left_run sT o5
  obtain ⟨v6, h6, e6, l6, k6, n6⟩ := log_run sT o5 (by omega)
  have g6 := k6.get g5 (fun x => x)
  have es := same_run l6.sl (l5.keep k6 (fun _ _ x => x)) (by omega)
  have n56 := k6.1
  obtain ⟨ra, rc, rfl⟩ : ∃ a' c', rv = .slice a' raw'.length c' := by
    rcases sl_cut r5 with ⟨rfl, h0⟩ | ⟨a, c, rfl⟩
    · exact ⟨none, 0, by rw [h0]⟩
    · exact ⟨_, _, rfl⟩
  simp (maxSteps := 2000000) -implicitDefEqProofs [px_skip, px_label, px_region, px_draw, qx_seq, qx_cond, px_block, px_loop, px_scope, px_exit, px_ret, seqK_normal, seqK_exit, seqK_ret, condK_true, condK_false, opsK_some, wK_true, wK_false, itK_some, aops_nil, aops_cons, lK_some, aK_some, hK_some, dwK_true, dwK_false, diK_some, dK_light, dK_alloc, dK_heavy, adraw_nil, adraw_cons, aop, cls, light, lightS, binE, aeq, intBin, goInt, pl_int, pl_bool, pl_ptr, pl_slice, aload, isAggT, aeval, tput, awanted, List.range_succ, fin, aresults, aresult, List.replicate, heavy, acallOp, aenter, ble_d, beq_d, firstRegion, readNames, Nxt, isAnc, readsOk, objEq_some, pt4_15, pl4_15, an4_15, ibeq, sz34, Try.underlying34, Try.underlying29, Try.underlying32, en17, en18, en19, el, fa34_0, fa34_1, g5, g6, e6, es, n56]

theorem picks_calls (W : World) {a0 : Option Addr} {len0 cap0 : Nat} {l0 : List Int} (w0 : IntsAt W a0 len0 cap0 l0) (y0 : len0 * 8 ≤ 140737488351232) (c0 : len0 ≤ 1048576) {a1 : Option Addr} {len1 cap1 : Nat} {l1 : List Int} (w1 : IntsAt W a1 len1 cap1 l1) (y1 : len1 * 8 ≤ 140737488351232) (c1 : len1 ≤ 1048576) :
    Calls Try.prog 4 #[.slice a0 len0 cap0, .slice a1 len1 cap1] W fun e W' => e = .returned (.bool true) ∧ Below W.heap.size W W' := by
  obtain ⟨h, σ, v, hr, hro, _, _, hv, hs, hu, _⟩ := arg_ints (h := .empty) (σ := fun _ => ⟨0, 0, 0⟩) (Rep.none _ W (Nat.le_refl _) _) allRo_empty 3 w0
  obtain ⟨h', σ', v', hr', hro', hk, hσ, hv', hs', hu', _⟩ := arg_ints hr hro 3 w1
  have := w0.1
  have := w1.1
  obtain ⟨h2, e⟩ := picksLaw (hs.keep hk (fun _ _ x => x)) hu hs' (by omega) (by omega)
  exact law_calls mix hro' e rfl hr' (.cons (hv.mono (fun n hn => Nat.lt_of_lt_of_le hn hk.1) (fun n hn => hσ n hn)) (.cons hv' .nil))
end Go.Proofs.Ythkefkpmgleolaa.Or
