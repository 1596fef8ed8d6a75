/- BiasOwn: appends. -/
import Derived.Test.YthkefkpmgleolabBi33
set_option linter.unusedVariables false
set_option linter.unusedSimpArgs false
namespace Go.Proofs.Ythkefkpmgleolab.Bi
open Go Go.Proofs Go.RowKit Go.Proofs.YthkefkpmgleolabAI Go.Proofs.YthkefkpmgleolabFl Go.Proofs.YthkefkpmgleolabSrt

/-- Appending to a slice that is full. -/
theorem append_full {P : Program} {t xt e : TypeId} {d : TypeDesc} {sz bts : Nat} (ht : P.underlying t = some (.slice e)) (hxt : P.underlying xt = some d) (hd : appends d = true) (hE : elTyB P e sz bts = true)
    {h : Heap} {x : Value} {m k j : Nat} {cs ds : List Value} (hv : Sl h (V m k) sz k cs) (hx : Sl h x sz j ds) (hb : (k + j) * bts ≤ 2 ^ 47) (hb2 : k + j ≤ 2 ^ 47) (hj : 0 < j) :
    ∃ v' h', aappend P t xt (V m k) x h = some (v', h') ∧ Lg h' v' e sz (k + j) (cs ++ ds) ∧ Keep No h h' ∧ ∀ m, nm v' = some m → h.next ≤ m := by
  obtain ⟨i, z, hi, hz, hp, hzc, hz1, hsz, hby, h0⟩ := elTy hE
  subst hsz hby
  have hb0 : Nat.blt 0 i.size = true := blt_t h0
  have hzb : Nat.beq z.cells.size i.size = true := by rw [hzc]; exact beq_refl' _
  have hcond : (Nat.blt 0 i.size && plain z && Nat.beq z.cells.size i.size && z.cells.toList.all one) = true := by rw [hb0, hp, hzb, hz1]; rfl
  have hE' : ∀ r, aappendE P e (V m k) x h = r → aappend P t xt (V m k) x h = r := fun r hr => by
    unfold aappend; rw [ht, hxt]; simp only [hd, cond_true]; exact hr
  have hxa := hx.acells h0
  have hva := hv.acells h0
  have hjb := beq_pos hj
  have hbb : (Nat.ble ((k + j) * i.bytes) (2 ^ 47) && Nat.ble (k + j) (2 ^ 47)) = true := by rw [ble_t hb, ble_t hb2]; rfl
  refine ⟨.slice (some ⟨h.next, 0, some 0⟩) (k + j) i.size, h.new (.cells (cs ++ ds) e i.size true false), hE' _ ?_, ⟨by rw [List.length_append, hv.1, hx.1, Nat.add_mul], .inr ⟨h.next, by omega, rfl, by rw [Heap.get_new, if_pos rfl]⟩⟩, Keep.new _ _ _, fun m e => by have := (nm_eq e).2; simp only at this; omega⟩
  unfold aappendE
  rw [hi]
  simp only [hz, hxa, hcond, cond_true, hjb, cond_false, hbb, hva]
  rw [ble_f (show k < k + j by omega)]
  rfl
/-- Both. -/
def AG (h0 h : Heap) (x r v0 : Value) (m1 n K i : Nat) : Prop := (∃ cs, Lg h x 58 2 (K + i) cs) ∧ (∀ m, nm x = some m → nm v0 = some m ∨ h0.next ≤ m) ∧ ((i = 0 ∧ r = V m1 n ∧ ∃ cs, cs.length = n ∧ h.get m1 = some (.cells cs 3 1 false false)) ∨ ((∃ cs, Lg h r 3 1 (n + i) cs) ∧ ∀ m, nm r = some m → h0.next ≤ m)) ∧ (∀ m, nm x = some m → nm r ≠ some m) ∧ Keep (fun m => nm v0 = some m) h0 h
theorem AG.step {h0 h : Heap} {x r v0 : Value} {m1 n K i : Nat} (ha : AG h0 h x r v0 m1 n K i) (hm1 : m1 < h0.next) (hv1 : nm v0 ≠ some m1) (hK : K + i + 1 ≤ 2 ^ 40) (hn : n + i + 1 ≤ 2 ^ 40) :
    ∃ x' h1 r' h2, aappend Try.prog 40 40 x (.slice (some ⟨h.next, 0, none⟩) 1 1) (h.new (.cells [.int .i64 (-2), .int .i64 0] 58 2 false false)) = some (x', h1) ∧ aappend Try.prog 28 28 r (.slice (some ⟨h1.next, 0, none⟩) 1 1) (h1.new (.cells [.int .i64 (-6)] 3 1 false false)) = some (r', h2) ∧ AG h0 h2 x' r' v0 m1 n K (i + 1) := by
  obtain ⟨⟨cs, lx⟩, nx, hr, dj, kp⟩ := ha
  have hxn := kp.1
  have xm1 : nm x ≠ some m1 := fun e => by rcases nx m1 e with e' | e'; exact hv1 e'; omega
  have s1 : Sl (h.new (.cells [.int .i64 (-2), .int .i64 0] 58 2 false false)) (.slice (some ⟨h.next, 0, none⟩) 1 1) 2 1 [.int .i64 (-2), .int .i64 0] :=
    ⟨rfl, .inr ⟨_, _, rfl, fun _ => ⟨_, _, _, _, _, by rw [Heap.get_new, if_pos rfl], rfl⟩⟩⟩
  obtain ⟨x', h1, e1, l1, k1, n1, _, f1⟩ := append_lg (t := 40) (xt := 40) Try.underlying40 Try.underlying40 rfl el58 (lx.keep (Keep.new No h _) (fun _ _ x => x)) s1 (by omega) (by omega) rfl
  rw [Heap.next_new] at n1
  have k01 : Keep (fun m => nm x = some m) h h1 := (Keep.new _ h _).trans k1
  have hh1 := k01.1
  have s2 : Sl (h1.new (.cells [.int .i64 (-6)] 3 1 false false)) (.slice (some ⟨h1.next, 0, none⟩) 1 1) 1 1 [.int .i64 (-6)] :=
    ⟨rfl, .inr ⟨_, _, rfl, fun _ => ⟨_, _, _, _, _, by rw [Heap.get_new, if_pos rfl], rfl⟩⟩⟩
  have kx : Keep (fun m => nm v0 = some m) h0 h1 := kp.also k01 fun m hm e => by
    rcases nx m e with e' | e'
    · exact e'
    · omega
  have nx' : ∀ m, nm x' = some m → nm v0 = some m ∨ h0.next ≤ m := fun m e => by
    rcases Nat.lt_or_ge m (h.next + 1) with hm | hm
    · exact nx m (n1 m e hm)
    · exact .inr (by omega)
  rcases hr with ⟨rfl, rfl, cr, hcl, hg⟩ | ⟨⟨cr, lr⟩, nr⟩
  · have hg1 := (Keep.new No h1 (.cells [.int .i64 (-6)] 3 1 false false)).get (k01.get hg (fun e => xm1 e)) (fun x => x)
    have sr : Sl (h1.new (.cells [.int .i64 (-6)] 3 1 false false)) (V m1 n) 1 n cr := ⟨by omega, .inr ⟨_, _, rfl, fun _ => ⟨_, _, _, _, _, hg1, by rw [List.drop_zero, Nat.mul_one, ← hcl, List.take_length]⟩⟩⟩
    obtain ⟨r', h2, e2, l2, k2, n2⟩ := append_full (t := 28) (xt := 28) Try.underlying28 Try.underlying28 rfl el3 sr s2 (by omega) (by omega) (by omega)
    rw [Heap.next_new] at n2
    refine ⟨x', h1, r', h2, e1, e2, ⟨_, (l1.keep (Keep.new No h1 _) (fun _ _ x => x)).keep k2 (fun _ _ x => x)⟩, nx', .inr ⟨⟨_, l2⟩, fun m e => by have := n2 m e; omega⟩, fun m e e' => by have := n2 m e'; have := l1.sl.lt e; omega, (kx.also (Keep.new No h1 _) fun m _ x => x.elim).also k2 fun m _ x => x.elim⟩
  · have lr1 := (lr.keep k01 fun m e e' => dj m e' e).keep (Keep.new No h1 (.cells [.int .i64 (-6)] 3 1 false false)) (fun _ _ x => x)
    obtain ⟨r', h2, e2, l2, k2, n2, _, f2⟩ := append_lg (t := 28) (xt := 28) Try.underlying28 Try.underlying28 rfl el3 lr1 s2 (by omega) (by omega) rfl
    rw [Heap.next_new] at n2
    have dxr : ∀ m, nm x' = some m → nm r ≠ some m := fun m e e' => by
      have := lr.sl.lt e'
      exact dj m (n1 m e (by omega)) e'
    refine ⟨x', h1, r', h2, e1, e2, ⟨_, (l1.keep (Keep.new No h1 _) (fun _ _ x => x)).keep k2 (fun m e e' => dxr m e e')⟩, nx', .inr ⟨⟨_, l2⟩, fun m e => ?_⟩, fun m e e' => ?_, (kx.also (Keep.new No h1 _) fun m _ x => x.elim).also k2 fun m hm x => by have := nr m x; omega⟩
    · rcases Nat.lt_or_ge m (h1.next + 1) with hm | hm
      · exact nr m (n2 m e hm)
      · omega
    · have := l1.sl.lt e
      exact dxr m e (n2 m e' (by omega))
set_option maxRecDepth 20000 in
set_option maxHeartbeats 6400000 in
theorem own6 {h0 : Heap} {va : Option Addr} {x0 v14 : Value} {vc m1 m2 n0 w n K : Nat} (hm1 : m1 < h0.next) (hv1 : nm x0 ≠ some m1) (hK : K ≤ 2 ^ 39) (hn : n ≤ 2 ^ 39) (hst : AG h0 h0 x0 (V m1 n) x0 m1 n K 0) (F : Step) (hFF : F = aexecP Try.prog (sB 8) (run Try.prog sB) loopω pt8 (lb8 5)) (t : Tm)
    (ht : forget [1, 2, 3, 4, 5, 9, 10, 12, 15, 16, 18, 19, 20, 21, 22, 23, 24, 25, 26, 27, 28, 29, 30, 31, 32, 33, 34, 35, 36, 37, 38, 39, 40, 41, 42, 43, 44, 45, 46, 47, 48, 49, 50, 51, 52, 53, 54, 55, 56, 57, 58, 59, 60, 61, 62, 63, 64, 65, 66, 67, 68, 69, 70, 71, 72, 73, 74, 75, 76, 77, 78, 79, 80, 81, 82, 83, 84, 85, 86, 87, 88, 89, 90, 91, 92, 93, 94, 95, 96, 97, 98, 99, 100, 101, 102, 103, 104, 105, 106, 107, 108, 109, 110, 111, 112, 113, 114, 115, 116, 117, 118, 119, 120, 121, 122, 123, 124, 125, 126, 127, 128, 129, 130, 131, 132, 133, 134, 135, 136, 137, 138, 139, 140, 141, 142, 143, 144, 145, 146, 147, 148, 149, 150, 151, 152, 153, 154, 155, 156, 157, 158, 159, 160, 161, 162, 163, 164, 165, 166, 167, 168, 169, 170] t = [.slice va n vc, unk, unk, unk, unk, unk, .pointer (some ⟨n0, 0, none⟩), V m1 n, V m2 n, unk, unk, .pointer (some ⟨w, 0, none⟩), unk, x0, v14, unk, unk, .int .i64 0, unk, unk, unk, unk, unk, unk, unk, unk, unk, unk, unk, unk, unk, unk, unk, unk, unk, unk, unk, unk, unk, unk, unk, unk, unk, unk, unk, unk, unk, unk, unk, unk, unk, unk, unk, unk, unk, unk, unk, unk, unk, unk, unk, unk, unk, unk, unk, unk, unk, unk, unk, unk, unk, unk, unk, unk, unk, unk, unk, unk, unk, unk, unk, unk, unk, unk, unk, unk, unk, unk, unk, unk, unk, unk, unk, unk, unk, unk, unk, unk, unk, unk, unk, unk, unk, unk, unk, unk, unk, unk, unk, unk, unk, unk, unk, unk, unk, unk, unk, unk, unk, unk, unk, unk, unk, unk, unk, unk, unk, unk, unk, unk, unk, unk, unk, unk, unk, unk, unk, unk, unk, unk, unk, unk, unk, unk, unk, unk, unk, unk, unk, unk, unk, unk, unk, unk, unk, unk, unk, unk, unk, unk, unk, unk, unk, unk, unk, unk, unk, unk, unk, unk, unk]) :
    ∃ x r h' x132 x133, loopω [1, 2, 3, 4, 5, 9, 10, 12, 15, 16, 18, 19, 20, 21, 22, 23, 24, 25, 26, 27, 28, 29, 30, 31, 32, 33, 34, 35, 36, 37, 38, 39, 40, 41, 42, 43, 44, 45, 46, 47, 48, 49, 50, 51, 52, 53, 54, 55, 56, 57, 58, 59, 60, 61, 62, 63, 64, 65, 66, 67, 68, 69, 70, 71, 72, 73, 74, 75, 76, 77, 78, 79, 80, 81, 82, 83, 84, 85, 86, 87, 88, 89, 90, 91, 92, 93, 94, 95, 96, 97, 98, 99, 100, 101, 102, 103, 104, 105, 106, 107, 108, 109, 110, 111, 112, 113, 114, 115, 116, 117, 118, 119, 120, 121, 122, 123, 124, 125, 126, 127, 128, 129, 130, 131, 132, 133, 134, 135, 136, 137, 138, 139, 140, 141, 142, 143, 144, 145, 146, 147, 148, 149, 150, 151, 152, 153, 154, 155, 156, 157, 158, 159, 160, 161, 162, 163, 164, 165, 166, 167, 168, 169, 170] F t h0 = some (.exit 10, [.slice va n vc, unk, unk, unk, unk, unk, .pointer (some ⟨n0, 0, none⟩), r, V m2 n, unk, unk, .pointer (some ⟨w, 0, none⟩), unk, x, v14, unk, unk, .int .i64 20, unk, unk, unk, unk, unk, unk, unk, unk, unk, unk, unk, unk, unk, unk, unk, unk, unk, unk, unk, unk, unk, unk, unk, unk, unk, unk, unk, unk, unk, unk, unk, unk, unk, unk, unk, unk, unk, unk, unk, unk, unk, unk, unk, unk, unk, unk, unk, unk, unk, unk, unk, unk, unk, unk, unk, unk, unk, unk, unk, unk, unk, unk, unk, unk, unk, unk, unk, unk, unk, unk, unk, unk, unk, unk, unk, unk, unk, unk, unk, unk, unk, unk, unk, unk, unk, unk, unk, unk, unk, unk, unk, unk, unk, unk, unk, unk, unk, unk, unk, unk, unk, unk, unk, unk, unk, unk, unk, unk, unk, unk, unk, unk, unk, unk, x132, x133, unk, unk, unk, unk, unk, unk, unk, unk, unk, unk, unk, unk, unk, unk, unk, unk, unk, unk, unk, unk, unk, unk, unk, unk, unk, unk, unk, unk, unk, unk, unk, unk, unk, unk, unk, unk, unk], h') ∧ AG h0 h' x r x0 m1 n K 20 := by
  subst hFF
  suffices hs : ∃ e t' h', loopω [1, 2, 3, 4, 5, 9, 10, 12, 15, 16, 18, 19, 20, 21, 22, 23, 24, 25, 26, 27, 28, 29, 30, 31, 32, 33, 34, 35, 36, 37, 38, 39, 40, 41, 42, 43, 44, 45, 46, 47, 48, 49, 50, 51, 52, 53, 54, 55, 56, 57, 58, 59, 60, 61, 62, 63, 64, 65, 66, 67, 68, 69, 70, 71, 72, 73, 74, 75, 76, 77, 78, 79, 80, 81, 82, 83, 84, 85, 86, 87, 88, 89, 90, 91, 92, 93, 94, 95, 96, 97, 98, 99, 100, 101, 102, 103, 104, 105, 106, 107, 108, 109, 110, 111, 112, 113, 114, 115, 116, 117, 118, 119, 120, 121, 122, 123, 124, 125, 126, 127, 128, 129, 130, 131, 132, 133, 134, 135, 136, 137, 138, 139, 140, 141, 142, 143, 144, 145, 146, 147, 148, 149, 150, 151, 152, 153, 154, 155, 156, 157, 158, 159, 160, 161, 162, 163, 164, 165, 166, 167, 168, 169, 170] (aexecP Try.prog (sB 8) (run Try.prog sB) loopω pt8 (lb8 5)) t h0 = some (e, t', h') ∧ (e = .exit 10 ∧ ∃ x r x132 x133, t' = [.slice va n vc, unk, unk, unk, unk, unk, .pointer (some ⟨n0, 0, none⟩), r, V m2 n, unk, unk, .pointer (some ⟨w, 0, none⟩), unk, x, v14, unk, unk, .int .i64 20, unk, unk, unk, unk, unk, unk, unk, unk, unk, unk, unk, unk, unk, unk, unk, unk, unk, unk, unk, unk, unk, unk, unk, unk, unk, unk, unk, unk, unk, unk, unk, unk, unk, unk, unk, unk, unk, unk, unk, unk, unk, unk, unk, unk, unk, unk, unk, unk, unk, unk, unk, unk, unk, unk, unk, unk, unk, unk, unk, unk, unk, unk, unk, unk, unk, unk, unk, unk, unk, unk, unk, unk, unk, unk, unk, unk, unk, unk, unk, unk, unk, unk, unk, unk, unk, unk, unk, unk, unk, unk, unk, unk, unk, unk, unk, unk, unk, unk, unk, unk, unk, unk, unk, unk, unk, unk, unk, unk, unk, unk, unk, unk, unk, unk, x132, x133, unk, unk, unk, unk, unk, unk, unk, unk, unk, unk, unk, unk, unk, unk, unk, unk, unk, unk, unk, unk, unk, unk, unk, unk, unk, unk, unk, unk, unk, unk, unk, unk, unk, unk, unk, unk, unk] ∧ AG h0 h' x r x0 m1 n K 20) by
    obtain ⟨e, t', h', q1, rfl, x, r, x132, x133, rfl, q2⟩ := hs
    exact ⟨x, r, h', x132, x133, q1, q2⟩
  simp only [lb8, Try.f8, loopsOf, Option.getD_some, List.nil_append, List.append_nil, List.cons_append, List.getD_cons_zero, List.getD_cons_succ]
  refine loop_by (fun k t h' => ∃ (i : Nat) (x r : Value), i + k = 20 ∧ forget [1, 2, 3, 4, 5, 9, 10, 12, 15, 16, 18, 19, 20, 21, 22, 23, 24, 25, 26, 27, 28, 29, 30, 31, 32, 33, 34, 35, 36, 37, 38, 39, 40, 41, 42, 43, 44, 45, 46, 47, 48, 49, 50, 51, 52, 53, 54, 55, 56, 57, 58, 59, 60, 61, 62, 63, 64, 65, 66, 67, 68, 69, 70, 71, 72, 73, 74, 75, 76, 77, 78, 79, 80, 81, 82, 83, 84, 85, 86, 87, 88, 89, 90, 91, 92, 93, 94, 95, 96, 97, 98, 99, 100, 101, 102, 103, 104, 105, 106, 107, 108, 109, 110, 111, 112, 113, 114, 115, 116, 117, 118, 119, 120, 121, 122, 123, 124, 125, 126, 127, 128, 129, 130, 131, 132, 133, 134, 135, 136, 137, 138, 139, 140, 141, 142, 143, 144, 145, 146, 147, 148, 149, 150, 151, 152, 153, 154, 155, 156, 157, 158, 159, 160, 161, 162, 163, 164, 165, 166, 167, 168, 169, 170] t = [.slice va n vc, unk, unk, unk, unk, unk, .pointer (some ⟨n0, 0, none⟩), r, V m2 n, unk, unk, .pointer (some ⟨w, 0, none⟩), unk, x, v14, unk, unk, .int .i64 (i : Nat), unk, unk, unk, unk, unk, unk, unk, unk, unk, unk, unk, unk, unk, unk, unk, unk, unk, unk, unk, unk, unk, unk, unk, unk, unk, unk, unk, unk, unk, unk, unk, unk, unk, unk, unk, unk, unk, unk, unk, unk, unk, unk, unk, unk, unk, unk, unk, unk, unk, unk, unk, unk, unk, unk, unk, unk, unk, unk, unk, unk, unk, unk, unk, unk, unk, unk, unk, unk, unk, unk, unk, unk, unk, unk, unk, unk, unk, unk, unk, unk, unk, unk, unk, unk, unk, unk, unk, unk, unk, unk, unk, unk, unk, unk, unk, unk, unk, unk, unk, unk, unk, unk, unk, unk, unk, unk, unk, unk, unk, unk, unk, unk, unk, unk, unk, unk, unk, unk, unk, unk, unk, unk, unk, unk, unk, unk, unk, unk, unk, unk, unk, unk, unk, unk, unk, unk, unk, unk, unk, unk, unk, unk, unk, unk, unk, unk, unk, unk, unk, unk, unk, unk, unk] ∧ AG h0 h' x r x0 m1 n K i)
    (fun e t' h' => e = .exit 10 ∧ ∃ x r x132 x133, t' = [.slice va n vc, unk, unk, unk, unk, unk, .pointer (some ⟨n0, 0, none⟩), r, V m2 n, unk, unk, .pointer (some ⟨w, 0, none⟩), unk, x, v14, unk, unk, .int .i64 20, unk, unk, unk, unk, unk, unk, unk, unk, unk, unk, unk, unk, unk, unk, unk, unk, unk, unk, unk, unk, unk, unk, unk, unk, unk, unk, unk, unk, unk, unk, unk, unk, unk, unk, unk, unk, unk, unk, unk, unk, unk, unk, unk, unk, unk, unk, unk, unk, unk, unk, unk, unk, unk, unk, unk, unk, unk, unk, unk, unk, unk, unk, unk, unk, unk, unk, unk, unk, unk, unk, unk, unk, unk, unk, unk, unk, unk, unk, unk, unk, unk, unk, unk, unk, unk, unk, unk, unk, unk, unk, unk, unk, unk, unk, unk, unk, unk, unk, unk, unk, unk, unk, unk, unk, unk, unk, unk, unk, unk, unk, unk, unk, unk, unk, x132, x133, unk, unk, unk, unk, unk, unk, unk, unk, unk, unk, unk, unk, unk, unk, unk, unk, unk, unk, unk, unk, unk, unk, unk, unk, unk, unk, unk, unk, unk, unk, unk, unk, unk, unk, unk, unk, unk] ∧ AG h0 h' x r x0 m1 n K 20) ?_ 20 _ _ ⟨0, x0, V m1 n, by omega, ht, hst⟩
  rintro k t h' ⟨i, x, r, hi, ht, hI⟩
  rw [ht]
  rcases Nat.lt_or_ge i 20 with h1 | h1
  · have hinc := @inc64 i (by omega)
    have hcs := cast_succ i
    have hlt : (i : Int) < 20 := by omega
    obtain ⟨x', h2, r', h3, e1, e2, st⟩ := hI.step hm1 hv1 (by omega) (by omega)
    clear hI ht
    simp (maxSteps := 2000000) -implicitDefEqProofs [px_skip, px_label, px_region, px_draw, qx_seq, qx_cond, px_block, px_loop, px_scope, px_exit, px_ret, seqK_normal, seqK_exit, seqK_ret, condK_true, condK_false, opsK_some, wK_true, wK_false, itK_some, aops_nil, aops_cons, lK_some, aK_some, hK_some, dwK_true, dwK_false, diK_some, dK_light, dK_alloc, dK_heavy, adraw_nil, adraw_cons, aop, cls, light, lightS, binE, aeq, intBin, goInt, pl_int, pl_bool, pl_ptr, pl_slice, aload, isAggT, aeval, tput, awanted, List.range_succ, fin, aresults, aresult, List.replicate, heavy, acallOp, aenter, ble_d, beq_d, firstRegion, readNames, Nxt, isAnc, readsOk, objEq_some, hlt, build58_1, (fun ρ x => bs40_1 ρ x (-2) 0), e1, bs28_c, e2, hinc]
    exact ⟨k - 1, by omega, i + 1, by omega, x', r', by simp (maxSteps := 2000000) only [forget, List.set_cons_succ, List.set_cons_zero, hcs], st⟩
  · obtain rfl : i = 20 := by omega
    simp (maxSteps := 2000000) -implicitDefEqProofs [px_skip, px_label, px_region, px_draw, qx_seq, qx_cond, px_block, px_loop, px_scope, px_exit, px_ret, seqK_normal, seqK_exit, seqK_ret, condK_true, condK_false, opsK_some, wK_true, wK_false, itK_some, aops_nil, aops_cons, lK_some, aK_some, hK_some, dwK_true, dwK_false, diK_some, dK_light, dK_alloc, dK_heavy, adraw_nil, adraw_cons, aop, cls, light, lightS, binE, aeq, intBin, goInt, pl_int, pl_bool, pl_ptr, pl_slice, aload, isAggT, aeval, tput, awanted, List.range_succ, fin, aresults, aresult, List.replicate, heavy, acallOp, aenter, ble_d, beq_d, firstRegion, readNames, Nxt, isAnc, readsOk, objEq_some]
    exact ⟨x, r, ⟨rfl, rfl⟩, hI⟩
end Go.Proofs.Ythkefkpmgleolab.Bi
