/- Odds: operations on limbs told as equations; appends, and what a function answers. -/
import Derived.Test.YtmnkmdfladbgdaaOd7
import Derived.Test.YtmnkmdfladbgdaaOl1
set_option linter.unusedVariables false
set_option linter.unusedSimpArgs false
namespace Go.Proofs.Ytmnkmdfladbgdaa.Od
open Go Go.Proofs Go.RowKit Go.Proofs.YtmnkmdfladbgdaaAI Go.Proofs.YtmnkmdfladbgdaaFl

theorem cv101_37' (n : Int) : pureRun Try.prog (do let z ← convert 101 37 (.int .u32 n); pure (Next.value z)) = some (.value (.int .u64 (IntKind.u64.wrap n))) := by kernel_rfl
theorem cv101_37 (t : Tm) (x : Operand) (n : Int) (hx : aeval t x = .int .u32 n) (d ty pos af gu) : purerule Try.prog (aeval t) ⟨d, .convert 101 37 x, ty, pos, af, gu⟩ = some (.int .u64 (IntKind.u64.wrap n)) := by
  refine pure_of rfl ?_ ?_ rfl
  · simp [Op.operands, hx, pli]
  · have : execOp (aeval t) ⟨d, .convert 101 37 x, ty, pos, af, gu⟩ = (do let z ← convert 101 37 (aeval t x); pure (Next.value z)) := by simp [execOp]
    rw [this, hx]; exact cv101_37' n
theorem cv37_101' (n : Int) : pureRun Try.prog (do let z ← convert 37 101 (.int .u64 n); pure (Next.value z)) = some (.value (.int .u32 (IntKind.u32.wrap n))) := by kernel_rfl
theorem cv37_101 (t : Tm) (x : Operand) (n : Int) (hx : aeval t x = .int .u64 n) (d ty pos af gu) : purerule Try.prog (aeval t) ⟨d, .convert 37 101 x, ty, pos, af, gu⟩ = some (.int .u32 (IntKind.u32.wrap n)) := by
  refine pure_of rfl ?_ ?_ rfl
  · simp [Op.operands, hx, pli]
  · have : execOp (aeval t) ⟨d, .convert 37 101 x, ty, pos, af, gu⟩ = (do let z ← convert 37 101 (aeval t x); pure (Next.value z)) := by simp [execOp]
    rw [this, hx]; exact cv37_101' n
theorem cv3_117' (n : Int) : pureRun Try.prog (do let z ← convert 3 117 (.int .i64 n); pure (Next.value z)) = some (.value (.int .u64 (IntKind.u64.wrap n))) := by kernel_rfl
theorem cv3_117 (t : Tm) (x : Operand) (n : Int) (hx : aeval t x = .int .i64 n) (d ty pos af gu) : purerule Try.prog (aeval t) ⟨d, .convert 3 117 x, ty, pos, af, gu⟩ = some (.int .u64 (IntKind.u64.wrap n)) := by
  refine pure_of rfl ?_ ?_ rfl
  · simp [Op.operands, hx, pli]
  · have : execOp (aeval t) ⟨d, .convert 3 117 x, ty, pos, af, gu⟩ = (do let z ← convert 3 117 (aeval t x); pure (Next.value z)) := by simp [execOp]
    rw [this, hx]; exact cv3_117' n
theorem cv101_2' (n : Int) : pureRun Try.prog (do let z ← convert 101 2 (.int .u32 n); pure (Next.value z)) = some (.value (.int .i64 (IntKind.i64.wrap n))) := by kernel_rfl
theorem cv101_2 (t : Tm) (x : Operand) (n : Int) (hx : aeval t x = .int .u32 n) (d ty pos af gu) : purerule Try.prog (aeval t) ⟨d, .convert 101 2 x, ty, pos, af, gu⟩ = some (.int .i64 (IntKind.i64.wrap n)) := by
  refine pure_of rfl ?_ ?_ rfl
  · simp [Op.operands, hx, pli]
  · have : execOp (aeval t) ⟨d, .convert 101 2 x, ty, pos, af, gu⟩ = (do let z ← convert 101 2 (aeval t x); pure (Next.value z)) := by simp [execOp]
    rw [this, hx]; exact cv101_2' n
theorem cv2_101' (n : Int) : pureRun Try.prog (do let z ← convert 2 101 (.int .i64 n); pure (Next.value z)) = some (.value (.int .u32 (IntKind.u32.wrap n))) := by kernel_rfl
theorem cv2_101 (t : Tm) (x : Operand) (n : Int) (hx : aeval t x = .int .i64 n) (d ty pos af gu) : purerule Try.prog (aeval t) ⟨d, .convert 2 101 x, ty, pos, af, gu⟩ = some (.int .u32 (IntKind.u32.wrap n)) := by
  refine pure_of rfl ?_ ?_ rfl
  · simp [Op.operands, hx, pli]
  · have : execOp (aeval t) ⟨d, .convert 2 101 x, ty, pos, af, gu⟩ = (do let z ← convert 2 101 (aeval t x); pure (Next.value z)) := by simp [execOp]
    rw [this, hx]; exact cv2_101' n
theorem cv37_3' (n : Int) : pureRun Try.prog (do let z ← convert 37 3 (.int .u64 n); pure (Next.value z)) = some (.value (.int .i64 (IntKind.i64.wrap n))) := by kernel_rfl
theorem cv37_3 (t : Tm) (x : Operand) (n : Int) (hx : aeval t x = .int .u64 n) (d ty pos af gu) : purerule Try.prog (aeval t) ⟨d, .convert 37 3 x, ty, pos, af, gu⟩ = some (.int .i64 (IntKind.i64.wrap n)) := by
  refine pure_of rfl ?_ ?_ rfl
  · simp [Op.operands, hx, pli]
  · have : execOp (aeval t) ⟨d, .convert 37 3 x, ty, pos, af, gu⟩ = (do let z ← convert 37 3 (aeval t x); pure (Next.value z)) := by simp [execOp]
    rw [this, hx]; exact cv37_3' n
theorem cv3_37' (n : Int) : pureRun Try.prog (do let z ← convert 3 37 (.int .i64 n); pure (Next.value z)) = some (.value (.int .u64 (IntKind.u64.wrap n))) := by kernel_rfl
theorem cv3_37 (t : Tm) (x : Operand) (n : Int) (hx : aeval t x = .int .i64 n) (d ty pos af gu) : purerule Try.prog (aeval t) ⟨d, .convert 3 37 x, ty, pos, af, gu⟩ = some (.int .u64 (IntKind.u64.wrap n)) := by
  refine pure_of rfl ?_ ?_ rfl
  · simp [Op.operands, hx, pli]
  · have : execOp (aeval t) ⟨d, .convert 3 37 x, ty, pos, af, gu⟩ = (do let z ← convert 3 37 (aeval t x); pure (Next.value z)) := by simp [execOp]
    rw [this, hx]; exact cv3_37' n
theorem shl37' (x y : Operand) (a b : Int) (hb : 0 ≤ b) : pureRun Try.prog (do let z ← (do eqGuard .shl 37 x y (.int .u64 a) (.int .u64 b); binOp .shl 37 (.int .u64 a) (.int .u64 b)); pure (Next.value z)) = some (.value (.int .u64 (IntKind.u64.wrap (a * 2 ^ (min b.toNat 64))))) := by
  have e : (do let z ← (do eqGuard .shl 37 x y (.int .u64 a) (.int .u64 b); binOp .shl 37 (.int .u64 a) (.int .u64 b)); pure (Next.value z) : Sem Next) = (do let z ← Op.shift .shl .u64 a .u64 b; pure (Next.value z)) := by kernel_rfl
  rw [e]
  unfold Op.shift
  rw [if_neg (by omega)]
  rfl
theorem shl37 (t : Tm) (x y : Operand) (a b : Int) (hx : aeval t x = .int .u64 a) (hy : aeval t y = .int .u64 b) (hb : 0 ≤ b) (d r ty pos af gu) : purerule Try.prog (aeval t) ⟨d, .binOp .shl 37 x y r, ty, pos, af, gu⟩ = some (.int .u64 (IntKind.u64.wrap (a * 2 ^ (min b.toNat 64)))) := by
  refine pure_of rfl ?_ ?_ rfl
  · simp [Op.operands, hx, hy, pli]
  · have : execOp (aeval t) ⟨d, .binOp .shl 37 x y r, ty, pos, af, gu⟩ = (do let z ← (do eqGuard .shl 37 x y (aeval t x) (aeval t y); binOp .shl 37 (aeval t x) (aeval t y)); pure (Next.value z)) := by simp [execOp]
    rw [this, hx, hy]; exact shl37' x y a b hb
theorem shr37' (x y : Operand) (a b : Int) (hb : 0 ≤ b) : pureRun Try.prog (do let z ← (do eqGuard .shr 37 x y (.int .u64 a) (.int .u64 b); binOp .shr 37 (.int .u64 a) (.int .u64 b)); pure (Next.value z)) = some (.value (.int .u64 (a.fdiv (2 ^ (min b.toNat 64))))) := by
  have e : (do let z ← (do eqGuard .shr 37 x y (.int .u64 a) (.int .u64 b); binOp .shr 37 (.int .u64 a) (.int .u64 b)); pure (Next.value z) : Sem Next) = (do let z ← Op.shift .shr .u64 a .u64 b; pure (Next.value z)) := by kernel_rfl
  rw [e]
  unfold Op.shift
  rw [if_neg (by omega)]
  rfl
theorem shr37 (t : Tm) (x y : Operand) (a b : Int) (hx : aeval t x = .int .u64 a) (hy : aeval t y = .int .u64 b) (hb : 0 ≤ b) (d r ty pos af gu) : purerule Try.prog (aeval t) ⟨d, .binOp .shr 37 x y r, ty, pos, af, gu⟩ = some (.int .u64 (a.fdiv (2 ^ (min b.toNat 64)))) := by
  refine pure_of rfl ?_ ?_ rfl
  · simp [Op.operands, hx, hy, pli]
  · have : execOp (aeval t) ⟨d, .binOp .shr 37 x y r, ty, pos, af, gu⟩ = (do let z ← (do eqGuard .shr 37 x y (aeval t x) (aeval t y); binOp .shr 37 (aeval t x) (aeval t y)); pure (Next.value z)) := by simp [execOp]
    rw [this, hx, hy]; exact shr37' x y a b hb
theorem shl101' (x y : Operand) (a b : Int) (hb : 0 ≤ b) : pureRun Try.prog (do let z ← (do eqGuard .shl 101 x y (.int .u32 a) (.int .u64 b); binOp .shl 101 (.int .u32 a) (.int .u64 b)); pure (Next.value z)) = some (.value (.int .u32 (IntKind.u32.wrap (a * 2 ^ (min b.toNat 32))))) := by
  have e : (do let z ← (do eqGuard .shl 101 x y (.int .u32 a) (.int .u64 b); binOp .shl 101 (.int .u32 a) (.int .u64 b)); pure (Next.value z) : Sem Next) = (do let z ← Op.shift .shl .u32 a .u64 b; pure (Next.value z)) := by kernel_rfl
  rw [e]
  unfold Op.shift
  rw [if_neg (by omega)]
  rfl
theorem shl101 (t : Tm) (x y : Operand) (a b : Int) (hx : aeval t x = .int .u32 a) (hy : aeval t y = .int .u64 b) (hb : 0 ≤ b) (d r ty pos af gu) : purerule Try.prog (aeval t) ⟨d, .binOp .shl 101 x y r, ty, pos, af, gu⟩ = some (.int .u32 (IntKind.u32.wrap (a * 2 ^ (min b.toNat 32)))) := by
  refine pure_of rfl ?_ ?_ rfl
  · simp [Op.operands, hx, hy, pli]
  · have : execOp (aeval t) ⟨d, .binOp .shl 101 x y r, ty, pos, af, gu⟩ = (do let z ← (do eqGuard .shl 101 x y (aeval t x) (aeval t y); binOp .shl 101 (aeval t x) (aeval t y)); pure (Next.value z)) := by simp [execOp]
    rw [this, hx, hy]; exact shl101' x y a b hb
theorem shr101' (x y : Operand) (a b : Int) (hb : 0 ≤ b) : pureRun Try.prog (do let z ← (do eqGuard .shr 101 x y (.int .u32 a) (.int .u64 b); binOp .shr 101 (.int .u32 a) (.int .u64 b)); pure (Next.value z)) = some (.value (.int .u32 (a.fdiv (2 ^ (min b.toNat 32))))) := by
  have e : (do let z ← (do eqGuard .shr 101 x y (.int .u32 a) (.int .u64 b); binOp .shr 101 (.int .u32 a) (.int .u64 b)); pure (Next.value z) : Sem Next) = (do let z ← Op.shift .shr .u32 a .u64 b; pure (Next.value z)) := by kernel_rfl
  rw [e]
  unfold Op.shift
  rw [if_neg (by omega)]
  rfl
theorem shr101 (t : Tm) (x y : Operand) (a b : Int) (hx : aeval t x = .int .u32 a) (hy : aeval t y = .int .u64 b) (hb : 0 ≤ b) (d r ty pos af gu) : purerule Try.prog (aeval t) ⟨d, .binOp .shr 101 x y r, ty, pos, af, gu⟩ = some (.int .u32 (a.fdiv (2 ^ (min b.toNat 32)))) := by
  refine pure_of rfl ?_ ?_ rfl
  · simp [Op.operands, hx, hy, pli]
  · have : execOp (aeval t) ⟨d, .binOp .shr 101 x y r, ty, pos, af, gu⟩ = (do let z ← (do eqGuard .shr 101 x y (aeval t x) (aeval t y); binOp .shr 101 (aeval t x) (aeval t y)); pure (Next.value z)) := by simp [execOp]
    rw [this, hx, hy]; exact shr101' x y a b hb
theorem wu64 {a s : Nat} (h : a = s) (hs : s < 18446744073709551616) : IntKind.u64.wrap (a : Int) = (s : Int) := by
  have : IntKind.u64.wrap (a : Int) = (a : Int) % 18446744073709551616 := rfl
  rw [this]; omega
theorem wu32 {a s : Nat} (h : a = s) (hs : s < 4294967296) : IntKind.u32.wrap (a : Int) = (s : Int) := by
  have : IntKind.u32.wrap (a : Int) = (a : Int) % 4294967296 := rfl
  rw [this]; omega
theorem wi64 {a s : Nat} (h : a = s) (hs : s < 9223372036854775808) : IntKind.i64.wrap (a : Int) = (s : Int) := by
  rw [IntWalk.i64_in _ (by omega)]; omega
theorem au64 {a b s : Nat} (h : a + b = s) (hs : s < 18446744073709551616) : IntKind.u64.wrap ((a : Int) + (b : Int)) = (s : Int) := by
  have : IntKind.u64.wrap ((a : Int) + (b : Int)) = ((a : Int) + (b : Int)) % 18446744073709551616 := rfl
  rw [this]; omega
theorem ai64 {a b s : Nat} (h : a + b = s) (hs : s < 9223372036854775808) : IntKind.i64.wrap ((a : Int) + (b : Int)) = (s : Int) := by
  rw [IntWalk.i64_in _ (by omega)]; omega
theorem si64 {a b s : Nat} (h : a = b + s) (hs : a < 9223372036854775808) : IntKind.i64.wrap ((a : Int) - (b : Int)) = (s : Int) := by
  rw [IntWalk.i64_in _ (by omega)]; omega
theorem s1i64 {a s : Nat} (h : a = s + 1) (hs : a < 9223372036854775808) : IntKind.i64.wrap ((a : Int) - 1) = (s : Int) := by
  rw [IntWalk.i64_in _ (by omega)]; omega
theorem mod32 {a s : Nat} (h : a % 4294967296 = s) : (a : Int).tmod 4294967296 = (s : Int) := by
  have : (a : Int).tmod 4294967296 = ((a % 4294967296 : Nat) : Int) := rfl
  rw [this, h]
theorem quo32 {a s : Nat} (h : a / 4294967296 = s) (hs : s < 18446744073709551616) : IntKind.u64.wrap ((a : Int).tdiv 4294967296) = (s : Int) := by
  have : (a : Int).tdiv 4294967296 = ((a / 4294967296 : Nat) : Int) := rfl
  rw [this]; exact wu64 h hs
theorem fdivn (a k : Nat) : (a : Int).fdiv (2 ^ k) = ((a / 2 ^ k : Nat) : Int) := by
  rw [Int.fdiv_eq_ediv_of_nonneg _ (Int.le_of_lt (by exact_mod_cast Nat.two_pow_pos k))]; simp
theorem shl64 {a k s : Nat} (h : a * 2 ^ k = s) (hk : k ≤ 64) (hs : s < 18446744073709551616) : IntKind.u64.wrap ((a : Int) * 2 ^ (min k 64)) = (s : Int) := by
  rw [Nat.min_eq_left hk]
  have : (a : Int) * 2 ^ k = ((a * 2 ^ k : Nat) : Int) := by simp
  rw [this]; exact wu64 h hs
theorem shr64 {a k s : Nat} (h : a / 2 ^ k = s) (hk : k ≤ 64) : (a : Int).fdiv (2 ^ (min k 64)) = (s : Int) := by
  rw [Nat.min_eq_left hk, fdivn, h]
theorem shl32 {a k s : Nat} (h : a * 2 ^ k = s) (hk : k ≤ 32) (hs : s < 4294967296) : IntKind.u32.wrap ((a : Int) * 2 ^ (min k 32)) = (s : Int) := by
  rw [Nat.min_eq_left hk]
  have : (a : Int) * 2 ^ k = ((a * 2 ^ k : Nat) : Int) := by simp
  rw [this]; exact wu32 h hs
theorem shr32 {a k s : Nat} (h : a / 2 ^ k = s) (hk : k ≤ 32) : (a : Int).fdiv (2 ^ (min k 32)) = (s : Int) := by
  rw [Nat.min_eq_left hk, fdivn, h]
/-- One limb more. -/
theorem app_u3 {h : Heap} {v : Value} {l : List Nat} (hl : Lg h v 101 1 l.length (u3 l)) (hk : l.length + 1 ≤ 100000) (x : Nat) :
    ∃ v' h', aappend Try.prog 40 40 v (.slice (some ⟨h.next, 0, none⟩) 1 1) (h.new (.cells [.int .u32 (x : Nat)] 101 1 false false)) = some (v', h') ∧ Lg h' v' 101 1 (l ++ [x]).length (u3 (l ++ [x])) ∧ Keep (fun m => nm v = some m) h h' ∧ ∀ m, nm v' = some m → nm v = some m ∨ h.next ≤ m := by
  have k0 := Keep.new No h (.cells [.int .u32 (x : Nat)] 101 1 false false)
  have hx : Sl (h.new (.cells [.int .u32 (x : Nat)] 101 1 false false)) (.slice (some ⟨h.next, 0, none⟩) 1 1) 1 1 [.int .u32 (x : Nat)] :=
    ⟨rfl, .inr ⟨_, _, rfl, fun _ => ⟨_, _, _, _, _, by rw [Heap.get_new, if_pos rfl], rfl⟩⟩⟩
  obtain ⟨v8, h8, e8, lg8, kp8, nv8, _, nf8⟩ := append_lg (t := 40) (xt := 40) Try.underlying40 Try.underlying40 rfl el101 (hl.keep k0 (fun _ _ x => x)) hx (by omega) (by omega) rfl
  refine ⟨v8, h8, e8, by rw [u3_snoc, List.length_append]; exact lg8, (k0.mono fun m _ x => x.elim).also kp8 fun m _ x => x, fun m e => ?_⟩
  rcases Nat.lt_or_ge m (h.next + 1) with y | y
  · exact .inl (nv8 m e (by rw [Heap.next_new]; exact y))
  · exact .inr (by omega)
/-- Limbs that come in. -/
def Na (h : Heap) (v : Value) (l : List Nat) : Prop := Sl h v 1 l.length (u3 l) ∧ W32 l ∧ l.length ≤ 1000
/-- A natural that is answered: its own limbs, new memory. -/
def Nt (h0 h : Heap) (v : Value) (n : Nat) : Prop := Lg h v 101 1 (lm n).length (u3 (lm n)) ∧ Keep No h0 h ∧ ∀ m, nm v = some m → h0.next ≤ m
theorem Na.keep {h h' : Heap} {v : Value} {l : List Nat} (hn : Na h v l) (hk : Keep No h h') : Na h' v l := ⟨hn.1.keep hk fun _ _ x => x, hn.2⟩
theorem Nt.na {h0 h : Heap} {v : Value} {n : Nat} (hn : Nt h0 h v n) (hk : (lm n).length ≤ 1000) : Na h v (lm n) := ⟨hn.1.sl, lm_w n, hk⟩
end Go.Proofs.Ytmnkmdfladbgdaa.Od
