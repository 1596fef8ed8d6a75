/- Odds: a natural's digits, told plainly. -/
import Derived.Test.YtmnkmdfladbgdaaAI20
import Derived.Test.YtmnkmdfladbgdaaOd8
set_option linter.unusedVariables false
set_option linter.unusedSimpArgs false
namespace Go.Proofs.Ytmnkmdfladbgdaa.Od
open Go Go.Proofs Go.Proofs.YtmnkmdfladbgdaaAI

/-- What limbs say, the least first. -/
def nv : List Nat → Nat
  | [] => 0
  | x :: l => x + 4294967296 * nv l
def W32 (l : List Nat) : Prop := ∀ x ∈ l,x < 4294967296
/-- A natural's limbs, without noughts at its end. -/
def lm (n : Nat) : List Nat := if h : n = 0 then [] else n % 4294967296 :: lm (n / 4294967296)
termination_by n
decreasing_by omega
theorem lm_zero : lm 0 = [] := by rw [lm]; simp
theorem lm_pos {n : Nat} (h : 0 < n) : lm n = n % 4294967296 :: lm (n / 4294967296) := by rw [lm,dif_neg (by omega)]
theorem nv_lm (n : Nat) : nv (lm n) = n := by
  induction n using Nat.strongRecOn with
  | _ n ih =>
    rcases Nat.eq_zero_or_pos n with h | h
    · rw [h,lm_zero]; rfl
    · rw [lm_pos h,nv,ih _ (by omega)]; omega
theorem lm_w (n : Nat) : W32 (lm n) := by
  induction n using Nat.strongRecOn with
  | _ n ih =>
    rcases Nat.eq_zero_or_pos n with h | h
    · rw [h,lm_zero]; intro x hx; cases hx
    · rw [lm_pos h]
      intro x hx
      rcases List.mem_cons.1 hx with rfl | hx
      · exact Nat.mod_lt _ (by omega)
      · exact ih _ (by omega) x hx
theorem nv_append (l m : List Nat) : nv (l ++ m) = nv l + 4294967296 ^ l.length * nv m := by
  induction l with
  | nil => simp [nv]
  | cons x l ih =>
    rw [List.cons_append,nv,ih,nv,List.length_cons,Nat.pow_succ,Nat.mul_add,← Nat.mul_assoc,Nat.mul_comm 4294967296 (4294967296 ^ l.length)]
    omega
theorem nv_zeros (k : Nat) : nv (List.replicate k 0) = 0 := by
  induction k with
  | zero => rfl
  | succ k ih => rw [List.replicate_succ,nv,ih]
theorem W32.tail {x : Nat} {l : List Nat} (h : W32 (x :: l)) : W32 l := fun y hy => h y (List.mem_cons_of_mem _ hy)
theorem nv_lt {l : List Nat} (h : W32 l) : nv l < 4294967296 ^ l.length := by
  induction l with
  | nil => simp [nv]
  | cons x l ih =>
    have h1 := ih h.tail
    have h2 := h x (List.mem_cons_self ..)
    rw [nv,List.length_cons,Nat.pow_succ]
    omega
theorem lm_cons {x n : Nat} (hx : x < 4294967296) (h : 0 < x ∨ 0 < n) : lm (x + 4294967296 * n) = x :: lm n := by
  rw [lm_pos (by omega)]
  congr 1
  · omega
  · congr 1; omega
/-- Limbs are the natural's own, and noughts behind. -/
theorem trim_form {l : List Nat} (h : W32 l) : l = lm (nv l) ++ List.replicate (l.length - (lm (nv l)).length) 0 ∧ (lm (nv l)).length ≤ l.length := by
  suffices hs : ∃ k,l = lm (nv l) ++ List.replicate k 0 by
    obtain ⟨k,hk⟩ := hs
    have hl := congrArg List.length hk
    rw [List.length_append,List.length_replicate] at hl
    refine ⟨?_,by omega⟩
    rw [show l.length - (lm (nv l)).length = k by omega]
    exact hk
  induction l with
  | nil => exact ⟨0,by simp [nv,lm_zero]⟩
  | cons x l ih =>
    obtain ⟨k,hk⟩ := ih h.tail
    have hx := h x (List.mem_cons_self ..)
    by_cases h0 : 0 < x ∨ 0 < nv l
    · refine ⟨k,?_⟩
      rw [nv,lm_cons hx h0,List.cons_append,← hk]
    · have e1 : x = 0 := by omega
      have e2 : nv l = 0 := by omega
      refine ⟨k + 1,?_⟩
      rw [e2,lm_zero,List.nil_append] at hk
      rw [nv,e1,e2,Nat.mul_zero,Nat.add_zero,lm_zero,List.nil_append,List.replicate_succ,← hk]
theorem lm_last {n : Nat} (h : 0 < n) : 0 < (lm n).length ∧ (lm n).getD ((lm n).length - 1) 0 ≠ 0 := by
  induction n using Nat.strongRecOn with
  | _ n ih =>
    rw [lm_pos h]
    refine ⟨by simp,?_⟩
    rw [List.length_cons,Nat.add_sub_cancel]
    rcases Nat.eq_zero_or_pos (n / 4294967296) with h1 | h1
    · rw [h1,lm_zero]
      simp only [List.length_nil,List.getD_cons_zero]
      omega
    · obtain ⟨h2,h3⟩ := ih _ (by omega) h1
      obtain ⟨j,hj⟩ : ∃ j,(lm (n / 4294967296)).length = j + 1 := ⟨(lm (n / 4294967296)).length - 1,by omega⟩
      rw [hj] at h3 ⊢
      simpa using h3
theorem lm_len {n k : Nat} (h : n < 4294967296 ^ k) : (lm n).length ≤ k := by
  induction k generalizing n with
  | zero => rw [Nat.pow_zero] at h; rw [show n = 0 by omega,lm_zero]; exact Nat.le_refl _
  | succ k ih =>
    rcases Nat.eq_zero_or_pos n with h0 | h0
    · rw [h0,lm_zero]; simp
    · rw [lm_pos h0,List.length_cons]
      have : n / 4294967296 < 4294967296 ^ k := by rw [Nat.pow_succ] at h; exact Nat.div_lt_of_lt_mul (by omega)
      have := ih this
      omega
theorem nv_take {l : List Nat} {i : Nat} (hi : i < l.length) : nv (l.take (i + 1)) = nv (l.take i) + 4294967296 ^ i * l.getD i 0 := by
  rw [List.take_add_one,List.getElem?_eq_getElem hi,nv_append,List.length_take,Nat.min_eq_left (by omega)]
  simp [nv,List.getD_eq_getElem?_getD,List.getElem?_eq_getElem hi]
theorem nv_snoc (l : List Nat) (x : Nat) : nv (l ++ [x]) = nv l + 4294967296 ^ l.length * x := by
  rw [nv_append]; simp [nv]
theorem W32.get {l : List Nat} (h : W32 l) (i : Nat) : l.getD i 0 < 4294967296 := by
  rw [List.getD_eq_getElem?_getD]
  cases hx : l[i]? with
  | none => simp
  | some x => simpa using h x (List.mem_of_getElem? hx)
theorem W32.nil : W32 [] := fun x hx => by cases hx
/-- Limbs as cells. -/
def u3 (l : List Nat) : List Value := l.map fun (n : Nat) => Value.int .u32 (n : Int)
theorem u3_len (l : List Nat) : (u3 l).length = l.length := by simp [u3]
theorem u3_snoc (l : List Nat) (x : Nat) : u3 (l ++ [x]) = u3 l ++ [.int .u32 (x : Nat)] := by simp [u3]
theorem u3_get {l : List Nat} {i : Nat} (hi : i < l.length) : (u3 l)[i]? = some (.int .u32 (l.getD i 0 : Nat)) := by
  simp [u3,List.getElem?_eq_getElem hi]
theorem u3_set {l : List Nat} {i : Nat} (hi : i < l.length) (v : Nat) : List.take i (u3 l) ++ Value.int .u32 (v : Nat) :: List.drop (i + 1) (u3 l) = u3 (l.set i v) := by
  unfold u3
  rw [List.map_set,List.set_eq_take_append_cons_drop,if_pos (by simpa using hi)]
theorem sl_u3 {h : Heap} {v : Value} {k : Nat} {l : List Nat} (hs : Sl h v 1 k (u3 l)) {i : Nat} (hi : i < k) :
    ∃ a n c e s gr ro,v = .slice (some a) k n ∧ h.get a.block = some (.cells c e s gr ro) ∧ c[a.off + i]? = some (.int .u32 (l.getD i 0 : Nat)) := by
  have hs0 := hs
  obtain ⟨hl,⟨rfl,rfl⟩ | ⟨a,n,rfl,_⟩⟩ := hs0
  · omega
  · obtain ⟨c,e,s,gr,ro,hg,_,_,hget⟩ := hs.fit (by omega) (by omega)
    refine ⟨a,n,c,e,s,gr,ro,rfl,hg,?_⟩
    rw [hget i (by omega)]
    have hi' : i < l.length := by simp only [u3,List.length_map] at hl; omega
    simp [u3,List.getElem?_eq_getElem hi']
end Go.Proofs.Ytmnkmdfladbgdaa.Od

set_option linter.unusedVariables false
set_option linter.unusedSimpArgs false
namespace Go.Proofs.Ytmnkmdfladbgdaa.Od
open Go Go.Proofs Go.RowKit Go.Proofs.YtmnkmdfladbgdaaAI Go.Proofs.YtmnkmdfladbgdaaFl

theorem cv101_37' (n : Int) : pureRun Try.prog (do let z ← convert 101 37 (.int .u32 n); pure (Next.value z)) = some (.value (.int .u64 (IntKind.u64.wrap n))) := by kernel_rfl
theorem cv101_37 (t : Tm) (x : Operand) (n : Int) (hx : aeval t x = .int .u32 n) (d ty pos af gu) : purerule Try.prog (aeval t) ⟨d,.convert 101 37 x,ty,pos,af,gu⟩ = some (.int .u64 (IntKind.u64.wrap n)) := by
  refine pure_of rfl ?_ ?_ rfl
  · simp [-aeval,Op.operands,hx,pli]
  · have : execOp (aeval t) ⟨d,.convert 101 37 x,ty,pos,af,gu⟩ = (do let z ← convert 101 37 (aeval t x); pure (Next.value z)) := by simp [execOp]
    rw [this,hx]; exact cv101_37' n
theorem cv37_101' (n : Int) : pureRun Try.prog (do let z ← convert 37 101 (.int .u64 n); pure (Next.value z)) = some (.value (.int .u32 (IntKind.u32.wrap n))) := by kernel_rfl
theorem cv37_101 (t : Tm) (x : Operand) (n : Int) (hx : aeval t x = .int .u64 n) (d ty pos af gu) : purerule Try.prog (aeval t) ⟨d,.convert 37 101 x,ty,pos,af,gu⟩ = some (.int .u32 (IntKind.u32.wrap n)) := by
  refine pure_of rfl ?_ ?_ rfl
  · simp [-aeval,Op.operands,hx,pli]
  · have : execOp (aeval t) ⟨d,.convert 37 101 x,ty,pos,af,gu⟩ = (do let z ← convert 37 101 (aeval t x); pure (Next.value z)) := by simp [execOp]
    rw [this,hx]; exact cv37_101' n
theorem cv3_117' (n : Int) : pureRun Try.prog (do let z ← convert 3 117 (.int .i64 n); pure (Next.value z)) = some (.value (.int .u64 (IntKind.u64.wrap n))) := by kernel_rfl
theorem cv3_117 (t : Tm) (x : Operand) (n : Int) (hx : aeval t x = .int .i64 n) (d ty pos af gu) : purerule Try.prog (aeval t) ⟨d,.convert 3 117 x,ty,pos,af,gu⟩ = some (.int .u64 (IntKind.u64.wrap n)) := by
  refine pure_of rfl ?_ ?_ rfl
  · simp [-aeval,Op.operands,hx,pli]
  · have : execOp (aeval t) ⟨d,.convert 3 117 x,ty,pos,af,gu⟩ = (do let z ← convert 3 117 (aeval t x); pure (Next.value z)) := by simp [execOp]
    rw [this,hx]; exact cv3_117' n
theorem cv101_2' (n : Int) : pureRun Try.prog (do let z ← convert 101 2 (.int .u32 n); pure (Next.value z)) = some (.value (.int .i64 (IntKind.i64.wrap n))) := by kernel_rfl
theorem cv101_2 (t : Tm) (x : Operand) (n : Int) (hx : aeval t x = .int .u32 n) (d ty pos af gu) : purerule Try.prog (aeval t) ⟨d,.convert 101 2 x,ty,pos,af,gu⟩ = some (.int .i64 (IntKind.i64.wrap n)) := by
  refine pure_of rfl ?_ ?_ rfl
  · simp [-aeval,Op.operands,hx,pli]
  · have : execOp (aeval t) ⟨d,.convert 101 2 x,ty,pos,af,gu⟩ = (do let z ← convert 101 2 (aeval t x); pure (Next.value z)) := by simp [execOp]
    rw [this,hx]; exact cv101_2' n
theorem cv2_101' (n : Int) : pureRun Try.prog (do let z ← convert 2 101 (.int .i64 n); pure (Next.value z)) = some (.value (.int .u32 (IntKind.u32.wrap n))) := by kernel_rfl
theorem cv2_101 (t : Tm) (x : Operand) (n : Int) (hx : aeval t x = .int .i64 n) (d ty pos af gu) : purerule Try.prog (aeval t) ⟨d,.convert 2 101 x,ty,pos,af,gu⟩ = some (.int .u32 (IntKind.u32.wrap n)) := by
  refine pure_of rfl ?_ ?_ rfl
  · simp [-aeval,Op.operands,hx,pli]
  · have : execOp (aeval t) ⟨d,.convert 2 101 x,ty,pos,af,gu⟩ = (do let z ← convert 2 101 (aeval t x); pure (Next.value z)) := by simp [execOp]
    rw [this,hx]; exact cv2_101' n
theorem cv37_3' (n : Int) : pureRun Try.prog (do let z ← convert 37 3 (.int .u64 n); pure (Next.value z)) = some (.value (.int .i64 (IntKind.i64.wrap n))) := by kernel_rfl
theorem cv37_3 (t : Tm) (x : Operand) (n : Int) (hx : aeval t x = .int .u64 n) (d ty pos af gu) : purerule Try.prog (aeval t) ⟨d,.convert 37 3 x,ty,pos,af,gu⟩ = some (.int .i64 (IntKind.i64.wrap n)) := by
  refine pure_of rfl ?_ ?_ rfl
  · simp [-aeval,Op.operands,hx,pli]
  · have : execOp (aeval t) ⟨d,.convert 37 3 x,ty,pos,af,gu⟩ = (do let z ← convert 37 3 (aeval t x); pure (Next.value z)) := by simp [execOp]
    rw [this,hx]; exact cv37_3' n
theorem cv3_37' (n : Int) : pureRun Try.prog (do let z ← convert 3 37 (.int .i64 n); pure (Next.value z)) = some (.value (.int .u64 (IntKind.u64.wrap n))) := by kernel_rfl
theorem cv3_37 (t : Tm) (x : Operand) (n : Int) (hx : aeval t x = .int .i64 n) (d ty pos af gu) : purerule Try.prog (aeval t) ⟨d,.convert 3 37 x,ty,pos,af,gu⟩ = some (.int .u64 (IntKind.u64.wrap n)) := by
  refine pure_of rfl ?_ ?_ rfl
  · simp [-aeval,Op.operands,hx,pli]
  · have : execOp (aeval t) ⟨d,.convert 3 37 x,ty,pos,af,gu⟩ = (do let z ← convert 3 37 (aeval t x); pure (Next.value z)) := by simp [execOp]
    rw [this,hx]; exact cv3_37' n
theorem shl37' (x y : Operand) (a b : Int) (hb : 0 ≤ b) : pureRun Try.prog (do let z ← (do eqGuard .shl 37 x y (.int .u64 a) (.int .u64 b); binOp .shl 37 (.int .u64 a) (.int .u64 b)); pure (Next.value z)) = some (.value (.int .u64 (IntKind.u64.wrap (a * 2 ^ (min b.toNat 64))))) := by
  have e : (do let z ← (do eqGuard .shl 37 x y (.int .u64 a) (.int .u64 b); binOp .shl 37 (.int .u64 a) (.int .u64 b)); pure (Next.value z) : Sem Next) = (do let z ← Op.shift .shl .u64 a .u64 b; pure (Next.value z)) := by kernel_rfl
  rw [e]
  unfold Op.shift
  rw [if_neg (by omega)]
  rfl
theorem shl37 (t : Tm) (x y : Operand) (a b : Int) (hx : aeval t x = .int .u64 a) (hy : aeval t y = .int .u64 b) (hb : 0 ≤ b) (d r ty pos af gu) : purerule Try.prog (aeval t) ⟨d,.binOp .shl 37 x y r,ty,pos,af,gu⟩ = some (.int .u64 (IntKind.u64.wrap (a * 2 ^ (min b.toNat 64)))) := by
  refine pure_of rfl ?_ ?_ rfl
  · simp [-aeval,Op.operands,hx,hy,pli]
  · have : execOp (aeval t) ⟨d,.binOp .shl 37 x y r,ty,pos,af,gu⟩ = (do let z ← (do eqGuard .shl 37 x y (aeval t x) (aeval t y); binOp .shl 37 (aeval t x) (aeval t y)); pure (Next.value z)) := by simp [execOp]
    rw [this,hx,hy]; exact shl37' x y a b hb
theorem shr37' (x y : Operand) (a b : Int) (hb : 0 ≤ b) : pureRun Try.prog (do let z ← (do eqGuard .shr 37 x y (.int .u64 a) (.int .u64 b); binOp .shr 37 (.int .u64 a) (.int .u64 b)); pure (Next.value z)) = some (.value (.int .u64 (a.fdiv (2 ^ (min b.toNat 64))))) := by
  have e : (do let z ← (do eqGuard .shr 37 x y (.int .u64 a) (.int .u64 b); binOp .shr 37 (.int .u64 a) (.int .u64 b)); pure (Next.value z) : Sem Next) = (do let z ← Op.shift .shr .u64 a .u64 b; pure (Next.value z)) := by kernel_rfl
  rw [e]
  unfold Op.shift
  rw [if_neg (by omega)]
  rfl
theorem shr37 (t : Tm) (x y : Operand) (a b : Int) (hx : aeval t x = .int .u64 a) (hy : aeval t y = .int .u64 b) (hb : 0 ≤ b) (d r ty pos af gu) : purerule Try.prog (aeval t) ⟨d,.binOp .shr 37 x y r,ty,pos,af,gu⟩ = some (.int .u64 (a.fdiv (2 ^ (min b.toNat 64)))) := by
  refine pure_of rfl ?_ ?_ rfl
  · simp [-aeval,Op.operands,hx,hy,pli]
  · have : execOp (aeval t) ⟨d,.binOp .shr 37 x y r,ty,pos,af,gu⟩ = (do let z ← (do eqGuard .shr 37 x y (aeval t x) (aeval t y); binOp .shr 37 (aeval t x) (aeval t y)); pure (Next.value z)) := by simp [execOp]
    rw [this,hx,hy]; exact shr37' x y a b hb
theorem shl101' (x y : Operand) (a b : Int) (hb : 0 ≤ b) : pureRun Try.prog (do let z ← (do eqGuard .shl 101 x y (.int .u32 a) (.int .u64 b); binOp .shl 101 (.int .u32 a) (.int .u64 b)); pure (Next.value z)) = some (.value (.int .u32 (IntKind.u32.wrap (a * 2 ^ (min b.toNat 32))))) := by
  have e : (do let z ← (do eqGuard .shl 101 x y (.int .u32 a) (.int .u64 b); binOp .shl 101 (.int .u32 a) (.int .u64 b)); pure (Next.value z) : Sem Next) = (do let z ← Op.shift .shl .u32 a .u64 b; pure (Next.value z)) := by kernel_rfl
  rw [e]
  unfold Op.shift
  rw [if_neg (by omega)]
  rfl
theorem shl101 (t : Tm) (x y : Operand) (a b : Int) (hx : aeval t x = .int .u32 a) (hy : aeval t y = .int .u64 b) (hb : 0 ≤ b) (d r ty pos af gu) : purerule Try.prog (aeval t) ⟨d,.binOp .shl 101 x y r,ty,pos,af,gu⟩ = some (.int .u32 (IntKind.u32.wrap (a * 2 ^ (min b.toNat 32)))) := by
  refine pure_of rfl ?_ ?_ rfl
  · simp [-aeval,Op.operands,hx,hy,pli]
  · have : execOp (aeval t) ⟨d,.binOp .shl 101 x y r,ty,pos,af,gu⟩ = (do let z ← (do eqGuard .shl 101 x y (aeval t x) (aeval t y); binOp .shl 101 (aeval t x) (aeval t y)); pure (Next.value z)) := by simp [execOp]
    rw [this,hx,hy]; exact shl101' x y a b hb
theorem shr101' (x y : Operand) (a b : Int) (hb : 0 ≤ b) : pureRun Try.prog (do let z ← (do eqGuard .shr 101 x y (.int .u32 a) (.int .u64 b); binOp .shr 101 (.int .u32 a) (.int .u64 b)); pure (Next.value z)) = some (.value (.int .u32 (a.fdiv (2 ^ (min b.toNat 32))))) := by
  have e : (do let z ← (do eqGuard .shr 101 x y (.int .u32 a) (.int .u64 b); binOp .shr 101 (.int .u32 a) (.int .u64 b)); pure (Next.value z) : Sem Next) = (do let z ← Op.shift .shr .u32 a .u64 b; pure (Next.value z)) := by kernel_rfl
  rw [e]
  unfold Op.shift
  rw [if_neg (by omega)]
  rfl
theorem shr101 (t : Tm) (x y : Operand) (a b : Int) (hx : aeval t x = .int .u32 a) (hy : aeval t y = .int .u64 b) (hb : 0 ≤ b) (d r ty pos af gu) : purerule Try.prog (aeval t) ⟨d,.binOp .shr 101 x y r,ty,pos,af,gu⟩ = some (.int .u32 (a.fdiv (2 ^ (min b.toNat 32)))) := by
  refine pure_of rfl ?_ ?_ rfl
  · simp [-aeval,Op.operands,hx,hy,pli]
  · have : execOp (aeval t) ⟨d,.binOp .shr 101 x y r,ty,pos,af,gu⟩ = (do let z ← (do eqGuard .shr 101 x y (aeval t x) (aeval t y); binOp .shr 101 (aeval t x) (aeval t y)); pure (Next.value z)) := by simp [execOp]
    rw [this,hx,hy]; exact shr101' x y a b hb
theorem wu64 {a s : Nat} (h : a = s) (hs : s < 18446744073709551616) : IntKind.u64.wrap (a : Int) = (s : Int) := by
  have : IntKind.u64.wrap (a : Int) = (a : Int) % 18446744073709551616 := rfl
  rw [this]; omega
theorem wu32 {a s : Nat} (h : a = s) (hs : s < 4294967296) : IntKind.u32.wrap (a : Int) = (s : Int) := by
  have : IntKind.u32.wrap (a : Int) = (a : Int) % 4294967296 := rfl
  rw [this]; omega
theorem wi64 {a s : Nat} (h : a = s) (hs : s < 9223372036854775808) : IntKind.i64.wrap (a : Int) = (s : Int) := by
  rw [IntWalk.i64_in _ (by omega)]; omega
theorem au64 {a b s : Nat} (h : a + b = s) (hs : s < 18446744073709551616) : IntKind.u64.wrap ((a : Int) + (b : Int)) = (s : Int) := by
  have : IntKind.u64.wrap ((a : Int) + (b : Int)) = ((a : Int) + (b : Int)) % 18446744073709551616 := rfl
  rw [this]; omega
theorem ai64 {a b s : Nat} (h : a + b = s) (hs : s < 9223372036854775808) : IntKind.i64.wrap ((a : Int) + (b : Int)) = (s : Int) := by
  rw [IntWalk.i64_in _ (by omega)]; omega
theorem mod32 {a s : Nat} (h : a % 4294967296 = s) : (a : Int).tmod 4294967296 = (s : Int) := by
  have : (a : Int).tmod 4294967296 = ((a % 4294967296 : Nat) : Int) := rfl
  rw [this,h]
theorem fdivn (a k : Nat) : (a : Int).fdiv (2 ^ k) = ((a / 2 ^ k : Nat) : Int) := by
  rw [Int.fdiv_eq_ediv_of_nonneg _ (Int.le_of_lt (by exact_mod_cast Nat.two_pow_pos k))]; simp
theorem shl64 {a k s : Nat} (h : a * 2 ^ k = s) (hk : k ≤ 64) (hs : s < 18446744073709551616) : IntKind.u64.wrap ((a : Int) * 2 ^ (min k 64)) = (s : Int) := by
  rw [Nat.min_eq_left hk]
  have : (a : Int) * 2 ^ k = ((a * 2 ^ k : Nat) : Int) := by simp
  rw [this]; exact wu64 h hs
theorem shr64 {a k s : Nat} (h : a / 2 ^ k = s) (hk : k ≤ 64) : (a : Int).fdiv (2 ^ (min k 64)) = (s : Int) := by
  rw [Nat.min_eq_left hk,fdivn,h]
theorem shl32 {a k s : Nat} (h : a * 2 ^ k = s) (hk : k ≤ 32) (hs : s < 4294967296) : IntKind.u32.wrap ((a : Int) * 2 ^ (min k 32)) = (s : Int) := by
  rw [Nat.min_eq_left hk]
  have : (a : Int) * 2 ^ k = ((a * 2 ^ k : Nat) : Int) := by simp
  rw [this]; exact wu32 h hs
theorem shr32 {a k s : Nat} (h : a / 2 ^ k = s) (hk : k ≤ 32) : (a : Int).fdiv (2 ^ (min k 32)) = (s : Int) := by
  rw [Nat.min_eq_left hk,fdivn,h]
/-- One limb more. -/
theorem app_u3 {h : Heap} {v : Value} {l : List Nat} (hl : Lg h v 101 1 l.length (u3 l)) (hk : l.length + 1 ≤ 100000) (x : Nat) :
    ∃ v' h',aappend Try.prog 40 40 v (.slice (some ⟨h.next,0,none⟩) 1 1) (h.new (.cells [.int .u32 (x : Nat)] 101 1 false false)) = some (v',h') ∧ Lg h' v' 101 1 (l ++ [x]).length (u3 (l ++ [x])) ∧ Keep (fun m => nm v = some m) h h' ∧ ∀ m,nm v' = some m → nm v = some m ∨ h.next ≤ m := by
  have k0 := Keep.new No h (.cells [.int .u32 (x : Nat)] 101 1 false false)
  have hx : Sl (h.new (.cells [.int .u32 (x : Nat)] 101 1 false false)) (.slice (some ⟨h.next,0,none⟩) 1 1) 1 1 [.int .u32 (x : Nat)] :=
    ⟨rfl,.inr ⟨_,_,rfl,fun _ => ⟨_,_,_,_,_,by rw [Heap.get_new,if_pos rfl],rfl⟩⟩⟩
  obtain ⟨v8,h8,e8,lg8,kp8,nv8,_,nf8⟩ := append_lg (t := 40) (xt := 40) Try.underlying40 Try.underlying40 rfl el101 (hl.keep k0 (fun _ _ x => x)) hx (by omega) (by omega) rfl
  refine ⟨v8,h8,e8,by rw [u3_snoc,List.length_append]; exact lg8,(k0.mono fun m _ x => x.elim).also kp8 fun m _ x => x,fun m e => ?_⟩
  rcases Nat.lt_or_ge m (h.next + 1) with y | y
  · exact .inl (nv8 m e (by rw [Heap.next_new]; exact y))
  · exact .inr (by omega)
/-- Limbs that come in. -/
def Na (h : Heap) (v : Value) (l : List Nat) : Prop := Sl h v 1 l.length (u3 l) ∧ W32 l ∧ l.length ≤ 1000
/-- A natural that is answered: its own limbs, new memory. -/
def Nt (h0 h : Heap) (v : Value) (n : Nat) : Prop := Lg h v 101 1 (lm n).length (u3 (lm n)) ∧ Keep No h0 h ∧ ∀ m,nm v = some m → h0.next ≤ m
theorem Na.keep {h h' : Heap} {v : Value} {l : List Nat} (hn : Na h v l) (hk : Keep No h h') : Na h' v l := ⟨hn.1.keep hk fun _ _ x => x,hn.2⟩
theorem Nt.na {h0 h : Heap} {v : Value} {n : Nat} (hn : Nt h0 h v n) (hk : (lm n).length ≤ 1000) : Na h v (lm n) := ⟨hn.1.sl,lm_w n,hk⟩
end Go.Proofs.Ytmnkmdfladbgdaa.Od

set_option linter.unusedVariables false
set_option linter.unusedSimpArgs false
namespace Go.Proofs.Ytmnkmdfladbgdaa.Od
open Go Go.Proofs Go.RowKit Go.Proofs.YtmnkmdfladbgdaaAI Go.Proofs.YtmnkmdfladbgdaaFl

noncomputable def lb85 (i : Nat) : Code := (loopsOf (Try.f85.body.getD .skip)).getD i .skip
theorem trim_zero {l : List Nat} (h : W32 l) {j : Nat} (h1 : (lm (nv l)).length ≤ j) (h2 : j < l.length) : l.getD j 0 = 0 := by
  obtain ⟨e,hl⟩ := trim_form h
  rw [List.getD_eq_getElem?_getD,e,List.getElem?_append_right h1]
  simp only [List.getElem?_replicate]
  split <;> rfl
theorem trim_take {l : List Nat} (h : W32 l) {j : Nat} (h1 : j ≤ (lm (nv l)).length) : l.take j = (lm (nv l)).take j := by
  obtain ⟨e,hl⟩ := trim_form h
  conv => lhs; rw [e]
  rw [List.take_append_of_le_length h1]
theorem trim_top {l : List Nat} (h : W32 l) (h1 : 0 < (lm (nv l)).length) : l.getD ((lm (nv l)).length - 1) 0 ≠ 0 := by
  obtain ⟨e,hl⟩ := trim_form h
  have h2 : 0 < nv l := by
    rcases Nat.eq_zero_or_pos (nv l) with h3 | h3
    · rw [h3,lm_zero] at h1; simp at h1
    · exact h3
  have := (lm_last h2).2
  rw [List.getD_eq_getElem?_getD] at this ⊢
  have e2 := congrArg (fun (z : List Nat) => z[(lm (nv l)).length - 1]?) e
  rw [List.getElem?_append_left (by omega)] at e2
  rw [e2]; exact this
theorem useX1 {ks : List Nat} {F : Step} {t : Tm} {h : Heap} {rr : Option (AEx × Tm × Heap)} {f : Heap → Value → Option (AEx × Tm × Heap)} {p : Heap → Value → Prop} (hl : loopω ks F t h = rr) (H : ∃ h' x0,loopω ks F t h = f h' x0 ∧ p h' x0) : ∃ h' x0,rr = f h' x0 ∧ p h' x0 := hl ▸ H
theorem useX2 {ks : List Nat} {F : Step} {t : Tm} {h : Heap} {rr : Option (AEx × Tm × Heap)} {f : Heap → Value → Value → Option (AEx × Tm × Heap)} {p : Heap → Value → Value → Prop} (hl : loopω ks F t h = rr) (H : ∃ h' x0 x1,loopω ks F t h = f h' x0 x1 ∧ p h' x0 x1) : ∃ h' x0 x1,rr = f h' x0 x1 ∧ p h' x0 x1 := hl ▸ H
theorem useX3 {ks : List Nat} {F : Step} {t : Tm} {h : Heap} {rr : Option (AEx × Tm × Heap)} {f : Heap → Value → Value → Value → Option (AEx × Tm × Heap)} {p : Heap → Value → Value → Value → Prop} (hl : loopω ks F t h = rr) (H : ∃ h' x0 x1 x2,loopω ks F t h = f h' x0 x1 x2 ∧ p h' x0 x1 x2) : ∃ h' x0 x1 x2,rr = f h' x0 x1 x2 ∧ p h' x0 x1 x2 := hl ▸ H
theorem useX4 {ks : List Nat} {F : Step} {t : Tm} {h : Heap} {rr : Option (AEx × Tm × Heap)} {f : Heap → Value → Value → Value → Value → Option (AEx × Tm × Heap)} {p : Heap → Value → Value → Value → Value → Prop} (hl : loopω ks F t h = rr) (H : ∃ h' x0 x1 x2 x3,loopω ks F t h = f h' x0 x1 x2 x3 ∧ p h' x0 x1 x2 x3) : ∃ h' x0 x1 x2 x3,rr = f h' x0 x1 x2 x3 ∧ p h' x0 x1 x2 x3 := hl ▸ H
theorem useX5 {ks : List Nat} {F : Step} {t : Tm} {h : Heap} {rr : Option (AEx × Tm × Heap)} {f : Heap → Value → Value → Value → Value → Value → Option (AEx × Tm × Heap)} {p : Heap → Value → Value → Value → Value → Value → Prop} (hl : loopω ks F t h = rr) (H : ∃ h' x0 x1 x2 x3 x4,loopω ks F t h = f h' x0 x1 x2 x3 x4 ∧ p h' x0 x1 x2 x3 x4) : ∃ h' x0 x1 x2 x3 x4,rr = f h' x0 x1 x2 x3 x4 ∧ p h' x0 x1 x2 x3 x4 := hl ▸ H
theorem useX10 {ks : List Nat} {F : Step} {t : Tm} {h : Heap} {rr : Option (AEx × Tm × Heap)} {f : Heap → Value → Value → Value → Value → Value → Value → Value → Value → Value → Value → Option (AEx × Tm × Heap)} {p : Heap → Value → Value → Value → Value → Value → Value → Value → Value → Value → Value → Prop} (hl : loopω ks F t h = rr) (H : ∃ h' x0 x1 x2 x3 x4 x5 x6 x7 x8 x9,loopω ks F t h = f h' x0 x1 x2 x3 x4 x5 x6 x7 x8 x9 ∧ p h' x0 x1 x2 x3 x4 x5 x6 x7 x8 x9) : ∃ h' x0 x1 x2 x3 x4 x5 x6 x7 x8 x9,rr = f h' x0 x1 x2 x3 x4 x5 x6 x7 x8 x9 ∧ p h' x0 x1 x2 x3 x4 x5 x6 x7 x8 x9 := hl ▸ H
theorem useX11 {ks : List Nat} {F : Step} {t : Tm} {h : Heap} {rr : Option (AEx × Tm × Heap)} {f : Heap → Value → Value → Value → Value → Value → Value → Value → Value → Value → Value → Value → Option (AEx × Tm × Heap)} {p : Heap → Value → Value → Value → Value → Value → Value → Value → Value → Value → Value → Value → Prop} (hl : loopω ks F t h = rr) (H : ∃ h' x0 x1 x2 x3 x4 x5 x6 x7 x8 x9 x10,loopω ks F t h = f h' x0 x1 x2 x3 x4 x5 x6 x7 x8 x9 x10 ∧ p h' x0 x1 x2 x3 x4 x5 x6 x7 x8 x9 x10) : ∃ h' x0 x1 x2 x3 x4 x5 x6 x7 x8 x9 x10,rr = f h' x0 x1 x2 x3 x4 x5 x6 x7 x8 x9 x10 ∧ p h' x0 x1 x2 x3 x4 x5 x6 x7 x8 x9 x10 := hl ▸ H
set_option maxRecDepth 20000 in
set_option maxHeartbeats 6400000 in
theorem trim1 {h0 : Heap} {va : Option Addr} {vc L : Nat} {l : List Nat} (hL : l.length = L) (hw : W32 l) (hk : L ≤ 1000) (hv : Sl h0 (.slice va L vc) 1 L (u3 l)) (F : Step) (hFF : F = aexecP Try.prog (sO 85) (run Try.prog sO) loopω pt85 (lb85 0)) (t : Tm)
    (ht : forget [1,2,4,5,6,7,8,9,10,11,12,13,14,15,16,17,18,19,20,21,22,23,24,25,26,27,28,29,30,31,32] t = [.slice va L vc,Z,Z,.int .i64 ((L - (0) : Nat) : Int),Z,Z,Z,Z,Z,Z,Z,Z,Z,Z,Z,Z,Z,Z,Z,Z,Z,Z,Z,Z,Z,Z,Z,Z,Z,Z,Z,Z,Z]) (hI0 : h0 = h0) :
    ∃ h' x8 x9 x10 x11 x12 x13 x14 x15 x16 x17,loopω [1,2,4,5,6,7,8,9,10,11,12,13,14,15,16,17,18,19,20,21,22,23,24,25,26,27,28,29,30,31,32] F t h0 = some (.exit 0,[.slice va L vc,Z,Z,.int .i64 ((L - (L - (lm (nv l)).length) : Nat) : Int),Z,Z,Z,Z,x8,x9,x10,x11,x12,x13,x14,x15,x16,x17,Z,Z,Z,Z,Z,Z,Z,Z,Z,Z,Z,Z,Z,Z,Z],h') ∧ h' = h0 := by
  subst hFF
  suffices hs : ∃ e t' h',loopω [1,2,4,5,6,7,8,9,10,11,12,13,14,15,16,17,18,19,20,21,22,23,24,25,26,27,28,29,30,31,32] (aexecP Try.prog (sO 85) (run Try.prog sO) loopω pt85 (lb85 0)) t h0 = some (e,t',h') ∧ (e = .exit 0 ∧ ∃ x8 x9 x10 x11 x12 x13 x14 x15 x16 x17,t' = [.slice va L vc,Z,Z,.int .i64 ((L - (L - (lm (nv l)).length) : Nat) : Int),Z,Z,Z,Z,x8,x9,x10,x11,x12,x13,x14,x15,x16,x17,Z,Z,Z,Z,Z,Z,Z,Z,Z,Z,Z,Z,Z,Z,Z] ∧ h' = h0) by
    obtain ⟨e,t',h',q1,rfl,x8,x9,x10,x11,x12,x13,x14,x15,x16,x17,rfl,q2⟩ := hs
    exact ⟨h',x8,x9,x10,x11,x12,x13,x14,x15,x16,x17,q1,q2⟩
  simp only [lb85,Try.f85,loopsOf,Option.getD_some,List.nil_append,List.append_nil,List.cons_append,List.getD_cons_zero,List.getD_cons_succ]
  refine loop_by (fun k t h' => ∃ (i : Nat),i + k = L - (lm (nv l)).length ∧ forget [1,2,4,5,6,7,8,9,10,11,12,13,14,15,16,17,18,19,20,21,22,23,24,25,26,27,28,29,30,31,32] t = [.slice va L vc,Z,Z,.int .i64 ((L - (i) : Nat) : Int),Z,Z,Z,Z,Z,Z,Z,Z,Z,Z,Z,Z,Z,Z,Z,Z,Z,Z,Z,Z,Z,Z,Z,Z,Z,Z,Z,Z,Z] ∧ h' = h0)
    (fun e t' h' => e = .exit 0 ∧ ∃ x8 x9 x10 x11 x12 x13 x14 x15 x16 x17,t' = [.slice va L vc,Z,Z,.int .i64 ((L - (L - (lm (nv l)).length) : Nat) : Int),Z,Z,Z,Z,x8,x9,x10,x11,x12,x13,x14,x15,x16,x17,Z,Z,Z,Z,Z,Z,Z,Z,Z,Z,Z,Z,Z,Z,Z] ∧ h' = h0) ?_ (L - (lm (nv l)).length) _ _ ⟨0,by omega,ht,hI0⟩
  rintro k t h' ⟨i,hi,ht,hI⟩
  rw [ht]
  rcases Nat.lt_or_ge i (L - (lm (nv l)).length) with h1 | h1
  · obtain ⟨q,hq⟩ : ∃ q,L - i = q + 1 := ⟨L - i - 1,by omega⟩
    have hq2 : L - (i + 1) = q := by omega
    have hz := trim_zero hw (j := q) (by omega) (by omega)
    subst hI
    obtain ⟨va,vc,C,ce,cs,gr,ro,eb,hg,hc⟩ := sl_u3 hv (show q < L by omega)
    simp only [Value.slice.injEq,true_and] at eb
    obtain ⟨rfl,rfl⟩ := eb
    rw [hz] at hc
    rw [hq]
    have w1 : IntKind.i64.wrap (q : Int) = (q : Int) := wi64 rfl (by omega)
    have q1 : (0 : Int) < (q : Int) + 1 := by omega
    have hqL : q < L := by omega
    simp (maxSteps := 2000000) -implicitDefEqProofs [ble_d,beq_d,List.range_succ,List.replicate,cond_true,cond_false,w1,q1,hqL,aindexAddr,sz101,Try.underlying40,hg,hc,undef]
    exact ⟨k - 1,by omega,i + 1,by omega,by simp (maxSteps := 2000000) only [forget,List.set_cons_succ,List.set_cons_zero,hq2]⟩
  · obtain rfl : i = L - (lm (nv l)).length := by omega
    have hle := (trim_form hw).2
    obtain ⟨n,hn⟩ : ∃ n,L - (L - (lm (nv l)).length) = n := ⟨_,rfl⟩
    have hn2 : (lm (nv l)).length = n := by omega
    rw [hn]
    subst hI
    rcases Nat.eq_zero_or_pos n with h0 | h0
    · subst h0
      simp (maxSteps := 2000000) -implicitDefEqProofs [ble_d,beq_d,List.range_succ,List.replicate,cond_true,cond_false,undef]
    · obtain ⟨q,rfl⟩ : ∃ q,n = q + 1 := ⟨n - 1,by omega⟩
      have ht0 := trim_top hw (by omega)
      rw [hn2,Nat.add_sub_cancel] at ht0
      obtain ⟨va,vc,C,ce,cs,gr,ro,eb,hg,hc⟩ := sl_u3 hv (show q < L by omega)
      simp only [Value.slice.injEq,true_and] at eb
      obtain ⟨rfl,rfl⟩ := eb
      have w1 : IntKind.i64.wrap (q : Int) = (q : Int) := wi64 rfl (by omega)
      have q1 : (0 : Int) < (q : Int) + 1 := by omega
      have hqL : q < L := by omega
      generalize l.getD q 0 = x at *
      simp (maxSteps := 2000000) -implicitDefEqProofs [ble_d,beq_d,List.range_succ,List.replicate,cond_true,cond_false,w1,q1,hqL,ibeq,ht0,aindexAddr,sz101,Try.underlying40,hg,hc,undef]
set_option maxRecDepth 20000 in
set_option maxHeartbeats 6400000 in
theorem trim2 {h0 : Heap} {va : Option Addr} {vc L n : Nat} {l : List Nat} (hL : l.length = L) (hw : W32 l) (hk : L ≤ 1000) (hn : n ≤ L) (hv : Sl h0 (.slice va L vc) 1 L (u3 l)) (v0 : Value) (F : Step) (hFF : F = aexecP Try.prog (sO 85) (run Try.prog sO) loopω pt85 (lb85 1)) (t : Tm)
    (ht : forget [1,2,6,7,8,9,10,11,12,13,14,15,16,17,18,19,20,21,22,23,24,25,26,27,28,29,30,31,32] t = [.slice va L vc,Z,Z,.int .i64 (n : Nat),v0,.int .i64 (0 : Nat),Z,Z,Z,Z,Z,Z,Z,Z,Z,Z,Z,Z,Z,Z,Z,Z,Z,Z,Z,Z,Z,Z,Z,Z,Z,Z,Z]) (hI0 : (Lg h0 v0 101 1 (0) (u3 (l.take (0))) ∧ Keep No h0 h0 ∧ ∀ m,nm v0 = some m → h0.next ≤ m)) :
    ∃ h' v x20 x21 x22,loopω [1,2,6,7,8,9,10,11,12,13,14,15,16,17,18,19,20,21,22,23,24,25,26,27,28,29,30,31,32] F t h0 = some (.exit 2,[.slice va L vc,Z,Z,.int .i64 (n : Nat),v,.int .i64 (n : Nat),Z,Z,Z,Z,Z,Z,Z,Z,Z,Z,Z,Z,Z,Z,x20,x21,x22,Z,Z,Z,Z,Z,Z,Z,Z,Z,Z],h') ∧ (Lg h' v 101 1 (n) (u3 (l.take (n))) ∧ Keep No h0 h' ∧ ∀ m,nm v = some m → h0.next ≤ m) := by
  subst hFF
  suffices hs : ∃ e t' h',loopω [1,2,6,7,8,9,10,11,12,13,14,15,16,17,18,19,20,21,22,23,24,25,26,27,28,29,30,31,32] (aexecP Try.prog (sO 85) (run Try.prog sO) loopω pt85 (lb85 1)) t h0 = some (e,t',h') ∧ (e = .exit 2 ∧ ∃ v x20 x21 x22,t' = [.slice va L vc,Z,Z,.int .i64 (n : Nat),v,.int .i64 (n : Nat),Z,Z,Z,Z,Z,Z,Z,Z,Z,Z,Z,Z,Z,Z,x20,x21,x22,Z,Z,Z,Z,Z,Z,Z,Z,Z,Z] ∧ (Lg h' v 101 1 (n) (u3 (l.take (n))) ∧ Keep No h0 h' ∧ ∀ m,nm v = some m → h0.next ≤ m)) by
    obtain ⟨e,t',h',q1,rfl,v,x20,x21,x22,rfl,q2⟩ := hs
    exact ⟨h',v,x20,x21,x22,q1,q2⟩
  simp only [lb85,Try.f85,loopsOf,Option.getD_some,List.nil_append,List.append_nil,List.cons_append,List.getD_cons_zero,List.getD_cons_succ]
  refine loop_by (fun k t h' => ∃ (i : Nat) (v : Value),i + k = n ∧ forget [1,2,6,7,8,9,10,11,12,13,14,15,16,17,18,19,20,21,22,23,24,25,26,27,28,29,30,31,32] t = [.slice va L vc,Z,Z,.int .i64 (n : Nat),v,.int .i64 (i : Nat),Z,Z,Z,Z,Z,Z,Z,Z,Z,Z,Z,Z,Z,Z,Z,Z,Z,Z,Z,Z,Z,Z,Z,Z,Z,Z,Z] ∧ (Lg h' v 101 1 (i) (u3 (l.take (i))) ∧ Keep No h0 h' ∧ ∀ m,nm v = some m → h0.next ≤ m))
    (fun e t' h' => e = .exit 2 ∧ ∃ v x20 x21 x22,t' = [.slice va L vc,Z,Z,.int .i64 (n : Nat),v,.int .i64 (n : Nat),Z,Z,Z,Z,Z,Z,Z,Z,Z,Z,Z,Z,Z,Z,x20,x21,x22,Z,Z,Z,Z,Z,Z,Z,Z,Z,Z] ∧ (Lg h' v 101 1 (n) (u3 (l.take (n))) ∧ Keep No h0 h' ∧ ∀ m,nm v = some m → h0.next ≤ m)) ?_ (n) _ _ ⟨0,_,by omega,ht,hI0⟩
  rintro k t h' ⟨i,v,hi,ht,hI⟩
  rw [ht]
  rcases Nat.lt_or_ge i (n) with h1 | h1
  · obtain ⟨lg,kp,nw⟩ := hI
    have hinc := @inc64 i (by omega)
    have hcs := cast_succ i
    have hvk := hv.keep kp fun _ _ x => x
    have hiL : i < L := by omega
    obtain ⟨va,vc,C,ce,cs,gr,ro,eb,hg,hc⟩ := sl_u3 hvk hiL
    simp only [Value.slice.injEq,true_and] at eb
    obtain ⟨rfl,rfl⟩ := eb
    have hlen : (l.take i).length = i := by rw [List.length_take]; omega
    have lg' : Lg h' v 101 1 (l.take i).length (u3 (l.take i)) := by rw [hlen]; exact lg
    obtain ⟨v8,h8,e8,lg8,kp8,nv8⟩ := app_u3 lg' (by omega) (l.getD i 0)
    have ht1 : l.take (i + 1) = l.take i ++ [l.getD i 0] := by
      rw [List.take_add_one,List.getElem?_eq_getElem (by omega)]; simp [List.getD_eq_getElem?_getD,List.getElem?_eq_getElem (show i < l.length by omega)]
    rw [← ht1] at lg8
    have hl2 : (l.take (i + 1)).length = i + 1 := by rw [List.length_take]; omega
    rw [hl2] at lg8
    have kk := kp.also kp8 fun m hm x => by have := nw m x; omega
    have nn : ∀ m,nm v8 = some m → h0.next ≤ m := fun m e => by
      rcases nv8 m e with y | y
      · exact nw m y
      · have := kp.1; omega
    generalize l.getD i 0 = x at *
    simp (maxSteps := 2000000) -implicitDefEqProofs [ble_d,beq_d,List.range_succ,List.replicate,cond_true,cond_false,h1,hiL,aindexAddr,sz101,Try.underlying40,hg,hc,(fun ρ y hy => bs40_1 ρ y (x : Int) hy),e8,hinc]
    exact ⟨k - 1,by omega,i + 1,by omega,v8,by simp (maxSteps := 2000000) only [forget,List.set_cons_succ,List.set_cons_zero,hcs],lg8,kk,nn⟩
  · obtain rfl : i = n := by omega
    simp (maxSteps := 2000000) -implicitDefEqProofs [ble_d,beq_d,List.range_succ,List.replicate,cond_true,cond_false]
    exact hI
theorem trim_run {h : Heap} {v : Value} {l : List Nat} (hn : Na h v l) : ∃ v' h',run Try.prog sO 85 [v] h = some (v',h') ∧ Nt h h' v' (nv l) ∧ (lm (nv l)).length ≤ l.length := by
  obtain ⟨hv,hw,hk⟩ := hn
  obtain ⟨a,c,rfl⟩ := sl_form hv
  have hle := (trim_form hw).2
  suffices hx : ∃ y,fin Try.prog Try.f85 (aexecP Try.prog (sO 85) (run Try.prog sO) loopω pt85 (Try.f85.body.getD .skip) ([.slice a l.length c] ++ List.replicate (Try.f85.ntmps - 1) undef) h) = some y ∧ Nt h y.2 y.1 (nv l) by
    obtain ⟨⟨y1,y2⟩,hy,q⟩ := hx
    exact ⟨y1,y2,run_finP pt85 Try.func85 rfl planned85 hy,q,hle⟩
  simp (maxSteps := 2000000) -implicitDefEqProofs [Try.f85,ble_d,beq_d,List.range_succ,List.replicate,cond_true,cond_false,Try.underlying40,sO85_2]
  generalize hl : loopω _ _ _ _ = r
  obtain ⟨hA,x8,x9,x10,x11,x12,x13,x14,x15,x16,x17,hx,hh⟩ := useX10 hl (trim1 (h0 := h) (va := a) (vc := c) (L := l.length) (l := l) rfl hw hk hv _ (by kernel_rfl) _ (by kernel_rfl) rfl)
  subst hx
  subst hh
  clear hl
  have hnn : l.length - (l.length - (lm (nv l)).length) = (lm (nv l)).length := by omega
  rw [hnn]
  simp (maxSteps := 2000000) -implicitDefEqProofs [ble_d,beq_d,List.range_succ,List.replicate,cond_true,cond_false,sO85_6]
  generalize hl : loopω _ _ _ _ = r
  obtain ⟨hB,v4,x20,x21,x22,hx,lg,kp,nw⟩ := useX4 hl (trim2 (h0 := hA) (va := a) (vc := c) (L := l.length) (n := (lm (nv l)).length) (l := l) rfl hw hk hle hv _ _ (by kernel_rfl) _ (by kernel_rfl) ⟨Lg.nil _ _ _,Keep.refl _ _,fun m e => by cases e⟩)
  subst hx
  simp (maxSteps := 2000000) -implicitDefEqProofs [ble_d,beq_d,List.range_succ,List.replicate,cond_true,cond_false]
  refine ⟨_,_,⟨rfl,rfl⟩,?_,kp,nw⟩
  rw [trim_take hw (Nat.le_refl _),List.take_length] at lg
  exact lg
end Go.Proofs.Ytmnkmdfladbgdaa.Od

set_option linter.unusedVariables false
set_option linter.unusedSimpArgs false
namespace Go.Proofs.Ytmnkmdfladbgdaa.Od
open Go Go.Proofs Go.Proofs.YtmnkmdfladbgdaaAI

/-- The k lowest limbs. -/
def dg (N : Nat) (k : Nat) : List Nat := (List.range k).map fun j => N / 4294967296 ^ j % 4294967296
theorem dg_zero (N : Nat) : dg N 0 = [] := rfl
theorem dg_succ (N k : Nat) : dg N (k + 1) = dg N k ++ [N / 4294967296 ^ k % 4294967296] := by simp [dg,List.range_succ]
theorem dg_len (N k : Nat) : (dg N k).length = k := by simp [dg]
theorem dg_w (N k : Nat) : W32 (dg N k) := fun x hx => by
  obtain ⟨j,_,rfl⟩ := List.mem_map.1 hx
  exact Nat.mod_lt _ (by omega)
theorem nv_dg (N k : Nat) : nv (dg N k) = N % 4294967296 ^ k := by
  induction k with
  | zero => rw [dg_zero,Nat.pow_zero,Nat.mod_one]; rfl
  | succ k ih => rw [dg_succ,nv_snoc,ih,dg_len,Nat.pow_succ,Nat.mod_mul]
theorem nv_div {l : List Nat} (h : W32 l) (i : Nat) : nv l / 4294967296 ^ i = l.getD i 0 + 4294967296 * (nv l / 4294967296 ^ (i + 1)) := by
  have key : ∀ (l : List Nat) (i : Nat),W32 l → nv l / 4294967296 ^ i % 4294967296 = l.getD i 0 := by
    intro l
    induction l with
    | nil => intro i _; simp [nv]
    | cons x l ih =>
      intro i hw
      have hx := hw x (List.mem_cons_self ..)
      cases i with
      | zero => simp only [Nat.pow_zero,Nat.div_one,nv,List.getD_cons_zero]; omega
      | succ i =>
        rw [Nat.pow_succ,Nat.mul_comm,← Nat.div_div_eq_div_mul]
        have : nv (x :: l) / 4294967296 = nv l := by rw [nv]; omega
        rw [this,ih i hw.tail,List.getD_cons_succ]
  rw [← key l i h,Nat.pow_succ,← Nat.div_div_eq_div_mul]
  exact (Nat.mod_add_div _ _).symm
theorem nv_div_len {l : List Nat} (h : W32 l) {i : Nat} (hi : l.length ≤ i) : nv l / 4294967296 ^ i = 0 :=
  Nat.div_eq_of_lt (Nat.lt_of_lt_of_le (nv_lt h) (Nat.pow_le_pow_right (by omega) hi))
/-- A limb of a sum. -/
theorem plus_step {a b : List Nat} (ha : W32 a) (hb : W32 b) {i c : Nat} (h : (nv a + nv b) / 4294967296 ^ i = c + nv a / 4294967296 ^ i + nv b / 4294967296 ^ i) (hc : c ≤ 1) :
    (c + a.getD i 0 + b.getD i 0) % 4294967296 = (nv a + nv b) / 4294967296 ^ i % 4294967296 ∧ (c + a.getD i 0 + b.getD i 0) / 4294967296 ≤ 1 ∧
      (nv a + nv b) / 4294967296 ^ (i + 1) = (c + a.getD i 0 + b.getD i 0) / 4294967296 + nv a / 4294967296 ^ (i + 1) + nv b / 4294967296 ^ (i + 1) := by
  have h1 := nv_div ha i
  have h2 := nv_div hb i
  have h3 := ha.get i
  have h4 := hb.get i
  have h5 : (nv a + nv b) / 4294967296 ^ (i + 1) = (nv a + nv b) / 4294967296 ^ i / 4294967296 := by rw [Nat.pow_succ,Nat.div_div_eq_div_mul]
  rw [h5,h]
  omega
/-- A limb of a difference. -/
theorem minus_step {a b : List Nat} (ha : W32 a) (hb : W32 b) {i c N : Nat} (h : N / 4294967296 ^ i + nv b / 4294967296 ^ i + c = nv a / 4294967296 ^ i) (hc : c ≤ 1) :
    (c + b.getD i 0 ≤ a.getD i 0 → a.getD i 0 - c - b.getD i 0 = N / 4294967296 ^ i % 4294967296 ∧ N / 4294967296 ^ (i + 1) + nv b / 4294967296 ^ (i + 1) + 0 = nv a / 4294967296 ^ (i + 1)) ∧
    (a.getD i 0 < c + b.getD i 0 → a.getD i 0 + 4294967296 - c - b.getD i 0 = N / 4294967296 ^ i % 4294967296 ∧ N / 4294967296 ^ (i + 1) + nv b / 4294967296 ^ (i + 1) + 1 = nv a / 4294967296 ^ (i + 1)) := by
  have h1 := nv_div ha i
  have h2 := nv_div hb i
  have h3 := ha.get i
  have h4 := hb.get i
  have h5 : N / 4294967296 ^ (i + 1) = N / 4294967296 ^ i / 4294967296 := by rw [Nat.pow_succ,Nat.div_div_eq_div_mul]
  rw [h5]
  constructor <;> intro h6 <;> constructor <;> omega
/-- A limb of what is shifted up. -/
theorem shl_step {a : List Nat} (ha : W32 a) {i c s : Nat} (hs : s < 32) (h : nv a * 2 ^ s / 4294967296 ^ i = c + nv a / 4294967296 ^ i * 2 ^ s) (hc : c < 2 ^ s) :
    (a.getD i 0 * 2 ^ s + c) % 4294967296 = nv a * 2 ^ s / 4294967296 ^ i % 4294967296 ∧ (a.getD i 0 * 2 ^ s + c) / 4294967296 < 2 ^ s ∧
      nv a * 2 ^ s / 4294967296 ^ (i + 1) = (a.getD i 0 * 2 ^ s + c) / 4294967296 + nv a / 4294967296 ^ (i + 1) * 2 ^ s := by
  have h1 := nv_div ha i
  have h3 := ha.get i
  have h5 : nv a * 2 ^ s / 4294967296 ^ (i + 1) = nv a * 2 ^ s / 4294967296 ^ i / 4294967296 := by rw [Nat.pow_succ,Nat.div_div_eq_div_mul]
  rw [h5,h,h1]
  have h6 : a.getD i 0 * 2 ^ s + 2 ^ s ≤ 4294967296 * 2 ^ s := by
    rw [← Nat.succ_mul]; exact Nat.mul_le_mul_right _ h3
  have h7 : (a.getD i 0 + 4294967296 * (nv a / 4294967296 ^ (i + 1))) * 2 ^ s = a.getD i 0 * 2 ^ s + 4294967296 * (nv a / 4294967296 ^ (i + 1) * 2 ^ s) := by
    rw [Nat.add_mul,Nat.mul_assoc]
  rw [h7]
  generalize nv a / 4294967296 ^ (i + 1) * 2 ^ s = y at *
  generalize a.getD i 0 * 2 ^ s = z at *
  generalize 2 ^ s = p at *
  refine ⟨by omega,?_,by omega⟩
  exact Nat.div_lt_of_lt_mul (by omega)
/-- A limb of what is shifted down. -/
theorem shr_step {a : List Nat} (ha : W32 a) {i s : Nat} (hs : s < 32) : (a.getD i 0 + a.getD (i + 1) 0 * 4294967296) / 2 ^ s % 4294967296 = nv a / 4294967296 ^ i / 2 ^ s % 4294967296 := by
  have h1 := nv_div ha i
  have h2 := nv_div ha (i + 1)
  obtain ⟨q,hq⟩ : ∃ q,4294967296 = 2 ^ s * q := ⟨2 ^ (32 - s),by rw [← Nat.pow_add,show s + (32 - s) = 32 by omega]⟩
  have h3 : nv a / 4294967296 ^ i = (a.getD i 0 + a.getD (i + 1) 0 * 4294967296) + 2 ^ s * (q * 4294967296 * (nv a / 4294967296 ^ (i + 1 + 1))) := by
    rw [h1,h2,← Nat.mul_assoc,← Nat.mul_assoc,← hq]
    generalize nv a / 4294967296 ^ (i + 1 + 1) = y
    omega
  rw [h3,Nat.add_mul_div_left _ _ (Nat.two_pow_pos s),Nat.mul_right_comm,Nat.add_mul_mod_self_right]
theorem shr_pos {n z s j : Nat} (hn : n = 32 * z + s) (a : Nat) : a / 2 ^ n / 4294967296 ^ j = a / 4294967296 ^ (z + j) / 2 ^ s := by
  rw [Nat.div_div_eq_div_mul,Nat.div_div_eq_div_mul,hn,show (4294967296 : Nat) = 2 ^ 32 from rfl,← Nat.pow_mul,← Nat.pow_mul,← Nat.pow_add,← Nat.pow_add]
  congr 2; omega
theorem shl_val {n z s : Nat} (hn : n = 32 * z + s) (a : Nat) (k : Nat) (h : a * 2 ^ s < 4294967296 ^ k) : nv (List.replicate z 0 ++ dg (a * 2 ^ s) k) = a * 2 ^ n := by
  rw [nv_append,nv_zeros,nv_dg,Nat.mod_eq_of_lt h,List.length_replicate,Nat.zero_add,hn,Nat.pow_add,Nat.pow_mul,Nat.mul_left_comm]
end Go.Proofs.Ytmnkmdfladbgdaa.Od
