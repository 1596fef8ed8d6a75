/- Odds: Shl. -/
import Derived.Test.YtmnkmdfladbgdaaOl5
set_option linter.unusedVariables false
set_option linter.unusedSimpArgs false
namespace Go.Proofs.Ytmnkmdfladbgdaa.Od
open Go Go.Proofs Go.RowKit Go.Proofs.YtmnkmdfladbgdaaAI Go.Proofs.YtmnkmdfladbgdaaFl

noncomputable def lb61 (i : Nat) : Code := (loopsOf (Try.f61.body.getD .skip)).getD i .skip
/-- Appending to a slice that is full. -/
theorem append_full {P : Program} {t xt e : TypeId} {d : TypeDesc} {sz bts : Nat} (ht : P.underlying t = some (.slice e)) (hxt : P.underlying xt = some d) (hd : appends d = true) (hE : elTyB P e sz bts = true)
    {h : Heap} {x : Value} {m k j : Nat} {cs ds : List Value} (hv : Sl h (.slice (some ⟨m, 0, none⟩) k k) sz k cs) (hx : Sl h x sz j ds) (hb : (k + j) * bts ≤ 2 ^ 47) (hb2 : k + j ≤ 2 ^ 47) (hj : 0 < j) :
    ∃ v' h', aappend P t xt (.slice (some ⟨m, 0, none⟩) k k) x h = some (v', h') ∧ Lg h' v' e sz (k + j) (cs ++ ds) ∧ Keep No h h' ∧ ∀ m, nm v' = some m → h.next ≤ m := by
  obtain ⟨i, z, hi, hz, hp, hzc, hz1, hsz, hby, h0⟩ := elTy hE
  subst hsz hby
  have hb0 : Nat.blt 0 i.size = true := blt_t h0
  have hzb : Nat.beq z.cells.size i.size = true := by rw [hzc]; exact beq_refl' _
  have hcond : (Nat.blt 0 i.size && plain z && Nat.beq z.cells.size i.size && z.cells.toList.all one) = true := by rw [hb0, hp, hzb, hz1]; rfl
  have hE' : ∀ r, aappendE P e (.slice (some ⟨m, 0, none⟩) k k) x h = r → aappend P t xt (.slice (some ⟨m, 0, none⟩) k k) x h = r := fun r hr => by
    unfold aappend; rw [ht, hxt]; simp only [hd, cond_true]; exact hr
  have hxa := hx.acells h0
  have hva := hv.acells h0
  have hjb := beq_pos hj
  have hbb : (Nat.ble ((k + j) * i.bytes) (2 ^ 47) && Nat.ble (k + j) (2 ^ 47)) = true := by rw [ble_t hb, ble_t hb2]; rfl
  refine ⟨.slice (some ⟨h.next, 0, some 0⟩) (k + j) i.size, h.new (.cells (cs ++ ds) e i.size true false), hE' _ ?_, ⟨by rw [List.length_append, hv.1, hx.1, Nat.add_mul], .inr ⟨h.next, by omega, rfl, by rw [Heap.get_new, if_pos rfl]⟩⟩, Keep.new _ _ _, fun m e => by have := (nm_eq e).2; simp only at this; omega⟩
  unfold aappendE
  rw [hi]
  simp only [hz, hxa, hcond, cond_true, hjb, cond_false, hbb, hva]
  rw [ble_f (show k < k + j by omega)]
  rfl

def Gs (h0 h : Heap) (v : Value) (l : List Nat) : Prop := (Lg h v 101 1 l.length (u3 l) ∧ ∀ m, nm v = some m → h0.next ≤ m) ∨ (∃ m, v = .slice (some ⟨m, 0, none⟩) l.length l.length ∧ Sl h v 1 l.length (u3 l))
theorem app_g {h0 h : Heap} {v : Value} {l : List Nat} (hv : Gs h0 h v l) (kp : Keep No h0 h) (hk : l.length + 1 ≤ 100000) (x : Nat) :
    ∃ v' h', aappend Try.prog 40 40 v (.slice (some ⟨h.next, 0, none⟩) 1 1) (h.new (.cells [.int .u32 (x : Nat)] 101 1 false false)) = some (v', h') ∧ Lg h' v' 101 1 (l ++ [x]).length (u3 (l ++ [x])) ∧ Keep No h0 h' ∧ ∀ m, nm v' = some m → h0.next ≤ m := by
  rcases hv with ⟨lg, nw⟩ | ⟨m, rfl, hs⟩
  · obtain ⟨v8, h8, e8, lg8, kp8, nv8⟩ := app_u3 lg hk x
    refine ⟨v8, h8, e8, lg8, kp.also kp8 fun m hm y => (by have := nw m y; omega), fun m e => ?_⟩
    rcases nv8 m e with y | y
    · exact nw m y
    · have := kp.1; omega
  · have k0 := Keep.new No h (.cells [.int .u32 (x : Nat)] 101 1 false false)
    have hx : Sl (h.new (.cells [.int .u32 (x : Nat)] 101 1 false false)) (.slice (some ⟨h.next, 0, none⟩) 1 1) 1 1 [.int .u32 (x : Nat)] :=
      ⟨rfl, .inr ⟨_, _, rfl, fun _ => ⟨_, _, _, _, _, by rw [Heap.get_new, if_pos rfl], rfl⟩⟩⟩
    obtain ⟨v8, h8, e8, lg8, kp8, nv8⟩ := append_full (t := 40) (xt := 40) Try.underlying40 Try.underlying40 rfl el101 (hs.keep k0 (fun _ _ x => x)) hx (by omega) (by omega) (by omega)
    exact ⟨v8, h8, e8, by rw [u3_snoc, List.length_append]; exact lg8, (kp.trans k0).trans kp8, fun m e => by have := nv8 m e; have := kp.1; rw [Heap.next_new] at *; omega⟩
def sy (a : List Nat) (s i : Nat) : Nat := nv a * 2 ^ s / 4294967296 ^ i - nv a / 4294967296 ^ i * 2 ^ s
theorem zr101 : (Try.prog.info? 101).bind (fun i => i.zero) = some (.int .u32 0) := by kernel_rfl
theorem ms40 (ρ : Operand → Value) (a b : Operand) (k : Nat) (ha : ρ a = .int .i64 k) (hb : ρ b = .int .i64 k) (hk : k * 4 ≤ 2 ^ 47) (d ty pos af gu) :
    aalloc Try.prog ρ ⟨d, .makeSlice 40 a b, ty, pos, af, gu⟩ = some (.cells (u3 (List.replicate k 0)) 101 1 false false, fun n => .slice (some ⟨n, 0, none⟩) k k) := by
  obtain ⟨i, z, hi, hz, hp, hzc, hz1, hsz, hby, h0⟩ := elTy el101
  have hzz := zr101
  rw [hi] at hzz
  simp only [Option.bind_some, hz, Option.some.injEq] at hzz
  subst hzz
  unfold aalloc
  simp only [ha, hb, Try.underlying40, hi, hz, hsz, hby]
  have : (bif plain (Value.int .u32 0) && Nat.beq (Value.int .u32 0).cells.size 1 && (Value.int .u32 0).cells.toList.all one && Nat.blt 0 1 then (1 : Nat) else 0) = 1 := by kernel_rfl
  have hr : u3 (List.replicate k 0) = List.replicate k (Value.int .u32 0) := by simp [u3]
  rw [hr]
  simp [plain, plainN, one, Value.cells, beq_d, Nat.blt, ble_d]
  omega
set_option maxRecDepth 20000 in
set_option maxHeartbeats 6400000 in
theorem shl1 {h0 : Heap} {va : Option Addr} {vca La n z s : Nat} {a : List Nat} (hLa : a.length = La) (wa : W32 a) (ka : La ≤ 1000) (hn : n ≤ 10000) (hz : z = n / 32) (hs : s = n % 32) (hva : Sl h0 (.slice va La vca) 1 La (u3 a)) (v0 : Value) (F : Step) (hFF : F = aexecP Try.prog (sO 61) (run Try.prog sO) loopω pt61 (lb61 0)) (t : Tm)
    (ht : forget [2, 3, 4, 8, 9, 10, 11, 12, 13, 14, 15, 16, 17, 18, 19, 20, 21, 22, 23, 24, 25, 26, 27, 28, 29, 30, 31, 32, 33, 34, 35, 36, 37, 38, 39, 40, 41, 42, 43] t = [.slice va La vca, .int .i64 (n : Nat), unk, unk, unk, v0, .int .u64 (sy a s (0) : Nat), .int .i64 (0 : Nat), unk, unk, unk, unk, unk, unk, unk, unk, unk, unk, unk, unk, unk, unk, unk, unk, unk, unk, unk, unk, unk, unk, unk, unk, unk, unk, unk, unk, unk, unk, unk, unk, unk, unk, unk, unk]) (hI0 : (Gs h0 h0 v0 (List.replicate z 0 ++ dg (nv a * 2 ^ s) (0)) ∧ Keep No h0 h0 ∧ nv a * 2 ^ s / 4294967296 ^ (0) = sy a s (0) + nv a / 4294967296 ^ (0) * 2 ^ s ∧ sy a s (0) < 2 ^ s)) :
    ∃ h' v x12 x13 x14 x15, loopω [2, 3, 4, 8, 9, 10, 11, 12, 13, 14, 15, 16, 17, 18, 19, 20, 21, 22, 23, 24, 25, 26, 27, 28, 29, 30, 31, 32, 33, 34, 35, 36, 37, 38, 39, 40, 41, 42, 43] F t h0 = some (.exit 0, [.slice va La vca, .int .i64 (n : Nat), unk, unk, unk, v, .int .u64 (sy a s (La) : Nat), .int .i64 (La : Nat), unk, unk, unk, unk, x12, x13, x14, x15, unk, unk, unk, unk, unk, unk, unk, unk, unk, unk, unk, unk, unk, unk, unk, unk, unk, unk, unk, unk, unk, unk, unk, unk, unk, unk, unk, unk], h') ∧ (Gs h0 h' v (List.replicate z 0 ++ dg (nv a * 2 ^ s) (La)) ∧ Keep No h0 h' ∧ nv a * 2 ^ s / 4294967296 ^ (La) = sy a s (La) + nv a / 4294967296 ^ (La) * 2 ^ s ∧ sy a s (La) < 2 ^ s) := by
  subst hFF
  suffices hs : ∃ e t' h', loopω [2, 3, 4, 8, 9, 10, 11, 12, 13, 14, 15, 16, 17, 18, 19, 20, 21, 22, 23, 24, 25, 26, 27, 28, 29, 30, 31, 32, 33, 34, 35, 36, 37, 38, 39, 40, 41, 42, 43] (aexecP Try.prog (sO 61) (run Try.prog sO) loopω pt61 (lb61 0)) t h0 = some (e, t', h') ∧ (e = .exit 0 ∧ ∃ v x12 x13 x14 x15, t' = [.slice va La vca, .int .i64 (n : Nat), unk, unk, unk, v, .int .u64 (sy a s (La) : Nat), .int .i64 (La : Nat), unk, unk, unk, unk, x12, x13, x14, x15, unk, unk, unk, unk, unk, unk, unk, unk, unk, unk, unk, unk, unk, unk, unk, unk, unk, unk, unk, unk, unk, unk, unk, unk, unk, unk, unk, unk] ∧ (Gs h0 h' v (List.replicate z 0 ++ dg (nv a * 2 ^ s) (La)) ∧ Keep No h0 h' ∧ nv a * 2 ^ s / 4294967296 ^ (La) = sy a s (La) + nv a / 4294967296 ^ (La) * 2 ^ s ∧ sy a s (La) < 2 ^ s)) by
    obtain ⟨e, t', h', q1, rfl, v, x12, x13, x14, x15, rfl, q2⟩ := hs
    exact ⟨h', v, x12, x13, x14, x15, q1, q2⟩
  simp only [lb61, Try.f61, loopsOf, Option.getD_some, List.nil_append, List.append_nil, List.cons_append, List.getD_cons_zero, List.getD_cons_succ]
  refine loop_by (fun k t h' => ∃ (i : Nat) (v : Value), i + k = La ∧ forget [2, 3, 4, 8, 9, 10, 11, 12, 13, 14, 15, 16, 17, 18, 19, 20, 21, 22, 23, 24, 25, 26, 27, 28, 29, 30, 31, 32, 33, 34, 35, 36, 37, 38, 39, 40, 41, 42, 43] t = [.slice va La vca, .int .i64 (n : Nat), unk, unk, unk, v, .int .u64 (sy a s (i) : Nat), .int .i64 (i : Nat), unk, unk, unk, unk, unk, unk, unk, unk, unk, unk, unk, unk, unk, unk, unk, unk, unk, unk, unk, unk, unk, unk, unk, unk, unk, unk, unk, unk, unk, unk, unk, unk, unk, unk, unk, unk] ∧ (Gs h0 h' v (List.replicate z 0 ++ dg (nv a * 2 ^ s) (i)) ∧ Keep No h0 h' ∧ nv a * 2 ^ s / 4294967296 ^ (i) = sy a s (i) + nv a / 4294967296 ^ (i) * 2 ^ s ∧ sy a s (i) < 2 ^ s))
    (fun e t' h' => e = .exit 0 ∧ ∃ v x12 x13 x14 x15, t' = [.slice va La vca, .int .i64 (n : Nat), unk, unk, unk, v, .int .u64 (sy a s (La) : Nat), .int .i64 (La : Nat), unk, unk, unk, unk, x12, x13, x14, x15, unk, unk, unk, unk, unk, unk, unk, unk, unk, unk, unk, unk, unk, unk, unk, unk, unk, unk, unk, unk, unk, unk, unk, unk, unk, unk, unk, unk] ∧ (Gs h0 h' v (List.replicate z 0 ++ dg (nv a * 2 ^ s) (La)) ∧ Keep No h0 h' ∧ nv a * 2 ^ s / 4294967296 ^ (La) = sy a s (La) + nv a / 4294967296 ^ (La) * 2 ^ s ∧ sy a s (La) < 2 ^ s)) ?_ (La) _ _ ⟨0, _, by omega, ht, hI0⟩
  rintro k t h' ⟨i, v, hi, ht, hI⟩
  rw [ht]
  rcases Nat.lt_or_ge i (La) with h1 | h1
  · obtain ⟨lg, kp, hc1, hc2⟩ := hI
    have hinc := @inc64 i (by omega)
    have hcs := cast_succ i
    have hak := hva.keep kp fun _ _ x => x
    have hs32 : s < 32 := by omega
    obtain ⟨p1, p2, p3⟩ := shl_step wa hs32 hc1 hc2
    have lga : a.getD i 0 < 4294967296 := wa.get i
    have hcy : sy a s (i + 1) = (a.getD i 0 * 2 ^ s + sy a s i) / 4294967296 := by
      have hd : sy a s (i + 1) = nv a * 2 ^ s / 4294967296 ^ (i + 1) - nv a / 4294967296 ^ (i + 1) * 2 ^ s := rfl
      rw [p3] at hd; omega
    have q1 : nv a * 2 ^ s / 4294967296 ^ (i + 1) = sy a s (i + 1) + nv a / 4294967296 ^ (i + 1) * 2 ^ s := by rw [hcy]; exact p3
    have q2 : sy a s (i + 1) < 2 ^ s := by rw [hcy]; exact p2
    obtain ⟨v8, h8, e8, lg8, kk, nn⟩ := app_g lg kp (by rw [List.length_append, List.length_replicate, dg_len]; omega) (nv a * 2 ^ s / 4294967296 ^ i % 4294967296)
    rw [List.append_assoc, ← dg_succ] at lg8
    rw [← p1] at e8
    have h2s : 2 ^ s ≤ 2 ^ 31 := Nat.pow_le_pow_right (by omega) (by omega)
    have hmul : a.getD i 0 * 2 ^ s ≤ 4294967295 * 2 ^ 31 := Nat.mul_le_mul (by omega) h2s
    obtain ⟨va, vca, C, ce, cs, gr, ro, eb, hg, hc⟩ := sl_u3 hak h1
    simp only [Value.slice.injEq, true_and] at eb
    obtain ⟨rfl, rfl⟩ := eb
    generalize hxa : a.getD i 0 = x at *
    generalize hcc : sy a s i = c at *
    obtain ⟨s1, hs1⟩ : ∃ y, x * 2 ^ s = y := ⟨_, rfl⟩
    obtain ⟨s2, hs2⟩ : ∃ y, s1 + c = y := ⟨_, rfl⟩
    have hs12 : x * 2 ^ s + c = s2 := by omega
    obtain ⟨d, hd⟩ : ∃ d, s2 % 4294967296 = d := ⟨_, rfl⟩
    obtain ⟨c', hc'⟩ : ∃ d, s2 / 4294967296 = d := ⟨_, rfl⟩
    rw [hs12, hc'] at hcy
    rw [hs12, hd] at e8
    have m1 : (n : Int).tmod 32 = (s : Int) := by rw [hs]; rfl
    have m1' : (n : Int) % 32 = (s : Int) := by omega
    have w0 := wu64 (a := x) rfl (by omega)
    have w1 := wu64 (a := s) rfl (by omega)
    have w2 := shl64 (a := x) (k := s) hs1 (by omega) (by omega)
    have w3 := au64 hs2 (by omega)
    have w4 := mod32 hd
    have w5 := wu32 (a := d) rfl (by omega)
    have w6 := quo32' hc' (by omega)
    simp (maxSteps := 2000000) -implicitDefEqProofs [px_skip, px_label, px_region, px_draw, qx_seq, qx_cond, px_block, px_loop, px_scope, px_exit, px_ret, seqK_normal, seqK_exit, seqK_ret, condK_true, condK_false, opsK_some, wK_true, wK_false, itK_some, aops_nil, aops_cons, lK_some, aK_some, hK_some, dwK_true, dwK_false, diK_some, dK_light, dK_alloc, dK_heavy, adraw_nil, adraw_cons, aop, cls, light, lightS, binE, aeq, intBin, goInt, pl_int, pl_bool, pl_ptr, pl_slice, aload, isAggT, aeval, tput, awanted, List.range_succ, fin, aresults, aresult, List.replicate, heavy, acallOp, aenter, ble_d, beq_d, firstRegion, readNames, Nxt, isAnc, readsOk, objEq_some, h1, hg, hc, m1, m1', w0, w1, w2, w3, w4, w5, w6, shl37, aindexAddr, sz101, Try.underlying40, cv101_37, cv37_101, cv3_117, (fun ρ z hz => bs40_1 ρ z (d : Int) hz), e8, hinc, undef]
    exact ⟨k - 1, by omega, i + 1, by omega, v8, by simp (maxSteps := 2000000) only [forget, List.set_cons_succ, List.set_cons_zero, hcs, hcy], .inl ⟨lg8, nn⟩, kk, q1, q2⟩
  · obtain rfl : i = La := by omega
    simp (maxSteps := 2000000) -implicitDefEqProofs [px_skip, px_label, px_region, px_draw, qx_seq, qx_cond, px_block, px_loop, px_scope, px_exit, px_ret, seqK_normal, seqK_exit, seqK_ret, condK_true, condK_false, opsK_some, wK_true, wK_false, itK_some, aops_nil, aops_cons, lK_some, aK_some, hK_some, dwK_true, dwK_false, diK_some, dK_light, dK_alloc, dK_heavy, adraw_nil, adraw_cons, aop, cls, light, lightS, binE, aeq, intBin, goInt, pl_int, pl_bool, pl_ptr, pl_slice, aload, isAggT, aeval, tput, awanted, List.range_succ, fin, aresults, aresult, List.replicate, heavy, acallOp, aenter, ble_d, beq_d, firstRegion, readNames, Nxt, isAnc, readsOk, objEq_some, undef]
    exact hI

theorem shl_run {h : Heap} {v : Value} {a : List Nat} (n : Nat) (ha : Na h v a) (hn : n ≤ 10000) (hb : n / 32 + a.length ≤ 900) : ∃ v' h', run Try.prog sO 61 [v, .int .i64 (n : Nat)] h = some (v', h') ∧ Nt h h' v' (nv a * 2 ^ n) ∧ (lm (nv a * 2 ^ n)).length ≤ n / 32 + a.length + 1 := by
  obtain ⟨hv, wa, ka⟩ := ha
  obtain ⟨va, vca, rfl⟩ := sl_form hv
  obtain ⟨z, hz⟩ : ∃ z, z = n / 32 := ⟨_, rfl⟩
  obtain ⟨s, hs⟩ : ∃ s, s = n % 32 := ⟨_, rfl⟩
  have hy0 : sy a s 0 = 0 := by unfold sy; simp
  suffices hx : ∃ y, fin Try.prog Try.f61 (aexecP Try.prog (sO 61) (run Try.prog sO) loopω pt61 (Try.f61.body.getD .skip) ([.slice va a.length vca, .int .i64 (n : Nat)] ++ List.replicate (Try.f61.ntmps - 2) undef) h) = some y ∧ Nt h y.2 y.1 (nv a * 2 ^ n) ∧ (lm (nv a * 2 ^ n)).length ≤ z + a.length + 1 by
    obtain ⟨⟨y1, y2⟩, hy, q⟩ := hx
    exact ⟨y1, y2, run_finP pt61 Try.func61 rfl planned61 hy, by rw [← hz]; exact q⟩
  have hms := fun ρ x y hx hy => ms40 ρ x y z hx hy (by omega)
  have d1 : IntKind.i64.wrap ((n : Int).tdiv 32) = (z : Int) := by
    have : (n : Int).tdiv 32 = ((n / 32 : Nat) : Int) := rfl
    rw [this]; exact wi64 hz.symm (by omega)
  have d1' : IntKind.i64.wrap ((n : Int) / 32) = (z : Int) := by
    have : (n : Int) / 32 = ((n / 32 : Nat) : Int) := by omega
    rw [this]; exact wi64 hz.symm (by omega)
  have k0 := Keep.new No h (.cells (u3 (List.replicate z 0)) 101 1 false false)
  have g0 : (h.new (.cells (u3 (List.replicate z 0)) 101 1 false false)).get h.next = some (.cells (u3 (List.replicate z 0)) 101 1 false false) := by rw [Heap.get_new, if_pos rfl]
  obtain ⟨hA, hhA⟩ : ∃ x, x = h.new (.cells (u3 (List.replicate z 0)) 101 1 false false) := ⟨_, rfl⟩
  rw [← hhA] at k0 g0
  simp (maxSteps := 2000000) -implicitDefEqProofs [Try.f61, px_skip, px_label, px_region, px_draw, qx_seq, qx_cond, px_block, px_loop, px_scope, px_exit, px_ret, seqK_normal, seqK_exit, seqK_ret, condK_true, condK_false, opsK_some, wK_true, wK_false, itK_some, aops_nil, aops_cons, lK_some, aK_some, hK_some, dwK_true, dwK_false, diK_some, dK_light, dK_alloc, dK_heavy, adraw_nil, adraw_cons, aop, cls, light, lightS, binE, aeq, intBin, goInt, pl_int, pl_bool, pl_ptr, pl_slice, aload, isAggT, aeval, tput, awanted, List.range_succ, fin, aresults, aresult, List.replicate, heavy, acallOp, aenter, ble_d, beq_d, firstRegion, readNames, Nxt, isAnc, readsOk, objEq_some, Try.underlying40, d1, d1', hms, ← hhA, sO61]
  generalize hl : loopω _ _ _ _ = r
  obtain ⟨hB, v5, x12, x13, x14, x15, hx, lg, kp, hc1, hc2⟩ := useX5 hl (shl1 (h0 := hA) (va := va) (vca := vca) (La := a.length) (n := n) (z := z) (s := s) (a := a) rfl wa ka hn hz hs (hv.keep k0 fun _ _ x => x) _ _ (by kernel_rfl) _ (by rw [hy0]; kernel_rfl) ⟨.inr ⟨h.next, by rw [dg_zero, List.append_nil, List.length_replicate], by
      rw [dg_zero, List.append_nil, List.length_replicate]
      exact ⟨by simp [u3], .inr ⟨_, _, rfl, fun _ => ⟨_, _, _, _, _, g0, by simp [u3]⟩⟩⟩⟩, Keep.refl _ _, by rw [hy0]; simp, by rw [hy0]; exact Nat.two_pow_pos s⟩)
  subst hx
  clear hl
  rw [nv_div_len wa (Nat.le_refl _), Nat.zero_mul, Nat.add_zero] at hc1
  obtain ⟨v8, h8, e8, lg8, kk, nn⟩ := app_g lg kp (by rw [List.length_append, List.length_replicate, dg_len]; omega) (sy a s a.length)
  have h2s : 2 ^ s ≤ 2 ^ 31 := Nat.pow_le_pow_right (by omega) (by omega)
  have hdd : (List.replicate z 0 ++ dg (nv a * 2 ^ s) a.length) ++ [sy a s a.length] = List.replicate z 0 ++ dg (nv a * 2 ^ s) (a.length + 1) := by rw [List.append_assoc, dg_succ, hc1, Nat.mod_eq_of_lt (by omega)]
  have hll : (List.replicate z 0 ++ dg (nv a * 2 ^ s) (a.length + 1)).length = z + a.length + 1 := by rw [List.length_append, List.length_replicate, dg_len]; omega
  rw [hdd, hll] at lg8
  have hval := shl_val (n := n) (z := z) (s := s) (by omega) (nv a) (a.length + 1) (by
    have h1 := nv_lt wa
    rw [Nat.pow_succ]
    exact Nat.mul_lt_mul_of_lt_of_le h1 (by omega) (by omega))
  have hww : W32 (List.replicate z 0 ++ dg (nv a * 2 ^ s) (a.length + 1)) := fun x hx => by
    rcases List.mem_append.1 hx with h1 | h1
    · rw [(List.mem_replicate.1 h1).2]; omega
    · exact dg_w _ _ x h1
  have w4 := wu32 (a := sy a s a.length) rfl (by omega)
  have hna : Na h8 v8 (List.replicate z 0 ++ dg (nv a * 2 ^ s) (a.length + 1)) := ⟨by rw [hll]; exact lg8.sl, hww, by rw [hll]; omega⟩
  obtain ⟨v9, h9, e9, n9, k9⟩ := trim_run hna
  rw [hval] at n9 k9
  rw [hll] at k9
  generalize sy a s a.length = c at *
  simp (maxSteps := 2000000) -implicitDefEqProofs [px_skip, px_label, px_region, px_draw, qx_seq, qx_cond, px_block, px_loop, px_scope, px_exit, px_ret, seqK_normal, seqK_exit, seqK_ret, condK_true, condK_false, opsK_some, wK_true, wK_false, itK_some, aops_nil, aops_cons, lK_some, aK_some, hK_some, dwK_true, dwK_false, diK_some, dK_light, dK_alloc, dK_heavy, adraw_nil, adraw_cons, aop, cls, light, lightS, binE, aeq, intBin, goInt, pl_int, pl_bool, pl_ptr, pl_slice, aload, isAggT, aeval, tput, awanted, List.range_succ, fin, aresults, aresult, List.replicate, heavy, acallOp, aenter, ble_d, beq_d, firstRegion, readNames, Nxt, isAnc, readsOk, objEq_some, cv37_101, w4, (fun ρ z hz => bs40_1 ρ z (c : Int) hz), e8, Try.underlying40, en85, e9]
  exact ⟨_, _, ⟨rfl, rfl⟩, ⟨n9.1, k0.trans (kk.trans n9.2.1), fun m e => by have := n9.2.2 m e; have := kk.1; have := k0.1; omega⟩, k9⟩

end Go.Proofs.Ytmnkmdfladbgdaa.Od
