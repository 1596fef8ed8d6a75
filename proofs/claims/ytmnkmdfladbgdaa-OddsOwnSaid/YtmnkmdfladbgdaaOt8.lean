/- The library's sort: the merge. -/
import Derived.Test.YtmnkmdfladbgdaaOt5
import Derived.Test.YtmnkmdfladbgdaaSrt2
set_option linter.unusedVariables false
set_option linter.unusedSimpArgs false
namespace Go.Proofs.Ytmnkmdfladbgdaa.Od
open Go Go.Proofs Go.RowKit Go.Proofs.YtmnkmdfladbgdaaAI Go.Proofs.YtmnkmdfladbgdaaFl Go.Proofs.YtmnkmdfladbgdaaSrt

/-- A line: its first, its count, its chance. -/
abbrev Ln := Int × Int × Nat
def lns (d : List Ln) : List Value := d.flatMap fun x => [.int .i64 x.1,.int .i64 x.2.1,.float .f64 x.2.2]
/-- The row that is sorted: its block, and all else as it was. -/
def DH (h0 : Heap) (m : Nat) (h : Heap) (d : List Ln) : Prop := Keep (fun x => x = m) h0 h ∧ h.get m = some (.cells (lns d) 67 3 true false)
abbrev VL (m n : Nat) : Value := .slice (some ⟨m,0,some 0⟩) n 3
theorem lns_len (d : List Ln) : (lns d).length = d.length * 3 := by
  induction d with
  | nil => rfl
  | cons x d ih => simp only [lns,List.flatMap_cons,List.length_append,List.length_cons,List.length_nil] at *; omega
theorem lns_app (x y : List Ln) : lns (x ++ y) = lns x ++ lns y := by simp [lns]
theorem lns_drop (d : List Ln) (i : Nat) : (lns d).drop (i * 3) = lns (d.drop i) := by
  induction d generalizing i with
  | nil => simp [lns]
  | cons x d ih =>
    cases i with
    | zero => simp
    | succ i =>
      rw [show (i + 1) * 3 = i * 3 + 3 by omega,Nat.add_comm,← List.drop_drop]
      have : (lns (x :: d)).drop 3 = lns d := by simp [lns]
      rw [this,ih i,List.drop_succ_cons]
theorem lns_take (d : List Ln) (i : Nat) : (lns d).take (i * 3) = lns (d.take i) := by
  induction d generalizing i with
  | nil => simp [lns]
  | cons x d ih =>
    cases i with
    | zero => simp [lns]
    | succ i =>
      have h1 : lns (x :: d) = [.int .i64 x.1,.int .i64 x.2.1,.float .f64 x.2.2] ++ lns d := by simp [lns]
      have h2 : lns (x :: d.take i) = [.int .i64 x.1,.int .i64 x.2.1,.float .f64 x.2.2] ++ lns (d.take i) := by simp [lns]
      rw [List.take_succ_cons,h1,h2,show (i + 1) * 3 = i * 3 + 1 + 1 + 1 by omega,← ih i]
      simp only [List.cons_append,List.nil_append,List.take_succ_cons]
theorem lns_g {d : List Ln} {i : Nat} (hi : i < d.length) : i * 3 + 3 ≤ (lns d).length ∧ ((lns d).drop (i * 3)).take 3 = [.int .i64 (g d i).1,.int .i64 (g d i).2.1,.float .f64 (g d i).2.2] := by
  refine ⟨by rw [lns_len]; omega,?_⟩
  have h1 : lns (d[i] :: d.drop (i + 1)) = [.int .i64 d[i].1,.int .i64 d[i].2.1,.float .f64 d[i].2.2] ++ lns (d.drop (i + 1)) := by simp only [lns,List.flatMap_cons]
  rw [lns_drop,List.drop_eq_getElem_cons hi,g_eq d hi,h1]
  rfl
theorem lns_set {d : List Ln} {i : Nat} (hi : i < d.length) (v : Ln) : List.take (i * 3) (lns d) ++ Value.int .i64 v.1 :: Value.int .i64 v.2.1 :: Value.float .f64 v.2.2 :: List.drop (i * 3 + 3) (lns d) = lns (d.set i v) := by
  rw [lns_take,show i * 3 + 3 = (i + 1) * 3 by omega,lns_drop,List.set_eq_take_append_cons_drop,if_pos hi,lns_app]
  simp [lns]
theorem sz67 : szOf Try.prog 67 = some 3 := by kernel_rfl
theorem ok67 (a b : Int) (c : Nat) : okCells (.agg #[.int .i64 a,.int .i64 b,.float .f64 c]) = some [.int .i64 a,.int .i64 b,.float .f64 c] := rfl
theorem swap_mem {h0 h : Heap} {m i j : Nat} {d : List Ln} (hd : DH h0 m h d) (hi : i < d.length) (hj : j < d.length) :
    ∃ h1 h2,h1 = h.put m (some (.cells (lns (d.set i (g d j))) 67 3 true false)) ∧ h2 = h1.put m (some (.cells (lns ((d.set i (g d j)).set j (g d i))) 67 3 true false)) ∧
      h1.get m = some (.cells (lns (d.set i (g d j))) 67 3 true false) ∧ h1.next = h.next ∧ h2.next = h.next ∧ DH h0 m h2 (swp d i j) := by
  obtain ⟨hk,hg⟩ := hd
  have hlt := Heap.get_lt hg
  refine ⟨_,_,rfl,rfl,by rw [Heap.get_put hlt,if_pos rfl],rfl,rfl,?_,?_⟩
  · exact (hk.trans (Keep.put (S := fun x => x = m) hlt rfl _)).trans (Keep.put (S := fun x => x = m) (by rw [Heap.next_put]; exact hlt) rfl _)
  · rw [Heap.get_put (by rw [Heap.next_put]; exact hlt),if_pos rfl]; rfl

theorem swr_run {h0 h : Heap} {m a b n : Nat} {d : List Ln} (cv : Value) (hd : DH h0 m h d) (h1 : a + n ≤ b) (h2 : b + n ≤ d.length) (hN : d.length ≤ 2 ^ 47) :
    ∃ h' d',run Try.prog sO 108 [VL m d.length,.int .i64 (a : Nat),.int .i64 (b : Nat),.int .i64 (n : Nat),cv] h = some (.tuple #[],h') ∧ DH h0 m h' d' ∧ SwrI a b n d d' := by
  suffices hx : ∃ y,fin Try.prog Try.f108 (aexecP Try.prog (sO 108) (run Try.prog sO) loopω pt108 (Try.f108.body.getD .skip) ([VL m d.length,.int .i64 (a : Nat),.int .i64 (b : Nat),.int .i64 (n : Nat),cv] ++ List.replicate (Try.f108.ntmps - 5) undef) h) = some y ∧ y.1 = .tuple #[] ∧ ∃ d',DH h0 m y.2 d' ∧ SwrI a b n d d' by
    obtain ⟨⟨y1,y2⟩,hy,rfl,d',q1,q2⟩ := hx
    exact ⟨y2,d',run_finP pt108 Try.func108 rfl planned108 hy,q1,q2⟩
  simp (maxSteps := 2000000) -implicitDefEqProofs [Try.f108,ble_d,beq_d,List.range_succ,List.replicate,cond_true,cond_false,sO108]
  generalize hl : loopω _ _ _ _ = r
  obtain ⟨e,t',h',hx,he,x11,x12,x13,ht,hI⟩ : ∃ e t' h',r = some (e,t',h') ∧ e = .exit 0 ∧ ∃ x11 x12 x13,t' = [VL m d.length,.int .i64 (a : Nat),.int .i64 (b : Nat),.int .i64 (n : Nat),Z,Z,Z,Z,Z,Z,.int .i64 (n : Nat),x11,x12,x13,Z,Z,Z,Z,Z,Z,Z,Z,Z,Z,Z,Z,Z,Z,Z,Z,Z,Z,Z,Z,Z,Z,Z,Z] ∧ ∃ d',DH h0 m h' d' ∧ SwrI a b n d d' := by
    rw [← hl]
    refine loop_by (fun k t h' => ∃ i,i + k = n ∧ forget [4,5,6,7,8,9,11,12,13,14,15,16,17,18,19,20,21,22,23,24,25,26,27,28,29,30,31,32,33,34,35,36,37] t = [VL m d.length,.int .i64 (a : Nat),.int .i64 (b : Nat),.int .i64 (n : Nat),Z,Z,Z,Z,Z,Z,.int .i64 (i : Nat),Z,Z,Z,Z,Z,Z,Z,Z,Z,Z,Z,Z,Z,Z,Z,Z,Z,Z,Z,Z,Z,Z,Z,Z,Z,Z,Z] ∧ ∃ d',DH h0 m h' d' ∧ SwrI a b i d d')
      (fun e t' h' => e = .exit 0 ∧ ∃ x11 x12 x13,t' = [VL m d.length,.int .i64 (a : Nat),.int .i64 (b : Nat),.int .i64 (n : Nat),Z,Z,Z,Z,Z,Z,.int .i64 (n : Nat),x11,x12,x13,Z,Z,Z,Z,Z,Z,Z,Z,Z,Z,Z,Z,Z,Z,Z,Z,Z,Z,Z,Z,Z,Z,Z,Z] ∧ ∃ d',DH h0 m h' d' ∧ SwrI a b n d d') ?_ n _ _ ⟨0,by omega,by kernel_rfl,d,hd,swr_start _ _ _⟩
    rintro k t h' ⟨i,hi,ht,d',hd',hs⟩
    rw [ht]
    rcases Nat.lt_or_ge i n with h3 | h3
    · have hl := hs.len
      obtain ⟨q1,q2,e1,e2,g1,n1,n2,dd⟩ := swap_mem hd' (i := a + i) (j := b + i) (by omega) (by omega)
      have hst := swr_step hs (by omega) (by omega)
      have wa : IntKind.i64.wrap ((a : Int) + (i : Int)) = ((a + i : Nat) : Int) := by rw [IntWalk.i64_in _ (by omega)]; omega
      have wb : IntKind.i64.wrap ((b : Int) + (i : Int)) = ((b + i : Nat) : Int) := by rw [IntWalk.i64_in _ (by omega)]; omega
      have ga := lns_g (d := d') (i := a + i) (by omega)
      have gb := lns_g (d := d') (i := b + i) (by omega)
      have la : a + i < d.length := by omega
      have lb : b + i < d.length := by omega
      have ca : (a + i) * 3 + 3 ≤ (lns d').length := by rw [lns_len]; omega
      have sa := lns_set (d := d') (i := a + i) (by omega) (g d' (b + i))
      have cb : (b + i) * 3 + 3 ≤ (lns (d'.set (a + i) (g d' (b + i)))).length := by rw [lns_len,List.length_set]; omega
      have sb := lns_set (d := d'.set (a + i) (g d' (b + i))) (i := b + i) (by rw [List.length_set]; omega) (g d' (a + i))
      have hg := hd'.2
      have hinc := @inc64 i (by omega)
      have hii := cast_succ i
      have hgt := Heap.get_lt hg
      generalize hga : g d' (a + i) = A at *
      generalize hgb : g d' (b + i) = B at *
      generalize hai : a + i = ai at *
      generalize hbi : b + i = bi at *
      simp (maxSteps := 2000000) -implicitDefEqProofs [ble_d,beq_d,List.range_succ,List.replicate,cond_true,cond_false,h3,pt108_3,pl108_3,an108_3,wa,wb,aindexAddr,sz67,Try.underlying56,Try.underlying67,hg,ga,gb,la,lb,ca,cb,sa,sb,astore,ok67,g1,← e1,← e2,n1,n2,hinc]
      exact ⟨k - 1,by omega,i + 1,by omega,by simp (maxSteps := 2000000) only [forget,List.set_cons_succ,List.set_cons_zero,hii],_,dd,hst⟩
    · obtain rfl : i = n := by omega
      simp (maxSteps := 2000000) -implicitDefEqProofs [ble_d,beq_d,List.range_succ,List.replicate,cond_true,cond_false]
      exact ⟨d',hd',hs⟩
  subst hx he ht
  simp (maxSteps := 2000000) -implicitDefEqProofs [ble_d,beq_d,List.range_succ,List.replicate,cond_true,cond_false]
  exact ⟨_,_,⟨rfl,rfl⟩,rfl,hI⟩
/-- A rotation. -/
theorem rot_run {h0 h : Heap} {m a c b : Nat} {d : List Ln} (cv : Value) (hd : DH h0 m h d) (h1 : a < c) (h2 : c < b) (h3 : b ≤ d.length) (hN : d.length ≤ 2 ^ 47) :
    ∃ h' d',run Try.prog sO 105 [VL m d.length,.int .i64 (a : Nat),.int .i64 (c : Nat),.int .i64 (b : Nat),cv] h = some (.tuple #[],h') ∧ DH h0 m h' d' ∧ d'.length = d.length ∧ d'.Perm d ∧ ∀ k,g d' k = rotT a c b d k := by
  suffices hx : ∃ y,fin Try.prog Try.f105 (aexecP Try.prog (sO 105) (run Try.prog sO) loopω pt105 (Try.f105.body.getD .skip) ([VL m d.length,.int .i64 (a : Nat),.int .i64 (c : Nat),.int .i64 (b : Nat),cv] ++ List.replicate (Try.f105.ntmps - 5) undef) h) = some y ∧ y.1 = .tuple #[] ∧ ∃ d',DH h0 m y.2 d' ∧ d'.length = d.length ∧ d'.Perm d ∧ ∀ k,g d' k = rotT a c b d k by
    obtain ⟨⟨y1,y2⟩,hy,rfl,d',q1,q2⟩ := hx
    exact ⟨y2,d',run_finP pt105 Try.func105 rfl planned105 hy,q1,q2⟩
  have w1 : IntKind.i64.wrap ((c : Int) - (a : Int)) = ((c - a : Nat) : Int) := by rw [IntWalk.i64_in _ (by omega)]; omega
  have w2 : IntKind.i64.wrap ((b : Int) - (c : Int)) = ((b - c : Nat) : Int) := by rw [IntWalk.i64_in _ (by omega)]; omega
  simp (maxSteps := 2000000) -implicitDefEqProofs [Try.f105,ble_d,beq_d,List.range_succ,List.replicate,cond_true,cond_false,w1,w2,sO105]
  generalize hl : loopω _ _ _ _ = r
  obtain ⟨e,t',h',hx,he,i,hic,x18,x19,x20,ht,d',hd',hR⟩ : ∃ e t' h',r = some (e,t',h') ∧ e = .exit 0 ∧ ∃ i : Nat,i ≤ c ∧ ∃ x18 x19 x20,t' = [VL m d.length,Z,.int .i64 (c : Nat),Z,cv,Z,Z,Z,Z,Z,.int .i64 (i : Nat),.int .i64 (i : Nat),Z,Z,Z,Z,Z,Z,x18,x19,x20,Z,Z,Z,Z,Z,Z,Z,Z,Z,Z,Z,Z,Z,Z,Z,Z,Z,Z,Z,Z,Z,Z,Z,Z,Z,Z,Z,Z,Z,Z,Z,Z,Z,Z,Z,Z,Z] ∧ ∃ d',DH h0 m h' d' ∧ RotI a c b i i d d' := by
    rw [← hl]
    refine loop_by (fun k t h' => ∃ i j : Nat,i + j = k ∧ forget [1,3,5,6,7,8,9,12,13,14,15,16,17,18,19,20,21,22,23,24,25,26,27,28,29,30,31,32,33,34,35,36,37,38,39,40,41,42,43,44,45,46,47,48,49,50,51,52,53,54,55,56,57] t = [VL m d.length,Z,.int .i64 (c : Nat),Z,cv,Z,Z,Z,Z,Z,.int .i64 (i : Nat),.int .i64 (j : Nat),Z,Z,Z,Z,Z,Z,Z,Z,Z,Z,Z,Z,Z,Z,Z,Z,Z,Z,Z,Z,Z,Z,Z,Z,Z,Z,Z,Z,Z,Z,Z,Z,Z,Z,Z,Z,Z,Z,Z,Z,Z,Z,Z,Z,Z,Z] ∧ ∃ d',DH h0 m h' d' ∧ RotI a c b i j d d')
      (fun e t' h' => e = .exit 0 ∧ ∃ i : Nat,i ≤ c ∧ ∃ x18 x19 x20,t' = [VL m d.length,Z,.int .i64 (c : Nat),Z,cv,Z,Z,Z,Z,Z,.int .i64 (i : Nat),.int .i64 (i : Nat),Z,Z,Z,Z,Z,Z,x18,x19,x20,Z,Z,Z,Z,Z,Z,Z,Z,Z,Z,Z,Z,Z,Z,Z,Z,Z,Z,Z,Z,Z,Z,Z,Z,Z,Z,Z,Z,Z,Z,Z,Z,Z,Z,Z,Z,Z] ∧ ∃ d',DH h0 m h' d' ∧ RotI a c b i i d d') ?_ ((c - a) + (b - c)) _ _ ⟨c - a,b - c,rfl,by kernel_rfl,d,hd,rot_start d h1 h2⟩
    rintro k t h' ⟨i,j,rfl,ht,d',hd',hR⟩
    rw [ht]
    have hlen := hR.len
    have e1 := hR.lo_
    have e2 := hR.hi_
    have e3 := hR.pi
    have e4 := hR.pj
    have w3 : IntKind.i64.wrap ((c : Int) - (i : Int)) = ((c - i : Nat) : Int) := by rw [IntWalk.i64_in _ (by omega)]; omega
    rcases Nat.lt_trichotomy i j with hij | hij | hij
    · obtain ⟨h2',d2,e52,hd2,hs2⟩ := swr_run (a := c - i) (b := c + j - i) (n := i) cv hd' (by omega) (by omega) (by omega)
      have hR2 := rot_lt hR hij hs2
      rw [hlen] at e52
      have n1 : ¬ (i : Int) = (j : Int) := by omega
      have n2 : ¬ j < i := by omega
      have w4 : IntKind.i64.wrap ((c : Int) + (j : Int)) = (c : Int) + (j : Int) := by rw [IntWalk.i64_in _ (by omega)]
      have w5 : IntKind.i64.wrap ((c : Int) + (j : Int) - (i : Int)) = ((c + j - i : Nat) : Int) := by rw [IntWalk.i64_in _ (by omega)]; omega
      have w6 : IntKind.i64.wrap ((j : Int) - (i : Int)) = ((j - i : Nat) : Int) := by rw [IntWalk.i64_in _ (by omega)]; omega
      simp (maxSteps := 2000000) -implicitDefEqProofs [ble_d,beq_d,List.range_succ,List.replicate,cond_true,cond_false,ibne,n1,n2,Nat.ne_of_lt hij,w3,w4,w5,w6,en108,e52]
      exact ⟨i + (j - i),by omega,i,j - i,rfl,by simp (maxSteps := 2000000) only [forget,List.set_cons_succ,List.set_cons_zero],d2,hd2,hR2⟩
    · subst hij
      simp (maxSteps := 2000000) -implicitDefEqProofs [ble_d,beq_d,List.range_succ,List.replicate,cond_true,cond_false,ibne]
      exact ⟨i,by omega,rfl,d',hd',hR⟩
    · obtain ⟨h2',d2,e52,hd2,hs2⟩ := swr_run (a := c - i) (b := c) (n := j) cv hd' (by omega) (by omega) (by omega)
      have hR2 := rot_gt hR hij hs2
      rw [hlen] at e52
      have n1 : ¬ (i : Int) = (j : Int) := by omega
      have w6 : IntKind.i64.wrap ((i : Int) - (j : Int)) = ((i - j : Nat) : Int) := by rw [IntWalk.i64_in _ (by omega)]; omega
      simp (maxSteps := 2000000) -implicitDefEqProofs [ble_d,beq_d,List.range_succ,List.replicate,cond_true,cond_false,ibne,n1,hij,Nat.ne_of_gt hij,w3,w6,en108,e52]
      exact ⟨(i - j) + j,by omega,i - j,j,rfl,by simp (maxSteps := 2000000) only [forget,List.set_cons_succ,List.set_cons_zero],d2,hd2,hR2⟩
  subst hx he ht
  have hlen := hR.len
  have e1 := hR.lo_
  have e2 := hR.hi_
  obtain ⟨h2',d2,e52,hd2,hs2⟩ := swr_run (a := c - i) (b := c) (n := i) cv hd' (by omega) (by omega) (by omega)
  obtain ⟨f1,f2,f3⟩ := rot_done hR hs2
  rw [hlen] at e52
  have w3 : IntKind.i64.wrap ((c : Int) - (i : Int)) = ((c - i : Nat) : Int) := by rw [IntWalk.i64_in _ (by omega)]; omega
  simp (maxSteps := 2000000) -implicitDefEqProofs [ble_d,beq_d,List.range_succ,List.replicate,cond_true,cond_false,w3,en108,e52]
  exact ⟨_,_,⟨rfl,rfl⟩,rfl,d2,hd2,f1,f2,f3⟩
end Go.Proofs.Ytmnkmdfladbgdaa.Od

set_option linter.unusedVariables false
set_option linter.unusedSimpArgs false
namespace Go.Proofs.Ytmnkmdfladbgdaa.Od
open Go Go.Proofs Go.RowKit Go.Proofs.YtmnkmdfladbgdaaAI Go.Proofs.YtmnkmdfladbgdaaFl Go.Proofs.YtmnkmdfladbgdaaSrt

/-- The comparison that is handed on: what it answers, whatever the row holds. -/
def CmpH (h0 : Heap) (m : Nat) (cap : Value) (N : Ln → Prop) (r : Ln → Ln → Int) : Prop := ∀ h,Keep (fun x => x = m) h0 h → ∀ x y : Ln,N x → N y → ∃ h2,run Try.prog sO 50 [.agg #[.int .i64 x.1,.int .i64 x.2.1,.float .f64 x.2.2],.agg #[.int .i64 y.1,.int .i64 y.2.1,.float .f64 y.2.2]] h = some (.int .i64 (r x y),h2) ∧ Keep No h h2
def clo (r : Ln → Ln → Int) (x y : Ln) : Bool := decide (r x y < 0)
def Dom (N : Ln → Prop) (d : List Ln) : Prop := ∀ x ∈ d,N x
theorem Dom.g {N : Ln → Prop} {d : List Ln} (h : Dom N d) {i : Nat} (hi : i < d.length) : N (g d i) := by
  rw [g_eq d hi]; exact h _ (List.getElem_mem hi)
theorem Dom.perm {N : Ln → Prop} {d d' : List Ln} (h : Dom N d) (hp : d'.Perm d) : Dom N d' := fun x hx => h x (hp.mem_iff.1 hx)
abbrev clo50 : Value := .func (.func 50) #[] #[]
abbrev CV (_ : Value) : Value := clo50
theorem DH.keep {h0 h h' : Heap} {m : Nat} {d : List Ln} (hd : DH h0 m h d) (hk : Keep No h h') : DH h0 m h' d := ⟨hd.1.trans (hk.mono fun _ _ x => x.elim),hk.get hd.2 fun x => x⟩

variable {lo : Ln → Ln → Prop} {tag : Ln → Int} {r : Ln → Ln → Int} {h0 : Heap} {m : Nat} {cap : Value} {N : Ln → Prop}
set_option maxHeartbeats 1600000 in
theorem ins_run (hL : LO lo tag (clo r)) (hC : CmpH h0 m cap N r) {h : Heap} {a b : Nat} {d : List Ln} (hd : DH h0 m h d) (hdom : Dom N d) (h1 : a ≤ b) (h2 : b ≤ d.length) (hN : d.length ≤ 2 ^ 47) (ha : Asc tag a b d) :
    ∃ h' d',run Try.prog sO 96 [VL m d.length,.int .i64 (a : Nat),.int .i64 (b : Nat),CV cap] h = some (.tuple #[],h') ∧ DH h0 m h' d' ∧ Im a b d d' ∧ Srt lo a b d' := by
  suffices hx : ∃ y,fin Try.prog Try.f96 (aexecP Try.prog (sO 96) (run Try.prog sO) loopω pt96 (Try.f96.body.getD .skip) ([VL m d.length,.int .i64 (a : Nat),.int .i64 (b : Nat),CV cap] ++ List.replicate (Try.f96.ntmps - 4) undef) h) = some y ∧ y.1 = .tuple #[] ∧ ∃ d',DH h0 m y.2 d' ∧ Im a b d d' ∧ Srt lo a b d' by
    obtain ⟨⟨y1,y2⟩,hy,rfl,d',q1,q2⟩ := hx
    exact ⟨y2,d',run_finP pt96 Try.func96 rfl planned96 hy,q1,q2⟩
  have w1 := @inc64 a (by omega)
  have ca := cast_succ a
  simp (maxSteps := 2000000) -implicitDefEqProofs [Try.f96,ble_d,beq_d,List.range_succ,List.replicate,cond_true,cond_false,w1,sO96_1]
  generalize hl : loopω _ _ _ _ = rr
  obtain ⟨e,t',h',hx,he,i,x12,x13,x14,ht,d',hI⟩ : ∃ e t' h',rr = some (e,t',h') ∧ e = .exit 0 ∧ ∃ (i : Nat),∃ x12 x13 x14,t' = [VL m d.length,.int .i64 (a : Nat),.int .i64 (b : Nat),CV cap,Z,Z,Z,Z,.int .i64 (i : Nat),Z,Z,Z,x12,x13,x14,Z,Z,Z,Z,Z,Z,Z,Z,Z,Z,Z,Z,Z,Z,Z,Z,Z,Z,Z,Z,Z,Z,Z,Z,Z,Z,Z,Z,Z,Z,Z,Z,Z,Z,Z,Z,Z,Z] ∧ ∃ d',DH h0 m h' d' ∧ Im a b d d' ∧ Srt lo a b d' := by
    rw [← hl]
    refine loop_by (fun k t h' => ∃ i : Nat,i + k = b + 1 ∧ forget [4,5,6,7,9,10,11,12,13,14,15,16,17,18,19,20,21,22,23,24,25,26,27,28,29,30,31,32,33,34,35,36,37,38,39,40,41,42,43,44,45,46,47,48,49,50,51,52] t = [VL m d.length,.int .i64 (a : Nat),.int .i64 (b : Nat),CV cap,Z,Z,Z,Z,.int .i64 (i : Nat),Z,Z,Z,Z,Z,Z,Z,Z,Z,Z,Z,Z,Z,Z,Z,Z,Z,Z,Z,Z,Z,Z,Z,Z,Z,Z,Z,Z,Z,Z,Z,Z,Z,Z,Z,Z,Z,Z,Z,Z,Z,Z,Z,Z] ∧ a + 1 ≤ i ∧ ∃ d',DH h0 m h' d' ∧ Im a (min i b) d d' ∧ Srt lo a (min i b) d')
      (fun e t' h' => e = .exit 0 ∧ ∃ (i : Nat),∃ x12 x13 x14,t' = [VL m d.length,.int .i64 (a : Nat),.int .i64 (b : Nat),CV cap,Z,Z,Z,Z,.int .i64 (i : Nat),Z,Z,Z,x12,x13,x14,Z,Z,Z,Z,Z,Z,Z,Z,Z,Z,Z,Z,Z,Z,Z,Z,Z,Z,Z,Z,Z,Z,Z,Z,Z,Z,Z,Z,Z,Z,Z,Z,Z,Z,Z,Z,Z,Z] ∧ ∃ d',DH h0 m h' d' ∧ Im a b d d' ∧ Srt lo a b d') ?_ (b - a) _ _ ⟨a + 1,by omega,by simp only [ca]; kernel_rfl,by omega,d,hd,Im.refl _ _ _,fun x y q1 q2 q3 => by omega⟩
    rintro k t h' ⟨i,hi,ht,hai,d1,hd1,him,hs⟩
    rw [ht]
    rcases Nat.lt_or_ge i b with h3 | h3
    · have emin : min i b = i := by omega
      rw [emin] at him hs
      have hst := ins_start (tag := tag) h3 (by omega) ha him hs
      have hinc := @inc64 i (by omega)
      have hii := cast_succ i
      simp (maxSteps := 2000000) -implicitDefEqProofs [ble_d,beq_d,List.range_succ,List.replicate,cond_true,cond_false,h3,sO96_4]
      generalize hl2 : loopω _ _ _ _ = r2
      obtain ⟨e,t2,h2',hx2,he2,j,x18,x19,x20,x21,x22,x23,x24,x25,x26,x27,x28,x29,x30,x31,x32,x33,x34,ht2,d2,hd2,him2,hs2⟩ : ∃ e t' h',r2 = some (e,t',h') ∧ e = .exit 2 ∧ ∃ (j : Nat),∃ x18 x19 x20 x21 x22 x23 x24 x25 x26 x27 x28 x29 x30 x31 x32 x33 x34,t' = [VL m d.length,.int .i64 (a : Nat),.int .i64 (b : Nat),CV cap,Z,Z,Z,Z,.int .i64 (i : Nat),.int .i64 (j : Nat),Z,Z,Z,Z,Z,Z,Z,Z,x18,x19,x20,x21,x22,x23,x24,x25,x26,x27,x28,x29,x30,x31,x32,x33,x34,Z,Z,Z,Z,Z,Z,Z,Z,Z,Z,Z,Z,Z,Z,Z,Z,Z,Z] ∧ ∃ d',DH h0 m h' d' ∧ Im a (i + 1) d d' ∧ Srt lo a (i + 1) d' := by
        rw [← hl2]
        refine loop_by (fun k t h' => forget [4,5,6,7,10,11,12,13,14,15,16,17,18,19,20,21,22,23,24,25,26,27,28,29,30,31,32,33,34,35,36,37,38,39,40,41,42,43,44,45,46,47,48,49,50,51,52] t = [VL m d.length,.int .i64 (a : Nat),.int .i64 (b : Nat),CV cap,Z,Z,Z,Z,.int .i64 (i : Nat),.int .i64 (k : Nat),Z,Z,Z,Z,Z,Z,Z,Z,Z,Z,Z,Z,Z,Z,Z,Z,Z,Z,Z,Z,Z,Z,Z,Z,Z,Z,Z,Z,Z,Z,Z,Z,Z,Z,Z,Z,Z,Z,Z,Z,Z,Z,Z] ∧ ∃ d',DH h0 m h' d' ∧ InsI lo tag d a i k d')
          (fun e t' h' => e = .exit 2 ∧ ∃ (j : Nat),∃ x18 x19 x20 x21 x22 x23 x24 x25 x26 x27 x28 x29 x30 x31 x32 x33 x34,t' = [VL m d.length,.int .i64 (a : Nat),.int .i64 (b : Nat),CV cap,Z,Z,Z,Z,.int .i64 (i : Nat),.int .i64 (j : Nat),Z,Z,Z,Z,Z,Z,Z,Z,x18,x19,x20,x21,x22,x23,x24,x25,x26,x27,x28,x29,x30,x31,x32,x33,x34,Z,Z,Z,Z,Z,Z,Z,Z,Z,Z,Z,Z,Z,Z,Z,Z,Z,Z] ∧ ∃ d',DH h0 m h' d' ∧ Im a (i + 1) d d' ∧ Srt lo a (i + 1) d') ?_ i _ _ ⟨by kernel_rfl,d1,hd1,hst⟩
        rintro j t h2' ⟨ht,d2,hd2,hin⟩
        rw [ht]
        have haj := hin.aj
        have hji := hin.ji
        have hlen := hin.im.len
        by_cases hja : j = a
        · have hdn := ins_done hL hin (.inl hja)
          subst hja
          simp (maxSteps := 2000000) -implicitDefEqProofs [ble_d,beq_d,List.range_succ,List.replicate,cond_true,cond_false,pt96_4,pl96_4,an96_4]
          exact ⟨⟨j,rfl⟩,d2,hd2,hdn⟩
        · obtain ⟨q,rfl⟩ : ∃ q,j = q + 1 := ⟨j - 1,by omega⟩
          have hq : a < q + 1 := by omega
          have hg := hd2.2
          have gx := lns_g (d := d2) (i := q + 1) (by omega)
          have gy := lns_g (d := d2) (i := q) (by omega)
          have dm := hdom.perm hin.im.perm
          have dx := dm.g (i := q + 1) (by omega)
          have dy := dm.g (i := q) (by omega)
          obtain ⟨hc2,ec,kc⟩ := hC h2' hd2.1 (g d2 (q + 1)) (g d2 q) dx dy
          have lc := kc.1
          have hd3 := hd2.keep kc
          have hg3 := hd3.2
          have w2 : IntKind.i64.wrap (q : Int) = (q : Int) := IntWalk.i64_in _ (by omega)
          have cq := cast_succ q
          have l1 : (q : Int) + 1 < (d.length : Int) := by omega
          have l2 : q < d.length := by omega
          have l0 : (0 : Int) ≤ (q : Int) + 1 := by omega
          have l3 : (a : Int) < (q : Int) + 1 := by omega
          cases hcl : clo r (g d2 (q + 1)) (g d2 q) with
          | false =>
            have hdn := ins_done hL hin (.inr ⟨hq,by rw [Nat.add_sub_cancel]; exact hcl⟩)
            have hr : ¬ r (g d2 (q + 1)) (g d2 q) < 0 := by simpa [clo] using hcl
            generalize hgx : g d2 (q + 1) = X at *
            generalize hgy : g d2 q = Y at *
            simp (maxSteps := 2000000) -implicitDefEqProofs [ble_d,beq_d,List.range_succ,List.replicate,cond_true,cond_false,pt96_4,pl96_4,an96_4,cq,l0,l1,l2,l3,w2,aindexAddr,sz67,Try.underlying56,Try.underlying67,hg,hg3,lc,gx,gy,en50,ec,hr]
            exact ⟨⟨q + 1,cq.symm⟩,d2,hd3,hdn⟩
          | true =>
            have hr : r (g d2 (q + 1)) (g d2 q) < 0 := by simpa [clo] using hcl
            have hst2 := ins_step hL (by omega) hin hq hcl
            obtain ⟨q1,q2,e1,e2,g1,n1,n2,dd⟩ := swap_mem hd3 (i := q + 1) (j := q) (by omega) (by omega)
            have cb : (q + 1) * 3 + 3 ≤ (lns d2).length := by rw [lns_len]; omega
            have sa := lns_set (d := d2) (i := q + 1) (by omega) (g d2 q)
            have ca2 : (q) * 3 + 3 ≤ (lns (d2.set (q + 1) (g d2 q))).length := by rw [lns_len,List.length_set]; omega
            have sb := lns_set (d := d2.set (q + 1) (g d2 q)) (i := q) (by rw [List.length_set]; omega) (g d2 (q + 1))
            generalize hgx : g d2 (q + 1) = X at *
            generalize hgy : g d2 q = Y at *
            simp (maxSteps := 2000000) -implicitDefEqProofs [ble_d,beq_d,List.range_succ,List.replicate,cond_true,cond_false,pt96_4,pl96_4,an96_4,pt96_6,pl96_6,an96_6,cq,l0,l1,l2,l3,w2,aindexAddr,sz67,Try.underlying56,Try.underlying67,hg,hg3,lc,gx,gy,en50,ec,hr,cb,ca2,sa,sb,astore,ok67,g1,← e1,← e2,n1,n2]
            exact ⟨q,by omega,by simp (maxSteps := 2000000) only [forget,List.set_cons_succ,List.set_cons_zero],_,dd,hst2⟩
      subst hx2 he2 ht2
      simp (maxSteps := 2000000) -implicitDefEqProofs [ble_d,beq_d,List.range_succ,List.replicate,cond_true,cond_false,hinc]
      exact ⟨_,_,_,⟨rfl,rfl,rfl⟩,k - 1,by omega,i + 1,by omega,by simp (maxSteps := 2000000) only [forget,List.set_cons_succ,List.set_cons_zero,hii],by omega,d2,hd2,by rw [show min (i + 1) b = i + 1 by omega]; exact him2,by rw [show min (i + 1) b = i + 1 by omega]; exact hs2⟩
    · have emin : min i b = b := by omega
      rw [emin] at him hs
      have h3' : ¬ i < b := by omega
      simp (maxSteps := 2000000) -implicitDefEqProofs [ble_d,beq_d,List.range_succ,List.replicate,cond_true,cond_false,h3']
      exact ⟨⟨i,rfl⟩,d1,hd1,him,hs⟩
  subst hx he ht
  simp (maxSteps := 2000000) -implicitDefEqProofs [ble_d,beq_d,List.range_succ,List.replicate,cond_true,cond_false]
  exact ⟨_,_,⟨rfl,rfl⟩,rfl,d',hI⟩
end Go.Proofs.Ytmnkmdfladbgdaa.Od

set_option linter.unusedVariables false
set_option linter.unusedSimpArgs false
namespace Go.Proofs.Ytmnkmdfladbgdaa.Od
open Go Go.Proofs Go.RowKit Go.Proofs.YtmnkmdfladbgdaaAI Go.Proofs.YtmnkmdfladbgdaaFl Go.Proofs.YtmnkmdfladbgdaaSrt

theorem cvu' (n : Int) : pureRun Try.prog (do let z ← convert 3 117 (.int .i64 n); pure (Next.value z)) = some (.value (.int .u64 (IntKind.u64.wrap n))) := by kernel_rfl
theorem u64_nat {n : Nat} (h : n < 18446744073709551616) : IntKind.u64.wrap (n : Int) = (n : Int) := by
  simp only [IntKind.wrap,IntKind.bits,IntKind.signed]
  simp only [Bool.false_and,Bool.false_eq_true,if_false]
  omega
theorem cvu (t : Tm) (x : Operand) (n : Nat) (hx : aeval t x = .int .i64 n) (hn : n < 9223372036854775808) (d ty pos af gu) : purerule Try.prog (aeval t) ⟨d,.convert 3 117 x,ty,pos,af,gu⟩ = some (.int .u64 n) := by
  refine pure_of rfl ?_ ?_ rfl
  · simp [-aeval,Op.operands,hx,pli]
  · have : execOp (aeval t) ⟨d,.convert 3 117 x,ty,pos,af,gu⟩ = (do let z ← convert 3 117 (aeval t x); pure (Next.value z)) := by simp [execOp]
    rw [this,hx,cvu',u64_nat (by omega)]
theorem cvi' (n : Int) : pureRun Try.prog (do let z ← convert 117 3 (.int .u64 n); pure (Next.value z)) = some (.value (.int .i64 (IntKind.i64.wrap n))) := by kernel_rfl
theorem cvi (t : Tm) (x : Operand) (n : Nat) (hx : aeval t x = .int .u64 n) (hn : n < 9223372036854775808) (d ty pos af gu) : purerule Try.prog (aeval t) ⟨d,.convert 117 3 x,ty,pos,af,gu⟩ = some (.int .i64 n) := by
  refine pure_of rfl ?_ ?_ rfl
  · simp [-aeval,Op.operands,hx,pli]
  · have : execOp (aeval t) ⟨d,.convert 117 3 x,ty,pos,af,gu⟩ = (do let z ← convert 117 3 (aeval t x); pure (Next.value z)) := by simp [execOp]
    rw [this,hx,cvi',IntWalk.i64_in _ (by omega)]
theorem shu' (x y : Operand) (n : Int) : pureRun Try.prog (do let z ← (do eqGuard .shr 117 x y (.int .u64 n) (.int .u64 1); binOp .shr 117 (.int .u64 n) (.int .u64 1)); pure (Next.value z)) = some (.value (.int .u64 (n.fdiv (2 ^ 1)))) := by kernel_rfl
theorem shu (t : Tm) (x y : Operand) (n c : Nat) (hx : aeval t x = .int .u64 n) (hy : aeval t y = .int .u64 1) (hc : n / 2 = c) (d r ty pos af gu) : purerule Try.prog (aeval t) ⟨d,.binOp .shr 117 x y r,ty,pos,af,gu⟩ = some (.int .u64 c) := by
  refine pure_of rfl ?_ ?_ rfl
  · simp [-aeval,Op.operands,hx,hy,pli]
  · have : execOp (aeval t) ⟨d,.binOp .shr 117 x y r,ty,pos,af,gu⟩ = (do let z ← (do eqGuard .shr 117 x y (aeval t x) (aeval t y); binOp .shr 117 (aeval t x) (aeval t y)); pure (Next.value z)) := by simp [execOp]
    have e : (n : Int).fdiv (2 ^ 1) = (c : Int) := by
      rw [Int.fdiv_eq_ediv_of_nonneg _ (by omega)]; omega
    rw [this,hx,hy,shu',e]

variable {lo : Ln → Ln → Prop} {tag : Ln → Int} {r : Ln → Ln → Int} {h0 : Heap} {m : Nat} {cap : Value} {N : Ln → Prop}
set_option maxRecDepth 20000 in
set_option maxHeartbeats 3200000 in
/-- One element, merged with the row behind it. -/
theorem sym1 (hL : LO lo tag (clo r)) (hC : CmpH h0 m cap N r) {h : Heap} {a c b : Nat} {d : List Ln} (hd : DH h0 m h d) (hdom : Dom N d) (h1 : c = a + 1) (h2 : c < b) (h3 : b ≤ d.length) (hN : d.length ≤ 2 ^ 47) (s2 : Srt lo c b d) (ht : Tag tag a c b d) :
    ∃ h' d',run Try.prog sO 97 [VL m d.length,.int .i64 (a : Nat),.int .i64 (c : Nat),.int .i64 (b : Nat),CV cap] h = some (.tuple #[],h') ∧ DH h0 m h' d' ∧ Im a b d d' ∧ Srt lo a b d' := by
  suffices hx : ∃ y,fin Try.prog Try.f97 (aexecP Try.prog (sO 97) (run Try.prog sO) loopω pt97 (Try.f97.body.getD .skip) ([VL m d.length,.int .i64 (a : Nat),.int .i64 (c : Nat),.int .i64 (b : Nat),CV cap] ++ List.replicate (Try.f97.ntmps - 5) undef) h) = some y ∧ y.1 = .tuple #[] ∧ ∃ d',DH h0 m y.2 d' ∧ Im a b d d' ∧ Srt lo a b d' by
    obtain ⟨⟨y1,y2⟩,hy,rfl,d',q1,q2⟩ := hx
    exact ⟨y2,d',run_finP pt97 Try.func97 rfl planned97 hy,q1,q2⟩
  have w1 : IntKind.i64.wrap ((c : Int) - (a : Int)) = 1 := by rw [IntWalk.i64_in _ (by omega)]; omega
  subst h1
  have ca := cast_succ a
  rw [ca] at w1
  simp (maxSteps := 2000000) -implicitDefEqProofs [Try.f97,ble_d,beq_d,List.range_succ,List.replicate,cond_true,cond_false,ibeq,ca,w1,sO97_3]
  generalize hl : loopω _ _ _ _ = rr
  obtain ⟨e,t',h',hx,he,i,x31,x32,x33,htt,hdB,hB⟩ : ∃ e t' h',rr = some (e,t',h') ∧ e = .exit 0 ∧ ∃ (i : Nat),∃ x31 x32 x33,t' = [VL m d.length,.int .i64 (a : Nat),Z,Z,CV cap,Z,Z,Z,Z,Z,.int .i64 (i : Nat),.int .i64 (i : Nat),Z,Z,Z,Z,Z,Z,Z,Z,Z,Z,Z,Z,Z,Z,Z,Z,Z,Z,Z,x31,x32,x33,Z,Z,Z,Z,Z,Z,Z,Z,Z,Z,Z,Z,Z,Z,Z,Z,Z,Z,Z,Z,Z,Z,Z,Z,Z,Z,Z,Z,Z,Z,Z,Z,Z,Z,Z,Z,Z,Z,Z,Z,Z,Z,Z,Z,Z,Z,Z,Z,Z,Z,Z,Z,Z,Z,Z,Z,Z,Z,Z,Z,Z,Z,Z,Z,Z,Z,Z,Z,Z,Z,Z,Z,Z,Z,Z,Z,Z,Z,Z,Z,Z,Z,Z,Z,Z,Z,Z,Z,Z,Z,Z,Z,Z,Z,Z,Z,Z,Z,Z,Z,Z,Z,Z,Z,Z,Z,Z,Z,Z,Z,Z,Z,Z,Z,Z,Z,Z,Z,Z,Z,Z,Z,Z,Z,Z,Z,Z,Z,Z,Z,Z,Z,Z,Z,Z,Z,Z,Z,Z,Z,Z,Z,Z,Z,Z,Z,Z,Z,Z,Z,Z,Z,Z,Z,Z,Z,Z,Z,Z,Z,Z,Z,Z,Z,Z,Z,Z,Z,Z,Z,Z,Z,Z,Z,Z,Z,Z,Z,Z,Z,Z,Z,Z,Z,Z,Z] ∧ DH h0 m h' d ∧ B1 lo a b i i d := by
    rw [← hl]
    refine loop_by (fun k t h' => ∃ i j : Nat,j - i = k ∧ forget [2,3,5,6,7,8,9,12,13,14,15,16,17,18,19,20,21,22,23,24,25,26,27,28,29,30,31,32,33,34,35,36,37,38,39,40,41,42,43,44,45,46,47,48,49,50,51,52,53,54,55,56,57,58,59,60,61,62,63,64,65,66,67,68,69,70,71,72,73,74,75,76,77,78,79,80,81,82,83,84,85,86,87,88,89,90,91,92,93,94,95,96,97,98,99,100,101,102,103,104,105,106,107,108,109,110,111,112,113,114,115,116,117,118,119,120,121,122,123,124,125,126,127,128,129,130,131,132,133,134,135,136,137,138,139,140,141,142,143,144,145,146,147,148,149,150,151,152,153,154,155,156,157,158,159,160,161,162,163,164,165,166,167,168,169,170,171,172,173,174,175,176,177,178,179,180,181,182,183,184,185,186,187,188,189,190,191,192,193,194,195,196,197,198,199,200,201,202,203,204,205,206,207,208,209,210,211,212,213,214,215,216,217,218,219] t = [VL m d.length,.int .i64 (a : Nat),Z,Z,CV cap,Z,Z,Z,Z,Z,.int .i64 (i : Nat),.int .i64 (j : Nat),Z,Z,Z,Z,Z,Z,Z,Z,Z,Z,Z,Z,Z,Z,Z,Z,Z,Z,Z,Z,Z,Z,Z,Z,Z,Z,Z,Z,Z,Z,Z,Z,Z,Z,Z,Z,Z,Z,Z,Z,Z,Z,Z,Z,Z,Z,Z,Z,Z,Z,Z,Z,Z,Z,Z,Z,Z,Z,Z,Z,Z,Z,Z,Z,Z,Z,Z,Z,Z,Z,Z,Z,Z,Z,Z,Z,Z,Z,Z,Z,Z,Z,Z,Z,Z,Z,Z,Z,Z,Z,Z,Z,Z,Z,Z,Z,Z,Z,Z,Z,Z,Z,Z,Z,Z,Z,Z,Z,Z,Z,Z,Z,Z,Z,Z,Z,Z,Z,Z,Z,Z,Z,Z,Z,Z,Z,Z,Z,Z,Z,Z,Z,Z,Z,Z,Z,Z,Z,Z,Z,Z,Z,Z,Z,Z,Z,Z,Z,Z,Z,Z,Z,Z,Z,Z,Z,Z,Z,Z,Z,Z,Z,Z,Z,Z,Z,Z,Z,Z,Z,Z,Z,Z,Z,Z,Z,Z,Z,Z,Z,Z,Z,Z,Z,Z,Z,Z,Z,Z,Z,Z,Z,Z,Z,Z,Z,Z,Z,Z,Z,Z,Z,Z,Z,Z,Z,Z,Z] ∧ DH h0 m h' d ∧ B1 lo a b i j d)
      (fun e t' h' => e = .exit 0 ∧ ∃ (i : Nat),∃ x31 x32 x33,t' = [VL m d.length,.int .i64 (a : Nat),Z,Z,CV cap,Z,Z,Z,Z,Z,.int .i64 (i : Nat),.int .i64 (i : Nat),Z,Z,Z,Z,Z,Z,Z,Z,Z,Z,Z,Z,Z,Z,Z,Z,Z,Z,Z,x31,x32,x33,Z,Z,Z,Z,Z,Z,Z,Z,Z,Z,Z,Z,Z,Z,Z,Z,Z,Z,Z,Z,Z,Z,Z,Z,Z,Z,Z,Z,Z,Z,Z,Z,Z,Z,Z,Z,Z,Z,Z,Z,Z,Z,Z,Z,Z,Z,Z,Z,Z,Z,Z,Z,Z,Z,Z,Z,Z,Z,Z,Z,Z,Z,Z,Z,Z,Z,Z,Z,Z,Z,Z,Z,Z,Z,Z,Z,Z,Z,Z,Z,Z,Z,Z,Z,Z,Z,Z,Z,Z,Z,Z,Z,Z,Z,Z,Z,Z,Z,Z,Z,Z,Z,Z,Z,Z,Z,Z,Z,Z,Z,Z,Z,Z,Z,Z,Z,Z,Z,Z,Z,Z,Z,Z,Z,Z,Z,Z,Z,Z,Z,Z,Z,Z,Z,Z,Z,Z,Z,Z,Z,Z,Z,Z,Z,Z,Z,Z,Z,Z,Z,Z,Z,Z,Z,Z,Z,Z,Z,Z,Z,Z,Z,Z,Z,Z,Z,Z,Z,Z,Z,Z,Z,Z,Z,Z,Z,Z,Z,Z,Z,Z,Z,Z,Z,Z,Z] ∧ DH h0 m h' d ∧ B1 lo a b i i d) ?_ (b - (a + 1)) _ _ ⟨a + 1,b,rfl,by rw [ca]; kernel_rfl,hd,by omega,by omega,by omega,.inl rfl,.inl rfl⟩
    rintro k t h' ⟨i,j,rfl,htt,hdB,hB⟩
    rw [htt]
    have q1 := hB.mi
    have q2 := hB.ij
    have q3 := hB.jb
    rcases Nat.lt_or_ge i j with h5 | h5
    · obtain ⟨s,hs⟩ : ∃ s,s = i + j := ⟨_,rfl⟩
      obtain ⟨hm,hhm⟩ : ∃ hm,s / 2 = hm := ⟨_,rfl⟩
      have ws : IntKind.i64.wrap ((i : Int) + (j : Int)) = (s : Int) := by rw [IntWalk.i64_in _ (by omega)]; omega
      have k1 := fun t x hx => cvu t x s hx (by omega)
      have k2 := fun t x y hx hy => shu t x y s hm hx hy hhm
      have k3 := fun t x hx => cvi t x hm hx (by omega)
      have gx := lns_g (d := d) (i := hm) (by omega)
      have gy := lns_g (d := d) (i := a) (by omega)
      have dx := hdom.g (i := hm) (by omega)
      have dy := hdom.g (i := a) (by omega)
      obtain ⟨hc2,ec,kc⟩ := hC h' hdB.1 (g d hm) (g d a) dx dy
      have lc := kc.1
      have hdC := hdB.keep kc
      have l1 : hm < d.length := by omega
      have l2 : a < d.length := by omega
      have hg := hdB.2
      have hinc := @inc64 hm (by omega)
      have hcs := cast_succ hm
      cases hcl : clo r (g d hm) (g d a) with
      | true =>
        have hr : r (g d hm) (g d a) < 0 := by simpa [clo] using hcl
        have hB2 := b1_up hL hB (h := hm) (by omega) (by omega) ht hcl
        generalize g d hm = X at *
        generalize g d a = Y at *
        simp (maxSteps := 2000000) -implicitDefEqProofs [ble_d,beq_d,List.range_succ,List.replicate,cond_true,cond_false,h5,pt97_5,pl97_5,an97_5,ws,k1,k2,k3,aindexAddr,sz67,Try.underlying56,Try.underlying67,hg,gx,gy,l1,l2,en50,ec,lc,hr,hinc]
        exact ⟨j - (hm + 1),by omega,hm + 1,j,rfl,by simp (maxSteps := 2000000) only [forget,List.set_cons_succ,List.set_cons_zero,hcs],hdC,hB2⟩
      | false =>
        have hr : ¬ r (g d hm) (g d a) < 0 := by simpa [clo] using hcl
        have hB2 := b1_down hL hB (h := hm) (by omega) (by omega) ht hcl
        generalize g d hm = X at *
        generalize g d a = Y at *
        simp (maxSteps := 2000000) -implicitDefEqProofs [ble_d,beq_d,List.range_succ,List.replicate,cond_true,cond_false,h5,pt97_5,pl97_5,an97_5,ws,k1,k2,k3,aindexAddr,sz67,Try.underlying56,Try.underlying67,hg,gx,gy,l1,l2,en50,ec,lc,hr]
        exact ⟨hm - i,by omega,i,hm,rfl,by simp (maxSteps := 2000000) only [forget,List.set_cons_succ,List.set_cons_zero],hdC,hB2⟩
    · obtain rfl : i = j := by omega
      simp (maxSteps := 2000000) -implicitDefEqProofs [ble_d,beq_d,List.range_succ,List.replicate,cond_true,cond_false]
      exact ⟨i,rfl,hdB,hB⟩
  subst hx he htt
  clear hl
  have q1 := hB.mi
  have q3 := hB.jb
  simp (maxSteps := 2000000) -implicitDefEqProofs [ble_d,beq_d,List.range_succ,List.replicate,cond_true,cond_false,sO97_9]
  generalize hl : loopω _ _ _ _ = rr
  obtain ⟨e,t',h2',hx,he,x55,x56,x57,x58,htt,d2,hd2,hS⟩ : ∃ e t' h',rr = some (e,t',h') ∧ e = .exit 2 ∧ ∃ x55 x56 x57 x58,t' = [VL m d.length,Z,Z,Z,Z,Z,Z,Z,Z,Z,.int .i64 (i : Nat),Z,Z,.int .i64 (i - 1 : Nat),Z,Z,Z,Z,Z,Z,Z,Z,Z,Z,Z,Z,Z,Z,Z,Z,Z,Z,Z,Z,Z,Z,Z,Z,Z,Z,Z,Z,Z,Z,Z,Z,Z,Z,Z,Z,Z,Z,Z,Z,Z,x55,x56,x57,x58,Z,Z,Z,Z,Z,Z,Z,Z,Z,Z,Z,Z,Z,Z,Z,Z,Z,Z,Z,Z,Z,Z,Z,Z,Z,Z,Z,Z,Z,Z,Z,Z,Z,Z,Z,Z,Z,Z,Z,Z,Z,Z,Z,Z,Z,Z,Z,Z,Z,Z,Z,Z,Z,Z,Z,Z,Z,Z,Z,Z,Z,Z,Z,Z,Z,Z,Z,Z,Z,Z,Z,Z,Z,Z,Z,Z,Z,Z,Z,Z,Z,Z,Z,Z,Z,Z,Z,Z,Z,Z,Z,Z,Z,Z,Z,Z,Z,Z,Z,Z,Z,Z,Z,Z,Z,Z,Z,Z,Z,Z,Z,Z,Z,Z,Z,Z,Z,Z,Z,Z,Z,Z,Z,Z,Z,Z,Z,Z,Z,Z,Z,Z,Z,Z,Z,Z,Z,Z,Z,Z,Z,Z,Z,Z,Z,Z,Z,Z,Z,Z,Z,Z,Z,Z,Z,Z,Z,Z,Z,Z,Z] ∧ ∃ d',DH h0 m h' d' ∧ S1 a b (i - 1) d d' := by
    rw [← hl]
    refine loop_by (fun k t h' => ∃ q : Nat,q + k = i - 1 ∧ a ≤ q ∧ forget [1,2,3,4,5,6,7,8,9,11,12,14,15,16,17,18,19,20,21,22,23,24,25,26,27,28,29,30,31,32,33,34,35,36,37,38,39,40,41,42,43,44,45,46,47,48,49,50,51,52,53,54,55,56,57,58,59,60,61,62,63,64,65,66,67,68,69,70,71,72,73,74,75,76,77,78,79,80,81,82,83,84,85,86,87,88,89,90,91,92,93,94,95,96,97,98,99,100,101,102,103,104,105,106,107,108,109,110,111,112,113,114,115,116,117,118,119,120,121,122,123,124,125,126,127,128,129,130,131,132,133,134,135,136,137,138,139,140,141,142,143,144,145,146,147,148,149,150,151,152,153,154,155,156,157,158,159,160,161,162,163,164,165,166,167,168,169,170,171,172,173,174,175,176,177,178,179,180,181,182,183,184,185,186,187,188,189,190,191,192,193,194,195,196,197,198,199,200,201,202,203,204,205,206,207,208,209,210,211,212,213,214,215,216,217,218,219] t = [VL m d.length,Z,Z,Z,Z,Z,Z,Z,Z,Z,.int .i64 (i : Nat),Z,Z,.int .i64 (q : Nat),Z,Z,Z,Z,Z,Z,Z,Z,Z,Z,Z,Z,Z,Z,Z,Z,Z,Z,Z,Z,Z,Z,Z,Z,Z,Z,Z,Z,Z,Z,Z,Z,Z,Z,Z,Z,Z,Z,Z,Z,Z,Z,Z,Z,Z,Z,Z,Z,Z,Z,Z,Z,Z,Z,Z,Z,Z,Z,Z,Z,Z,Z,Z,Z,Z,Z,Z,Z,Z,Z,Z,Z,Z,Z,Z,Z,Z,Z,Z,Z,Z,Z,Z,Z,Z,Z,Z,Z,Z,Z,Z,Z,Z,Z,Z,Z,Z,Z,Z,Z,Z,Z,Z,Z,Z,Z,Z,Z,Z,Z,Z,Z,Z,Z,Z,Z,Z,Z,Z,Z,Z,Z,Z,Z,Z,Z,Z,Z,Z,Z,Z,Z,Z,Z,Z,Z,Z,Z,Z,Z,Z,Z,Z,Z,Z,Z,Z,Z,Z,Z,Z,Z,Z,Z,Z,Z,Z,Z,Z,Z,Z,Z,Z,Z,Z,Z,Z,Z,Z,Z,Z,Z,Z,Z,Z,Z,Z,Z,Z,Z,Z,Z,Z,Z,Z,Z,Z,Z,Z,Z,Z,Z,Z,Z,Z,Z,Z,Z,Z,Z,Z,Z,Z,Z,Z,Z] ∧ ∃ d',DH h0 m h' d' ∧ S1 a b q d d')
      (fun e t' h' => e = .exit 2 ∧ ∃ x55 x56 x57 x58,t' = [VL m d.length,Z,Z,Z,Z,Z,Z,Z,Z,Z,.int .i64 (i : Nat),Z,Z,.int .i64 (i - 1 : Nat),Z,Z,Z,Z,Z,Z,Z,Z,Z,Z,Z,Z,Z,Z,Z,Z,Z,Z,Z,Z,Z,Z,Z,Z,Z,Z,Z,Z,Z,Z,Z,Z,Z,Z,Z,Z,Z,Z,Z,Z,Z,x55,x56,x57,x58,Z,Z,Z,Z,Z,Z,Z,Z,Z,Z,Z,Z,Z,Z,Z,Z,Z,Z,Z,Z,Z,Z,Z,Z,Z,Z,Z,Z,Z,Z,Z,Z,Z,Z,Z,Z,Z,Z,Z,Z,Z,Z,Z,Z,Z,Z,Z,Z,Z,Z,Z,Z,Z,Z,Z,Z,Z,Z,Z,Z,Z,Z,Z,Z,Z,Z,Z,Z,Z,Z,Z,Z,Z,Z,Z,Z,Z,Z,Z,Z,Z,Z,Z,Z,Z,Z,Z,Z,Z,Z,Z,Z,Z,Z,Z,Z,Z,Z,Z,Z,Z,Z,Z,Z,Z,Z,Z,Z,Z,Z,Z,Z,Z,Z,Z,Z,Z,Z,Z,Z,Z,Z,Z,Z,Z,Z,Z,Z,Z,Z,Z,Z,Z,Z,Z,Z,Z,Z,Z,Z,Z,Z,Z,Z,Z,Z,Z,Z,Z,Z,Z,Z,Z,Z,Z,Z,Z,Z,Z,Z,Z] ∧ ∃ d',DH h0 m h' d' ∧ S1 a b (i - 1) d d') ?_ (i - 1 - a) _ _ ⟨a,by omega,by omega,by kernel_rfl,d,hdB,s1_start _ _ _⟩
    rintro k t h2' ⟨q,hq,haq,htt,d2,hd2,hS⟩
    rw [htt]
    have hlen := hS.im.len
    have wi : IntKind.i64.wrap ((i : Int) - 1) = ((i - 1 : Nat) : Int) := by rw [IntWalk.i64_in _ (by omega)]; omega
    rcases Nat.lt_or_ge q (i - 1) with h5 | h5
    · have hst := s1_step hS haq (by omega) h3
      obtain ⟨z1,z2,e1,e2,g1,n1,n2,dd⟩ := swap_mem hd2 (i := q) (j := q + 1) (by omega) (by omega)
      have gx := lns_g (d := d2) (i := q) (by omega)
      have gy := lns_g (d := d2) (i := q + 1) (by omega)
      have hg := hd2.2
      have l1 : (q : Int) + 1 < (d.length : Int) := by omega
      have l0 : (0 : Int) ≤ (q : Int) + 1 := by omega
      have l2 : q < d.length := by omega
      have cb : (q) * 3 + 3 ≤ (lns d2).length := by rw [lns_len]; omega
      have sa := lns_set (d := d2) (i := q) (by omega) (g d2 (q + 1))
      have ca2 : (q + 1) * 3 + 3 ≤ (lns (d2.set q (g d2 (q + 1)))).length := by rw [lns_len,List.length_set]; omega
      have sb := lns_set (d := d2.set q (g d2 (q + 1))) (i := q + 1) (by rw [List.length_set]; omega) (g d2 q)
      have hinc := @inc64 q (by omega)
      have hcs := cast_succ q
      generalize hI : i - 1 = I at *
      generalize g d2 q = X at *
      generalize g d2 (q + 1) = Y at *
      simp (maxSteps := 2000000) -implicitDefEqProofs [ble_d,beq_d,List.range_succ,List.replicate,cond_true,cond_false,h5,wi,pt97_11,pl97_11,an97_11,hinc,l0,l1,l2,aindexAddr,sz67,Try.underlying56,Try.underlying67,hg,gx,gy,cb,ca2,sa,sb,astore,ok67,g1,← e1,← e2,n1,n2]
      exact ⟨k - 1,by omega,q + 1,by omega,by omega,by simp (maxSteps := 2000000) only [forget,List.set_cons_succ,List.set_cons_zero,hcs],_,dd,hst⟩
    · obtain rfl : q = i - 1 := by omega
      generalize hI : i - 1 = I at *
      simp (maxSteps := 2000000) -implicitDefEqProofs [ble_d,beq_d,List.range_succ,List.replicate,cond_true,cond_false,wi]
      exact ⟨d2,hd2,hS⟩
  subst hx he htt
  have hdn := m1_done hL hB s2 hS
  simp (maxSteps := 2000000) -implicitDefEqProofs [ble_d,beq_d,List.range_succ,List.replicate,cond_true,cond_false]
  exact ⟨_,_,⟨rfl,rfl⟩,rfl,d2,hd2,hdn⟩

set_option maxRecDepth 20000 in
set_option maxHeartbeats 3200000 in
/-- A row, and one element behind it. -/
theorem sym2 (hL : LO lo tag (clo r)) (hC : CmpH h0 m cap N r) {h : Heap} {a c : Nat} {d : List Ln} (hd : DH h0 m h d) (hdom : Dom N d) (h1 : a + 1 < c) (h3 : c + 1 ≤ d.length) (hN : d.length ≤ 2 ^ 47) (s1 : Srt lo a c d) (ht : Tag tag a c (c + 1) d) :
    ∃ h' d',run Try.prog sO 97 [VL m d.length,.int .i64 (a : Nat),.int .i64 (c : Nat),.int .i64 (c + 1 : Nat),CV cap] h = some (.tuple #[],h') ∧ DH h0 m h' d' ∧ Im a (c + 1) d d' ∧ Srt lo a (c + 1) d' := by
  suffices hx : ∃ y,fin Try.prog Try.f97 (aexecP Try.prog (sO 97) (run Try.prog sO) loopω pt97 (Try.f97.body.getD .skip) ([VL m d.length,.int .i64 (a : Nat),.int .i64 (c : Nat),.int .i64 (c + 1 : Nat),CV cap] ++ List.replicate (Try.f97.ntmps - 5) undef) h) = some y ∧ y.1 = .tuple #[] ∧ ∃ d',DH h0 m y.2 d' ∧ Im a (c + 1) d d' ∧ Srt lo a (c + 1) d' by
    obtain ⟨⟨y1,y2⟩,hy,rfl,d',q1,q2⟩ := hx
    exact ⟨y2,d',run_finP pt97 Try.func97 rfl planned97 hy,q1,q2⟩
  obtain ⟨L,hLL⟩ : ∃ L,L = c - a := ⟨_,rfl⟩
  have w1 : IntKind.i64.wrap ((c : Int) - (a : Int)) = (L : Int) := by rw [IntWalk.i64_in _ (by omega)]; omega
  have w1' : ¬ L = 1 := by omega
  have w1'' : ¬ (L : Int) = 1 := by omega
  have w2 : IntKind.i64.wrap (((c + 1 : Nat) : Int) - (c : Int)) = 1 := by rw [IntWalk.i64_in _ (by omega)]; omega
  have cc := cast_succ c
  rw [cc] at w2
  simp (maxSteps := 2000000) -implicitDefEqProofs [Try.f97,ble_d,beq_d,List.range_succ,List.replicate,cond_true,cond_false,ibeq,w1,w1',w1'',cc,w2,sO97_15]
  generalize hl : loopω _ _ _ _ = rr
  obtain ⟨e,t',h',hx,he,i,x83,x84,x85,htt,hdB,hB⟩ : ∃ e t' h',rr = some (e,t',h') ∧ e = .exit 4 ∧ ∃ (i : Nat),∃ x83 x84 x85,t' = [VL m d.length,Z,.int .i64 (c : Nat),Z,CV cap,Z,Z,Z,Z,Z,Z,Z,Z,Z,.int .i64 (i : Nat),.int .i64 (i : Nat),Z,Z,Z,Z,Z,Z,Z,Z,Z,Z,Z,Z,Z,Z,Z,Z,Z,Z,Z,Z,Z,Z,Z,Z,Z,Z,Z,Z,Z,Z,Z,Z,Z,Z,Z,Z,Z,Z,Z,Z,Z,Z,Z,Z,Z,Z,Z,Z,Z,Z,Z,Z,Z,Z,Z,Z,Z,Z,Z,Z,Z,Z,Z,Z,Z,Z,Z,x83,x84,x85,Z,Z,Z,Z,Z,Z,Z,Z,Z,Z,Z,Z,Z,Z,Z,Z,Z,Z,Z,Z,Z,Z,Z,Z,Z,Z,Z,Z,Z,Z,Z,Z,Z,Z,Z,Z,Z,Z,Z,Z,Z,Z,Z,Z,Z,Z,Z,Z,Z,Z,Z,Z,Z,Z,Z,Z,Z,Z,Z,Z,Z,Z,Z,Z,Z,Z,Z,Z,Z,Z,Z,Z,Z,Z,Z,Z,Z,Z,Z,Z,Z,Z,Z,Z,Z,Z,Z,Z,Z,Z,Z,Z,Z,Z,Z,Z,Z,Z,Z,Z,Z,Z,Z,Z,Z,Z,Z,Z,Z,Z,Z,Z,Z,Z,Z,Z,Z,Z,Z,Z,Z,Z,Z,Z,Z,Z,Z,Z,Z,Z,Z,Z,Z,Z] ∧ DH h0 m h' d ∧ B2 lo a c i i d := by
    rw [← hl]
    refine loop_by (fun k t h' => ∃ i j : Nat,j - i = k ∧ forget [1,3,5,6,7,8,9,10,11,12,13,16,17,18,19,20,21,22,23,24,25,26,27,28,29,30,31,32,33,34,35,36,37,38,39,40,41,42,43,44,45,46,47,48,49,50,51,52,53,54,55,56,57,58,59,60,61,62,63,64,65,66,67,68,69,70,71,72,73,74,75,76,77,78,79,80,81,82,83,84,85,86,87,88,89,90,91,92,93,94,95,96,97,98,99,100,101,102,103,104,105,106,107,108,109,110,111,112,113,114,115,116,117,118,119,120,121,122,123,124,125,126,127,128,129,130,131,132,133,134,135,136,137,138,139,140,141,142,143,144,145,146,147,148,149,150,151,152,153,154,155,156,157,158,159,160,161,162,163,164,165,166,167,168,169,170,171,172,173,174,175,176,177,178,179,180,181,182,183,184,185,186,187,188,189,190,191,192,193,194,195,196,197,198,199,200,201,202,203,204,205,206,207,208,209,210,211,212,213,214,215,216,217,218,219] t = [VL m d.length,Z,.int .i64 (c : Nat),Z,CV cap,Z,Z,Z,Z,Z,Z,Z,Z,Z,.int .i64 (i : Nat),.int .i64 (j : Nat),Z,Z,Z,Z,Z,Z,Z,Z,Z,Z,Z,Z,Z,Z,Z,Z,Z,Z,Z,Z,Z,Z,Z,Z,Z,Z,Z,Z,Z,Z,Z,Z,Z,Z,Z,Z,Z,Z,Z,Z,Z,Z,Z,Z,Z,Z,Z,Z,Z,Z,Z,Z,Z,Z,Z,Z,Z,Z,Z,Z,Z,Z,Z,Z,Z,Z,Z,Z,Z,Z,Z,Z,Z,Z,Z,Z,Z,Z,Z,Z,Z,Z,Z,Z,Z,Z,Z,Z,Z,Z,Z,Z,Z,Z,Z,Z,Z,Z,Z,Z,Z,Z,Z,Z,Z,Z,Z,Z,Z,Z,Z,Z,Z,Z,Z,Z,Z,Z,Z,Z,Z,Z,Z,Z,Z,Z,Z,Z,Z,Z,Z,Z,Z,Z,Z,Z,Z,Z,Z,Z,Z,Z,Z,Z,Z,Z,Z,Z,Z,Z,Z,Z,Z,Z,Z,Z,Z,Z,Z,Z,Z,Z,Z,Z,Z,Z,Z,Z,Z,Z,Z,Z,Z,Z,Z,Z,Z,Z,Z,Z,Z,Z,Z,Z,Z,Z,Z,Z,Z,Z,Z,Z,Z,Z,Z,Z,Z,Z,Z,Z,Z,Z,Z,Z] ∧ DH h0 m h' d ∧ B2 lo a c i j d)
      (fun e t' h' => e = .exit 4 ∧ ∃ (i : Nat),∃ x83 x84 x85,t' = [VL m d.length,Z,.int .i64 (c : Nat),Z,CV cap,Z,Z,Z,Z,Z,Z,Z,Z,Z,.int .i64 (i : Nat),.int .i64 (i : Nat),Z,Z,Z,Z,Z,Z,Z,Z,Z,Z,Z,Z,Z,Z,Z,Z,Z,Z,Z,Z,Z,Z,Z,Z,Z,Z,Z,Z,Z,Z,Z,Z,Z,Z,Z,Z,Z,Z,Z,Z,Z,Z,Z,Z,Z,Z,Z,Z,Z,Z,Z,Z,Z,Z,Z,Z,Z,Z,Z,Z,Z,Z,Z,Z,Z,Z,Z,x83,x84,x85,Z,Z,Z,Z,Z,Z,Z,Z,Z,Z,Z,Z,Z,Z,Z,Z,Z,Z,Z,Z,Z,Z,Z,Z,Z,Z,Z,Z,Z,Z,Z,Z,Z,Z,Z,Z,Z,Z,Z,Z,Z,Z,Z,Z,Z,Z,Z,Z,Z,Z,Z,Z,Z,Z,Z,Z,Z,Z,Z,Z,Z,Z,Z,Z,Z,Z,Z,Z,Z,Z,Z,Z,Z,Z,Z,Z,Z,Z,Z,Z,Z,Z,Z,Z,Z,Z,Z,Z,Z,Z,Z,Z,Z,Z,Z,Z,Z,Z,Z,Z,Z,Z,Z,Z,Z,Z,Z,Z,Z,Z,Z,Z,Z,Z,Z,Z,Z,Z,Z,Z,Z,Z,Z,Z,Z,Z,Z,Z,Z,Z,Z,Z,Z,Z] ∧ DH h0 m h' d ∧ B2 lo a c i i d) ?_ (c - a) _ _ ⟨a,c,rfl,by kernel_rfl,hd,by omega,by omega,by omega,.inl rfl,.inl rfl⟩
    rintro k t h' ⟨i,j,rfl,htt,hdB,hB⟩
    rw [htt]
    have q1 := hB.mi
    have q2 := hB.ij
    have q3 := hB.jb
    rcases Nat.lt_or_ge i j with h5 | h5
    · obtain ⟨s,hs⟩ : ∃ s,s = i + j := ⟨_,rfl⟩
      obtain ⟨hm,hhm⟩ : ∃ hm,s / 2 = hm := ⟨_,rfl⟩
      have ws : IntKind.i64.wrap ((i : Int) + (j : Int)) = (s : Int) := by rw [IntWalk.i64_in _ (by omega)]; omega
      have k1 := fun t x hx => cvu t x s hx (by omega)
      have k2 := fun t x y hx hy => shu t x y s hm hx hy hhm
      have k3 := fun t x hx => cvi t x hm hx (by omega)
      have gx := lns_g (d := d) (i := c) (by omega)
      have gy := lns_g (d := d) (i := hm) (by omega)
      have dx := hdom.g (i := c) (by omega)
      have dy := hdom.g (i := hm) (by omega)
      obtain ⟨hc2,ec,kc⟩ := hC h' hdB.1 (g d c) (g d hm) dx dy
      have lc := kc.1
      have hdC := hdB.keep kc
      have l1 : c < d.length := by omega
      have l2 : hm < d.length := by omega
      have hg := hdB.2
      have hinc := @inc64 hm (by omega)
      have hcs := cast_succ hm
      cases hcl : clo r (g d c) (g d hm) with
      | true =>
        have hr : r (g d c) (g d hm) < 0 := by simpa [clo] using hcl
        have hB2 := b2_down hL hB (h := hm) (by omega) (by omega) ht hcl
        generalize g d hm = X at *
        generalize g d c = Y at *
        simp (maxSteps := 2000000) -implicitDefEqProofs [ble_d,beq_d,List.range_succ,List.replicate,cond_true,cond_false,h5,pt97_17,pl97_17,an97_17,ws,k1,k2,k3,aindexAddr,sz67,Try.underlying56,Try.underlying67,hg,gx,gy,l1,l2,en50,ec,lc,hr,hinc]
        exact ⟨hm - i,by omega,i,hm,rfl,by simp (maxSteps := 2000000) only [forget,List.set_cons_succ,List.set_cons_zero],hdC,hB2⟩
      | false =>
        have hr : ¬ r (g d c) (g d hm) < 0 := by simpa [clo] using hcl
        have hB2 := b2_up hL hB (h := hm) (by omega) (by omega) ht hcl
        generalize g d hm = X at *
        generalize g d c = Y at *
        simp (maxSteps := 2000000) -implicitDefEqProofs [ble_d,beq_d,List.range_succ,List.replicate,cond_true,cond_false,h5,pt97_17,pl97_17,an97_17,ws,k1,k2,k3,aindexAddr,sz67,Try.underlying56,Try.underlying67,hg,gx,gy,l1,l2,en50,ec,lc,hr,hinc]
        exact ⟨j - (hm + 1),by omega,hm + 1,j,rfl,by simp (maxSteps := 2000000) only [forget,List.set_cons_succ,List.set_cons_zero,hcs],hdC,hB2⟩
    · obtain rfl : i = j := by omega
      simp (maxSteps := 2000000) -implicitDefEqProofs [ble_d,beq_d,List.range_succ,List.replicate,cond_true,cond_false]
      exact ⟨i,rfl,hdB,hB⟩
  subst hx he htt
  clear hl
  have q1 := hB.mi
  have q3 := hB.jb
  simp (maxSteps := 2000000) -implicitDefEqProofs [ble_d,beq_d,List.range_succ,List.replicate,cond_true,cond_false,sO97_21]
  generalize hl : loopω _ _ _ _ = rr
  obtain ⟨e,t',h2',hx,he,x108,x109,x110,htt,d2,hd2,hS⟩ : ∃ e t' h',rr = some (e,t',h') ∧ e = .exit 6 ∧ ∃ x108 x109 x110,t' = [VL m d.length,Z,Z,Z,Z,Z,Z,Z,Z,Z,Z,Z,Z,Z,.int .i64 (i : Nat),Z,Z,.int .i64 (i : Nat),Z,Z,Z,Z,Z,Z,Z,Z,Z,Z,Z,Z,Z,Z,Z,Z,Z,Z,Z,Z,Z,Z,Z,Z,Z,Z,Z,Z,Z,Z,Z,Z,Z,Z,Z,Z,Z,Z,Z,Z,Z,Z,Z,Z,Z,Z,Z,Z,Z,Z,Z,Z,Z,Z,Z,Z,Z,Z,Z,Z,Z,Z,Z,Z,Z,Z,Z,Z,Z,Z,Z,Z,Z,Z,Z,Z,Z,Z,Z,Z,Z,Z,Z,Z,Z,Z,Z,Z,Z,Z,x108,x109,x110,Z,Z,Z,Z,Z,Z,Z,Z,Z,Z,Z,Z,Z,Z,Z,Z,Z,Z,Z,Z,Z,Z,Z,Z,Z,Z,Z,Z,Z,Z,Z,Z,Z,Z,Z,Z,Z,Z,Z,Z,Z,Z,Z,Z,Z,Z,Z,Z,Z,Z,Z,Z,Z,Z,Z,Z,Z,Z,Z,Z,Z,Z,Z,Z,Z,Z,Z,Z,Z,Z,Z,Z,Z,Z,Z,Z,Z,Z,Z,Z,Z,Z,Z,Z,Z,Z,Z,Z,Z,Z,Z,Z,Z,Z,Z,Z,Z,Z,Z,Z,Z,Z,Z,Z,Z,Z,Z,Z,Z] ∧ ∃ d',DH h0 m h' d' ∧ S2 a c i d d' := by
    rw [← hl]
    refine loop_by (fun k t h' => forget [1,2,3,4,5,6,7,8,9,10,11,12,13,15,16,18,19,20,21,22,23,24,25,26,27,28,29,30,31,32,33,34,35,36,37,38,39,40,41,42,43,44,45,46,47,48,49,50,51,52,53,54,55,56,57,58,59,60,61,62,63,64,65,66,67,68,69,70,71,72,73,74,75,76,77,78,79,80,81,82,83,84,85,86,87,88,89,90,91,92,93,94,95,96,97,98,99,100,101,102,103,104,105,106,107,108,109,110,111,112,113,114,115,116,117,118,119,120,121,122,123,124,125,126,127,128,129,130,131,132,133,134,135,136,137,138,139,140,141,142,143,144,145,146,147,148,149,150,151,152,153,154,155,156,157,158,159,160,161,162,163,164,165,166,167,168,169,170,171,172,173,174,175,176,177,178,179,180,181,182,183,184,185,186,187,188,189,190,191,192,193,194,195,196,197,198,199,200,201,202,203,204,205,206,207,208,209,210,211,212,213,214,215,216,217,218,219] t = [VL m d.length,Z,Z,Z,Z,Z,Z,Z,Z,Z,Z,Z,Z,Z,.int .i64 (i : Nat),Z,Z,.int .i64 (k : Nat),Z,Z,Z,Z,Z,Z,Z,Z,Z,Z,Z,Z,Z,Z,Z,Z,Z,Z,Z,Z,Z,Z,Z,Z,Z,Z,Z,Z,Z,Z,Z,Z,Z,Z,Z,Z,Z,Z,Z,Z,Z,Z,Z,Z,Z,Z,Z,Z,Z,Z,Z,Z,Z,Z,Z,Z,Z,Z,Z,Z,Z,Z,Z,Z,Z,Z,Z,Z,Z,Z,Z,Z,Z,Z,Z,Z,Z,Z,Z,Z,Z,Z,Z,Z,Z,Z,Z,Z,Z,Z,Z,Z,Z,Z,Z,Z,Z,Z,Z,Z,Z,Z,Z,Z,Z,Z,Z,Z,Z,Z,Z,Z,Z,Z,Z,Z,Z,Z,Z,Z,Z,Z,Z,Z,Z,Z,Z,Z,Z,Z,Z,Z,Z,Z,Z,Z,Z,Z,Z,Z,Z,Z,Z,Z,Z,Z,Z,Z,Z,Z,Z,Z,Z,Z,Z,Z,Z,Z,Z,Z,Z,Z,Z,Z,Z,Z,Z,Z,Z,Z,Z,Z,Z,Z,Z,Z,Z,Z,Z,Z,Z,Z,Z,Z,Z,Z,Z,Z,Z,Z,Z,Z,Z,Z,Z,Z,Z,Z,Z,Z,Z,Z] ∧ i ≤ k ∧ k ≤ c ∧ ∃ d',DH h0 m h' d' ∧ S2 a c k d d')
      (fun e t' h' => e = .exit 6 ∧ ∃ x108 x109 x110,t' = [VL m d.length,Z,Z,Z,Z,Z,Z,Z,Z,Z,Z,Z,Z,Z,.int .i64 (i : Nat),Z,Z,.int .i64 (i : Nat),Z,Z,Z,Z,Z,Z,Z,Z,Z,Z,Z,Z,Z,Z,Z,Z,Z,Z,Z,Z,Z,Z,Z,Z,Z,Z,Z,Z,Z,Z,Z,Z,Z,Z,Z,Z,Z,Z,Z,Z,Z,Z,Z,Z,Z,Z,Z,Z,Z,Z,Z,Z,Z,Z,Z,Z,Z,Z,Z,Z,Z,Z,Z,Z,Z,Z,Z,Z,Z,Z,Z,Z,Z,Z,Z,Z,Z,Z,Z,Z,Z,Z,Z,Z,Z,Z,Z,Z,Z,Z,x108,x109,x110,Z,Z,Z,Z,Z,Z,Z,Z,Z,Z,Z,Z,Z,Z,Z,Z,Z,Z,Z,Z,Z,Z,Z,Z,Z,Z,Z,Z,Z,Z,Z,Z,Z,Z,Z,Z,Z,Z,Z,Z,Z,Z,Z,Z,Z,Z,Z,Z,Z,Z,Z,Z,Z,Z,Z,Z,Z,Z,Z,Z,Z,Z,Z,Z,Z,Z,Z,Z,Z,Z,Z,Z,Z,Z,Z,Z,Z,Z,Z,Z,Z,Z,Z,Z,Z,Z,Z,Z,Z,Z,Z,Z,Z,Z,Z,Z,Z,Z,Z,Z,Z,Z,Z,Z,Z,Z,Z,Z,Z] ∧ ∃ d',DH h0 m h' d' ∧ S2 a c i d d') ?_ c _ _ ⟨by kernel_rfl,by omega,by omega,d,hdB,s2_start _ _ _⟩
    rintro k t h2' ⟨htt,hik,hkc,d2,hd2,hS⟩
    rw [htt]
    have hlen := hS.im.len
    rcases Nat.lt_or_ge i k with h5 | h5
    · obtain ⟨q,rfl⟩ : ∃ q,k = q + 1 := ⟨k - 1,by omega⟩
      have hst := s2_step hS (by omega) hkc (by omega)
      obtain ⟨z1,z2,e1,e2,g1,n1,n2,dd⟩ := swap_mem hd2 (i := q + 1) (j := q) (by omega) (by omega)
      have gx := lns_g (d := d2) (i := q) (by omega)
      have gy := lns_g (d := d2) (i := q + 1) (by omega)
      have hg := hd2.2
      have l1 : (q : Int) + 1 < (d.length : Int) := by omega
      have l0 : (0 : Int) ≤ (q : Int) + 1 := by omega
      have l2 : q < d.length := by omega
      have l3 : (i : Int) < (q : Int) + 1 := by omega
      have cb : (q + 1) * 3 + 3 ≤ (lns d2).length := by rw [lns_len]; omega
      have sa := lns_set (d := d2) (i := q + 1) (by omega) (g d2 q)
      have ca2 : (q) * 3 + 3 ≤ (lns (d2.set (q + 1) (g d2 q))).length := by rw [lns_len,List.length_set]; omega
      have sb := lns_set (d := d2.set (q + 1) (g d2 q)) (i := q) (by rw [List.length_set]; omega) (g d2 (q + 1))
      have w3 : IntKind.i64.wrap (q : Int) = (q : Int) := IntWalk.i64_in _ (by omega)
      have cq := cast_succ q
      generalize g d2 q = X at *
      generalize g d2 (q + 1) = Y at *
      simp (maxSteps := 2000000) -implicitDefEqProofs [ble_d,beq_d,List.range_succ,List.replicate,cond_true,cond_false,cq,l3,w3,pt97_23,pl97_23,an97_23,l0,l1,l2,aindexAddr,sz67,Try.underlying56,Try.underlying67,hg,gx,gy,cb,ca2,sa,sb,astore,ok67,g1,← e1,← e2,n1,n2]
      exact ⟨q,by omega,by simp (maxSteps := 2000000) only [forget,List.set_cons_succ,List.set_cons_zero],by omega,by omega,_,dd,hst⟩
    · obtain rfl : k = i := by omega
      simp (maxSteps := 2000000) -implicitDefEqProofs [ble_d,beq_d,List.range_succ,List.replicate,cond_true,cond_false]
      exact ⟨d2,hd2,hS⟩
  subst hx he htt
  have hdn := m2_done hL hB s1 hS
  simp (maxSteps := 2000000) -implicitDefEqProofs [ble_d,beq_d,List.range_succ,List.replicate,cond_true,cond_false]
  exact ⟨_,_,⟨rfl,rfl⟩,rfl,d2,hd2,hdn⟩
/-- What the merge is asked, and what it answers. -/
def SymAt (lo : Ln → Ln → Prop) (tag : Ln → Int) (h0 : Heap) (m : Nat) (cap : Value) (N : Ln → Prop) (a c b : Nat) : Prop :=
  ∀ (h : Heap) (d : List Ln),DH h0 m h d → Dom N d → b ≤ d.length → d.length ≤ 2 ^ 47 → Srt lo a c d → Srt lo c b d → Tag tag a c b d →
    ∃ h' d',run Try.prog sO 97 [VL m d.length,.int .i64 (a : Nat),.int .i64 (c : Nat),.int .i64 (b : Nat),CV cap] h = some (.tuple #[],h') ∧ DH h0 m h' d' ∧ Im a b d d' ∧ Srt lo a b d'

end Go.Proofs.Ytmnkmdfladbgdaa.Od
