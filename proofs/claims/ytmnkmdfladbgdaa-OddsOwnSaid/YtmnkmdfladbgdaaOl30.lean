/- Odds: Times. -/
import Derived.Test.YtmnkmdfladbgdaaOl13
set_option linter.unusedVariables false
set_option linter.unusedSimpArgs false
namespace Go.Proofs.Ytmnkmdfladbgdaa.Od
open Go Go.Proofs Go.RowKit Go.Proofs.YtmnkmdfladbgdaaAI Go.Proofs.YtmnkmdfladbgdaaFl

/-- The product's row, i limbs of the one factor done, and j of the other: what is carried stands beside. -/
def TM (h0 h : Heap) (m K Ly i j c : Nat) (x y : List Nat) : Prop := ∃ l,W32 l ∧ l.length = K ∧ nv l + 4294967296 ^ (i + j) * c = nv (x.take i) * nv y + 4294967296 ^ i * x.getD i 0 * nv (y.take j) ∧ (∀ k,i + Ly ≤ k → l.getD k 0 = 0) ∧ c < 4294967296 ∧ h.get m = some (.cells (u3 l) 101 1 false false) ∧ Keep (fun m' => m' = m) h0 h
def ij (i j : Nat) : Nat := i + j
/-- One limb's product, added. -/
theorem tm_step {h0 h : Heap} {m K Ly i j c : Nat} {x y : List Nat} (wx : W32 x) (wy : W32 y) (hT : TM h0 h m K Ly i j c x y) (hy : y.length = Ly) (hj : j < Ly) (hK : i + Ly < K) :
    ∃ l o,h.get m = some (.cells (u3 l) 101 1 false false) ∧ l.length = K ∧ (u3 l)[i + j]? = some (.int .u32 (o : Nat)) ∧ o < 4294967296 ∧ i + j + 1 ≤ (u3 l).length ∧ (∀ d : Nat,List.take (i + j) (u3 l) ++ Value.int .u32 (d : Nat) :: List.drop (i + j + 1) (u3 l) = u3 (l.set (i + j) d)) ∧
      ∀ q,q = h.put m (some (.cells (u3 (l.set (i + j) ((c + (o + x.getD i 0 * y.getD j 0)) % 4294967296))) 101 1 false false)) → TM h0 q m K Ly i (j + 1) ((c + (o + x.getD i 0 * y.getD j 0)) / 4294967296) x y := by
  obtain ⟨l,wl,hl,he,hz,hc,hg,hk⟩ := hT
  have hlt := Heap.get_lt hg
  have hij : i + j < l.length := by omega
  have lo := wl.get (i + j)
  have lx := wx.get i
  have ly := wy.get j
  refine ⟨l,l.getD (i + j) 0,hg,hl,u3_get hij,lo,by rw [u3_len]; omega,fun d => u3_set hij d,fun q hq => ?_⟩
  have hxy : x.getD i 0 * y.getD j 0 ≤ 4294967295 * 4294967295 := Nat.mul_le_mul (by omega) (by omega)
  have hs := nv_set hij ((c + (l.getD (i + j) 0 + x.getD i 0 * y.getD j 0)) % 4294967296)
  have hty := nv_take (l := y) (i := j) (by omega)
  refine ⟨l.set (i + j) ((c + (l.getD (i + j) 0 + x.getD i 0 * y.getD j 0)) % 4294967296),fun u hu => ?_,by rw [List.length_set]; exact hl,?_,fun k hk' => ?_,?_,by rw [hq,Heap.get_put hlt,if_pos rfl],by rw [hq]; exact hk.trans (Keep.put (S := fun m' => m' = m) hlt rfl _)⟩
  · rcases List.mem_or_eq_of_mem_set hu with h1 | h1
    · exact wl u h1
    · rw [h1]; exact Nat.mod_lt _ (by omega)
  · rw [hty]
    have hB : 4294967296 ^ (i + (j + 1)) = 4294967296 ^ (i + j) * 4294967296 := by rw [← Nat.add_assoc,Nat.pow_succ]
    have hm := Nat.div_add_mod (c + (l.getD (i + j) 0 + x.getD i 0 * y.getD j 0)) 4294967296
    generalize hT : (c + (l.getD (i + j) 0 + x.getD i 0 * y.getD j 0)) % 4294967296 = t at *
    generalize (c + (l.getD (i + j) 0 + x.getD i 0 * y.getD j 0)) / 4294967296 = c' at *
    have e1 : 4294967296 ^ i * x.getD i 0 * (nv (y.take j) + 4294967296 ^ j * y.getD j 0) = 4294967296 ^ i * x.getD i 0 * nv (y.take j) + 4294967296 ^ (i + j) * (x.getD i 0 * y.getD j 0) := by
      rw [Nat.mul_add,Nat.pow_add]; congr 1; simp only [Nat.mul_assoc,Nat.mul_left_comm,Nat.mul_comm]
    rw [e1,hB,Nat.mul_assoc]
    have e2 : 4294967296 ^ (i + j) * (4294967296 * c' + t) = 4294967296 ^ (i + j) * (c + (l.getD (i + j) 0 + x.getD i 0 * y.getD j 0)) := by rw [hm]
    rw [Nat.mul_add,Nat.mul_add,Nat.mul_add] at e2
    omega
  · rw [List.getD_eq_getElem?_getD,List.getElem?_set_ne (by omega),← List.getD_eq_getElem?_getD]; exact hz k hk'
  · exact Nat.div_lt_of_lt_mul (by omega)
set_option maxRecDepth 20000 in
set_option maxHeartbeats 6400000 in
theorem times2 {h0 : Heap} {xa ya : Option Addr} {xc yc Lx Ly m K p : Nat} {x y : List Nat} (hLx : x.length = Lx) (hLy : y.length = Ly) (wx : W32 x) (wy : W32 y) (kx : Lx ≤ 400) (ky : Ly ≤ 400) (hp : p < Lx) (hK : K = Lx + Ly + 1) (hx : Sl h0 (.slice xa Lx xc) 1 Lx (u3 x)) (hy : Sl h0 (.slice ya Ly yc) 1 Ly (u3 y)) (hmx : nm (.slice xa Lx xc) ≠ some m) (hmy : nm (.slice ya Ly yc) ≠ some m) (v0 : Value) (F : Step) (hFF : F = aexecP Try.prog (sO 73) (run Try.prog sO) loopω pt73 (lb73 1)) (t : Tm)
    (ht : forget [0,1,2,3,4,11,12,13,14,15,16,17,18,19,20,21,22,23,24,25,26,27,28,29,30,31,32,33,34,35,36,37,38,39,40,41,42,43,44,45,46,47,48,49,50,51,52,53,54,55,56,57,58,59,60,61,62,63,64,65,66,67,68,69,70,71,72,73,74] t = [Z,Z,Z,Z,Z,.slice xa Lx xc,.slice ya Ly yc,.slice (some ⟨m,0,none⟩) K K,.int .i64 (p : Nat),v0,.int .i64 (0 : Nat),Z,Z,Z,Z,Z,Z,Z,Z,Z,Z,Z,Z,Z,Z,Z,Z,Z,Z,Z,Z,Z,Z,Z,Z,Z,Z,Z,Z,Z,Z,Z,Z,Z,Z,Z,Z,Z,Z,Z,Z,Z,Z,Z,Z,Z,Z,Z,Z,Z,Z,Z,Z,Z,Z,Z,Z,Z,Z,Z,Z,Z,Z,Z,Z]) (hI0 : (∃ c : Nat,v0 = .int .u64 (c : Nat) ∧ TM h0 h0 m K Ly p (0) c x y)) :
    ∃ h' v x28 x29 x30 x31,loopω [0,1,2,3,4,11,12,13,14,15,16,17,18,19,20,21,22,23,24,25,26,27,28,29,30,31,32,33,34,35,36,37,38,39,40,41,42,43,44,45,46,47,48,49,50,51,52,53,54,55,56,57,58,59,60,61,62,63,64,65,66,67,68,69,70,71,72,73,74] F t h0 = some (.exit 2,[Z,Z,Z,Z,Z,.slice xa Lx xc,.slice ya Ly yc,.slice (some ⟨m,0,none⟩) K K,.int .i64 (p : Nat),v,.int .i64 (Ly : Nat),Z,Z,Z,Z,Z,Z,Z,Z,Z,Z,Z,Z,Z,Z,Z,Z,Z,x28,x29,x30,x31,Z,Z,Z,Z,Z,Z,Z,Z,Z,Z,Z,Z,Z,Z,Z,Z,Z,Z,Z,Z,Z,Z,Z,Z,Z,Z,Z,Z,Z,Z,Z,Z,Z,Z,Z,Z,Z,Z,Z,Z,Z,Z,Z],h') ∧ (∃ c : Nat,v = .int .u64 (c : Nat) ∧ TM h0 h' m K Ly p (Ly) c x y) := by
  subst hFF
  suffices hs : ∃ e t' h',loopω [0,1,2,3,4,11,12,13,14,15,16,17,18,19,20,21,22,23,24,25,26,27,28,29,30,31,32,33,34,35,36,37,38,39,40,41,42,43,44,45,46,47,48,49,50,51,52,53,54,55,56,57,58,59,60,61,62,63,64,65,66,67,68,69,70,71,72,73,74] (aexecP Try.prog (sO 73) (run Try.prog sO) loopω pt73 (lb73 1)) t h0 = some (e,t',h') ∧ (e = .exit 2 ∧ ∃ v x28 x29 x30 x31,t' = [Z,Z,Z,Z,Z,.slice xa Lx xc,.slice ya Ly yc,.slice (some ⟨m,0,none⟩) K K,.int .i64 (p : Nat),v,.int .i64 (Ly : Nat),Z,Z,Z,Z,Z,Z,Z,Z,Z,Z,Z,Z,Z,Z,Z,Z,Z,x28,x29,x30,x31,Z,Z,Z,Z,Z,Z,Z,Z,Z,Z,Z,Z,Z,Z,Z,Z,Z,Z,Z,Z,Z,Z,Z,Z,Z,Z,Z,Z,Z,Z,Z,Z,Z,Z,Z,Z,Z,Z,Z,Z,Z,Z,Z] ∧ (∃ c : Nat,v = .int .u64 (c : Nat) ∧ TM h0 h' m K Ly p (Ly) c x y)) by
    obtain ⟨e,t',h',q1,rfl,v,x28,x29,x30,x31,rfl,q2⟩ := hs
    exact ⟨h',v,x28,x29,x30,x31,q1,q2⟩
  simp only [lb73,Try.f73,loopsOf,Option.getD_some,List.nil_append,List.append_nil,List.cons_append,List.getD_cons_zero,List.getD_cons_succ]
  refine loop_by (fun k t h' => ∃ (i : Nat) (v : Value),i + k = Ly ∧ forget [0,1,2,3,4,11,12,13,14,15,16,17,18,19,20,21,22,23,24,25,26,27,28,29,30,31,32,33,34,35,36,37,38,39,40,41,42,43,44,45,46,47,48,49,50,51,52,53,54,55,56,57,58,59,60,61,62,63,64,65,66,67,68,69,70,71,72,73,74] t = [Z,Z,Z,Z,Z,.slice xa Lx xc,.slice ya Ly yc,.slice (some ⟨m,0,none⟩) K K,.int .i64 (p : Nat),v,.int .i64 (i : Nat),Z,Z,Z,Z,Z,Z,Z,Z,Z,Z,Z,Z,Z,Z,Z,Z,Z,Z,Z,Z,Z,Z,Z,Z,Z,Z,Z,Z,Z,Z,Z,Z,Z,Z,Z,Z,Z,Z,Z,Z,Z,Z,Z,Z,Z,Z,Z,Z,Z,Z,Z,Z,Z,Z,Z,Z,Z,Z,Z,Z,Z,Z,Z,Z] ∧ (∃ c : Nat,v = .int .u64 (c : Nat) ∧ TM h0 h' m K Ly p (i) c x y))
    (fun e t' h' => e = .exit 2 ∧ ∃ v x28 x29 x30 x31,t' = [Z,Z,Z,Z,Z,.slice xa Lx xc,.slice ya Ly yc,.slice (some ⟨m,0,none⟩) K K,.int .i64 (p : Nat),v,.int .i64 (Ly : Nat),Z,Z,Z,Z,Z,Z,Z,Z,Z,Z,Z,Z,Z,Z,Z,Z,Z,x28,x29,x30,x31,Z,Z,Z,Z,Z,Z,Z,Z,Z,Z,Z,Z,Z,Z,Z,Z,Z,Z,Z,Z,Z,Z,Z,Z,Z,Z,Z,Z,Z,Z,Z,Z,Z,Z,Z,Z,Z,Z,Z,Z,Z,Z,Z] ∧ (∃ c : Nat,v = .int .u64 (c : Nat) ∧ TM h0 h' m K Ly p (Ly) c x y)) ?_ (Ly) _ _ ⟨0,_,by omega,ht,hI0⟩
  rintro k t h' ⟨i,v,hi,ht,hI⟩
  rw [ht]
  rcases Nat.lt_or_ge i (Ly) with h1 | h1
  · obtain ⟨c,rfl,hT⟩ := hI
    have hinc := @inc64 i (by omega)
    have hcs := cast_succ i
    have kp : Keep (fun m' => m' = m) h0 h' := by obtain ⟨_,_,_,_,_,_,_,z⟩ := hT; exact z
    have hcl : c < 4294967296 := by obtain ⟨_,_,_,_,_,z,_,_⟩ := hT; exact z
    have hxk := hx.keep kp fun m' e z => hmx (z ▸ e)
    have hyk := hy.keep kp fun m' e z => hmy (z ▸ e)
    obtain ⟨l,o,hg,hl,ho,lo,ca,hsa,hst⟩ := tm_step wx wy hT hLy h1 (by omega)
    have lx := wx.get p
    have ly := wy.get i
    obtain ⟨xa,xc,C,ce,cs,gr,ro,eb,hg1,hc1⟩ := sl_u3 hxk hp
    simp only [Value.slice.injEq,true_and] at eb
    obtain ⟨rfl,rfl⟩ := eb
    obtain ⟨ya,yc,C2,ce2,cs2,gr2,ro2,eb,hg2,hc2⟩ := sl_u3 hyk h1
    simp only [Value.slice.injEq,true_and] at eb
    obtain ⟨rfl,rfl⟩ := eb
    generalize x.getD p 0 = u at *
    generalize y.getD i 0 = w at *
    have huw : u * w ≤ 4294967295 * 4294967295 := Nat.mul_le_mul (by omega) (by omega)
    obtain ⟨uw,huw2⟩ : ∃ z,u * w = z := ⟨_,rfl⟩
    obtain ⟨s1,hs1⟩ : ∃ z,o + uw = z := ⟨_,rfl⟩
    obtain ⟨s2,hs2⟩ : ∃ z,c + s1 = z := ⟨_,rfl⟩
    obtain ⟨d,hd⟩ : ∃ z,s2 % 4294967296 = z := ⟨_,rfl⟩
    obtain ⟨c',hc'⟩ : ∃ z,s2 / 4294967296 = z := ⟨_,rfl⟩
    rw [huw2] at huw
    rw [huw2,hs1,hs2,hd,hc'] at hst
    obtain ⟨pi,hpi⟩ : ∃ z,p + i = z := ⟨_,rfl⟩
    rw [hpi] at ho ca hsa hst
    have hsd := hsa d
    obtain ⟨q,hq⟩ : ∃ q,q = h'.put m (some (.cells (u3 (l.set pi d)) 101 1 false false)) := ⟨_,rfl⟩
    have hT' := hst q hq
    have v1 := wu64 (a := o) rfl (by omega)
    have v2 := wu64 (a := u) rfl (by omega)
    have v3 := wu64 (a := w) rfl (by omega)
    have v4 : IntKind.u64.wrap ((u : Int) * (w : Int)) = (uw : Int) := by
      have : (u : Int) * (w : Int) = ((u * w : Nat) : Int) := by simp
      rw [this]; exact wu64 huw2 (by omega)
    have v5 := au64 hs1 (by omega)
    have v6 := au64 hs2 (by omega)
    have v7 := mod32 hd
    have v8 := wu32 (a := d) rfl (by omega)
    have v9 := quo32' hc' (by omega)
    have v10 := ai64 hpi (by omega)
    have hpK : pi < K := by omega
    simp (maxSteps := 2000000) -implicitDefEqProofs [ble_d,beq_d,List.range_succ,List.replicate,cond_true,cond_false,h1,hp,hpK,v1,v2,v3,v4,v5,v6,v7,v8,v9,v10,hg,ho,hg1,hc1,hg2,hc2,ca,hsd,astore,oku3,← hq,pt73_10,pl73_10,an73_10,aindexAddr,sz101,Try.underlying40,cv101_37,cv37_101,hinc,undef]
    exact ⟨k - 1,by omega,i + 1,by omega,.int .u64 (c' : Nat),by simp (maxSteps := 2000000) only [forget,List.set_cons_succ,List.set_cons_zero,hcs],c',rfl,hT'⟩
  · obtain rfl : i = Ly := by omega
    simp (maxSteps := 2000000) -implicitDefEqProofs [ble_d,beq_d,List.range_succ,List.replicate,cond_true,cond_false]
    exact hI

theorem TM.base {h0 h h1 : Heap} {m K Ly i j c : Nat} {x y : List Nat} (hT : TM h0 h m K Ly i j c x y) (hk : Keep (fun m' => m' = m) h1 h) : TM h1 h m K Ly i j c x y := by
  obtain ⟨l,a1,a2,a3,a4,a5,a6,_⟩ := hT
  exact ⟨l,a1,a2,a3,a4,a5,a6,hk⟩
theorem tm_next {h0 h : Heap} {m K Ly i c : Nat} {x y : List Nat} (hT : TM h0 h m K Ly i Ly c x y) (hi : i < x.length) (hy : y.length = Ly) (hK : i + Ly < K) :
    ∃ l,h.get m = some (.cells (u3 l) 101 1 false false) ∧ l.length = K ∧ i + Ly + 1 ≤ (u3 l).length ∧ (List.take (i + Ly) (u3 l) ++ Value.int .u32 (c : Nat) :: List.drop (i + Ly + 1) (u3 l) = u3 (l.set (i + Ly) c)) ∧
      ∀ q,q = h.put m (some (.cells (u3 (l.set (i + Ly) c)) 101 1 false false)) → TM h0 q m K Ly (i + 1) 0 0 x y := by
  obtain ⟨l,wl,hl,he,hz,hc,hg,hk⟩ := hT
  have hlt := Heap.get_lt hg
  have hij : i + Ly < l.length := by omega
  refine ⟨l,hg,hl,by rw [u3_len]; omega,u3_set hij c,fun q hq => ?_⟩
  have hs := nv_set hij c
  rw [hz _ (Nat.le_refl _),Nat.mul_zero,Nat.add_zero] at hs
  have htx := nv_take (l := x) (i := i) hi
  refine ⟨l.set (i + Ly) c,fun u hu => ?_,by rw [List.length_set]; exact hl,?_,fun k hk' => ?_,by omega,by rw [hq,Heap.get_put hlt,if_pos rfl],by rw [hq]; exact hk.trans (Keep.put (S := fun m' => m' = m) hlt rfl _)⟩
  · rcases List.mem_or_eq_of_mem_set hu with h1 | h1
    · exact wl u h1
    · omega
  · rw [← hy,List.take_length,hy] at he
    rw [hs,he,htx,List.take_zero,Nat.mul_zero,Nat.add_zero,Nat.add_mul]
    simp [nv]
  · rw [List.getD_eq_getElem?_getD,List.getElem?_set_ne (by omega),← List.getD_eq_getElem?_getD]; exact hz k (by omega)
set_option maxRecDepth 20000 in
set_option maxHeartbeats 6400000 in
theorem times1 {h0 : Heap} {xa ya : Option Addr} {xc yc Lx Ly m K : Nat} {x y : List Nat} (hLx : x.length = Lx) (hLy : y.length = Ly) (wx : W32 x) (wy : W32 y) (kx : Lx ≤ 400) (ky : Ly ≤ 400) (hK : K = Lx + Ly + 1) (hx : Sl h0 (.slice xa Lx xc) 1 Lx (u3 x)) (hy : Sl h0 (.slice ya Ly yc) 1 Ly (u3 y)) (hmx : nm (.slice xa Lx xc) ≠ some m) (hmy : nm (.slice ya Ly yc) ≠ some m) (F : Step) (hFF : F = aexecP Try.prog (sO 73) (run Try.prog sO) loopω pt73 (lb73 0)) (t : Tm)
    (ht : forget [0,1,2,3,4,9,10,11,12,13,14,15,16,17,18,19,20,21,22,23,24,25,26,27,28,29,30,31,32,33,34,35,36,37,38,39,40,41,42,43,44,45,46,47,48,49,50,51,52,53,54,55,56,57,58,59,60,61,62,63,64,65,66,67,68,69,70,71,72,73,74] t = [Z,Z,Z,Z,Z,.slice xa Lx xc,.slice ya Ly yc,.slice (some ⟨m,0,none⟩) K K,.int .i64 (0 : Nat),Z,Z,Z,Z,Z,Z,Z,Z,Z,Z,Z,Z,Z,Z,Z,Z,Z,Z,Z,Z,Z,Z,Z,Z,Z,Z,Z,Z,Z,Z,Z,Z,Z,Z,Z,Z,Z,Z,Z,Z,Z,Z,Z,Z,Z,Z,Z,Z,Z,Z,Z,Z,Z,Z,Z,Z,Z,Z,Z,Z,Z,Z,Z,Z,Z,Z]) (hI0 : TM h0 h0 m K Ly (0) 0 0 x y) :
    ∃ h' x22 x23 x24 x25,loopω [0,1,2,3,4,9,10,11,12,13,14,15,16,17,18,19,20,21,22,23,24,25,26,27,28,29,30,31,32,33,34,35,36,37,38,39,40,41,42,43,44,45,46,47,48,49,50,51,52,53,54,55,56,57,58,59,60,61,62,63,64,65,66,67,68,69,70,71,72,73,74] F t h0 = some (.exit 0,[Z,Z,Z,Z,Z,.slice xa Lx xc,.slice ya Ly yc,.slice (some ⟨m,0,none⟩) K K,.int .i64 (Lx : Nat),Z,Z,Z,Z,Z,Z,Z,Z,Z,Z,Z,Z,Z,x22,x23,x24,x25,Z,Z,Z,Z,Z,Z,Z,Z,Z,Z,Z,Z,Z,Z,Z,Z,Z,Z,Z,Z,Z,Z,Z,Z,Z,Z,Z,Z,Z,Z,Z,Z,Z,Z,Z,Z,Z,Z,Z,Z,Z,Z,Z,Z,Z,Z,Z,Z,Z],h') ∧ TM h0 h' m K Ly (Lx) 0 0 x y := by
  subst hFF
  suffices hs : ∃ e t' h',loopω [0,1,2,3,4,9,10,11,12,13,14,15,16,17,18,19,20,21,22,23,24,25,26,27,28,29,30,31,32,33,34,35,36,37,38,39,40,41,42,43,44,45,46,47,48,49,50,51,52,53,54,55,56,57,58,59,60,61,62,63,64,65,66,67,68,69,70,71,72,73,74] (aexecP Try.prog (sO 73) (run Try.prog sO) loopω pt73 (lb73 0)) t h0 = some (e,t',h') ∧ (e = .exit 0 ∧ ∃ x22 x23 x24 x25,t' = [Z,Z,Z,Z,Z,.slice xa Lx xc,.slice ya Ly yc,.slice (some ⟨m,0,none⟩) K K,.int .i64 (Lx : Nat),Z,Z,Z,Z,Z,Z,Z,Z,Z,Z,Z,Z,Z,x22,x23,x24,x25,Z,Z,Z,Z,Z,Z,Z,Z,Z,Z,Z,Z,Z,Z,Z,Z,Z,Z,Z,Z,Z,Z,Z,Z,Z,Z,Z,Z,Z,Z,Z,Z,Z,Z,Z,Z,Z,Z,Z,Z,Z,Z,Z,Z,Z,Z,Z,Z,Z] ∧ TM h0 h' m K Ly (Lx) 0 0 x y) by
    obtain ⟨e,t',h',q1,rfl,x22,x23,x24,x25,rfl,q2⟩ := hs
    exact ⟨h',x22,x23,x24,x25,q1,q2⟩
  simp only [lb73,Try.f73,loopsOf,Option.getD_some,List.nil_append,List.append_nil,List.cons_append,List.getD_cons_zero,List.getD_cons_succ]
  refine loop_by (fun k t h' => ∃ (i : Nat),i + k = Lx ∧ forget [0,1,2,3,4,9,10,11,12,13,14,15,16,17,18,19,20,21,22,23,24,25,26,27,28,29,30,31,32,33,34,35,36,37,38,39,40,41,42,43,44,45,46,47,48,49,50,51,52,53,54,55,56,57,58,59,60,61,62,63,64,65,66,67,68,69,70,71,72,73,74] t = [Z,Z,Z,Z,Z,.slice xa Lx xc,.slice ya Ly yc,.slice (some ⟨m,0,none⟩) K K,.int .i64 (i : Nat),Z,Z,Z,Z,Z,Z,Z,Z,Z,Z,Z,Z,Z,Z,Z,Z,Z,Z,Z,Z,Z,Z,Z,Z,Z,Z,Z,Z,Z,Z,Z,Z,Z,Z,Z,Z,Z,Z,Z,Z,Z,Z,Z,Z,Z,Z,Z,Z,Z,Z,Z,Z,Z,Z,Z,Z,Z,Z,Z,Z,Z,Z,Z,Z,Z,Z] ∧ TM h0 h' m K Ly (i) 0 0 x y)
    (fun e t' h' => e = .exit 0 ∧ ∃ x22 x23 x24 x25,t' = [Z,Z,Z,Z,Z,.slice xa Lx xc,.slice ya Ly yc,.slice (some ⟨m,0,none⟩) K K,.int .i64 (Lx : Nat),Z,Z,Z,Z,Z,Z,Z,Z,Z,Z,Z,Z,Z,x22,x23,x24,x25,Z,Z,Z,Z,Z,Z,Z,Z,Z,Z,Z,Z,Z,Z,Z,Z,Z,Z,Z,Z,Z,Z,Z,Z,Z,Z,Z,Z,Z,Z,Z,Z,Z,Z,Z,Z,Z,Z,Z,Z,Z,Z,Z,Z,Z,Z,Z,Z,Z] ∧ TM h0 h' m K Ly (Lx) 0 0 x y) ?_ (Lx) _ _ ⟨0,by omega,ht,hI0⟩
  rintro k t h' ⟨i,hi,ht,hI⟩
  rw [ht]
  rcases Nat.lt_or_ge i (Lx) with h1 | h1
  · have hinc := @inc64 i (by omega)
    have hcs := cast_succ i
    have kp : Keep (fun m' => m' = m) h0 h' := by obtain ⟨_,_,_,_,_,_,_,z⟩ := hI; exact z
    have hxk := hx.keep kp fun m' e z => hmx (z ▸ e)
    have hyk := hy.keep kp fun m' e z => hmy (z ▸ e)
    simp (maxSteps := 2000000) -implicitDefEqProofs [ble_d,beq_d,List.range_succ,List.replicate,cond_true,cond_false,h1,sO73_8,undef]
    generalize hl : loopω _ _ _ _ = r
    obtain ⟨hB,v9,x28,x29,x30,x31,hx',c,rfl,hT⟩ := useX5 hl (times2 (h0 := h') (xa := xa) (xc := xc) (ya := ya) (yc := yc) (Lx := Lx) (Ly := Ly) (m := m) (K := K) (p := i) (x := x) (y := y) hLx hLy wx wy kx ky h1 hK hxk hyk hmx hmy _ _ (by kernel_rfl) _ (by kernel_rfl) ⟨0,rfl,hI.base (Keep.refl _ _)⟩)
    subst hx'
    clear hl
    have kB : Keep (fun m' => m' = m) h' hB := by obtain ⟨_,_,_,_,_,_,_,z⟩ := hT; exact z
    have hcl : c < 4294967296 := by obtain ⟨_,_,_,_,_,z,_,_⟩ := hT; exact z
    obtain ⟨l,hg,hl,ca,hsa,hst⟩ := tm_next (hT.base (kp.trans kB)) (by omega) hLy (by omega)
    obtain ⟨e,he⟩ : ∃ z,i + Ly = z := ⟨_,rfl⟩
    rw [he] at ca hsa hst
    obtain ⟨q,hq⟩ : ∃ q,q = hB.put m (some (.cells (u3 (l.set e c)) 101 1 false false)) := ⟨_,rfl⟩
    have hT' := hst q hq
    have v1 := wu32 (a := c) rfl (by omega)
    have v2 := ai64 he (by omega)
    have heK : e < K := by omega
    simp (maxSteps := 2000000) -implicitDefEqProofs [ble_d,beq_d,List.range_succ,List.replicate,cond_true,cond_false,heK,v1,v2,hg,ca,hsa,astore,oku3,← hq,aindexAddr,sz101,Try.underlying40,cv37_101,hinc,undef]
    exact ⟨_,_,_,⟨rfl,rfl,rfl⟩,k - 1,by omega,i + 1,by omega,by simp (maxSteps := 2000000) only [forget,List.set_cons_succ,List.set_cons_zero,hcs],hT'⟩
  · obtain rfl : i = Lx := by omega
    simp (maxSteps := 2000000) -implicitDefEqProofs [ble_d,beq_d,List.range_succ,List.replicate,cond_true,cond_false]
    exact hI

set_option maxRecDepth 20000 in
theorem times_run {h : Heap} {v w : Value} {a b : List Nat} (ha : Na h v a) (hb : Na h w b) (ka : a.length ≤ 400) (kb : b.length ≤ 400) : ∃ v' h',run Try.prog sO 73 [v,w] h = some (v',h') ∧ Nt h h' v' (nv a * nv b) ∧ (lm (nv a * nv b)).length ≤ a.length + b.length + 1 := by
  obtain ⟨v1,h1,e1,⟨l1,k1,n1⟩,b1⟩ := trim_run ha
  obtain ⟨v2,h2,e2,⟨l2,k2,n2⟩,b2⟩ := trim_run (hb.keep k1)
  have s1 := l1.sl.keep k2 fun _ _ x => x
  have s2 := l2.sl
  obtain ⟨xa0,xc0,rfl⟩ := sl_form ha.1
  obtain ⟨ya0,yc0,rfl⟩ := sl_form hb.1
  have hl1 := fun m e => s1.lt (m := m) e
  have hl2 := fun m e => s2.lt (m := m) e
  obtain ⟨xa,xc,rfl⟩ := sl_form s1
  obtain ⟨ya,yc,rfl⟩ := sl_form s2
  have na : nv (lm (nv a)) = nv a := nv_lm _
  have nb : nv (lm (nv b)) = nv b := nv_lm _
  have wA := lm_w (nv a)
  have wB := lm_w (nv b)
  generalize lm (nv a) = A at *
  generalize lm (nv b) = B at *
  obtain ⟨K,hK⟩ : ∃ K,A.length + B.length + 1 = K := ⟨_,rfl⟩
  obtain ⟨K0,hK0⟩ : ∃ K,A.length + B.length = K := ⟨_,rfl⟩
  suffices hx : ∃ y,fin Try.prog Try.f73 (aexecP Try.prog (sO 73) (run Try.prog sO) loopω pt73 (Try.f73.body.getD .skip) ([.slice xa0 a.length xc0,.slice ya0 b.length yc0] ++ List.replicate (Try.f73.ntmps - 2) undef) h) = some y ∧ Nt h y.2 y.1 (nv a * nv b) ∧ (lm (nv a * nv b)).length ≤ K by
    obtain ⟨⟨y1,y2⟩,hy,q⟩ := hx
    exact ⟨y1,y2,run_finP pt73 Try.func73 rfl planned73 hy,q.1,by omega⟩
  have d1 := ai64 hK0 (by omega)
  have d2 : IntKind.i64.wrap ((K0 : Int) + 1) = (K : Int) := by rw [IntWalk.i64_in _ (by omega)]; omega
  have hms := fun ρ x y hx hy => ms40 ρ x y K hx hy (by omega)
  have k0 := Keep.new No h2 (.cells (u3 (List.replicate K 0)) 101 1 false false)
  have g0 : (h2.new (.cells (u3 (List.replicate K 0)) 101 1 false false)).get h2.next = some (.cells (u3 (List.replicate K 0)) 101 1 false false) := by rw [Heap.get_new,if_pos rfl]
  obtain ⟨hA,hhA⟩ : ∃ x,x = h2.new (.cells (u3 (List.replicate K 0)) 101 1 false false) := ⟨_,rfl⟩
  rw [← hhA] at k0 g0
  simp (maxSteps := 2000000) -implicitDefEqProofs [Try.f73,ble_d,beq_d,List.range_succ,List.replicate,cond_true,cond_false,Try.underlying40,en85,e1,e2,d1,d2,hms,← hhA,sO73_4]
  generalize hl : loopω _ _ _ _ = r
  have hk1 := k1.1
  have hk2 := k2.1
  obtain ⟨h3,x22,x23,x24,x25,hx,l,wl,hlK,hlv,_,_,hg,kp⟩ := useX4 hl (times1 (h0 := hA) (xa := xa) (xc := xc) (ya := ya) (yc := yc) (Lx := A.length) (Ly := B.length) (m := h2.next) (K := K) (x := A) (y := B) rfl rfl wA wB (by omega) (by omega) hK.symm (s1.keep k0 fun _ _ x => x) (s2.keep k0 fun _ _ x => x) (fun e => by have := hl1 _ e; omega) (fun e => by have := hl2 _ e; omega) _ (by kernel_rfl) _ (by kernel_rfl)
    ⟨List.replicate K 0,fun x hx => (by rw [(List.mem_replicate.1 hx).2]; omega),List.length_replicate,by rw [nv_zeros]; simp [nv],fun k hk => by
      rw [List.getD_eq_getElem?_getD,List.getElem?_replicate]; split <;> rfl,by omega,g0,Keep.refl _ _⟩)
  subst hx
  clear hl
  rw [List.take_length,List.take_zero,Nat.mul_zero,Nat.add_zero] at hlv
  have hval : nv l = nv a * nv b := by rw [hlv,na,nb]; simp [nv]
  have hna : Na h3 (.slice (some ⟨h2.next,0,none⟩) K K) l := by
    refine ⟨?_,wl,by omega⟩
    rw [hlK]
    exact ⟨by rw [u3_len,hlK]; omega,.inr ⟨_,_,rfl,fun _ => ⟨_,_,_,_,_,hg,by simp [u3_len,hlK]; exact List.take_of_length_le (by rw [u3_len,hlK]; exact Nat.le_refl _)⟩⟩⟩
  obtain ⟨v9,h9,e9,n9,k9⟩ := trim_run hna
  rw [hval] at n9 k9
  simp (maxSteps := 2000000) -implicitDefEqProofs [ble_d,beq_d,List.range_succ,List.replicate,cond_true,cond_false,Try.underlying40,en85,e9]
  have hk0 := k0.1
  have hkp := kp.1
  exact ⟨_,_,⟨rfl,rfl⟩,⟨n9.1,(((k1.trans k2).trans k0).also kp fun m' hm x => by omega).trans n9.2.1,fun m' e => by have := n9.2.2 m' e; omega⟩,by omega⟩
end Go.Proofs.Ytmnkmdfladbgdaa.Od
