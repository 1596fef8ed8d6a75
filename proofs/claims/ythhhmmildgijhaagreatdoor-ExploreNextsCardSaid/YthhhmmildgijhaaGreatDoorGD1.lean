/- The program: its three functions without text; a search that is told. -/
import Derived.Test.YthhhmmildgijhaaGreatDoorProg
import Derived.Test.YthhhmmildgijhaaGreatDoorAF3
import Derived.KernelRfl
set_option linter.unusedVariables false
set_option linter.unusedSimpArgs false
namespace Go.Proofs.YthhhmmildgijhaaGreatDoorAI
open Go

/-- Is that the answer? -/
def isV (v : Value) : Option (Value × Heap) → Bool
  | some (u, _) => veq u v
  | none => false
theorem isV_some {v : Value} {x : Option (Value × Heap)} (h : isV v x = true) : ∃ h', x = some (v, h') := by
  cases x with
  | none => cases h
  | some p =>
    obtain ⟨u, h'⟩ := p
    have := (veq_eq u v).1 h
    subst this
    exact ⟨h', rfl⟩

theorem mixed : Tryz.prog.follows .mixedOrders = true := by kernel_rfl

theorem find_noEsc : Extern.findNext Tryz.f132 = none ∧ Extern.find Tryz.f132 = some Extern.AbiNoEscape.same := ⟨rfl, rfl⟩
theorem find_idxByte : Extern.findNext Tryz.f261 = none ∧ Extern.find Tryz.f261 = some Extern.BytealgIndexByte.indexByte := ⟨rfl, rfl⟩
theorem find_idxStr : Extern.findNext Tryz.f302 = none ∧ Extern.find Tryz.f302 = some Extern.BytealgIndex.index := ⟨rfl, rfl⟩

theorem bytes_beq (x y : ByteArray) : (x == y) = beqL x.data.toList y.data.toList := by
  have h1 : (x == y) = (x.data == y.data) := rfl
  rw [h1, beqL_eq, Bool.eq_iff_iff]
  simp

theorem find_idxL (s : ByteArray) (c : UInt8) : ∀ (l : List UInt8) (k : Nat), s.data.toList.drop k = l →
    (match (List.range' k l.length).find? (fun i => s[i]! == c) with | some i => (i : Int) | none => -1) = idxL c.toNat l k := by
  intro l
  induction l with
  | nil => intro k _; rfl
  | cons b l ih =>
    intro k hk
    have hlt : k < s.data.toList.length := by
      rcases Nat.lt_or_ge k s.data.toList.length with h | h
      · exact h
      · rw [List.drop_eq_nil_of_le h] at hk; cases hk
    have hb : s.data.toList[k]? = some b := by
      have := congrArg (fun q => q[0]?) hk
      simpa [List.getElem?_drop] using this
    have hsz : k < s.size := hlt
    have hget : s[k]! = b := by
      rw [getElem!_pos s k hsz]
      rw [Array.getElem?_toList] at hb
      have := Array.getElem?_eq_some_iff.1 hb
      exact this.2
    have hd : s.data.toList.drop (k + 1) = l := by
      have := congrArg List.tail hk
      simpa [List.tail_drop] using this
    simp only [List.length_cons, List.range'_succ, List.find?_cons, hget, idxL]
    cases he : Nat.beq b.toNat c.toNat with
    | true =>
      have : b = c := UInt8.toNat_inj.1 (Nat.eq_of_beq_eq_true he)
      subst this
      simp
    | false =>
      have hne : (b == c) = false := by
        cases hbc : (b == c) with
        | false => rfl
        | true =>
          have := eq_of_beq hbc
          subst this
          simp at he
      simp only [hne, cond_false]
      exact ih (k + 1) hd

theorem bytes_byte {n : Nat} (h : n < 256) : (n.toUInt8).toNat = n := by simp [Nat.toUInt8, UInt8.toNat_ofNat]; omega

theorem exts : ExtOK Tryz.prog := by
  refine ⟨fun x w => ?_, fun s n w hn => ?_, fun a b m w hc h2 hm ha => ?_⟩
  · have h1 : Tryz.prog.funcs[132]? = some Tryz.f132 := Tryz.func132
    have hname : ¬ Tryz.f132.name = "runtime.NumGoroutine" := beq_eq_false_iff_ne.1 (by kernel_rfl)
    have hbody : Tryz.f132.body = none := Option.isNone_iff_eq_none.1 (by kernel_rfl)
    show (callFunc 132 #[x]).run Tryz.prog w = _
    have he : Extern.AbiNoEscape.same #[x] = pure x := rfl
    simp [callFunc, h1, hname, hbody, find_noEsc.1, find_noEsc.2, he]
  · have h1 : Tryz.prog.funcs[261]? = some Tryz.f261 := Tryz.func261
    have hname : ¬ Tryz.f261.name = "runtime.NumGoroutine" := beq_eq_false_iff_ne.1 (by kernel_rfl)
    have hbody : Tryz.f261.body = none := Option.isNone_iff_eq_none.1 (by kernel_rfl)
    show (callFunc 261 #[.string s, .int .u8 n]).run Tryz.prog w = _
    have hfind := find_idxL s n.toUInt8 s.data.toList 0 rfl
    rw [bytes_byte hn] at hfind
    have hlen : s.data.toList.length = s.size := rfl
    rw [hlen, ← List.range_eq_range'] at hfind
    have hi : (Extern.BytealgIndexByte.indexByte #[.string s, .int .u8 n]).run Tryz.prog w = .ok (goInt (idxL n s.data.toList 0)) w := by
      rw [← hfind]
      have hun : Extern.BytealgIndexByte.indexByte #[.string s, .int .u8 n] = (match (List.range s.size).find? fun i => s[i]! == n.toUInt8 with
        | some i => pure (goInt i)
        | none => pure (goInt (-1))) := rfl
      rw [hun]
      cases (List.range s.size).find? fun i => s[i]! == n.toUInt8 <;> rfl
    simp [callFunc, h1, hname, hbody, find_idxByte.1, find_idxByte.2, hi]
  · have h1 : Tryz.prog.funcs[302]? = some Tryz.f302 := Tryz.func302
    have hname : ¬ Tryz.f302.name = "runtime.NumGoroutine" := beq_eq_false_iff_ne.1 (by kernel_rfl)
    have hbody : Tryz.f302.body = none := Option.isNone_iff_eq_none.1 (by kernel_rfl)
    show (callFunc 302 #[.string a, .string b]).run Tryz.prog w = _
    have hg : Tryz.prog.globals.findIdx? (·.name == "internal/bytealg.MaxLen") = some 5 := by kernel_rfl
    have hc' : w.cell? ⟨5, 0, none⟩ = some (.int .i64 m) := hc
    have hml : (Extern.BytealgIndex.maxLen).run Tryz.prog w = .ok m w := by
      simp [Extern.BytealgIndex.maxLen, globalAddr, hg, hc', asInt, asIntOf]
    have hfun : (fun i => a.extract i (i + b.size) == b) = fun i => beqL ((a.data.toList.drop i).take b.size) b.data.toList := by
      funext i
      rw [bytes_beq, ← bsub_eq]
      have : (bsub a i (i + b.size)).data.toList = (a.data.toList.drop i).take b.size := by
        simp [bsub]
      rw [this]
    have hi : (Extern.BytealgIndex.index #[.string a, .string b]).run Tryz.prog w = .ok (goInt (aindex a b)) w := by
      have hun : Extern.BytealgIndex.index #[.string a, .string b] = (do
        if b.size < 2 || (b.size : Int) > (← Extern.BytealgIndex.maxLen) then
          unsupported (.noEntry "extern/internal/bytealg.Index.length")
        if a.size ≥ 2 ^ 32 - 15 then
          unsupported (.noEntry "extern/internal/bytealg.Index: a haystack of 2^32 - 15 bytes or more")
        match (List.range (a.size + 1 - b.size)).find? fun i => a.extract i (i + b.size) == b with
        | some i => pure (goInt i)
        | none => pure (goInt (-1)) : Sem Value) := rfl
      rw [hun, hfun]
      have q1 : ¬ b.size < 2 := by omega
      have q2 : ¬ (b.size : Int) > m := by omega
      have q3 : ¬ a.size ≥ 2 ^ 32 - 15 := by have : (2:Nat) ^ 32 - 15 = 4294967281 := by decide
                                             omega
      unfold aindex
      simp only [Sem.run_bind, hml, Result.andThen_ok]
      simp only [q1, q2, q3, decide_false, Bool.or_false, Bool.false_eq_true, if_false]
      cases (List.range (a.size + 1 - b.size)).find? fun i => beqL ((a.data.toList.drop i).take b.size) b.data.toList <;> rfl
    simp [callFunc, h1, hname, hbody, find_idxStr.1, find_idxStr.2, hi]

end Go.Proofs.YthhhmmildgijhaaGreatDoorAI
