import Derived.Test.YtkempedphjopmaaTabB
set_option linter.unusedVariables false
set_option linter.unusedSimpArgs false
set_option linter.unnecessarySimpa false
namespace Go.Proofs.Ytkempedphjopmaa
open Go.Mach
/-! ### The sum -/
def step (h : BitVec 32) (c : UInt8) : BitVec 32 := (h ^^^ BitVec.ofNat 32 c.toNat) * 16777619#32
def sumL (l : List UInt8) : BitVec 32 := l.foldl step 2166136261#32
def sum (s : ByteArray) : BitVec 32 := sumL s.data.toList
theorem step_nat (h : BitVec 32) (c : UInt8) : (step h c).toNat = ((h.toNat ^^^ c.toNat) * 16777619) % 4294967296 := by
  have hc := c.toNat_lt
  have e1 : (BitVec.ofNat 32 c.toNat).toNat = c.toNat := by rw [BitVec.toNat_ofNat]; omega
  have e2 : (16777619#32).toNat = 16777619 := by decide
  have e3 : (step h c).toNat = ((h.toNat ^^^ c.toNat) * 16777619) % 2 ^ 32 := by rw [step, BitVec.toNat_mul, BitVec.toNat_xor, e1, e2]
  rw [e3]
theorem xor_lt {h c : Nat} (hh : h < 4294967296) (hc : c < 256) : h ^^^ c < 4294967296 := Nat.xor_lt_two_pow (n := 32) hh (by omega)
theorem step32 (h : BitVec 32) (c : UInt8) : IntKind.u32.wrap (IntKind.u32.wrap (xorI .u32 (h.toNat : Int) (IntKind.u32.wrap (c.toNat : Int))) * 16777619) = ((step h c).toNat : Int) := by
  have hc := c.toNat_lt
  have hh := h.isLt
  have hx := xor_lt (c := c.toNat) hh hc
  rw [wru32 (n := (c.toNat : Int)) (by omega) (by omega), xorI_nat .u32 (by simpa using hh) (by simp; omega), wru32 (n := ((h.toNat ^^^ c.toNat : Nat) : Int)) (by omega) (by omega)]
  have : (((h.toNat ^^^ c.toNat : Nat) : Int) * 16777619) = (((h.toNat ^^^ c.toNat) * 16777619 : Nat) : Int) := by omega
  rw [this, wru32_mod, step_nat]
theorem sum_ok (s : ByteArray) (hs : s.size ≤ 4194304) : pureT T c11 [.str s] = some (.int .u32 ((sum s).toNat : Int)) := by
  apply pure_enter (by simp [c11])
  simp [c11]
  refine W_upto T 0 20 s.size (fun i f σ => f 9 = .int .i64 (i : Int) ∧ f 8 = .int .i64 (s.size : Int) ∧ f 7 = .sl 0 0 s.size 1 false ∧ f 3 = .int .u32 ((sumL (s.data.toList.take i)).toNat : Int) ∧ σ = [.cells (u8s s) 0 true]) ?_ _ _ ?_
  · rintro i f σ Q' hi ⟨h9, h8, h7, h3, rfl⟩ hn hx
    by_cases h : i < s.size
    · have hg := u8s_getE h
      have hw : window (u8s s) i 1 = some [.int .u8 ((s.data.toList[i]'(by simpa using h)).toNat : Int)] := by
        unfold window
        rw [if_pos (by rw [u8s_len]; omega)]
        congr 1
        apply List.ext_getElem?
        intro j
        rw [List.getElem?_take, List.getElem?_drop]
        cases j with
        | zero => simpa using hg
        | succ j => simp
      simp [h9, h8, h7, h3, h, hw]
      refine hn _ _ h ⟨?_, by simp [h8], by simp [h7], ?_, rfl⟩
      · simp; rw [wr64 (by omega) (by omega)]
      · simp
        rw [step32, List.take_add_one]
        simp [sumL, h]
    · have he : i = s.size := by omega
      subst he
      simp [h9, h8]
      refine hx _ _ _ (by simp) (contQ_exit T 0 20 ?_)
      simp [h3, sum]
      congr 2
      rw [List.take_of_length_le (by simp)]
  · simp [sumL]
theorem call11 (s : ByteArray) (hs : s.size ≤ 4194304) (bs : Nat) (σ : Heap) : callT T 11 [.str s] bs σ = some (.int .u32 ((sum s).toNat : Int), σ) := call_clean rfl rfl rfl rfl (sum_ok s hs)
end Go.Proofs.Ytkempedphjopmaa
