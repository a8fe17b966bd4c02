import Derived.Test.YtkempedphjopmaaSumsB
set_option linter.unusedVariables false
set_option linter.unusedSimpArgs false
set_option linter.unnecessarySimpa false
namespace Go.Proofs.Ytkempedphjopmaa
open Go.Mach

/-! ### The law on sums -/
theorem step_inj_h {a b : BitVec 32} {c : UInt8} (h : step a c = step b c) : a = b := by
  have e : (16777619#32) * (899433627#32) = 1#32 := by decide
  have h1 : step a c * 899433627#32 = step b c * 899433627#32 := by rw [h]
  simp only [step, BitVec.mul_assoc, e, BitVec.mul_one] at h1
  have h2 : (a ^^^ BitVec.ofNat 32 c.toNat) ^^^ BitVec.ofNat 32 c.toNat = (b ^^^ BitVec.ofNat 32 c.toNat) ^^^ BitVec.ofNat 32 c.toNat := by rw [h1]
  simpa [BitVec.xor_assoc] using h2
theorem step_inj_c {a : BitVec 32} {c d : UInt8} (h : step a c = step a d) : c = d := by
  have e : (16777619#32) * (899433627#32) = 1#32 := by decide
  have h1 : step a c * 899433627#32 = step a d * 899433627#32 := by rw [h]
  simp only [step, BitVec.mul_assoc, e, BitVec.mul_one] at h1
  have h2 : a ^^^ (a ^^^ BitVec.ofNat 32 c.toNat) = a ^^^ (a ^^^ BitVec.ofNat 32 d.toNat) := by rw [h1]
  simp only [← BitVec.xor_assoc, BitVec.xor_self, BitVec.zero_xor] at h2
  have h3 := congrArg BitVec.toNat h2
  have hc := c.toNat_lt
  have hd := d.toNat_lt
  rw [BitVec.toNat_ofNat, BitVec.toNat_ofNat] at h3
  exact UInt8.toNat_inj.1 (by omega)
theorem fold_inj : ∀ (l : List UInt8) {a b : BitVec 32}, l.foldl step a = l.foldl step b → a = b
  | [], _, _, h => h
  | c :: l, _, _, h => step_inj_h (fold_inj l h)
theorem sum_set {l : List UInt8} {k : Nat} {v : UInt8} (hk : k < l.length) (hv : l[k] ≠ v) : sumL (l.set k v) ≠ sumL l := by
  intro h
  have e1 : l = l.take k ++ l[k] :: l.drop (k + 1) := by simp
  have e2 : l.set k v = l.take k ++ v :: l.drop (k + 1) := by rw [List.set_eq_take_append_cons_drop, if_pos hk]
  rw [e2] at h
  have h' : sumL (l.take k ++ v :: l.drop (k + 1)) = sumL (l.take k ++ l[k] :: l.drop (k + 1)) := by rw [h, ← e1]
  simp only [sumL, List.foldl_append, List.foldl_cons] at h'
  exact hv (step_inj_c (fold_inj _ h')).symm
theorem pick_ok (c n : Int) (h : n ≠ 0) : pureT T c12 [.int .i64 c, .int .i64 n] = some (.int .i64 ((if c < 0 then IntKind.i64.wrap (0 - IntKind.i64.wrap (c + 1)) else c).tmod n)) := by
  apply pure_enter (by simp [c12])
  by_cases hc : c < 0
  · simp [c12, hc, h]
  · simp [c12, hc, h]
/-- Which of n things a raw number speaks of. -/
def pickN (c : Int) (n : Nat) : Nat := ((if c < 0 then -(c + 1) else c).toNat) % n
theorem call12 (c : Int) (n : Nat) (h : 0 < n) (h1 : -9223372036854775808 ≤ c) (h2 : c ≤ 9223372036854775807) (bs : Nat) (σ : Heap) :
    callT T 12 [.int .i64 c, .int .i64 (n : Int)] bs σ = some (.int .i64 (pickN c n : Int), σ) := by
  refine call_clean rfl rfl rfl rfl ?_
  rw [pick_ok c n (by omega)]
  congr 2
  by_cases hc : c < 0
  · rw [if_pos hc, wr64 (n := c + 1) (by omega) (by omega), wr64 (by omega) (by omega)]
    simp only [pickN, if_pos hc]
    have : (0 - (c + 1) : Int) = (((-(c + 1)).toNat : Nat) : Int) := by omega
    rw [this]; rfl
  · rw [if_neg hc]
    simp only [pickN, if_neg hc]
    have : c = ((c.toNat : Nat) : Int) := by omega
    rw [this, Int.toNat_natCast]; rfl
theorem pickN_lt {c : Int} {n : Nat} (h : 0 < n) : pickN c n < n := Nat.mod_lt _ h
theorem chunk_one : ∀ l : List AV, chunk 1 false l.length l = some l
  | [] => rfl
  | x :: l => by simp [chunk_one l]
theorem bytesA_ok (l : List UInt8) : bytesA (l.map fun b => AV.int .u8 (b.toNat : Int)) = some ⟨l.toArray⟩ := by
  have : (l.map fun b => AV.int .u8 (b.toNat : Int)).mapM ofU8 = some l := by
    induction l with
    | nil => rfl
    | cons b l ih =>
      rw [List.map_cons, List.mapM_cons, ih]
      simp [ofU8]
  unfold bytesA; rw [this]; rfl
theorem step64 (h : BitVec 32) (c : UInt8) : (IntKind.u64.wrap (IntKind.u64.wrap (xorI .u64 (h.toNat : Int) (IntKind.u64.wrap (c.toNat : Int))) * 16777619)).tmod 4294967296 = ((step h c).toNat : Int) := by
  have hc := c.toNat_lt
  have hh := h.isLt
  have hx := xor_lt (c := c.toNat) hh hc
  rw [wru64 (n := (c.toNat : Int)) (by omega) (by omega), xorI_nat .u64 (by simp; omega) (by simp; omega), wru64 (n := ((h.toNat ^^^ c.toNat : Nat) : Int)) (by omega) (by omega)]
  have e : (((h.toNat ^^^ c.toNat : Nat) : Int) * 16777619) = (((h.toNat ^^^ c.toNat) * 16777619 : Nat) : Int) := by omega
  rw [e, wru64 (by omega) (by omega), step_nat]
  rfl
theorem sum_append (s t : ByteArray) : sum (s ++ t) = t.data.toList.foldl step (sum s) := by
  simp [sum, sumL, ByteArray.data_append]
end Go.Proofs.Ytkempedphjopmaa
