import Derived.Test.YtkempedphjopmaaSumsC
set_option linter.unusedVariables false
set_option linter.unusedSimpArgs false
set_option linter.unnecessarySimpa false
namespace Go.Proofs.Ytkempedphjopmaa
open Go.Mach

theorem sums_law (s more : ByteArray) (at' c : Int) (hs : s.size + more.size ≤ 2097152) (a1 : -9223372036854775808 ≤ at') (a2 : at' ≤ 9223372036854775807) (c1 : 0 ≤ c) (c2 : c < 256) :
    pureT T c3 [.str s, .str more, .int .i64 at', .int .u8 c] = some (.bool true) := by
  apply pure_enter (by simp [c3])
  have hsum := (sum s).isLt
  simp [c3, call10, call11 s (by omega), wru64 (n := ((sum s).toNat : Int)) (by omega) (by omega)]
  refine W_upto T 0 68 more.size (fun i f σ => f 0 = .str s ∧ f 1 = .str more ∧ f 2 = .int .i64 at' ∧ f 3 = .int .u8 c ∧ f 9 = .bool true ∧ f 11 = .int .i64 (i : Int) ∧ f 10 = .int .u64 (((more.data.toList.take i).foldl step (sum s)).toNat : Int) ∧ σ = []) ?_ _ _ ?_
  · rintro i f σ Q' hi ⟨h0, h1, h2, h3, h9, h11, h10, rfl⟩ hn hx
    by_cases h : i < more.size
    · have hg : more.data[i]? = some more.data[i] := Array.getElem?_eq_getElem h
      simp [h1, h11, h10, h, hg]
      refine hn _ _ h ⟨by simp [h0], by simp [h1], by simp [h2], by simp [h3], by simp [h9], ?_, ?_, rfl⟩
      · simp; rw [wr64 (by omega) (by omega)]
      · simp
        rw [step64, List.take_add_one]
        simp [h]
    · have he : i = more.size := by omega
      subst he
      simp [h11, h1]
      refine hx _ _ _ (by simp) (contQ_exit T 0 68 ?_)
      have hfold : (more.data.toList.take more.size).foldl step (sum s) = sum (s ++ more) := by
        rw [List.take_of_length_le (by simp), sum_append]
      rw [hfold] at h10
      have hsz : (s ++ more).size = s.size + more.size := ByteArray.size_append
      have hle : (s.size : Int) + more.size ≤ 9223372036854775807 := by omega
      have hs2 := (sum (s ++ more)).isLt
      simp [h0, h1, h10, hle, call11 (s ++ more) (by omega), wru64 (n := ((sum (s ++ more)).toNat : Int)) (by omega) (by omega)]
      cases hb : s.toList.isEmpty with
      | true => simp [h9]
      | false =>
        have hpos : 0 < s.size := by
          rcases Nat.eq_zero_or_pos s.size with h | h
          · exfalso
            have : s = ⟨#[]⟩ := by
              cases s with
              | mk d => congr 1; exact Array.eq_empty_of_size_eq_zero h
            subst this
            exact absurd hb (by decide +kernel)
          · exact h
        have hk := pickN_lt (c := at') hpos
        generalize hkk : pickN at' s.size = k at hk
        have hw : window (u8s s) k 1 = some [.int .u8 ((s.data.toList[k]'(by simpa using hk)).toNat : Int)] := by
          unfold window
          rw [if_pos (by rw [u8s_len]; omega)]
          congr 1
          apply List.ext_getElem?
          intro j
          rw [List.getElem?_take, List.getElem?_drop]
          cases j with
          | zero => simpa using u8s_getE hk
          | succ j => simp
        obtain ⟨d, hd0, hd1, hd2⟩ : ∃ d : Nat, 1 ≤ d ∧ d ≤ 255 ∧ IntKind.u8.wrap (1 + c.tmod 255) = (d : Int) := by
          have hd : c.tmod 255 = ((c.toNat % 255 : Nat) : Int) := by
            have : c = ((c.toNat : Nat) : Int) := by omega
            rw [this]; rfl
          exact ⟨1 + c.toNat % 255, by omega, by omega, by rw [hd, wru8 (by omega) (by omega)]; omega⟩
        generalize hb0 : (s.data.toList[k]'(by simpa using hk)) = b0 at hw
        have hb0lt := b0.toNat_lt
        obtain ⟨b1, hne, hx3⟩ : ∃ b1 : UInt8, b0 ≠ b1 ∧ IntKind.u8.wrap (xorI .u8 (b0.toNat : Int) (d : Int)) = ((b1.toNat : Nat) : Int) := by
          have hx2 : b0.toNat ^^^ d < 256 := Nat.xor_lt_two_pow (n := 8) (by omega) (by omega)
          refine ⟨UInt8.ofNat (b0.toNat ^^^ d), fun e => ?_, ?_⟩
          · have h1 := congrArg UInt8.toNat e
            rw [UInt8.toNat_ofNat', Nat.mod_eq_of_lt hx2] at h1
            have h2 : b0.toNat ^^^ b0.toNat = b0.toNat ^^^ (b0.toNat ^^^ d) := by rw [← h1]
            rw [← Nat.xor_assoc, Nat.xor_self, Nat.zero_xor] at h2
            omega
          · rw [xorI_nat .u8 (by simp; omega) (by simp; omega), wru8 (by omega) (by omega), UInt8.toNat_ofNat', Nat.mod_eq_of_lt hx2]
        have hul := u8s_len s
        have hset : (u8s s).set k (.int .u8 (b1.toNat : Int)) = (s.data.toList.set k b1).map fun b => AV.int .u8 (b.toNat : Int) := by
          simp [u8s, List.map_set]
        have hwin : window ((s.data.toList.set k b1).map fun b => AV.int .u8 (b.toNat : Int)) 0 s.size = some ((s.data.toList.set k b1).map fun b => AV.int .u8 (b.toNat : Int)) := by
          unfold window
          rw [if_pos (by simp)]
          rw [List.drop_zero, List.take_of_length_le (by simp)]
        have hch : chunk 1 false s.size ((s.data.toList.set k b1).map fun b => AV.int .u8 (b.toNat : Int)) = some ((s.data.toList.set k b1).map fun b => AV.int .u8 (b.toNat : Int)) := by
          have := chunk_one ((s.data.toList.set k b1).map fun b => AV.int .u8 (b.toNat : Int))
          simpa using this
        have hb2s : b2sV [.cells ((s.data.toList.set k b1).map fun b => AV.int .u8 (b.toNat : Int)) 0 true] (.sl 0 0 s.size 1 false) = some (.str ⟨(s.data.toList.set k b1).toArray⟩) := by
          simp only [b2sV, isSl, elemsA, List.getElem?_cons_zero, Nat.mul_one, hwin, Option.bind_some, hch, bytesA_ok, Option.map_some]
          rfl
        have hb2s' : b2sV [.cells ((u8s s).set k (.int .u8 (b1.toNat : Int))) 0 true] (.sl 0 0 s.size 1 false) = some (.str ⟨(s.data.toList.set k b1).toArray⟩) := by rw [hset]; exact hb2s
        have hsz' : (ByteArray.mk (s.data.toList.set k b1).toArray).size = s.size := by
          show (s.data.toList.set k b1).toArray.size = s.size
          simp
        have hsum' : sum ⟨(s.data.toList.set k b1).toArray⟩ ≠ sum s := by
          have := sum_set (l := s.data.toList) (k := k) (v := b1) (by simpa using hk) (by rw [hb0]; exact hne)
          simpa [sum] using this
        have hnn : (((sum ⟨(s.data.toList.set k b1).toArray⟩).toNat : Int) != ((sum s).toNat : Int)) = true := by
          rw [bne_iff_ne]; intro e; exact hsum' (BitVec.eq_of_toNat_eq (by omega))
        simp [h0, h2, h3, h9, call12 at' s.size hpos a1 a2, hkk, hk, hw, hd2, hx3, hul, show k + 1 ≤ s.size by omega, hb2s', call11 ⟨(s.data.toList.set k b1).toArray⟩ (by omega), call11 s (by omega), hnn]
  · simp
end Go.Proofs.Ytkempedphjopmaa
