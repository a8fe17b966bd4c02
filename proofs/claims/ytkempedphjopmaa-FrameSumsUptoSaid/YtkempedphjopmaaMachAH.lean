import Derived.Test.YtkempedphjopmaaMachAG
import Derived.Laws.Bits64
import Derived.Laws.BitsLemmas
set_option linter.unusedVariables false
set_option linter.unusedSimpArgs false
set_option linter.unnecessarySimpa false
namespace Go.Mach
open Go.RowKit

/-! ### Loops that count, and numbers in range -/
section
variable (T : Tab) (bs n : Nat)
theorem W_upto {c : ACode} {Q : AExit → FR → Heap → Prop} (N : Nat) (I : Nat → FR → Heap → Prop)
    (round : ∀ i f σ Q', i ≤ N → I i f σ → (∀ f' σ', i < N → I (i + 1) f' σ' → Q' .normal f' σ') → (∀ e f' σ', e ≠ .normal → Q e f' σ' → Q' e f' σ') → wpK T bs n [.code c] f σ Q') :
    ∀ f σ, I 0 f σ → W T bs n (.loop c) f σ Q := by
  intro f σ h0
  have key : ∀ k i f σ, N - i = k → i ≤ N → I i f σ → W T bs n (.loop c) f σ Q := by
    intro k
    induction k with
    | zero =>
      intro i f σ hk hi hI
      obtain ⟨e, f1, σ1, hr, hq⟩ := wpC_sound T bs n (round i f σ (fun e f' σ' => e ≠ .normal ∧ Q e f' σ') hi hI (fun f' σ' h => by omega) (fun e f' σ' h1 h2 => ⟨h1, h2⟩))
      refine ⟨e, f1, σ1, ?_, hq.2⟩
      rw [execT_loop, hr]
      cases e with
      | normal => exact absurd rfl hq.1
      | exit id => rfl
      | ret => rfl
    | succ k ih =>
      intro i f σ hk hi hI
      obtain ⟨e, f1, σ1, hr, hq⟩ := wpC_sound T bs n (round i f σ (fun e f' σ' => (e = .normal ∧ I (i + 1) f' σ') ∨ (e ≠ .normal ∧ Q e f' σ')) hi hI (fun f' σ' h hI' => .inl ⟨rfl, hI'⟩) (fun e f' σ' h1 h2 => .inr ⟨h1, h2⟩))
      rcases hq with ⟨rfl, hI1⟩ | ⟨hne, hq⟩
      · obtain ⟨e2, f2, σ2, hr2, hq2⟩ := ih (i + 1) f1 σ1 (by omega) (by omega) hI1
        exact ⟨e2, f2, σ2, by rw [execT_loop, hr]; exact hr2, hq2⟩
      · refine ⟨e, f1, σ1, ?_, hq⟩
        rw [execT_loop, hr]
        cases e with
        | normal => exact absurd rfl hne
        | exit id => rfl
        | ret => rfl
  exact key N 0 f σ (by omega) (Nat.zero_le _) h0
end
theorem wr64 {n : Int} (h : -9223372036854775808 ≤ n) (h2 : n ≤ 9223372036854775807) : IntKind.i64.wrap n = n := by rw [IntKind.wrap_i64]; omega
theorem wru32 {n : Int} (h : 0 ≤ n) (h2 : n < 4294967296) : IntKind.u32.wrap n = n := by rw [IntKind.wrap_u32]; omega
theorem wru64 {n : Int} (h : 0 ≤ n) (h2 : n < 18446744073709551616) : IntKind.u64.wrap n = n := by rw [IntKind.wrap_u64]; omega
theorem wru8 {n : Int} (h : 0 ≤ n) (h2 : n < 256) : IntKind.u8.wrap n = n := by rw [IntKind.wrap_u8]; omega
theorem wru32_mod (n : Nat) : IntKind.u32.wrap (n : Int) = ((n % 4294967296 : Nat) : Int) := by
  rw [IntKind.wrap_u32]; omega
theorem wru8_mod (n : Nat) : IntKind.u8.wrap (n : Int) = ((n % 256 : Nat) : Int) := by
  rw [IntKind.wrap_u8]; omega
@[simp] theorem bits64 : IntKind.i64.bits = 64 := rfl
@[simp] theorem bitsu32 : IntKind.u32.bits = 32 := rfl
@[simp] theorem bitsu64 : IntKind.u64.bits = 64 := rfl
@[simp] theorem bitsu8 : IntKind.u8.bits = 8 := rfl
theorem u8s_getE {s : ByteArray} {i : Nat} (h : i < s.size) : (u8s s)[i]? = some (.int .u8 ((s.data.toList[i]'(by simpa using h)).toNat : Int)) := by
  simp only [u8s, List.getElem?_map]
  rw [List.getElem?_eq_getElem (by simpa using h)]; rfl
theorem u8s_len (s : ByteArray) : (u8s s).length = s.size := by simp [u8s]
/-- An evaluation that the kernel carries out, told of every heap. -/
theorem callT_of_eval {T : Tab} {k f : Nat} {args : List AV} {v : AV} (h : evalFn T k f args 0 [] = some (v, [])) : callT T f args 0 [] = some (v, []) := lim_eq (evalFn_M ..) h
theorem pureT_of_call {T : Tab} {f : Nat} {af : AFunc} {args : List AV} {v : AV} (hp : T.pr f = none) (hf : T.fn f = some af) (hm : af.mode = .pure) (hc : args.all AV.clean = true) (h : callT T f args 0 [] = some (v, [])) : pureT T af args = some v := by
  rw [callT_pure T 0 [] hp hf hm, (clean_closeT hc).1] at h
  simp only [Option.bind_some, if_pos (clean_closeT (σ := []) hc).2] at h
  obtain ⟨u, hu, e⟩ := Option.map_eq_some_iff.1 h
  injection e with e1 e2; subst e1; exact hu
end Go.Mach
