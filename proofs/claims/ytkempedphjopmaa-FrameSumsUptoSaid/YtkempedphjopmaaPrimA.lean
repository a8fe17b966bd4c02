import Derived.Test.YtkempedphjopmaaChecked
import Derived.Test.YtkempedphjopmaaMachAE
import Derived.KernelRfl
import Derived.WalkKit
import Derived.Lib.Bytealg
set_option linter.unusedVariables false
set_option linter.unusedSimpArgs false
set_option linter.unnecessarySimpa false
namespace Go.Proofs.Ytkempedphjopmaa
open Go.RowKit Go.Mach

set_option maxHeartbeats 1000000 in
/-- internal/bytealg.CompareString. -/
theorem cmp_calls (a b : ByteArray) (w : World) :
    Calls Try.prog 73 #[.string a, .string b] w fun e w' => e = .returned (.int .i64 (Lib.compareBytes a.data.toList b.data.toList)) ∧ w' = w := by
  go_enter Try.func73, Try.ntmps73
  go_wp2
  rw [run_callFunc_extern Try.func81 (by kernel_rfl) (by kernel_rfl) (by kernel_rfl) (e := Extern.BytealgCompare.compare) (by kernel_rfl), Lib.run_compareString]
  simp only [Result.andThen]
  rw [Oper.upon_value]
  go_wp2
  go_ret
  exact ⟨rfl, rfl⟩
def cmpP (args : List AV) (_ : Nat) (σ : Heap) : Option (AV × Heap) := match args with
  | [.str a, .str b] => some (.int .i64 (Lib.compareBytes a.data.toList b.data.toList), σ)
  | _ => none
theorem cmp_ok : PrimOK Try.prog 73 cmpP := by
  intro args bs σ v σ' h hbs
  unfold cmpP at h
  split at h
  · rename_i a b
    injection h with h; injection h with e1 e2; subst e1 e2
    refine ⟨⟨_, Try.func73, by kernel_rfl, by kernel_rfl⟩, fun g ow w cargs hH hA => ?_⟩
    have hc : cargs = #[.string a, .string b] := by
      have h0 := hA.len
      have h1 : cargs.toList = [.string a, .string b] := by
        match hcl : cargs.toList, (show cargs.toList.length = 2 by simpa using h0.symm) with
        | [x, y], _ =>
          have hx := hA.val 0 _ x rfl (by rw [← Array.getElem?_toList, hcl]; rfl)
          have hy := hA.val 1 _ y rfl (by rw [← Array.getElem?_toList, hcl]; rfl)
          rw [hx.strv, hy.strv]
      rw [← Array.toArray_toList (xs := cargs), h1]
    subst hc
    refine (cmp_calls a b w).mono ?_
    rintro e w' ⟨rfl, rfl⟩
    exact ⟨_, g, ow, rfl, .int _ _, hH, .refl ..⟩
  · cases h
end Go.Proofs.Ytkempedphjopmaa
