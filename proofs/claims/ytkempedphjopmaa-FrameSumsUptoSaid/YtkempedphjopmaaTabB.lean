import Derived.Test.YtkempedphjopmaaTabA
import Derived.Test.YtkempedphjopmaaPrimA
import Derived.Test.YtkempedphjopmaaMachAH
set_option linter.unusedVariables false
set_option linter.unusedSimpArgs false
set_option linter.unnecessarySimpa false
namespace Go.Proofs.Ytkempedphjopmaa
open Go.Mach

/-! ### The table -/
def T : Tab := ⟨fun f => (fns.find? (·.1 == f)).map (·.2), fun f => if f = 73 then some cmpP else none⟩
theorem T_ok : TabOK Try.prog T where
  mixed := by kernel_rfl
  fn f af h := by
    obtain ⟨p, hp, rfl⟩ := Option.map_eq_some_iff.1 h
    have h1 := List.find?_some hp
    have h2 := fns_ok p (List.mem_of_find?_eq_some hp)
    have : p.1 = f := by simpa using h1
    rw [← this]; exact h2
  pr f p h := by
    simp only [T] at h
    split at h
    · rename_i e; injection h with h; subst h; rw [e]; exact cmp_ok
    · cases h
theorem awake_ev : evalFn T 100 10 [] 0 [] = some (.bool true, []) := by kernel_rfl
theorem awake_ok : pureT T c10 [] = some (.bool true) := pureT_of_call rfl rfl rfl rfl (callT_of_eval awake_ev)
theorem call10 (bs : Nat) (σ : Heap) : callT T 10 [] bs σ = some (.bool true, σ) := call_clean rfl rfl rfl rfl awake_ok

end Go.Proofs.Ytkempedphjopmaa
