/- For every two texts, every number and every byte: FrameSums returns true, where what it reads is of bulk at most 1048576. -/
import Derived.Test.YtkempedphjopmaaSumsD
set_option linter.unusedVariables false
set_option linter.unusedSimpArgs false
set_option linter.unnecessarySimpa false
namespace Go.Proofs.Ytkempedphjopmaa.frameSums
open Go.Mach Go.RowKit

theorem own : ownKnob Try.prog.godebug = none := by kernel_rfl
theorem laidOut : laidOutB Try.prog = true := by kernel_rfl
theorem law (xs : List AV) (hl : xs.length = Try.f3.params.toList.length) (ht : ∀ (i : Nat) t x, Try.f3.params.toList[i]? = some t → xs[i]? = some x → TyA Try.prog t x) (hb : bulkAs xs ≤ 1048576) :
    ∃ σ', callT T 3 xs 0 [] = some (.bool true, σ') := by
  rw [Try.params3] at hl ht
  match xs, hl with
  | [x0, x1, x2, x3], _ =>
    obtain ⟨s, rfl⟩ := (ht 0 _ x0 rfl rfl).asStr Try.underlying9
    obtain ⟨more, rfl⟩ := (ht 1 _ x1 rfl rfl).asStr Try.underlying9
    obtain ⟨a, rfl, a1, a2⟩ := (ht 2 _ x2 rfl rfl).asInt Try.underlying3
    obtain ⟨c, rfl, c1, c2⟩ := (ht 3 _ x3 rfl rfl).asInt Try.underlying5
    simp only [bulkAs, bulkA] at hb
    have e1 : IntKind.i64.min = -9223372036854775808 := by decide
    have e2 : IntKind.i64.max = 9223372036854775807 := by decide
    have e3 : IntKind.u8.min = 0 := by decide
    have e4 : IntKind.u8.max = 255 := by decide
    rw [e1] at a1; rw [e2] at a2; rw [e3] at c1; rw [e4] at c2
    exact ⟨_, call_clean rfl rfl rfl rfl (sums_law s more a c (by omega) a1 a2 c1 (by omega))⟩

set_option maxRecDepth 100000 in
theorem lifted (os : Os) (started : os.Started) (H : Type) (enc : TypeId × Value → H) (F : Stop.Interp) :
    ReturnsInHanded {} Try.checked os 3 .any ((Rows.OpenSpec.upto Rows.frameSumsSpec).pre6 enc Try.prog Try.f3 Rows.frameSumsUptoRow.domain false) (((Rows.OpenSpec.upto Rows.frameSumsSpec).at F).post enc Try.prog Try.f3 false true false false) := by
  refine returnsInHanded_of_cond (C := Try.checked) (s := Rows.OpenSpec.upto Rows.frameSumsSpec) (k := Rows.uptoSmall) rfl own started (by kernel_rfl) Try.func3
    (OpenSpec.witness (enc := enc) (C := Try.checked) (s := Rows.OpenSpec.upto Rows.frameSumsSpec) (k := Rows.uptoSmall) rfl false ⟨#[], #[.string .empty, .string .empty, .int .i64 0, .int .u8 0], []⟩ 8 (by kernel_rfl) (by kernel_rfl) (by kernel_rfl)
      (x := ([.lit (.string []), .lit (.string []), .lit (.int .i64 0), .lit (.int .u8 0)], [], [])) (by kernel_rfl) rfl (by kernel_rfl)) ?_
  intro W base args ds gs before hval hW _ hk _
  exact law_contract (S := [3, 5, 9]) (spec := (Rows.OpenSpec.upto Rows.frameSumsSpec).at F) T_ok (by kernel_rfl) laidOut (by kernel_rfl) rfl Try.underlying4 rfl
    (fun ds hd => by
      match ds, hd with
      | [d0, d1, d2, d3], _ => rfl)
    law hval hW hk

theorem proved : Rows.FrameSumsUptoSaid :=
  OpenClaim.holds_of_cond 3 Try.f3 rfl rfl rfl rfl rfl rfl rfl ⟨rfl, rfl, rfl, rfl, rfl⟩ rfl rfl rfl rfl rfl (by kernel_rfl) Try.func3 (by kernel_rfl)
    (of_decide_eq_true (by kernel_rfl)) (by unfold Func.isWrapper; first | (rw [if_pos (by decide +kernel)]; kernel_rfl) | (rw [if_neg (by decide +kernel)]; exact ⟨rfl, rfl⟩))
    (fun os started H enc _ F => lifted os started H enc F)
end Go.Proofs.Ytkempedphjopmaa.frameSums
