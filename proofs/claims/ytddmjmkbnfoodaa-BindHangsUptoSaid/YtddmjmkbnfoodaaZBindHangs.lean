/- BindHangs: Eval hangs on a term's variables alone: other binds behind, or ahead of other names, change nothing. For all raw terms, binds and values. -/
import Derived.Test.YtddmjmkbnfoodaaC6
import Derived.Test.YtddmjmkbnfoodaaC7
set_option linter.unusedVariables false
set_option linter.unusedSimpArgs false
set_option linter.unnecessarySimpa false
namespace Go.Proofs.Ytddmjmkbnfoodaa.bindHangs
open Go.Mach Go.RowKit

theorem own : ownKnob Try.prog.godebug = none := by kernel_rfl
theorem laidOut : laidOutB Try.prog = true := by kernel_rfl
theorem law (xs : List AV) (hl : xs.length = Try.f3.params.toList.length) (ht : ∀ (i : Nat) t x, Try.f3.params.toList[i]? = some t → xs[i]? = some x → TyA Try.prog t x) (hb : bulkAs xs ≤ 1048576) :
    ∃ σ', callT T 3 xs 0 [] = some (.bool true, σ') := by
  rw [Try.params3] at hl ht
  match xs, hl with
  | [x0, x1, x2], _ =>
    simp only [bulkAs] at hb
    obtain ⟨a0, rfl, h0⟩ := arg1T tyT (ht 0 _ x0 rfl rfl) (by omega)
    obtain ⟨a1, rfl, h1⟩ := argB tyB (ht 1 _ x1 rfl rfl) (by omega)
    obtain ⟨a2, rfl, h2⟩ := arg1V tyV (ht 2 _ x2 rfl rfl) (by omega)
    exact ⟨_, call_clean rfl rfl rfl (by simp) (bindHangs_ok a0 a1 a2 h0 h1 h2)⟩

set_option maxRecDepth 100000 in
theorem lifted (os : Os) (started : os.Started) (H : Type) (enc : TypeId × Value → H) (F : Stop.Interp) :
    ReturnsInHanded {} Try.checked os 3 .any ((Rows.OpenSpec.upto Rows.bindHangsSpec).pre6 enc Try.prog Try.f3 Rows.bindHangsUptoRow.domain false) (((Rows.OpenSpec.upto Rows.bindHangsSpec).at F).post enc Try.prog Try.f3 false true false false) := by
  refine returnsInHanded_of_cond (C := Try.checked) (s := (Rows.OpenSpec.upto Rows.bindHangsSpec)) (k := Rows.uptoSmall) rfl own started (by kernel_rfl) Try.func3
    (OpenSpec.witness (enc := enc) (C := Try.checked) (s := (Rows.OpenSpec.upto Rows.bindHangsSpec)) (k := Rows.uptoSmall) rfl false ⟨#[], #[.agg #[.int .i64 0, .string .empty, .int .i64 0, .int .i64 0, .string .empty, .slice none 0 0, .slice none 0 0], .slice none 0 0, .agg #[.int .i64 0, .int .i64 0, .string .empty, .slice none 0 0]], []⟩ 8 (by kernel_rfl) (by kernel_rfl) (by kernel_rfl)
      (x := ([.agg [.lit (.int .i64 0), .lit (.string []), .agg [.lit (.int .i64 0), .lit (.int .i64 0), .lit (.string []), .nil], .nil], .nil, .agg [.lit (.int .i64 0), .lit (.int .i64 0), .lit (.string []), .nil]], [], [])) (by kernel_rfl) rfl (by kernel_rfl)) ?_
  intro W base args ds gs before hval hW _ hk _
  exact law_contract (S := [3, 9, 22, 24, 25, 27, 28, 35]) (spec := (Rows.OpenSpec.upto Rows.bindHangsSpec).at F) T_ok (by kernel_rfl) laidOut (by kernel_rfl) rfl Try.underlying4 rfl
    (fun ds hd => by
      match ds, hd with
      | [d0, d1, d2], _ => rfl)
    law (fun _ h => by simp [pinned] at h) hval hW hk

theorem proved : Rows.BindHangsUptoSaid :=
  OpenClaim.holds_of_cond 3 Try.f3 rfl rfl rfl rfl rfl rfl rfl ⟨rfl, rfl, rfl, rfl, rfl⟩ rfl rfl rfl rfl rfl (by kernel_rfl) Try.func3 (by kernel_rfl)
    (of_decide_eq_true (by kernel_rfl)) (by unfold Func.isWrapper; first | (rw [if_pos (by decide +kernel)]; kernel_rfl) | (rw [if_neg (by decide +kernel)]; exact ⟨rfl, rfl⟩))
    (fun os started H enc _ F => lifted os started H enc F)
end Go.Proofs.Ytddmjmkbnfoodaa.bindHangs
