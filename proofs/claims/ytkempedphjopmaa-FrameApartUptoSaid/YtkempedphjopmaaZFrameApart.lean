/- FrameApart: unlike batches have unlike bytes. For all raw facts and numbers whose bulk is at most 1048576. -/
import Derived.Test.YtkempedphjopmaaC5
import Derived.Test.YtkempedphjopmaaC6
set_option linter.unusedVariables false
set_option linter.unusedSimpArgs false
set_option linter.unnecessarySimpa false
namespace Go.Proofs.Ytkempedphjopmaa.frameApart
open Go.Mach Go.RowKit

theorem own : ownKnob Try.prog.godebug = none := by kernel_rfl
theorem laidOut : laidOutB Try.prog = true := by kernel_rfl
theorem law (xs : List AV) (hl : xs.length = Try.f8.params.toList.length) (ht : ∀ (i : Nat) t x, Try.f8.params.toList[i]? = some t → xs[i]? = some x → TyA Try.prog t x) (hb : bulkAs xs ≤ 1048576) :
    ∃ σ', callT T 8 xs 0 [] = some (.bool true, σ') := by
  rw [Try.params8] at hl ht
  match xs, hl with
  | [x0, x1, x2, x3], _ =>
    simp only [bulkAs] at hb
    obtain ⟨a0, rfl, h0⟩ := argF6 (ht 0 _ x0 rfl rfl) (by omega)
    obtain ⟨a1, rfl, h1⟩ := argF6 (ht 1 _ x1 rfl rfl) (by omega)
    obtain ⟨a2, rfl, h2⟩ := argP2 (by kernel_rfl) tyV.int (ht 2 _ x2 rfl rfl) (by omega)
    obtain ⟨a3, rfl, h3⟩ := argP2 (by kernel_rfl) tyV.int (ht 3 _ x3 rfl rfl) (by omega)
    exact ⟨_, call_clean rfl rfl rfl (by simp) (apart_law a0 a1 h0 h1 a2.1 a2.2 a3.1 a3.2 h2.1 h2.2 h3.1 h3.2)⟩

set_option maxRecDepth 100000 in
theorem lifted (os : Os) (started : os.Started) (H : Type) (enc : TypeId × Value → H) (F : Stop.Interp) :
    ReturnsInHanded {} Try.checked os 8 .any ((Rows.OpenSpec.upto Rows.frameApartSpec).pre6 enc Try.prog Try.f8 Rows.frameApartUptoRow.domain false) (((Rows.OpenSpec.upto Rows.frameApartSpec).at F).post enc Try.prog Try.f8 false true false false) := by
  refine returnsInHanded_of_cond (C := Try.checked) (s := (Rows.OpenSpec.upto Rows.frameApartSpec)) (k := Rows.uptoSmall) rfl own started (by kernel_rfl) Try.func8
    (OpenSpec.witness (enc := enc) (C := Try.checked) (s := (Rows.OpenSpec.upto Rows.frameApartSpec)) (k := Rows.uptoSmall) rfl false ⟨#[], #[.slice none 0 0, .slice none 0 0, .agg #[.int .i64 0, .int .i64 0], .agg #[.int .i64 0, .int .i64 0]], []⟩ 8 (by kernel_rfl) (by kernel_rfl) (by kernel_rfl)
      (x := ([.nil, .nil, .agg [.lit (.int .i64 0), .lit (.int .i64 0)], .agg [.lit (.int .i64 0), .lit (.int .i64 0)]], [], [])) (by kernel_rfl) rfl (by kernel_rfl)) ?_
  intro W base args ds gs before hval hW _ hk _
  exact law_contract (S := [3, 32, 47, 86, 88]) (spec := (Rows.OpenSpec.upto Rows.frameApartSpec).at F) T_ok (by kernel_rfl) laidOut (by kernel_rfl) rfl Try.underlying4 rfl
    (fun ds hd => by
      match ds, hd with
      | [d0, d1, d2, d3], _ => rfl)
    law (fun _ h => by simp [pinned] at h) hval hW hk

theorem proved : Rows.FrameApartUptoSaid :=
  OpenClaim.holds_of_cond 8 Try.f8 rfl rfl rfl rfl rfl rfl rfl ⟨rfl, rfl, rfl, rfl, rfl⟩ rfl rfl rfl rfl rfl (by kernel_rfl) Try.func8 (by kernel_rfl)
    (of_decide_eq_true (by kernel_rfl)) (by unfold Func.isWrapper; first | (rw [if_pos (by decide +kernel)]; kernel_rfl) | (rw [if_neg (by decide +kernel)]; exact ⟨rfl, rfl⟩))
    (fun os started H enc _ F => lifted os started H enc F)
end Go.Proofs.Ytkempedphjopmaa.frameApart
