/- FrameRefuses: a batch to its own node, or with a row of another place, is not laid. For all raw facts and numbers whose bulk is at most 1048576. -/
import Derived.Test.YtkempedphjopmaaC5
import Derived.Test.YtkempedphjopmaaC6
set_option linter.unusedVariables false
set_option linter.unusedSimpArgs false
set_option linter.unnecessarySimpa false
namespace Go.Proofs.Ytkempedphjopmaa.frameRefuses
open Go.Mach Go.RowKit

theorem own : ownKnob Try.prog.godebug = none := by kernel_rfl
theorem laidOut : laidOutB Try.prog = true := by kernel_rfl
theorem law (xs : List AV) (hl : xs.length = Try.f9.params.toList.length) (ht : ∀ (i : Nat) t x, Try.f9.params.toList[i]? = some t → xs[i]? = some x → TyA Try.prog t x) (hb : bulkAs xs ≤ 1048576) :
    xs.all AV.clean = true ∧ pureT T ⟨Try.f9.ntmps, [.tmp 4], w9 (swap2 q9), .pure, true, true⟩ xs = some (.bool true) ∧ pureT T ⟨Try.f9.ntmps, [.tmp 4], w9 q9, .pure, true, true⟩ xs = some (.bool true) := by
  rw [Try.params9] at hl ht
  rw [w9_nt]
  match xs, hl with
  | [x0, x1], _ =>
    simp only [bulkAs] at hb
    obtain ⟨a0, rfl, h0⟩ := argF6 (ht 0 _ x0 rfl rfl) (by omega)
    obtain ⟨a1, rfl, h1⟩ := argI tyV.int (ht 1 _ x1 rfl rfl) (by omega)
    exact ⟨by simp, refuses_law (swap2 q9) (.inr rfl) a0 h0 a1 h1, refuses_law q9 (.inl rfl) a0 h0 a1 h1⟩

set_option maxRecDepth 100000 in
theorem lifted (os : Os) (started : os.Started) (H : Type) (enc : TypeId × Value → H) (F : Stop.Interp) :
    ReturnsInHanded {} Try.checked os 9 .any ((Rows.OpenSpec.upto Rows.frameRefusesSpec).pre6 enc Try.prog Try.f9 Rows.frameRefusesUptoRow.domain false) (((Rows.OpenSpec.upto Rows.frameRefusesSpec).at F).post enc Try.prog Try.f9 false true false false) := by
  refine returnsInHanded_of_cond (C := Try.checked) (s := (Rows.OpenSpec.upto Rows.frameRefusesSpec)) (k := Rows.uptoSmall) rfl own started (by kernel_rfl) Try.func9
    (OpenSpec.witness (enc := enc) (C := Try.checked) (s := (Rows.OpenSpec.upto Rows.frameRefusesSpec)) (k := Rows.uptoSmall) rfl false ⟨#[], #[.slice none 0 0, .int .i64 0], []⟩ 8 (by kernel_rfl) (by kernel_rfl) (by kernel_rfl)
      (x := ([.nil, .lit (.int .i64 0)], [], [])) (by kernel_rfl) rfl (by kernel_rfl)) ?_
  intro W base args ds gs before hval hW _ hk _
  obtain ⟨c, hbody, hc⟩ := Option.bind_eq_some_iff.1 w9_ok
  exact law_two (S := [3, 32, 86, 88]) (spec := (Rows.OpenSpec.upto Rows.frameRefusesSpec).at F) T_ok (by kernel_rfl) laidOut Try.func9 hbody hc w9_res (by kernel_rfl) rfl Try.underlying4 rfl
    (fun ds hd => by
      match ds, hd with
      | [d0, d1], _ => rfl)
    law (fun _ h => by simp [pinned] at h) hval hW hk

theorem proved : Rows.FrameRefusesUptoSaid :=
  OpenClaim.holds_of_cond 9 Try.f9 rfl rfl rfl rfl rfl rfl rfl ⟨rfl, rfl, rfl, rfl, rfl⟩ rfl rfl rfl rfl rfl (by kernel_rfl) Try.func9 (by kernel_rfl)
    (of_decide_eq_true (by kernel_rfl)) (by unfold Func.isWrapper; first | (rw [if_pos (by decide +kernel)]; kernel_rfl) | (rw [if_neg (by decide +kernel)]; exact ⟨rfl, rfl⟩))
    (fun os started H enc _ F => lifted os started H enc F)
end Go.Proofs.Ytkempedphjopmaa.frameRefuses
