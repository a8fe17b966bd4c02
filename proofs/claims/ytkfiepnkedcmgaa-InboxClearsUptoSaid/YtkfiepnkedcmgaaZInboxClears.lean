/- InboxClears: what is forgotten leaves batches' starts and numbers as they were. For all raw batches and numbers whose bulk is at most 1048576. -/
import Derived.Test.YtkfiepnkedcmgaaC5
import Derived.Test.YtkfiepnkedcmgaaC6
set_option linter.unusedVariables false
set_option linter.unusedSimpArgs false
set_option linter.unnecessarySimpa false
namespace Go.Proofs.Ytkfiepnkedcmgaa.inboxClears
open Go.Mach Go.RowKit

theorem own : ownKnob Try.prog.godebug = none := by kernel_rfl
theorem laidOut : laidOutB Try.prog = true := by kernel_rfl
theorem law (xs : List AV) (hl : xs.length = Try.f7.params.toList.length) (ht : ∀ (i : Nat) t x, Try.f7.params.toList[i]? = some t → xs[i]? = some x → TyA Try.prog t x) (hb : bulkAs xs ≤ 1048576) :
    ∃ σ', callT T16x 7 xs 0 [] = some (.bool true, σ') := by
  rw [Try.params7] at hl ht
  match xs, hl with
  | [x0, x1], _ =>
    simp only [bulkAs] at hb
    obtain ⟨a0, rfl, h0⟩ := argX (ht 0 _ x0 rfl rfl) (by omega)
    obtain ⟨a1, rfl, h1⟩ := argI tyV.int (ht 1 _ x1 rfl rfl) (by omega)
    exact ⟨_, call_clean rfl rfl rfl (by simp) (clears_law a0 h0 a1 h1)⟩

set_option maxRecDepth 100000 in
theorem lifted (os : Os) (started : os.Started) (H : Type) (enc : TypeId × Value → H) (F : Stop.Interp) :
    ReturnsInHanded {} Try.checked os 7 .any ((Rows.OpenSpec.upto Rows.inboxClearsSpec).pre6 enc Try.prog Try.f7 Rows.inboxClearsUptoRow.domain false) (((Rows.OpenSpec.upto Rows.inboxClearsSpec).at F).post enc Try.prog Try.f7 false true false false) := by
  refine returnsInHanded_of_cond (C := Try.checked) (s := (Rows.OpenSpec.upto Rows.inboxClearsSpec)) (k := Rows.uptoSmall) rfl own started (by kernel_rfl) Try.func7
    (OpenSpec.witness (enc := enc) (C := Try.checked) (s := (Rows.OpenSpec.upto Rows.inboxClearsSpec)) (k := Rows.uptoSmall) rfl false ⟨#[], #[.slice none 0 0, .int .i64 0], []⟩ 8 (by kernel_rfl) (by kernel_rfl) (by kernel_rfl)
      (x := ([.nil, .lit (.int .i64 0)], [], [])) (by kernel_rfl) rfl (by kernel_rfl)) ?_
  intro W base args ds gs before hval hW _ hk _
  exact law_contract (S := [3, 22, 31, 33, 93, 95]) (spec := (Rows.OpenSpec.upto Rows.inboxClearsSpec).at F) T16x_ok (by kernel_rfl) laidOut (by kernel_rfl) rfl Try.underlying4 rfl
    (fun ds hd => by
      match ds, hd with
      | [d0, d1], _ => rfl)
    law (fun _ h => by simp [pinned] at h) hval hW hk

theorem proved : Rows.InboxClearsUptoSaid :=
  OpenClaim.holds_of_cond 7 Try.f7 rfl rfl rfl rfl rfl rfl rfl ⟨rfl, rfl, rfl, rfl, rfl⟩ rfl rfl rfl rfl rfl (by kernel_rfl) Try.func7 (by kernel_rfl)
    (of_decide_eq_true (by kernel_rfl)) (by unfold Func.isWrapper; first | (rw [if_pos (by decide +kernel)]; kernel_rfl) | (rw [if_neg (by decide +kernel)]; exact ⟨rfl, rfl⟩))
    (fun os started H enc _ F => lifted os started H enc F)
end Go.Proofs.Ytkfiepnkedcmgaa.inboxClears
