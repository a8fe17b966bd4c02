/- FrameTells: sums, batches and bytes are as the document says. For all batches, texts, raw facts, values, numbers and bytes whose bulk is at most 1048576. -/
import Derived.Test.YtkempedphjopmaaC5
import Derived.Test.YtkempedphjopmaaC6
set_option linter.unusedVariables false
set_option linter.unusedSimpArgs false
set_option linter.unnecessarySimpa false
namespace Go.Proofs.Ytkempedphjopmaa.frameTells
open Go.Mach Go.RowKit

theorem own : ownKnob Try.prog.godebug = none := by kernel_rfl
theorem laidOut : laidOutB Try.prog = true := by kernel_rfl
theorem law (xs : List AV) (hl : xs.length = Try.f4.params.toList.length) (ht : ∀ (i : Nat) t x, Try.f4.params.toList[i]? = some t → xs[i]? = some x → TyA Try.prog t x) (hb : bulkAs xs ≤ 1048576) :
    ∃ σ', callT T 4 xs 0 [] = some (.bool true, σ') := by
  rw [Try.params4] at hl ht
  match xs, hl with
  | [x0, x1, x2, x3, x4, x5, x6], _ =>
    simp only [bulkAs] at hb
    obtain ⟨a0, rfl, h0⟩ := argFr tyFr (ht 0 _ x0 rfl rfl) (by omega)
    obtain ⟨a1, rfl, h1⟩ := argS tyV.str (ht 1 _ x1 rfl rfl) (by omega)
    obtain ⟨a2, rfl, h2⟩ := argF6 (ht 2 _ x2 rfl rfl) (by omega)
    obtain ⟨a3, rfl, h3⟩ := argV2 tyV (ht 3 _ x3 rfl rfl) (by omega)
    obtain ⟨a4, rfl, h4⟩ := argI tyV.int (ht 4 _ x4 rfl rfl) (by omega)
    obtain ⟨a5, rfl, h5⟩ := argI tyV.int (ht 5 _ x5 rfl rfl) (by omega)
    obtain ⟨a6, rfl, h6⟩ := argS tyV.str (ht 6 _ x6 rfl rfl) (by omega)
    exact ⟨_, call_clean rfl rfl rfl (by simp) (tells_law a0 h0 a1 h1 a2 h2 a3 h3.1.1 h3.2 a4 a5 h4 h5 a6 h6)⟩

set_option maxRecDepth 100000 in
theorem lifted (os : Os) (started : os.Started) (H : Type) (enc : TypeId × Value → H) (F : Stop.Interp) :
    ReturnsInHanded {} Try.checked os 4 .any ((Rows.OpenSpec.upto Rows.frameTellsSpec).pre6 enc Try.prog Try.f4 Rows.frameTellsUptoRow.domain false) (((Rows.OpenSpec.upto Rows.frameTellsSpec).at F).post enc Try.prog Try.f4 false true false false) := by
  refine returnsInHanded_of_cond (C := Try.checked) (s := (Rows.OpenSpec.upto Rows.frameTellsSpec)) (k := Rows.uptoSmall) rfl own started (by kernel_rfl) Try.func4
    (OpenSpec.witness (enc := enc) (C := Try.checked) (s := (Rows.OpenSpec.upto Rows.frameTellsSpec)) (k := Rows.uptoSmall) rfl false ⟨#[], #[.agg #[.string .empty, .string .empty, .int .i64 0, .int .i64 0, .slice none 0 0], .string .empty, .slice none 0 0, .slice none 0 0, .int .i64 0, .int .i64 0, .string .empty], []⟩ 8 (by kernel_rfl) (by kernel_rfl) (by kernel_rfl)
      (x := ([.agg [.lit (.string []), .lit (.string []), .lit (.int .i64 0), .lit (.int .i64 0), .nil], .lit (.string []), .nil, .nil, .lit (.int .i64 0), .lit (.int .i64 0), .lit (.string [])], [], [])) (by kernel_rfl) rfl (by kernel_rfl)) ?_
  intro W base args ds gs before hval hW _ hk _
  exact law_contract (S := [3, 9, 29, 31, 32, 33, 50, 52, 86, 88]) (spec := (Rows.OpenSpec.upto Rows.frameTellsSpec).at F) T_ok (by kernel_rfl) laidOut (by kernel_rfl) rfl Try.underlying4 rfl
    (fun ds hd => by
      match ds, hd with
      | [d0, d1, d2, d3, d4, d5, d6], _ => rfl)
    law (fun _ h => by simp [pinned] at h) hval hW hk

theorem proved : Rows.FrameTellsUptoSaid :=
  OpenClaim.holds_of_cond 4 Try.f4 rfl rfl rfl rfl rfl rfl rfl ⟨rfl, rfl, rfl, rfl, rfl⟩ rfl rfl rfl rfl rfl (by kernel_rfl) Try.func4 (by kernel_rfl)
    (of_decide_eq_true (by kernel_rfl)) (by unfold Func.isWrapper; first | (rw [if_pos (by decide +kernel)]; kernel_rfl) | (rw [if_neg (by decide +kernel)]; exact ⟨rfl, rfl⟩))
    (fun os started H enc _ F => lifted os started H enc F)
end Go.Proofs.Ytkempedphjopmaa.frameTells
