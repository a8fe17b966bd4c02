/- BuiltinSizes: f_cons and f_append make a list longer by one, f_rest shorter. -/
import Derived.Test.YtamapcjhinalfaaDoorCards
import Derived.Test.YtamapcjhinalfaaDoorTie
import Derived.Test.YtamapcjhinalfaaDoorC5
import Derived.Test.YtamapcjhinalfaaDoorC6
import Derived.WalkKit
import Derived.ProofKit
import Derived.OpenShut
import Derived.Deep.DeepHandedRow
import Derived.Lib.LaidTab
set_option linter.unusedVariables false
set_option linter.unusedSimpArgs false
set_option linter.unnecessarySimpa false
namespace Go.Proofs.YtamapcjhinalfaaDoor.builtinSizes
open Go.ChangeShapes Go.WideShapes Go.ChangeAt Go.Mach Go.RowKit

theorem own : ownKnob Tryd.prog.godebug = none := by kernel_rfl
theorem laidOut : laidOutB Tryd.prog = true := by kernel_rfl
theorem law (xs : List AV) (hl : xs.length = Tryd.f9.params.toList.length) (ht : ∀ (i : Nat) t x, Tryd.f9.params.toList[i]? = some t → xs[i]? = some x → TyA Tryd.prog t x) (hb : bulkAs xs ≤ 1048576) :
    ∃ σ', callT T 9 xs 0 [] = some (.bool true, σ') := by
  rw [Tryd.params9] at hl ht
  match xs, hl with
  | [x0, x1], _ =>
    simp only [bulkAs] at hb
    obtain ⟨a0, rfl, h0⟩ := argV tyV (ht 0 _ x0 rfl rfl) (by omega)
    obtain ⟨a1, rfl, h1⟩ := arg1V tyV (ht 1 _ x1 rfl rfl) (by omega)
    exact ⟨_, call_clean rfl rfl rfl (by simp) (sizes_ok a0 a1 h0 h1.1 h1.2)⟩

theorem laid_met (os : Os) : laidMet Tryd.prog Rows.builtinSizesUptoRow.laid ((laidWorld os).forCall (fun _ _ => 0) ⟨#[], #[.slice none 0 0, .agg #[.int .i64 0, .int .i64 0, .string .empty, .slice none 0 0]], []⟩).memory :=
  laidMet_of_run' 8 (by kernel_rfl) (by kernel_rfl)
theorem reads (os : Os) {H : Type} (enc : TypeId × Value → H) : ∃ places, DataW.whole enc Tryd.prog ((laidWorld os).forCall (fun _ _ => 0) ⟨#[], #[.slice none 0 0, .agg #[.int .i64 0, .int .i64 0, .string .empty, .slice none 0 0]], []⟩).memory Tryd.f9.params.toList Rows.builtinSizesSpec.vars false #[.slice none 0 0, .agg #[.int .i64 0, .int .i64 0, .string .empty, .slice none 0 0]].toList 8 = some ([.nil, .agg [.lit (.int .i64 0), .lit (.int .i64 0), .lit (.string []), .nil]], [], places) :=
  ⟨[], by kernel_rfl⟩
set_option maxRecDepth 100000 in
theorem lifted (os : Os) (started : os.Started) (H : Type) (enc : TypeId × Value → H) (F : Stop.Interp) :
    ReturnsInHanded {} Tryd.checked os 9 .any ((Rows.OpenSpec.upto Rows.builtinSizesSpec).preRow enc Tryd.prog Tryd.f9 Rows.builtinSizesUptoRow.domain false Rows.builtinSizesUptoRow.laid) (((Rows.OpenSpec.upto Rows.builtinSizesSpec).at F).post enc Tryd.prog Tryd.f9 false true false false) := by
  obtain ⟨places, hx⟩ := reads os enc
  refine returnsInHanded_of_row (C := Tryd.checked) (s := Rows.OpenSpec.upto Rows.builtinSizesSpec) own started (by kernel_rfl) Tryd.func9
    (witness_row_at (enc := enc) (C := Tryd.checked) false (laidWorld os) #[.slice none 0 0, .agg #[.int .i64 0, .int .i64 0, .string .empty, .slice none 0 0]] rfl (by kernel_rfl) (by kernel_rfl) (by kernel_rfl)
      (OpenSpec.preRow_of_cond 8 hx (by kernel_rfl) (fun k hk => by cases hk; kernel_rfl) (by kernel_rfl) (laid_met os))) ?_
  intro W base args ds gs before hval hW _ hcond _ hL _ _
  exact law_contract (S := [3, 9, 22, 24]) (spec := (Rows.OpenSpec.upto Rows.builtinSizesSpec).at F) T_ok (by kernel_rfl) laidOut (by kernel_rfl) rfl Tryd.underlying4 rfl
    (fun ds hd => by
      match ds, hd with
      | [d0, d1], _ => rfl)
    law (pins_of hL) hval hW (hcond _ rfl)
theorem said : Rows.BuiltinSizesUptoSaid :=
  OpenClaim.holds_of_cond 9 Tryd.f9 rfl rfl rfl rfl rfl rfl rfl ⟨rfl, rfl, rfl, rfl, rfl⟩ rfl rfl rfl rfl rfl (by kernel_rfl) Tryd.func9 (by kernel_rfl)
    (of_decide_eq_true (by kernel_rfl)) (by unfold Func.isWrapper; first | (rw [if_pos (by decide +kernel)]; kernel_rfl) | (rw [if_neg (by decide +kernel)]; exact ⟨rfl, rfl⟩))
    (fun os started H enc _ F => by rw [OpenClaim.pre_eq_preRow]; exact lifted os started H enc F)
theorem plain (f : FuncId) (fn : Func) (hf : Tryd.pinned.checked.prog.funcNamed "beaconry/beaconrylaw02.BuiltinSizes" = some f) (hfn : Tryd.pinned.checked.prog.funcs[f]? = some fn) :
    false = Tryd.pinned.checked.prog.looks [] ∧ ∀ (j : Nat) t, fn.params[j]? = some t → Tryd.pinned.checked.prog.wantsStandIn t = false := by
  obtain rfl : f = 9 := Option.some.inj ((show Tryd.prog.funcNamed "beaconry/beaconrylaw02.BuiltinSizes" = some 9 by kernel_rfl).symm.trans hf) |>.symm
  obtain rfl : fn = Tryd.f9 := (Option.some.inj (Tryd.func9.symm.trans hfn)).symm
  refine ⟨by kernel_rfl, fun j t ht => ?_⟩
  have h := List.all_eq_true.1 (show (Tryd.f9.params.toList.all fun t => !(Tryd.prog.wantsStandIn t)) = true by kernel_rfl) t (Array.mem_toList_iff.2 (Array.mem_of_getElem? ht))
  exact (by simpa using h : Tryd.prog.wantsStandIn t = false)
theorem proved : Rows.BuiltinSizesUptoCardSaid :=
  Claim7.holds_tied_plain_at .later [] _ _ _ _ said (fun _ h => by cases h) (by kernel_rfl) (fun _ h => by cases h) builtinSizesUpto_row_tie rfl ⟨rfl, rfl⟩ (by kernel_rfl) rfl plain (by kernel_rfl)
end Go.Proofs.YtamapcjhinalfaaDoor.builtinSizes
