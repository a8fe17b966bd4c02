/- StrataRules: each rule of a raw program is in one stratum, that of its head; Check is right just if layer 7's is, and there are numbers. -/
import Derived.Test.YtpgakkhfjjhpdaaGreatDoorCards
import Derived.Test.YtpgakkhfjjhpdaaGreatDoorTie
import Derived.Test.YtpgakkhfjjhpdaaGreatDoorC5
import Derived.WalkKit
import Derived.ProofKit
import Derived.OpenShut
import Derived.Deep.DeepHandedRow
import Derived.Lib.LaidTab
import Derived.Test.YtpgakkhfjjhpdaaGreatDoorC8
import Derived.Test.YtpgakkhfjjhpdaaGreatDoorC7
set_option linter.unusedVariables false
set_option linter.unusedSimpArgs false
set_option linter.unnecessarySimpa false
namespace Go.Proofs.YtpgakkhfjjhpdaaGreatDoor.strataRules
open Go.ChangeShapes Go.WideShapes Go.ChangeAt Go.Mach Go.RowKit

theorem own : ownKnob Tryz.prog.godebug = none := by kernel_rfl
theorem laidOut : laidOutB Tryz.prog = true := by kernel_rfl
theorem law (xs : List AV) (hl : xs.length = Tryz.f4.params.toList.length) (ht : ∀ (i : Nat) t x, Tryz.f4.params.toList[i]? = some t → xs[i]? = some x → TyA Tryz.prog t x) (hb : bulkAs xs ≤ 1048576) :
    ∃ σ', callT T 4 xs 0 [] = some (.bool true, σ') := by
  rw [Tryz.params4] at hl ht
  match xs, hl with
  | [x0, x1], _ =>
    simp only [bulkAs] at hb
    obtain ⟨a0, rfl, h0⟩ := argR6 (ht 0 _ x0 rfl rfl) (by omega)
    obtain ⟨a1, rfl, h1⟩ := argF6 (ht 1 _ x1 rfl rfl) (by omega)
    exact ⟨_, call_clean rfl rfl rfl (by simp) (strataRules_ok a0 a1 h0 h1)⟩

theorem laid_met (os : Os) : laidMet Tryz.prog Rows.strataRulesUptoRow.laid ((laidWorld os).forCall (fun _ _ => 0) ⟨#[], #[.slice none 0 0, .slice none 0 0], []⟩).memory :=
  laidMet_of_run' 8 (by kernel_rfl) (by kernel_rfl)
theorem reads (os : Os) {H : Type} (enc : TypeId × Value → H) : ∃ places, DataW.whole enc Tryz.prog ((laidWorld os).forCall (fun _ _ => 0) ⟨#[], #[.slice none 0 0, .slice none 0 0], []⟩).memory Tryz.f4.params.toList Rows.strataRulesSpec.vars false #[.slice none 0 0, .slice none 0 0].toList 8 = some ([.nil, .nil], [], places) :=
  ⟨[], by kernel_rfl⟩
set_option maxRecDepth 100000 in
theorem lifted (os : Os) (started : os.Started) (H : Type) (enc : TypeId × Value → H) (F : Stop.Interp) :
    ReturnsInHanded {} Tryz.checked os 4 .any ((Rows.OpenSpec.upto Rows.strataRulesSpec).preRow enc Tryz.prog Tryz.f4 Rows.strataRulesUptoRow.domain false Rows.strataRulesUptoRow.laid) (((Rows.OpenSpec.upto Rows.strataRulesSpec).at F).post enc Tryz.prog Tryz.f4 false true false false) := by
  obtain ⟨places, hx⟩ := reads os enc
  refine returnsInHanded_of_row (C := Tryz.checked) (s := Rows.OpenSpec.upto Rows.strataRulesSpec) own started (by kernel_rfl) Tryz.func4
    (witness_row_at (enc := enc) (C := Tryz.checked) false (laidWorld os) #[.slice none 0 0, .slice none 0 0] rfl (by kernel_rfl) (by kernel_rfl) (by kernel_rfl)
      (OpenSpec.preRow_of_cond 8 hx (by kernel_rfl) (fun k hk => by cases hk; kernel_rfl) (by kernel_rfl) (laid_met os))) ?_
  intro W base args ds gs before hval hW _ hcond _ hL _ _
  exact law_contract (S := [3, 27, 28, 60, 62]) (spec := (Rows.OpenSpec.upto Rows.strataRulesSpec).at F) T_ok (by kernel_rfl) laidOut (by kernel_rfl) rfl Tryz.underlying4 rfl
    (fun ds hd => by
      match ds, hd with
      | [d0, d1], _ => rfl)
    law (pins_of hL) hval hW (hcond _ rfl)
theorem said : Rows.StrataRulesUptoSaid :=
  OpenClaim.holds_of_cond 4 Tryz.f4 rfl rfl rfl rfl rfl rfl rfl ⟨rfl, rfl, rfl, rfl, rfl⟩ rfl rfl rfl rfl rfl (by kernel_rfl) Tryz.func4 (by kernel_rfl)
    (of_decide_eq_true (by kernel_rfl)) (by unfold Func.isWrapper; first | (rw [if_pos (by decide +kernel)]; kernel_rfl) | (rw [if_neg (by decide +kernel)]; exact ⟨rfl, rfl⟩))
    (fun os started H enc _ F => by rw [OpenClaim.pre_eq_preRow]; exact lifted os started H enc F)
theorem plain (f : FuncId) (fn : Func) (hf : Tryz.pinned.checked.prog.funcNamed "beaconry/beaconrylaw08.StrataRules" = some f) (hfn : Tryz.pinned.checked.prog.funcs[f]? = some fn) :
    false = Tryz.pinned.checked.prog.looks [] ∧ ∀ (j : Nat) t, fn.params[j]? = some t → Tryz.pinned.checked.prog.wantsStandIn t = false := by
  obtain rfl : f = 4 := Option.some.inj ((show Tryz.prog.funcNamed "beaconry/beaconrylaw08.StrataRules" = some 4 by kernel_rfl).symm.trans hf) |>.symm
  obtain rfl : fn = Tryz.f4 := (Option.some.inj (Tryz.func4.symm.trans hfn)).symm
  refine ⟨by kernel_rfl, fun j t ht => ?_⟩
  have h := List.all_eq_true.1 (show (Tryz.f4.params.toList.all fun t => !(Tryz.prog.wantsStandIn t)) = true by kernel_rfl) t (Array.mem_toList_iff.2 (Array.mem_of_getElem? ht))
  exact (by simpa using h : Tryz.prog.wantsStandIn t = false)
theorem proved : Rows.StrataRulesUptoCardSaid :=
  Claim7.holds_tied_plain_at .later [] _ _ _ _ said (fun _ h => by cases h) (by kernel_rfl) (fun _ h => by cases h) strataRulesUpto_row_tie rfl ⟨rfl, rfl⟩ (by kernel_rfl) rfl plain (by kernel_rfl)
end Go.Proofs.YtpgakkhfjjhpdaaGreatDoor.strataRules
