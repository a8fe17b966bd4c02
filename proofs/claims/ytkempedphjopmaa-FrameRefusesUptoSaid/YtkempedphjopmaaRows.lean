/-
  NARROWER THAN 'FOR EVERY INPUT', by the rows' own cells (each row's printed sentence says how): FrameTells: loops · FrameBack: loops · FrameForth: loops · FrameChanged: loops.
  DERIVED. THE GIVEN ROWS OF THIS SEAT. 7 by the template 'for every input the law returns true; each argument reads behind the call as it read before'; 0 by the template 'total and deterministic' (their statements: YtkempedphjopmaaTotals.lean).
  GIVEN WITH THE SEED: the statements are not yours to turn. If you find one false, say at which input.
  Laid BY PROGRAM, IN A SANDBOX (cutbox-rows.mjs): the forced cells as the released guide's own fill.sh prints them over the translation 7e69df90e675b9ca… (all of the seat's roots in one cut). By AI agents, Wed Nov 11 2026. No macro, syntax, notation, axiom, sorry.
-/
import Derived.Test.YtkempedphjopmaaChecked
import GoSem.Claim
import GoSem.ClaimJoined
import GoSem.ClaimMapViews
import Derived.JoinedTies
import Derived.KernelRfl
namespace Go.Proofs.Ytkempedphjopmaa
/- THE CELL 'sum', in the pinned program and in every row, IS THE sha256 OF THE DUMP (.gsa) THAT YtkempedphjopmaaProg.lean LOADS. Nothing in Lean hashes anything: it is a label: what it is worth is what the hold of that sum in a sandbox is worth. -/
noncomputable def Try.pinned : Pinned := { name := "ytkempedphjopmaa", sum := "7e69df90e675b9ca3dac7b19020da0a46d173e2a65b00f104f860437bae974cf", checked := Try.checked }
namespace Rows
def none {H : Type} : Left H := { results := [], args := [] }

/-- 'beaconrylaw15.FrameSums': WHATEVER THE INPUT: true; the input reads as it did. -/
def frameSumsSpec : ChangeSpec := { name := "frameSums", fn := fun _ => fun
  | [d1, d2, d3, d4] => { results := [.lit (.bool true)], args := [d1, d2, d3, d4] }
  | _ => none }
def frameSumsRow : OpenClaim := { program := "ytkempedphjopmaa", sum := "7e69df90e675b9ca3dac7b19020da0a46d173e2a65b00f104f860437bae974cf", func := "beaconry/beaconrylaw15.FrameSums", spec := "frameSums", inPlace := ["internal/bytealg.abigen_runtime_cmpstring"], unfollowed := true, recurses := true, apart := false }
def FrameSumsSaid : Prop := frameSumsRow.holds Try.pinned (OpenSpec.ofChange frameSumsSpec)

/-- ITS FALSE NEIGHBOUR: 'it returns false'. Refute it at one input. -/
def frameSumsWrong : ChangeSpec := { name := "frameSums", fn := fun _ => fun
  | [d1, d2, d3, d4] => { results := [.lit (.bool false)], args := [d1, d2, d3, d4] }
  | _ => none }
def FrameSumsWrongFalsely : Prop := frameSumsRow.holds Try.pinned (OpenSpec.ofChange frameSumsWrong)

/-- 'beaconrylaw15.FrameTells': WHATEVER THE INPUT: true; the input reads as it did. -/
def frameTellsSpec : ChangeSpec := { name := "frameTells", fn := fun _ => fun
  | [d1, d2, d3, d4, d5, d6, d7] => { results := [.lit (.bool true)], args := [d1, d2, d3, d4, d5, d6, d7] }
  | _ => none }
def frameTellsRow : OpenClaim := { program := "ytkempedphjopmaa", sum := "7e69df90e675b9ca3dac7b19020da0a46d173e2a65b00f104f860437bae974cf", func := "beaconry/beaconrylaw15.FrameTells", spec := "frameTells", inPlace := ["internal/bytealg.abigen_runtime_cmpstring"], unfollowed := true, recurses := true, loops := true, apart := false }
def FrameTellsSaid : Prop := frameTellsRow.holds Try.pinned (OpenSpec.ofChange frameTellsSpec)

/-- ITS FALSE NEIGHBOUR: 'it returns false'. Refute it at one input. -/
def frameTellsWrong : ChangeSpec := { name := "frameTells", fn := fun _ => fun
  | [d1, d2, d3, d4, d5, d6, d7] => { results := [.lit (.bool false)], args := [d1, d2, d3, d4, d5, d6, d7] }
  | _ => none }
def FrameTellsWrongFalsely : Prop := frameTellsRow.holds Try.pinned (OpenSpec.ofChange frameTellsWrong)

/-- 'beaconrylaw15.FrameBack': WHATEVER THE INPUT: true; the input reads as it did. -/
def frameBackSpec : ChangeSpec := { name := "frameBack", fn := fun _ => fun
  | [d1, d2, d3, d4] => { results := [.lit (.bool true)], args := [d1, d2, d3, d4] }
  | _ => none }
def frameBackRow : OpenClaim := { program := "ytkempedphjopmaa", sum := "7e69df90e675b9ca3dac7b19020da0a46d173e2a65b00f104f860437bae974cf", func := "beaconry/beaconrylaw15.FrameBack", spec := "frameBack", inPlace := ["internal/bytealg.abigen_runtime_cmpstring"], unfollowed := true, recurses := true, loops := true, apart := false }
def FrameBackSaid : Prop := frameBackRow.holds Try.pinned (OpenSpec.ofChange frameBackSpec)

/-- ITS FALSE NEIGHBOUR: 'it returns false'. Refute it at one input. -/
def frameBackWrong : ChangeSpec := { name := "frameBack", fn := fun _ => fun
  | [d1, d2, d3, d4] => { results := [.lit (.bool false)], args := [d1, d2, d3, d4] }
  | _ => none }
def FrameBackWrongFalsely : Prop := frameBackRow.holds Try.pinned (OpenSpec.ofChange frameBackWrong)

/-- 'beaconrylaw15.FrameForth': WHATEVER THE INPUT: true; the input reads as it did. -/
def frameForthSpec : ChangeSpec := { name := "frameForth", fn := fun _ => fun
  | [d1, d2, d3, d4, d5] => { results := [.lit (.bool true)], args := [d1, d2, d3, d4, d5] }
  | _ => none }
def frameForthRow : OpenClaim := { program := "ytkempedphjopmaa", sum := "7e69df90e675b9ca3dac7b19020da0a46d173e2a65b00f104f860437bae974cf", func := "beaconry/beaconrylaw15.FrameForth", spec := "frameForth", inPlace := ["internal/bytealg.abigen_runtime_cmpstring"], unfollowed := true, recurses := true, loops := true, apart := false }
def FrameForthSaid : Prop := frameForthRow.holds Try.pinned (OpenSpec.ofChange frameForthSpec)

/-- ITS FALSE NEIGHBOUR: 'it returns false'. Refute it at one input. -/
def frameForthWrong : ChangeSpec := { name := "frameForth", fn := fun _ => fun
  | [d1, d2, d3, d4, d5] => { results := [.lit (.bool false)], args := [d1, d2, d3, d4, d5] }
  | _ => none }
def FrameForthWrongFalsely : Prop := frameForthRow.holds Try.pinned (OpenSpec.ofChange frameForthWrong)

/-- 'beaconrylaw15.FrameChanged': WHATEVER THE INPUT: true; the input reads as it did. -/
def frameChangedSpec : ChangeSpec := { name := "frameChanged", fn := fun _ => fun
  | [d1, d2, d3, d4] => { results := [.lit (.bool true)], args := [d1, d2, d3, d4] }
  | _ => none }
def frameChangedRow : OpenClaim := { program := "ytkempedphjopmaa", sum := "7e69df90e675b9ca3dac7b19020da0a46d173e2a65b00f104f860437bae974cf", func := "beaconry/beaconrylaw15.FrameChanged", spec := "frameChanged", inPlace := ["internal/bytealg.abigen_runtime_cmpstring"], unfollowed := true, recurses := true, loops := true, apart := false }
def FrameChangedSaid : Prop := frameChangedRow.holds Try.pinned (OpenSpec.ofChange frameChangedSpec)

/-- ITS FALSE NEIGHBOUR: 'it returns false'. Refute it at one input. -/
def frameChangedWrong : ChangeSpec := { name := "frameChanged", fn := fun _ => fun
  | [d1, d2, d3, d4] => { results := [.lit (.bool false)], args := [d1, d2, d3, d4] }
  | _ => none }
def FrameChangedWrongFalsely : Prop := frameChangedRow.holds Try.pinned (OpenSpec.ofChange frameChangedWrong)

/-- 'beaconrylaw15.FrameApart': WHATEVER THE INPUT: true; the input reads as it did. -/
def frameApartSpec : ChangeSpec := { name := "frameApart", fn := fun _ => fun
  | [d1, d2, d3, d4] => { results := [.lit (.bool true)], args := [d1, d2, d3, d4] }
  | _ => none }
def frameApartRow : OpenClaim := { program := "ytkempedphjopmaa", sum := "7e69df90e675b9ca3dac7b19020da0a46d173e2a65b00f104f860437bae974cf", func := "beaconry/beaconrylaw15.FrameApart", spec := "frameApart", inPlace := ["internal/bytealg.abigen_runtime_cmpstring"], unfollowed := true, recurses := true, apart := false }
def FrameApartSaid : Prop := frameApartRow.holds Try.pinned (OpenSpec.ofChange frameApartSpec)

/-- ITS FALSE NEIGHBOUR: 'it returns false'. Refute it at one input. -/
def frameApartWrong : ChangeSpec := { name := "frameApart", fn := fun _ => fun
  | [d1, d2, d3, d4] => { results := [.lit (.bool false)], args := [d1, d2, d3, d4] }
  | _ => none }
def FrameApartWrongFalsely : Prop := frameApartRow.holds Try.pinned (OpenSpec.ofChange frameApartWrong)

/-- 'beaconrylaw15.FrameRefuses': WHATEVER THE INPUT: true; the input reads as it did. -/
def frameRefusesSpec : ChangeSpec := { name := "frameRefuses", fn := fun _ => fun
  | [d1, d2] => { results := [.lit (.bool true)], args := [d1, d2] }
  | _ => none }
def frameRefusesRow : OpenClaim := { program := "ytkempedphjopmaa", sum := "7e69df90e675b9ca3dac7b19020da0a46d173e2a65b00f104f860437bae974cf", func := "beaconry/beaconrylaw15.FrameRefuses", spec := "frameRefuses", inPlace := ["internal/bytealg.abigen_runtime_cmpstring"], unfollowed := true, recurses := true, apart := false }
def FrameRefusesSaid : Prop := frameRefusesRow.holds Try.pinned (OpenSpec.ofChange frameRefusesSpec)

/-- ITS FALSE NEIGHBOUR: 'it returns false'. Refute it at one input. -/
def frameRefusesWrong : ChangeSpec := { name := "frameRefuses", fn := fun _ => fun
  | [d1, d2] => { results := [.lit (.bool false)], args := [d1, d2] }
  | _ => none }
def FrameRefusesWrongFalsely : Prop := frameRefusesRow.holds Try.pinned (OpenSpec.ofChange frameRefusesWrong)

/- THE SECOND FORM. 'bulk': how many values and letters a reading holds, each counted each time it is reached (what is shared counts as often as it is met; a slice's spare places count too). A statement '..UptoSaid' is the law's where the arguments, and the package variables that the reading takes, are together of bulk at most 1048576: NARROWER than '..Said'. Prove '..Said' where nothing that the law and all that it calls make is longer than what came in: it says more and counts as full. Else prove '..UptoSaid'. A law counts once. -/
mutual
def uptoBulk {H : Type} : DataW H → Nat
  | .lit (.string bytes) => bytes.length + 1
  | .lit _ => 1
  | .nil => 1
  | .ptr d => uptoBulk d + 1
  | .slice elems spare => uptoBulkAll elems + uptoBulkAll spare + 1
  | .agg parts => uptoBulkAll parts + 1
  | .iface _ d => uptoBulk d + 1
  | .map entries => uptoBulkEntries entries + 1
  | .held _ => 1
def uptoBulkAll {H : Type} : List (DataW H) → Nat
  | [] => 0
  | d :: r => uptoBulk d + uptoBulkAll r
def uptoBulkEntries {H : Type} : List (Lit × DataW H) → Nat
  | [] => 0
  | x :: r => uptoBulkEntry x + uptoBulkEntries r
def uptoBulkEntry {H : Type} : Lit × DataW H → Nat
  | (.string bytes, d) => bytes.length + uptoBulk d + 1
  | (_, d) => uptoBulk d + 1
 end
def uptoSmall : (H : Type) → List (DataW H) → Bool := fun _ ds => decide (uptoBulkAll ds ≤ 1048576)
def OpenSpec.upto (s : _root_.Go.ChangeSpec) : _root_.Go.OpenSpec := { _root_.Go.OpenSpec.ofChange s with cond := some uptoSmall }

/-- 'beaconrylaw15.FrameSums', WHERE WHAT IT READS IS OF BULK AT MOST 1048576: true; the input reads as it did. -/
def frameSumsUptoRow : OpenClaim := { program := "ytkempedphjopmaa", sum := "7e69df90e675b9ca3dac7b19020da0a46d173e2a65b00f104f860437bae974cf", func := "beaconry/beaconrylaw15.FrameSums", spec := "frameSums", inPlace := ["internal/bytealg.abigen_runtime_cmpstring"], unfollowed := true, recurses := true, apart := false, narrowed := true }
def FrameSumsUptoSaid : Prop := frameSumsUptoRow.holds Try.pinned (OpenSpec.upto frameSumsSpec)

/-- 'beaconrylaw15.FrameTells', WHERE WHAT IT READS IS OF BULK AT MOST 1048576: true; the input reads as it did. -/
def frameTellsUptoRow : OpenClaim := { program := "ytkempedphjopmaa", sum := "7e69df90e675b9ca3dac7b19020da0a46d173e2a65b00f104f860437bae974cf", func := "beaconry/beaconrylaw15.FrameTells", spec := "frameTells", inPlace := ["internal/bytealg.abigen_runtime_cmpstring"], unfollowed := true, recurses := true, loops := true, apart := false, narrowed := true }
def FrameTellsUptoSaid : Prop := frameTellsUptoRow.holds Try.pinned (OpenSpec.upto frameTellsSpec)

/-- 'beaconrylaw15.FrameBack', WHERE WHAT IT READS IS OF BULK AT MOST 1048576: true; the input reads as it did. -/
def frameBackUptoRow : OpenClaim := { program := "ytkempedphjopmaa", sum := "7e69df90e675b9ca3dac7b19020da0a46d173e2a65b00f104f860437bae974cf", func := "beaconry/beaconrylaw15.FrameBack", spec := "frameBack", inPlace := ["internal/bytealg.abigen_runtime_cmpstring"], unfollowed := true, recurses := true, loops := true, apart := false, narrowed := true }
def FrameBackUptoSaid : Prop := frameBackUptoRow.holds Try.pinned (OpenSpec.upto frameBackSpec)

/-- 'beaconrylaw15.FrameForth', WHERE WHAT IT READS IS OF BULK AT MOST 1048576: true; the input reads as it did. -/
def frameForthUptoRow : OpenClaim := { program := "ytkempedphjopmaa", sum := "7e69df90e675b9ca3dac7b19020da0a46d173e2a65b00f104f860437bae974cf", func := "beaconry/beaconrylaw15.FrameForth", spec := "frameForth", inPlace := ["internal/bytealg.abigen_runtime_cmpstring"], unfollowed := true, recurses := true, loops := true, apart := false, narrowed := true }
def FrameForthUptoSaid : Prop := frameForthUptoRow.holds Try.pinned (OpenSpec.upto frameForthSpec)

/-- 'beaconrylaw15.FrameChanged', WHERE WHAT IT READS IS OF BULK AT MOST 1048576: true; the input reads as it did. -/
def frameChangedUptoRow : OpenClaim := { program := "ytkempedphjopmaa", sum := "7e69df90e675b9ca3dac7b19020da0a46d173e2a65b00f104f860437bae974cf", func := "beaconry/beaconrylaw15.FrameChanged", spec := "frameChanged", inPlace := ["internal/bytealg.abigen_runtime_cmpstring"], unfollowed := true, recurses := true, loops := true, apart := false, narrowed := true }
def FrameChangedUptoSaid : Prop := frameChangedUptoRow.holds Try.pinned (OpenSpec.upto frameChangedSpec)

/-- 'beaconrylaw15.FrameApart', WHERE WHAT IT READS IS OF BULK AT MOST 1048576: true; the input reads as it did. -/
def frameApartUptoRow : OpenClaim := { program := "ytkempedphjopmaa", sum := "7e69df90e675b9ca3dac7b19020da0a46d173e2a65b00f104f860437bae974cf", func := "beaconry/beaconrylaw15.FrameApart", spec := "frameApart", inPlace := ["internal/bytealg.abigen_runtime_cmpstring"], unfollowed := true, recurses := true, apart := false, narrowed := true }
def FrameApartUptoSaid : Prop := frameApartUptoRow.holds Try.pinned (OpenSpec.upto frameApartSpec)

/-- 'beaconrylaw15.FrameRefuses', WHERE WHAT IT READS IS OF BULK AT MOST 1048576: true; the input reads as it did. -/
def frameRefusesUptoRow : OpenClaim := { program := "ytkempedphjopmaa", sum := "7e69df90e675b9ca3dac7b19020da0a46d173e2a65b00f104f860437bae974cf", func := "beaconry/beaconrylaw15.FrameRefuses", spec := "frameRefuses", inPlace := ["internal/bytealg.abigen_runtime_cmpstring"], unfollowed := true, recurses := true, apart := false, narrowed := true }
def FrameRefusesUptoSaid : Prop := frameRefusesUptoRow.holds Try.pinned (OpenSpec.upto frameRefusesSpec)

end Rows
end Go.Proofs.Ytkempedphjopmaa
