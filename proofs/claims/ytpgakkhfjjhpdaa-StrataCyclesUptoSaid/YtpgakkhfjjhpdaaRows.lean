/-
  No cell of these rows narrows 'for every input' (looked for: loops, veiled, ifaces, maps, wideKeys, modest, calm, conditions, laid).
  DERIVED. THE GIVEN ROWS OF THIS SEAT. 4 by the template 'for every input the law returns true; each argument reads behind the call as it read before'; 0 by the template 'total and deterministic' (their statements: YtpgakkhfjjhpdaaTotals.lean).
  GIVEN WITH THE SEED: the statements are not yours to turn. If you find one false, say at which input.
  Laid BY PROGRAM, IN A SANDBOX (cutbox-rows.mjs): the forced cells as the released guide's own fill.sh prints them over the translation 6e201149bd0a0a90… (all of the seat's roots in one cut). By AI agents, Wed Nov 11 2026. No macro, syntax, notation, axiom, sorry.
-/
import Derived.Test.YtpgakkhfjjhpdaaChecked
import GoSem.Claim
import GoSem.ClaimJoined
import GoSem.ClaimMapViews
import Derived.JoinedTies
import Derived.KernelRfl
namespace Go.Proofs.Ytpgakkhfjjhpdaa
/- THE CELL 'sum', in the pinned program and in every row, IS THE sha256 OF THE DUMP (.gsa) THAT YtpgakkhfjjhpdaaProg.lean LOADS. Nothing in Lean hashes anything: it is a label: what it is worth is what the hold of that sum in a sandbox is worth. -/
noncomputable def Try.pinned : Pinned := { name := "ytpgakkhfjjhpdaa", sum := "6e201149bd0a0a90242b53826bb347555b167275e6b0718e300d3f3fdb9d6b20", checked := Try.checked }
namespace Rows
def none {H : Type} : Left H := { results := [], args := [] }

/-- 'beaconrylaw08.StrataCycles': WHATEVER THE INPUT: true; the input reads as it did. -/
def strataCyclesSpec : ChangeSpec := { name := "strataCycles", fn := fun _ => fun
  | [d] => { results := [.lit (.bool true)], args := [d] }
  | _ => none }
def strataCyclesRow : OpenClaim := { program := "ytpgakkhfjjhpdaa", sum := "6e201149bd0a0a90242b53826bb347555b167275e6b0718e300d3f3fdb9d6b20", func := "beaconry/beaconrylaw08.StrataCycles", spec := "strataCycles", inPlace := ["internal/bytealg.abigen_runtime_cmpstring"], unfollowed := true, recurses := true, apart := false }
def StrataCyclesSaid : Prop := strataCyclesRow.holds Try.pinned (OpenSpec.ofChange strataCyclesSpec)

/-- ITS FALSE NEIGHBOUR: 'it returns false'. Refute it at one input. -/
def strataCyclesWrong : ChangeSpec := { name := "strataCycles", fn := fun _ => fun
  | [d] => { results := [.lit (.bool false)], args := [d] }
  | _ => none }
def StrataCyclesWrongFalsely : Prop := strataCyclesRow.holds Try.pinned (OpenSpec.ofChange strataCyclesWrong)

/-- 'beaconrylaw08.StrataLeast': WHATEVER THE INPUT: true; the input reads as it did. -/
def strataLeastSpec : ChangeSpec := { name := "strataLeast", fn := fun _ => fun
  | [d] => { results := [.lit (.bool true)], args := [d] }
  | _ => none }
def strataLeastRow : OpenClaim := { program := "ytpgakkhfjjhpdaa", sum := "6e201149bd0a0a90242b53826bb347555b167275e6b0718e300d3f3fdb9d6b20", func := "beaconry/beaconrylaw08.StrataLeast", spec := "strataLeast", inPlace := ["internal/bytealg.abigen_runtime_cmpstring"], unfollowed := true, recurses := true, apart := false }
def StrataLeastSaid : Prop := strataLeastRow.holds Try.pinned (OpenSpec.ofChange strataLeastSpec)

/-- ITS FALSE NEIGHBOUR: 'it returns false'. Refute it at one input. -/
def strataLeastWrong : ChangeSpec := { name := "strataLeast", fn := fun _ => fun
  | [d] => { results := [.lit (.bool false)], args := [d] }
  | _ => none }
def StrataLeastWrongFalsely : Prop := strataLeastRow.holds Try.pinned (OpenSpec.ofChange strataLeastWrong)

/-- 'beaconrylaw08.StrataOrder': WHATEVER THE INPUT: true; the input reads as it did. -/
def strataOrderSpec : ChangeSpec := { name := "strataOrder", fn := fun _ => fun
  | [d1, d2] => { results := [.lit (.bool true)], args := [d1, d2] }
  | _ => none }
def strataOrderRow : OpenClaim := { program := "ytpgakkhfjjhpdaa", sum := "6e201149bd0a0a90242b53826bb347555b167275e6b0718e300d3f3fdb9d6b20", func := "beaconry/beaconrylaw08.StrataOrder", spec := "strataOrder", inPlace := ["internal/bytealg.abigen_runtime_cmpstring"], unfollowed := true, recurses := true, apart := false }
def StrataOrderSaid : Prop := strataOrderRow.holds Try.pinned (OpenSpec.ofChange strataOrderSpec)

/-- ITS FALSE NEIGHBOUR: 'it returns false'. Refute it at one input. -/
def strataOrderWrong : ChangeSpec := { name := "strataOrder", fn := fun _ => fun
  | [d1, d2] => { results := [.lit (.bool false)], args := [d1, d2] }
  | _ => none }
def StrataOrderWrongFalsely : Prop := strataOrderRow.holds Try.pinned (OpenSpec.ofChange strataOrderWrong)

/-- 'beaconrylaw08.StrataLess': WHATEVER THE INPUT: true; the input reads as it did. -/
def strataLessSpec : ChangeSpec := { name := "strataLess", fn := fun _ => fun
  | [d1, d2] => { results := [.lit (.bool true)], args := [d1, d2] }
  | _ => none }
def strataLessRow : OpenClaim := { program := "ytpgakkhfjjhpdaa", sum := "6e201149bd0a0a90242b53826bb347555b167275e6b0718e300d3f3fdb9d6b20", func := "beaconry/beaconrylaw08.StrataLess", spec := "strataLess", inPlace := ["internal/bytealg.abigen_runtime_cmpstring"], unfollowed := true, recurses := true, apart := false }
def StrataLessSaid : Prop := strataLessRow.holds Try.pinned (OpenSpec.ofChange strataLessSpec)

/-- ITS FALSE NEIGHBOUR: 'it returns false'. Refute it at one input. -/
def strataLessWrong : ChangeSpec := { name := "strataLess", fn := fun _ => fun
  | [d1, d2] => { results := [.lit (.bool false)], args := [d1, d2] }
  | _ => none }
def StrataLessWrongFalsely : Prop := strataLessRow.holds Try.pinned (OpenSpec.ofChange strataLessWrong)

/- THE SECOND FORM. 'bulk': how many values and letters a reading holds, each counted each time it is reached (what is shared counts as often as it is met; a slice's spare places count too). A statement '..UptoSaid' is the law's where the arguments, and the package variables that the reading takes, are together of bulk at most 1048576: NARROWER than '..Said'. Prove '..Said' where nothing that the law and all that it calls make is longer than what came in: it says more and counts as full. Else prove '..UptoSaid'. A law counts once. -/
mutual
def uptoBulk {H : Type} : DataW H → Nat
  | .lit (.string bytes) => bytes.length + 1
  | .lit _ => 1
  | .nil => 1
  | .ptr d => uptoBulk d + 1
  | .slice elems spare => uptoBulkAll elems + uptoBulkAll spare + 1
  | .agg parts => uptoBulkAll parts + 1
  | .iface _ d => uptoBulk d + 1
  | .map entries => uptoBulkEntries entries + 1
  | .held _ => 1
def uptoBulkAll {H : Type} : List (DataW H) → Nat
  | [] => 0
  | d :: r => uptoBulk d + uptoBulkAll r
def uptoBulkEntries {H : Type} : List (Lit × DataW H) → Nat
  | [] => 0
  | x :: r => uptoBulkEntry x + uptoBulkEntries r
def uptoBulkEntry {H : Type} : Lit × DataW H → Nat
  | (.string bytes, d) => bytes.length + uptoBulk d + 1
  | (_, d) => uptoBulk d + 1
 end
def uptoSmall : (H : Type) → List (DataW H) → Bool := fun _ ds => decide (uptoBulkAll ds ≤ 1048576)
def OpenSpec.upto (s : _root_.Go.ChangeSpec) : _root_.Go.OpenSpec := { _root_.Go.OpenSpec.ofChange s with cond := some uptoSmall }

/-- 'beaconrylaw08.StrataCycles', WHERE WHAT IT READS IS OF BULK AT MOST 1048576: true; the input reads as it did. -/
def strataCyclesUptoRow : OpenClaim := { program := "ytpgakkhfjjhpdaa", sum := "6e201149bd0a0a90242b53826bb347555b167275e6b0718e300d3f3fdb9d6b20", func := "beaconry/beaconrylaw08.StrataCycles", spec := "strataCycles", inPlace := ["internal/bytealg.abigen_runtime_cmpstring"], unfollowed := true, recurses := true, apart := false, narrowed := true }
def StrataCyclesUptoSaid : Prop := strataCyclesUptoRow.holds Try.pinned (OpenSpec.upto strataCyclesSpec)

/-- 'beaconrylaw08.StrataLeast', WHERE WHAT IT READS IS OF BULK AT MOST 1048576: true; the input reads as it did. -/
def strataLeastUptoRow : OpenClaim := { program := "ytpgakkhfjjhpdaa", sum := "6e201149bd0a0a90242b53826bb347555b167275e6b0718e300d3f3fdb9d6b20", func := "beaconry/beaconrylaw08.StrataLeast", spec := "strataLeast", inPlace := ["internal/bytealg.abigen_runtime_cmpstring"], unfollowed := true, recurses := true, apart := false, narrowed := true }
def StrataLeastUptoSaid : Prop := strataLeastUptoRow.holds Try.pinned (OpenSpec.upto strataLeastSpec)

/-- 'beaconrylaw08.StrataOrder', WHERE WHAT IT READS IS OF BULK AT MOST 1048576: true; the input reads as it did. -/
def strataOrderUptoRow : OpenClaim := { program := "ytpgakkhfjjhpdaa", sum := "6e201149bd0a0a90242b53826bb347555b167275e6b0718e300d3f3fdb9d6b20", func := "beaconry/beaconrylaw08.StrataOrder", spec := "strataOrder", inPlace := ["internal/bytealg.abigen_runtime_cmpstring"], unfollowed := true, recurses := true, apart := false, narrowed := true }
def StrataOrderUptoSaid : Prop := strataOrderUptoRow.holds Try.pinned (OpenSpec.upto strataOrderSpec)

/-- 'beaconrylaw08.StrataLess', WHERE WHAT IT READS IS OF BULK AT MOST 1048576: true; the input reads as it did. -/
def strataLessUptoRow : OpenClaim := { program := "ytpgakkhfjjhpdaa", sum := "6e201149bd0a0a90242b53826bb347555b167275e6b0718e300d3f3fdb9d6b20", func := "beaconry/beaconrylaw08.StrataLess", spec := "strataLess", inPlace := ["internal/bytealg.abigen_runtime_cmpstring"], unfollowed := true, recurses := true, apart := false, narrowed := true }
def StrataLessUptoSaid : Prop := strataLessUptoRow.holds Try.pinned (OpenSpec.upto strataLessSpec)

end Rows
end Go.Proofs.Ytpgakkhfjjhpdaa
