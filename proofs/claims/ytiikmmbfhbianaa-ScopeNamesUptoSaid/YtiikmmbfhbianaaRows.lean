/-
  NARROWER THAN 'FOR EVERY INPUT', by the rows' own cells (each row's printed sentence says how): ScopeVars: loops.
  DERIVED. THE GIVEN ROWS OF THIS SEAT. 5 by the template 'for every input the law returns true; each argument reads behind the call as it read before'; 0 by the template 'total and deterministic' (their statements: YtiikmmbfhbianaaTotals.lean).
  GIVEN WITH THE SEED: the statements are not yours to turn. If you find one false, say at which input.
  Laid BY PROGRAM, IN A SANDBOX (cutbox-rows.mjs): the forced cells as the released guide's own fill.sh prints them over the translation ba69a17c10ba3435… (all of the seat's roots in one cut). By AI agents, Wed Nov 11 2026. No macro, syntax, notation, axiom, sorry.
-/
import Derived.Test.YtiikmmbfhbianaaChecked
import GoSem.Claim
import GoSem.ClaimJoined
import GoSem.ClaimMapViews
import Derived.JoinedTies
import Derived.KernelRfl
namespace Go.Proofs.Ytiikmmbfhbianaa
/- THE CELL 'sum', in the pinned program and in every row, IS THE sha256 OF THE DUMP (.gsa) THAT YtiikmmbfhbianaaProg.lean LOADS. Nothing in Lean hashes anything: it is a label: what it is worth is what the hold of that sum in a sandbox is worth. -/
noncomputable def Try.pinned : Pinned := { name := "ytiikmmbfhbianaa", sum := "ba69a17c10ba3435f5f508e2b8fb58591cd7c8ed5c41bbcf816c46cd1c312bd5", checked := Try.checked }
namespace Rows
def none {H : Type} : Left H := { results := [], args := [] }

/-- 'beaconrylaw06.ScopeLess': WHATEVER THE INPUT: true; the input reads as it did. -/
def scopeLessSpec : ChangeSpec := { name := "scopeLess", fn := fun _ => fun
  | [d1, d2, d3] => { results := [.lit (.bool true)], args := [d1, d2, d3] }
  | _ => none }
def scopeLessRow : OpenClaim := { program := "ytiikmmbfhbianaa", sum := "ba69a17c10ba3435f5f508e2b8fb58591cd7c8ed5c41bbcf816c46cd1c312bd5", func := "beaconry/beaconrylaw06.ScopeLess", spec := "scopeLess", inPlace := ["internal/bytealg.abigen_runtime_cmpstring"], unfollowed := true, recurses := true, apart := false }
def ScopeLessSaid : Prop := scopeLessRow.holds Try.pinned (OpenSpec.ofChange scopeLessSpec)

/-- ITS FALSE NEIGHBOUR: 'it returns false'. Refute it at one input. -/
def scopeLessWrong : ChangeSpec := { name := "scopeLess", fn := fun _ => fun
  | [d1, d2, d3] => { results := [.lit (.bool false)], args := [d1, d2, d3] }
  | _ => none }
def ScopeLessWrongFalsely : Prop := scopeLessRow.holds Try.pinned (OpenSpec.ofChange scopeLessWrong)

/-- 'beaconrylaw06.ScopeNames': WHATEVER THE INPUT: true; the input reads as it did. -/
def scopeNamesSpec : ChangeSpec := { name := "scopeNames", fn := fun _ => fun
  | [d1, d2] => { results := [.lit (.bool true)], args := [d1, d2] }
  | _ => none }
def scopeNamesRow : OpenClaim := { program := "ytiikmmbfhbianaa", sum := "ba69a17c10ba3435f5f508e2b8fb58591cd7c8ed5c41bbcf816c46cd1c312bd5", func := "beaconry/beaconrylaw06.ScopeNames", spec := "scopeNames", inPlace := ["internal/bytealg.abigen_runtime_cmpstring"], unfollowed := true, recurses := true, apart := false }
def ScopeNamesSaid : Prop := scopeNamesRow.holds Try.pinned (OpenSpec.ofChange scopeNamesSpec)

/-- ITS FALSE NEIGHBOUR: 'it returns false'. Refute it at one input. -/
def scopeNamesWrong : ChangeSpec := { name := "scopeNames", fn := fun _ => fun
  | [d1, d2] => { results := [.lit (.bool false)], args := [d1, d2] }
  | _ => none }
def ScopeNamesWrongFalsely : Prop := scopeNamesRow.holds Try.pinned (OpenSpec.ofChange scopeNamesWrong)

/-- 'beaconrylaw06.ScopeVars': WHATEVER THE INPUT: true; the input reads as it did. -/
def scopeVarsSpec : ChangeSpec := { name := "scopeVars", fn := fun _ => fun
  | [d1, d2] => { results := [.lit (.bool true)], args := [d1, d2] }
  | _ => none }
def scopeVarsRow : OpenClaim := { program := "ytiikmmbfhbianaa", sum := "ba69a17c10ba3435f5f508e2b8fb58591cd7c8ed5c41bbcf816c46cd1c312bd5", func := "beaconry/beaconrylaw06.ScopeVars", spec := "scopeVars", inPlace := ["internal/bytealg.abigen_runtime_cmpstring"], unfollowed := true, recurses := true, loops := true, apart := false }
def ScopeVarsSaid : Prop := scopeVarsRow.holds Try.pinned (OpenSpec.ofChange scopeVarsSpec)

/-- ITS FALSE NEIGHBOUR: 'it returns false'. Refute it at one input. -/
def scopeVarsWrong : ChangeSpec := { name := "scopeVars", fn := fun _ => fun
  | [d1, d2] => { results := [.lit (.bool false)], args := [d1, d2] }
  | _ => none }
def ScopeVarsWrongFalsely : Prop := scopeVarsRow.holds Try.pinned (OpenSpec.ofChange scopeVarsWrong)

/-- 'beaconrylaw06.ScopeOrder': WHATEVER THE INPUT: true; the input reads as it did. -/
def scopeOrderSpec : ChangeSpec := { name := "scopeOrder", fn := fun _ => fun
  | [d1, d2] => { results := [.lit (.bool true)], args := [d1, d2] }
  | _ => none }
def scopeOrderRow : OpenClaim := { program := "ytiikmmbfhbianaa", sum := "ba69a17c10ba3435f5f508e2b8fb58591cd7c8ed5c41bbcf816c46cd1c312bd5", func := "beaconry/beaconrylaw06.ScopeOrder", spec := "scopeOrder", inPlace := ["internal/bytealg.abigen_runtime_cmpstring"], unfollowed := true, recurses := true, apart := false }
def ScopeOrderSaid : Prop := scopeOrderRow.holds Try.pinned (OpenSpec.ofChange scopeOrderSpec)

/-- ITS FALSE NEIGHBOUR: 'it returns false'. Refute it at one input. -/
def scopeOrderWrong : ChangeSpec := { name := "scopeOrder", fn := fun _ => fun
  | [d1, d2] => { results := [.lit (.bool false)], args := [d1, d2] }
  | _ => none }
def ScopeOrderWrongFalsely : Prop := scopeOrderRow.holds Try.pinned (OpenSpec.ofChange scopeOrderWrong)

/-- 'beaconrylaw06.ScopeFacts': WHATEVER THE INPUT: true; the input reads as it did. -/
def scopeFactsSpec : ChangeSpec := { name := "scopeFacts", fn := fun _ => fun
  | [d1, d2, d3] => { results := [.lit (.bool true)], args := [d1, d2, d3] }
  | _ => none }
def scopeFactsRow : OpenClaim := { program := "ytiikmmbfhbianaa", sum := "ba69a17c10ba3435f5f508e2b8fb58591cd7c8ed5c41bbcf816c46cd1c312bd5", func := "beaconry/beaconrylaw06.ScopeFacts", spec := "scopeFacts", inPlace := ["internal/bytealg.abigen_runtime_cmpstring"], unfollowed := true, recurses := true, apart := false }
def ScopeFactsSaid : Prop := scopeFactsRow.holds Try.pinned (OpenSpec.ofChange scopeFactsSpec)

/-- ITS FALSE NEIGHBOUR: 'it returns false'. Refute it at one input. -/
def scopeFactsWrong : ChangeSpec := { name := "scopeFacts", fn := fun _ => fun
  | [d1, d2, d3] => { results := [.lit (.bool false)], args := [d1, d2, d3] }
  | _ => none }
def ScopeFactsWrongFalsely : Prop := scopeFactsRow.holds Try.pinned (OpenSpec.ofChange scopeFactsWrong)

/- THE SECOND FORM. 'bulk': how many values and letters a reading holds, each counted each time it is reached (what is shared counts as often as it is met; a slice's spare places count too). A statement '..UptoSaid' is the law's where the arguments, and the package variables that the reading takes, are together of bulk at most 1048576: NARROWER than '..Said'. Prove '..Said' where nothing that the law and all that it calls make is longer than what came in: it says more and counts as full. Else prove '..UptoSaid'. A law counts once. -/
mutual
def uptoBulk {H : Type} : DataW H → Nat
  | .lit (.string bytes) => bytes.length + 1
  | .lit _ => 1
  | .nil => 1
  | .ptr d => uptoBulk d + 1
  | .slice elems spare => uptoBulkAll elems + uptoBulkAll spare + 1
  | .agg parts => uptoBulkAll parts + 1
  | .iface _ d => uptoBulk d + 1
  | .map entries => uptoBulkEntries entries + 1
  | .held _ => 1
def uptoBulkAll {H : Type} : List (DataW H) → Nat
  | [] => 0
  | d :: r => uptoBulk d + uptoBulkAll r
def uptoBulkEntries {H : Type} : List (Lit × DataW H) → Nat
  | [] => 0
  | x :: r => uptoBulkEntry x + uptoBulkEntries r
def uptoBulkEntry {H : Type} : Lit × DataW H → Nat
  | (.string bytes, d) => bytes.length + uptoBulk d + 1
  | (_, d) => uptoBulk d + 1
 end
def uptoSmall : (H : Type) → List (DataW H) → Bool := fun _ ds => decide (uptoBulkAll ds ≤ 1048576)
def OpenSpec.upto (s : _root_.Go.ChangeSpec) : _root_.Go.OpenSpec := { _root_.Go.OpenSpec.ofChange s with cond := some uptoSmall }

/-- 'beaconrylaw06.ScopeLess', WHERE WHAT IT READS IS OF BULK AT MOST 1048576: true; the input reads as it did. -/
def scopeLessUptoRow : OpenClaim := { program := "ytiikmmbfhbianaa", sum := "ba69a17c10ba3435f5f508e2b8fb58591cd7c8ed5c41bbcf816c46cd1c312bd5", func := "beaconry/beaconrylaw06.ScopeLess", spec := "scopeLess", inPlace := ["internal/bytealg.abigen_runtime_cmpstring"], unfollowed := true, recurses := true, apart := false, narrowed := true }
def ScopeLessUptoSaid : Prop := scopeLessUptoRow.holds Try.pinned (OpenSpec.upto scopeLessSpec)

/-- 'beaconrylaw06.ScopeNames', WHERE WHAT IT READS IS OF BULK AT MOST 1048576: true; the input reads as it did. -/
def scopeNamesUptoRow : OpenClaim := { program := "ytiikmmbfhbianaa", sum := "ba69a17c10ba3435f5f508e2b8fb58591cd7c8ed5c41bbcf816c46cd1c312bd5", func := "beaconry/beaconrylaw06.ScopeNames", spec := "scopeNames", inPlace := ["internal/bytealg.abigen_runtime_cmpstring"], unfollowed := true, recurses := true, apart := false, narrowed := true }
def ScopeNamesUptoSaid : Prop := scopeNamesUptoRow.holds Try.pinned (OpenSpec.upto scopeNamesSpec)

/-- 'beaconrylaw06.ScopeVars', WHERE WHAT IT READS IS OF BULK AT MOST 1048576: true; the input reads as it did. -/
def scopeVarsUptoRow : OpenClaim := { program := "ytiikmmbfhbianaa", sum := "ba69a17c10ba3435f5f508e2b8fb58591cd7c8ed5c41bbcf816c46cd1c312bd5", func := "beaconry/beaconrylaw06.ScopeVars", spec := "scopeVars", inPlace := ["internal/bytealg.abigen_runtime_cmpstring"], unfollowed := true, recurses := true, loops := true, apart := false, narrowed := true }
def ScopeVarsUptoSaid : Prop := scopeVarsUptoRow.holds Try.pinned (OpenSpec.upto scopeVarsSpec)

/-- 'beaconrylaw06.ScopeOrder', WHERE WHAT IT READS IS OF BULK AT MOST 1048576: true; the input reads as it did. -/
def scopeOrderUptoRow : OpenClaim := { program := "ytiikmmbfhbianaa", sum := "ba69a17c10ba3435f5f508e2b8fb58591cd7c8ed5c41bbcf816c46cd1c312bd5", func := "beaconry/beaconrylaw06.ScopeOrder", spec := "scopeOrder", inPlace := ["internal/bytealg.abigen_runtime_cmpstring"], unfollowed := true, recurses := true, apart := false, narrowed := true }
def ScopeOrderUptoSaid : Prop := scopeOrderUptoRow.holds Try.pinned (OpenSpec.upto scopeOrderSpec)

/-- 'beaconrylaw06.ScopeFacts', WHERE WHAT IT READS IS OF BULK AT MOST 1048576: true; the input reads as it did. -/
def scopeFactsUptoRow : OpenClaim := { program := "ytiikmmbfhbianaa", sum := "ba69a17c10ba3435f5f508e2b8fb58591cd7c8ed5c41bbcf816c46cd1c312bd5", func := "beaconry/beaconrylaw06.ScopeFacts", spec := "scopeFacts", inPlace := ["internal/bytealg.abigen_runtime_cmpstring"], unfollowed := true, recurses := true, apart := false, narrowed := true }
def ScopeFactsUptoSaid : Prop := scopeFactsUptoRow.holds Try.pinned (OpenSpec.upto scopeFactsSpec)

end Rows
end Go.Proofs.Ytiikmmbfhbianaa
