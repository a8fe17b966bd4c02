/-
  NARROWER THAN 'FOR EVERY INPUT', by the rows' own cells (each row's printed sentence says how): InboxPlays: loops.
  DERIVED. THE GIVEN ROWS OF THIS SEAT. 5 by the template 'for every input the law returns true; each argument reads behind the call as it read before'; 0 by the template 'total and deterministic' (their statements: YtkfiepnkedcmgaaTotals.lean).
  GIVEN WITH THE SEED: the statements are not yours to turn. If you find one false, say at which input.
  Laid BY PROGRAM, IN A SANDBOX (cutbox-rows.mjs): the forced cells as the released guide's own fill.sh prints them over the translation cc7c9190ea9e6674… (all of the seat's roots in one cut). By AI agents, Wed Nov 11 2026. No macro, syntax, notation, axiom, sorry.
-/
import Derived.Test.YtkfiepnkedcmgaaChecked
import GoSem.Claim
import GoSem.ClaimJoined
import GoSem.ClaimMapViews
import Derived.JoinedTies
import Derived.KernelRfl
namespace Go.Proofs.Ytkfiepnkedcmgaa
/- THE CELL 'sum', in the pinned program and in every row, IS THE sha256 OF THE DUMP (.gsa) THAT YtkfiepnkedcmgaaProg.lean LOADS. Nothing in Lean hashes anything: it is a label: what it is worth is what the hold of that sum in a sandbox is worth. -/
noncomputable def Try.pinned : Pinned := { name := "ytkfiepnkedcmgaa", sum := "cc7c9190ea9e667430ee454a155cd526c9b6c365764c66d3f100310f99d24e6d", checked := Try.checked }
namespace Rows
def none {H : Type} : Left H := { results := [], args := [] }

/-- 'beaconrylaw16.InboxNewest': WHATEVER THE INPUT: true; the input reads as it did. -/
def inboxNewestSpec : ChangeSpec := { name := "inboxNewest", fn := fun _ => fun
  | [d] => { results := [.lit (.bool true)], args := [d] }
  | _ => none }
def inboxNewestRow : OpenClaim := { program := "ytkfiepnkedcmgaa", sum := "cc7c9190ea9e667430ee454a155cd526c9b6c365764c66d3f100310f99d24e6d", func := "beaconry/beaconrylaw16.InboxNewest", spec := "inboxNewest", inPlace := ["internal/bytealg.abigen_runtime_cmpstring"], unfollowed := true, recurses := true, apart := false }
def InboxNewestSaid : Prop := inboxNewestRow.holds Try.pinned (OpenSpec.ofChange inboxNewestSpec)

/-- ITS FALSE NEIGHBOUR: 'it returns false'. Refute it at one input. -/
def inboxNewestWrong : ChangeSpec := { name := "inboxNewest", fn := fun _ => fun
  | [d] => { results := [.lit (.bool false)], args := [d] }
  | _ => none }
def InboxNewestWrongFalsely : Prop := inboxNewestRow.holds Try.pinned (OpenSpec.ofChange inboxNewestWrong)

/-- 'beaconrylaw16.InboxOthers': WHATEVER THE INPUT: true; the input reads as it did. -/
def inboxOthersSpec : ChangeSpec := { name := "inboxOthers", fn := fun _ => fun
  | [d1, d2] => { results := [.lit (.bool true)], args := [d1, d2] }
  | _ => none }
def inboxOthersRow : OpenClaim := { program := "ytkfiepnkedcmgaa", sum := "cc7c9190ea9e667430ee454a155cd526c9b6c365764c66d3f100310f99d24e6d", func := "beaconry/beaconrylaw16.InboxOthers", spec := "inboxOthers", inPlace := ["internal/bytealg.abigen_runtime_cmpstring"], unfollowed := true, recurses := true, apart := false }
def InboxOthersSaid : Prop := inboxOthersRow.holds Try.pinned (OpenSpec.ofChange inboxOthersSpec)

/-- ITS FALSE NEIGHBOUR: 'it returns false'. Refute it at one input. -/
def inboxOthersWrong : ChangeSpec := { name := "inboxOthers", fn := fun _ => fun
  | [d1, d2] => { results := [.lit (.bool false)], args := [d1, d2] }
  | _ => none }
def InboxOthersWrongFalsely : Prop := inboxOthersRow.holds Try.pinned (OpenSpec.ofChange inboxOthersWrong)

/-- 'beaconrylaw16.InboxPlays': WHATEVER THE INPUT: true; the input reads as it did. -/
def inboxPlaysSpec : ChangeSpec := { name := "inboxPlays", fn := fun _ => fun
  | [d1, d2, d3, d4] => { results := [.lit (.bool true)], args := [d1, d2, d3, d4] }
  | _ => none }
def inboxPlaysRow : OpenClaim := { program := "ytkfiepnkedcmgaa", sum := "cc7c9190ea9e667430ee454a155cd526c9b6c365764c66d3f100310f99d24e6d", func := "beaconry/beaconrylaw16.InboxPlays", spec := "inboxPlays", inPlace := ["internal/bytealg.abigen_runtime_cmpstring"], unfollowed := true, recurses := true, loops := true, apart := false }
def InboxPlaysSaid : Prop := inboxPlaysRow.holds Try.pinned (OpenSpec.ofChange inboxPlaysSpec)

/-- ITS FALSE NEIGHBOUR: 'it returns false'. Refute it at one input. -/
def inboxPlaysWrong : ChangeSpec := { name := "inboxPlays", fn := fun _ => fun
  | [d1, d2, d3, d4] => { results := [.lit (.bool false)], args := [d1, d2, d3, d4] }
  | _ => none }
def InboxPlaysWrongFalsely : Prop := inboxPlaysRow.holds Try.pinned (OpenSpec.ofChange inboxPlaysWrong)

/-- 'beaconrylaw16.InboxRows': WHATEVER THE INPUT: true; the input reads as it did. -/
def inboxRowsSpec : ChangeSpec := { name := "inboxRows", fn := fun _ => fun
  | [d1, d2, d3] => { results := [.lit (.bool true)], args := [d1, d2, d3] }
  | _ => none }
def inboxRowsRow : OpenClaim := { program := "ytkfiepnkedcmgaa", sum := "cc7c9190ea9e667430ee454a155cd526c9b6c365764c66d3f100310f99d24e6d", func := "beaconry/beaconrylaw16.InboxRows", spec := "inboxRows", inPlace := ["internal/bytealg.abigen_runtime_cmpstring"], unfollowed := true, recurses := true, apart := false }
def InboxRowsSaid : Prop := inboxRowsRow.holds Try.pinned (OpenSpec.ofChange inboxRowsSpec)

/-- ITS FALSE NEIGHBOUR: 'it returns false'. Refute it at one input. -/
def inboxRowsWrong : ChangeSpec := { name := "inboxRows", fn := fun _ => fun
  | [d1, d2, d3] => { results := [.lit (.bool false)], args := [d1, d2, d3] }
  | _ => none }
def InboxRowsWrongFalsely : Prop := inboxRowsRow.holds Try.pinned (OpenSpec.ofChange inboxRowsWrong)

/-- 'beaconrylaw16.InboxClears': WHATEVER THE INPUT: true; the input reads as it did. -/
def inboxClearsSpec : ChangeSpec := { name := "inboxClears", fn := fun _ => fun
  | [d1, d2] => { results := [.lit (.bool true)], args := [d1, d2] }
  | _ => none }
def inboxClearsRow : OpenClaim := { program := "ytkfiepnkedcmgaa", sum := "cc7c9190ea9e667430ee454a155cd526c9b6c365764c66d3f100310f99d24e6d", func := "beaconry/beaconrylaw16.InboxClears", spec := "inboxClears", inPlace := ["internal/bytealg.abigen_runtime_cmpstring"], unfollowed := true, recurses := true, apart := false }
def InboxClearsSaid : Prop := inboxClearsRow.holds Try.pinned (OpenSpec.ofChange inboxClearsSpec)

/-- ITS FALSE NEIGHBOUR: 'it returns false'. Refute it at one input. -/
def inboxClearsWrong : ChangeSpec := { name := "inboxClears", fn := fun _ => fun
  | [d1, d2] => { results := [.lit (.bool false)], args := [d1, d2] }
  | _ => none }
def InboxClearsWrongFalsely : Prop := inboxClearsRow.holds Try.pinned (OpenSpec.ofChange inboxClearsWrong)

/- THE SECOND FORM. 'bulk': how many values and letters a reading holds, each counted each time it is reached (what is shared counts as often as it is met; a slice's spare places count too). A statement '..UptoSaid' is the law's where the arguments, and the package variables that the reading takes, are together of bulk at most 1048576: NARROWER than '..Said'. Prove '..Said' where nothing that the law and all that it calls make is longer than what came in: it says more and counts as full. Else prove '..UptoSaid'. A law counts once. -/
mutual
def uptoBulk {H : Type} : DataW H → Nat
  | .lit (.string bytes) => bytes.length + 1
  | .lit _ => 1
  | .nil => 1
  | .ptr d => uptoBulk d + 1
  | .slice elems spare => uptoBulkAll elems + uptoBulkAll spare + 1
  | .agg parts => uptoBulkAll parts + 1
  | .iface _ d => uptoBulk d + 1
  | .map entries => uptoBulkEntries entries + 1
  | .held _ => 1
def uptoBulkAll {H : Type} : List (DataW H) → Nat
  | [] => 0
  | d :: r => uptoBulk d + uptoBulkAll r
def uptoBulkEntries {H : Type} : List (Lit × DataW H) → Nat
  | [] => 0
  | x :: r => uptoBulkEntry x + uptoBulkEntries r
def uptoBulkEntry {H : Type} : Lit × DataW H → Nat
  | (.string bytes, d) => bytes.length + uptoBulk d + 1
  | (_, d) => uptoBulk d + 1
 end
def uptoSmall : (H : Type) → List (DataW H) → Bool := fun _ ds => decide (uptoBulkAll ds ≤ 1048576)
def OpenSpec.upto (s : _root_.Go.ChangeSpec) : _root_.Go.OpenSpec := { _root_.Go.OpenSpec.ofChange s with cond := some uptoSmall }

/-- 'beaconrylaw16.InboxNewest', WHERE WHAT IT READS IS OF BULK AT MOST 1048576: true; the input reads as it did. -/
def inboxNewestUptoRow : OpenClaim := { program := "ytkfiepnkedcmgaa", sum := "cc7c9190ea9e667430ee454a155cd526c9b6c365764c66d3f100310f99d24e6d", func := "beaconry/beaconrylaw16.InboxNewest", spec := "inboxNewest", inPlace := ["internal/bytealg.abigen_runtime_cmpstring"], unfollowed := true, recurses := true, apart := false, narrowed := true }
def InboxNewestUptoSaid : Prop := inboxNewestUptoRow.holds Try.pinned (OpenSpec.upto inboxNewestSpec)

/-- 'beaconrylaw16.InboxOthers', WHERE WHAT IT READS IS OF BULK AT MOST 1048576: true; the input reads as it did. -/
def inboxOthersUptoRow : OpenClaim := { program := "ytkfiepnkedcmgaa", sum := "cc7c9190ea9e667430ee454a155cd526c9b6c365764c66d3f100310f99d24e6d", func := "beaconry/beaconrylaw16.InboxOthers", spec := "inboxOthers", inPlace := ["internal/bytealg.abigen_runtime_cmpstring"], unfollowed := true, recurses := true, apart := false, narrowed := true }
def InboxOthersUptoSaid : Prop := inboxOthersUptoRow.holds Try.pinned (OpenSpec.upto inboxOthersSpec)

/-- 'beaconrylaw16.InboxPlays', WHERE WHAT IT READS IS OF BULK AT MOST 1048576: true; the input reads as it did. -/
def inboxPlaysUptoRow : OpenClaim := { program := "ytkfiepnkedcmgaa", sum := "cc7c9190ea9e667430ee454a155cd526c9b6c365764c66d3f100310f99d24e6d", func := "beaconry/beaconrylaw16.InboxPlays", spec := "inboxPlays", inPlace := ["internal/bytealg.abigen_runtime_cmpstring"], unfollowed := true, recurses := true, loops := true, apart := false, narrowed := true }
def InboxPlaysUptoSaid : Prop := inboxPlaysUptoRow.holds Try.pinned (OpenSpec.upto inboxPlaysSpec)

/-- 'beaconrylaw16.InboxRows', WHERE WHAT IT READS IS OF BULK AT MOST 1048576: true; the input reads as it did. -/
def inboxRowsUptoRow : OpenClaim := { program := "ytkfiepnkedcmgaa", sum := "cc7c9190ea9e667430ee454a155cd526c9b6c365764c66d3f100310f99d24e6d", func := "beaconry/beaconrylaw16.InboxRows", spec := "inboxRows", inPlace := ["internal/bytealg.abigen_runtime_cmpstring"], unfollowed := true, recurses := true, apart := false, narrowed := true }
def InboxRowsUptoSaid : Prop := inboxRowsUptoRow.holds Try.pinned (OpenSpec.upto inboxRowsSpec)

/-- 'beaconrylaw16.InboxClears', WHERE WHAT IT READS IS OF BULK AT MOST 1048576: true; the input reads as it did. -/
def inboxClearsUptoRow : OpenClaim := { program := "ytkfiepnkedcmgaa", sum := "cc7c9190ea9e667430ee454a155cd526c9b6c365764c66d3f100310f99d24e6d", func := "beaconry/beaconrylaw16.InboxClears", spec := "inboxClears", inPlace := ["internal/bytealg.abigen_runtime_cmpstring"], unfollowed := true, recurses := true, apart := false, narrowed := true }
def InboxClearsUptoSaid : Prop := inboxClearsUptoRow.holds Try.pinned (OpenSpec.upto inboxClearsSpec)

end Rows
end Go.Proofs.Ytkfiepnkedcmgaa
