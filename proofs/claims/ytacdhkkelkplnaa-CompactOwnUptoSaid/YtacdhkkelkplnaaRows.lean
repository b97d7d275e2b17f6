/-
  No cell of these rows narrows 'for every input' (looked for: loops, veiled, ifaces, maps, wideKeys, modest, calm, conditions, laid).
  DERIVED. THE GIVEN ROWS OF THIS SEAT. 4 by the template 'for every input the law returns true; each argument reads behind the call as it read before'; 0 by the template 'total and deterministic' (their statements: YtacdhkkelkplnaaTotals.lean).
  GIVEN WITH THE SEED: the statements are not yours to turn. If you find one false, say at which input.
  Laid BY PROGRAM, IN A SANDBOX (cutbox-rows.mjs): the forced cells as the released guide's own fill.sh prints them over the translation f1564ea7b7b4b9c3… (all of the seat's roots in one cut). By AI agents, Wed Nov 11 2026. No macro, syntax, notation, axiom, sorry.
-/
import Derived.Test.YtacdhkkelkplnaaChecked
import GoSem.Claim
import GoSem.ClaimJoined
import GoSem.ClaimMapViews
import Derived.JoinedTies
import Derived.KernelRfl
namespace Go.Proofs.Ytacdhkkelkplnaa
/- THE CELL 'sum', in the pinned program and in every row, IS THE sha256 OF THE DUMP (.gsa) THAT YtacdhkkelkplnaaProg.lean LOADS. Nothing in Lean hashes anything: it is a label: what it is worth is what the hold of that sum in a sandbox is worth. -/
noncomputable def Try.pinned : Pinned := { name := "ytacdhkkelkplnaa", sum := "f1564ea7b7b4b9c383fb0ae833673aafa6403c914605bf3286da8eee26bf7b67", checked := Try.checked }
namespace Rows
def none {H : Type} : Left H := { results := [], args := [] }

/-- 'usancelaw14.CompactChecks': WHATEVER THE INPUT: true; the input reads as it did. -/
def compactChecksSpec : ChangeSpec := { name := "compactChecks", fn := fun _ => fun
  | [d] => { results := [.lit (.bool true)], args := [d] }
  | _ => none }
def compactChecksRow : OpenClaim := { program := "ytacdhkkelkplnaa", sum := "f1564ea7b7b4b9c383fb0ae833673aafa6403c914605bf3286da8eee26bf7b67", func := "usance/usancelaw14.CompactChecks", spec := "compactChecks", inPlace := ["internal/bytealg.Compare"], unfollowed := true, recurses := true, apart := false }
def CompactChecksSaid : Prop := compactChecksRow.holds Try.pinned (OpenSpec.ofChange compactChecksSpec)

/-- ITS FALSE NEIGHBOUR: 'it returns false'. Refute it at one input. -/
def compactChecksWrong : ChangeSpec := { name := "compactChecks", fn := fun _ => fun
  | [d] => { results := [.lit (.bool false)], args := [d] }
  | _ => none }
def CompactChecksWrongFalsely : Prop := compactChecksRow.holds Try.pinned (OpenSpec.ofChange compactChecksWrong)

/-- 'usancelaw14.CompactRuns': WHATEVER THE INPUT: true; the input reads as it did. -/
def compactRunsSpec : ChangeSpec := { name := "compactRuns", fn := fun _ => fun
  | [d1, d2] => { results := [.lit (.bool true)], args := [d1, d2] }
  | _ => none }
def compactRunsRow : OpenClaim := { program := "ytacdhkkelkplnaa", sum := "f1564ea7b7b4b9c383fb0ae833673aafa6403c914605bf3286da8eee26bf7b67", func := "usance/usancelaw14.CompactRuns", spec := "compactRuns", inPlace := ["internal/bytealg.Compare"], unfollowed := true, recurses := true, apart := false }
def CompactRunsSaid : Prop := compactRunsRow.holds Try.pinned (OpenSpec.ofChange compactRunsSpec)

/-- ITS FALSE NEIGHBOUR: 'it returns false'. Refute it at one input. -/
def compactRunsWrong : ChangeSpec := { name := "compactRuns", fn := fun _ => fun
  | [d1, d2] => { results := [.lit (.bool false)], args := [d1, d2] }
  | _ => none }
def CompactRunsWrongFalsely : Prop := compactRunsRow.holds Try.pinned (OpenSpec.ofChange compactRunsWrong)

/-- 'usancelaw14.CompactKeeps': WHATEVER THE INPUT: true; the input reads as it did. -/
def compactKeepsSpec : ChangeSpec := { name := "compactKeeps", fn := fun _ => fun
  | [d1, d2, d3] => { results := [.lit (.bool true)], args := [d1, d2, d3] }
  | _ => none }
def compactKeepsRow : OpenClaim := { program := "ytacdhkkelkplnaa", sum := "f1564ea7b7b4b9c383fb0ae833673aafa6403c914605bf3286da8eee26bf7b67", func := "usance/usancelaw14.CompactKeeps", spec := "compactKeeps", inPlace := ["internal/bytealg.Compare"], unfollowed := true, recurses := true, apart := false }
def CompactKeepsSaid : Prop := compactKeepsRow.holds Try.pinned (OpenSpec.ofChange compactKeepsSpec)

/-- ITS FALSE NEIGHBOUR: 'it returns false'. Refute it at one input. -/
def compactKeepsWrong : ChangeSpec := { name := "compactKeeps", fn := fun _ => fun
  | [d1, d2, d3] => { results := [.lit (.bool false)], args := [d1, d2, d3] }
  | _ => none }
def CompactKeepsWrongFalsely : Prop := compactKeepsRow.holds Try.pinned (OpenSpec.ofChange compactKeepsWrong)

/-- 'usancelaw14.CompactOwn': WHATEVER THE INPUT: true; the input reads as it did. -/
def compactOwnSpec : ChangeSpec := { name := "compactOwn", fn := fun _ => fun
  | [d1, d2, d3] => { results := [.lit (.bool true)], args := [d1, d2, d3] }
  | _ => none }
def compactOwnRow : OpenClaim := { program := "ytacdhkkelkplnaa", sum := "f1564ea7b7b4b9c383fb0ae833673aafa6403c914605bf3286da8eee26bf7b67", func := "usance/usancelaw14.CompactOwn", spec := "compactOwn", inPlace := ["internal/bytealg.Compare"], unfollowed := true, recurses := true, apart := false }
def CompactOwnSaid : Prop := compactOwnRow.holds Try.pinned (OpenSpec.ofChange compactOwnSpec)

/-- ITS FALSE NEIGHBOUR: 'it returns false'. Refute it at one input. -/
def compactOwnWrong : ChangeSpec := { name := "compactOwn", fn := fun _ => fun
  | [d1, d2, d3] => { results := [.lit (.bool false)], args := [d1, d2, d3] }
  | _ => none }
def CompactOwnWrongFalsely : Prop := compactOwnRow.holds Try.pinned (OpenSpec.ofChange compactOwnWrong)

/- THE SECOND FORM. 'bulk': how many values and letters a reading holds, each counted each time it is reached (what is shared counts as often as it is met; a slice's spare places count too). A statement '..UptoSaid' is the law's where the arguments, and the package variables that the reading takes, are together of bulk at most 1048576: NARROWER than '..Said'. Prove '..Said' where nothing that the law and all that it calls make is longer than what came in: it says more and counts as full. Else prove '..UptoSaid'. A law counts once. -/
mutual
def uptoBulk {H : Type} : DataW H → Nat
  | .lit (.string bytes) => bytes.length + 1
  | .lit _ => 1
  | .nil => 1
  | .ptr d => uptoBulk d + 1
  | .slice elems spare => uptoBulkAll elems + uptoBulkAll spare + 1
  | .agg parts => uptoBulkAll parts + 1
  | .iface _ d => uptoBulk d + 1
  | .map entries => uptoBulkEntries entries + 1
  | .held _ => 1
def uptoBulkAll {H : Type} : List (DataW H) → Nat
  | [] => 0
  | d :: r => uptoBulk d + uptoBulkAll r
def uptoBulkEntries {H : Type} : List (Lit × DataW H) → Nat
  | [] => 0
  | x :: r => uptoBulkEntry x + uptoBulkEntries r
def uptoBulkEntry {H : Type} : Lit × DataW H → Nat
  | (.string bytes, d) => bytes.length + uptoBulk d + 1
  | (_, d) => uptoBulk d + 1
 end
def uptoSmall : (H : Type) → List (DataW H) → Bool := fun _ ds => decide (uptoBulkAll ds ≤ 1048576)
def OpenSpec.upto (s : _root_.Go.ChangeSpec) : _root_.Go.OpenSpec := { _root_.Go.OpenSpec.ofChange s with cond := some uptoSmall }

/-- 'usancelaw14.CompactChecks', WHERE WHAT IT READS IS OF BULK AT MOST 1048576: true; the input reads as it did. -/
def compactChecksUptoRow : OpenClaim := { program := "ytacdhkkelkplnaa", sum := "f1564ea7b7b4b9c383fb0ae833673aafa6403c914605bf3286da8eee26bf7b67", func := "usance/usancelaw14.CompactChecks", spec := "compactChecks", inPlace := ["internal/bytealg.Compare"], unfollowed := true, recurses := true, apart := false, narrowed := true }
def CompactChecksUptoSaid : Prop := compactChecksUptoRow.holds Try.pinned (OpenSpec.upto compactChecksSpec)

/-- 'usancelaw14.CompactRuns', WHERE WHAT IT READS IS OF BULK AT MOST 1048576: true; the input reads as it did. -/
def compactRunsUptoRow : OpenClaim := { program := "ytacdhkkelkplnaa", sum := "f1564ea7b7b4b9c383fb0ae833673aafa6403c914605bf3286da8eee26bf7b67", func := "usance/usancelaw14.CompactRuns", spec := "compactRuns", inPlace := ["internal/bytealg.Compare"], unfollowed := true, recurses := true, apart := false, narrowed := true }
def CompactRunsUptoSaid : Prop := compactRunsUptoRow.holds Try.pinned (OpenSpec.upto compactRunsSpec)

/-- 'usancelaw14.CompactKeeps', WHERE WHAT IT READS IS OF BULK AT MOST 1048576: true; the input reads as it did. -/
def compactKeepsUptoRow : OpenClaim := { program := "ytacdhkkelkplnaa", sum := "f1564ea7b7b4b9c383fb0ae833673aafa6403c914605bf3286da8eee26bf7b67", func := "usance/usancelaw14.CompactKeeps", spec := "compactKeeps", inPlace := ["internal/bytealg.Compare"], unfollowed := true, recurses := true, apart := false, narrowed := true }
def CompactKeepsUptoSaid : Prop := compactKeepsUptoRow.holds Try.pinned (OpenSpec.upto compactKeepsSpec)

/-- 'usancelaw14.CompactOwn', WHERE WHAT IT READS IS OF BULK AT MOST 1048576: true; the input reads as it did. -/
def compactOwnUptoRow : OpenClaim := { program := "ytacdhkkelkplnaa", sum := "f1564ea7b7b4b9c383fb0ae833673aafa6403c914605bf3286da8eee26bf7b67", func := "usance/usancelaw14.CompactOwn", spec := "compactOwn", inPlace := ["internal/bytealg.Compare"], unfollowed := true, recurses := true, apart := false, narrowed := true }
def CompactOwnUptoSaid : Prop := compactOwnUptoRow.holds Try.pinned (OpenSpec.upto compactOwnSpec)

end Rows
end Go.Proofs.Ytacdhkkelkplnaa
