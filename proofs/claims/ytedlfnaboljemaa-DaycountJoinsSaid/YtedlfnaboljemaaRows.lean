/-
  No cell of these rows narrows 'for every input' (looked for: loops, veiled, ifaces, maps, wideKeys, modest, calm, conditions, laid).
  DERIVED. THE GIVEN ROWS OF THIS SEAT. 3 by the template 'for every input the law returns true; each argument reads behind the call as it read before'; 0 by the template 'total and deterministic' (their statements: YtedlfnaboljemaaTotals.lean).
  GIVEN WITH THE SEED: the statements are not yours to turn. If you find one false, say at which input.
  Laid BY PROGRAM, IN A SANDBOX (cutbox-rows.mjs): the forced cells as the released guide's own fill.sh prints them over the translation 508019959aa6cf4b… (all of the seat's roots in one cut). By AI agents, Wed Nov 11 2026. No macro, syntax, notation, axiom, sorry.
-/
import Derived.Test.YtedlfnaboljemaaChecked
import GoSem.Claim
import GoSem.ClaimJoined
import GoSem.ClaimMapViews
import Derived.JoinedTies
import Derived.KernelRfl
namespace Go.Proofs.Ytedlfnaboljemaa
/- THE CELL 'sum', in the pinned program and in every row, IS THE sha256 OF THE DUMP (.gsa) THAT YtedlfnaboljemaaProg.lean LOADS. Nothing in Lean hashes anything: it is a label: what it is worth is what the hold of that sum in a sandbox is worth. -/
noncomputable def Try.pinned : Pinned := { name := "ytedlfnaboljemaa", sum := "508019959aa6cf4b04dd3b80c57eb243fc67a197d5a1f6973a52850c0905b66c", checked := Try.checked }
namespace Rows
def none {H : Type} : Left H := { results := [], args := [] }

/-- 'usancelaw03.DaycountCounts': WHATEVER THE INPUT: true; the input reads as it did. -/
def daycountCountsSpec : ChangeSpec := { name := "daycountCounts", fn := fun _ => fun
  | [d1, d2, d3] => { results := [.lit (.bool true)], args := [d1, d2, d3] }
  | _ => none }
def daycountCountsRow : OpenClaim := { program := "ytedlfnaboljemaa", sum := "508019959aa6cf4b04dd3b80c57eb243fc67a197d5a1f6973a52850c0905b66c", func := "usance/usancelaw03.DaycountCounts", spec := "daycountCounts", unfollowed := true, recurses := true, apart := false }
def DaycountCountsSaid : Prop := daycountCountsRow.holds Try.pinned (OpenSpec.ofChange daycountCountsSpec)

/-- ITS FALSE NEIGHBOUR: 'it returns false'. Refute it at one input. -/
def daycountCountsWrong : ChangeSpec := { name := "daycountCounts", fn := fun _ => fun
  | [d1, d2, d3] => { results := [.lit (.bool false)], args := [d1, d2, d3] }
  | _ => none }
def DaycountCountsWrongFalsely : Prop := daycountCountsRow.holds Try.pinned (OpenSpec.ofChange daycountCountsWrong)

/-- 'usancelaw03.DaycountDues': WHATEVER THE INPUT: true; the input reads as it did. -/
def daycountDuesSpec : ChangeSpec := { name := "daycountDues", fn := fun _ => fun
  | [d1, d2, d3] => { results := [.lit (.bool true)], args := [d1, d2, d3] }
  | _ => none }
def daycountDuesRow : OpenClaim := { program := "ytedlfnaboljemaa", sum := "508019959aa6cf4b04dd3b80c57eb243fc67a197d5a1f6973a52850c0905b66c", func := "usance/usancelaw03.DaycountDues", spec := "daycountDues", unfollowed := true, recurses := true, apart := false }
def DaycountDuesSaid : Prop := daycountDuesRow.holds Try.pinned (OpenSpec.ofChange daycountDuesSpec)

/-- ITS FALSE NEIGHBOUR: 'it returns false'. Refute it at one input. -/
def daycountDuesWrong : ChangeSpec := { name := "daycountDues", fn := fun _ => fun
  | [d1, d2, d3] => { results := [.lit (.bool false)], args := [d1, d2, d3] }
  | _ => none }
def DaycountDuesWrongFalsely : Prop := daycountDuesRow.holds Try.pinned (OpenSpec.ofChange daycountDuesWrong)

/-- 'usancelaw03.DaycountJoins': WHATEVER THE INPUT: true; the input reads as it did. -/
def daycountJoinsSpec : ChangeSpec := { name := "daycountJoins", fn := fun _ => fun
  | [d1, d2] => { results := [.lit (.bool true)], args := [d1, d2] }
  | _ => none }
def daycountJoinsRow : OpenClaim := { program := "ytedlfnaboljemaa", sum := "508019959aa6cf4b04dd3b80c57eb243fc67a197d5a1f6973a52850c0905b66c", func := "usance/usancelaw03.DaycountJoins", spec := "daycountJoins", unfollowed := true, recurses := true, apart := false }
def DaycountJoinsSaid : Prop := daycountJoinsRow.holds Try.pinned (OpenSpec.ofChange daycountJoinsSpec)

/-- ITS FALSE NEIGHBOUR: 'it returns false'. Refute it at one input. -/
def daycountJoinsWrong : ChangeSpec := { name := "daycountJoins", fn := fun _ => fun
  | [d1, d2] => { results := [.lit (.bool false)], args := [d1, d2] }
  | _ => none }
def DaycountJoinsWrongFalsely : Prop := daycountJoinsRow.holds Try.pinned (OpenSpec.ofChange daycountJoinsWrong)

/- THE SECOND FORM. 'bulk': how many values and letters a reading holds, each counted each time it is reached (what is shared counts as often as it is met; a slice's spare places count too). A statement '..UptoSaid' is the law's where the arguments, and the package variables that the reading takes, are together of bulk at most 1048576: NARROWER than '..Said'. Prove '..Said' where nothing that the law and all that it calls make is longer than what came in: it says more and counts as full. Else prove '..UptoSaid'. A law counts once. -/
mutual
def uptoBulk {H : Type} : DataW H → Nat
  | .lit (.string bytes) => bytes.length + 1
  | .lit _ => 1
  | .nil => 1
  | .ptr d => uptoBulk d + 1
  | .slice elems spare => uptoBulkAll elems + uptoBulkAll spare + 1
  | .agg parts => uptoBulkAll parts + 1
  | .iface _ d => uptoBulk d + 1
  | .map entries => uptoBulkEntries entries + 1
  | .held _ => 1
def uptoBulkAll {H : Type} : List (DataW H) → Nat
  | [] => 0
  | d :: r => uptoBulk d + uptoBulkAll r
def uptoBulkEntries {H : Type} : List (Lit × DataW H) → Nat
  | [] => 0
  | x :: r => uptoBulkEntry x + uptoBulkEntries r
def uptoBulkEntry {H : Type} : Lit × DataW H → Nat
  | (.string bytes, d) => bytes.length + uptoBulk d + 1
  | (_, d) => uptoBulk d + 1
 end
def uptoSmall : (H : Type) → List (DataW H) → Bool := fun _ ds => decide (uptoBulkAll ds ≤ 1048576)
def OpenSpec.upto (s : _root_.Go.ChangeSpec) : _root_.Go.OpenSpec := { _root_.Go.OpenSpec.ofChange s with cond := some uptoSmall }

/-- 'usancelaw03.DaycountCounts', WHERE WHAT IT READS IS OF BULK AT MOST 1048576: true; the input reads as it did. -/
def daycountCountsUptoRow : OpenClaim := { program := "ytedlfnaboljemaa", sum := "508019959aa6cf4b04dd3b80c57eb243fc67a197d5a1f6973a52850c0905b66c", func := "usance/usancelaw03.DaycountCounts", spec := "daycountCounts", unfollowed := true, recurses := true, apart := false, narrowed := true }
def DaycountCountsUptoSaid : Prop := daycountCountsUptoRow.holds Try.pinned (OpenSpec.upto daycountCountsSpec)

/-- 'usancelaw03.DaycountDues', WHERE WHAT IT READS IS OF BULK AT MOST 1048576: true; the input reads as it did. -/
def daycountDuesUptoRow : OpenClaim := { program := "ytedlfnaboljemaa", sum := "508019959aa6cf4b04dd3b80c57eb243fc67a197d5a1f6973a52850c0905b66c", func := "usance/usancelaw03.DaycountDues", spec := "daycountDues", unfollowed := true, recurses := true, apart := false, narrowed := true }
def DaycountDuesUptoSaid : Prop := daycountDuesUptoRow.holds Try.pinned (OpenSpec.upto daycountDuesSpec)

/-- 'usancelaw03.DaycountJoins', WHERE WHAT IT READS IS OF BULK AT MOST 1048576: true; the input reads as it did. -/
def daycountJoinsUptoRow : OpenClaim := { program := "ytedlfnaboljemaa", sum := "508019959aa6cf4b04dd3b80c57eb243fc67a197d5a1f6973a52850c0905b66c", func := "usance/usancelaw03.DaycountJoins", spec := "daycountJoins", unfollowed := true, recurses := true, apart := false, narrowed := true }
def DaycountJoinsUptoSaid : Prop := daycountJoinsUptoRow.holds Try.pinned (OpenSpec.upto daycountJoinsSpec)

end Rows
end Go.Proofs.Ytedlfnaboljemaa
