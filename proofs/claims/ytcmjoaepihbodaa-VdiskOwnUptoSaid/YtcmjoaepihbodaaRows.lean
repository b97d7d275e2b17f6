/-
  No cell of these rows narrows 'for every input' (looked for: loops, veiled, ifaces, maps, wideKeys, modest, calm, conditions, laid).
  DERIVED. THE GIVEN ROWS OF THIS SEAT. 5 by the template 'for every input the law returns true; each argument reads behind the call as it read before'; 0 by the template 'total and deterministic' (their statements: YtcmjoaepihbodaaTotals.lean).
  GIVEN WITH THE SEED: the statements are not yours to turn. If you find one false, say at which input.
  Laid BY PROGRAM, IN A SANDBOX (cutbox-rows.mjs): the forced cells as the released guide's own fill.sh prints them over the translation 197d0bb7d32458e3… (all of the seat's roots in one cut). By AI agents, Wed Nov 11 2026. No macro, syntax, notation, axiom, sorry.
-/
import Derived.Test.YtcmjoaepihbodaaChecked
import GoSem.Claim
import GoSem.ClaimJoined
import GoSem.ClaimMapViews
import Derived.JoinedTies
import Derived.KernelRfl
namespace Go.Proofs.Ytcmjoaepihbodaa
/- THE CELL 'sum', in the pinned program and in every row, IS THE sha256 OF THE DUMP (.gsa) THAT YtcmjoaepihbodaaProg.lean LOADS. Nothing in Lean hashes anything: it is a label: what it is worth is what the hold of that sum in a sandbox is worth. -/
noncomputable def Try.pinned : Pinned := { name := "ytcmjoaepihbodaa", sum := "197d0bb7d32458e3f292bf971edff42269592efc0d59d2973f7ed8ad9ef09295", checked := Try.checked }
namespace Rows
def none {H : Type} : Left H := { results := [], args := [] }

/-- 'usancelaw07.VdiskSurvives': WHATEVER THE INPUT: true; the input reads as it did. -/
def vdiskSurvivesSpec : ChangeSpec := { name := "vdiskSurvives", fn := fun _ => fun
  | [d1, d2] => { results := [.lit (.bool true)], args := [d1, d2] }
  | _ => none }
def vdiskSurvivesRow : OpenClaim := { program := "ytcmjoaepihbodaa", sum := "197d0bb7d32458e3f292bf971edff42269592efc0d59d2973f7ed8ad9ef09295", func := "usance/usancelaw07.VdiskSurvives", spec := "vdiskSurvives", unfollowed := true, recurses := true, apart := false }
def VdiskSurvivesSaid : Prop := vdiskSurvivesRow.holds Try.pinned (OpenSpec.ofChange vdiskSurvivesSpec)

/-- ITS FALSE NEIGHBOUR: 'it returns false'. Refute it at one input. -/
def vdiskSurvivesWrong : ChangeSpec := { name := "vdiskSurvives", fn := fun _ => fun
  | [d1, d2] => { results := [.lit (.bool false)], args := [d1, d2] }
  | _ => none }
def VdiskSurvivesWrongFalsely : Prop := vdiskSurvivesRow.holds Try.pinned (OpenSpec.ofChange vdiskSurvivesWrong)

/-- 'usancelaw07.VdiskOwn': WHATEVER THE INPUT: true; the input reads as it did. -/
def vdiskOwnSpec : ChangeSpec := { name := "vdiskOwn", fn := fun _ => fun
  | [d1, d2, d3] => { results := [.lit (.bool true)], args := [d1, d2, d3] }
  | _ => none }
def vdiskOwnRow : OpenClaim := { program := "ytcmjoaepihbodaa", sum := "197d0bb7d32458e3f292bf971edff42269592efc0d59d2973f7ed8ad9ef09295", func := "usance/usancelaw07.VdiskOwn", spec := "vdiskOwn", unfollowed := true, recurses := true, apart := false }
def VdiskOwnSaid : Prop := vdiskOwnRow.holds Try.pinned (OpenSpec.ofChange vdiskOwnSpec)

/-- ITS FALSE NEIGHBOUR: 'it returns false'. Refute it at one input. -/
def vdiskOwnWrong : ChangeSpec := { name := "vdiskOwn", fn := fun _ => fun
  | [d1, d2, d3] => { results := [.lit (.bool false)], args := [d1, d2, d3] }
  | _ => none }
def VdiskOwnWrongFalsely : Prop := vdiskOwnRow.holds Try.pinned (OpenSpec.ofChange vdiskOwnWrong)

/-- 'usancelaw07.VdiskCounts': WHATEVER THE INPUT: true; the input reads as it did. -/
def vdiskCountsSpec : ChangeSpec := { name := "vdiskCounts", fn := fun _ => fun
  | [d1, d2] => { results := [.lit (.bool true)], args := [d1, d2] }
  | _ => none }
def vdiskCountsRow : OpenClaim := { program := "ytcmjoaepihbodaa", sum := "197d0bb7d32458e3f292bf971edff42269592efc0d59d2973f7ed8ad9ef09295", func := "usance/usancelaw07.VdiskCounts", spec := "vdiskCounts", unfollowed := true, recurses := true, apart := false }
def VdiskCountsSaid : Prop := vdiskCountsRow.holds Try.pinned (OpenSpec.ofChange vdiskCountsSpec)

/-- ITS FALSE NEIGHBOUR: 'it returns false'. Refute it at one input. -/
def vdiskCountsWrong : ChangeSpec := { name := "vdiskCounts", fn := fun _ => fun
  | [d1, d2] => { results := [.lit (.bool false)], args := [d1, d2] }
  | _ => none }
def VdiskCountsWrongFalsely : Prop := vdiskCountsRow.holds Try.pinned (OpenSpec.ofChange vdiskCountsWrong)

/-- 'usancelaw07.VdiskNil': WHATEVER THE INPUT: true; the input reads as it did. -/
def vdiskNilSpec : ChangeSpec := { name := "vdiskNil", fn := fun _ => fun
  | [d1, d2] => { results := [.lit (.bool true)], args := [d1, d2] }
  | _ => none }
def vdiskNilRow : OpenClaim := { program := "ytcmjoaepihbodaa", sum := "197d0bb7d32458e3f292bf971edff42269592efc0d59d2973f7ed8ad9ef09295", func := "usance/usancelaw07.VdiskNil", spec := "vdiskNil", unfollowed := true, recurses := true, apart := false }
def VdiskNilSaid : Prop := vdiskNilRow.holds Try.pinned (OpenSpec.ofChange vdiskNilSpec)

/-- ITS FALSE NEIGHBOUR: 'it returns false'. Refute it at one input. -/
def vdiskNilWrong : ChangeSpec := { name := "vdiskNil", fn := fun _ => fun
  | [d1, d2] => { results := [.lit (.bool false)], args := [d1, d2] }
  | _ => none }
def VdiskNilWrongFalsely : Prop := vdiskNilRow.holds Try.pinned (OpenSpec.ofChange vdiskNilWrong)

/-- 'usancelaw07.VdiskPlays': WHATEVER THE INPUT: true; the input reads as it did. -/
def vdiskPlaysSpec : ChangeSpec := { name := "vdiskPlays", fn := fun _ => fun
  | [d1, d2, d3] => { results := [.lit (.bool true)], args := [d1, d2, d3] }
  | _ => none }
def vdiskPlaysRow : OpenClaim := { program := "ytcmjoaepihbodaa", sum := "197d0bb7d32458e3f292bf971edff42269592efc0d59d2973f7ed8ad9ef09295", func := "usance/usancelaw07.VdiskPlays", spec := "vdiskPlays", unfollowed := true, recurses := true, apart := false }
def VdiskPlaysSaid : Prop := vdiskPlaysRow.holds Try.pinned (OpenSpec.ofChange vdiskPlaysSpec)

/-- ITS FALSE NEIGHBOUR: 'it returns false'. Refute it at one input. -/
def vdiskPlaysWrong : ChangeSpec := { name := "vdiskPlays", fn := fun _ => fun
  | [d1, d2, d3] => { results := [.lit (.bool false)], args := [d1, d2, d3] }
  | _ => none }
def VdiskPlaysWrongFalsely : Prop := vdiskPlaysRow.holds Try.pinned (OpenSpec.ofChange vdiskPlaysWrong)

/- THE SECOND FORM. 'bulk': how many values and letters a reading holds, each counted each time it is reached (what is shared counts as often as it is met; a slice's spare places count too). A statement '..UptoSaid' is the law's where the arguments, and the package variables that the reading takes, are together of bulk at most 1048576: NARROWER than '..Said'. Prove '..Said' where nothing that the law and all that it calls make is longer than what came in: it says more and counts as full. Else prove '..UptoSaid'. A law counts once. -/
mutual
def uptoBulk {H : Type} : DataW H → Nat
  | .lit (.string bytes) => bytes.length + 1
  | .lit _ => 1
  | .nil => 1
  | .ptr d => uptoBulk d + 1
  | .slice elems spare => uptoBulkAll elems + uptoBulkAll spare + 1
  | .agg parts => uptoBulkAll parts + 1
  | .iface _ d => uptoBulk d + 1
  | .map entries => uptoBulkEntries entries + 1
  | .held _ => 1
def uptoBulkAll {H : Type} : List (DataW H) → Nat
  | [] => 0
  | d :: r => uptoBulk d + uptoBulkAll r
def uptoBulkEntries {H : Type} : List (Lit × DataW H) → Nat
  | [] => 0
  | x :: r => uptoBulkEntry x + uptoBulkEntries r
def uptoBulkEntry {H : Type} : Lit × DataW H → Nat
  | (.string bytes, d) => bytes.length + uptoBulk d + 1
  | (_, d) => uptoBulk d + 1
 end
def uptoSmall : (H : Type) → List (DataW H) → Bool := fun _ ds => decide (uptoBulkAll ds ≤ 1048576)
def OpenSpec.upto (s : _root_.Go.ChangeSpec) : _root_.Go.OpenSpec := { _root_.Go.OpenSpec.ofChange s with cond := some uptoSmall }

/-- 'usancelaw07.VdiskSurvives', WHERE WHAT IT READS IS OF BULK AT MOST 1048576: true; the input reads as it did. -/
def vdiskSurvivesUptoRow : OpenClaim := { program := "ytcmjoaepihbodaa", sum := "197d0bb7d32458e3f292bf971edff42269592efc0d59d2973f7ed8ad9ef09295", func := "usance/usancelaw07.VdiskSurvives", spec := "vdiskSurvives", unfollowed := true, recurses := true, apart := false, narrowed := true }
def VdiskSurvivesUptoSaid : Prop := vdiskSurvivesUptoRow.holds Try.pinned (OpenSpec.upto vdiskSurvivesSpec)

/-- 'usancelaw07.VdiskOwn', WHERE WHAT IT READS IS OF BULK AT MOST 1048576: true; the input reads as it did. -/
def vdiskOwnUptoRow : OpenClaim := { program := "ytcmjoaepihbodaa", sum := "197d0bb7d32458e3f292bf971edff42269592efc0d59d2973f7ed8ad9ef09295", func := "usance/usancelaw07.VdiskOwn", spec := "vdiskOwn", unfollowed := true, recurses := true, apart := false, narrowed := true }
def VdiskOwnUptoSaid : Prop := vdiskOwnUptoRow.holds Try.pinned (OpenSpec.upto vdiskOwnSpec)

/-- 'usancelaw07.VdiskCounts', WHERE WHAT IT READS IS OF BULK AT MOST 1048576: true; the input reads as it did. -/
def vdiskCountsUptoRow : OpenClaim := { program := "ytcmjoaepihbodaa", sum := "197d0bb7d32458e3f292bf971edff42269592efc0d59d2973f7ed8ad9ef09295", func := "usance/usancelaw07.VdiskCounts", spec := "vdiskCounts", unfollowed := true, recurses := true, apart := false, narrowed := true }
def VdiskCountsUptoSaid : Prop := vdiskCountsUptoRow.holds Try.pinned (OpenSpec.upto vdiskCountsSpec)

/-- 'usancelaw07.VdiskNil', WHERE WHAT IT READS IS OF BULK AT MOST 1048576: true; the input reads as it did. -/
def vdiskNilUptoRow : OpenClaim := { program := "ytcmjoaepihbodaa", sum := "197d0bb7d32458e3f292bf971edff42269592efc0d59d2973f7ed8ad9ef09295", func := "usance/usancelaw07.VdiskNil", spec := "vdiskNil", unfollowed := true, recurses := true, apart := false, narrowed := true }
def VdiskNilUptoSaid : Prop := vdiskNilUptoRow.holds Try.pinned (OpenSpec.upto vdiskNilSpec)

/-- 'usancelaw07.VdiskPlays', WHERE WHAT IT READS IS OF BULK AT MOST 1048576: true; the input reads as it did. -/
def vdiskPlaysUptoRow : OpenClaim := { program := "ytcmjoaepihbodaa", sum := "197d0bb7d32458e3f292bf971edff42269592efc0d59d2973f7ed8ad9ef09295", func := "usance/usancelaw07.VdiskPlays", spec := "vdiskPlays", unfollowed := true, recurses := true, apart := false, narrowed := true }
def VdiskPlaysUptoSaid : Prop := vdiskPlaysUptoRow.holds Try.pinned (OpenSpec.upto vdiskPlaysSpec)

end Rows
end Go.Proofs.Ytcmjoaepihbodaa
