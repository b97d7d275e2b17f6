/-
  No cell of these rows narrows 'for every input' (looked for: loops, veiled, ifaces, maps, wideKeys, modest, calm, conditions, laid).
  DERIVED. THE GIVEN ROWS OF THIS SEAT. 8 by the template 'for every input the law returns true; each argument reads behind the call as it read before'; 0 by the template 'total and deterministic' (their statements: YtelbidknefkaiaaTotals.lean).
  GIVEN WITH THE SEED: the statements are not yours to turn. If you find one false, say at which input.
  Laid BY PROGRAM, IN A SANDBOX (cutbox-rows.mjs): the forced cells as the released guide's own fill.sh prints them over the translation 0d96a3f1bde98904… (all of the seat's roots in one cut). By AI agents, Wed Nov 11 2026. No macro, syntax, notation, axiom, sorry.
-/
import Derived.Test.YtelbidknefkaiaaChecked
import GoSem.Claim
import GoSem.ClaimJoined
import GoSem.ClaimMapViews
import Derived.JoinedTies
import Derived.KernelRfl
namespace Go.Proofs.Ytelbidknefkaiaa
/- THE CELL 'sum', in the pinned program and in every row, IS THE sha256 OF THE DUMP (.gsa) THAT YtelbidknefkaiaaProg.lean LOADS. Nothing in Lean hashes anything: it is a label: what it is worth is what the hold of that sum in a sandbox is worth. -/
noncomputable def Try.pinned : Pinned := { name := "ytelbidknefkaiaa", sum := "0d96a3f1bde98904aec44bd76e738193844259657e8e3d2823ea140cfb14b7e4", checked := Try.checked }
namespace Rows
def none {H : Type} : Left H := { results := [], args := [] }

/-- 'usancelaw11.MemtableNil': WHATEVER THE INPUT: true; the input reads as it did. -/
def memtableNilSpec : ChangeSpec := { name := "memtableNil", fn := fun _ => fun
  | [d1, d2] => { results := [.lit (.bool true)], args := [d1, d2] }
  | _ => none }
def memtableNilRow : OpenClaim := { program := "ytelbidknefkaiaa", sum := "0d96a3f1bde98904aec44bd76e738193844259657e8e3d2823ea140cfb14b7e4", func := "usance/usancelaw11.MemtableNil", spec := "memtableNil", inPlace := ["internal/bytealg.Compare"], unfollowed := true, recurses := true, apart := false }
def MemtableNilSaid : Prop := memtableNilRow.holds Try.pinned (OpenSpec.ofChange memtableNilSpec)

/-- ITS FALSE NEIGHBOUR: 'it returns false'. Refute it at one input. -/
def memtableNilWrong : ChangeSpec := { name := "memtableNil", fn := fun _ => fun
  | [d1, d2] => { results := [.lit (.bool false)], args := [d1, d2] }
  | _ => none }
def MemtableNilWrongFalsely : Prop := memtableNilRow.holds Try.pinned (OpenSpec.ofChange memtableNilWrong)

/-- 'usancelaw11.MemtableOwn': WHATEVER THE INPUT: true; the input reads as it did. -/
def memtableOwnSpec : ChangeSpec := { name := "memtableOwn", fn := fun _ => fun
  | [d1, d2] => { results := [.lit (.bool true)], args := [d1, d2] }
  | _ => none }
def memtableOwnRow : OpenClaim := { program := "ytelbidknefkaiaa", sum := "0d96a3f1bde98904aec44bd76e738193844259657e8e3d2823ea140cfb14b7e4", func := "usance/usancelaw11.MemtableOwn", spec := "memtableOwn", inPlace := ["internal/bytealg.Compare"], unfollowed := true, recurses := true, apart := false }
def MemtableOwnSaid : Prop := memtableOwnRow.holds Try.pinned (OpenSpec.ofChange memtableOwnSpec)

/-- ITS FALSE NEIGHBOUR: 'it returns false'. Refute it at one input. -/
def memtableOwnWrong : ChangeSpec := { name := "memtableOwn", fn := fun _ => fun
  | [d1, d2] => { results := [.lit (.bool false)], args := [d1, d2] }
  | _ => none }
def MemtableOwnWrongFalsely : Prop := memtableOwnRow.holds Try.pinned (OpenSpec.ofChange memtableOwnWrong)

/-- 'usancelaw12.MergeMerges': WHATEVER THE INPUT: true; the input reads as it did. -/
def mergeMergesSpec : ChangeSpec := { name := "mergeMerges", fn := fun _ => fun
  | [d] => { results := [.lit (.bool true)], args := [d] }
  | _ => none }
def mergeMergesRow : OpenClaim := { program := "ytelbidknefkaiaa", sum := "0d96a3f1bde98904aec44bd76e738193844259657e8e3d2823ea140cfb14b7e4", func := "usance/usancelaw12.MergeMerges", spec := "mergeMerges", inPlace := ["internal/bytealg.Compare"], unfollowed := true, recurses := true, apart := false }
def MergeMergesSaid : Prop := mergeMergesRow.holds Try.pinned (OpenSpec.ofChange mergeMergesSpec)

/-- ITS FALSE NEIGHBOUR: 'it returns false'. Refute it at one input. -/
def mergeMergesWrong : ChangeSpec := { name := "mergeMerges", fn := fun _ => fun
  | [d] => { results := [.lit (.bool false)], args := [d] }
  | _ => none }
def MergeMergesWrongFalsely : Prop := mergeMergesRow.holds Try.pinned (OpenSpec.ofChange mergeMergesWrong)

/-- 'usancelaw12.MergeVisible': WHATEVER THE INPUT: true; the input reads as it did. -/
def mergeVisibleSpec : ChangeSpec := { name := "mergeVisible", fn := fun _ => fun
  | [d1, d2] => { results := [.lit (.bool true)], args := [d1, d2] }
  | _ => none }
def mergeVisibleRow : OpenClaim := { program := "ytelbidknefkaiaa", sum := "0d96a3f1bde98904aec44bd76e738193844259657e8e3d2823ea140cfb14b7e4", func := "usance/usancelaw12.MergeVisible", spec := "mergeVisible", inPlace := ["internal/bytealg.Compare"], unfollowed := true, recurses := true, apart := false }
def MergeVisibleSaid : Prop := mergeVisibleRow.holds Try.pinned (OpenSpec.ofChange mergeVisibleSpec)

/-- ITS FALSE NEIGHBOUR: 'it returns false'. Refute it at one input. -/
def mergeVisibleWrong : ChangeSpec := { name := "mergeVisible", fn := fun _ => fun
  | [d1, d2] => { results := [.lit (.bool false)], args := [d1, d2] }
  | _ => none }
def MergeVisibleWrongFalsely : Prop := mergeVisibleRow.holds Try.pinned (OpenSpec.ofChange mergeVisibleWrong)

/-- 'usancelaw12.MergeThins': WHATEVER THE INPUT: true; the input reads as it did. -/
def mergeThinsSpec : ChangeSpec := { name := "mergeThins", fn := fun _ => fun
  | [d1, d2, d3] => { results := [.lit (.bool true)], args := [d1, d2, d3] }
  | _ => none }
def mergeThinsRow : OpenClaim := { program := "ytelbidknefkaiaa", sum := "0d96a3f1bde98904aec44bd76e738193844259657e8e3d2823ea140cfb14b7e4", func := "usance/usancelaw12.MergeThins", spec := "mergeThins", inPlace := ["internal/bytealg.Compare"], unfollowed := true, recurses := true, apart := false }
def MergeThinsSaid : Prop := mergeThinsRow.holds Try.pinned (OpenSpec.ofChange mergeThinsSpec)

/-- ITS FALSE NEIGHBOUR: 'it returns false'. Refute it at one input. -/
def mergeThinsWrong : ChangeSpec := { name := "mergeThins", fn := fun _ => fun
  | [d1, d2, d3] => { results := [.lit (.bool false)], args := [d1, d2, d3] }
  | _ => none }
def MergeThinsWrongFalsely : Prop := mergeThinsRow.holds Try.pinned (OpenSpec.ofChange mergeThinsWrong)

/-- 'usancelaw12.MergeKeeps': WHATEVER THE INPUT: true; the input reads as it did. -/
def mergeKeepsSpec : ChangeSpec := { name := "mergeKeeps", fn := fun _ => fun
  | [d1, d2, d3] => { results := [.lit (.bool true)], args := [d1, d2, d3] }
  | _ => none }
def mergeKeepsRow : OpenClaim := { program := "ytelbidknefkaiaa", sum := "0d96a3f1bde98904aec44bd76e738193844259657e8e3d2823ea140cfb14b7e4", func := "usance/usancelaw12.MergeKeeps", spec := "mergeKeeps", inPlace := ["internal/bytealg.Compare"], unfollowed := true, recurses := true, apart := false }
def MergeKeepsSaid : Prop := mergeKeepsRow.holds Try.pinned (OpenSpec.ofChange mergeKeepsSpec)

/-- ITS FALSE NEIGHBOUR: 'it returns false'. Refute it at one input. -/
def mergeKeepsWrong : ChangeSpec := { name := "mergeKeeps", fn := fun _ => fun
  | [d1, d2, d3] => { results := [.lit (.bool false)], args := [d1, d2, d3] }
  | _ => none }
def MergeKeepsWrongFalsely : Prop := mergeKeepsRow.holds Try.pinned (OpenSpec.ofChange mergeKeepsWrong)

/-- 'usancelaw12.MergeParts': WHATEVER THE INPUT: true; the input reads as it did. -/
def mergePartsSpec : ChangeSpec := { name := "mergeParts", fn := fun _ => fun
  | [d1, d2] => { results := [.lit (.bool true)], args := [d1, d2] }
  | _ => none }
def mergePartsRow : OpenClaim := { program := "ytelbidknefkaiaa", sum := "0d96a3f1bde98904aec44bd76e738193844259657e8e3d2823ea140cfb14b7e4", func := "usance/usancelaw12.MergeParts", spec := "mergeParts", inPlace := ["internal/bytealg.Compare"], unfollowed := true, recurses := true, apart := false }
def MergePartsSaid : Prop := mergePartsRow.holds Try.pinned (OpenSpec.ofChange mergePartsSpec)

/-- ITS FALSE NEIGHBOUR: 'it returns false'. Refute it at one input. -/
def mergePartsWrong : ChangeSpec := { name := "mergeParts", fn := fun _ => fun
  | [d1, d2] => { results := [.lit (.bool false)], args := [d1, d2] }
  | _ => none }
def MergePartsWrongFalsely : Prop := mergePartsRow.holds Try.pinned (OpenSpec.ofChange mergePartsWrong)

/-- 'usancelaw12.MergeOwn': WHATEVER THE INPUT: true; the input reads as it did. -/
def mergeOwnSpec : ChangeSpec := { name := "mergeOwn", fn := fun _ => fun
  | [d1, d2] => { results := [.lit (.bool true)], args := [d1, d2] }
  | _ => none }
def mergeOwnRow : OpenClaim := { program := "ytelbidknefkaiaa", sum := "0d96a3f1bde98904aec44bd76e738193844259657e8e3d2823ea140cfb14b7e4", func := "usance/usancelaw12.MergeOwn", spec := "mergeOwn", inPlace := ["internal/bytealg.Compare"], unfollowed := true, recurses := true, apart := false }
def MergeOwnSaid : Prop := mergeOwnRow.holds Try.pinned (OpenSpec.ofChange mergeOwnSpec)

/-- ITS FALSE NEIGHBOUR: 'it returns false'. Refute it at one input. -/
def mergeOwnWrong : ChangeSpec := { name := "mergeOwn", fn := fun _ => fun
  | [d1, d2] => { results := [.lit (.bool false)], args := [d1, d2] }
  | _ => none }
def MergeOwnWrongFalsely : Prop := mergeOwnRow.holds Try.pinned (OpenSpec.ofChange mergeOwnWrong)

/- THE SECOND FORM. 'bulk': how many values and letters a reading holds, each counted each time it is reached (what is shared counts as often as it is met; a slice's spare places count too). A statement '..UptoSaid' is the law's where the arguments, and the package variables that the reading takes, are together of bulk at most 1048576: NARROWER than '..Said'. Prove '..Said' where nothing that the law and all that it calls make is longer than what came in: it says more and counts as full. Else prove '..UptoSaid'. A law counts once. -/
mutual
def uptoBulk {H : Type} : DataW H → Nat
  | .lit (.string bytes) => bytes.length + 1
  | .lit _ => 1
  | .nil => 1
  | .ptr d => uptoBulk d + 1
  | .slice elems spare => uptoBulkAll elems + uptoBulkAll spare + 1
  | .agg parts => uptoBulkAll parts + 1
  | .iface _ d => uptoBulk d + 1
  | .map entries => uptoBulkEntries entries + 1
  | .held _ => 1
def uptoBulkAll {H : Type} : List (DataW H) → Nat
  | [] => 0
  | d :: r => uptoBulk d + uptoBulkAll r
def uptoBulkEntries {H : Type} : List (Lit × DataW H) → Nat
  | [] => 0
  | x :: r => uptoBulkEntry x + uptoBulkEntries r
def uptoBulkEntry {H : Type} : Lit × DataW H → Nat
  | (.string bytes, d) => bytes.length + uptoBulk d + 1
  | (_, d) => uptoBulk d + 1
 end
def uptoSmall : (H : Type) → List (DataW H) → Bool := fun _ ds => decide (uptoBulkAll ds ≤ 1048576)
def OpenSpec.upto (s : _root_.Go.ChangeSpec) : _root_.Go.OpenSpec := { _root_.Go.OpenSpec.ofChange s with cond := some uptoSmall }

/-- 'usancelaw11.MemtableNil', WHERE WHAT IT READS IS OF BULK AT MOST 1048576: true; the input reads as it did. -/
def memtableNilUptoRow : OpenClaim := { program := "ytelbidknefkaiaa", sum := "0d96a3f1bde98904aec44bd76e738193844259657e8e3d2823ea140cfb14b7e4", func := "usance/usancelaw11.MemtableNil", spec := "memtableNil", inPlace := ["internal/bytealg.Compare"], unfollowed := true, recurses := true, apart := false, narrowed := true }
def MemtableNilUptoSaid : Prop := memtableNilUptoRow.holds Try.pinned (OpenSpec.upto memtableNilSpec)

/-- 'usancelaw11.MemtableOwn', WHERE WHAT IT READS IS OF BULK AT MOST 1048576: true; the input reads as it did. -/
def memtableOwnUptoRow : OpenClaim := { program := "ytelbidknefkaiaa", sum := "0d96a3f1bde98904aec44bd76e738193844259657e8e3d2823ea140cfb14b7e4", func := "usance/usancelaw11.MemtableOwn", spec := "memtableOwn", inPlace := ["internal/bytealg.Compare"], unfollowed := true, recurses := true, apart := false, narrowed := true }
def MemtableOwnUptoSaid : Prop := memtableOwnUptoRow.holds Try.pinned (OpenSpec.upto memtableOwnSpec)

/-- 'usancelaw12.MergeMerges', WHERE WHAT IT READS IS OF BULK AT MOST 1048576: true; the input reads as it did. -/
def mergeMergesUptoRow : OpenClaim := { program := "ytelbidknefkaiaa", sum := "0d96a3f1bde98904aec44bd76e738193844259657e8e3d2823ea140cfb14b7e4", func := "usance/usancelaw12.MergeMerges", spec := "mergeMerges", inPlace := ["internal/bytealg.Compare"], unfollowed := true, recurses := true, apart := false, narrowed := true }
def MergeMergesUptoSaid : Prop := mergeMergesUptoRow.holds Try.pinned (OpenSpec.upto mergeMergesSpec)

/-- 'usancelaw12.MergeVisible', WHERE WHAT IT READS IS OF BULK AT MOST 1048576: true; the input reads as it did. -/
def mergeVisibleUptoRow : OpenClaim := { program := "ytelbidknefkaiaa", sum := "0d96a3f1bde98904aec44bd76e738193844259657e8e3d2823ea140cfb14b7e4", func := "usance/usancelaw12.MergeVisible", spec := "mergeVisible", inPlace := ["internal/bytealg.Compare"], unfollowed := true, recurses := true, apart := false, narrowed := true }
def MergeVisibleUptoSaid : Prop := mergeVisibleUptoRow.holds Try.pinned (OpenSpec.upto mergeVisibleSpec)

/-- 'usancelaw12.MergeThins', WHERE WHAT IT READS IS OF BULK AT MOST 1048576: true; the input reads as it did. -/
def mergeThinsUptoRow : OpenClaim := { program := "ytelbidknefkaiaa", sum := "0d96a3f1bde98904aec44bd76e738193844259657e8e3d2823ea140cfb14b7e4", func := "usance/usancelaw12.MergeThins", spec := "mergeThins", inPlace := ["internal/bytealg.Compare"], unfollowed := true, recurses := true, apart := false, narrowed := true }
def MergeThinsUptoSaid : Prop := mergeThinsUptoRow.holds Try.pinned (OpenSpec.upto mergeThinsSpec)

/-- 'usancelaw12.MergeKeeps', WHERE WHAT IT READS IS OF BULK AT MOST 1048576: true; the input reads as it did. -/
def mergeKeepsUptoRow : OpenClaim := { program := "ytelbidknefkaiaa", sum := "0d96a3f1bde98904aec44bd76e738193844259657e8e3d2823ea140cfb14b7e4", func := "usance/usancelaw12.MergeKeeps", spec := "mergeKeeps", inPlace := ["internal/bytealg.Compare"], unfollowed := true, recurses := true, apart := false, narrowed := true }
def MergeKeepsUptoSaid : Prop := mergeKeepsUptoRow.holds Try.pinned (OpenSpec.upto mergeKeepsSpec)

/-- 'usancelaw12.MergeParts', WHERE WHAT IT READS IS OF BULK AT MOST 1048576: true; the input reads as it did. -/
def mergePartsUptoRow : OpenClaim := { program := "ytelbidknefkaiaa", sum := "0d96a3f1bde98904aec44bd76e738193844259657e8e3d2823ea140cfb14b7e4", func := "usance/usancelaw12.MergeParts", spec := "mergeParts", inPlace := ["internal/bytealg.Compare"], unfollowed := true, recurses := true, apart := false, narrowed := true }
def MergePartsUptoSaid : Prop := mergePartsUptoRow.holds Try.pinned (OpenSpec.upto mergePartsSpec)

/-- 'usancelaw12.MergeOwn', WHERE WHAT IT READS IS OF BULK AT MOST 1048576: true; the input reads as it did. -/
def mergeOwnUptoRow : OpenClaim := { program := "ytelbidknefkaiaa", sum := "0d96a3f1bde98904aec44bd76e738193844259657e8e3d2823ea140cfb14b7e4", func := "usance/usancelaw12.MergeOwn", spec := "mergeOwn", inPlace := ["internal/bytealg.Compare"], unfollowed := true, recurses := true, apart := false, narrowed := true }
def MergeOwnUptoSaid : Prop := mergeOwnUptoRow.holds Try.pinned (OpenSpec.upto mergeOwnSpec)

end Rows
end Go.Proofs.Ytelbidknefkaiaa
